/- Lemmas on the way to the statement of this claim; no conditions. -/
import Derived.ArgAppend
import Derived.Test.YtjidblndipcofaaDoorA10
namespace Go.V
open Go Go.RowKit
def srcT (s : Sg) (k : Nat) : V → Option (List T)
  | .t (.sl k' cs) => if k' = k then some cs else none
  | .t (.v (.slice none 0 0)) => some []
  | .loc n off len => match s.m n with
    | some (.arr k' _ cs) => if k' = k ∧ off + len * k ≤ cs.length then some ((cs.drop off).take (len * k)) else none
    | _ => none
  | _ => none
def dstT (s : Sg) (k : Nat) (el : TypeId) : V → Option (List T × Sg)
  | .t (.v (.slice none 0 0)) => some ([], s)
  | .loc n 0 len => match s.m n with
    | some (.arr k' ty cs) => if k' = k ∧ ty = el ∧ cs.length = len * k then some (cs, s.del n) else none
    | _ => none
  | _ => none
section
variable {P : Program} {o : Oper} {e : Env} {s : Sg} {K : V → Sg → Prop}
theorem cellsAt {w : World} {A : Nat → Prop} {cs : List T} {arr : Array Value} {b off : Nat} {ty : TypeId} {fr : Nat × Nat} (hb : w.heap[b]? = some (.cells arr ty fr)) (h : RepTs w A cs arr off) :
    ∃ us, All2 (RepT w A) cs us ∧ (∀ j u, us[j]? = some u → w.cell? ((⟨b, off, none⟩ : Addr).add j) = some u) := by
  rw [repTs_iff] at h
  refine ⟨_, h.all2, fun j u hu => ?_⟩
  rw [addr_add, cell_of hb]
  rw [List.getElem?_take] at hu
  split at hu
  · simpa using hu
  · cases hu
theorem srcT_sound {B : Nat} {ρ : Rho} {w : World} {k : Nat} {x : V} {y : Value} {ts : List T} (h : srcT s k x = some ts) (hk : 0 < k) (hs : SR P B s ρ w) (hr : VR P w s ρ x y) :
    ∃ ad m cap us, y = .slice ad m cap ∧ ts.length = m * k ∧ All2 (RepT w (Fr s ρ)) ts us ∧ ((ad = none ∧ m = 0 ∧ cap = 0) ∨ ∃ a, ad = some a ∧ ∀ j u, us[j]? = some u → w.cell? (a.add j) = some u) := by
  unfold srcT at h
  split at h
  · rename_i k' cs
    split at h
    · rename_i e0; subst e0; cases h
      have hr : RepT w (Fr s ρ) (.sl k' ts) y := hr
      rw [RepT] at hr
      obtain ⟨a, len, cap, rfl, _, hl, hlc, hn, hc⟩ := hr
      rcases hc with rfl | ⟨b, off, arr, ty, fr, rfl, _, hb, hc⟩
      · have h0 : len = 0 := by
          have : len * k' = 0 := by simpa using hl.symm
          rcases Nat.mul_eq_zero.1 this with h | h <;> omega
        subst h0
        cases a with
        | none => exact ⟨none, 0, cap, [], rfl, hl, trivial, .inl ⟨rfl, rfl, hn rfl⟩⟩
        | some a => exact ⟨some a, 0, cap, [], rfl, hl, trivial, .inr ⟨a, rfl, by simp⟩⟩
      · obtain ⟨us, h1, h2⟩ := cellsAt hb hc
        exact ⟨_, len, cap, us, rfl, hl, h1, .inr ⟨_, rfl, h2⟩⟩
    · cases h
  · cases h
    have hy := repV (w := w) (A := Fr s ρ) hr
    exact ⟨none, 0, 0, [], hy, by simp, trivial, .inl ⟨rfl, rfl, rfl⟩⟩
  · rename_i n off len
    split at h
    · rename_i k' ty cs hn
      split at h
      · rename_i hh; cases h
        obtain ⟨rfl, hle⟩ := hh
        have hl : ((cs.drop off).take (len * k')).length = len * k' := by simp; omega
        obtain ⟨_, _, hy⟩ := hr
        obtain ⟨hk1, hk0, hrep⟩ := hs.rep n _ hn
        rcases hy _ hn with ⟨hb, rfl, rfl⟩ | ⟨_, rfl, a, rfl⟩ | ⟨bl, cap, hb, rfl, hcap⟩
        · exact ⟨none, 0, 0, [], rfl, hl, by simp [All2], .inl ⟨rfl, rfl, rfl⟩⟩
        · cases a with
          | none => exact ⟨none, 0, 0, [], rfl, hl, by simp [All2], .inl ⟨rfl, rfl, rfl⟩⟩
          | some a => exact ⟨some a, 0, 0, [], rfl, hl, by simp [All2], .inr ⟨a, rfl, by simp⟩⟩
        · rcases hrep with ⟨hb', _⟩ | ⟨bl', arr, hb', hh, h1, h2, h3⟩
          · rw [hb] at hb'; cases hb'
          · rw [hb] at hb'; cases hb'
            rw [repTs_iff] at h3
            have h4 := h3.sub off (len * k')
            rw [Nat.zero_add, ← repTs_iff] at h4
            obtain ⟨us, h5, h6⟩ := cellsAt hh h4
            exact ⟨_, len, cap, us, rfl, hl, h5, .inr ⟨_, rfl, h6⟩⟩
      · cases h
    · cases h
  · cases h
theorem own_new {B : Nat} {ρ : Rho} {w : World} (hs : SR P B s ρ w) (hB : B ≤ w.heap.size) {s1 : Sg} (h1n : s1.next = s.next) (h1m : ∀ m c, s1.m m = some c → s.m m = some c) {row : Option Nat}
    (hrow : ∀ b, row = some b → ∃ n c, s.m n = some c ∧ (ρ n).blk = some b ∧ s1.m n = none) {w' : World} {v' : Value} {base m k : Nat} {el : TypeId} {xs : List Value} (hown : w'.ownsRow base el k v' m xs) (hg : w.grownBy w' row) (hrowc : ∀ b, row = some b → ∃ arr ty fr, w.heap[b]? = some (Obj.cells arr ty fr))
    (hb : ∀ g, v'.ownBlock = some g → w.heap.size ≤ g ∨ some g = row) (hk0 : 0 < k) {ts : List T} (hts : All2 (RepT w (Fr s ρ)) ts xs) :
    ∃ ρ', SR P B (s1.add (.arr k el ts)) ρ' w' ∧ Stp s ρ w (s1.add (.arr k el ts)) ρ' w' ∧ VR P w' (s1.add (.arr k el ts)) ρ' (.loc s.next 0 m) v' := by
  have mk : ∀ tot, Chg B s ρ w (s1.add (.arr k el ts)) w' s.next ⟨v'.ownBlock, k, tot⟩ (.arr k el ts) := fun tot =>
    { os := hg.os, tape := hg.tape, output := hg.output, size := hg.size
      same := fun bl hbl _ hn => by
        refine hg.block bl hbl fun e0 => ?_
        obtain ⟨n, c, h1, h2, h3⟩ := hrow bl e0.symm
        have := hn n c h1 h2
        have hlt := hs.lt n c h1
        simp only [Sg.add, h1n] at this
        rw [if_neg (by omega), h3] at this
        cases this
      here := fun m c hm => by
        simp only [Sg.add, h1n] at hm
        split at hm
        · rename_i e0; cases hm; exact .inl ⟨e0, rfl⟩
        · rename_i hne
          refine .inr ⟨hne, h1m m c hm, ?_⟩
          cases hbm : (ρ m).blk with
          | none => exact .inl rfl
          | some g =>
            refine .inr fun e0 => ?_
            rcases hb g e0.symm with h | h
            · have := hs.blk_lt (h1m m c hm) hbm; omega
            · obtain ⟨n, c', h1, h2, h3⟩ := hrow g h.symm
              have := hs.inj m n c c' g (h1m m c hm) h1 hbm h2
              subst this
              rw [h3] at hm; cases hm
      name := .inl ⟨Nat.le_refl _, by simp [Sg.add, h1n]⟩
      loops := fun l rec hl => ⟨rec, (hg.block l (heap_lt hl) (fun e0 => by obtain ⟨arr, ty, fr, h⟩ := hrowc l e0.symm; rw [h] at hl; cases hl)).trans hl⟩
      owned := fun g hgb => by
        rcases hb g hgb with h | h
        · exact ⟨Nat.le_trans hB h, .inl h⟩
        · obtain ⟨n, c', h1, h2, h3⟩ := hrow g h.symm
          exact ⟨hs.lo n c' g h1 h2, .inr ⟨n, c', h1, h2⟩⟩ }
  obtain ⟨hl, hown⟩ := hown
  rcases hown with ⟨rfl, rfl⟩ | ⟨g, cap, cur, rfl, hbase, hgg, hnc, hcm, hcs, htake⟩
  · have hx : xs = [] := List.eq_nil_of_length_eq_zero (by simpa using hl)
    have ht : ts = [] := List.eq_nil_of_length_eq_zero (by have := hts.length; simpa [hx] using this)
    have hc := mk 0
    refine ⟨_, hc.sr hs ⟨rfl, hk0, .inl ⟨rfl, ht⟩⟩, hc.stp, ?_⟩
    exact ⟨by simp [Sg.add, h1n], ⟨none, 0, rfl⟩, fun b hbb => .inl ⟨by simp [Rho.up, Value.ownBlock], rfl, rfl⟩⟩
  · have hc := mk cur.size
    refine ⟨_, hc.sr hs ⟨rfl, hk0, .inr ⟨g, cur, rfl, hgg, ?_, rfl, ?_⟩⟩, hc.stp, ?_⟩
    · rw [hts.length, hl, hcs]; exact Nat.mul_le_mul_right _ hnc
    · rw [repTs_iff]
      have := all2_cells (hts.mono fun a b h => h.mono hc.stp.keep) (cur.toList.drop (m * k))
      rw [← htake, List.take_append_drop] at this
      simpa using this
    · refine ⟨by simp [Sg.add, h1n], ⟨_, _, rfl⟩, fun b hbb => .inr (.inr ⟨g, cap, by simp [Rho.up, Value.ownBlock], rfl, hnc, ?_, hcm⟩)⟩
      simp [Rho.up, hcs]
theorem dstT_sound {B : Nat} {ρ : Rho} {w : World} {k : Nat} {el : TypeId} {x : V} {y : Value} {ts : List T} {s1 : Sg} (h : dstT s k el x = some (ts, s1)) (hk : 0 < k) (hs : SR P B s ρ w) (hr : VR P w s ρ x y) :
    s1.next = s.next ∧ (∀ m c, s1.m m = some c → s.m m = some c) ∧ ∃ m us, ts.length = m * k ∧ All2 (RepT w (Fr s ρ)) ts us ∧ ((y = .slice none 0 0 ∧ ts = [] ∧ m = 0) ∨
      (w.ownsRow 0 el k y m us ∧ (∃ g cap, y = .slice (some ⟨g, 0, none⟩) m cap) ∧ ∀ b, y.ownBlock = some b → ∃ n c, s.m n = some c ∧ (ρ n).blk = some b ∧ s1.m n = none)) := by
  unfold dstT at h
  split at h
  · cases h
    exact ⟨rfl, fun _ _ h => h, 0, [], by simp, trivial, .inl ⟨repV (w := w) (A := Fr s ρ) hr, rfl, rfl⟩⟩
  · rename_i n len
    split at h
    · rename_i k' ty cs hn
      split at h
      · rename_i hh; cases h
        obtain ⟨rfl, rfl, hle⟩ := hh
        refine ⟨rfl, fun m c hm => ?_, ?_⟩
        · simp only [Sg.del] at hm
          split at hm
          · cases hm
          · exact hm
        obtain ⟨_, _, hy⟩ := hr
        obtain ⟨hk1, hk0, hrep⟩ := hs.rep n _ hn
        rcases hy _ hn with ⟨hb, rfl, rfl⟩ | ⟨h0, _⟩ | ⟨bl, cap, hb, rfl, hcap⟩
        · have : ts = [] := List.eq_nil_of_length_eq_zero (by simpa using hle)
          exact ⟨0, [], hle, by simp [this, All2], .inl ⟨rfl, this, rfl⟩⟩
        · omega
        · rcases hrep with ⟨hb', _⟩ | ⟨bl', arr, hb', hh, h1, h2, h3⟩
          · rw [hb] at hb'; cases hb'
          · rw [hb] at hb'; cases hb'
            rw [repTs_iff] at h3
            have h4 := h3.all2
            rw [List.drop_zero, hle] at h4
            refine ⟨len, _, hle, h4, .inr ⟨⟨?_, .inr ⟨bl, cap, arr, rfl, Nat.zero_le _, hh, hcap.1, hcap.2.2, ?_, rfl⟩⟩, ⟨_, _, rfl⟩, fun b hbb => ?_⟩⟩
            · rw [← h4.length, hle]
            · have := hcap.2.1; rw [hk1] at this; omega
            · simp [Value.ownBlock] at hbb; subst hbb
              exact ⟨n, _, hn, hb, by simp [Sg.del]⟩
      · cases h
    · cases h
  · cases h
theorem sound_append {c : Call} (ho : o.op = .call c) {x y : Operand} {t el : TypeId} (hc1 : c.callee = .builtin .append) (hc2 : c.args = #[x, y]) (hc3 : c.argTypes = #[t, t]) (hu : P.underlying t = some (.slice el)) {k bytes : Nat} (hk : szOf P el = some k)
    (hby : (P.info? el).map (·.bytes) = some bytes) (hk0 : 0 < k) {zs : List Value} (hz : zeroV P el = some zs) (hzl : zs.length = k) {olds news : List T} {s1 : Sg} (hd : dstT s k el (ev e x) = some (olds, s1)) (hsrc : srcT s k (ev e y) = some news)
    (hlen : (olds.length + news.length) / k * bytes ≤ 100000000000000) (hlen2 : (olds.length + news.length) / k ≤ 100000000000000)
    (h : K (.loc s.next 0 ((olds.length + news.length) / k)) (s1.add (.arr k el (olds ++ news)))) : Sound P o e s K := by
  intro B ρ a w hs hB he
  obtain ⟨i, z, hi, hz1, hz2, hfl⟩ := zeroV_some hz
  have hik : i.size = k := by simp [szOf, hi] at hk; exact hk
  have hib : i.bytes = bytes := by simp [hi] at hby; exact hby
  have hzs : z.cells.size = k := by rw [← hzl, ← hz2]; simp
  obtain ⟨h1n, h1m, m0, us0, hl0, ha0, hD⟩ := dstT_sound hd hk0 hs (ev_sound he x)
  obtain ⟨ad, m, cap, us, hy, hl1, ha1, hS⟩ := srcT_sound hsrc hk0 hs (ev_sound he y)
  have htot : (olds.length + news.length) / k = m0 + m := by rw [hl0, hl1, ← Nat.add_mul, Nat.mul_div_cancel _ hk0]
  rw [htot] at h hlen hlen2
  have hts := ha0.append ha1
  have hus1 : us.length = m * k := by rw [← hl1, ha1.length]
  have hus0 : us0.length = m0 * k := by rw [← hl0, ha0.length]
  have hone : ∀ u ∈ us, u.oneCell' = true := by
    intro u hu
    obtain ⟨j, hj⟩ := List.mem_iff_getElem?.1 hu
    have hjl : j < news.length := by rw [ha1.length]; exact (List.getElem?_eq_some_iff.1 hj).1
    obtain ⟨b, hb, hr⟩ := ha1.get j _ (List.getElem?_eq_getElem hjl)
    rw [hj] at hb; cases hb
    exact hr.one
  suffices hmain : ∃ v' w' row base, (Builtin.append_ #[t, t] o.type #[a.eval x, a.eval y]).run P w = .ok v' w' ∧ w'.ownsRow base el k v' (m0 + m) (us0 ++ us) ∧ w.grownBy w' row ∧ (∀ b, row = some b → ∃ arr ty fr, w.heap[b]? = some (Obj.cells arr ty fr)) ∧
      (∀ b, row = some b → ∃ n c, s.m n = some c ∧ (ρ n).blk = some b ∧ s1.m n = none) ∧ (∀ g, v'.ownBlock = some g → w.heap.size ≤ g ∨ some g = row) by
    obtain ⟨v', w', row, base, hr, hown, hg, hrowc, hrow, hb⟩ := hmain
    obtain ⟨ρ', b1, b2, b3⟩ := own_new hs hB h1n h1m hrow hown hg hrowc hb hk0 hts
    refine ⟨_, _, _, _, ρ', .inl ?_, h, b1, b3, b2⟩
    simp [execOp, ho, resolve, hc1, hc2, hc3, invoke, builtin, hr]
  rw [hy]
  rcases hD with ⟨hx, rfl, rfl⟩ | ⟨hown, ⟨g, cp, hx⟩, hrow⟩
  · have hus : us0 = [] := List.eq_nil_of_length_eq_zero (by simpa using hus0)
    subst hus
    rcases hS with ⟨rfl, rfl, rfl⟩ | ⟨ad, rfl, hcell⟩
    · have hus' : us = [] := List.eq_nil_of_length_eq_zero (by simpa using hus1)
      subst hus'
      refine ⟨_, w, none, 0, ?_, World.ownsRow_nil w 0 el k, ⟨rfl, rfl, rfl, Nat.le_refl _, fun _ _ _ => rfl⟩, by simp, by simp, by simp [Value.ownBlock]⟩
      rw [hx]
      exact run_append_owned_none w 0 t o.type el i k hu hi _ _ _ (World.ownsRow_nil w 0 el k)
    · obtain ⟨v', w', hr, h2, h3, h4⟩ := run_append_own (P := P) w w.heap.size t o.type el i z k bytes hu hi hz1 hik hib hzs hk0 (.slice none 0 0) 0 [] (World.ownsRow_nil w _ el k) ad m cap us hus1 hcell hone
        (by unfold maxLen; omega) (by omega) (Nat.le_refl _)
      rw [hx]
      exact ⟨v', w', none, w.heap.size, hr, h2, h3, by simp, by simp, fun g hg => .inl (h2.lt g hg).1⟩
  · have hcells : ∀ b, (a.eval x).ownBlock = some b → ∃ arr ty fr, w.heap[b]? = some (Obj.cells arr ty fr) := by
      intro b hb
      rcases hown.2 with ⟨h, _⟩ | ⟨g', cp', cur, h, _, hg', _⟩
      · rw [h] at hb; simp [Value.ownBlock] at hb
      · rw [h] at hb; simp [Value.ownBlock] at hb; subst hb; exact ⟨_, _, _, hg'⟩
    rcases hS with ⟨rfl, rfl, rfl⟩ | ⟨ad, rfl, hcell⟩
    · have hus' : us = [] := List.eq_nil_of_length_eq_zero (by simpa using hus1)
      subst hus'
      refine ⟨_, w, (a.eval x).ownBlock, 0, run_append_owned_none w 0 t o.type el i k hu hi _ _ _ hown, by simpa using hown, ⟨rfl, rfl, rfl, Nat.le_refl _, fun _ _ _ => rfl⟩, hcells, hrow, fun g hg => .inr hg.symm⟩
    · rw [hx] at hown hrow hcells ⊢
      by_cases hroom : m0 + m ≤ cp
      · obtain ⟨w', hr, h2, h3⟩ := run_append_fits (P := P) w 0 t o.type el i k hu hi hik g m0 cp us0 hown ad m cap us hus1 hcell hone hroom
        exact ⟨_, w', _, 0, hr, h2, h3, hcells, by simpa [Value.ownBlock] using hrow, fun b hb => .inr hb.symm⟩
      · obtain ⟨v', w', hr, h2, h3⟩ := run_append_arg_grows (P := P) w t o.type el i z k bytes hu hi hz1 hik hib hzs hk0 ⟨g, 0, none⟩ m0 cp us0 hus0 (hown.cells (g := g) rfl) ad m cap us hus1 hcell (by omega)
          (by unfold maxLen; omega) (by omega)
        exact ⟨v', w', none, w.heap.size, hr, h2, h3, by simp, by simp, fun g' hg' => .inl (h2.lt g' hg').1⟩
end
end Go.V

/- Lemmas on the way to the statement of this claim; no conditions. -/
import Derived.Test.YtjidblndipcofaaDoorA12
namespace Go.V
open Go Go.RowKit
def srcB (s : Sg) : V → Option (List V)
  | .t (.sl k' cs) => if k' = 1 then some (cs.map V.t) else none
  | .t (.v (.slice none 0 0)) => some []
  | .loc n off len => match s.m n with
    | some (.box _ cs) => if off + len ≤ cs.length then some ((cs.drop off).take len) else none
    | some (.arr k' _ cs) => if k' = 1 ∧ off + len ≤ cs.length then some (((cs.drop off).take len).map V.t) else none
    | _ => none
  | _ => none
def dstB (s : Sg) (el : TypeId) : V → Option (List V × Sg)
  | .t (.v (.slice none 0 0)) => some ([], s)
  | .loc n 0 len => match s.m n with
    | some (.box ty cs) => if ty = el ∧ cs.length = len then some (cs, s.del n) else none
    | _ => none
  | _ => none
section
variable {P : Program} {o : Oper} {e : Env} {s : Sg} {K : V → Sg → Prop}
theorem cellsAtB {α : Type} {R : α → Value → Prop} {w : World} {cs : List α} {arr : Array Value} {b off : Nat} {ty : TypeId} {fr : Nat × Nat} (hb : w.heap[b]? = some (.cells arr ty fr)) (h : Cells R cs arr off) :
    ∃ us, All2 R cs us ∧ (∀ j u, us[j]? = some u → w.cell? ((⟨b, off, none⟩ : Addr).add j) = some u) := by
  refine ⟨_, h.all2, fun j u hu => ?_⟩
  rw [addr_add, cell_of hb]
  rw [List.getElem?_take] at hu
  split at hu
  · simpa using hu
  · cases hu
theorem vr1_t {w : World} {ρ : Rho} {cs : List T} {us : List Value} (h : All2 (RepT w (Fr s ρ)) cs us) : All2 (VR1 P w s ρ) (cs.map V.t) us := by
  induction cs generalizing us with
  | nil => cases us with
    | nil => trivial
    | cons => exact h.elim
  | cons c cs ih => cases us with
    | nil => exact h.elim
    | cons u us => exact ⟨h.1, ih h.2⟩
theorem srcB_sound {B : Nat} {ρ : Rho} {w : World} {x : V} {y : Value} {ts : List V} (h : srcB s x = some ts) (hs : SR P B s ρ w) (hr : VR P w s ρ x y) :
    ∃ ad m cap us, y = .slice ad m cap ∧ ts.length = m ∧ All2 (VR1 P w s ρ) ts us ∧ ((ad = none ∧ m = 0 ∧ cap = 0) ∨ ∃ a, ad = some a ∧ ∀ j u, us[j]? = some u → w.cell? (a.add j) = some u) := by
  have old : ∀ (cs : List T), srcT s 1 x = some cs → ts = cs.map V.t → ∃ ad m cap us, y = .slice ad m cap ∧ ts.length = m ∧ All2 (VR1 P w s ρ) ts us ∧ ((ad = none ∧ m = 0 ∧ cap = 0) ∨ ∃ a, ad = some a ∧ ∀ j u, us[j]? = some u → w.cell? (a.add j) = some u) := by
    intro cs hc ht
    obtain ⟨ad, m, cap, us, h1, h2, h3, h4⟩ := srcT_sound hc Nat.one_pos hs hr
    exact ⟨ad, m, cap, us, h1, by rw [ht, List.length_map]; omega, ht ▸ vr1_t h3, h4⟩
  unfold srcB at h
  split at h
  · rename_i k' cs
    split at h
    · rename_i hk; cases h; exact old cs (by simp [srcT, hk]) rfl
    · cases h
  · cases h; exact old [] (by simp [srcT]) rfl
  · rename_i n off len
    split at h
    · rename_i ty cs hn
      split at h
      · rename_i hle; cases h
        obtain ⟨_, _, hy⟩ := hr
        rcases hy _ hn with ⟨hb, rfl, rfl⟩ | ⟨_, rfl, a, rfl⟩ | ⟨bl, cap, hb, rfl, hcap⟩
        · exact ⟨none, 0, 0, [], rfl, by simp, by simp [All2], .inl ⟨rfl, rfl, rfl⟩⟩
        · cases a with
          | none => exact ⟨none, 0, 0, [], rfl, by simp, by simp [All2], .inl ⟨rfl, rfl, rfl⟩⟩
          | some a => exact ⟨some a, 0, 0, [], rfl, by simp, by simp [All2], .inr ⟨a, rfl, fun j u hu => by simp at hu⟩⟩
        · rcases hs.rep n _ hn with hq | ⟨bl', arr, hb', hh, h1, h2, h3⟩
          · rw [hq.1] at hb; cases hb
          · rw [hb] at hb'; cases hb'
            have h4 := h2.sub off len
            rw [Nat.zero_add] at h4
            obtain ⟨us, h5, h6⟩ := cellsAtB hh h4
            exact ⟨_, len, cap, us, rfl, by simp; omega, h5, .inr ⟨_, rfl, h6⟩⟩
      · cases h
    · rename_i k' ty cs hn
      split at h
      · rename_i hle; cases h
        exact old _ (by simp only [srcT, hn, hle.1, Nat.mul_one, true_and, if_pos hle.2]) rfl
      · cases h
    · cases h
  · cases h
theorem own_newB {B : Nat} {ρ : Rho} {w : World} (hs : SR P B s ρ w) (hB : B ≤ w.heap.size) {s1 : Sg} (h1n : s1.next = s.next) (h1m : ∀ m c, s1.m m = some c → s.m m = some c) {row : Option Nat}
    (hrow : ∀ b, row = some b → ∃ n c, s.m n = some c ∧ (ρ n).blk = some b ∧ s1.m n = none) {w' : World} {v' : Value} {base m : Nat} {el : TypeId} {xs : List Value} (hown : w'.ownsRow base el 1 v' m xs) (hg : w.grownBy w' row) (hrowc : ∀ b, row = some b → ∃ arr ty fr, w.heap[b]? = some (Obj.cells arr ty fr))
    (hb : ∀ g, v'.ownBlock = some g → w.heap.size ≤ g ∨ some g = row) {ts : List V} (hts : All2 (VR1 P w s ρ) ts xs) :
    ∃ ρ', SR P B (s1.add (.box el ts)) ρ' w' ∧ Stp s ρ w (s1.add (.box el ts)) ρ' w' ∧ VR P w' (s1.add (.box el ts)) ρ' (.loc s.next 0 m) v' := by
  have mk : ∀ tot, Chg B s ρ w (s1.add (.box el ts)) w' s.next ⟨v'.ownBlock, 1, tot⟩ (.box el ts) := fun tot =>
    { os := hg.os, tape := hg.tape, output := hg.output, size := hg.size
      same := fun bl hbl _ hn => by
        refine hg.block bl hbl fun e0 => ?_
        obtain ⟨n, c, h1, h2, h3⟩ := hrow bl e0.symm
        have := hn n c h1 h2
        have hlt := hs.lt n c h1
        simp only [Sg.add, h1n] at this
        rw [if_neg (by omega), h3] at this
        cases this
      here := fun m c hm => by
        simp only [Sg.add, h1n] at hm
        split at hm
        · rename_i e0; cases hm; exact .inl ⟨e0, rfl⟩
        · rename_i hne
          refine .inr ⟨hne, h1m m c hm, ?_⟩
          cases hbm : (ρ m).blk with
          | none => exact .inl rfl
          | some g =>
            refine .inr fun e0 => ?_
            rcases hb g e0.symm with h | h
            · have := hs.blk_lt (h1m m c hm) hbm; omega
            · obtain ⟨n, c', h1, h2, h3⟩ := hrow g h.symm
              have := hs.inj m n c c' g (h1m m c hm) h1 hbm h2
              subst this
              rw [h3] at hm; cases hm
      name := .inl ⟨Nat.le_refl _, by simp [Sg.add, h1n]⟩
      loops := fun l rec hl => ⟨rec, (hg.block l (heap_lt hl) (fun e0 => by obtain ⟨arr, ty, fr, h⟩ := hrowc l e0.symm; rw [h] at hl; cases hl)).trans hl⟩
      owned := fun g hgb => by
        rcases hb g hgb with h | h
        · exact ⟨Nat.le_trans hB h, .inl h⟩
        · obtain ⟨n, c', h1, h2, h3⟩ := hrow g h.symm
          exact ⟨hs.lo n c' g h1 h2, .inr ⟨n, c', h1, h2⟩⟩ }
  obtain ⟨hl, hown⟩ := hown
  rcases hown with ⟨rfl, rfl⟩ | ⟨g, cap, cur, rfl, hbase, hgg, hnc, hcm, hcs, htake⟩
  · have hx : xs = [] := List.eq_nil_of_length_eq_zero (by simpa using hl)
    have ht : ts = [] := List.eq_nil_of_length_eq_zero (by have := hts.length; simpa [hx] using this)
    have hc := mk 0
    refine ⟨_, hc.sr hs (.inl ⟨rfl, ht, rfl⟩), hc.stp, ?_⟩
    exact ⟨by simp [Sg.add, h1n], ⟨none, 0, rfl⟩, fun b hbb => .inl ⟨by simp [Rho.up, Value.ownBlock], rfl, rfl⟩⟩
  · have hc := mk cur.size
    refine ⟨_, hc.sr hs (.inr ⟨g, cur, rfl, hgg, ?_, ?_, rfl, rfl⟩), hc.stp, ?_⟩
    · rw [hts.length, hl, hcs]; exact Nat.mul_le_mul_right _ hnc
    · have := all2_cells (hts.mono fun a b h => h.step hc.stp) (cur.toList.drop (m * 1))
      rw [← htake, List.take_append_drop] at this
      simpa using this
    · refine ⟨by simp [Sg.add, h1n], ⟨_, _, rfl⟩, fun b hbb => .inr (.inr ⟨g, cap, by simp [Rho.up, Value.ownBlock], rfl, hnc, ?_, hcm⟩)⟩
      simp [Rho.up, hcs]
theorem dstB_sound {B : Nat} {ρ : Rho} {w : World} {el : TypeId} {x : V} {y : Value} {ts : List V} {s1 : Sg} (h : dstB s el x = some (ts, s1)) (hs : SR P B s ρ w) (hr : VR P w s ρ x y) :
    s1.next = s.next ∧ (∀ m c, s1.m m = some c → s.m m = some c) ∧ ∃ m us, ts.length = m ∧ All2 (VR1 P w s ρ) ts us ∧ ((y = .slice none 0 0 ∧ ts = [] ∧ m = 0) ∨
      (w.ownsRow 0 el 1 y m us ∧ (∃ g cap, y = .slice (some ⟨g, 0, none⟩) m cap) ∧ ∀ b, y.ownBlock = some b → ∃ n c, s.m n = some c ∧ (ρ n).blk = some b ∧ s1.m n = none)) := by
  unfold dstB at h
  split at h
  · cases h
    exact ⟨rfl, fun _ _ h => h, 0, [], by simp, trivial, .inl ⟨repV (w := w) (A := Fr s ρ) hr, rfl, rfl⟩⟩
  · rename_i n len
    split at h
    · rename_i ty cs hn
      split at h
      · rename_i hh; cases h
        obtain ⟨rfl, hle⟩ := hh
        refine ⟨rfl, fun m c hm => ?_, ?_⟩
        · simp only [Sg.del] at hm
          split at hm
          · cases hm
          · exact hm
        obtain ⟨_, _, hy⟩ := hr
        rcases hy _ hn with ⟨hb, rfl, rfl⟩ | ⟨h0, _⟩ | ⟨bl, cap, hb, rfl, hcap⟩
        · have : ts = [] := List.eq_nil_of_length_eq_zero (by simpa using hle)
          exact ⟨0, [], hle, by simp [this, All2], .inl ⟨rfl, this, rfl⟩⟩
        · omega
        · rcases hs.rep n _ hn with hq | ⟨bl', arr, hb', hh, h1, h2, h3, h5⟩
          · rw [hq.1] at hb; cases hb
          · rw [hb] at hb'; cases hb'
            have h4 := h2.all2
            rw [List.drop_zero, hle] at h4
            refine ⟨len, _, hle, h4, .inr ⟨⟨?_, .inr ⟨bl, cap, arr, rfl, Nat.zero_le _, hh, hcap.1, hcap.2.2, ?_, ?_⟩⟩, ⟨_, _, rfl⟩, fun b hbb => ?_⟩⟩
            · rw [← h4.length, hle, Nat.mul_one]
            · have := hcap.2.1; rw [h3] at this; omega
            · rw [Nat.mul_one]
            · simp [Value.ownBlock] at hbb; subst hbb
              exact ⟨n, _, hn, hb, by simp [Sg.del]⟩
      · cases h
    · cases h
  · cases h
theorem sound_appendB {c : Call} (ho : o.op = .call c) {x y : Operand} {t el : TypeId} (hc1 : c.callee = .builtin .append) (hc2 : c.args = #[x, y]) (hc3 : c.argTypes = #[t, t]) (hu : P.underlying t = some (.slice el)) (hk : szOf P el = some 1) {bytes : Nat}
    (hby : (P.info? el).map (·.bytes) = some bytes) {zs : List Value} (hz : zeroV P el = some zs) (hzl : zs.length = 1) {olds news : List V} {s1 : Sg} (hd : dstB s el (ev e x) = some (olds, s1)) (hsrc : srcB s (ev e y) = some news)
    (hlen : (olds.length + news.length) * bytes ≤ 100000000000000) (hlen2 : olds.length + news.length ≤ 100000000000000)
    (h : K (.loc s.next 0 (olds.length + news.length)) (s1.add (.box el (olds ++ news)))) : Sound P o e s K := by
  intro B ρ a w hs hB he
  obtain ⟨i, z, hi, hz1, hz2, hfl⟩ := zeroV_some hz
  have hik : i.size = 1 := by simp [szOf, hi] at hk; exact hk
  have hib : i.bytes = bytes := by simp [hi] at hby; exact hby
  have hzs : z.cells.size = 1 := by rw [← hzl, ← hz2]; simp
  obtain ⟨h1n, h1m, m0, us0, hl0, ha0, hD⟩ := dstB_sound hd hs (ev_sound he x)
  obtain ⟨ad, m, cap, us, hy, hl1, ha1, hS⟩ := srcB_sound hsrc hs (ev_sound he y)
  rw [hl0, hl1] at h hlen hlen2
  have hts := ha0.append ha1
  have hus1 : us.length = m * 1 := by rw [← ha1.length]; omega
  have hus0 : us0.length = m0 * 1 := by rw [← ha0.length]; omega
  have hone : ∀ u ∈ us, u.oneCell' = true := by
    intro u hu
    obtain ⟨j, hj⟩ := List.mem_iff_getElem?.1 hu
    have hjl : j < news.length := by rw [ha1.length]; exact (List.getElem?_eq_some_iff.1 hj).1
    obtain ⟨b, hb, hr⟩ := ha1.get j _ (List.getElem?_eq_getElem hjl)
    rw [hj] at hb; cases hb
    exact hr.one
  suffices hmain : ∃ v' w' row base, (Builtin.append_ #[t, t] o.type #[a.eval x, a.eval y]).run P w = .ok v' w' ∧ w'.ownsRow base el 1 v' (m0 + m) (us0 ++ us) ∧ w.grownBy w' row ∧ (∀ b, row = some b → ∃ arr ty fr, w.heap[b]? = some (Obj.cells arr ty fr)) ∧
      (∀ b, row = some b → ∃ n c, s.m n = some c ∧ (ρ n).blk = some b ∧ s1.m n = none) ∧ (∀ g, v'.ownBlock = some g → w.heap.size ≤ g ∨ some g = row) by
    obtain ⟨v', w', row, base, hr, hown, hg, hrowc, hrow, hb⟩ := hmain
    obtain ⟨ρ', b1, b2, b3⟩ := own_newB hs hB h1n h1m hrow hown hg hrowc hb hts
    refine ⟨_, _, _, _, ρ', .inl ?_, h, b1, b3, b2⟩
    simp [execOp, ho, resolve, hc1, hc2, hc3, invoke, builtin, hr]
  rw [hy]
  rcases hD with ⟨hx, rfl, rfl⟩ | ⟨hown, ⟨g, cp, hx⟩, hrow⟩
  · have hus : us0 = [] := List.eq_nil_of_length_eq_zero (by simpa using hus0)
    subst hus
    rcases hS with ⟨rfl, rfl, rfl⟩ | ⟨ad, rfl, hcell⟩
    · have hus' : us = [] := List.eq_nil_of_length_eq_zero (by simpa using hus1)
      subst hus'
      refine ⟨_, w, none, 0, ?_, World.ownsRow_nil w 0 el 1, ⟨rfl, rfl, rfl, Nat.le_refl _, fun _ _ _ => rfl⟩, by simp, by simp, by simp [Value.ownBlock]⟩
      rw [hx]
      exact run_append_owned_none w 0 t o.type el i 1 hu hi _ _ _ (World.ownsRow_nil w 0 el 1)
    · obtain ⟨v', w', hr, h2, h3, h4⟩ := run_append_own (P := P) w w.heap.size t o.type el i z 1 bytes hu hi hz1 hik hib hzs Nat.one_pos (.slice none 0 0) 0 [] (World.ownsRow_nil w _ el 1) ad m cap us hus1 hcell hone
        (by unfold maxLen; omega) (by omega) (Nat.le_refl _)
      rw [hx]
      exact ⟨v', w', none, w.heap.size, hr, h2, h3, by simp, by simp, fun g hg => .inl (h2.lt g hg).1⟩
  · have hcells : ∀ b, (a.eval x).ownBlock = some b → ∃ arr ty fr, w.heap[b]? = some (Obj.cells arr ty fr) := by
      intro b hb
      rcases hown.2 with ⟨h, _⟩ | ⟨g', cp', cur, h, _, hg', _⟩
      · rw [h] at hb; simp [Value.ownBlock] at hb
      · rw [h] at hb; simp [Value.ownBlock] at hb; subst hb; exact ⟨_, _, _, hg'⟩
    rcases hS with ⟨rfl, rfl, rfl⟩ | ⟨ad, rfl, hcell⟩
    · have hus' : us = [] := List.eq_nil_of_length_eq_zero (by simpa using hus1)
      subst hus'
      refine ⟨_, w, (a.eval x).ownBlock, 0, run_append_owned_none w 0 t o.type el i 1 hu hi _ _ _ hown, by simpa using hown, ⟨rfl, rfl, rfl, Nat.le_refl _, fun _ _ _ => rfl⟩, hcells, hrow, fun g hg => .inr hg.symm⟩
    · rw [hx] at hown hrow hcells ⊢
      by_cases hroom : m0 + m ≤ cp
      · obtain ⟨w', hr, h2, h3⟩ := run_append_fits (P := P) w 0 t o.type el i 1 hu hi hik g m0 cp us0 hown ad m cap us hus1 hcell hone hroom
        exact ⟨_, w', _, 0, hr, h2, h3, hcells, by simpa [Value.ownBlock] using hrow, fun b hb => .inr hb.symm⟩
      · obtain ⟨v', w', hr, h2, h3⟩ := run_append_arg_grows (P := P) w t o.type el i z 1 bytes hu hi hz1 hik hib hzs Nat.one_pos ⟨g, 0, none⟩ m0 cp us0 hus0 (hown.cells (g := g) rfl) ad m cap us hus1 hcell (by omega)
          (by unfold maxLen; omega) (by omega)
        exact ⟨v', w', none, w.heap.size, hr, h2, h3, by simp, by simp, fun g' hg' => .inl (h2.lt g' hg').1⟩
theorem add_boxs {B : Nat} {ρ : Rho} {w : World} (hs : SR P B s ρ w) (hB : B ≤ w.heap.size) (ty : TypeId) {cs : List V} {ys : List Value} (hc : All2 (VR1 P w s ρ) cs ys) (hmax : ys.length ≤ maxLen) :
    ∃ ρ', SR P B (s.add (.box ty cs)) ρ' (w.alloc (.cells ⟨ys⟩ ty)) ∧ Stp s ρ w (s.add (.box ty cs)) ρ' (w.alloc (.cells ⟨ys⟩ ty)) ∧
      VR P (w.alloc (.cells ⟨ys⟩ ty)) (s.add (.box ty cs)) ρ' (.loc s.next 0 ys.length) (.slice (some ⟨w.heap.size, 0, none⟩) ys.length ys.length) := by
  have hchg := chg_new hs hB (.cells ⟨ys⟩ ty) ⟨some w.heap.size, 1, ys.length⟩ rfl (.box ty cs)
  refine ⟨_, hchg.sr hs ?_, hchg.stp, ?_⟩
  · refine .inr ⟨w.heap.size, ⟨ys⟩, rfl, World.alloc_heap_new _ _, ?_, ?_⟩
    · have := hc.length; simp; omega
    · have := all2_cells (hc.mono fun a b h => h.step hchg.stp) []
      exact ⟨by simpa using this, rfl, rfl⟩
  · refine ⟨by simp [Sg.add], ⟨_, _, rfl⟩, fun b hb => .inr (.inr ⟨w.heap.size, ys.length, by simp [Rho.up], rfl, Nat.le_refl _, ?_, hmax⟩)⟩
    simp [Rho.up]
theorem sound_buildSliceB {t el : TypeId} {len : Nat} {parts : Array (Nat × Operand)} (ho : o.op = .buildSlice t len parts) (hu : P.underlying t = some (.slice el)) (hk : szOf P el = some 1)
    {zs : List Value} (hz : zeroV P el = some zs) (hzl : zs.length = 1) (hle : len ≤ 1000000) (hpos : 0 < len) {ps : List (Nat × List V)} (hps : vparts e parts.toList = some ps)
    {cs : List V} (hf : gfill (fun i => some (i, 1)) (repl (zs.map fun z => V.t (.v z)) len) ps = some cs) (h : K (.loc s.next 0 len) (s.add (.box el cs))) : Sound P o e s K := by
  intro B ρ a w hs hB he
  obtain ⟨i, z, hi, hz1, hz2, hfl⟩ := zeroV_some hz
  have a3 := vparts_sound (P := P) (s := s) (ρ := ρ) he hps
  have hmade := madeCells_list z.cells hz2 len
  rw [hzl] at hmade
  have hc : All2 (VR1 P w s ρ) (repl (zs.map fun z => V.t (.v z)) len) (madeCells z.cells (len * 1)).toList := by
    rw [hmade]
    have := all2_vr1 (P := P) (s := s) (ρ := ρ) (all2_flat (w := w) (A := Fr s ρ) (fun x (hx : x ∈ repl zs len) => hfl x (repl_mem hx)))
    rw [← repl_map]
    simpa [List.map_map, Function.comp_def] using this
  obtain ⟨arr, h1, h2⟩ := fill_sound a3 hc hf
  have hlen : arr.toList.length = len := by
    rw [← h2.length, gfill_length hf, repl_length]; simp [hzl]
  obtain ⟨ρ', b1, b2, b3⟩ := add_boxs (P := P) (B := B) hs hB el h2 (by unfold maxLen; omega)
  rw [hlen] at b3
  refine ⟨_, _, _, _, ρ', .inl ?_, h, b1, b3, b2⟩
  have hsz : ¬ (len * 1 > 2 ^ 24) := by omega
  have e2 : (parts.map fun (x : Nat × Operand) => (x.1, a.eval x.2)).toList = parts.toList.map fun (i, x) => (i, a.eval x) := by simp
  have hzc : z.cells.size = 1 := by rw [← hzl, ← hz2]; simp
  have e3 : (fun i : Nat => some (i * 1, 1)) = (fun i : Nat => some (i, 1)) := by funext i; simp
  simp only [execOp, ho, Instr.buildSlice, Sem.run_bind, run_underlying hu, Result.andThen, szOf_run hk, hsz, if_false, e2]
  have h0 : ¬ len * 1 = 0 := by omega
  simp only [h0, if_false, Sem.run_bind, run_zero hi hz1, Result.andThen, Sem.run_pure]
  have : (Array.range (len * 1)).map (fun x => z.cells[x % z.cells.size]!) = madeCells z.cells (len * 1) := rfl
  rw [this, e3, h1]
  simp [newRow]
end
end Go.V

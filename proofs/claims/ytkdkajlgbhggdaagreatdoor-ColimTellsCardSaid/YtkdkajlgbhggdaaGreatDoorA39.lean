/- Lemmas on the way to the statement of this claim; no conditions. -/
import Derived.ProofKit
import Derived.ReadAgain
import Derived.Stop.Joined
import Derived.Test.YtkdkajlgbhggdaaGreatDoorA34
open Go Go.V
namespace Go.Proofs
section
variable {H : Type} {enc : TypeId × Value → H} {P : Program} {w : World} {base : Nat} {spare : Nat → Bool} {held : Bool}
theorem q1z {a : Addr} {v : Value} (h : w.cell? a = some v) : ∃ arr ty fr, w.heap[a.block]? = some (.cells arr ty fr) ∧ a.spot = none ∧ arr[a.off]? = some v := by
 unfold World.cell? at h
 split at h
 ·rename_i arr ty fr hb
  split at h
  ·cases h
  ·rename_i hs
   exact ⟨arr, ty, fr, hb, by simpa using hs, h⟩
 ·cases h
theorem n6z {α β : Type} {f : α → List β} {k : Nat} (hk : ∀ x, (f x).length = k) {c : β} : ∀ {xs : List α} {j : Nat}, (xs.flatMap f)[j]? = some c → ∃ i r x, j = i * k + r ∧ r < k ∧ xs[i]? = some x ∧ (f x)[r]? = some c
 | [], j, h => by simp at h
 | x :: xs, j, h => by
  rw [List.flatMap_cons] at h
  by_cases hj : j < k
  ·rw [List.getElem?_append_left (by rw [hk]; exact hj)] at h
   exact ⟨0, j, x, by omega, hj, rfl, h⟩
  ·rw [List.getElem?_append_right (by rw [hk]; omega), hk] at h
   obtain ⟨i, r, y, h1, h2, h3, h4⟩ := n6z hk h
   exact ⟨i + 1, r, y, by rw [Nat.succ_mul]; omega, h2, h3, h4⟩
theorem h8z {α β : Type} {f : α → List β} {k : Nat} (hk : ∀ x, (f x).length = k) : ∀ (xs : List α), (xs.flatMap f).length = xs.length * k
 | [] => by simp
 | x :: xs => by rw [List.flatMap_cons, List.length_append, hk, h8z hk xs, List.length_cons, Nat.succ_mul]; omega
theorem r7q {α : Type} (f : α → List T) (Q : α → Prop) {k : Nat} (hk0 : 0 < k) (hk : ∀ x, (f x).length = k) {t e : TypeId} (ht : P.underlying t = some (.slice e)) (hc : P.cellsOf e = k)
 (hel : ∀ m cs y, cs.length = k → DataW.trod enc P w base spare held m e cs = some y → ∃ x, Q x ∧ All2 (RepT w fun _ => True) (f x) cs) {fuel : Nat} {cs : List Value} {y : DataW H × List MemPlace}
 (h : DataW.trod enc P w base spare held fuel t cs = some y) : ∃ (v : Value) (xs : List α), cs = [v] ∧ RepT w (fun _ => True) (.sl k (xs.flatMap f)) v ∧ (∀ x ∈ xs, Q x) ∧ xs.length ≤ maxLen := by
 rcases DataW.trod_slice ht h with ⟨rfl, _⟩ | ⟨a, len, cap, elems, rest, n, _, rfl, _, hb, hl, hm, hlen, hels, _⟩
 ·exact ⟨_, [], rfl, by rw [RepT]; exact ⟨none, 0, 0, rfl, hk0, by simp, Nat.le_refl _, fun _ => rfl, .inl rfl⟩, fun x hx => by simp at hx, Nat.zero_le _⟩
 ·have each : ∀ i, i < len → ∃ cs x, w.cells? base (a.add (i * k)) k = some cs ∧ cs.length = k ∧ Q x ∧ All2 (RepT w fun _ => True) (f x) cs := fun i hi => by
   have h1 := hels i hi
   rw [hc, List.getElem?_eq_getElem (by omega), Option.bind_eq_some_iff] at h1
   obtain ⟨cs, h2, h3⟩ := h1
   have h4 := (World.cells?_some h2).2.1
   obtain ⟨x, h5, h6⟩ := hel _ _ _ h4 h3
   exact ⟨cs, x, h2, h4, h5, h6⟩
  have pick : ∀ m, m ≤ len → ∃ xs : List α, xs.length = m ∧ ∀ i, i < m → ∃ cs x, xs[i]? = some x ∧ w.cells? base (a.add (i * k)) k = some cs ∧ cs.length = k ∧ Q x ∧ All2 (RepT w fun _ => True) (f x) cs := by
   intro m
   induction m with
   | zero => intro _; exact ⟨[], rfl, fun i hi => by omega⟩
   | succ m ih =>
    intro hml
    obtain ⟨xs, h1, h2⟩ := ih (by omega)
    obtain ⟨cs, x, h3, h4, h5, h6⟩ := each m (by omega)
    refine ⟨xs ++ [x], by simp [h1], fun i hi => ?_⟩
    by_cases him : i < m
    ·obtain ⟨cs', x', k1, k2⟩ := h2 i him
     exact ⟨cs', x', by rw [List.getElem?_append_left (by omega)]; exact k1, k2⟩
    ·have : i = m := by omega
     subst this
     exact ⟨cs, x, by rw [List.getElem?_append_right (by omega), h1]; simp, h3, h4, h5, h6⟩
  obtain ⟨xs, hxl, hx⟩ := pick len (Nat.le_refl _)
  refine ⟨_, xs, rfl, ?_, fun x hxm => ?_, by omega⟩
  ·rw [RepT]
   refine ⟨some a, len, cap, rfl, hk0, by rw [h8z hk, hxl], hl, fun h => (by cases h), ?_⟩
   by_cases h0 : len = 0
   ·left
    have : xs = [] := List.eq_nil_of_length_eq_zero (by omega)
    subst this; rfl
   ·right
    obtain ⟨cs0, x0, _, hc0, hl0, _, _⟩ := hx 0 (by omega)
    have hce := (World.cells?_some hc0).2.2 0 hk0
    rw [Nat.zero_mul] at hce
    have hz : (a.add 0).add 0 = a := rfl
    rw [hz, List.getElem?_eq_getElem (by omega)] at hce
    obtain ⟨arr, ty, fr, h1, h2, _⟩ := q1z hce
    refine ⟨a.block, a.off, arr, ty, fr, by rw [← h2], trivial, h1, (g6q _ _).2 fun j c hj => ?_⟩
    obtain ⟨i, r, x, rfl, hr, hxi, hxr⟩ := n6z hk hj
    have hi : i < len := by rw [← hxl]; exact (List.getElem?_eq_some_iff.1 hxi).1
    obtain ⟨cs, x', h3, h4, h5, _, h6⟩ := hx i hi
    rw [hxi] at h3; cases h3
    obtain ⟨z, h7, h8⟩ := h6.get r c hxr
    have h9 := (World.cells?_some h4).2.2 r hr
    rw [h7] at h9
    obtain ⟨arr', ty', fr', g1, g2, g3⟩ := q1z h9
    have hblk : ((a.add (i * k)).add r).block = a.block := by unfold Addr.add; split <;> split <;> rfl
    have hoff : ((a.add (i * k)).add r).off = a.off + (i * k + r) := by
     unfold Addr.add; split <;> split <;> simp_all <;> omega
    rw [hblk, h1] at g1; cases g1
    rw [hoff] at g3
    exact ⟨z, g3, h8⟩
  ·obtain ⟨i, hi⟩ := List.getElem?_of_mem hxm
   obtain ⟨cs, x', h3, _, _, h5, _⟩ := hx i (by rw [← hxl]; exact (List.getElem?_eq_some_iff.1 hi).1)
   rw [hi] at h3; cases h3; exact h5
theorem p7q {α β : Type} (f : α → β) : ∀ l : List α, l.flatMap (fun x => [f x]) = l.map f
 | [] => rfl
 | a :: l => by rw [List.flatMap_cons, p7q f l]; rfl
theorem k0z {t : TypeId} {k : IntKind} (ht : P.underlying t = some (.int k)) {fuel : Nat} {cs : List Value} {y : DataW H × List MemPlace} (h : DataW.trod enc P w base spare held fuel t cs = some y) :
 ∃ n, (Lit.int k n).wf = true ∧ cs = [.int k n] := by
 obtain ⟨n, h1, _, h3⟩ := DataW.trod_int ht h
 exact ⟨n, h3, h1⟩
theorem z9q (n : Int) : RepT w (fun _ => True) (TI n) (.int .i64 n) := by rw [RepT]; exact ⟨rfl, rfl⟩
theorem b1j (b : ByteArray) : RepT w (fun _ => True) (TS b) (.string b) := by rw [RepT]; exact ⟨rfl, rfl⟩
abbrev WfI (n : Int) : Prop := (Lit.int .i64 n).wf = true
theorem e6x {t e : TypeId} (ht : P.underlying t = some (.slice e)) (he : P.underlying e = some (.int .i64)) (hc : P.cellsOf e = 1) {fuel : Nat} {cs : List Value} {y : DataW H × List MemPlace}
 (h : DataW.trod enc P w base spare held fuel t cs = some y) : ∃ v l, cs = [v] ∧ RepT w (fun _ => True) (c0q l) v ∧ (∀ x ∈ l, WfI x) ∧ l.length ≤ maxLen := by
 obtain ⟨v, l, h1, h2, h3, h4⟩ := r7q (fun n : Int => [TI n]) WfI Nat.one_pos (fun _ => rfl) ht hc (fun m cs y hl hy => by
  obtain ⟨n, hw, rfl⟩ := k0z he hy
  exact ⟨n, hw, z9q n, trivial⟩) h
 refine ⟨v, l, h1, ?_, h3, h4⟩
 have : l.flatMap (fun n : Int => [TI n]) = l.map TI := p7q TI l
 rw [this] at h2; exact h2
theorem b2j {t e : TypeId} (ht : P.underlying t = some (.slice e)) (he : P.underlying e = some .string) (hc : P.cellsOf e = 1) {fuel : Nat} {cs : List Value} {y : DataW H × List MemPlace}
 (h : DataW.trod enc P w base spare held fuel t cs = some y) : ∃ v l, cs = [v] ∧ RepT w (fun _ => True) (d1q l) v ∧ (∀ x ∈ l, x.size ≤ maxLen) ∧ l.length ≤ maxLen := by
 obtain ⟨v, l, h1, h2, h3, h4⟩ := r7q (fun n : ByteArray => [TS n]) (fun b => b.size ≤ maxLen) Nat.one_pos (fun _ => rfl) ht hc (fun m cs y hl hy => by
  obtain ⟨n, rfl, _, hw⟩ := DataW.trod_string he hy
  exact ⟨n, hw, b1j n, trivial⟩) h
 refine ⟨v, l, h1, ?_, h3, h4⟩
 have : l.flatMap (fun n : ByteArray => [TS n]) = l.map TS := p7q TS l
 rw [this] at h2; exact h2
theorem n8q {α : Type} {cs : List α} {i : Nat} {x : α} (h : (cs.drop i).take 1 = [x]) : cs[i]? = some x := by
 have := congrArg (fun l => l[0]?) h
 simp only [List.getElem?_take, List.getElem?_drop] at this
 simpa using this
theorem t9x {α : Type} {cs : List α} {x y : α} (hl : cs.length = 2) (h0 : cs[0]? = some x) (h1 : cs[1]? = some y) : cs = [x, y] := by
 match cs, hl with
 | [a, b], _ => simp at h0 h1; subst h0; subst h1; rfl
theorem c0j {α : Type} {cs : List α} {x y z : α} (hl : cs.length = 3) (h0 : cs[0]? = some x) (h1 : cs[1]? = some y) (h2 : cs[2]? = some z) : cs = [x, y, z] := by
 match cs, hl with
 | [a, b, c], _ => simp at h0 h1 h2; subst h0; subst h1; subst h2; rfl
open Go.ChangeShapes in
theorem s0x {t e i : TypeId} {f0 f1 : Field} (ht : P.underlying t = some (.slice e)) (he : P.underlying e = some (.struct #[f0, f1])) (hc : P.cellsOf e = 2)
 (h0 : f0.offset = 0 ∧ f0.type = i) (h1 : f1.offset = 1 ∧ f1.type = i) (hi : P.underlying i = some (.int .i64)) (hci : P.cellsOf i = 1) {fuel : Nat} {cs : List Value} {y : DataW H × List MemPlace}
 (h : DataW.trod enc P w base spare held fuel t cs = some y) : ∃ v l, cs = [v] ∧ RepT w (fun _ => True) (b3q l) v ∧ (∀ x ∈ l, WfI x.1 ∧ WfI x.2) ∧ l.length ≤ maxLen := by
 refine r7q l2q (fun p => WfI p.1 ∧ WfI p.2) (by decide) (fun _ => rfl) ht hc (fun m cs y hl hy => ?_) h
 obtain ⟨y0, y1, n, _, _, g0, g1⟩ := trod_struct2 he hy
 rw [h0.1, h0.2, hci, List.drop_zero] at g0
 rw [h1.1, h1.2, hci] at g1
 obtain ⟨a, ha, e0⟩ := k0z hi g0
 obtain ⟨b, hb, e1⟩ := k0z hi g1
 rw [t9x hl (n8q (i := 0) (by rw [List.drop_zero]; exact e0)) (n8q e1)]
 exact ⟨(a, b), ⟨ha, hb⟩, z9q a, z9q b, trivial⟩
def OkOb (o : Ob) : Prop := (∀ x ∈ o.labels, x.size ≤ maxLen) ∧ o.labels.length ≤ maxLen ∧ (∀ x ∈ o.pairs, WfI x.1 ∧ WfI x.2) ∧ o.pairs.length ≤ maxLen
structure ObTys (P : Program) (t ls ps s p i : TypeId) : Prop where
 ob : ∃ f0 f1, P.underlying t = some (.struct #[f0, f1]) ∧ (f0.offset = 0 ∧ f0.type = ls) ∧ (f1.offset = 1 ∧ f1.type = ps)
 c2 : P.cellsOf t = 2
 cls : P.cellsOf ls = 1
 cps : P.cellsOf ps = 1
 ls : P.underlying ls = some (.slice s)
 ps : P.underlying ps = some (.slice p)
 st : P.underlying s = some .string
 cst : P.cellsOf s = 1
 pr : ∃ f0 f1, P.underlying p = some (.struct #[f0, f1]) ∧ (f0.offset = 0 ∧ f0.type = i) ∧ (f1.offset = 1 ∧ f1.type = i)
 cpr : P.cellsOf p = 2
 it : P.underlying i = some (.int .i64)
 ci : P.cellsOf i = 1
open Go.ChangeShapes in
theorem d9j {t ls ps s p i : TypeId} (K : ObTys P t ls ps s p i) {fuel : Nat} {cs : List Value} {y : DataW H × List MemPlace}
 (h : DataW.trod enc P w base spare held fuel t cs = some y) : ∃ o : Ob, OkOb o ∧ All2 (RepT w fun _ => True) [d1q o.labels, b3q o.pairs] cs := by
 obtain ⟨f0, f1, hu, hf0, hf1⟩ := K.ob
 obtain ⟨p0, p1, hp, hp0, hp1⟩ := K.pr
 obtain ⟨y0, y1, n, _, hl, g0, g1⟩ := trod_struct2 hu h
 rw [K.c2] at hl
 rw [hf0.1, hf0.2, K.cls, List.drop_zero] at g0
 rw [hf1.1, hf1.2, K.cps] at g1
 obtain ⟨v0, l0, e0, r0, q0, b0⟩ := b2j K.ls K.st K.cst g0
 obtain ⟨v1, l1, e1, r1, q1, b1⟩ := s0x K.ps hp K.cpr hp0 hp1 K.it K.ci g1
 rw [t9x hl (n8q (i := 0) (by rw [List.drop_zero]; exact e0)) (n8q e1)]
 exact ⟨⟨l0, l1⟩, ⟨q0, b0, q1, b1⟩, r0, r1, trivial⟩
end
def S0 : Sg := ⟨0, fun _ => none⟩
def R0 : Rho := fun _ => ⟨none, 0, 0⟩
theorem fr0 (b : Nat) : Fr S0 R0 b := fun n k h => by cases h
theorem rep0 {w : World} {x : T} {y : Value} (h : RepT w (fun _ => True) x y) : RepT w (Fr S0 R0) x y := RepT.mono (fun b _ _ _ _ hb => ⟨fr0 b, hb⟩) h
theorem t9z {v x y : Value} (h : v.cells.toList = [x, y]) : v = .agg #[x, y] := by
 cases v with
 | agg cs => congr 1; exact Array.ext' (by simpa [Value.cells] using h)
 | _ => simp [Value.cells] at h
theorem cells_one {v x : Value} (h : v.cells.toList = [x]) (hx : v.oneCell' = true) : v = x := by
 cases v with
 | agg cs => cases hx
 | _ => simpa [Value.cells] using h
theorem vr_ob {P : Program} {w : World} {o : Ob} {v : Value} (h : All2 (RepT w fun _ => True) [d1q o.labels, b3q o.pairs] v.cells.toList) : VR P w S0 R0 (vObj o) v := by
 match hv : v.cells.toList, h with
 | [x, y], ⟨h0, h1, _⟩ =>
  rw [t9z hv]
  exact ⟨[x, y], rfl, rep0 h0, rep0 h1, trivial⟩
theorem sr0 {P : Program} {w : World} (h : t3z P w.heap.size w) : SR P w.heap.size S0 R0 w where
 lt n b hn := by cases hn
 lo n b bl hn := by cases hn
 inj n n' b b' bl hn := by cases hn
 rep n b hn := by cases hn
 tab := h
theorem l8z {P : Program} {g : Nat} {args : List V} {b : Bool} (h : f7q P g args (Bo b)) {w : World} {vs : Array Value} (ht : t3z P w.heap.size w) (ha : All2 (VR P w S0 R0) args vs.toList) :
 Calls P g vs w fun e w' => e = .returned (.bool b) ∧ w'.os = w.os ∧ w'.output = w.output ∧ w.heap.size ≤ w'.heap.size ∧ ∀ i, i < w.heap.size → w'.heap[i]? = w.heap[i]? := by
 have h1 := h S0 w.heap.size R0 w vs.toList (sr0 ht) (Nat.le_refl _) ha
 refine Calls.mono (R := fun x w' => ∃ y v s' ρ', x = .returned y ∧ (v = Bo b ∧ s' = S0) ∧ SR P w.heap.size s' ρ' w' ∧ VR P w' s' ρ' v y ∧ Stp S0 R0 w s' ρ' w') ?_ fun e w' he => ?_
 ·exact CallsIn.calls h1 (b5x none)
 ·obtain ⟨y, v, s', ρ', rfl, ⟨rfl, rfl⟩, _, hv, hs⟩ := he
  have hy : y = .bool b := (repV (w := w') (A := Fr S0 ρ') hv)
  exact ⟨by rw [hy], hs.os, hs.output, hs.size, fun i hi => hs.same i hi (fr0 i)⟩
section
variable {H : Type} {enc : TypeId × Value → H} {P : Program} {w w' : World}
theorem s2x {p : MemPlace} (h : ∀ i, i < w.heap.size → w'.heap[i]? = w.heap[i]?) (hp : p.block < w.heap.size) : w.sameAt w' p := by
 cases p with
 | cell b off => show w'.cell? _ = w.cell? _; unfold World.cell?; rw [h b hp]
 | map b => exact h b hp
theorem a5z {base : Nat} {spare : Nat → Bool} {held : Bool} (h : ∀ i, i < w.heap.size → w'.heap[i]? = w.heap[i]?) : ∀ {ts : List TypeId} {vs : List Value} {ds : List (DataW H)} {ps : List MemPlace}, (∀ p ∈ ps, p.block < w.heap.size) →
 DataW.TrodAll enc P w base spare held ts vs ds ps → DataW.TrodAll enc P w' base spare held ts vs ds ps
 | [], [], [], _, _, hh => hh
 | _ :: _, _ :: _, _ :: _, _, hp, ⟨p, q, ⟨n, hn⟩, hs, e⟩ => by
  subst e
  exact ⟨p, q, ⟨n, DataW.trod_carry n _ _ _ hn fun x hx => s2x h (hp x (by simp [hx]))⟩, a5z h (fun x hx => hp x (by simp [hx])) hs, rfl⟩
 | [], _ :: _, _, _, _, hh => by cases hh
 | [], [], _ :: _, _, _, hh => by cases hh
 | _ :: _, [], _, _, _, hh => by cases hh
 | _ :: _, _ :: _, [], _, _, hh => by cases hh
open Go.ChangeShapes Go.WideShapes in
theorem q8x {f : Func} {s : ChangeSpec} {apart fresh handsOn again : Bool} {W W' : World} {args : Array Value} {ds : List (DataW H)} {before : List MemPlace} {t : TypeId}
 (K : Kids P (· < P.types.size)) (F : ∀ t e, t < P.types.size → P.underlying t = some (.slice e) → 0 < P.cellsOf e) (hts : ∀ t ∈ f.params.toList, t < P.types.size)
 (hW : DataW.Whole enc P f.params.toList s.vars apart W args.toList ds [] before) (hv : s.vars = []) (hr : f.resultTypes = #[t]) (hb : P.underlying t = some .bool)
 (hs : s.fn H (ds ++ []) = { results := [.lit (.bool true)], args := ds })
 (ho : W'.os = W.os) (hu : W'.output = W.output) (hz : W.heap.size ≤ W'.heap.size) (hh : ∀ i, i < W.heap.size → W'.heap[i]? = W.heap[i]?) :
 s.post enc P f apart fresh handsOn again W args (.bool true) W' := by
 have hlt := hW.lt
 have hWk := hW
 obtain ⟨p, q, hA, hV, hpq, hfz, hn⟩ := hW
 rw [hv] at hV
 obtain ⟨_, rfl⟩ := trodVars_none hV
 rw [List.append_nil] at hpq
 subst hpq
 have hres : ∀ (b : Nat) (sp : Nat → Bool) (hd : Bool), DataW.TrodAll enc P W' b sp hd f.resultTypes.toList ((Value.bool true).resultList f.resultTypes.size) (s.fn H (ds ++ [])).results [] := fun b sp hd => by
  rw [hr, hs]; exact trodAll_mk1 (RowKit.shut_bool hb true)
 have hargs : ∀ sp : Nat → Bool, (∀ p ∈ before, sp p.block = true) → DataW.TrodAll enc P W' 0 sp true f.params.toList args.toList (s.fn H (ds ++ [])).args before := fun sp hsp => by
  rw [hs]; exact a5z hh hlt (DataW.TrodAll.respare K F hts hA hsp)
 have hvars : ∀ sp : Nat → Bool, DataW.TrodVars enc P W' sp s.vars (s.fn H (ds ++ [])).vars [] := fun sp => by rw [hv, hs]; exact rfl
 have hold : ∀ p ∈ before, (fun b => decide (b < W.heap.size)) p.block = true := fun p hp => by simpa using hlt p hp
 refine ⟨ds, [], before, [], before, [], hWk, hres _ _ _, hargs _ hold, hvars _, ⟨ho, hu, fun i hi => ?_⟩, fun _ => ⟨?_, _, _, ([] ++ before) ++ [], ⟨[] ++ before, [], trodAll_append (hargs _ (fun _ _ => rfl)) (hres _ _ _), hvars _, rfl, ?_, ?_⟩, ?_⟩⟩
 ·rw [hh i hi]
  split <;> simp_all
 ·rw [hr]; exact RowKit.ok_one (f := { f with resultTypes := #[t] }) rfl rfl (RowKit.okWide_bool_mk hb true)
 ·intro b off hp
  have hp' : MemPlace.cell b off ∈ before := by simpa using hp
  have := hfz b off hp'
  unfold World.frozen? at this ⊢
  rw [hh b (hlt _ hp')]; exact this
 ·intro ha; simpa using hn ha
 ·intro p hp _; simpa using hp
end
end Go.Proofs

/- Lemmas on the way to the statement of this claim; no conditions. -/
import Derived.Test.YthoolojombciiaaDoorB35
import Derived.Test.YthoolojombciiaaDoorB36
import Derived.Test.YthoolojombciiaaDoorB42
import Derived.Test.YthoolojombciiaaDoorB46
open Go Go.V
namespace Go.Proofs
def labsT (l : List Ob) (k : Nat) : List ByteArray := (l.take k).flatMap (·.labels)
def prsT (l : List Ob) : Nat → List (Int × Int)
  | 0 => []
  | k + 1 => prsT l k ++ (match l[k]? with | some o => o.pairs.map (shP (labsT l k).length) | none => [])
def legT (n base : Nat) : List Int := (List.range n).map fun (i : Nat) => ((base + i : Nat) : Int)
def legsT (l : List Ob) : Nat → List (List Int)
  | 0 => []
  | k + 1 => legsT l k ++ (match l[k]? with | some o => [legT o.labels.length (labsT l k).length] | none => [])
def bsS (l : List Ob) : Ob := ⟨labsT l l.length, prsT l l.length⟩
def legC (n base i : Nat) : List Int := (List.range n).map fun j => if j < i then ((base + j : Nat) : Int) else 0
theorem legC_length (n base i : Nat) : (legC n base i).length = n := by simp [legC]
theorem legC_zero (n base : Nat) : repl [TI 0] n = (legC n base 0).map TI := by
  rw [repl_one]
  apply List.ext_getElem <;> simp [legC]
theorem legC_set {n base i : Nat} (h : i < n) : setAll ((legC n base i).map TI) i [TI ((base : Int) + i)] = (legC n base (i + 1)).map TI := by
  rw [setAll_TI2 _ (by rw [legC_length]; exact h)]
  congr 1
  apply List.ext_getElem
  · simp [legC]
  · intro j h1 h2
    rw [List.getElem_set]
    simp only [legC, List.getElem_map, List.getElem_range]
    split
    · rename_i e; subst e; simp
    · rename_i e
      by_cases hj : j < i
      · simp [hj]; omega
      · have : ¬ j < i + 1 := by omega
        simp [hj, this]
theorem legC_full (n base : Nat) : legC n base n = legT n base := by
  apply List.ext_getElem
  · simp [legC, legT]
  · intro j h1 h2
    simp [legC, legT] at h1 ⊢
    omega
theorem labsT_succ {l : List Ob} {k : Nat} {o : Ob} (h : l[k]? = some o) : labsT l (k + 1) = labsT l k ++ o.labels := by
  unfold labsT; rw [List.take_add_one, h]; simp
theorem prsT_succ {l : List Ob} {k : Nat} {o : Ob} (h : l[k]? = some o) : prsT l (k + 1) = prsT l k ++ o.pairs.map (shP (labsT l k).length) := by simp only [prsT, h]
theorem legsT_succ {l : List Ob} {k : Nat} {o : Ob} (h : l[k]? = some o) : legsT l (k + 1) = legsT l k ++ [legT o.labels.length (labsT l k).length] := by simp only [legsT, h]
theorem legsT_length (l : List Ob) : ∀ k, k ≤ l.length → (legsT l k).length = k
  | 0, _ => rfl
  | k + 1, h => by
    rw [legsT_succ (List.getElem?_eq_getElem (show k < l.length by omega)), List.length_append, legsT_length l k (by omega)]; rfl
structure BsOK (l : List Ob) : Prop where
  n : l.length ≤ 10
  ob : ∀ o ∈ l, IsOb o
  pr : ∀ o ∈ l, o.pairs.length ≤ 1000
set_option maxRecDepth 4000 in
theorem BsOK.labs {l : List Ob} (h : BsOK l) : ∀ k, (labsT l k).length ≤ k * 40
  | 0 => by simp [labsT]
  | k + 1 => by
    have ih := h.labs k
    cases ho : l[k]? with
    | none => unfold labsT at ih ⊢; rw [List.take_add_one, ho]; simp at ih ⊢; omega
    | some o =>
      have := (h.ob o (List.mem_of_getElem? ho)).le
      rw [labsT_succ ho, List.length_append]; omega
set_option maxRecDepth 4000 in
theorem BsOK.prs {l : List Ob} (h : BsOK l) : ∀ k, (prsT l k).length ≤ k * 1000
  | 0 => by simp [prsT]
  | k + 1 => by
    have ih := h.prs k
    cases ho : l[k]? with
    | none => simp only [prsT, ho, List.append_nil]; omega
    | some o =>
      have := h.pr o (List.mem_of_getElem? ho)
      rw [prsT_succ ho, List.length_append, List.length_map]; omega
structure BsI (s : Sg) (n0 : Nat) (L : List ByteArray) (P : List (Int × Int)) (G : List (List Int)) (X : Nat → Prop) (s' : Sg) (m1 m2 m3 : Nat) : Prop where
  o2 : s'.m s.next = some (.box 26 [.t (.v (.slice none 0 0)), .t (.v (.slice none 0 0))])
  o4 : s'.m (s.next + 1) = some (.box 26 [.loc m1 0 L.length, .loc m2 0 P.length])
  o5 : s'.m (s.next + 2) = some (.box 56 [.loc m3 0 G.length])
  a1 : s'.m m1 = some (.arr 1 9 (L.map TS))
  a2 : s'.m m2 = some (.arr 2 30 (P.flatMap pcells))
  a3 : s'.m m3 = some (.arr 1 27 (G.map tInts))
  same : ∀ j, j < s.next → s'.m j = s.m j
  nx : n0 < s'.next
  lo : s.next + 6 < n0
  r1 : s.next + 3 ≤ m1 ∧ m1 < s'.next ∧ m1 ≠ s.next + 6 ∧ m1 ≠ n0
  r2 : s.next + 3 ≤ m2 ∧ m2 < s'.next ∧ m2 ≠ s.next + 6 ∧ m2 ≠ n0
  r3 : s.next + 3 ≤ m3 ∧ m3 < s'.next ∧ m3 ≠ s.next + 6 ∧ m3 ≠ n0
  d : m1 ≠ m2 ∧ m1 ≠ m3 ∧ m2 ≠ m3
  hX : ∀ x, X x → n0 < x ∧ x < s'.next ∧ x ≠ m1 ∧ x ≠ m2 ∧ x ≠ m3
variable {s : Sg} {n0 : Nat} {L : List ByteArray} {P : List (Int × Int)} {G : List (List Int)} {X : Nat → Prop} {s' : Sg} {m1 m2 m3 : Nat}
theorem BsI.add (h : BsI s n0 L P G X s' m1 m2 m3) (b : Blk) : BsI s n0 L P G (fun x => X x ∨ x = s'.next) (s'.add b) m1 m2 m3 := by
  have h0 := h.nx; have h1 := h.r1; have h2 := h.r2; have h3 := h.r3; have hl := h.lo
  refine ⟨by simp [Sg.add, show s.next ≠ s'.next by omega, h.o2], by simp [Sg.add, show s.next + 1 ≠ s'.next by omega, h.o4], by simp [Sg.add, show s.next + 2 ≠ s'.next by omega, h.o5], by simp [Sg.add, show m1 ≠ s'.next by omega, h.a1], by simp [Sg.add, show m2 ≠ s'.next by omega, h.a2], by simp [Sg.add, show m3 ≠ s'.next by omega, h.a3],
    fun j hj => by simp [Sg.add, show j ≠ s'.next by omega, h.same j hj], by simp [Sg.add]; omega, hl, ⟨h1.1, by simp [Sg.add]; omega, h1.2.2⟩, ⟨h2.1, by simp [Sg.add]; omega, h2.2.2⟩, ⟨h3.1, by simp [Sg.add]; omega, h3.2.2⟩, h.d, fun x hx => ?_⟩
  rcases hx with hx | rfl
  · have := h.hX x hx; exact ⟨this.1, by simp [Sg.add]; omega, this.2.2⟩
  · exact ⟨h0, by simp [Sg.add], by omega, by omega, by omega⟩
theorem BsI.chg (h : BsI s n0 L P G X s' m1 m2 m3) {x : Nat} (hx : n0 ≤ x ∨ x = s.next + 6) (h1 : x ≠ m1) (h2 : x ≠ m2) (h3 : x ≠ m3) (b : Blk) : BsI s n0 L P G X (s'.set x b) m1 m2 m3 := by
  have hl := h.lo
  exact ⟨by simp [Sg.set, show s.next ≠ x by omega, h.o2], by simp [Sg.set, show s.next + 1 ≠ x by omega, h.o4], by simp [Sg.set, show s.next + 2 ≠ x by omega, h.o5], by simp [Sg.set, Ne.symm h1, h.a1], by simp [Sg.set, Ne.symm h2, h.a2], by simp [Sg.set, Ne.symm h3, h.a3],
    fun j hj => by simp [Sg.set, show j ≠ x by omega, h.same j hj], h.nx, hl, h.r1, h.r2, h.r3, h.d, h.hX⟩
theorem BsI.set (h : BsI s n0 L P G X s' m1 m2 m3) {x : Nat} (hx : X x) (b : Blk) : BsI s n0 L P G X (s'.set x b) m1 m2 m3 := by
  have := h.hX x hx; exact h.chg (.inl (by omega)) this.2.2.1 this.2.2.2.1 this.2.2.2.2 b
theorem BsI.recd (h : BsI s n0 L P G X s' m1 m2 m3) (b : Blk) : BsI s n0 L P G X (s'.set n0 b) m1 m2 m3 :=
  h.chg (.inl (Nat.le_refl _)) (Ne.symm h.r1.2.2.2) (Ne.symm h.r2.2.2.2) (Ne.symm h.r3.2.2.2) b
theorem BsI.del (h : BsI s n0 L P G X s' m1 m2 m3) {x : Nat} (hx : n0 ≤ x) (h1 : x ≠ m1) (h2 : x ≠ m2) (h3 : x ≠ m3) : BsI s n0 L P G X (s'.del x) m1 m2 m3 := by
  have hl := h.lo
  exact ⟨by simp [Sg.del, show s.next ≠ x by omega, h.o2], by simp [Sg.del, show s.next + 1 ≠ x by omega, h.o4], by simp [Sg.del, show s.next + 2 ≠ x by omega, h.o5], by simp [Sg.del, Ne.symm h1, h.a1], by simp [Sg.del, Ne.symm h2, h.a2], by simp [Sg.del, Ne.symm h3, h.a3],
    fun j hj => by simp [Sg.del, show j ≠ x by omega, h.same j hj], h.nx, hl, h.r1, h.r2, h.r3, h.d, h.hX⟩
theorem BsI.sub (h : BsI s n0 L P G X s' m1 m2 m3) {Y : Nat → Prop} (hy : ∀ x, Y x → X x) : BsI s n0 L P G Y s' m1 m2 m3 := ⟨h.o2, h.o4, h.o5, h.a1, h.a2, h.a3, h.same, h.nx, h.lo, h.r1, h.r2, h.r3, h.d, fun x hx => h.hX x (hy x hx)⟩
theorem BsI.push1 (h : BsI s n0 L P G X s' m1 m2 m3) (M : List ByteArray) : BsI s n0 (L ++ M) P G X (((s'.del m1).add (.arr 1 9 (L.map TS ++ M.map TS))).set (s.next + 1) (.box 26 [.loc s'.next 0 (L ++ M).length, .loc m2 0 P.length])) s'.next m2 m3 := by
  have h0 := h.nx; have h1 := h.r1; have h2 := h.r2; have h3 := h.r3; have hl := h.lo; obtain ⟨d1, d2, d3⟩ := h.d
  refine ⟨by simp [Sg.set, Sg.add, Sg.del, show s.next ≠ s'.next by omega, show s.next ≠ m1 by omega, h.o2] <;> omega, by simp [Sg.set], by simp [Sg.set, Sg.add, Sg.del, show s.next + 2 ≠ s'.next by omega, show s.next + 2 ≠ m1 by omega, h.o5] <;> omega, by simp [Sg.set, Sg.add, Sg.del, show s'.next ≠ s.next + 1 by omega] <;> omega, by simp [Sg.set, Sg.add, Sg.del, show m2 ≠ s.next + 1 by omega, show m2 ≠ s'.next by omega, Ne.symm d1, h.a2] <;> omega, by simp [Sg.set, Sg.add, Sg.del, show m3 ≠ s.next + 1 by omega, show m3 ≠ s'.next by omega, Ne.symm d2, h.a3] <;> omega,
    fun j hj => by simp [Sg.set, Sg.add, Sg.del, show j ≠ s.next + 1 by omega, show j ≠ s'.next by omega, show j ≠ m1 by omega, h.same j hj] <;> omega, by simp [Sg.set, Sg.add, Sg.del]; omega, hl, ⟨by omega, by simp [Sg.set, Sg.add, Sg.del] <;> omega, by omega, by omega⟩, ⟨h2.1, by simp [Sg.set, Sg.add, Sg.del]; omega, h2.2.2⟩, ⟨h3.1, by simp [Sg.set, Sg.add, Sg.del]; omega, h3.2.2⟩, ⟨by omega, by omega, d3⟩, fun x hx => ?_⟩
  have := h.hX x hx
  exact ⟨this.1, by simp [Sg.set, Sg.add, Sg.del]; omega, by omega, this.2.2.2⟩
theorem BsI.push2 (h : BsI s n0 L P G X s' m1 m2 m3) (B : Blk) (p : Int × Int) : BsI s n0 L (P ++ [p]) G X ((((s'.add B).del m2).add (.arr 2 30 (P.flatMap pcells ++ [TI p.1, TI p.2]))).set (s.next + 1) (.box 26 [.loc m1 0 L.length, .loc (s'.next + 1) 0 (P.length + 1)])) m1 (s'.next + 1) m3 := by
  have h0 := h.nx; have h1 := h.r1; have h2 := h.r2; have h3 := h.r3; have hl := h.lo; obtain ⟨d1, d2, d3⟩ := h.d
  refine ⟨by simp [Sg.set, Sg.add, Sg.del, show s.next ≠ s'.next by omega, show s.next ≠ s'.next + 1 by omega, show s.next ≠ m2 by omega, h.o2] <;> omega, by simp [Sg.set], by simp [Sg.set, Sg.add, Sg.del, show s.next + 2 ≠ s'.next by omega, show s.next + 2 ≠ s'.next + 1 by omega, show s.next + 2 ≠ m2 by omega, h.o5] <;> omega, by simp [Sg.set, Sg.add, Sg.del, show m1 ≠ s.next + 1 by omega, show m1 ≠ s'.next by omega, show m1 ≠ s'.next + 1 by omega, d1, h.a1] <;> omega, by simp [Sg.set, Sg.add, Sg.del, List.flatMap_append] <;> omega, by simp [Sg.set, Sg.add, Sg.del, show m3 ≠ s.next + 1 by omega, show m3 ≠ s'.next by omega, show m3 ≠ s'.next + 1 by omega, Ne.symm d3, h.a3] <;> omega,
    fun j hj => by simp [Sg.set, Sg.add, Sg.del, show j ≠ s.next + 1 by omega, show j ≠ s'.next by omega, show j ≠ s'.next + 1 by omega, show j ≠ m2 by omega, h.same j hj] <;> omega, by simp [Sg.set, Sg.add, Sg.del]; omega, hl, ⟨h1.1, by simp [Sg.set, Sg.add, Sg.del]; omega, h1.2.2⟩, ⟨by omega, by simp [Sg.set, Sg.add, Sg.del] <;> omega, by omega, by omega⟩, ⟨h3.1, by simp [Sg.set, Sg.add, Sg.del]; omega, h3.2.2⟩, ⟨by omega, d2, by omega⟩, fun x hx => ?_⟩
  have := h.hX x hx
  exact ⟨this.1, by simp [Sg.set, Sg.add, Sg.del]; omega, this.2.2.1, by omega, this.2.2.2.2⟩
theorem BsI.push3 (h : BsI s n0 L P G X s' m1 m2 m3) (B : Blk) (g : List Int) : BsI s n0 L P (G ++ [g]) X ((((s'.add B).del m3).add (.arr 1 27 (G.map tInts ++ [tInts g]))).set (s.next + 2) (.box 56 [.loc (s'.next + 1) 0 (G.length + 1)])) m1 m2 (s'.next + 1) := by
  have h0 := h.nx; have h1 := h.r1; have h2 := h.r2; have h3 := h.r3; have hl := h.lo; obtain ⟨d1, d2, d3⟩ := h.d
  refine ⟨by simp [Sg.set, Sg.add, Sg.del, show s.next ≠ s'.next by omega, show s.next ≠ s'.next + 1 by omega, show s.next ≠ m3 by omega, h.o2] <;> omega, by simp [Sg.set, Sg.add, Sg.del, show s.next + 1 ≠ s'.next by omega, show s.next + 1 ≠ m3 by omega, h.o4] <;> omega, by simp [Sg.set], by simp [Sg.set, Sg.add, Sg.del, show m1 ≠ s.next + 2 by omega, show m1 ≠ s'.next by omega, show m1 ≠ s'.next + 1 by omega, d2, h.a1] <;> omega, by simp [Sg.set, Sg.add, Sg.del, show m2 ≠ s.next + 2 by omega, show m2 ≠ s'.next by omega, show m2 ≠ s'.next + 1 by omega, d3, h.a2] <;> omega, by simp [Sg.set, Sg.add, Sg.del] <;> omega,
    fun j hj => by simp [Sg.set, Sg.add, Sg.del, show j ≠ s.next + 2 by omega, show j ≠ s'.next by omega, show j ≠ s'.next + 1 by omega, show j ≠ m3 by omega, h.same j hj] <;> omega, by simp [Sg.set, Sg.add, Sg.del]; omega, hl, ⟨h1.1, by simp [Sg.set, Sg.add, Sg.del]; omega, h1.2.2⟩, ⟨h2.1, by simp [Sg.set, Sg.add, Sg.del]; omega, h2.2.2⟩, ⟨by omega, by simp [Sg.set, Sg.add, Sg.del] <;> omega, by omega, by omega⟩, ⟨d1, by omega, by omega⟩, fun x hx => ?_⟩
  have := h.hX x hx
  exact ⟨this.1, by simp [Sg.set, Sg.add, Sg.del]; omega, this.2.2.1, this.2.2.2.1, by omega⟩
end Go.Proofs

open Go Go.V
namespace Go.Proofs
def BsO (s : Sg) (lp : Blk) (l : List Ob) (n0 : Nat) (X : Nat → Prop) (k : Nat) (s' : Sg) : Prop :=
  (∃ m1 m2 m3, BsI s n0 (labsT l k) (prsT l k) (legsT l k) X s' m1 m2 m3) ∧ s'.m (s.next + 6) = some (.box 77 [.t (tObjs l)]) ∧ s'.m n0 = some lp
theorem BsI.ext {s : Sg} {n0 : Nat} {L : List ByteArray} {P : List (Int × Int)} {G : List (List Int)} {X : Nat → Prop} {s1 s2 : Sg} {m1 m2 m3 : Nat} (h : BsI s n0 L P G X s1 m1 m2 m3) (hm : ∀ x, x < s1.next → s2.m x = s1.m x) (hn : s2.next = s1.next + 1) : BsI s n0 L P G (fun x => X x ∨ x = s1.next) s2 m1 m2 m3 := by
  have h0 := h.nx; have h1 := h.r1; have h2 := h.r2; have h3 := h.r3; have hl := h.lo
  refine ⟨by rw [hm _ (by omega)]; exact h.o2, by rw [hm _ (by omega)]; exact h.o4, by rw [hm _ (by omega)]; exact h.o5, by rw [hm _ h1.2.1]; exact h.a1, by rw [hm _ h2.2.1]; exact h.a2, by rw [hm _ h3.2.1]; exact h.a3, fun j hj => by rw [hm j (by omega)]; exact h.same j hj, by omega, hl, ⟨h1.1, by omega, h1.2.2⟩, ⟨h2.1, by omega, h2.2.2⟩, ⟨h3.1, by omega, h3.2.2⟩, h.d, fun x hx => ?_⟩
  rcases hx with hx | rfl
  · have := h.hX x hx; exact ⟨this.1, by omega, this.2.2⟩
  · exact ⟨h0, by omega, by omega, by omega, by omega⟩
theorem BsO.add {s : Sg} {lp : Blk} {l : List Ob} {n0 : Nat} {X : Nat → Prop} {k : Nat} {s' : Sg} (h : BsO s lp l n0 X k s') (b : Blk) : BsO s lp l n0 (fun x => X x ∨ x = s'.next) k (s'.add b) := by
  obtain ⟨⟨m1, m2, m3, hb⟩, hc, hl⟩ := h
  have h0 := hb.nx; have h1 := hb.lo
  exact ⟨⟨m1, m2, m3, hb.add b⟩, by simp [Sg.add, show s.next + 6 ≠ s'.next by omega, hc], by simp [Sg.add, show n0 ≠ s'.next by omega, hl]⟩
theorem BsO.set {s : Sg} {lp : Blk} {l : List Ob} {n0 : Nat} {X : Nat → Prop} {k : Nat} {s' : Sg} (h : BsO s lp l n0 X k s') {x : Nat} (hx : X x) (b : Blk) : BsO s lp l n0 X k (s'.set x b) := by
  obtain ⟨⟨m1, m2, m3, hb⟩, hc, hl⟩ := h
  have h0 := hb.nx; have h1 := hb.lo; have h2 := hb.hX x hx
  exact ⟨⟨m1, m2, m3, hb.set hx b⟩, by simp [Sg.set, show s.next + 6 ≠ x by omega, hc], by simp [Sg.set, show n0 ≠ x by omega, hl]⟩
theorem BsO.lt {s : Sg} {lp : Blk} {l : List Ob} {n0 : Nat} {X : Nat → Prop} {k : Nat} {s' : Sg} (h : BsO s lp l n0 X k s') : ∀ x, X x → x < s'.next := fun x hx => by
  obtain ⟨⟨m1, m2, m3, hb⟩, _⟩ := h
  exact (hb.hX x hx).2.1
structure BsP (s : Sg) (n0 : Nat) (L : List ByteArray) (P0 : List (Int × Int)) (G : List (List Int)) (l : List (Int × Int)) (B : Nat) (F Z : Nat → Prop) (sf : Sg) (n2 cb : Nat) (lp2 : Blk) (Y : Nat → Prop) (j : Nat) (s' : Sg) : Prop where
  b : ∃ m1 m2 m3, BsI s n0 L (P0 ++ (l.take j).map (shP B)) G (fun x => Y x ∨ F x) s' m1 m2 m3
  y : ∀ x, Y x → n2 < x ∧ x < s'.next
  c : s'.m cb = some (.box 24 [.t (tPairs l)])
  r : s'.m n2 = some lp2
  z : ∀ x, Z x → s'.m x = sf.m x
  n : n2 < s'.next
theorem BsI.subst {s : Sg} {n0 : Nat} {L : List ByteArray} {P P' : List (Int × Int)} {G : List (List Int)} {X : Nat → Prop} {s' : Sg} {m1 m2 m3 : Nat} (h : BsI s n0 L P G X s' m1 m2 m3) (e : P = P') : BsI s n0 L P' G X s' m1 m2 m3 := e ▸ h
variable {s : Sg} {n0 : Nat} {L : List ByteArray} {P0 : List (Int × Int)} {G : List (List Int)} {l : List (Int × Int)} {B : Nat} {F Z : Nat → Prop} {sf : Sg} {n2 cb : Nat} {lp2 : Blk} {Y : Nat → Prop} {j : Nat} {s' : Sg}
theorem BsP.add (h : BsP s n0 L P0 G l B F Z sf n2 cb lp2 Y j s') (hc : cb < n2) (hZ : ∀ x, Z x → x < n2) (b : Blk) : BsP s n0 L P0 G l B F Z sf n2 cb lp2 (fun x => Y x ∨ x = s'.next) j (s'.add b) := by
  obtain ⟨m1, m2, m3, hb⟩ := h.b
  have hn := h.n
  refine ⟨⟨m1, m2, m3, (hb.add b).sub fun x hx => ?_⟩, fun x hx => ?_, by simp [Sg.add, show cb ≠ s'.next by omega, h.c], by simp [Sg.add, show n2 ≠ s'.next by omega, h.r], fun x hx => by simp [Sg.add, show x ≠ s'.next by have := hZ x hx; omega, h.z x hx], by simp [Sg.add]; omega⟩
  · rcases hx with (hx | hx) | hx
    · exact .inl (.inl hx)
    · exact .inr hx
    · exact .inl (.inr hx)
  · rcases hx with hx | rfl
    · have := h.y x hx; exact ⟨this.1, by simp [Sg.add]; omega⟩
    · exact ⟨hn, by simp [Sg.add]⟩
theorem BsP.set (h : BsP s n0 L P0 G l B F Z sf n2 cb lp2 Y j s') (hc : cb < n2) (hZ : ∀ x, Z x → x < n2) {x : Nat} (hx : Y x) (b : Blk) : BsP s n0 L P0 G l B F Z sf n2 cb lp2 Y j (s'.set x b) := by
  obtain ⟨m1, m2, m3, hb⟩ := h.b
  have hy := h.y x hx
  exact ⟨⟨m1, m2, m3, hb.set (.inl hx) b⟩, h.y, by simp [Sg.set, show cb ≠ x by omega, h.c], by simp [Sg.set, show n2 ≠ x by omega, h.r], fun z hz => by simp [Sg.set, show z ≠ x by have := hZ z hz; omega, h.z z hz], h.n⟩
theorem vw_pt {s1 : Sg} {b1 b2 b3 : Blk} {n1 n2 : Nat} {s2 : Sg} {R : Sg → Prop} (h : (((s1.add b1).del n2).add b2).set n1 b3 = s2)
    (H : ∀ s9 : Sg, s9 = (((s1.add b1).del n2).add b2).set n1 b3 → (∀ x, x ≠ n1 → x ≠ n2 → x < s1.next → s9.m x = s1.m x) → s9.next = s1.next + 2 → R s9) : R s2 :=
  h ▸ H _ rfl (fun x h1 h2 h3 => by rw [m_set, if_neg h1, m_add, if_neg (by simp only [n_del, n_add]; omega), m_del, if_neg h2, m_add, if_neg (by omega)]) rfl
set_option maxRecDepth 20000 in
set_option maxHeartbeats 6000000 in
theorem beside_ (l : List Ob) (H : BsOK l) : PCall Tryd.prog 25 [.t (tObjs l)] (.tup [vObj (bsS l), .t (tMat (legsT l l.length))]) := by
  refine pcall_of_body Tryd.func25 rfl fun s Q hQ => ?_
  obtain ⟨e, he, hl, h0⟩ : ∃ e : Env, ([.t (tObjs l)] ++ List.replicate (Tryd.f25.ntmps - ([.t (tObjs l)] : List V).length) .junk) = e ∧ e.length = 63 ∧ ev e (.tmp 0) = .t (tObjs l) := ⟨_, rfl, rfl, rfl⟩
  rw [he]
  clear he
  refine vsk fun K1 hK1 => ?_
  refine vw_sc 0 [] ?_
  simp only [bs, ↓vopx, ↓vop, thenV, flat, wocs, ↓goc, ↓woc, ↓vopm0, Tryd.zv26]
  refine hK1 _ _ ?_
  refine vsk fun K2 hK2 => ?_
  refine vw_sc 0 [] ?_
  simp only [bs, ↓vopx, ↓vop, thenV, wocs, ↓goc, ↓woc, ↓vopm0, Tryd.zv26]
  refine hK2 _ _ ?_
  refine vsk fun K3 hK3 => ?_
  refine vw_sc 0 [] ?_
  simp only [bs, ↓vopx, ↓vop, thenV, wocs, ↓goc, ↓woc, ↓vopm0, Tryd.zv56]
  refine hK3 _ _ ?_
  refine vsk fun K4 hK4 => ?_
  refine vsk fun K5 hK5 => ?_
  refine VW.nameBox (s.next + 1) 0 1 9 (by omega) (ty := 26) (cs := [.t (.v (.slice none 0 0)), .t (.v (.slice none 0 0))]) (by simp [Sg.add]) rfl ?_
  refine VW.nameBox (s.next + 1) 1 2 30 (by omega) (ty := 26) (cs := [.loc (s.next + 3) 0 0, .t (.v (.slice none 0 0))]) (by simp [Sg.add, Sg.set]) rfl ?_
  refine VW.nameBox (s.next + 2) 0 1 27 (by omega) (ty := 56) (cs := [.t (.v (.slice none 0 0))]) (by simp [Sg.add, Sg.set]) rfl ?_
  refine vw_env2 fun e2 sn hE2 hSn => ?_
  subst hE2
  have hnn : sn.next = s.next + 6 := by rw [hSn]; rfl
  have nb2 : sn.m (s.next) = some (.box 26 [.t (.v (.slice none 0 0)), .t (.v (.slice none 0 0))]) := by rw [hSn]; simp only [Sg.set, Sg.add]; (repeat (first | rw [if_neg (by omega)] | rw [if_pos (by omega)])); exact if_pos trivial
  have nb4 : sn.m (s.next + 1) = some (.box 26 [.loc (s.next + 3) 0 0, .loc (s.next + 4) 0 0]) := by rw [hSn]; simp only [Sg.set, Sg.add]; (repeat (first | rw [if_neg (by omega)] | rw [if_pos (by omega)])); exact if_pos trivial
  have nb5 : sn.m (s.next + 2) = some (.box 56 [.loc (s.next + 5) 0 0]) := by rw [hSn]; simp only [Sg.set, Sg.add]; (repeat (first | rw [if_neg (by omega)] | rw [if_pos (by omega)])); exact if_pos trivial
  have na1 : sn.m (s.next + 3) = some (.arr 1 9 []) := by rw [hSn]; simp only [Sg.set, Sg.add]; (repeat (first | rw [if_neg (by omega)] | rw [if_pos (by omega)])); exact if_pos trivial
  have na2 : sn.m (s.next + 4) = some (.arr 2 30 []) := by rw [hSn]; simp only [Sg.set, Sg.add]; (repeat (first | rw [if_neg (by omega)] | rw [if_pos (by omega)])); exact if_pos trivial
  have na3 : sn.m (s.next + 5) = some (.arr 1 27 []) := by rw [hSn]; simp only [Sg.set, Sg.add]; (repeat (first | rw [if_neg (by omega)] | rw [if_pos (by omega)])); exact if_pos trivial
  have nsm : ∀ j, j < s.next → sn.m j = s.m j := fun j hj => by rw [hSn]; simp [Sg.set, Sg.add, show j ≠ s.next by omega, show j ≠ s.next + 1 by omega, show j ≠ s.next + 1 + 1 by omega, show j ≠ s.next + 1 + 1 + 1 by omega, show j ≠ s.next + 1 + 1 + 1 + 1 by omega, show j ≠ s.next + 1 + 1 + 1 + 1 + 1 by omega]
  clear hSn
  refine vw_sc 0 [.stop] ?_
  simp only [bs, ↓vopx, ↓vop, Nat.reduceBEq, thenV, Nat.reduceLT, hl, h0, wocs, ↓goc, ↓woc, ↓vopm0, ↓callC, calleeV]
  refine ⟨Tryd.is39, (valObjs_ _ l).mono fun v s2 hv => ?_⟩
  obtain ⟨rfl, rfl⟩ := hv
  try simp only [bs, Nat.reduceBEq, h0, Hold]
  rw [hnn]
  refine hK5 _ _ ?_
  refine vw_block ?_
  refine vw_env2 fun e1 s3 hE hS => ?_
  have hlE : e1.length = 63 := by rw [hE]; simp only [lpv, hl]
  have h2E : ev e1 (.tmp 2) = .ptr s.next 0 := by rw [hE]; simp only [ev_hit, ev_miss, Nat.reduceBEq, hl, Nat.reduceLT]
  have h4E : ev e1 (.tmp 4) = .ptr (s.next + 1) 0 := by rw [hE]; simp only [ev_hit, ev_miss, Nat.reduceBEq, lpv, hl, Nat.reduceLT]
  have h5E : ev e1 (.tmp 5) = .ptr (s.next + 2) 0 := by rw [hE]; simp only [ev_hit, ev_miss, Nat.reduceBEq, lpv, hl, Nat.reduceLT]
  have h12E : ev e1 (.tmp 12) = .clo 66 [.ptr (s.next + 6) 0] := by rw [hE]; simp only [ev_hit, lpv, hl, Nat.reduceLT]
  clear hE
  have h3n : s3.next = s.next + 7 := by rw [hS]; simp [Sg.add, hnn]
  have h3c : s3.m (s.next + 6) = some (.box 77 [.t (tObjs l)]) := by rw [hS, ← hnn]; simp [Sg.add]
  have h3o : ∀ x, x < s.next + 6 → s3.m x = sn.m x := fun x hx => by rw [hS, m_add, if_neg (by omega)]
  clear hS
  refine vw_range (g := 66) (caps := [.ptr (s.next + 6) 0]) h12E Tryd.func66 rfl (by decide) fun s4 h4e h4n h4m h4l => ?_
  have h4o : ∀ x, x < s.next + 6 → s4.m x = sn.m x := fun x hx => by rw [h4m x (by omega)]; exact h3o x hx
  have hst : BsO s _ l s3.next (fun _ => False) 0 s4 := ⟨⟨s.next + 3, s.next + 4, s.next + 5, ⟨by rw [h4o _ (by omega)]; exact nb2, by rw [h4o _ (by omega)]; exact nb4, by rw [h4o _ (by omega)]; exact nb5, by rw [h4o _ (by omega)]; exact na1, by rw [h4o _ (by omega)]; exact na2, by rw [h4o _ (by omega)]; exact na3, fun j hj => by rw [h4o _ (by omega)]; exact nsm j hj, by omega, by omega, ⟨by omega, by omega, by omega, by omega⟩, ⟨by omega, by omega, by omega, by omega⟩, ⟨by omega, by omega, by omega, by omega⟩, ⟨by omega, by omega, by omega⟩, fun x hx => hx.elim⟩⟩, by rw [h4m _ (by omega)]; exact h3c, h4l⟩
  refine (valObjs1_ s3.next (s.next + 6) l (by have := H.n; omega) _ (fun _ => False) ⟨fun X k s5 hp => ⟨hp.2.1, hp.lt⟩, fun X k s5 b hp => hp.add b, fun X k s5 x b hp hx => hp.set hx b, fun X k s5 hkl hp5 => ?_⟩ s4 hst).mono fun v s6 h6 => ?_
  rotate_left
  · rcases h6 with ⟨X, ⟨m1, m2, m3, hp6⟩, hc6, hl6⟩ | hF6
    rotate_left
    · exact hF6.elim
    refine ⟨none, .ready, hl6, by simp, ?_⟩
    have hll : l.length ≤ l.length := Nat.le_refl _
    simp only []
    refine hK4 _ _ ?_
    refine vsk fun K6 hK6 => ?_
    refine vw_env2 fun e2 sg hE2 hSg => ?_
    subst hE2
    have hG : BsI s s3.next (labsT l l.length) (prsT l l.length) (legsT l l.length) X sg m1 m2 m3 := by rw [hSg]; exact hp6.del (Nat.le_refl _) (Ne.symm hp6.r1.2.2.2) (Ne.symm hp6.r2.2.2.2) (Ne.symm hp6.r3.2.2.2)
    clear hSg
    have r1 := hG.r1
    have r2 := hG.r2
    have r3 := hG.r3
    obtain ⟨d1, d2, d3⟩ := hG.d
    refine VW.freezeBox (s.next + 1) 0 (n := m1) (len := (labsT l l.length).length) (k := 1) (el := 9) (cs := (labsT l l.length).map TS) hG.o4 rfl hG.a1 (by simp) ?_
    refine VW.freezeBox (s.next + 1) 1 (n := m2) (len := (prsT l l.length).length) (k := 2) (el := 30) (ty := 26) (cs := (prsT l l.length).flatMap pcells) (vs := [.t (tStrs (labsT l l.length)), .loc m2 0 (prsT l l.length).length]) (by simp [Sg.set]) rfl (by rw [m_set, if_neg (by omega), m_del, if_neg (Ne.symm d1)]; exact hG.a2) (by rw [flat_length]) ?_
    refine VW.freezeBox (s.next + 2) 0 (n := m3) (len := (legsT l l.length).length) (k := 1) (el := 27) (ty := 56) (cs := (legsT l l.length).map tInts) (vs := [.loc m3 0 (legsT l l.length).length]) (by rw [m_set, if_neg (by omega), m_del, if_neg (by omega), m_set, if_neg (by omega), m_del, if_neg (by omega)]; exact hG.o5) rfl (by rw [m_set, if_neg (by omega), m_del, if_neg (Ne.symm d3), m_set, if_neg (by omega), m_del, if_neg (Ne.symm d2)]; exact hG.a3) (by simp) ?_
    refine vw_env2 fun e3 sf hE3 hSf => ?_
    subst hE3
    have f1 : sf.m (s.next + 1) = some (.box 26 [.t (tStrs (labsT l l.length)), .t (tPairs (prsT l l.length))]) := by rw [hSf, m_set, if_neg (by omega), m_del, if_neg (by omega), m_set, if_pos rfl]; rfl
    have f2 : sf.m (s.next + 2) = some (.box 56 [.t (tMat (legsT l l.length))]) := by rw [hSf, m_set, if_pos rfl]; rfl
    have f0 : sf.m s.next = some (.box 26 [.t (.v (.slice none 0 0)), .t (.v (.slice none 0 0))]) := by rw [hSf, m_set, if_neg (by omega), m_del, if_neg (by omega), m_set, if_neg (by omega), m_del, if_neg (by omega), m_set, if_neg (by omega), m_del, if_neg (by omega)]; exact hG.o2
    have fj : ∀ j, j < s.next → sf.m j = s.m j := fun j hj => by rw [hSf, m_set, if_neg (by omega), m_del, if_neg (by omega), m_set, if_neg (by omega), m_del, if_neg (by omega), m_set, if_neg (by omega), m_del, if_neg (by omega)]; exact hG.same j hj
    clear hSf
    refine vw_lls (p := 4) (q := 5) (r := 2) (a := 61) (b := 62) (c := 3) (t0 := 26) (t1 := 56) (t2 := 26) Tryd.mixed rfl (by decide +kernel) (by decide +kernel) (by decide +kernel) (by decide +kernel) (by decide +kernel) (by decide +kernel) (by decide +kernel) ⟨_, rfl, rfl, rfl, rfl⟩ ⟨_, rfl, rfl, rfl, rfl⟩ ⟨_, rfl, rfl, rfl, rfl⟩ ⟨_, rfl, rfl, rfl, rfl⟩ (by decide) (by rw [hlE]; decide) (by rw [hlE]; decide) (va := vObj (bsS l)) (vb := .t (tMat (legsT l l.length))) (n := s.next) (off := 0) (ty := 26) (cs := [.t (.v (.slice none 0 0)), .t (.v (.slice none 0 0))]) (xs := [.t (tStrs (labsT l l.length)), .t (tPairs (prsT l l.length))]) ?_ ?_ h2E f0 rfl (by kernel_rfl) (by simp) ?_ (fun e9 hc9 he9 hl9 _ => ?_) (by rw [hlE]; decide)
    · simp [dLoad, vpart, h4E, f1, Tryd.sz26, Tryd.ag26]; try exact ⟨rfl, rfl⟩
    · simp [dLoad, vpart, h5E, f2, Tryd.sz56, Tryd.ag56]
    · simp [dLoad, vpart, Sg.set, h5E, f2, Tryd.sz56, Tryd.ag56]
    rw [hlE] at hl9
    have h2F : ev e9 (.tmp 2) = .ptr s.next 0 := by rw [he9 2 (by decide) (by decide) (by decide)]; exact h2E
    simp only [thenV]
    refine hK6 _ _ ?_
    refine vw_ret ?_
    refine hQ _ _ _ (.inr rfl) ?_
    refine done_flat (vs := [vObj (bsS l), .t (tMat (legsT l l.length))]) ?_ rfl (by simp [pack, nm, nm2, nm1, nm0]) (fun n b hn h => by rw [m_set, if_neg (by omega), fj n hn]; exact h)
    show vres Tryd.prog _ _ [.cell 2 26, .tmp 3] = _
    simp only [vres_cell, vres_tmp, vres_nil, hc9, h2F, f0, Tryd.sz26, Tryd.ag26, dLoad, m_set, vpart, if_true, List.drop_zero]
    rfl
  obtain ⟨o, ho⟩ : ∃ o, l[k]? = some o := ⟨_, List.getElem?_eq_getElem hkl⟩
  have hpv : objV l k = [vObj o] := by unfold objV; rw [ho]
  rw [hpv]
  obtain ⟨⟨m1, m2, m3, hb5⟩, hc5, hl5⟩ := hp5
  have hnx5 := hb5.nx
  have hn35 : s3.next ≠ s5.next := by omega
  refine ycall_of hl5 rfl fun KA hKA => ?_
  rw [show (#[13] : Array Tmp).toList = [13] from rfl, setps_one]
  refine vw_sc 0 [] ?_
  simp only [bs, Nat.reduceAdd, ↓vopx, ↓vop, Nat.reduceBEq, thenV, Nat.reduceLT, V.cells, hlE, wocs, ↓goc, ↓woc, ↓vopm0, Tryd.sz26, Tryd.zv26]
  refine hKA _ _ (by simp [Sg.set, Sg.add, hn35, hl5]) ?_
  refine vw_env2 fun e2 sd hE2 hSd => ?_
  subst hE2
  have hB : BsI s s3.next (labsT l k) (prsT l k) (legsT l k) (fun x => X x ∨ x = s5.next) sd m1 m2 m3 := by rw [hSd]; exact ((hb5.add _).set (.inr rfl) _).recd _
  refine vw_block ?_
  refine vsk fun K7 hK7 => ?_
  have hb4 := hB.o4
  have hol := (H.ob o (List.mem_of_getElem? ho)).le
  have hop := H.pr o (List.mem_of_getElem? ho)
  have hlab := H.labs k
  have hprs := H.prs k
  have hln := H.n
  have hbo : sd.m s5.next = some (.box 26 [.t (tStrs o.labels), .t (tPairs o.pairs)]) := by rw [hSd]; simp [Sg.set, Sg.add, hn35.symm]
  have hsdn : sd.next = s5.next + 1 := by rw [hSd]; rfl
  have hbc : sd.m (s.next + 6) = some (.box 77 [.t (tObjs l)]) := by rw [hSd]; simp [Sg.set, Sg.add, show s.next + 6 ≠ s3.next by omega, show s.next + 6 ≠ s5.next by omega, hc5]
  refine vw_sc 0 [] ?_
  simp only [bs, ↓vopx, ↓vop, Nat.reduceBEq, thenV, Nat.reduceLT, V.cells, dLoad, vpart, hlE, h4E, wocs, ↓goc, ↓woc, ↓vopm0, Tryd.ag23, Tryd.fd26_0, Tryd.sz23, Tryd.sz3, Tryd.un23, Tryd.zv3, hb4]
  refine hK7 _ _ ?_
  refine vsk fun K8 hK8 => ?_
  refine vw_env2 fun e3 sa hE3 hSa => ?_
  subst hE3
  have hA : BsI s s3.next (labsT l k) (prsT l k) (legsT l k) (fun x => (X x ∨ x = s5.next) ∨ x = sd.next) sa m1 m2 m3 := by rw [hSa]; exact (hB.add _).set (.inr rfl) _
  have ha7 : sa.m sd.next = some (.box 3 [I (labsT l k).length]) := by rw [hSa]; simp [Sg.set]
  have hao : sa.m s5.next = some (.box 26 [.t (tStrs o.labels), .t (tPairs o.pairs)]) := by rw [hSa]; simp [Sg.set, Sg.add, show s5.next ≠ sd.next by omega, hbo]
  have hac : sa.m (s.next + 6) = some (.box 77 [.t (tObjs l)]) := by rw [hSa]; simp [Sg.set, Sg.add, show s.next + 6 ≠ sd.next by omega, hbc]
  have har : sa.m s3.next = sd.m s3.next := by rw [hSa]; simp [Sg.set, Sg.add, show s3.next ≠ sd.next by omega]
  have han : sa.next = sd.next + 1 := by rw [hSa]; rfl
  clear hSa
  have hrep : repl [TI 0] o.labels.length = (legC o.labels.length (labsT l k).length 0).map TI := legC_zero _ _
  refine vw_sc 0 [] ?_
  simp only [bs, ↓vopx, ↓vop, Nat.reduceBEq, thenV, Nat.reduceLT, dLoad, vpart, hlE, wocs, ↓goc, ↓woc, ↓vopm0, Tryd.ag23, Tryd.fd26_0, Tryd.sl27, Tryd.sz23, Tryd.un23, len_tStrs, hao]
  repeat ((with_reducible refine And.intro ?_ ?_); · omega)
  refine hK8 _ _ ?_
  refine vsk fun K9 hK9 => ?_
  refine vsk fun K10 hK10 => ?_
  refine vw_sc 0 [] ?_
  simp only [bs, ↓vopx, ↓vop, thenV, flat, Nat.reduceLT, hlE, wocs, ↓goc, ↓woc, ↓vopm0, Tryd.underlying27]
  refine hK10 _ _ ?_
  refine vw_block ?_
  refine vw_loop (fun mm e' s' => ∃ i : Nat, mm = o.labels.length - i ∧ i ≤ o.labels.length ∧ e'.length = 63 ∧ ev e' (.tmp 4) = .ptr (s.next + 1) 0 ∧ ev e' (.tmp 5) = .ptr (s.next + 2) 0 ∧ ev e' (.tmp 6) = .ptr s5.next 0 ∧ ev e' (.tmp 7) = .ptr sd.next 0 ∧ ev e' (.tmp 8) = .loc sa.next 0 o.labels.length ∧ ev e' (.tmp 22) = I o.labels.length ∧ ev e' (.tmp 23) = I i ∧ s' = sa.add (.arr 1 3 ((legC o.labels.length (labsT l k).length i).map TI)) ∧ True) (⟨0, rfl, Nat.zero_le _, ?_⟩) ?_
  · try simp only [ev_hit, ev_miss, Nat.reduceBEq, lpv, hlE, h4E, h5E, Nat.reduceLT, true_and, and_true]
    repeat ((with_reducible refine And.intro ?_ ?_); · trivial)
    rw [hrep]
  rintro mm e _ ⟨i, rfl, hle_i, hl2, k4, k5, k6, k7, k8, k22, h_i, rfl, _⟩
  refine vsk fun K11 hK11 => ?_
  refine vw_sc 0 [] ?_
  simp only [thenV, opII, k22, h_i, wocs, ↓goc, ↓woc]
  refine hK11 _ _ ?_
  refine vsk fun K12 hK12 => ?_
  refine vck fun A B hA hB => ?_
  simp only [condV, ev_hit, Nat.reduceLT, decide_eq_true_eq, decide_eq_false_iff_not, hl2]
  refine ⟨fun hc24 => hA ?_, fun hc24 => hB ?_⟩
  · clear hA hB A B
    refine vw_skip ?_
    refine hK12 _ _ ?_
    refine vsk fun K13 hK13 => ?_
    refine vw_block ?_
    refine vsk fun K14 hK14 => ?_
    refine vw_sc 0 [] ?_
    simp only [bs, ↓vopx, ↓vop, Nat.reduceBEq, thenV, Nat.reduceLT, hl2, h_i, wocs, ↓goc, ↓woc, ↓vopm0]
    refine hK14 _ _ ?_
    have n7 : ¬ sd.next = sa.next := by omega
    refine vw_sc 0 [] ?_
    simp only [bs, ↓vopx, ↓vop, Nat.reduceBEq, thenV, blockV, Nat.reduceLT, V.cells, dLoad, vpart, opII, Sg.frzL, Sg.frz1, hl2, k7, k8, wocs, ↓goc, ↓woc, ↓vopm0, Tryd.ag3, Tryd.sz3, Tryd.un27, n7, ha7, legC_length]
    repeat ((with_reducible refine And.intro ?_ ?_); · first | (with_reducible assumption) | omega | exact ⟨by omega, by omega⟩)
    refine hK13 _ _ ?_
    refine vw_sc 0 [] ?_
    simp only [bs, ↓vopx, ↓vop, Nat.reduceBEq, thenV, flat, Nat.reduceLT, opII, hl2, k4, k5, k6, k7, k8, k22, h_i, wocs, ↓goc, ↓woc, ↓vopm0]
    repeat ((with_reducible refine And.intro ?_ ?_); · exact ⟨by omega, by omega⟩)
    refine ⟨o.labels.length - (i + 1), by omega, i + 1, rfl, by omega, ?_⟩
    try simp only [ev_hit, ev_miss, Nat.reduceBEq, lpv, hl2, k4, k5, k6, k7, k8, k22, h_i, if_true, if_false, Nat.reduceEqDiff, Nat.reduceLT, true_and, and_true]
    repeat ((with_reducible refine And.intro ?_ ?_); · trivial)
    rw [add_set, legC_set (by omega)]
  · clear hA hB A B
    have hil : i = o.labels.length := by omega
    rw [hil]
    refine vw_exit ?_
    simp only [thenV, blockV, if_true, if_false, Nat.reduceEqDiff]
    refine hK9 _ _ ?_
    refine vsk fun K15 hK15 => ?_
    rw [legC_full]
    refine vw_env2 fun e3 sc hE3 hSc => ?_
    subst hE3
    have hC : BsI s s3.next (labsT l k) (prsT l k) (legsT l k) (fun x => ((X x ∨ x = s5.next) ∨ x = sd.next) ∨ x = sa.next) sc m1 m2 m3 := by rw [hSc]; exact hA.add _
    have hc7 : sc.m sd.next = some (.box 3 [I (labsT l k).length]) := by rw [hSc]; simp [Sg.add, show sd.next ≠ sa.next by omega, ha7]
    have hco : sc.m s5.next = some (.box 26 [.t (tStrs o.labels), .t (tPairs o.pairs)]) := by rw [hSc]; simp [Sg.add, show s5.next ≠ sa.next by omega, hao]
    have hcc : sc.m (s.next + 6) = some (.box 77 [.t (tObjs l)]) := by rw [hSc]; simp [Sg.add, show s.next + 6 ≠ sa.next by omega, hac]
    have hcr : sc.m s3.next = sd.m s3.next := by rw [hSc]; simp [Sg.add, show s3.next ≠ sa.next by omega, har]
    have hcn : sc.next = sa.next + 1 := by rw [hSc]; rfl
    have hcq : sc.m sa.next = some (.arr 1 3 ((legT o.labels.length (labsT l k).length).map TI)) := by rw [hSc]; simp [Sg.add]
    clear hSc
    have hc4 := hC.o4
    have hca := hC.a1
    have q1 := hC.r1
    have q2 := hC.r2
    have q3 := hC.r3
    have n8 : ¬ s.next + 1 = sc.next := by omega
    have n9 : ¬ s.next + 1 = m1 := by omega
    refine vw_sc 0 [] ?_
    simp only [bs, dstT, srcT, Nat.reduceLeDiff, Nat.reduceAdd, ↓vopx, ↓vop, Nat.reduceBEq, thenV, Nat.reduceLT, V.cells, dLoad, vpart, hl2, k4, k6, wocs, ↓goc, ↓woc, ↓vopm0, Tryd.ag23, Tryd.fd26_0, Tryd.sl23, Tryd.sz23, hc4, hca, hco, n8, n9, Nat.div_one]
    repeat ((with_reducible refine And.intro ?_ ?_); · omega)
    refine hK15 _ _ ?_
    refine vsk fun K16 hK16 => ?_
    refine vsk fun K17 hK17 => ?_
    have w1 := hC.hX s5.next (.inl (.inl (.inr rfl)))
    have w2 := hC.hX sd.next (.inl (.inr rfl))
    have w3 := hC.hX sa.next (.inr rfl)
    refine vw_env2 fun e3 sf hE3 hSf => ?_
    subst hE3
    have hF : BsI s s3.next (labsT l k ++ o.labels) (prsT l k) (legsT l k) (fun x => ((X x ∨ x = s5.next) ∨ x = sd.next) ∨ x = sa.next) sf sc.next m2 m3 := by rw [hSf]; simpa only [List.length_append] using hC.push1 o.labels
    have hfk : ∀ x, x ≠ s.next + 1 → x < sc.next → x ≠ m1 → sf.m x = sc.m x := fun x h1 h2 h3 => by rw [hSf, m_set, if_neg h1, m_add, if_neg (by rw [n_del]; omega), m_del, if_neg h3]
    have hfn : sf.next = sc.next + 1 := by rw [hSf]; rfl
    clear hSf
    have hfo : sf.m s5.next = some (.box 26 [.t (tStrs o.labels), .t (tPairs o.pairs)]) := by rw [hfk _ (by omega) (by omega) (by omega)]; exact hco
    refine vw_sc 0 [.stop] ?_
    simp only [bs, Nat.reduceAdd, ↓vopx, ↓vop, Nat.reduceBEq, thenV, Nat.reduceLT, dLoad, vpart, hl2, k6, wocs, ↓goc, ↓woc, ↓vopm0, ↓callC, calleeV, Tryd.ag24, Tryd.fd26_1, Tryd.sz24, hfo]
    refine ⟨Tryd.is31, (valPairs_ sf o.pairs).mono fun v s2 hv => ?_⟩
    obtain ⟨rfl, rfl⟩ := hv
    try simp only [Hold]
    refine hK17 _ _ ?_
    refine vw_block ?_
    refine vw_env2 fun e1i s3i hE hS => ?_
    have hlEi : e1i.length = 63 := by rw [hE]; simp only [lpv, hl2]
    have k4Ei : ev e1i (.tmp 4) = .ptr (s.next + 1) 0 := by rw [hE]; simp only [ev_miss, Nat.reduceBEq, k4]
    have k5Ei : ev e1i (.tmp 5) = .ptr (s.next + 2) 0 := by rw [hE]; simp only [ev_miss, Nat.reduceBEq, k5]
    have k7Ei : ev e1i (.tmp 7) = .ptr sd.next 0 := by rw [hE]; simp only [ev_miss, Nat.reduceBEq, k7]
    have k8Ei : ev e1i (.tmp 8) = .loc sa.next 0 o.labels.length := by rw [hE]; simp only [ev_miss, Nat.reduceBEq, k8]
    have h41Ei : ev e1i (.tmp 41) = .clo 56 [.ptr sf.next 0] := by rw [hE]; simp only [ev_hit, lpv, hl2, Nat.reduceLT]
    clear hE
    have h3in : s3i.next = sf.next + 1 := by rw [hS]; rfl
    have h3io : ∀ x, x ≠ sf.next → s3i.m x = sf.m x := fun x hx => by rw [hS]; simp [Sg.add, hx]
    have h3ic : s3i.m sf.next = some (.box 24 [.t (tPairs o.pairs)]) := by rw [hS]; simp [Sg.add]
    have h3B : BsI s s3.next (labsT l k ++ o.labels) (prsT l k) (legsT l k) (fun x => (((X x ∨ x = s5.next) ∨ x = sd.next) ∨ x = sa.next) ∨ x = sf.next) s3i sc.next m2 m3 := by rw [hS]; exact hF.add _
    clear hS
    refine vw_range (g := 56) (caps := [.ptr sf.next 0]) h41Ei Tryd.func56 rfl (by decide) fun s4i h4ei h4ni h4mi h4li => ?_
    have hstB : BsI s s3.next (labsT l k ++ o.labels) (prsT l k) (legsT l k) (fun x => ((((X x ∨ x = s5.next) ∨ x = sd.next) ∨ x = sa.next) ∨ x = sf.next) ∨ x = s3i.next) s4i sc.next m2 m3 := h3B.ext (fun x hx => h4mi x (by omega)) h4ni
    have hst2 : BsP s s3.next (labsT l k ++ o.labels) (prsT l k) (legsT l k) o.pairs (labsT l k).length (fun x => ((((X x ∨ x = s5.next) ∨ x = sd.next) ∨ x = sa.next) ∨ x = sf.next) ∨ x = s3i.next) (fun x => x = sd.next ∨ x = sa.next ∨ x = s.next + 6 ∨ x = s3.next) sf s3i.next sf.next _ (fun _ => False) 0 s4i := ⟨⟨_, _, _, (hstB.sub fun x hx => hx.elim False.elim id).subst (by simp)⟩, fun x hx => hx.elim, by rw [h4mi _ (by omega)]; exact h3ic, h4li, fun x hx => by rw [h4mi x (by omega), h3io x (by omega)], by omega⟩
    refine (valPairs1_ s3i.next sf.next o.pairs (by omega) _ ⟨fun Y j s5i hp => ⟨hp.c, fun x hx => (hp.y x hx).2⟩, fun Y j s5i b hp => hp.add (by omega) (fun x hx => by omega) b, fun Y j s5i x b hp hx => hp.set (by omega) (fun x hx => by omega) hx b, fun Y j s5i hjl hp5i => ?_⟩ s4i hst2).mono fun v s6i h6i => ?_
    rotate_left
    · obtain ⟨Y, hp6i⟩ := h6i
      refine ⟨none, .ready, hp6i.r, by simp, ?_⟩
      simp only []
      refine hK16 _ _ ?_
      have hgl := legsT_length l k (by omega)
      obtain ⟨j1, j2, j3, hbj⟩ := hp6i.b
      have hkz : ∀ x, (x = sd.next ∨ x = sa.next ∨ x = s.next + 6 ∨ x = s3.next) → x < sc.next → x ≠ s.next + 1 → x ≠ m1 → s6i.m x = sc.m x := fun x hx h1 h2 h3 => by rw [hp6i.z _ hx, hfk _ h2 h1 h3]
      have x8 := hbj.hX sa.next (.inr (.inl (.inl (.inr rfl))))
      have x9 := hbj.hX s3i.next (.inr (.inr rfl))
      have hz8 : s6i.m sa.next = some (.arr 1 3 ((legT o.labels.length (labsT l k).length).map TI)) := by rw [hkz _ (.inr (.inl rfl)) (by omega) (by omega) (by omega)]; exact hcq
      have hzr : s6i.m s3.next = sd.m s3.next := by rw [hkz _ (.inr (.inr (.inr rfl))) (by omega) (by omega) (by omega)]; exact hcr
      have hzc : s6i.m (s.next + 6) = some (.box 77 [.t (tObjs l)]) := by rw [hkz _ (.inr (.inr (.inl rfl))) (by omega) (by omega) (by omega)]; exact hcc
      refine VW.freeze 8 (n := sa.next) (len := o.labels.length) (k := 1) (el := 3) (cs := (legT o.labels.length (labsT l k).length).map TI) k8Ei (by rw [m_del, if_neg (by omega)]; exact hz8) (by simp [legT]) ?_
      refine vw_env2 fun e4 sg hE4 hSg => ?_
      subst hE4
      have hG : BsI s s3.next (labsT l (k + 1)) (prsT l (k + 1)) (legsT l k) X sg j1 j2 j3 := by rw [hSg, labsT_succ ho, prsT_succ ho]; have h := ((hbj.del (x := s3i.next) (by omega) x9.2.2.1 x9.2.2.2.1 x9.2.2.2.2).del (x := sa.next) (by omega) x8.2.2.1 x8.2.2.2.1 x8.2.2.2.2).sub (fun x (hx : X x) => .inr (.inl (.inl (.inl (.inl (.inl hx)))))); rw [List.take_length] at h; exact h
      have hgr : sg.m s3.next = sd.m s3.next := by rw [hSg, m_del, if_neg (by omega), m_del, if_neg (by omega)]; exact hzr
      have hgc : sg.m (s.next + 6) = some (.box 77 [.t (tObjs l)]) := by rw [hSg, m_del, if_neg (by omega), m_del, if_neg (by omega)]; exact hzc
      clear hSg
      have hg5 := hG.o5
      have hg3 := hG.a3
      have u3 := hG.r3
      have ug := hG.nx
      have n14 : ¬ s.next + 2 = sg.next := by omega
      have n15 : ¬ s.next + 2 = j3 := by omega
      have n16 : ¬ s.next + 2 = sg.next + 1 := by omega
      have n17 : ¬ j3 = sg.next := by omega
      refine vw_sc 0 [] ?_
      simp only [bs, dstT, srcT, Nat.reduceLeDiff, vparts, gfill, repl, Sg.frzP, ↓vopx, ↓vop, Nat.reduceBEq, blockV, Nat.reduceLT, V.cells, dLoad, vpart, Sg.frzL, Sg.frz1, hlEi, k5Ei, wocs, ↓goc, ↓woc, ↓vopm0, Tryd.ag56, Tryd.sl56, Tryd.sz56, hg5, hg3, n14, n15, n16, n17, Nat.div_one]
      repeat ((with_reducible refine And.intro ?_ ?_); · omega)
      have hP := hG.push3 (.arr 1 27 [tInts (legT o.labels.length (labsT l k).length)]) (legT o.labels.length (labsT l k).length)
      refine vw_pt (s1 := sg) (n1 := s.next + 2) (n2 := j3) rfl fun s9 hs9 hfr hnx => ?_
      rw [← hs9] at hP
      clear hs9
      refine And.intro (by rw [hfr _ (by omega) (by omega) (by omega), hgr, hSd, m_set, if_pos rfl]) (Or.inl (And.intro rfl ⟨⟨j1, j2, sg.next + 1, ?_⟩, ?_, by rw [m_set, if_pos rfl]⟩))
      · rw [legsT_succ ho]; exact hP.recd _
      · rw [m_set, if_neg (by omega), hfr _ (by omega) (by omega) (by omega)]; exact hgc
    obtain ⟨p, hp⟩ : ∃ p, o.pairs[j]? = some p := ⟨_, List.getElem?_eq_getElem hjl⟩
    have hpv : pairV o.pairs j = [.agg [I p.1, I p.2]] := by unfold pairV; rw [hp]
    rw [hpv]
    have hnxi := hp5i.n
    have hn35i : s3i.next ≠ s5i.next := by omega
    refine ycall_of hp5i.r rfl fun KA hKA => ?_
    rw [show (#[42] : Array Tmp).toList = [42] from rfl, setps_one]
    refine vw_sc 0 [] ?_
    simp only [bs, Nat.reduceAdd, ↓vopx, ↓vop, Nat.reduceBEq, thenV, Nat.reduceLT, V.cells, hlEi, wocs, ↓goc, ↓woc, ↓vopm0, Tryd.sz30, Tryd.zv30]
    refine hKA _ _ (by simp [Sg.set, Sg.add, hn35i, hp5i.r]) ?_
    refine vw_env2 fun e2i sdi hE2i hSdi => ?_
    subst hE2i
    obtain ⟨i1, i2, i3, hbi⟩ := hp5i.b
    have hI : BsI s s3.next (labsT l k ++ o.labels) (prsT l k ++ (o.pairs.take j).map (shP (labsT l k).length)) (legsT l k) (fun x => (Y x ∨ (((((X x ∨ x = s5.next) ∨ x = sd.next) ∨ x = sa.next) ∨ x = sf.next) ∨ x = s3i.next)) ∨ x = s5i.next) sdi i1 i2 i3 := by rw [hSdi]; exact ((hbi.add _).set (.inr rfl) _).set (.inl (.inr (.inr rfl))) _
    have hdi : ∀ x, x ≠ s5i.next → x ≠ s3i.next → sdi.m x = s5i.m x := fun x h1 h2 => by rw [hSdi, m_set, if_neg h2, m_set, if_neg h1, m_add, if_neg h1]
    have hdin : sdi.next = s5i.next + 1 := by rw [hSdi]; rfl
    have hi4 := hI.o4
    have hi2 := hI.a2
    have v1 := hI.r1
    have v2 := hI.r2
    have v3 := hI.r3
    have hi7 : sdi.m sd.next = some (.box 3 [I (labsT l k).length]) := by rw [hdi _ (by omega) (by omega), hp5i.z _ (.inl rfl), hfk _ (by omega) (by omega) (by omega)]; exact hc7
    have hip : sdi.m s5i.next = some (.box 30 [I p.1, I p.2]) := by rw [hSdi, m_set, if_neg hn35i.symm, m_set, if_pos rfl]
    have hin : (0 ≤ p.1 ∧ p.1 < o.labels.length) ∧ (0 ≤ p.2 ∧ p.2 < o.labels.length) := inB_iff.1 ((List.all_eq_true.1 (H.ob o (List.mem_of_getElem? ho)).inb) p (List.mem_of_getElem? hp))
    have n10 : ¬ s.next + 1 = sdi.next := by omega
    have n11 : ¬ i2 = sdi.next := by omega
    have n12 : ¬ s.next + 1 = i2 := by omega
    have n13 : ¬ s.next + 1 = sdi.next + 1 := by omega
    have hlp : (prsT l k ++ (o.pairs.take j).map (shP (labsT l k).length)).length = (prsT l k).length + j := by rw [List.length_append, List.length_map, List.length_take]; omega
    refine vw_block ?_
    refine vw_sc 0 [] ?_
    simp only [bs, dstT, srcT, Nat.reduceLeDiff, Nat.reduceAdd, vparts, gfill, repl, Sg.frzP, ↓vopx, ↓vop, Nat.reduceBEq, blockV, Nat.reduceLT, V.cells, dLoad, vpart, opII, Sg.frzL, Sg.frz1, hlEi, k4Ei, k7Ei, wocs, ↓goc, ↓woc, ↓vopm0, Tryd.ag24, Tryd.ag3, Tryd.fd26_1, Tryd.fd30_0, Tryd.fd30_1, Tryd.sl24, Tryd.st30, Tryd.sz24, Tryd.sz3, hi4, hi7, hip, hi2, hlp, n10, n11, n12, n13, flat_length]
    repeat ((with_reducible refine And.intro ?_ ?_); · first | omega | exact ⟨by omega, by omega⟩)
    rw [show ((((prsT l k).length + j) * 2 + 2) / 2) = (prsT l k ++ (o.pairs.take j).map (shP (labsT l k).length)).length + 1 from by rw [hlp]; omega]
    have z1 := hI.hX s3i.next (.inl (.inr (.inr rfl)))
    have z2 := hI.hX sf.next (.inl (.inr (.inl (.inr rfl))))
    have z3 := hI.hX sa.next (.inl (.inr (.inl (.inl (.inr rfl)))))
    have z4 := hI.hX sd.next (.inl (.inr (.inl (.inl (.inl (.inr rfl))))))
    have hP := hI.push2 (.arr 2 30 [TI ((labsT l k).length + p.1), TI ((labsT l k).length + p.2)]) (((labsT l k).length : Int) + p.1, ((labsT l k).length : Int) + p.2)
    refine vw_pt (s1 := sdi) (n1 := s.next + 1) (n2 := i2) rfl fun s9 hs9 hfr hnx => ?_
    rw [← hs9] at hP
    clear hs9
    refine And.intro (by rw [hfr _ (by omega) (by omega) (by omega), hSdi, m_set, if_pos rfl]) (And.intro rfl (And.intro ⟨⟨_, _, _, ((hP.set (x := s3i.next) (.inl (.inr (.inr rfl))) _).sub fun x hx => .inl hx).subst ?_⟩, fun x hx => ?_, ?_, by rw [m_set, if_pos rfl], fun x hx => ?_, ?_⟩ fun x hx => ?_))
    · rw [List.take_add_one, hp]; simp [shP, Int.add_comm]
    · have := hp5i.y x hx; exact ⟨this.1, by rw [n_set, hnx]; omega⟩
    · rw [m_set, if_neg (by omega), hfr _ (by omega) (by omega) (by omega), hdi _ (by omega) (by omega)]; exact hp5i.c
    · rw [m_set, if_neg (by omega), hfr _ (by omega) (by omega) (by omega), hdi _ (by omega) (by omega)]; exact hp5i.z x hx
    · rw [n_set, hnx]; omega
    · have h1 := hp5i.y x hx; have h2 := hI.hX x (.inl (.inl hx)); rw [m_set, if_neg (by omega), hfr _ (by omega) (by omega) (by omega), hdi _ (by omega) (by omega)]
end Go.Proofs

open Go Go.V
namespace Go.Proofs
def clsL (L : List Int) : Nat → List (List Int)
  | 0 => []
  | i + 1 =>
    let C := if L.getD i 0 = (clsL L i).length then clsL L i ++ [[]] else clsL L i
    C.set (L.getD i 0).toNat (C.getD (L.getD i 0).toNat [] ++ [(i : Int)])
theorem cls_new {L : List Int} {i : Nat} {z : Int} (hz : L[i]? = some z) (h : z = (clsL L i).length) : clsL L (i + 1) = (clsL L i ++ [[]]).set z.toNat ((clsL L i ++ [[]]).getD z.toNat [] ++ [(i : Int)]) := by
  have hg := getD_of hz
  show (let C := if L.getD i 0 = (clsL L i).length then clsL L i ++ [[]] else clsL L i; C.set (L.getD i 0).toNat (C.getD (L.getD i 0).toNat [] ++ [(i : Int)])) = _
  simp only [hg, if_pos h]
theorem cls_old {L : List Int} {i : Nat} {z : Int} (hz : L[i]? = some z) (h : z ≠ (clsL L i).length) : clsL L (i + 1) = (clsL L i).set z.toNat ((clsL L i).getD z.toNat [] ++ [(i : Int)]) := by
  have hg := getD_of hz
  show (let C := if L.getD i 0 = (clsL L i).length then clsL L i ++ [[]] else clsL L i; C.set (L.getD i 0).toNat (C.getD (L.getD i 0).toNat [] ++ [(i : Int)])) = _
  simp only [hg, if_neg h]
theorem cls_length (L : List Int) : ∀ i, (clsL L i).length = (fstL L i).length
  | 0 => rfl
  | i + 1 => by
    have ih := cls_length L i
    simp only [clsL, fstL, List.length_set, ih]
    split <;> simp [ih]
def clV (nm : Nat → Nat) (C : List (List Int)) : List V := (List.range C.length).map fun j => .loc (nm j) 0 (C.getD j []).length
theorem clV_length (nm : Nat → Nat) (C : List (List Int)) : (clV nm C).length = C.length := by simp [clV]
theorem clV_get {nm : Nat → Nat} {C : List (List Int)} {j : Nat} (h : j < C.length) : (clV nm C)[j]? = some (.loc (nm j) 0 (C.getD j []).length) := by
  simp [clV, h]
structure ClI (sB s' : Sg) (m3 : Nat) (nm : Nat → Nat) (C : List (List Int)) : Prop where
  bx : s'.m m3 = some (.box 27 (clV nm C))
  ar : ∀ j, j < C.length → s'.m (nm j) = some (.arr 1 3 ((C.getD j []).map TI))
  inj : ∀ j k, j < C.length → k < C.length → nm j = nm k → j = k
  lo : ∀ j, j < C.length → sB.next ≤ nm j ∧ nm j < s'.next ∧ nm j ≠ m3
  l3 : sB.next ≤ m3 ∧ m3 < s'.next
  same : ∀ x, x < sB.next → s'.m x = sB.m x
theorem getD_app_left {C : List (List Int)} {x : List Int} {j : Nat} (h : j < C.length) : (C ++ [x]).getD j [] = C.getD j [] := by
  simp [List.getD_eq_getElem?_getD, List.getElem?_append_left h]
theorem getD_app_end {C : List (List Int)} {x : List Int} : (C ++ [x]).getD C.length [] = x := by simp [List.getD_eq_getElem?_getD]
theorem getD_set_le {C : List (List Int)} {z n : Nat} {l : List Int} (h : ∀ j, (C.getD j []).length ≤ n) (hl : l.length ≤ n) : ∀ j, ((C.set z l).getD j []).length ≤ n := fun j => by
  simp only [List.getD_eq_getElem?_getD, List.getElem?_set] at h ⊢
  split
  · split
    · exact hl
    · exact Nat.zero_le _
  · exact h j
theorem cls_small (L : List Int) : ∀ i j, ((clsL L i).getD j []).length ≤ i
  | 0, j => by simp [clsL]
  | i + 1, j => by
    have ih := cls_small L i
    have hC : ∀ k, ((if L.getD i 0 = (clsL L i).length then clsL L i ++ [[]] else clsL L i).getD k []).length ≤ i := fun k => by
      split
      · by_cases hk : k < (clsL L i).length
        · rw [getD_app_left hk]; exact ih k
        · by_cases hk2 : k = (clsL L i).length
          · rw [hk2, getD_app_end]; simp
          · rw [List.getD_eq_getElem?_getD, List.getElem?_eq_none (by simp; omega)]; simp
      · exact ih k
    exact getD_set_le (fun k => Nat.le_trans (hC k) (Nat.le_succ i)) (by rw [List.length_append]; exact Nat.succ_le_succ (hC _)) j
theorem ClI.new {sB s1 : Sg} {m3 : Nat} {nm : Nat → Nat} {C : List (List Int)} (h : ClI sB s1 m3 nm C) (B : Blk) (x : V) {s2 : Sg} (hs : s2 = ((((s1.add B).del m3).add (.box 27 (clV nm C ++ [x]))).add (.arr 1 3 [])).set (s1.next + 1) (.box 27 ((clV nm C ++ [x]).set C.length (.loc (s1.next + 2) 0 0)))) :
    ClI sB s2 (s1.next + 1) (fun j => if j = C.length then s1.next + 2 else nm j) (C ++ [[]]) := by
  have h3 := h.l3
  have hfr : ∀ y, y < s1.next → y ≠ m3 → s2.m y = s1.m y := fun y h1 h2 => by
    rw [hs, m_set, if_neg (by omega), m_add, if_neg (by simp only [n_del, n_add]; omega), m_add, if_neg (by simp only [n_del, n_add]; omega), m_del, if_neg h2, m_add, if_neg (by omega)]
  have hn : s2.next = s1.next + 3 := by rw [hs]; rfl
  refine ⟨?_, fun j hj => ?_, fun j k hj hk he => ?_, fun j hj => ?_, ⟨by omega, by omega⟩, fun y hy => ?_⟩
  · rw [hs, m_set, if_pos rfl]
    congr 2
    apply List.ext_getElem?
    intro i
    by_cases hi : i < C.length
    · rw [List.getElem?_set_ne (by omega), List.getElem?_append_left (by rw [clV_length]; exact hi), clV_get hi, clV_get (by simp; omega), getD_app_left hi, if_neg (by omega)]
    · by_cases hi2 : i = C.length
      · subst hi2
        rw [List.getElem?_set_self (by simp [clV_length]), clV_get (by simp), getD_app_end, if_pos rfl]; rfl
      · rw [List.getElem?_eq_none (by simp [clV_length]; omega), List.getElem?_eq_none (by simp [clV_length]; omega)]
  · simp only [List.length_append, List.length_singleton] at hj
    by_cases hi : j = C.length
    · rw [if_pos hi, hs, m_set, if_neg (by omega), m_add, if_pos (by simp only [n_del, n_add]), hi, getD_app_end]; rfl
    · have hl := h.lo j (by omega)
      rw [if_neg hi, hfr _ hl.2.1 hl.2.2, getD_app_left (by omega)]; exact h.ar j (by omega)
  · simp only [List.length_append, List.length_singleton] at hj hk
    by_cases hi : j = C.length
    · by_cases hi2 : k = C.length
      · omega
      · rw [if_pos hi, if_neg hi2] at he; have := h.lo k (by omega); omega
    · by_cases hi2 : k = C.length
      · rw [if_neg hi, if_pos hi2] at he; have := h.lo j (by omega); omega
      · rw [if_neg hi, if_neg hi2] at he; exact h.inj j k (by omega) (by omega) he
  · simp only [List.length_append, List.length_singleton] at hj
    by_cases hi : j = C.length
    · rw [if_pos hi]; omega
    · rw [if_neg hi]; have := h.lo j (by omega); omega
  · rw [hfr y (by omega) (by omega)]; exact h.same y hy
theorem ClI.put {sB s1 : Sg} {m3 : Nat} {nm : Nat → Nat} {C : List (List Int)} (h : ClI sB s1 m3 nm C) (B : Blk) {z : Nat} (hz : z < C.length) (x : Int) {s2 : Sg} (hs : s2 = (((s1.add B).del (nm z)).add (.arr 1 3 ((C.getD z []).map TI ++ [TI x]))).set m3 (.box 27 ((clV nm C).set z (.loc (s1.next + 1) 0 ((C.getD z []).length + 1))))) :
    ClI sB s2 m3 (fun j => if j = z then s1.next + 1 else nm j) (C.set z (C.getD z [] ++ [x])) := by
  have h3 := h.l3
  have hlz := h.lo z hz
  have hfr : ∀ y, y < s1.next → y ≠ m3 → y ≠ nm z → s2.m y = s1.m y := fun y h1 h2 h4 => by
    rw [hs, m_set, if_neg h2, m_add, if_neg (by simp only [n_del, n_add]; omega), m_del, if_neg h4, m_add, if_neg (by omega)]
  have hn : s2.next = s1.next + 2 := by rw [hs]; rfl
  have hgd : ∀ j, j ≠ z → (C.set z (C.getD z [] ++ [x])).getD j [] = C.getD j [] := fun j hj => by simp only [List.getD_eq_getElem?_getD]; rw [List.getElem?_set_ne (Ne.symm hj)]
  have hgz : (C.set z (C.getD z [] ++ [x])).getD z [] = C.getD z [] ++ [x] := by simp only [List.getD_eq_getElem?_getD]; rw [List.getElem?_set_self hz]; rfl
  refine ⟨?_, fun j hj => ?_, fun j k hj hk he => ?_, fun j hj => ?_, ⟨h3.1, by omega⟩, fun y hy => ?_⟩
  · rw [hs, m_set, if_pos rfl]
    congr 2
    apply List.ext_getElem?
    intro i
    by_cases hi : i < C.length
    · by_cases hiz : i = z
      · subst hiz
        rw [List.getElem?_set_self (by rw [clV_length]; exact hi), clV_get (by rw [List.length_set]; exact hi), hgz, if_pos rfl]; simp
      · rw [List.getElem?_set_ne (Ne.symm hiz), clV_get hi, clV_get (by rw [List.length_set]; exact hi), hgd _ hiz, if_neg hiz]
    · rw [List.getElem?_eq_none (by rw [List.length_set, clV_length]; omega), List.getElem?_eq_none (by rw [clV_length, List.length_set]; omega)]
  · rw [List.length_set] at hj
    by_cases hi : j = z
    · rw [if_pos hi, hs, m_set, if_neg (by omega), m_add, if_pos (by simp only [n_del, n_add]), hi, hgz, List.map_append]; rfl
    · have hl := h.lo j hj
      have : nm j ≠ nm z := fun e => hi (h.inj j z hj hz e)
      rw [if_neg hi, hfr _ hl.2.1 hl.2.2 this, hgd _ hi]; exact h.ar j hj
  · rw [List.length_set] at hj hk
    by_cases hi : j = z
    · by_cases hi2 : k = z
      · omega
      · rw [if_pos hi, if_neg hi2] at he; have := h.lo k hk; omega
    · by_cases hi2 : k = z
      · rw [if_neg hi, if_pos hi2] at he; have := h.lo j hj; omega
      · rw [if_neg hi, if_neg hi2] at he; exact h.inj j k hj hk he
  · rw [List.length_set] at hj
    by_cases hi : j = z
    · rw [if_pos hi]; omega
    · rw [if_neg hi]; have := h.lo j hj; omega
  · rw [hfr y (by omega) (by omega) (by omega)]; exact h.same y hy
theorem ClI.get {sB s1 : Sg} {m3 : Nat} {nm : Nat → Nat} {C : List (List Int)} (_h : ClI sB s1 m3 nm C) {z : Nat} (hz : z < C.length) : (clV nm C)[z]? = some (.loc (nm z) 0 (C.getD z []).length) := clV_get hz
theorem ClI.ne {sB s1 : Sg} {m3 : Nat} {nm : Nat → Nat} {C : List (List Int)} (h : ClI sB s1 m3 nm C) {z : Nat} (hz : z < C.length) : ¬ m3 = s1.next ∧ ¬ m3 = s1.next + 1 ∧ ¬ m3 = nm z ∧ ¬ nm z = s1.next := by
  have := h.l3; have := h.lo z hz; omega
theorem all2_range {α β : Type} {R : α → β → Prop} : ∀ (l : List α) (m : List β), l.length = m.length → (∀ (i : Nat) (x : α) (y : β), l[i]? = some x → m[i]? = some y → R x y) → All2 R l m
  | [], [], _, _ => trivial
  | a :: l, b :: m, h, H => ⟨H 0 a b rfl rfl, all2_range l m (by simpa using h) fun i x y h1 h2 => H (i + 1) x y (by simpa using h1) (by simpa using h2)⟩
  | [], _ :: _, h, _ => by simp at h
  | _ :: _, [], h, _ => by simp at h
theorem VW.classes {P : Program} {Q : Exit → Env → Sg → Prop} {e : Env} {c : Code} {sB s1 : Sg} {m3 : Nat} {nm : Nat → Nat} {C : List (List Int)} (h : ClI sB s1 m3 nm C)
    (H : ∀ s2 : Sg, s2.m m3 = some (.arr 1 27 (C.map tInts)) → (∀ x, x < sB.next → s2.m x = sB.m x) → s2.next = s1.next → VW P c Q e s2) : VW P c Q e s1 := by
  have h3 := h.l3
  refine VW.wk (e' := e) (s' := ⟨s1.next, fun x => if x = m3 then some (.arr 1 27 (C.map tInts)) else if x < sB.next then s1.m x else none⟩) ⟨rfl, fun n b hb => ?_, all2_refl (fun a => .inr (.inl (.inl rfl))) _⟩ (H _ (by simp) (fun x hx => by simp only; rw [if_neg (by omega), if_pos hx]; exact h.same x hx) rfl)
  simp only at hb
  split at hb
  · rename_i hm; cases hb; subst hm
    refine ⟨_, h.bx, rfl, rfl, all2_range _ _ (by simp [clV_length]) fun i x y h1 h2 => ?_⟩
    have hi : i < C.length := by have := (List.getElem?_eq_some_iff.1 h1).1; rwa [clV_length] at this
    rw [clV_get hi] at h1; cases h1
    simp only [List.getElem?_map, List.getElem?_eq_getElem hi, Option.map_some, Option.some.injEq] at h2
    subst h2
    have hl := h.lo i hi
    refine .inr (.inl ⟨nm i, 0, _, 1, 3, _, rfl, h.ar i hi, ?_, by simp, ?_⟩)
    · simp only; rw [if_neg hl.2.2, if_neg (by omega)]
    · rw [List.drop_zero, List.take_of_length_le (by simp)]; simp [List.getD_eq_getElem?_getD, hi]
  · split at hb
    · exact ⟨b, hb, bwk_refl _ _ _⟩
    · cases hb
def ClassesQ (s : Sg) (p m : Nat) (R : List Int) (v : V) (s' : Sg) : Prop := v = .t (tMat (clsL (placesL R) R.length)) ∧ ProR s' p m R ∧ But s m s'
theorem placesL_length (R : List Int) : (placesL R).length = R.length := by simp [placesL, plS_length]
set_option maxRecDepth 20000 in
theorem unClasses_ (s : Sg) (p m : Nat) (R : List Int) (hp : ProR s p m R) (hR : R.length ≤ 1000) : VCall Tryd.prog 62 [.ptr p 0] s (ClassesQ s p m R) := by
  refine kcall_of_body Tryd.func62 rfl fun Q hQ => ?_
  obtain ⟨e, he, hl, h0⟩ : ∃ e : Env, ([.ptr p 0] ++ List.replicate (Tryd.f62.ntmps - ([.ptr p 0] : List V).length) .junk) = e ∧ e.length = 33 ∧ ev e (.tmp 0) = .ptr p 0 := ⟨_, rfl, rfl, rfl⟩
  rw [he]
  clear he
  have hlp : p < s.next := hp.elim fun l h => h.1.lp
  have hlm : m < s.next := hp.elim fun l h => h.1.lm
  obtain ⟨L, hL⟩ : ∃ L, L = placesL R := ⟨_, rfl⟩
  have hLl : L.length = R.length := by rw [hL, placesL_length]
  have hok : PlOK L := by rw [hL]; exact places_ok (hp.elim fun l h => h.2.wfR)
  refine vsk fun K1 hK1 => ?_
  refine vw_sc 0 [] ?_
  simp only [bs, ↓vopx, ↓vop, thenV, flat, wocs, ↓goc, ↓woc, ↓vopm0]
  refine hK1 _ _ ?_
  refine vsk fun K2 hK2 => ?_
  refine vw_sc 0 [] ?_
  simp only [bs, ↓vopx, ↓vop, thenV, flat, wocs, ↓goc, ↓woc, ↓vopm0]
  refine hK2 _ _ ?_
  refine vsk fun K3 hK3 => ?_
  refine vsk fun K4 hK4 => ?_
  refine vw_sc 0 [.stop] ?_
  simp only [bs, ↓vopx, ↓vop, Nat.reduceBEq, thenV, Nat.reduceLT, hl, h0, wocs, ↓goc, ↓woc, ↓vopm0, ↓callC, calleeV]
  refine ⟨Tryd.is61, (unPlaces_ s p m R hp hR).mono fun v sB hv => ?_⟩
  obtain ⟨rfl, hpB, hbB⟩ := hv
  rw [← hL]
  try simp only [bs, Nat.reduceBEq, flat, Nat.reduceLT, hl, h0, len_tInts, Hold]
  refine hK4 _ _ ?_
  refine vw_block ?_
  refine VW.name 3 1 27 (by omega) ?_ ?_
  · try simp only [ev_hit, ev_miss, Nat.reduceBEq, lpv, hl, Nat.reduceLT]
  refine VW.toBox sB.next (ty := 27) (cs := []) (by simp [Sg.add]) ?_
  refine vw_loop (fun mm e' s' => ∃ i : Nat, mm = L.length - i ∧ i ≤ L.length ∧ e'.length = 33 ∧ ev e' (.tmp 7) = .t (tInts L) ∧ ev e' (.tmp 8) = I L.length ∧ ev e' (.tmp 9) = I i ∧ True ∧ ∃ m3 nm, ev e' (.tmp 3) = .loc m3 0 (clsL L i).length ∧ ClI sB s' m3 nm (clsL L i)) (⟨0, rfl, Nat.zero_le _, ?_⟩) ?_
  · try simp only [ev_hit, ev_miss, Nat.reduceBEq, lpv, hl, Nat.reduceLT, true_and]
    repeat ((with_reducible refine And.intro ?_ ?_); · trivial)
    refine ⟨sB.next, fun _ => 0, rfl, ⟨by simp [Sg.set, clsL, clV], fun j hj => ?_, fun j k hj => ?_, fun j hj => ?_, ⟨by omega, by simp [Sg.set, Sg.add]⟩, fun x hx => ?_⟩⟩
    · simp [clsL] at hj
    · simp [clsL] at hj
    · simp [clsL] at hj
    · rw [m_set, if_neg (by omega), m_add, if_neg (by omega)]
  rintro mm e s1 ⟨i, rfl, hle_i, hl, k7, k8, h_i, hst, ⟨m3, nm, k3, hCI⟩⟩
  refine vsk fun K5 hK5 => ?_
  refine vw_sc 0 [] ?_
  simp only [thenV, opII, k8, h_i, wocs, ↓goc, ↓woc]
  refine hK5 _ _ ?_
  refine vsk fun K6 hK6 => ?_
  refine vck fun A B hA hB => ?_
  simp only [condV, ev_hit, Nat.reduceLT, decide_eq_true_eq, decide_eq_false_iff_not, hl]
  refine ⟨fun hc10 => hA ?_, fun hc10 => hB ?_⟩
  · clear hA hB A B
    refine vw_skip ?_
    refine hK6 _ _ ?_
    refine vsk fun K7 hK7 => ?_
    refine vw_block ?_
    refine vsk fun K8 hK8 => ?_
    obtain ⟨z, hz⟩ : ∃ z, L[i]? = some z := ⟨_, List.getElem?_eq_getElem (by omega)⟩
    have hzb := hok i z hz
    have hcl := cls_length L i
    have hfl := fst_le L i
    refine vw_sc 0 [] ?_
    simp only [bs, ↓vopx, ↓vop, Nat.reduceBEq, thenV, Nat.reduceLT, dLoad, vpart, hl, k7, h_i, wocs, ↓goc, ↓woc, ↓vopm0, Tryd.ag3, Tryd.sz3, Tryd.un27, hz]
    repeat ((with_reducible refine And.intro ?_ ?_); · omega)
    refine hK8 _ _ ?_
    refine vsk fun K9 hK9 => ?_
    refine vsk fun K10 hK10 => ?_
    refine vw_sc 0 [] ?_
    simp only [bs, ↓vopx, ↓vop, Nat.reduceBEq, thenV, Nat.reduceLT, opII, hl, k3, wocs, ↓goc, ↓woc, ↓vopm0]
    refine hK10 _ _ ?_
    refine vck fun A B hA hB => ?_
    simp only [condV, ev_hit, lpv, Nat.reduceLT, beq_iff_eq, beq_eq_false_iff_ne, ne_eq, hl]
    refine ⟨fun hzc => hA ?_, fun hzc => hB ?_⟩
    · clear hA hB A B
      have hbx := hCI.bx
      have n1 : ¬ m3 = s1.next := by have := hCI.l3; omega
      refine vw_sc 2 [] ?_
      simp only [bs, Nat.reduceLeDiff, vparts, gfill, repl, ↓vopx, ↓vop, Nat.reduceBEq, thenV, flat, Nat.reduceLT, V.cells, hl, k3, wocs, ↓goc, ↓woc, ↓vopm2, ↓vopb, srcB, dstB, Tryd.sl56, hbx, n1, clV_length]
      repeat ((with_reducible refine And.intro ?_ ?_); · omega)
      refine hK9 _ _ ?_
      try (refine VW.nameBox (s1.next + 1) (clsL L i).length 1 3 (by omega) (ty := 27) (cs := clV nm (clsL L i) ++ [.t (.v (.slice none 0 0))]) (by simp [Sg.add, Sg.del]) (by rw [List.getElem?_append_right (by rw [clV_length]; exact Nat.le_refl _), clV_length, Nat.sub_self]; rfl) ?_; refine vw_env2 fun e2 sq hE2 hSq => ?_; subst hE2; obtain ⟨nm4, hD⟩ : ∃ nm4, ClI sB sq (s1.next + 1) nm4 (clsL L i ++ [[]]) := ⟨_, hCI.new (.box 27 [.t (.v (.slice none 0 0))]) _ hSq⟩; have hz4 : z.toNat < (clsL L i ++ [[]]).length := (by rw [List.length_append, List.length_singleton]; omega); have hcl2 := cls_new hz (by omega); have hgb : ((clsL L i ++ [[]]).getD z.toNat []).length ≤ i := (by rw [show z.toNat = (clsL L i).length by omega, getD_app_end]; exact Nat.zero_le _); clear hSq)
      have hbx4 := hD.bx
      have har4 := hD.ar _ hz4
      have hvg := hD.get hz4
      obtain ⟨n1, n2, n3, n4⟩ := hD.ne hz4
      have hgl : 0 ≤ z := by omega
      refine vw_sc 0 [] ?_
      simp only [bs, dstT, srcT, Nat.reduceLeDiff, vparts, gfill, repl, Sg.frzP, ↓vopx, ↓vop, Nat.reduceBEq, thenV, blockV, Nat.reduceLT, V.cells, dLoad, vpart, Sg.frzL, Sg.frz1, hl, wocs, ↓goc, ↓woc, ↓vopm0, Tryd.ag27, Tryd.sl27, Tryd.sz27, Tryd.un56, hbx4, har4, hvg, n1, n2, n3, n4, clV_length, Nat.div_one, List.length_append]
      repeat ((with_reducible refine And.intro ?_ ?_); · first | (with_reducible assumption) | omega)
      refine hK7 _ _ ?_
      refine vw_sc 0 [] ?_
      simp only [bs, ↓vopx, ↓vop, Nat.reduceBEq, thenV, flat, Nat.reduceLT, opII, hl, k7, k8, h_i, wocs, ↓goc, ↓woc, ↓vopm0]
      repeat ((with_reducible refine And.intro ?_ ?_); · exact ⟨by omega, by omega⟩)
      refine ⟨L.length - (i + 1), by omega, i + 1, rfl, by omega, ?_⟩
      try simp only [ev_hit, ev_miss, Nat.reduceBEq, lpv, hl, k7, k8, h_i, k3, if_true, if_false, Nat.reduceEqDiff, Nat.reduceLT, true_and, and_true]
      repeat ((with_reducible refine And.intro ?_ ?_); · trivial)
      rw [setAll_one _ _ _ (by rw [clV_length]; exact hz4), hcl2]
      refine ⟨_, _, ?_, hD.put (.arr 1 3 [TI i]) hz4 i rfl⟩
      simp
    · clear hA hB A B
      obtain ⟨nm4, hD⟩ : ∃ nm4, ClI sB s1 m3 nm4 (clsL L i) := ⟨nm, hCI⟩
      have hz4 : z.toNat < (clsL L i).length := by omega
      have hcl2 := cls_old hz (by omega)
      have hgb := cls_small L i z.toNat
      refine vw_skip ?_
      refine hK9 _ _ ?_
      try (refine VW.nameBox (s1.next + 1) (clsL L i).length 1 3 (by omega) (ty := 27) (cs := clV nm (clsL L i) ++ [.t (.v (.slice none 0 0))]) (by simp [Sg.add, Sg.del]) (by rw [List.getElem?_append_right (by rw [clV_length]; exact Nat.le_refl _), clV_length, Nat.sub_self]; rfl) ?_; refine vw_env2 fun e2 sq hE2 hSq => ?_; subst hE2; obtain ⟨nm4, hD⟩ : ∃ nm4, ClI sB sq (s1.next + 1) nm4 (clsL L i ++ [[]]) := ⟨_, hCI.new (.box 27 [.t (.v (.slice none 0 0))]) _ hSq⟩; have hz4 : z.toNat < (clsL L i ++ [[]]).length := (by rw [List.length_append, List.length_singleton]; omega); have hcl2 := cls_new hz (by omega); have hgb : ((clsL L i ++ [[]]).getD z.toNat []).length ≤ i := (by rw [show z.toNat = (clsL L i).length by omega, getD_app_end]; exact Nat.zero_le _); clear hSq)
      have hbx4 := hD.bx
      have har4 := hD.ar _ hz4
      have hvg := hD.get hz4
      obtain ⟨n1, n2, n3, n4⟩ := hD.ne hz4
      have hgl : 0 ≤ z := by omega
      refine vw_sc 0 [] ?_
      simp only [bs, dstT, srcT, Nat.reduceLeDiff, vparts, gfill, repl, Sg.frzP, ↓vopx, ↓vop, Nat.reduceBEq, thenV, blockV, Nat.reduceLT, V.cells, dLoad, vpart, Sg.frzL, Sg.frz1, hl, k3, wocs, ↓goc, ↓woc, ↓vopm0, Tryd.ag27, Tryd.sl27, Tryd.sz27, Tryd.un56, hbx4, har4, hvg, n1, n2, n3, n4, clV_length, Nat.div_one]
      repeat ((with_reducible refine And.intro ?_ ?_); · first | (with_reducible assumption) | omega)
      refine hK7 _ _ ?_
      refine vw_sc 0 [] ?_
      simp only [bs, ↓vopx, ↓vop, Nat.reduceBEq, thenV, flat, Nat.reduceLT, opII, hl, k7, k8, h_i, k3, wocs, ↓goc, ↓woc, ↓vopm0]
      repeat ((with_reducible refine And.intro ?_ ?_); · exact ⟨by omega, by omega⟩)
      refine ⟨L.length - (i + 1), by omega, i + 1, rfl, by omega, ?_⟩
      try simp only [ev_hit, ev_miss, Nat.reduceBEq, lpv, hl, k7, k8, h_i, k3, if_true, if_false, Nat.reduceEqDiff, Nat.reduceLT, true_and, and_true]
      repeat ((with_reducible refine And.intro ?_ ?_); · trivial)
      rw [setAll_one _ _ _ (by rw [clV_length]; exact hz4), hcl2]
      refine ⟨_, _, ?_, hD.put (.arr 1 3 [TI i]) hz4 i rfl⟩
      simp
  · clear hA hB A B
    have han : L.length = i := by omega
    refine vw_exit ?_
    simp only [thenV, blockV, if_true]
    refine hK3 _ _ ?_
    refine vsk fun K11 hK11 => ?_
    have hl3 := hCI.l3
    refine VW.classes hCI fun s2 hm3 hsm hn2 => ?_
    refine VW.freeze 3 (n := m3) (len := (clsL L i).length) (k := 1) (el := 27) (cs := (clsL L i).map tInts) ?_ hm3 (by simp) ?_
    · try simp only [ev_miss, Nat.reduceBEq, k3]
    refine vw_sc 0 [] ?_
    simp only [bs, ↓vopx, ↓vop, thenV, Nat.reduceLT, hl, wocs, ↓goc, ↓woc, ↓vopm0]
    refine hK11 _ _ ?_
    refine vw_ret ?_
    have hfin : clsL (placesL R) R.length = clsL L i := by rw [← hL, ← hLl, han]
    have hnB := hbB.2
    refine hQ _ _ _ (.inr rfl) (donek_tmp (v := .t (tMat (clsL L i))) ?_ rfl ⟨by rw [hfin], hpB.keep (fun n b hlt hb => by rw [m_del, if_neg (by omega), hsm n hlt]; exact hb) (by show sB.next ≤ s2.next; omega), fun j hj hjm => ?_, ?_⟩)
    try simp only [ev_hit, lpv, hl, Nat.reduceLT]
    · rw [m_del, if_neg (by omega), hsm j (by omega)]; exact hbB.1 j hj hjm
    · show s.next ≤ s2.next; omega
end Go.Proofs

open Go Go.V
namespace Go.Proofs
def mpP (L : List Int) (p : Int × Int) : Int × Int := (L.getD p.1.toNat 0, L.getD p.2.toNat 0)
theorem glMx_eq (o : Ob) (L : List Int) : mxOf (o.pairs.map (mpP L)) = glMx o L := by
  funext x y; simp [mxOf, glMx, List.any_map, atN]; rfl
theorem cls_head {L : List Int} (hok : PlOK L) : ∀ i, i ≤ L.length → ∀ (j : Nat) (c : List Int), (clsL L i)[j]? = some c → ∃ x, (fstL L i)[j]? = some x ∧ c[0]? = some (x : Int)
  | 0, _, j, c, h => by simp [clsL] at h
  | i + 1, hi, j, c, h => by
    obtain ⟨z, hz⟩ : ∃ z, L[i]? = some z := ⟨_, List.getElem?_eq_getElem (by omega)⟩
    have hzb := hok i z hz
    have hlen := cls_length L i
    have ih := cls_head hok i (by omega)
    have hg := getD_of hz
    by_cases hn : z = (clsL L i).length
    · have hf : fstL L (i + 1) = fstL L i ++ [i] := by
        show (if L.getD i 0 = (fstL L i).length then fstL L i ++ [i] else fstL L i) = _
        rw [hg, if_pos (by omega)]
      have hzt : z.toNat = (clsL L i).length := by omega
      rw [cls_new hz hn, hzt, getD_app_end] at h
      rw [hf]
      by_cases hj : j = (clsL L i).length
      · subst hj
        rw [List.getElem?_set_self (by simp)] at h; cases h
        exact ⟨i, by rw [hlen]; simp, rfl⟩
      · rw [List.getElem?_set_ne (Ne.symm hj)] at h
        have hjl : j < (clsL L i).length := by have := (List.getElem?_eq_some_iff.1 h).1; simp at this; omega
        rw [List.getElem?_append_left hjl] at h
        obtain ⟨x, h1, h2⟩ := ih j c h
        exact ⟨x, by rw [List.getElem?_append_left (by omega)]; exact h1, h2⟩
    · have hf : fstL L (i + 1) = fstL L i := by
        show (if L.getD i 0 = (fstL L i).length then fstL L i ++ [i] else fstL L i) = _
        rw [hg, if_neg (by omega)]
      rw [cls_old hz hn] at h
      rw [hf]
      have hzl : z.toNat < (clsL L i).length := by omega
      by_cases hj : j = z.toNat
      · subst hj
        rw [List.getElem?_set_self hzl] at h; cases h
        obtain ⟨x, h1, h2⟩ := ih z.toNat _ (List.getElem?_eq_getElem hzl)
        refine ⟨x, h1, ?_⟩
        rw [List.getD_eq_getElem?_getD, List.getElem?_eq_getElem hzl, Option.getD_some, List.getElem?_append_left (List.getElem?_eq_some_iff.1 h2).1]
        exact h2
      · rw [List.getElem?_set_ne (Ne.symm hj)] at h
        exact ih j c h
structure RelJ (s : Sg) (lp : Blk) (t3 cb n0 c n : Nat) (l l' : List (Int × Int)) (na : Nat) (rp rq : Nat → Nat) (X : Nat → Prop) (k : Nat) (s' : Sg) : Prop where
  rel : RelP s' c n (mxOf (l'.take k)) na rp rq
  bt : s'.m t3 = some (.box 47 [.ptr c 0])
  bc : s'.m cb = some (.box 24 [.t (tPairs l)])
  hl : s'.m n0 = some lp
  hk : Keep s s'
  nx : n0 < s'.next
  hX : ∀ x, X x → n0 < x ∧ x < s'.next
section
variable {s : Sg} {lp : Blk} {t3 cb n0 c n : Nat} {l l' : List (Int × Int)} {na : Nat} {rp rq : Nat → Nat} {X : Nat → Prop} {k : Nat} {s' : Sg}
theorem RelJ.add (h : RelJ s lp t3 cb n0 c n l l' na rp rq X k s') (h3 : t3 < n0) (hc : cb < n0) (hs : s.next ≤ n0) (b : Blk) : RelJ s lp t3 cb n0 c n l l' na rp rq (fun x => X x ∨ x = s'.next) k (s'.add b) := by
  have hn := h.nx
  refine ⟨h.rel.keep ((Keep.refl s').add (Nat.le_refl _) b) (by simp [Sg.add]), by simp [Sg.add, show t3 ≠ s'.next by omega, h.bt], by simp [Sg.add, show cb ≠ s'.next by omega, h.bc], by simp [Sg.add, show n0 ≠ s'.next by omega, h.hl], h.hk.add (by omega) b, by simp [Sg.add]; omega, fun x hx => ?_⟩
  rcases hx with hx | rfl
  · have := h.hX x hx; exact ⟨this.1, by simp [Sg.add]; omega⟩
  · exact ⟨hn, by simp [Sg.add]⟩
theorem RelJ.set (h : RelJ s lp t3 cb n0 c n l l' na rp rq X k s') (h3 : t3 < n0) (hc : cb < n0) (hs : s.next ≤ n0) (hN : c < n0 ∧ na < n0 ∧ (∀ i, i < n → rp i < n0) ∧ ∀ i, i < n → rq i < n0) {x : Nat} (hx : X x) (b : Blk) : RelJ s lp t3 cb n0 c n l l' na rp rq X k (s'.set x b) := by
  have h1 := h.hX x hx
  exact ⟨h.rel.setO hN (by omega) b, by simp [Sg.set, show t3 ≠ x by omega, h.bt], by simp [Sg.set, show cb ≠ x by omega, h.bc], by simp [Sg.set, show n0 ≠ x by omega, h.hl], h.hk.set (by omega) b, h.nx, h.hX⟩
end
structure LbI (s : Sg) (lp : Blk) (T cb n0 : Nat) (P : List (Int × Int)) (C : List (List Int)) (lab : List ByteArray) (X : Nat → Prop) (s' : Sg) : Prop where
  b : ∃ m1, s'.m T = some (.box 26 [.loc m1 0 lab.length, .t (tPairs P)]) ∧ s'.m m1 = some (.arr 1 9 (lab.map TS)) ∧ T < m1 ∧ m1 < s'.next ∧ m1 ≠ cb ∧ m1 ≠ n0 ∧ ∀ x, X x → x ≠ m1
  bc : s'.m cb = some (.box 56 [.t (tMat C)])
  hl : s'.m n0 = some lp
  same : ∀ x, x < T → s'.m x = s.m x
  nx : n0 < s'.next
  hX : ∀ x, X x → n0 < x ∧ x < s'.next
section
variable {s : Sg} {lp : Blk} {T cb n0 : Nat} {P : List (Int × Int)} {C : List (List Int)} {lab : List ByteArray} {X : Nat → Prop} {s' : Sg}
theorem LbI.add (h : LbI s lp T cb n0 P C lab X s') (h3 : T < cb) (hc : cb < n0) (b : Blk) : LbI s lp T cb n0 P C lab (fun x => X x ∨ x = s'.next) (s'.add b) := by
  have hn := h.nx
  obtain ⟨m1, a1, a2, a3, a4, a5, a6, a7⟩ := h.b
  refine ⟨⟨m1, by simp [Sg.add, show T ≠ s'.next by omega, a1], by simp [Sg.add, show m1 ≠ s'.next by omega, a2], a3, by simp [Sg.add]; omega, a5, a6, fun x hx => ?_⟩, by simp [Sg.add, show cb ≠ s'.next by omega, h.bc], by simp [Sg.add, show n0 ≠ s'.next by omega, h.hl], fun x hx => by simp [Sg.add, show x ≠ s'.next by omega, h.same x hx], by simp [Sg.add]; omega, fun x hx => ?_⟩
  · rcases hx with hx | rfl
    · exact a7 x hx
    · omega
  · rcases hx with hx | rfl
    · have := h.hX x hx; exact ⟨this.1, by simp [Sg.add]; omega⟩
    · exact ⟨hn, by simp [Sg.add]⟩
theorem LbI.chg (h : LbI s lp T cb n0 P C lab X s') (h3 : T < cb) (hc : cb < n0) {x : Nat} (hx : X x) (b : Blk) : LbI s lp T cb n0 P C lab X (s'.set x b) := by
  have h1 := h.hX x hx
  obtain ⟨m1, a1, a2, a3, a4, a5, a6, a7⟩ := h.b
  have := a7 x hx
  exact ⟨⟨m1, by simp [Sg.set, show T ≠ x by omega, a1], by simp [Sg.set, Ne.symm this, a2], a3, a4, a5, a6, a7⟩, by simp [Sg.set, show cb ≠ x by omega, h.bc], by simp [Sg.set, show n0 ≠ x by omega, h.hl], fun y hy => by simp [Sg.set, show y ≠ x by omega, h.same y hy], h.nx, h.hX⟩
end
theorem vw_pd {s1 : Sg} {b2 b3 : Blk} {n1 n2 : Nat} {s2 : Sg} {R : Sg → Prop} (h : ((s1.del n2).add b2).set n1 b3 = s2)
    (H : ∀ s9 : Sg, s9 = ((s1.del n2).add b2).set n1 b3 → (∀ x, x ≠ n1 → x ≠ n2 → x < s1.next → s9.m x = s1.m x) → s9.next = s1.next + 1 → R s9) : R s2 :=
  h ▸ H _ rfl (fun x h1 h2 h3 => by rw [m_set, if_neg h1, m_add, if_neg (by simp only [n_del]; omega), m_del, if_neg h2]) rfl
def labK (o : Ob) (L : List Int) (k : Nat) : List ByteArray := ((fstL L L.length).take k).map fun i => o.labels.getD i ByteArray.empty
theorem labK_succ {o : Ob} {L : List Int} {k x : Nat} {lb : ByteArray} (hx : (fstL L L.length)[k]? = some x) (hl : o.labels[x]? = some lb) : labK o L (k + 1) = labK o L k ++ [lb] := by
  unfold labK; rw [List.take_add_one, hx]; simp [List.getD_eq_getElem?_getD, hl]
theorem labK_end (o : Ob) (L : List Int) : labK o L (glN L) = glLab o L L.length := by
  unfold labK glN glLab; rw [List.take_length]
theorem labK_length {o : Ob} {L : List Int} {k : Nat} : (labK o L k).length ≤ k := by unfold labK; simp; omega
def LbK (s : Sg) (lp : Blk) (T cb n0 : Nat) (P : List (Int × Int)) (C : List (List Int)) (o : Ob) (L : List Int) (X : Nat → Prop) (k : Nat) (s' : Sg) : Prop := LbI s lp T cb n0 P C (labK o L k) X s'
def FoldQ (s : Sg) (m : Nat) (L : List Int) (o : Ob) (v : V) (s' : Sg) : Prop :=
  v = .tup [vObj (gluedS o L), .t (tInts L)] ∧ (∀ j b, j < s.next → j ≠ m → s.m j = some b → s'.m j = some b) ∧ s.next ≤ s'.next
set_option maxRecDepth 20000 in
set_option maxHeartbeats 6000000 in
theorem folded_ (s : Sg) (p m : Nat) (R : List Int) (hp : ProR s p m R) (o : Ob) (ho : IsOb o) (hpo : o.pairs.length < 1000000000) (hRl : R.length = o.labels.length) : VCall Tryd.prog 38 [vObj o, .ptr p 0] s (FoldQ s m (placesL R) o) := by
  refine kcall_of_body Tryd.func38 rfl fun Q hQ => ?_
  obtain ⟨e, he, hl, h0, h1⟩ : ∃ e : Env, ([vObj o, .ptr p 0] ++ List.replicate (Tryd.f38.ntmps - ([vObj o, .ptr p 0] : List V).length) .junk) = e ∧ e.length = 56 ∧ ev e (.tmp 0) = vObj o ∧ ev e (.tmp 1) = .ptr p 0 := ⟨_, rfl, rfl, rfl, rfl⟩
  rw [he]
  clear he
  have hle := ho.le
  have hlp : p < s.next := hp.elim fun l h => h.1.lp
  have hlm : m < s.next := hp.elim fun l h => h.1.lm
  obtain ⟨L, hL⟩ : ∃ L, L = placesL R := ⟨_, rfl⟩
  have hLl : L.length = R.length := by rw [hL, placesL_length]
  have hok : PlOK L := by rw [hL]; exact places_ok (hp.elim fun l h => h.2.wfR)
  rw [← hL] at hQ
  refine vsk fun K1 hK1 => ?_
  refine vw_sc 0 [] ?_
  simp only [bs, ↓vopx, ↓vop, thenV, flat, V.cells, h0, wocs, ↓goc, ↓woc, ↓vopm0, Tryd.zv26]
  refine hK1 _ _ ?_
  refine vsk fun K2 hK2 => ?_
  refine vw_env2 fun e2 sa hE2 hSa => ?_
  subst hE2
  have ha2 : sa.m s.next = some (.box 26 [.t (tStrs o.labels), .t (tPairs o.pairs)]) := by rw [hSa, m_add, if_neg (by rw [n_add]; omega), m_add, if_pos rfl]
  have ha4 : sa.m (s.next + 1) = some (.box 26 [.t (.v (.slice none 0 0)), .t (.v (.slice none 0 0))]) := by rw [hSa, m_add, if_pos (by rw [n_add])]
  have han : sa.next = s.next + 2 := by rw [hSa]; rfl
  have hak : ∀ j, j < s.next → sa.m j = s.m j := fun j hj => by rw [hSa, m_add, if_neg (by rw [n_add]; omega), m_add, if_neg (by omega)]
  have hpa : ProR sa p m R := hp.keep (fun n b hn hb => by rw [hak n hn]; exact hb) (by omega)
  clear hSa
  refine vw_sc 0 [.stop] ?_
  simp only [bs, ↓vopx, ↓vop, Nat.reduceBEq, thenV, Nat.reduceLT, V.cells, hl, h1, wocs, ↓goc, ↓woc, ↓vopm0, ↓callC, calleeV]
  refine ⟨Tryd.is61, (unPlaces_ sa p m R hpa (by omega)).mono fun v s2 hv => ?_⟩
  obtain ⟨rfl, hp2, hb2⟩ := hv
  rw [← hL]
  try simp only [bs, Nat.reduceBEq, Nat.reduceLT, hl, h1, Tryd.sz27, Tryd.zv27, Hold]
  refine hK2 _ _ ?_
  refine vsk fun K3 hK3 => ?_
  refine vw_env2 fun e2 sc hE2 hSc => ?_
  subst hE2
  have hs2 := hb2.2
  have hcn : sc.next = s2.next + 1 := by rw [hSc]; rfl
  have hcs : ∀ j, j < s2.next → sc.m j = s2.m j := fun j hj => by rw [hSc, m_set, if_neg (by omega), m_add, if_neg (by omega)]
  have hc2 : sc.m s.next = some (.box 26 [.t (tStrs o.labels), .t (tPairs o.pairs)]) := by rw [hcs _ (by omega), hb2.1 _ (by omega) (by omega)]; exact ha2
  have hc4 : sc.m (s.next + 1) = some (.box 26 [.t (.v (.slice none 0 0)), .t (.v (.slice none 0 0))]) := by rw [hcs _ (by omega), hb2.1 _ (by omega) (by omega)]; exact ha4
  have hc6 : sc.m s2.next = some (.box 27 [.t (tInts L)]) := by rw [hSc, m_set, if_pos rfl]
  have hck : ∀ j, j < s.next → j ≠ m → sc.m j = s.m j := fun j hj hjm => by rw [hcs _ (by omega), hb2.1 _ (by omega) hjm]; exact hak j hj
  have hpc : ProR sc p m R := hp2.keep (fun n b hn hb => by rw [hcs n hn]; exact hb) (by omega)
  clear hSc
  refine vw_sc 0 [.stop] ?_
  simp only [bs, ↓vopx, ↓vop, Nat.reduceBEq, thenV, Nat.reduceLT, hl, h1, wocs, ↓goc, ↓woc, ↓vopm0, ↓callC, calleeV]
  refine ⟨Tryd.is62, (unClasses_ sc p m R hpc (by omega)).mono fun v s3 hv => ?_⟩
  obtain ⟨rfl, hp3, hb3⟩ := hv
  rw [← hL, ← hLl]
  try simp only [bs, Nat.reduceBEq, Nat.reduceLT, hl, h1, Hold]
  refine hK3 _ _ ?_
  refine vsk fun K4 hK4 => ?_
  have hs3 := hb3.2
  have hcl : (clsL L L.length).length = glN L := cls_length L L.length
  have hgl : glN L ≤ 40 := by have := fst_le L L.length; show (fstL L L.length).length ≤ 40; omega
  have h32 : s3.m s.next = some (.box 26 [.t (tStrs o.labels), .t (tPairs o.pairs)]) := by rw [hb3.1 _ (by omega) (by omega)]; exact hc2
  have h34 : s3.m (s.next + 1) = some (.box 26 [.t (.v (.slice none 0 0)), .t (.v (.slice none 0 0))]) := by rw [hb3.1 _ (by omega) (by omega)]; exact hc4
  have h36 : s3.m s2.next = some (.box 27 [.t (tInts L)]) := by rw [hb3.1 _ (by omega) (by omega)]; exact hc6
  have h3k : ∀ j, j < s.next → j ≠ m → s3.m j = s.m j := fun j hj hjm => by rw [hb3.1 _ (by omega) hjm]; exact hck j hj hjm
  refine vw_sc 0 [.stop] ?_
  simp only [bs, ↓vopx, ↓vop, thenV, Nat.reduceLT, V.cells, hl, wocs, ↓goc, ↓woc, ↓vopm0, ↓callC, calleeV, len_tMat, hcl]
  refine ⟨Tryd.is30, (relNew_ s3 (glN L) (by omega)).mono fun v s4 hv => ?_⟩
  obtain ⟨c, na1, rp1, rq1, rfl, hR4, hF4, hk4, hn4⟩ := hv
  try simp only [bs, Nat.reduceBEq, Nat.reduceLT, hl, Tryd.sz47, Tryd.zv47, Hold]
  refine hK4 _ _ ?_
  refine vsk fun K5 hK5 => ?_
  refine vsk fun K6 hK6 => ?_
  refine vw_env2 fun e2 sb hE2 hSb => ?_
  subst hE2
  have hsbn : sb.next = s4.next + 1 := by rw [hSb]; rfl
  have hb8 : sb.m s4.next = some (.box 47 [.ptr c 0]) := by rw [hSb, m_set, if_pos rfl]
  have hkb4 : Keep s4 sb := by rw [hSb]; exact ((Keep.refl s4).add (Nat.le_refl _) _).set (Nat.le_refl _) _
  have hkb : Keep s3 sb := hk4.trans hn4 hkb4
  have hbo : sb.m s.next = some (.box 26 [.t (tStrs o.labels), .t (tPairs o.pairs)]) := hkb _ _ (by omega) h32
  clear hSb
  refine vw_sc 0 [.stop] ?_
  simp only [bs, Nat.reduceAdd, ↓vopx, ↓vop, Nat.reduceBEq, thenV, Nat.reduceLT, dLoad, vpart, hl, wocs, ↓goc, ↓woc, ↓vopm0, ↓callC, calleeV, Tryd.ag24, Tryd.fd26_1, Tryd.sz24, hbo]
  refine ⟨Tryd.is31, (valPairs_ sb o.pairs).mono fun v s5 hv => ?_⟩
  obtain ⟨rfl, rfl⟩ := hv
  try simp only [Hold]
  refine hK6 _ _ ?_
  refine vw_block ?_
  refine vw_env2 fun e1q s3q hE hS => ?_
  have hlEq : e1q.length = 56 := by rw [hE]; simp only [lpv, hl]
  have h2Eq : ev e1q (.tmp 2) = .ptr s.next 0 := by rw [hE]; simp only [ev_hit, ev_miss, Nat.reduceBEq, hl, Nat.reduceLT]
  have h4Eq : ev e1q (.tmp 4) = .ptr (s.next + 1) 0 := by rw [hE]; simp only [ev_hit, ev_miss, Nat.reduceBEq, lpv, hl, Nat.reduceLT]
  have h6Eq : ev e1q (.tmp 6) = .ptr s2.next 0 := by rw [hE]; simp only [ev_hit, ev_miss, Nat.reduceBEq, lpv, hl, Nat.reduceLT]
  have h7Eq : ev e1q (.tmp 7) = .t (tMat (clsL L L.length)) := by rw [hE]; simp only [ev_hit, ev_miss, Nat.reduceBEq, lpv, hl, Nat.reduceLT]
  have h8Eq : ev e1q (.tmp 8) = .ptr s4.next 0 := by rw [hE]; simp only [ev_hit, ev_miss, Nat.reduceBEq, lpv, hl, Nat.reduceLT]
  have h21Eq : ev e1q (.tmp 21) = .clo 56 [.ptr sb.next 0] := by rw [hE]; simp only [ev_hit, lpv, hl, Nat.reduceLT]
  clear hE
  have h3nq : s3q.next = sb.next + 1 := by rw [hS]; rfl
  have h3kq : Keep sb s3q := by rw [hS]; exact (Keep.refl sb).add (Nat.le_refl _) _
  have h3cq : s3q.m sb.next = some (.box 24 [.t (tPairs o.pairs)]) := by rw [hS]; simp [Sg.add]
  clear hS
  refine vw_range (g := 56) (caps := [.ptr sb.next 0]) h21Eq Tryd.func56 rfl (by decide) fun s4q h4eq h4nq h4mq h4lq => ?_
  have hNB : c < s3q.next ∧ na1 < s3q.next ∧ (∀ i, i < glN L → rp1 i < s3q.next) ∧ ∀ i, i < glN L → rq1 i < s3q.next := ⟨by have := hR4.lp; omega, by have := hR4.la; omega, fun i hi => by have := hR4.lr i hi; omega, fun i hi => by have := hR4.lq i hi; omega⟩
  have hk4q : Keep sb s4q := fun m b hm hb => by rw [h4mq m (by omega)]; exact h3kq m b hm hb
  have hst : RelJ s3 _ s4.next sb.next s3q.next c (glN L) o.pairs (o.pairs.map (mpP L)) na1 rp1 rq1 (fun _ => False) 0 s4q := ⟨(hR4.keep (hkb4.trans (by omega) hk4q) (by omega)).congr fun x y hx hy => by simp [mxOf], hk4q _ _ (by omega) hb8, by rw [h4mq _ (by omega)]; exact h3cq, h4lq, hkb.trans (by omega) hk4q, by omega, fun x hx => hx.elim⟩
  refine (valPairs1_ s3q.next sb.next o.pairs hpo _ ⟨fun X k s5 hp => ⟨hp.bc, fun x hx => (hp.hX x hx).2⟩, fun X k s5 b hp => hp.add (by omega) (by omega) (by omega) b, fun X k s5 x b hp hx => hp.set (by omega) (by omega) (by omega) hNB hx b, fun X k s5 hkl hp5 => ?_⟩ s4q hst).mono fun v s6q h6q => ?_
  rotate_left
  · obtain ⟨X, hp6⟩ := h6q
    refine ⟨none, .ready, hp6.hl, by simp, ?_⟩
    have hnx6 := hp6.nx
    simp only []
    refine hK5 _ _ ?_
    refine vsk fun K7 hK7 => ?_
    have hrf := hp6.rel
    rw [List.take_of_length_le (by simp), glMx_eq] at hrf
    refine vw_env2 fun e2 sg hE2 hSg => ?_
    subst hE2
    have hgk : Keep s3 sg := by rw [hSg]; exact hp6.hk.del (by omega)
    have hgn : sg.next = s6q.next := by rw [hSg]; rfl
    have hg8 : sg.m s4.next = some (.box 47 [.ptr c 0]) := by rw [hSg, m_del, if_neg (by omega)]; exact hp6.bt
    have hgr : RelP sg c (glN L) (glMx o L) na1 rp1 rq1 := by rw [hSg]; exact ⟨by rw [m_del, if_neg (by have := hNB.1; omega)]; exact hrf.hp, by rw [m_del, if_neg (by have := hNB.2.1; omega)]; exact hrf.ha, fun i hi => by rw [m_del, if_neg (by have := hNB.2.2.1 i hi; omega)]; exact hrf.hr i hi, fun i hi => by rw [m_del, if_neg (by have := hNB.2.2.2 i hi; omega)]; exact hrf.hw i hi, hrf.inj, hrf.le, hrf.lp, hrf.la, hrf.lr, hrf.lq⟩
    clear hSg
    refine vw_sc 0 [.stop, .stop] ?_
    simp only [bs, vparts, ↓vopx, ↓vop, thenV, Nat.reduceLT, V.cells, dLoad, vpart, hlEq, h8Eq, wocs, ↓goc, ↓woc, ↓vopm0, ↓callC, calleeV, ↓yieldC, Tryd.ag47, Tryd.sz47, hg8]
    refine ⟨Tryd.is63, (relClosure_ sg c (glN L) (glMx o L) na1 rp1 rq1 hgr).mono fun v s7 hv => ?_⟩
    obtain ⟨c2, na2, rp2, rq2, rfl, hR7, hF7, hk7, hn7⟩ := hv
    try simp only [bs, Nat.reduceAdd, Nat.reduceBEq, Nat.reduceLT, hlEq, Tryd.st26, Tryd.sz26, Tryd.zv26, Hold]
    refine ⟨Tryd.is64, DCall.v (relPairs_ s7 c2 (glN L) _ na2 rp2 rq2 hR7) ?_⟩
    try simp only [bs, Nat.reduceAdd, gfill]
    refine hK7 _ _ ?_
    refine vsk fun K8 hK8 => ?_
    refine vsk fun K9 hK9 => ?_
    refine vw_env2 fun e2 sh hE2 hSh => ?_
    subst hE2
    have hh10 : sh.m s7.next = some (.box 26 [.t (.v (.slice none 0 0)), .t (tPairs (pairsOf (glN L) (cloK (glMx o L) (glN L))))]) := by rw [hSh, m_set, if_pos rfl]
    have hhs : ∀ j, j < s7.next → sh.m j = s7.m j := fun j hj => by rw [hSh, m_set, if_neg (by omega), m_add, if_neg (by omega)]
    have hhn : sh.next = s7.next + 1 := by rw [hSh]; rfl
    clear hSh
    refine VW.nameBox s7.next 0 1 9 (by omega) hh10 rfl ?_
    refine vw_env2 fun e2 si hE2 hSi => ?_
    subst hE2
    have hi10 : si.m s7.next = some (.box 26 [.loc (s7.next + 1) 0 0, .t (tPairs (pairsOf (glN L) (cloK (glMx o L) (glN L))))]) := by rw [hSi, m_set, if_pos rfl, hhn]; rfl
    have hia : si.m (s7.next + 1) = some (.arr 1 9 []) := by rw [hSi, m_set, if_neg (by omega), m_add, if_pos (by omega)]
    have his : ∀ j, j < s7.next → si.m j = s7.m j := fun j hj => by rw [hSi, m_set, if_neg (by omega), m_add, if_neg (by omega)]; exact hhs j hj
    have hin : si.next = s7.next + 2 := by rw [hSi, n_set, n_add]; omega
    clear hSi
    refine vw_sc 0 [.stop] ?_
    simp only [bs, ↓vopx, ↓vop, Nat.reduceBEq, thenV, Nat.reduceLT, hlEq, h7Eq, wocs, ↓goc, ↓woc, ↓vopm0, ↓callC, calleeV]
    refine ⟨Tryd.is65, (valMat_ si (clsL L L.length)).mono fun v s8 hv => ?_⟩
    obtain ⟨rfl, rfl⟩ := hv
    try simp only [bs, Nat.reduceBEq, h7Eq, Hold]
    refine hK9 _ _ ?_
    refine vw_block ?_
    refine vw_env2 fun e1r s3r hE hS => ?_
    have hlEr : e1r.length = 56 := by rw [hE]; simp only [lpv, hlEq]
    have h2Er : ev e1r (.tmp 2) = .ptr s.next 0 := by rw [hE]; simp only [ev_miss, Nat.reduceBEq, h2Eq]
    have h4Er : ev e1r (.tmp 4) = .ptr (s.next + 1) 0 := by rw [hE]; simp only [ev_miss, Nat.reduceBEq, h4Eq]
    have h6Er : ev e1r (.tmp 6) = .ptr s2.next 0 := by rw [hE]; simp only [ev_miss, Nat.reduceBEq, h6Eq]
    have h10Er : ev e1r (.tmp 10) = .ptr s7.next 0 := by rw [hE]; simp only [ev_hit, ev_miss, Nat.reduceBEq, lpv, hlEq, Nat.reduceLT]
    have h40Er : ev e1r (.tmp 40) = .clo 83 [.ptr si.next 0] := by rw [hE]; simp only [ev_hit, lpv, hlEq, Nat.reduceLT]
    clear hE
    have h3nr : s3r.next = si.next + 1 := by rw [hS]; rfl
    have h3or : ∀ x, x < si.next → s3r.m x = si.m x := fun x hx => by rw [hS, m_add, if_neg (by omega)]
    have h3cr : s3r.m si.next = some (.box 56 [.t (tMat (clsL L L.length))]) := by rw [hS, m_add, if_pos rfl]
    clear hS
    have h7k : Keep s3 s7 := hgk.trans (by omega) hk7
    refine vw_range (g := 83) (caps := [.ptr si.next 0]) h40Er Tryd.func83 rfl (by decide) fun s4r h4er h4nr h4mr h4lr => ?_
    have h4or : ∀ x, x < si.next → s4r.m x = si.m x := fun x hx => by rw [h4mr x (by omega)]; exact h3or x hx
    have hst : LbK s7 _ s7.next si.next s3r.next (pairsOf (glN L) (cloK (glMx o L) (glN L))) (clsL L L.length) o L (fun _ => False) 0 s4r := ⟨⟨s7.next + 1, by rw [h4or _ (by omega)]; exact hi10, by rw [h4or _ (by omega)]; exact hia, by omega, by omega, by omega, by omega, fun x hx => hx.elim⟩, by rw [h4mr _ (by omega)]; exact h3cr, h4lr, fun x hx => by rw [h4or _ (by omega)]; exact his x hx, by omega, fun x hx => hx.elim⟩
    refine (valMat1_ s3r.next si.next (clsL L L.length) (by omega) (LbK s7 _ s7.next si.next s3r.next (pairsOf (glN L) (cloK (glMx o L) (glN L))) (clsL L L.length) o L) (fun _ => False) ⟨fun X k s5 hp => ⟨LbI.bc hp, fun x hx => (LbI.hX hp x hx).2⟩, fun X k s5 b hp => LbI.add hp (by omega) (by omega) b, fun X k s5 x b hp hx => LbI.chg hp (by omega) (by omega) hx b, fun X k s5r hkl hp5 => ?_⟩ s4r hst).mono fun v s6r h6r => ?_
    rotate_left
    · rcases h6r with ⟨X, hl6⟩ | hF6
      rotate_left
      · exact hF6.elim
      refine ⟨none, .ready, LbI.hl hl6, by simp, ?_⟩
      simp only []
      refine hK8 _ _ ?_
      refine vsk fun K10 hK10 => ?_
      have nn26 : ¬ s2.next = s.next + 1 := by omega
      have hlab : labK o L (clsL L L.length).length = glLab o L L.length := by rw [hcl]; exact labK_end o L
      obtain ⟨m1, a1, a2, a3, a4, a5, a6, a7⟩ := LbI.b hl6
      rw [hlab] at a1 a2
      have hs6 := LbI.same hl6
      clear hl6
      refine vw_env2 fun e2 sk hE2 hSk => ?_
      subst hE2
      have k1 : sk.m s7.next = some (.box 26 [.loc m1 0 (glLab o L L.length).length, .t (tPairs (pairsOf (glN L) (cloK (glMx o L) (glN L))))]) := by rw [hSk, m_del, if_neg (by omega)]; exact a1
      have k2 : sk.m m1 = some (.arr 1 9 ((glLab o L L.length).map TS)) := by rw [hSk, m_del, if_neg a6]; exact a2
      have k3 : ∀ x, x < s7.next → sk.m x = s7.m x := fun x hx => by rw [hSk, m_del, if_neg (by omega)]; exact hs6 x hx
      have k4 : s7.next ≤ sk.next := by rw [hSk]; show s7.next ≤ s6r.next; omega
      clear hSk
      refine VW.freezeBox s7.next 0 (n := m1) (len := (glLab o L L.length).length) (k := 1) (el := 9) (cs := (glLab o L L.length).map TS) k1 rfl k2 (by simp) ?_
      refine vw_env2 fun e2 sf hE2 hSf => ?_
      subst hE2
      have hf10 : sf.m s7.next = some (.box 26 [.t (tStrs (glLab o L L.length)), .t (tPairs (pairsOf (glN L) (cloK (glMx o L) (glN L))))]) := by rw [hSf, m_set, if_pos rfl]; rfl
      have hfk : ∀ x, x < s7.next → sf.m x = s7.m x := fun x hx => by rw [hSf, m_set, if_neg (by omega), m_del, if_neg (by omega)]; exact k3 x hx
      have hfn : s7.next ≤ sf.next := by rw [hSf]; exact k4
      clear hSf
      have hf6 : sf.m s2.next = some (.box 27 [.t (tInts L)]) := by rw [hfk _ (by omega)]; exact h7k _ _ (by omega) h36
      have hf4 : sf.m (s.next + 1) = some (.box 26 [.t (.v (.slice none 0 0)), .t (.v (.slice none 0 0))]) := by rw [hfk _ (by omega)]; exact h7k _ _ (by omega) h34
      refine vw_lls (p := 10) (q := 6) (r := 4) (a := 54) (b := 55) (c := 5) (t0 := 26) (t1 := 27) (t2 := 26) Tryd.mixed rfl (by decide +kernel) (by decide +kernel) (by decide +kernel) (by decide +kernel) (by decide +kernel) (by decide +kernel) (by decide +kernel) ⟨_, rfl, rfl, rfl, rfl⟩ ⟨_, rfl, rfl, rfl, rfl⟩ ⟨_, rfl, rfl, rfl, rfl⟩ ⟨_, rfl, rfl, rfl, rfl⟩ (by decide) (by rw [hlEr]; decide) (by rw [hlEr]; decide) (va := vObj (gluedS o L)) (vb := .t (tInts L)) (n := (s.next + 1)) (off := 0) (ty := 26) (cs := [.t (.v (.slice none 0 0)), .t (.v (.slice none 0 0))]) (xs := [.t (tStrs (glLab o L L.length)), .t (tPairs (pairsOf (glN L) (cloK (glMx o L) (glN L))))]) ?_ ?_ h4Er hf4 rfl (by kernel_rfl) (by simp) ?_ (fun e9 hc9 he9 hl9 _ => ?_) (by rw [hlEr]; decide)
      · simp [dLoad, vpart, h10Er, hf10, Tryd.sz26, Tryd.ag26, gluedS]; try exact ⟨rfl, rfl⟩
      · simp [dLoad, vpart, h6Er, hf6, Tryd.sz27, Tryd.ag27]
      · simp [dLoad, vpart, Sg.set, h6Er, hf6, Tryd.sz27, Tryd.ag27, nn26]
      rw [hlEr] at hl9
      have h4F : ev e9 (.tmp 4) = .ptr (s.next + 1) 0 := by rw [he9 4 (by decide) (by decide) (by decide)]; exact h4Er
      simp only [thenV]
      refine hK10 _ _ ?_
      refine vw_ret ?_
      refine hQ _ _ _ (.inr rfl) ⟨[vObj (gluedS o L), .t (tInts L)], ?_, rfl, ⟨rfl, fun j b hj hjm hb => ?_, ?_⟩⟩
      · show vres Tryd.prog _ _ [.cell 4 26, .tmp 5] = _
        simp only [vres_cell, vres_tmp, vres_nil, hc9, h4F, Tryd.sz26, Tryd.ag26, dLoad, m_set, vpart, if_true, List.drop_zero]
        rfl
      · rw [m_set, if_neg (by omega), hfk j (by omega)]; exact h7k _ _ (by omega) (by rw [h3k j hj hjm]; exact hb)
      · show s.next ≤ sf.next; omega
    obtain ⟨cc, hcc⟩ : ∃ c, (clsL L L.length)[k]? = some c := ⟨_, List.getElem?_eq_getElem hkl⟩
    have hpv : intsV (clsL L L.length) k = [.t (tInts cc)] := by unfold intsV; rw [hcc]
    rw [hpv]
    obtain ⟨x, hx1, hx2⟩ := cls_head hok L.length (Nat.le_refl _) k cc hcc
    have hxl := fst_mem L _ _ (List.mem_of_getElem? hx1)
    obtain ⟨lb, hlb⟩ : ∃ lb, o.labels[x]? = some lb := ⟨_, List.getElem?_eq_getElem (by omega)⟩
    obtain ⟨m1, a1, a2, a3, a4, a5, a6, a7⟩ := LbI.b hp5
    have hnx5 := LbI.nx hp5
    refine ycall_of hp5.hl rfl fun KA hKA => ?_
    rw [show (#[41] : Array Tmp).toList = [41] from rfl, setps_one]
    refine vw_sc 0 [] ?_
    simp only [bs, ↓vopx, ↓vop, thenV, Nat.reduceLT, hlEr, wocs, ↓goc, ↓woc, ↓vopm0]
    refine hKA _ _ (LbI.hl hp5) ?_
    refine vw_env2 fun e2 sd hE2 hSd => ?_
    subst hE2
    have hd10 : sd.m s7.next = some (.box 26 [.loc m1 0 (labK o L k).length, .t (tPairs (pairsOf (glN L) (cloK (glMx o L) (glN L))))]) := by rw [hSd, m_set, if_neg (by omega)]; exact a1
    have hda : sd.m m1 = some (.arr 1 9 ((labK o L k).map TS)) := by rw [hSd, m_set, if_neg a6]; exact a2
    have hds : ∀ x, x < s7.next → sd.m x = s7.m x := fun x hx => by rw [hSd, m_set, if_neg (by omega)]; exact LbI.same hp5 x hx
    have hdo : sd.m s.next = some (.box 26 [.t (tStrs o.labels), .t (tPairs o.pairs)]) := by rw [hds _ (by omega)]; exact h7k _ _ (by omega) h32
    have hdn : sd.next = s5r.next := by rw [hSd]; rfl
    have n5 : ¬ s7.next = sd.next := by omega
    have n6 : ¬ s7.next = m1 := by omega
    have hlk := @labK_length o L k
    have hcc0 : 0 < cc.length := (List.getElem?_eq_some_iff.1 hx2).1
    have hxo : x < o.labels.length := (List.getElem?_eq_some_iff.1 hlb).1
    refine vw_block ?_
    refine vw_chain Tryd.mixed 10 [0, 1, 0, 1, 0, 1, 1, 1, 1, 1] [] [] 0 (by decide +kernel) (by simp [lpv, hlEr]) rfl ?_
    simp only [bs, dstT, srcT, Nat.reduceLeDiff, Nat.reduceAdd, vparts, gfill, repl, Sg.frzP, ↓vopx, ↓vop, Nat.reduceBEq, blockV, flat, Nat.reduceLT, V.cells, dLoad, vpart, Sg.frzL, Sg.frz1, hlEr, h2Er, h10Er, wocs, ↓goc, ↓woc, ↓vopm0, ↓vopm1, chn, ↓goq, ↓woq, List.zip_cons_cons, List.zip_nil_right, Tryd.ag23, Tryd.ag3, Tryd.ag9, Tryd.fd26_0, Tryd.sl23, Tryd.sz23, Tryd.sz3, Tryd.sz9, Tryd.un23, Tryd.un27, hd10, hda, hdo, hx2, hlb, Int.toNat_zero, n5, n6, Nat.div_one]
    repeat ((with_reducible refine And.intro ?_ ?_); · first | (with_reducible assumption) | omega)
    refine vw_pd (s1 := sd) (n1 := s7.next) (n2 := m1) rfl fun s9 hs9 hfr hnx => ?_
    have h91 : s9.m s7.next = some (.box 26 [.loc sd.next 0 (labK o L (k + 1)).length, .t (tPairs (pairsOf (glN L) (cloK (glMx o L) (glN L))))]) := by rw [hs9, m_set, if_pos rfl, labK_succ hx1 hlb, List.length_append]; rfl
    have h92 : s9.m sd.next = some (.arr 1 9 ((labK o L (k + 1)).map TS)) := by rw [hs9, m_set, if_neg (by omega), m_add, if_pos (by rw [n_del]), labK_succ hx1 hlb, List.map_append]; rfl
    clear hs9
    refine And.intro (by rw [hfr _ (by omega) a6.symm (by omega), hSd, m_set, if_pos rfl]) (Or.inl (And.intro rfl ⟨⟨sd.next, by rw [m_set, if_neg (by omega)]; exact h91, by rw [m_set, if_neg (by omega)]; exact h92, by omega, by rw [n_set, hnx]; omega, by omega, by omega, fun x hx => by have := LbI.hX hp5 x hx; omega⟩, ?_, by rw [m_set, if_pos rfl], fun x hx => ?_, by rw [n_set, hnx]; omega, fun x hx => ?_⟩))
    · rw [m_set, if_neg (by omega), hfr _ (by omega) a5.symm (by omega), hSd, m_set, if_neg (by omega)]; exact LbI.bc hp5
    · rw [m_set, if_neg (by omega), hfr _ (by omega) (by omega) (by omega)]; exact hds x hx
    · have := LbI.hX hp5 x hx; exact ⟨this.1, by rw [n_set, hnx]; omega⟩
  obtain ⟨p, hp⟩ : ∃ p, o.pairs[k]? = some p := ⟨_, List.getElem?_eq_getElem hkl⟩
  have hpv : pairV o.pairs k = [.agg [I p.1, I p.2]] := by unfold pairV; rw [hp]
  rw [hpv]
  have hin : (0 ≤ p.1 ∧ p.1 < o.labels.length) ∧ (0 ≤ p.2 ∧ p.2 < o.labels.length) := inB_iff.1 ((List.all_eq_true.1 ho.inb) p (List.mem_of_getElem? hp))
  obtain ⟨za, hza⟩ : ∃ z, L[p.1.toNat]? = some z := ⟨_, List.getElem?_eq_getElem (by omega)⟩
  obtain ⟨zb, hzb⟩ : ∃ z, L[p.2.toNat]? = some z := ⟨_, List.getElem?_eq_getElem (by omega)⟩
  have hla := hok.lt hza
  have hlb := hok.lt hzb
  obtain ⟨a, rfl⟩ : ∃ a : Nat, za = (a : Int) := ⟨za.toNat, by omega⟩
  obtain ⟨b, rfl⟩ : ∃ b : Nat, zb = (b : Int) := ⟨zb.toNat, by omega⟩
  have hmp : mpP L p = ((a : Int), (b : Int)) := by simp only [mpP, getD_of hza, getD_of hzb]
  have hnx5 := hp5.nx
  have hn35 : s3q.next ≠ s5.next := by omega
  have hn25 : s4.next ≠ s5.next := by omega
  refine ycall_of hp5.hl rfl fun KA hKA => ?_
  rw [show (#[22] : Array Tmp).toList = [22] from rfl, setps_one]
  refine vw_sc 0 [] ?_
  simp only [bs, Nat.reduceAdd, ↓vopx, ↓vop, Nat.reduceBEq, thenV, Nat.reduceLT, V.cells, hlEq, wocs, ↓goc, ↓woc, ↓vopm0, Tryd.sz30, Tryd.zv30]
  refine hKA _ _ (by simp [Sg.set, Sg.add, hn35, hp5.hl]) ?_
  refine vw_env2 fun e2 sd hE2 hSd => ?_
  subst hE2
  have hsdn : sd.next = s5.next + 1 := by rw [hSd]; rfl
  have hbt : sd.m s4.next = some (.box 47 [.ptr c 0]) := by rw [hSd]; simp [Sg.set, Sg.add, show s4.next ≠ s3q.next by omega, hn25, hp5.bt]
  have hbx : sd.m s5.next = some (.box 30 [I p.1, I p.2]) := by rw [hSd]; simp [Sg.set, Sg.add, hn35.symm]
  have hkd : Keep s3 sd := by rw [hSd]; exact (((hp5.hk.add (by omega) _).set (by omega) _)).set (by omega) _
  have hb6 : sd.m s2.next = some (.box 27 [.t (tInts L)]) := hkd _ _ (by omega) h36
  have hrd : RelP sd c (glN L) (mxOf ((o.pairs.map (mpP L)).take k)) na1 rp1 rq1 := by rw [hSd]; exact (hp5.rel.keep (((Keep.refl s5).add (Nat.le_refl _) _).set (Nat.le_refl _) _) (by simp [Sg.set, Sg.add])).setO hNB (Nat.le_refl _) _
  have hdo : ∀ m, m ≠ s3q.next → m ≠ s5.next → sd.m m = s5.m m := fun m h1 h2 => by rw [hSd]; simp [Sg.set, Sg.add, h1, h2]
  have hal : a < glN L ∧ b < glN L := by omega
  refine vw_block ?_
  refine vw_chain Tryd.mixed 11 [1, 1, 0, 1, 1, 1, 1, 0, 1, 1, 1] [] [.stop] 0 (by decide +kernel) (by simp [lpv, hlEq]) rfl ?_
  simp only [bs, Nat.reduceAdd, ↓vopx, ↓vop, Nat.reduceBEq, blockV, Nat.reduceLT, dLoad, vpart, hlEq, h6Eq, h8Eq, wocs, ↓goc, ↓woc, ↓vopm1, ↓callC, calleeV, chn, ↓goq, ↓woq, List.zip_cons_cons, List.zip_nil_right, Tryd.ag27, Tryd.ag3, Tryd.ag47, Tryd.fd30_0, Tryd.fd30_1, Tryd.sz27, Tryd.sz3, Tryd.sz47, Tryd.un27, hbt, hbx, hb6, hza, hzb]
  repeat (refine And.intro (by omega) ?_)
  refine ⟨Tryd.is32, (relAdd_ sd c _ _ na1 rp1 rq1 hrd a b hal.1 hal.2).mono fun v s9 hv => ?_⟩
  try simp only [bs, Hold]
  obtain ⟨⟨bb, rfl⟩, hr9, hm9, hn9⟩ := hv
  have hq : ∀ m, s4.next ≤ m → s9.m m = sd.m m := fun m hm => hm9 m fun i hi => by have := hR4.lq i hi; omega
  have hp2k : (o.pairs.map (mpP L))[k]? = some ((a : Int), (b : Int)) := by rw [List.getElem?_map, hp, ← hmp]; rfl
  refine And.intro (by rw [hq _ (by omega), hSd]; exact if_pos rfl) (And.intro rfl ⟨⟨?_, ?_, ?_, by simp [Sg.set], ?_, by simp [Sg.set]; omega, fun x hx => ?_⟩, fun x hx => ?_⟩)
  · rw [mxOf_take hp2k, updM_or]; exact hr9.setO hNB (Nat.le_refl _) _
  · simp [Sg.set, show s4.next ≠ s3q.next by omega, hq s4.next (Nat.le_refl _), hbt]
  · simp [Sg.set, show sb.next ≠ s3q.next by omega, hq sb.next (by omega), hdo sb.next (by omega) (by omega), hp5.bc]
  · exact (AddP.keep (v := Bo bb) ⟨⟨_, rfl⟩, hr9, hm9, hn9⟩ (fun i hi => hF4.hq i hi) hkd).set (by omega) _
  · have := hp5.hX x hx; exact ⟨this.1, by simp [Sg.set]; omega⟩
  · have := hp5.hX x hx; simp [Sg.set, show x ≠ s3q.next by omega, hq x (by omega), hdo x (by omega) (by omega)]
end Go.Proofs

open Go Go.V
namespace Go.Proofs
theorem done_wk {P : Program} {s s' : Sg} {e' : Env} {rs : List ResultVar} {vs vs' : List V} (hv : vres P s' e' rs = some vs) (hsol : vs.all solid = true) (hw : EWk s' s' (pack vs) (pack vs')) (hn : nm s.next (pack vs')) (hs : Keep s s') : Done P s rs (pack vs') e' s' :=
  ⟨vs, hv, hsol, pack vs', s', s, ⟨rfl, fun _ b hb => ⟨b, hb, bwk_refl _ _ _⟩, hw, trivial⟩, hn, ⟨rfl, fun _ _ h => .inr h, fun n b hl h => ⟨hs n b hl h, .inl h⟩⟩, rfl, rfl⟩
theorem vwk_nil (s : Sg) (k : Nat) (hk : 0 < k) : VWk s s (.t (.v (.slice none 0 0))) (.t (.sl k [])) := .inr (.inr ⟨k, hk, rfl, rfl⟩)
theorem ewk_err4 (s : Sg) (z : Int) : EWk s s (.tup [.agg [.t (.v (.slice none 0 0)), .t (.v (.slice none 0 0))], .t (.v (.slice none 0 0)), .t (.v (.slice none 0 0)), I z]) (.tup [vObj ⟨[], []⟩, .t (tInts []), .t (tInts []), I z]) :=
  .inr (.inr (.inr ⟨_, _, rfl, rfl, .inr ⟨_, _, rfl, rfl, vwk_nil s 1 (by decide), vwk_nil s 2 (by decide), trivial⟩, .inl (vwk_nil s 1 (by decide)), .inl (vwk_nil s 1 (by decide)), .inl (.inl rfl), trivial⟩))
theorem ewk_err3 (s : Sg) (z : Int) : EWk s s (.tup [.agg [.t (.v (.slice none 0 0)), .t (.v (.slice none 0 0))], .t (.v (.slice none 0 0)), I z]) (.tup [vObj ⟨[], []⟩, .t (tInts []), I z]) :=
  .inr (.inr (.inr ⟨_, _, rfl, rfl, .inr ⟨_, _, rfl, rfl, vwk_nil s 1 (by decide), vwk_nil s 2 (by decide), trivial⟩, .inl (vwk_nil s 1 (by decide)), .inl (.inl rfl), trivial⟩))
theorem keep_del_set (s1 : Sg) (r : Nat) (b : Blk) : Keep (s1.del r) (s1.set r b) := fun n c hn hc => by
  rw [m_del] at hc
  split at hc
  · cases hc
  · rename_i h; rw [m_set, if_neg h]; exact hc
theorem setAll_a0 (a b c d x y : T) : setAll [a, b, c, d] 0 [x, y] = [x, y, c, d] := rfl
theorem setAll_b2 (a b c d x y : T) : setAll [a, b, c, d] 2 [x, y] = [a, b, x, y] := rfl
theorem large_two (b c : Ob) (hb1 : b.labels.length < 1000000000) (hc1 : c.labels.length < 1000000000) : PCall Tryd.prog 24 [.t (.sl 2 [tStrs b.labels, tPairs b.pairs, tStrs c.labels, tPairs c.pairs])] (Bo (largeS [b, c])) :=
  large_ [b, c] (by simp) (by intro o ho; simp at ho; rcases ho with rfl | rfl <;> omega)
theorem beside_two (b c : Ob) (h : BsOK [b, c]) : PCall Tryd.prog 25 [.t (.sl 2 [tStrs b.labels, tPairs b.pairs, tStrs c.labels, tPairs c.pairs])] (.tup [vObj (bsS [b, c]), .t (tMat (legsT [b, c] 2))]) := beside_ [b, c] h
def sumS (b c : Ob) : Ob × List Int × List Int × Int :=
  if largeS [b, c] = true then (⟨[], []⟩, [], [], 11) else if (checkS b == 0) = true ∧ (checkS c == 0) = true then (besideS b c, legT b.labels.length 0, legT c.labels.length b.labels.length, 0) else (⟨[], []⟩, [], [], 10)
def vSum (r : Ob × List Int × List Int × Int) : V := .tup [vObj r.1, .t (tInts r.2.1), .t (tInts r.2.2.1), I r.2.2.2]
theorem bsS_two (b c : Ob) : bsS [b, c] = besideS b c := by
  have h0 : b.pairs.map (shP 0) = b.pairs := by
    conv => rhs; rw [← List.map_id b.pairs]
    refine List.map_congr_left fun p _ => ?_
    simp [shP]
  show (⟨labsT [b, c] 2, prsT [b, c] 2⟩ : Ob) = _
  simp [labsT, prsT, besideS, h0]
theorem legs_two (b c : Ob) : legsT [b, c] 2 = [legT b.labels.length 0, legT c.labels.length b.labels.length] := by
  simp [legsT, labsT]
set_option maxRecDepth 20000 in
set_option maxHeartbeats 2000000 in
theorem sum_ (b c : Ob) (hb1 : b.labels.length < 1000000000) (hb2 : b.pairs.length ≤ 1000) (hc1 : c.labels.length < 1000000000) (hc2 : c.pairs.length ≤ 1000) : PCall Tryd.prog 22 [vObj b, vObj c] (vSum (sumS b c)) := by
  refine pcall_of_body Tryd.func22 rfl fun s Q hQ => ?_
  obtain ⟨e, he, hl, h0, h1⟩ : ∃ e : Env, ([vObj b, vObj c] ++ List.replicate (Tryd.f22.ntmps - ([vObj b, vObj c] : List V).length) .junk) = e ∧ e.length = 40 ∧ ev e (.tmp 0) = vObj b ∧ ev e (.tmp 1) = vObj c := ⟨_, rfl, rfl, rfl, rfl⟩
  rw [he]
  clear he
  have nn1 : ¬ s.next = s.next + 1 + 1 := by omega
  have nn2 : ¬ s.next + 1 = s.next + 1 + 1 := by omega
  have nn3 : ¬ s.next + 1 + 1 = s.next := by omega
  have nn4 : ¬ s.next + 1 + 1 = s.next + 1 := by omega
  refine vsk fun K1 hK1 => ?_
  refine vw_sc 0 [] ?_
  simp only [bs, ↓vopx, ↓vop, Nat.reduceBEq, thenV, flat, V.cells, h0, h1, wocs, ↓goc, ↓woc, ↓vopm0, Tryd.zv26]
  refine hK1 _ _ ?_
  refine vsk fun K2 hK2 => ?_
  refine vw_block ?_
  refine vsk fun K3 hK3 => ?_
  refine vw_sc 1 [.pur (Bo (largeS [b, c]))] ?_
  simp only [bs, Nat.reduceLeDiff, Nat.reduceAdd, vparts, gfill, repl, Sg.frzP, ↓vopx, ↓vop, Nat.reduceBEq, thenV, Nat.reduceLT, V.cells, dLoad, vpart, Sg.frzL, Sg.frz1, hl, wocs, ↓goc, ↓woc, ↓vopm1, ↓callC, calleeV, Tryd.ag26, Tryd.sl77, Tryd.sz26, nn1, nn2, setAll_a0, setAll_b2, Nat.reduceMul, Nat.le_refl]
  repeat ((with_reducible refine And.intro ?_ ?_); · exact ⟨Tryd.is24, large_two b c hb1 hc1⟩)
  refine hK3 _ _ ?_
  refine vck fun A B hA hB => ?_
  simp only [condV, ev_hit, lpv, Nat.reduceLT, hl]
  refine ⟨fun hlg => hA ?_, fun hlg => hB ?_⟩
  · clear hA hB A B
    refine vsk fun K4 hK4 => ?_
    refine vw_sc 0 [] ?_
    simp only [bs, Nat.reduceAdd, vparts, gfill, ↓vopx, ↓vop, Nat.reduceBEq, thenV, flat, Nat.reduceLT, V.cells, hl, wocs, ↓goc, ↓woc, ↓vopm0, Tryd.st26, Tryd.sz26, nn3, nn4, Nat.le_refl]
    refine hK4 _ _ ?_
    refine vw_ret ?_
    have hres : vSum (sumS b c) = pack [vObj ⟨[], []⟩, .t (tInts []), .t (tInts []), I 11] := by simp [sumS, vSum, hlg]; rfl
    rw [hres] at hQ
    refine hQ _ _ _ (.inr rfl) (done_wk (vs := [.agg [.t (.v (.slice none 0 0)), .t (.v (.slice none 0 0))], .t (.v (.slice none 0 0)), .t (.v (.slice none 0 0)), I 11]) (vs' := [vObj ⟨[], []⟩, .t (tInts []), .t (tInts []), I 11]) ?_ rfl (ewk_err4 _ _) (by simp [pack, nm, nm2, nm1, nm0]) ?_)
    · show vres Tryd.prog _ _ [.cell 4 26, .tmp 5, .tmp 6, .tmp 7] = _
      simp only [vres_cell, vres_tmp, vres_nil, ev_hit, ev_miss, Nat.reduceBEq, lpv, hl, Tryd.sz26, Tryd.ag26, dLoad, m_set, m_add, vpart, if_true, Nat.reduceLT, List.drop_zero, List.take_succ_cons, List.take_zero, List.length_cons, List.length_nil, Nat.zero_add, Nat.reduceAdd]
      try rfl
    · exact fun n b hn h => by simp [Sg.add, Sg.set, show n ≠ s.next by omega, show n ≠ s.next + 1 by omega, show n ≠ s.next + 2 by omega, h]
  · clear hA hB A B
    refine vsk fun K5 hK5 => ?_
    rcases (show (checkS b == 0) = false ∨ ((checkS b == 0) = true ∧ (checkS c == 0) = false) ∨ ((checkS b == 0) = true ∧ (checkS c == 0) = true) by cases (checkS b == 0) <;> cases (checkS c == 0) <;> simp) with kb | ⟨kb, kc⟩ | ⟨kb, kc⟩
    · refine vw_sc 0 [.pur (Bo (checkS b == 0))] ?_
      simp only [bs, Nat.reduceAdd, ↓vopx, ↓vop, Nat.reduceBEq, thenV, flat, Nat.reduceLT, dLoad, vpart, gtmp, hl, wocs, ↓goc, ↓woc, ↓vopm0, ↓callC, ↓pick_tf, calleeV, Tryd.ag26, Tryd.sz26, nn1, kb]
      repeat ((with_reducible refine And.intro ?_ ?_); · exact ⟨Tryd.is17, by simpa only [kb] using isOb_ b (by omega) (by omega)⟩)
      refine hK5 _ _ ?_
      refine vck fun A B hA hB => ?_
      simp only [condV, ev_hit, lpv, Nat.reduceLT, true_implies, reduceCtorEq, false_implies, and_true, hl]
      refine hA ?_
      clear hA hB A B
      refine vsk fun K6 hK6 => ?_
      refine vw_sc 0 [] ?_
      simp only [bs, Nat.reduceAdd, vparts, gfill, ↓vopx, ↓vop, Nat.reduceBEq, thenV, flat, Nat.reduceLT, V.cells, hl, wocs, ↓goc, ↓woc, ↓vopm0, Tryd.st26, Tryd.sz26, nn3, nn4, Nat.le_refl]
      refine hK6 _ _ ?_
      refine vw_ret ?_
      have hres : vSum (sumS b c) = pack [vObj ⟨[], []⟩, .t (tInts []), .t (tInts []), I 10] := by simp [sumS, vSum, hlg, kb]; rfl
      rw [hres] at hQ
      refine hQ _ _ _ (.inr rfl) (done_wk (vs := [.agg [.t (.v (.slice none 0 0)), .t (.v (.slice none 0 0))], .t (.v (.slice none 0 0)), .t (.v (.slice none 0 0)), I 10]) (vs' := [vObj ⟨[], []⟩, .t (tInts []), .t (tInts []), I 10]) ?_ rfl (ewk_err4 _ _) (by simp [pack, nm, nm2, nm1, nm0]) ?_)
      · show vres Tryd.prog _ _ [.cell 4 26, .tmp 5, .tmp 6, .tmp 7] = _
        simp only [vres_cell, vres_tmp, vres_nil, ev_hit, ev_miss, Nat.reduceBEq, lpv, hl, Tryd.sz26, Tryd.ag26, dLoad, m_set, m_add, vpart, if_true, Nat.reduceLT, List.drop_zero, List.take_succ_cons, List.take_zero, List.length_cons, List.length_nil, Nat.zero_add, Nat.reduceAdd]
        try rfl
      · exact fun n b hn h => by simp [Sg.add, Sg.set, show n ≠ s.next by omega, show n ≠ s.next + 1 by omega, show n ≠ s.next + 2 by omega, h]
    · refine vw_sc 0 [.pur (Bo (checkS b == 0)), .pur (Bo (checkS c == 0))] ?_
      simp only [bs, Nat.reduceAdd, ↓vopx, ↓vop, Nat.reduceBEq, thenV, flat, Nat.reduceLT, dLoad, vpart, gtmp, hl, wocs, ↓goc, ↓woc, ↓vopm0, ↓callC, ↓pick_ff, calleeV, Tryd.ag26, Tryd.sz26, nn1, nn2, kb, kc]
      repeat ((with_reducible refine And.intro ?_ ?_); · first | exact ⟨Tryd.is17, by simpa only [kb] using isOb_ b (by omega) (by omega)⟩ | exact ⟨Tryd.is17, by simpa only [kc] using isOb_ c (by omega) (by omega)⟩)
      refine hK5 _ _ ?_
      refine vck fun A B hA hB => ?_
      simp only [condV, ev_hit, lpv, Nat.reduceLT, true_implies, reduceCtorEq, false_implies, and_true, hl]
      refine hA ?_
      clear hA hB A B
      refine vsk fun K7 hK7 => ?_
      refine vw_sc 0 [] ?_
      simp only [bs, Nat.reduceAdd, vparts, gfill, ↓vopx, ↓vop, Nat.reduceBEq, thenV, flat, Nat.reduceLT, V.cells, hl, wocs, ↓goc, ↓woc, ↓vopm0, Tryd.st26, Tryd.sz26, nn3, nn4, Nat.le_refl]
      refine hK7 _ _ ?_
      refine vw_ret ?_
      have hres : vSum (sumS b c) = pack [vObj ⟨[], []⟩, .t (tInts []), .t (tInts []), I 10] := by simp [sumS, vSum, hlg, kc]; rfl
      rw [hres] at hQ
      refine hQ _ _ _ (.inr rfl) (done_wk (vs := [.agg [.t (.v (.slice none 0 0)), .t (.v (.slice none 0 0))], .t (.v (.slice none 0 0)), .t (.v (.slice none 0 0)), I 10]) (vs' := [vObj ⟨[], []⟩, .t (tInts []), .t (tInts []), I 10]) ?_ rfl (ewk_err4 _ _) (by simp [pack, nm, nm2, nm1, nm0]) ?_)
      · show vres Tryd.prog _ _ [.cell 4 26, .tmp 5, .tmp 6, .tmp 7] = _
        simp only [vres_cell, vres_tmp, vres_nil, ev_hit, ev_miss, Nat.reduceBEq, lpv, hl, Tryd.sz26, Tryd.ag26, dLoad, m_set, m_add, vpart, if_true, Nat.reduceLT, List.drop_zero, List.take_succ_cons, List.take_zero, List.length_cons, List.length_nil, Nat.zero_add, Nat.reduceAdd]
        try rfl
      · exact fun n b hn h => by simp [Sg.add, Sg.set, show n ≠ s.next by omega, show n ≠ s.next + 1 by omega, show n ≠ s.next + 2 by omega, h]
    · refine vw_sc 0 [.pur (Bo (checkS b == 0)), .pur (Bo (checkS c == 0))] ?_
      simp only [bs, Nat.reduceAdd, ↓vopx, ↓vop, Nat.reduceBEq, thenV, flat, Nat.reduceLT, dLoad, vpart, gtmp, hl, wocs, ↓goc, ↓woc, ↓vopm0, ↓callC, ↓pick_ff, calleeV, Tryd.ag26, Tryd.sz26, nn1, nn2, kb, kc]
      repeat ((with_reducible refine And.intro ?_ ?_); · first | exact ⟨Tryd.is17, by simpa only [kb] using isOb_ b (by omega) (by omega)⟩ | exact ⟨Tryd.is17, by simpa only [kc] using isOb_ c (by omega) (by omega)⟩)
      refine hK5 _ _ ?_
      refine vck fun A B hA hB => ?_
      simp only [condV, ev_hit, lpv, Nat.reduceLT, true_implies, reduceCtorEq, false_implies, true_and, hl]
      refine hB ?_
      clear hA hB A B
      refine vw_skip ?_
      refine hK2 _ _ ?_
      refine vsk fun K8 hK8 => ?_
      have hOK : BsOK [b, c] := ⟨by simp, by intro o ho; simp at ho; rcases ho with rfl | rfl; exact checkS_zero.1 (by simpa using kb); exact checkS_zero.1 (by simpa using kc), by intro o ho; simp at ho; rcases ho with rfl | rfl <;> omega⟩
      refine vw_sc 1 [.pur (.tup [vObj (besideS b c), .t (tMat [legT b.labels.length 0, legT c.labels.length b.labels.length])])] ?_
      simp only [bs, Nat.reduceLeDiff, Nat.reduceAdd, vparts, gfill, repl, Sg.frzP, ↓vopx, ↓vop, Nat.reduceBEq, thenV, Nat.reduceEqDiff, Nat.reduceLT, V.cells, dLoad, vpart, Sg.frzL, Sg.frz1, hl, wocs, ↓goc, ↓woc, ↓vopm1, ↓callC, calleeV, Tryd.ag26, Tryd.sl77, Tryd.sz26, Tryd.zv26, nn1, nn2, nn3, setAll_a0, setAll_b2, Nat.reduceMul, Nat.le_refl]
      repeat ((with_reducible refine And.intro ?_ ?_); · exact ⟨Tryd.is25, by have h := beside_two b c hOK; rw [bsS_two, legs_two] at h; exact h⟩)
      refine hK8 _ _ ?_
      refine vsk fun K9 hK9 => ?_
      refine vw_chain_del (s.next + 2) Tryd.mixed 9 [1, 0, 2, 2, 0, 2, 2, 3, 0] [] [] 0 (by decide +kernel) (by simp [lpv, hl]) rfl ?_
      simp only [bs, Nat.reduceAdd, ↓vopx, ↓vop, Nat.reduceBEq, thenV, flat, Nat.reduceEqDiff, Nat.reduceLT, V.cells, dLoad, vpart, hl, wocs, ↓goc, ↓woc, ↓vopm0, ↓vopm1, chn, ↓goq, ↓woq, List.zip_cons_cons, List.zip_nil_right, Tryd.ag26, Tryd.ag27, Tryd.sz26, Tryd.sz27, Tryd.un56, nn3, nn4, Nat.le_refl, Int.toNat_zero, Int.toNat_one]
      repeat ((with_reducible refine And.intro ?_ ?_); · first | omega | exact keep_del_set _ _ _)
      refine hK9 _ _ ?_
      refine vw_ret ?_
      have hres : vSum (sumS b c) = pack [vObj (besideS b c), .t (tInts (legT b.labels.length 0)), .t (tInts (legT c.labels.length b.labels.length)), I 0] := by simp [sumS, vSum, hlg, kb, kc]; rfl
      rw [hres] at hQ
      refine hQ _ _ _ (.inr rfl) ?_
      refine done_flat (vs := [vObj (besideS b c), .t (tInts (legT b.labels.length 0)), .t (tInts (legT c.labels.length b.labels.length)), I 0]) ?_ rfl (by simp [pack, nm, nm2, nm1, nm0]) (fun n b hn h => by simp [Sg.add, Sg.set, show n ≠ s.next by omega, show n ≠ s.next + 1 by omega, show n ≠ s.next + 2 by omega, show n ≠ s.next + 1 + 1 + 1 by omega, h])
      show vres Tryd.prog _ _ [.cell 4 26, .tmp 5, .tmp 6, .tmp 7] = _
      simp only [vres_cell, vres_tmp, vres_nil, ev_hit, ev_miss, Nat.reduceBEq, lpv, hl, Tryd.sz26, Tryd.ag26, dLoad, m_set, m_add, vpart, if_true, Nat.reduceLT, List.drop_zero, List.take_succ_cons, List.take_zero, List.length_cons, List.length_nil, Nat.zero_add, Nat.reduceAdd]
end Go.Proofs

open Go Go.V
namespace Go.Proofs
theorem vw_st {P : Program} {c : Code} {Q : Exit → Env → Sg → Prop} {e : Env} {s : Sg} (h : ∀ s1, s1 = s → VW P c Q e s1) : VW P c Q e s := h s rfl
def joinsL (R f g : List Int) : Nat → List Int
  | 0 => R
  | i + 1 => joinL (joinsL R f g i) (f.getD i 0).toNat (g.getD i 0).toNat
theorem joinsL_length (R f g : List Int) : ∀ i, (joinsL R f g i).length = R.length
  | 0 => rfl
  | i + 1 => by simp only [joinsL, joinL_length, joinsL_length R f g i]
theorem joinsL_succ {R f g : List Int} {i : Nat} {y z : Int} (hy : f[i]? = some y) (hz : g[i]? = some z) : joinsL R f g (i + 1) = joinL (joinsL R f g i) y.toNat z.toNat := by
  show joinL (joinsL R f g i) (f.getD i 0).toNat (g.getD i 0).toNat = _
  rw [getD_of hy, getD_of hz]
def eqPl (b : Ob) (f g : List Int) : List Int := placesL (joinsL (rangeI b.labels.length) f g f.length)
def eqS (a b : Ob) (f g : List Int) : Ob × List Int × Int :=
  if largeS [a] = true ∨ largeS [b] = true then (⟨[], []⟩, [], 11) else if arrS a b f = true ∧ arrS a b g = true then (gluedS b (eqPl b f g), eqPl b f g, 0) else (⟨[], []⟩, [], 10)
def vEq (r : Ob × List Int × Int) : V := .tup [vObj r.1, .t (tInts r.2.1), I r.2.2]
theorem large_one (b : Ob) (hb1 : b.labels.length < 1000000000) : PCall Tryd.prog 24 [.t (.sl 2 [tStrs b.labels, tPairs b.pairs])] (Bo (largeS [b])) :=
  large_ [b] (by simp) (by intro o ho; simp at ho; subst ho; exact hb1)
theorem arr_at {a b : Ob} {f : List Int} (h : arrS a b f = true) {i : Nat} (hi : i < f.length) : ∃ y : Nat, f[i]? = some (y : Int) ∧ y < b.labels.length := by
  obtain ⟨_, _, hmap, _⟩ := arrS_iff.1 h
  have hl := allY_length hmap
  obtain ⟨la, hla⟩ : ∃ la, a.labels[i]? = some la := ⟨_, List.getElem?_eq_getElem (by omega)⟩
  obtain ⟨lb, k1, k2, k3⟩ := mapOK_iff.1 (allY_at hmap (List.getElem?_eq_getElem hi) hla)
  exact ⟨f[i].toNat, by rw [List.getElem?_eq_getElem hi]; congr 1; omega, by omega⟩
set_option maxRecDepth 20000 in
set_option maxHeartbeats 4000000 in
theorem equal_ (a b : Ob) (f g : List Int) (ha1 : a.labels.length < 1000000000) (ha2 : a.pairs.length < 1000000000) (hb1 : b.labels.length < 1000000000) (hb2 : b.pairs.length < 1000000000) (hf : f.length < 100000000) (hg : g.length < 100000000) : PCall Tryd.prog 23 [vObj a, vObj b, .t (tInts f), .t (tInts g)] (vEq (eqS a b f g)) := by
  refine pcall_of_body Tryd.func23 rfl fun s Q hQ => ?_
  obtain ⟨e, he, hl, h0, h1, h2, h3⟩ : ∃ e : Env, ([vObj a, vObj b, .t (tInts f), .t (tInts g)] ++ List.replicate (Tryd.f23.ntmps - ([vObj a, vObj b, .t (tInts f), .t (tInts g)] : List V).length) .junk) = e ∧ e.length = 67 ∧ ev e (.tmp 0) = vObj a ∧ ev e (.tmp 1) = vObj b ∧ ev e (.tmp 2) = .t (tInts f) ∧ ev e (.tmp 3) = .t (tInts g) := ⟨_, rfl, rfl, rfl, rfl, rfl, rfl⟩
  rw [he]
  clear he
  have nn1 : ¬ s.next = s.next + 1 + 1 := by omega
  have nn2 : ¬ s.next + 1 = s.next + 1 + 1 := by omega
  have nn3 : ¬ s.next + 1 + 1 = s.next := by omega
  have nn4 : ¬ s.next + 1 + 1 = s.next + 1 := by omega
  refine vsk fun K1 hK1 => ?_
  refine vw_sc 0 [] ?_
  simp only [bs, ↓vopx, ↓vop, Nat.reduceBEq, thenV, flat, V.cells, h0, h1, wocs, ↓goc, ↓woc, ↓vopm0, Tryd.zv26]
  refine hK1 _ _ ?_
  refine vsk fun K2 hK2 => ?_
  refine vw_block ?_
  refine vsk fun K3 hK3 => ?_
  rcases (show largeS [a] = true ∨ (largeS [a] = false ∧ largeS [b] = true) ∨ (largeS [a] = false ∧ largeS [b] = false) by cases largeS [a] <;> cases largeS [b] <;> simp) with ka | ⟨ka, kb⟩ | ⟨ka, kb⟩
  · refine vw_sc 1 [.pur (Bo (largeS [a]))] ?_
    simp only [bs, Nat.reduceLeDiff, Nat.reduceAdd, vparts, gfill, repl, Sg.frzP, ↓vopx, ↓vop, Nat.reduceBEq, thenV, flat, Nat.reduceLT, V.cells, dLoad, vpart, gtmp, Sg.frzL, Sg.frz1, hl, wocs, ↓goc, ↓woc, ↓vopm1, ↓callC, ↓pick_tf, calleeV, Tryd.ag26, Tryd.sl77, Tryd.sz26, nn1, Nat.reduceMul, Nat.le_refl, ka]
    repeat ((with_reducible refine And.intro ?_ ?_); · exact ⟨Tryd.is24, by simpa only [ka] using large_one a ha1⟩)
    refine hK3 _ _ ?_
    refine vck fun A B hA hB => ?_
    simp only [condV, ev_hit, lpv, Nat.reduceLT, true_implies, reduceCtorEq, false_implies, and_true, hl]
    refine hA ?_
    clear hA hB A B
    refine vsk fun K4 hK4 => ?_
    refine vw_sc 0 [] ?_
    simp only [bs, Nat.reduceAdd, vparts, gfill, ↓vopx, ↓vop, Nat.reduceBEq, thenV, flat, Nat.reduceLT, V.cells, hl, wocs, ↓goc, ↓woc, ↓vopm0, Tryd.st26, Tryd.sz26, nn3, nn4, Nat.le_refl]
    refine hK4 _ _ ?_
    refine vw_ret ?_
    have hres : vEq (eqS a b f g) = pack [vObj ⟨[], []⟩, .t (tInts []), I 11] := by simp [eqS, vEq, ka]; rfl
    rw [hres] at hQ
    refine hQ _ _ _ (.inr rfl) (done_wk (vs := [.agg [.t (.v (.slice none 0 0)), .t (.v (.slice none 0 0))], .t (.v (.slice none 0 0)), I 11]) (vs' := [vObj ⟨[], []⟩, .t (tInts []), I 11]) ?_ rfl (ewk_err3 _ _) (by simp [pack, nm, nm2, nm1, nm0]) ?_)
    · show vres Tryd.prog _ _ [.cell 8 26, .tmp 9, .tmp 10] = _
      simp only [vres_cell, vres_tmp, vres_nil, ev_hit, ev_miss, Nat.reduceBEq, lpv, hl, Tryd.sz26, Tryd.ag26, dLoad, m_set, m_add, vpart, if_true, Nat.reduceLT, List.drop_zero, List.take_succ_cons, List.take_zero, List.length_cons, List.length_nil, Nat.zero_add, Nat.reduceAdd]
      try rfl
    · exact fun n b hn h => by simp [Sg.add, Sg.set, show n ≠ s.next by omega, show n ≠ s.next + 1 by omega, show n ≠ s.next + 2 by omega, h]
  · refine vw_sc 1 [.pur (Bo (largeS [a])), .pur (Bo (largeS [b]))] ?_
    simp only [bs, Nat.reduceLeDiff, Nat.reduceAdd, vparts, gfill, repl, Sg.frzP, ↓vopx, ↓vop, Nat.reduceBEq, thenV, flat, Nat.reduceEqDiff, Nat.reduceLT, V.cells, dLoad, vpart, gtmp, Sg.frzL, Sg.frz1, hl, wocs, ↓goc, ↓woc, ↓vopm1, ↓callC, ↓pick_ff, calleeV, Tryd.ag26, Tryd.sl77, Tryd.sz26, nn1, nn2, Nat.reduceMul, Nat.le_refl, ka, kb]
    repeat ((with_reducible refine And.intro ?_ ?_); · first | exact ⟨Tryd.is24, by simpa only [ka] using large_one a ha1⟩ | exact ⟨Tryd.is24, by simpa only [kb] using large_one b hb1⟩)
    refine hK3 _ _ ?_
    refine vck fun A B hA hB => ?_
    simp only [condV, ev_hit, lpv, Nat.reduceLT, true_implies, reduceCtorEq, false_implies, and_true, hl]
    refine hA ?_
    clear hA hB A B
    refine vsk fun K5 hK5 => ?_
    refine vw_sc 0 [] ?_
    simp only [bs, Nat.reduceAdd, vparts, gfill, ↓vopx, ↓vop, Nat.reduceBEq, thenV, flat, Nat.reduceLT, V.cells, hl, wocs, ↓goc, ↓woc, ↓vopm0, Tryd.st26, Tryd.sz26, nn3, nn4, Nat.le_refl]
    refine hK5 _ _ ?_
    refine vw_ret ?_
    have hres : vEq (eqS a b f g) = pack [vObj ⟨[], []⟩, .t (tInts []), I 11] := by simp [eqS, vEq, kb]; rfl
    rw [hres] at hQ
    refine hQ _ _ _ (.inr rfl) (done_wk (vs := [.agg [.t (.v (.slice none 0 0)), .t (.v (.slice none 0 0))], .t (.v (.slice none 0 0)), I 11]) (vs' := [vObj ⟨[], []⟩, .t (tInts []), I 11]) ?_ rfl (ewk_err3 _ _) (by simp [pack, nm, nm2, nm1, nm0]) ?_)
    · show vres Tryd.prog _ _ [.cell 8 26, .tmp 9, .tmp 10] = _
      simp only [vres_cell, vres_tmp, vres_nil, ev_hit, ev_miss, Nat.reduceBEq, lpv, hl, Tryd.sz26, Tryd.ag26, dLoad, m_set, m_add, vpart, if_true, Nat.reduceLT, List.drop_zero, List.take_succ_cons, List.take_zero, List.length_cons, List.length_nil, Nat.zero_add, Nat.reduceAdd]
      try rfl
    · exact fun n b hn h => by simp [Sg.add, Sg.set, show n ≠ s.next by omega, show n ≠ s.next + 1 by omega, show n ≠ s.next + 2 by omega, h]
  · refine vw_sc 1 [.pur (Bo (largeS [a])), .pur (Bo (largeS [b]))] ?_
    simp only [bs, Nat.reduceLeDiff, Nat.reduceAdd, vparts, gfill, repl, Sg.frzP, ↓vopx, ↓vop, Nat.reduceBEq, thenV, flat, Nat.reduceEqDiff, Nat.reduceLT, V.cells, dLoad, vpart, gtmp, Sg.frzL, Sg.frz1, hl, wocs, ↓goc, ↓woc, ↓vopm1, ↓callC, ↓pick_ff, calleeV, Tryd.ag26, Tryd.sl77, Tryd.sz26, nn1, nn2, Nat.reduceMul, Nat.le_refl, ka, kb]
    repeat ((with_reducible refine And.intro ?_ ?_); · first | exact ⟨Tryd.is24, by simpa only [ka] using large_one a ha1⟩ | exact ⟨Tryd.is24, by simpa only [kb] using large_one b hb1⟩)
    refine hK3 _ _ ?_
    refine vck fun A B hA hB => ?_
    simp only [condV, ev_hit, lpv, Nat.reduceLT, true_implies, reduceCtorEq, false_implies, true_and, hl]
    refine hB ?_
    clear hA hB A B
    refine vsk fun K6 hK6 => ?_
    rcases (show arrS a b f = false ∨ (arrS a b f = true ∧ arrS a b g = false) ∨ (arrS a b f = true ∧ arrS a b g = true) by cases arrS a b f <;> cases arrS a b g <;> simp) with kf | ⟨kf, kg⟩ | ⟨kf, kg⟩
    · refine vw_sc 0 [.pur (Bo (arrS a b f))] ?_
      simp only [bs, Nat.reduceAdd, ↓vopx, ↓vop, Nat.reduceBEq, thenV, flat, Nat.reduceLT, dLoad, vpart, gtmp, hl, h2, wocs, ↓goc, ↓woc, ↓vopm0, ↓callC, ↓pick_tf, calleeV, Tryd.ag26, Tryd.sz26, nn1, nn2, kf]
      repeat ((with_reducible refine And.intro ?_ ?_); · exact ⟨Tryd.is8, by simpa only [kf] using arrow_ a b f (by omega) (by omega) (by omega) (by omega) (by omega)⟩)
      refine hK6 _ _ ?_
      refine vck fun A B hA hB => ?_
      simp only [condV, ev_hit, lpv, Nat.reduceLT, true_implies, reduceCtorEq, false_implies, and_true, hl]
      refine hA ?_
      clear hA hB A B
      refine vsk fun K7 hK7 => ?_
      refine vw_sc 0 [] ?_
      simp only [bs, Nat.reduceAdd, vparts, gfill, ↓vopx, ↓vop, Nat.reduceBEq, thenV, flat, Nat.reduceLT, V.cells, hl, wocs, ↓goc, ↓woc, ↓vopm0, Tryd.st26, Tryd.sz26, nn3, nn4, Nat.le_refl]
      refine hK7 _ _ ?_
      refine vw_ret ?_
      have hres : vEq (eqS a b f g) = pack [vObj ⟨[], []⟩, .t (tInts []), I 10] := by simp [eqS, vEq, ka, kb, kf]; rfl
      rw [hres] at hQ
      refine hQ _ _ _ (.inr rfl) (done_wk (vs := [.agg [.t (.v (.slice none 0 0)), .t (.v (.slice none 0 0))], .t (.v (.slice none 0 0)), I 10]) (vs' := [vObj ⟨[], []⟩, .t (tInts []), I 10]) ?_ rfl (ewk_err3 _ _) (by simp [pack, nm, nm2, nm1, nm0]) ?_)
      · show vres Tryd.prog _ _ [.cell 8 26, .tmp 9, .tmp 10] = _
        simp only [vres_cell, vres_tmp, vres_nil, ev_hit, ev_miss, Nat.reduceBEq, lpv, hl, Tryd.sz26, Tryd.ag26, dLoad, m_set, m_add, vpart, if_true, Nat.reduceLT, List.drop_zero, List.take_succ_cons, List.take_zero, List.length_cons, List.length_nil, Nat.zero_add, Nat.reduceAdd]
        try rfl
      · exact fun n b hn h => by simp [Sg.add, Sg.set, show n ≠ s.next by omega, show n ≠ s.next + 1 by omega, show n ≠ s.next + 2 by omega, h]
    · refine vw_sc 0 [.pur (Bo (arrS a b f)), .pur (Bo (arrS a b g))] ?_
      simp only [bs, Nat.reduceAdd, ↓vopx, ↓vop, Nat.reduceBEq, thenV, flat, Nat.reduceLT, dLoad, vpart, gtmp, hl, h2, h3, wocs, ↓goc, ↓woc, ↓vopm0, ↓callC, ↓pick_ff, calleeV, Tryd.ag26, Tryd.sz26, nn1, nn2, kf, kg]
      repeat ((with_reducible refine And.intro ?_ ?_); · first | exact ⟨Tryd.is8, by simpa only [kf] using arrow_ a b f (by omega) (by omega) (by omega) (by omega) (by omega)⟩ | exact ⟨Tryd.is8, by simpa only [kg] using arrow_ a b g (by omega) (by omega) (by omega) (by omega) (by omega)⟩)
      refine hK6 _ _ ?_
      refine vck fun A B hA hB => ?_
      simp only [condV, ev_hit, lpv, Nat.reduceLT, true_implies, reduceCtorEq, false_implies, and_true, hl]
      refine hA ?_
      clear hA hB A B
      refine vsk fun K8 hK8 => ?_
      refine vw_sc 0 [] ?_
      simp only [bs, Nat.reduceAdd, vparts, gfill, ↓vopx, ↓vop, Nat.reduceBEq, thenV, flat, Nat.reduceLT, V.cells, hl, wocs, ↓goc, ↓woc, ↓vopm0, Tryd.st26, Tryd.sz26, nn3, nn4, Nat.le_refl]
      refine hK8 _ _ ?_
      refine vw_ret ?_
      have hres : vEq (eqS a b f g) = pack [vObj ⟨[], []⟩, .t (tInts []), I 10] := by simp [eqS, vEq, ka, kb, kg]; rfl
      rw [hres] at hQ
      refine hQ _ _ _ (.inr rfl) (done_wk (vs := [.agg [.t (.v (.slice none 0 0)), .t (.v (.slice none 0 0))], .t (.v (.slice none 0 0)), I 10]) (vs' := [vObj ⟨[], []⟩, .t (tInts []), I 10]) ?_ rfl (ewk_err3 _ _) (by simp [pack, nm, nm2, nm1, nm0]) ?_)
      · show vres Tryd.prog _ _ [.cell 8 26, .tmp 9, .tmp 10] = _
        simp only [vres_cell, vres_tmp, vres_nil, ev_hit, ev_miss, Nat.reduceBEq, lpv, hl, Tryd.sz26, Tryd.ag26, dLoad, m_set, m_add, vpart, if_true, Nat.reduceLT, List.drop_zero, List.take_succ_cons, List.take_zero, List.length_cons, List.length_nil, Nat.zero_add, Nat.reduceAdd]
        try rfl
      · exact fun n b hn h => by simp [Sg.add, Sg.set, show n ≠ s.next by omega, show n ≠ s.next + 1 by omega, show n ≠ s.next + 2 by omega, h]
    · refine vw_sc 0 [.pur (Bo (arrS a b f)), .pur (Bo (arrS a b g))] ?_
      simp only [bs, Nat.reduceAdd, ↓vopx, ↓vop, Nat.reduceBEq, thenV, flat, Nat.reduceLT, dLoad, vpart, gtmp, hl, h2, h3, wocs, ↓goc, ↓woc, ↓vopm0, ↓callC, ↓pick_ff, calleeV, Tryd.ag26, Tryd.sz26, nn1, nn2, kf, kg]
      repeat ((with_reducible refine And.intro ?_ ?_); · first | exact ⟨Tryd.is8, by simpa only [kf] using arrow_ a b f (by omega) (by omega) (by omega) (by omega) (by omega)⟩ | exact ⟨Tryd.is8, by simpa only [kg] using arrow_ a b g (by omega) (by omega) (by omega) (by omega) (by omega)⟩)
      refine hK6 _ _ ?_
      refine vck fun A B hA hB => ?_
      simp only [condV, ev_hit, lpv, Nat.reduceLT, true_implies, reduceCtorEq, false_implies, true_and, hl]
      refine hB ?_
      clear hA hB A B
      refine vw_skip ?_
      refine hK2 _ _ ?_
      refine vsk fun K9 hK9 => ?_
      have hobb := (arrS_iff.1 kf).2.1
      have hlb := hobb.le
      have hfl := allY_length (arrS_iff.1 kf).2.2.1
      have hgl := allY_length (arrS_iff.1 kg).2.2.1
      refine vw_st fun sN hSN => ?_
      have hn5 : sN.m (s.next + 1) = some (.box 26 [.t (tStrs b.labels), .t (tPairs b.pairs)]) := by rw [hSN, m_add, if_neg (by simp only [n_add]; omega), m_add, if_pos (by rw [n_add])]
      have hn8 : sN.m (s.next + 2) = some (.box 26 [.t (.v (.slice none 0 0)), .t (.v (.slice none 0 0))]) := by rw [hSN, m_add, if_pos (by simp only [n_add])]
      have hnn : sN.next = s.next + 3 := by rw [hSN]; rfl
      have hnk : ∀ j, j < s.next → sN.m j = s.m j := fun j hj => by rw [hSN, m_add, if_neg (by simp only [n_add]; omega), m_add, if_neg (by rw [n_add]; omega), m_add, if_neg (by omega)]
      clear hSN
      refine vw_sc 0 [.stop] ?_
      simp only [bs, Nat.reduceAdd, ↓vopx, ↓vop, Nat.reduceBEq, thenV, Nat.reduceLT, dLoad, vpart, hl, wocs, ↓goc, ↓woc, ↓vopm0, ↓callC, calleeV, Tryd.ag23, Tryd.fd26_0, Tryd.sz23, Tryd.un23, len_tStrs, hn5]
      refine ⟨Tryd.is36, (unNew_ sN b.labels.length (by omega)).mono fun v sU hv => ?_⟩
      obtain ⟨p, m, rfl, hpr, hup, hum, hku, hun⟩ := hv
      try simp only [bs, Nat.reduceLT, hl, Hold]
      refine hK9 _ _ ?_
      refine vsk fun K10 hK10 => ?_
      refine vsk fun K11 hK11 => ?_
      refine vw_sc 0 [] ?_
      simp only [bs, ↓vopx, ↓vop, Nat.reduceBEq, thenV, flat, Nat.reduceLT, hl, h2, wocs, ↓goc, ↓woc, ↓vopm0, len_tInts]
      refine hK11 _ _ ?_
      refine vw_block ?_
      refine vw_loop (fun mm e' s' => ∃ i : Nat, mm = f.length - i ∧ i ≤ f.length ∧ e'.length = 67 ∧ ev e' (.tmp 2) = .t (tInts f) ∧ ev e' (.tmp 3) = .t (tInts g) ∧ ev e' (.tmp 5) = .ptr (s.next + 1) 0 ∧ ev e' (.tmp 8) = .ptr (s.next + 2) 0 ∧ ev e' (.tmp 11) = .ptr p 0 ∧ ev e' (.tmp 44) = I f.length ∧ ev e' (.tmp 45) = I i ∧ True ∧ ProR s' p m (joinsL (rangeI b.labels.length) f g i) ∧ Keep sN s' ∧ sN.next ≤ s'.next) (⟨0, rfl, Nat.zero_le _, ?_⟩) ?_
      · try simp only [ev_hit, ev_miss, Nat.reduceBEq, lpv, hl, h2, h3, Nat.reduceLT, true_and]
        repeat ((with_reducible refine And.intro ?_ ?_); · trivial)
        exact hun
      rintro mm e s1 ⟨i, rfl, hle_i, hl, k2, k3, k5, k8, k11, k44, h_i, hst, ⟨hjP, hjK, hjN⟩⟩
      refine vsk fun K12 hK12 => ?_
      refine vw_sc 0 [] ?_
      simp only [thenV, opII, k44, h_i, wocs, ↓goc, ↓woc]
      refine hK12 _ _ ?_
      refine vsk fun K13 hK13 => ?_
      refine vck fun A B hA hB => ?_
      simp only [condV, ev_hit, Nat.reduceLT, decide_eq_true_eq, decide_eq_false_iff_not, hl]
      refine ⟨fun hc46 => hA ?_, fun hc46 => hB ?_⟩
      · clear hA hB A B
        refine vw_skip ?_
        refine hK13 _ _ ?_
        refine vsk fun K14 hK14 => ?_
        refine vw_block ?_
        refine vsk fun K15 hK15 => ?_
        refine vw_sc 0 [] ?_
        simp only [bs, ↓vopx, ↓vop, Nat.reduceBEq, thenV, Nat.reduceLT, hl, h_i, wocs, ↓goc, ↓woc, ↓vopm0]
        refine hK15 _ _ ?_
        obtain ⟨y, hy, hyl⟩ := arr_at kf (i := i) (by omega)
        obtain ⟨z, hz, hzl⟩ := arr_at kg (i := i) (by omega)
        have hjl := joinsL_length (rangeI b.labels.length) f g i
        rw [rangeI_length] at hjl
        have hif : i < f.length := by omega
        have hig : i < g.length := by omega
        refine vw_chain Tryd.mixed 9 [0, 0, 0, 1, 1, 0, 0, 1, 1] [] [.stop] 0 (by decide +kernel) (by simp [lpv, hl]) rfl ?_
        simp only [bs, ↓vopx, ↓vop, Nat.reduceBEq, thenV, blockV, Nat.reduceLT, dLoad, vpart, hl, k2, k3, k11, wocs, ↓goc, ↓woc, ↓vopm1, ↓callC, calleeV, chn, ↓goq, ↓woq, List.zip_cons_cons, List.zip_nil_right, Tryd.ag3, Tryd.sz3, Tryd.un27, hy, hz, Int.toNat_natCast]
        repeat (refine And.intro (by omega) ?_)
        refine ⟨Tryd.is37, (unJoin_ s1 p m _ hjP y z (by omega) (by omega)).mono fun v s2 hv => ?_⟩
        obtain ⟨⟨bb, rfl⟩, hj2, hbt⟩ := hv
        try simp only [bs, Nat.reduceBEq, Nat.reduceLT, hl, k2, k3, k11, Hold]
        refine hK14 _ _ ?_
        refine vw_sc 0 [] ?_
        simp only [bs, ↓vopx, ↓vop, Nat.reduceBEq, thenV, flat, Nat.reduceLT, opII, hl, k2, k3, k5, k8, k11, k44, h_i, wocs, ↓goc, ↓woc, ↓vopm0]
        repeat ((with_reducible refine And.intro ?_ ?_); · exact ⟨by omega, by omega⟩)
        refine ⟨f.length - (i + 1), by omega, i + 1, rfl, by omega, ?_⟩
        try simp only [ev_hit, ev_miss, Nat.reduceBEq, lpv, hl, k2, k3, k5, k8, k11, k44, h_i, if_true, if_false, Nat.reduceEqDiff, Nat.reduceLT, true_and, and_true]
        repeat ((with_reducible refine And.intro ?_ ?_); · trivial)
        rw [joinsL_succ hy hz, Int.toNat_natCast, Int.toNat_natCast]
        exact ⟨hj2, hbt.keep hum hjK hjN, Nat.le_trans hjN hbt.2⟩
      · clear hA hB A B
        have han : f.length = i := by omega
        refine vw_exit ?_
        simp only [thenV, blockV, if_true]
        refine hK10 _ _ ?_
        refine vsk fun K16 hK16 => ?_
        have h51 := hjK _ _ (by omega) hn5
        refine vw_sc 0 [.stop] ?_
        simp only [bs, Nat.reduceAdd, ↓vopx, ↓vop, Nat.reduceBEq, thenV, Nat.reduceLT, V.cells, dLoad, vpart, hl, k5, k11, wocs, ↓goc, ↓woc, ↓vopm0, ↓callC, calleeV, Tryd.ag26, Tryd.sz26, h51]
        refine ⟨Tryd.is38, (folded_ s1 p m _ hjP b hobb (by omega) (by rw [joinsL_length, rangeI_length])).mono fun v s8 hv => ?_⟩
        obtain ⟨rfl, h8k, h8n⟩ := hv
        try simp only [bs, Nat.reduceAdd, Nat.reduceBEq, Nat.reduceLT, hl, k11, Tryd.sz26, Tryd.zv26, Nat.le_refl, Hold]
        refine hK16 _ _ ?_
        refine vsk fun K17 hK17 => ?_
        refine vw_st fun sX hSX => ?_
        have hx13 : sX.m s8.next = some (.box 26 [.t (tStrs (gluedS b (placesL (joinsL (rangeI b.labels.length) f g i))).labels), .t (tPairs (gluedS b (placesL (joinsL (rangeI b.labels.length) f g i))).pairs)]) := by rw [hSX, m_set, if_pos rfl]
        have hxs : ∀ j, j < s8.next → sX.m j = s8.m j := fun j hj => by rw [hSX, m_set, if_neg (by omega), m_add, if_neg (by omega)]
        have hx8 : sX.m (s.next + 2) = some (.box 26 [.t (.v (.slice none 0 0)), .t (.v (.slice none 0 0))]) := by rw [hxs _ (by omega)]; exact h8k _ _ (by omega) (by omega) (hjK _ _ (by omega) hn8)
        have hxk : ∀ j c, j < s.next → s.m j = some c → sX.m j = some c := fun j c hj hc => by rw [hxs _ (by omega)]; exact h8k _ _ (by omega) (by omega) (hjK _ _ (by omega) (by rw [hnk j hj]; exact hc))
        have hn13 : ¬ s8.next = s.next + 2 := by omega
        clear hSX
        refine vw_sc 0 [] ?_
        simp only [bs, Nat.reduceAdd, ↓vopx, ↓vop, Nat.reduceBEq, thenV, flat, Nat.reduceLT, V.cells, dLoad, vpart, hl, k8, wocs, ↓goc, ↓woc, ↓vopm0, Tryd.ag26, Tryd.sz26, Nat.le_refl, hx13, hx8]
        refine hK17 _ _ ?_
        refine vw_ret ?_
        have hres : vEq (eqS a b f g) = pack [vObj (gluedS b (placesL (joinsL (rangeI b.labels.length) f g i))), .t (tInts (placesL (joinsL (rangeI b.labels.length) f g i))), I 0] := by simp [eqS, vEq, eqPl, ka, kb, kf, kg, han]; rfl
        rw [hres] at hQ
        refine hQ _ _ _ (.inr rfl) ?_
        refine done_flat (vs := [vObj (gluedS b (placesL (joinsL (rangeI b.labels.length) f g i))), .t (tInts (placesL (joinsL (rangeI b.labels.length) f g i))), I 0]) ?_ rfl (by simp [pack, nm, nm2, nm1, nm0]) (fun n c hn h => by rw [m_set, if_neg (by omega)]; exact hxk n c hn h)
        show vres Tryd.prog _ _ [.cell 8 26, .tmp 9, .tmp 10] = _
        simp only [vres_cell, vres_tmp, vres_nil, ev_hit, ev_miss, Nat.reduceBEq, lpv, hl, k8, Tryd.sz26, Tryd.ag26, dLoad, m_set, vpart, if_true, Nat.reduceLT, List.drop_zero, List.take_succ_cons, List.take_zero, List.length_cons, List.length_nil, Nat.zero_add, Nat.reduceAdd]
end Go.Proofs

open Go Go.V
namespace Go.Proofs
theorem rangeI_get {n i : Nat} (h : i < n) : (rangeI n)[i]? = some (i : Int) := by simp [rangeI, h]
end Go.Proofs

/- Lemmas on the way to the statement of this claim; no conditions. -/
import Derived.KernelRfl
import Derived.Laws.StructEq
import Derived.Test.YthoolojombciiaaDoorB28
import Derived.Test.YthoolojombciiaaDoorB29
import Derived.Test.YthoolojombciiaaDoorB30
import Derived.Test.YthoolojombciiaaDoorB39
import Derived.Test.YthoolojombciiaaDoorB40
open Go Go.V
namespace Go.Proofs
def seqB (a b : ByteArray) : Bool := a.toList == b.toList
theorem dropP {l : List (Int × Int)} {i : Nat} {p : Int × Int} (h : l[i]? = some p) : (((l.flatMap pcells).map V.t).drop (i * 2)).take 2 = [I p.1, I p.2] := by
  induction l generalizing i with
  | nil => simp at h
  | cons a l ih =>
    cases i with
    | zero => simp at h; subst h; simp
    | succ i =>
      have := ih (i := i) (by simpa using h)
      rw [show (i + 1) * 2 = i * 2 + 2 by omega]
      simpa using this
theorem add_old2 (s : Sg) (c d : Blk) {n : Nat} {b : Blk} (hn : n < s.next) (h : s.m n = some b) : ((s.add c).add d).m n = some b := add_old _ d (Nat.lt_succ_of_lt hn) (add_old s c hn h)
end Go.Proofs

open Go Go.V
namespace Go.Proofs
abbrev Mx := Nat → Nat → Bool
def fwk (M : Mx) (k : Nat) : Mx := fun a b => M a b || (M a k && M k b)
def cloK (M : Mx) (k : Nat) : Mx := (List.range k).foldl fwk M
def tranB (n : Nat) (M : Mx) : Bool := (List.range n).all fun a => (List.range n).all fun b => M a b == cloK M n a b
def rowOf (n : Nat) (M : Mx) (a : Nat) : List (Int × Int) := ((List.range n).filter fun b => M a b).map fun (b : Nat) => ((a : Int), (b : Int))
def pairsOf (n : Nat) (M : Mx) : List (Int × Int) := (List.range n).flatMap (rowOf n M)
def inB (n : Nat) (p : Int × Int) : Bool := decide (0 ≤ p.1 ∧ p.1 < n) && decide (0 ≤ p.2 ∧ p.2 < n)
def mxOf (l : List (Int × Int)) : Mx := fun a b => l.any fun p => p.1.toNat == a && p.2.toNat == b
theorem cloK_succ (M : Mx) (k : Nat) : cloK M (k + 1) = fwk (cloK M k) k := by simp [cloK, List.range_succ]
theorem cloK_le {M : Mx} {a b : Nat} (h : M a b = true) : ∀ k, cloK M k a b = true
  | 0 => h
  | k + 1 => by rw [cloK_succ]; simp [fwk, cloK_le h k]
theorem cloK_mono {M : Mx} {j : Nat} : ∀ {k : Nat}, j ≤ k → ∀ {a b : Nat}, cloK M j a b = true → cloK M k a b = true
  | 0, h, a, b, hh => by obtain rfl : j = 0 := by omega
                         exact hh
  | k + 1, h, a, b, hh => by
    rcases Nat.lt_or_ge k j with h1 | h1
    · obtain rfl : j = k + 1 := by omega
      exact hh
    · rw [cloK_succ]; simp [fwk, cloK_mono h1 hh]
def Within (n : Nat) (M : Mx) : Prop := ∀ a b, M a b = true → a < n ∧ b < n
def Trans (M : Mx) : Prop := ∀ a k b, M a k = true → M k b = true → M a b = true
theorem fwk_trans {M : Mx} (h : Trans M) (k : Nat) : fwk M k = M := by
  funext a b
  simp only [fwk]
  cases hab : M a b with
  | true => rfl
  | false =>
    cases h1 : M a k with
    | false => rfl
    | true =>
      cases h2 : M k b with
      | false => rfl
      | true => rw [h a k b h1 h2] at hab; cases hab
theorem cloK_trans {M : Mx} (h : Trans M) : ∀ k, cloK M k = M
  | 0 => rfl
  | k + 1 => by rw [cloK_succ, cloK_trans h k, fwk_trans h]
theorem tranB_iff {n : Nat} {M : Mx} (hw : Within n M) : tranB n M = true ↔ Trans M := by
  constructor
  · intro h a k b h1 h2
    simp only [tranB, List.all_eq_true, List.mem_range, beq_iff_eq] at h
    have ha := (hw _ _ h1).1
    have hk := (hw _ _ h1).2
    have hb := (hw _ _ h2).2
    rw [h a ha b hb]
    refine cloK_mono (j := k + 1) (by omega) ?_
    rw [cloK_succ]
    simp [fwk, cloK_le h1, cloK_le h2]
  · intro h
    simp only [tranB, List.all_eq_true, List.mem_range, beq_iff_eq]
    intro a _ b _
    rw [cloK_trans h]
theorem mxOf_append (l m : List (Int × Int)) : mxOf (l ++ m) = fun a b => mxOf l a b || mxOf m a b := by
  funext a b; simp [mxOf]
theorem mxOf_take {l : List (Int × Int)} {i : Nat} {p : Int × Int} (h : l[i]? = some p) : mxOf (l.take (i + 1)) = fun a b => mxOf (l.take i) a b || (p.1.toNat == a && p.2.toNat == b) := by
  rw [List.take_add_one, h, mxOf_append]
  funext a b; simp [mxOf]
theorem mxOf_within {n : Nat} {l : List (Int × Int)} (h : ∀ p ∈ l, inB n p = true) : Within n (mxOf l) := by
  intro a b hab
  simp only [mxOf, List.any_eq_true, Bool.and_eq_true, beq_iff_eq] at hab
  obtain ⟨p, hp, rfl, rfl⟩ := hab
  have := h p hp
  simp only [inB, Bool.and_eq_true, decide_eq_true_eq] at this
  omega
def pltB (p q : Int × Int) : Bool := decide (p.1 < q.1) || (decide (p.1 = q.1) && decide (p.2 < q.2))
def risingB : List (Int × Int) → Bool
  | p :: q :: l => pltB p q && risingB (q :: l)
  | _ => true
theorem rising_bad : ∀ {l : List (Int × Int)} {i : Nat} {p q : Int × Int}, l[i]? = some p → l[i + 1]? = some q → pltB p q = false → risingB l = false
  | [], i, p, q, h, _, _ => by simp at h
  | [x], i, p, q, _, h, _ => by simp at h
  | x :: y :: l, 0, p, q, h1, h2, h3 => by simp at h1 h2; subst h1; subst h2; simp [risingB, h3]
  | x :: y :: l, i + 1, p, q, h1, h2, h3 => by simp [risingB, rising_bad (l := y :: l) (i := i) (by simpa using h1) (by simpa using h2) h3]
theorem rising_good : ∀ {l : List (Int × Int)}, (∀ (i : Nat) (p q : Int × Int), l[i]? = some p → l[i + 1]? = some q → pltB p q = true) → risingB l = true
  | [], _ => rfl
  | [x], _ => rfl
  | x :: y :: l, h => by
    simp only [risingB, Bool.and_eq_true]
    exact ⟨h 0 x y rfl rfl, rising_good fun i p q h1 h2 => h (i + 1) p q (by simpa using h1) (by simpa using h2)⟩
end Go.Proofs

open Go Go.V
namespace Go.Proofs
def outV (n o : Nat) : V := if n = 0 then .t (.v (.slice none 0 0)) else .loc o 0 n
abbrev TBo (b : Bool) : T := .v (.bool b)
def bRow (n : Nat) (M : Mx) (a : Nat) : List T := (List.range n).map fun b => TBo (M a b)
structure RefR (s : Sg) (p n : Nat) (M : Mx) (o : Nat) (r : Nat → Nat) : Prop where
  hp : s.m p = some (.box 999119 [I n, outV n o])
  ho : 0 < n → s.m o = some (.box 99949 ((List.range n).map fun i => .loc (r i) 0 n))
  hr : ∀ i, i < n → s.m (r i) = some (.arr 1 4 (bRow n M i))
  inj : ∀ i j, i < n → j < n → r i = r j → i = j
  le : n ≤ 200
  lp : p < s.next
  lo : 0 < n → o < s.next
  lr : ∀ i, i < n → r i < s.next
theorem get_range {α : Type} (f : Nat → α) {n i : Nat} (h : i < n) : ((List.range n).map f)[i]? = some (f i) := by
  rw [List.getElem?_map, List.getElem?_range h]; rfl
end Go.Proofs

open Go Go.V
namespace Go.Proofs
theorem far_bneq (x y : Operand) (a b : Bool) : opFar .neq (Bo a) (Bo b) Tryd.prog 4 x y (.bool (a != b)) := .inl ⟨_, _, rfl, rfl, by cases a <;> cases b <;> kernel_rfl⟩
def mxEqB (n : Nat) (M M' : Mx) : Bool := (List.range n).all fun a => (List.range n).all fun b => M a b == M' a b
end Go.Proofs

open Go Go.V
namespace Go.Proofs
structure FreshR (s : Sg) (p n o : Nat) (r : Nat → Nat) : Prop where
  hp : s.next ≤ p
  ho : 0 < n → s.next ≤ o
  hr : ∀ i, i < n → s.next ≤ r i
theorem bRow_length (n : Nat) (M : Mx) (a : Nat) : (bRow n M a).length = n := by simp [bRow]
theorem bRow_get {n : Nat} {M : Mx} {a b : Nat} (hb : b < n) : (bRow n M a)[b]? = some (TBo (M a b)) := get_range _ hb
theorem bRow_congr {n : Nat} {M M' : Mx} {a : Nat} (h : ∀ b, b < n → M a b = M' a b) : bRow n M a = bRow n M' a := by
  apply List.ext_getElem?
  intro j
  by_cases hj : j < n
  · rw [bRow_get hj, bRow_get hj, h j hj]
  · rw [List.getElem?_eq_none (by rw [bRow_length]; omega), List.getElem?_eq_none (by rw [bRow_length]; omega)]
def updM (M : Mx) (a b : Nat) (v : Bool) : Mx := fun x y => if x = a ∧ y = b then v else M x y
theorem bRow_put {n : Nat} {M : Mx} {a b : Nat} {v : Bool} (hb : b < n) : setAll (bRow n M a) b [TBo v] = bRow n (updM M a b v) a := by
  rw [setAll_one _ _ _ (by rw [bRow_length]; exact hb)]
  apply List.ext_getElem?
  intro j
  by_cases hj : j < n
  · rw [bRow_get hj, List.getElem?_set, bRow_length, bRow_get hj]
    by_cases hbj : b = j
    · subst hbj; simp [updM, hb]
    · simp [updM, hbj, Ne.symm hbj]
  · rw [List.getElem?_eq_none (by rw [List.length_set, bRow_length]; omega), List.getElem?_eq_none (by rw [bRow_length]; omega)]
theorem RefR.congr {s : Sg} {p n : Nat} {M M' : Mx} {o : Nat} {r : Nat → Nat} (h : RefR s p n M o r) (hm : ∀ x y, x < n → y < n → M x y = M' x y) : RefR s p n M' o r :=
  ⟨h.hp, h.ho, fun i hi => by rw [h.hr i hi, bRow_congr fun b hb => hm i b hi hb], h.inj, h.le, h.lp, h.lo, h.lr⟩
theorem RefR.put {s : Sg} {p n : Nat} {M : Mx} {o : Nat} {r : Nat → Nat} (h : RefR s p n M o r) {a b : Nat} (ha : a < n) (hb : b < n) (v : Bool) :
    RefR (s.set (r a) (.arr 1 4 (setAll (bRow n M a) b [TBo v]))) p n (updM M a b v) o r := by
  have h1 : p ≠ r a := fun e => by have := h.hp; rw [e, h.hr a ha] at this; cases this
  have h2 : o ≠ r a := fun e => by have := h.ho (by omega); rw [e, h.hr a ha] at this; cases this
  refine ⟨by simp [Sg.set, h1, h.hp], fun hn => by simp [Sg.set, h2, h.ho hn], fun i hi => ?_, h.inj, h.le, h.lp, h.lo, h.lr⟩
  by_cases hia : i = a
  · subst hia
    simp only [Sg.set, if_true]
    rw [bRow_put hb]
  · have h3 : r i ≠ r a := fun e => hia (h.inj i a hi ha e)
    simp only [Sg.set, h3, if_false]
    rw [h.hr i hi, bRow_congr fun y hy => ?_]
    simp [updM, hia]
theorem RefR.keep {s s' : Sg} {p n : Nat} {M : Mx} {o : Nat} {r : Nat → Nat} (h : RefR s p n M o r) (hk : Keep s s') (hn : s.next ≤ s'.next) : RefR s' p n M o r :=
  ⟨hk _ _ h.lp h.hp, fun hn0 => hk _ _ (h.lo hn0) (h.ho hn0), fun i hi => hk _ _ (h.lr i hi) (h.hr i hi), h.inj, h.le, Nat.lt_of_lt_of_le h.lp hn, fun hn0 => Nat.lt_of_lt_of_le (h.lo hn0) hn, fun i hi => Nat.lt_of_lt_of_le (h.lr i hi) hn⟩
structure PartR (s : Sg) (N p n i o : Nat) (r : Nat → Nat) : Prop where
  hp : s.m p = some (.box 999119 [I n, outV i o])
  ho : 0 < i → s.m o = some (.box 99949 ((List.range i).map fun i => .loc (r i) 0 n))
  hr : ∀ j, j < i → s.m (r j) = some (.arr 1 4 (bRow n (fun _ _ => false) j))
  inj : ∀ j k, j < i → k < i → r j = r k → j = k
  lp : p < s.next
  lo : 0 < i → o < s.next
  lr : ∀ j, j < i → r j < s.next
  fp : N ≤ p
  fo : 0 < i → N ≤ o
  fr : ∀ j, j < i → N ≤ r j
theorem PartR.step {s : Sg} {N p n i o : Nat} {r : Nat → Nat} (h : PartR s N p n i o r) {cells : List V} (hc : cells = (List.range i).map fun i => .loc (r i) 0 n) {s1 : Sg} (hs1n : s1.next = s.next + 2)
    (hs1 : ∀ m, m < s.next → m ≠ o → s1.m m = s.m m) (hs2 : s1.m s.next = some (.arr 1 4 (bRow n (fun _ _ => false) i))) :
    PartR ((s1.add (.box 99949 (cells ++ [.loc s.next 0 n]))).set p (.box 999119 [I n, .loc s1.next 0 (i + 1)])) N p n (i + 1) s1.next (fun j => if j = i then s.next else r j) := by
  subst hc
  have hpn := h.lp
  have hpr : ∀ j, j < i → r j ≠ p := fun j hj e => by have := h.hr j hj; rw [e, h.hp] at this; cases this
  have hor : ∀ j, j < i → r j ≠ o := fun j hj e => by have := h.hr j hj; rw [e, h.ho (by omega)] at this; cases this
  refine ⟨?_, fun _ => ?_, fun j hj => ?_, fun j k hj hk e => ?_, ?_, fun _ => ?_, fun j hj => ?_, h.fp, fun _ => ?_, fun j hj => ?_⟩
  · simp [Sg.set, outV]
  · have e1 : s1.next ≠ p := by omega
    simp only [Sg.set, Sg.add, e1, if_false, if_true]
    rw [List.range_succ, List.map_append, List.map_singleton, if_pos rfl]
    congr 3
    apply List.map_congr_left
    intro j hj
    have : j ≠ i := by have := List.mem_range.1 hj; omega
    rw [if_neg this]
  · by_cases hji : j = i
    · subst hji
      have e1 : s.next ≠ p := by omega
      have e2 : s.next ≠ s1.next := by omega
      simp only [Sg.set, Sg.add, if_true, e1, e2, if_false]
      exact hs2
    · have hj' : j < i := by omega
      have l1 := h.lr j hj'
      have e2 : r j ≠ s1.next := by omega
      simp only [Sg.set, Sg.add, hji, hpr j hj', e2, if_false]
      rw [hs1 _ l1 (hor j hj')]
      exact h.hr j hj'
  · by_cases hji : j = i <;> by_cases hki : k = i
    · omega
    · have := h.lr k (by omega); simp only [hji, hki, if_true, if_false] at e; omega
    · have := h.lr j (by omega); simp only [hji, hki, if_true, if_false] at e; omega
    · simp only [hji, hki, if_false] at e
      exact h.inj j k (by omega) (by omega) e
  · simp only [Sg.set, Sg.add]; omega
  · simp only [Sg.set, Sg.add]; omega
  · by_cases hji : j = i
    · simp only [hji, if_true, Sg.set, Sg.add]; omega
    · have := h.lr j (by omega); simp only [hji, if_false, Sg.set, Sg.add]; omega
  · have := h.fp; omega
  · by_cases hji : j = i
    · have := h.fp; simp only [hji, if_true]; omega
    · simp only [hji, if_false]; exact h.fr j (by omega)
theorem PartR.done {s : Sg} {N p n o : Nat} {r : Nat → Nat} (h : PartR s N p n n o r) (hn : n ≤ 200) : RefR s p n (fun _ _ => false) o r := ⟨h.hp, h.ho, h.hr, h.inj, hn, h.lp, h.lo, h.lr⟩
end Go.Proofs

open Go Go.V
namespace Go.Proofs
def fwB (M : Mx) (k a b : Nat) : Mx := fun x y => if x < a ∨ (x = a ∧ y < b) then fwk M k x y else M x y
theorem fwB_zero (M : Mx) (k : Nat) (x y : Nat) : M x y = fwB M k 0 0 x y := by simp [fwB]
theorem fwB_read (M : Mx) (k a : Nat) : fwB M k a 0 a k = M a k := by simp [fwB]
theorem fwB_skip {M : Mx} {k a : Nat} (h1 : M a k = false) (x y : Nat) : fwB M k a 0 x y = fwB M k (a + 1) 0 x y := by
  unfold fwB
  by_cases h : x = a
  · subst h; simp [fwk, h1]
  · have : (x < a ∨ (x = a ∧ y < 0)) ↔ (x < a + 1 ∨ (x = a + 1 ∧ y < 0)) := by omega
    simp only [this]
theorem fwB_done {M : Mx} {k n : Nat} (x y : Nat) (hx : x < n) : fwB (cloK M k) k n 0 x y = cloK M (k + 1) x y := by
  rw [cloK_succ]; simp [fwB, hx]
end Go.Proofs

open Go Go.V
namespace Go.Proofs
def rowK (M : Mx) (a b : Nat) : List (Int × Int) := ((List.range b).filter fun y => M a y).map fun (y : Nat) => ((a : Int), (y : Int))
def prB (n : Nat) (M : Mx) (a b : Nat) : List (Int × Int) := (List.range a).flatMap (rowOf n M) ++ rowK M a b
theorem rowK_length (M : Mx) (a b : Nat) : (rowK M a b).length ≤ b := by
  have := List.length_filter_le (fun y => M a y) (List.range b)
  simpa [rowK] using this
theorem prB_length (n : Nat) (M : Mx) : ∀ a b, (prB n M a b).length ≤ a * n + b
  | 0, b => by simpa [prB] using rowK_length M 0 b
  | a + 1, b => by
    have h1 := prB_length n M a n
    have h2 := rowK_length M (a + 1) b
    have h3 : rowOf n M a = rowK M a n := rfl
    unfold prB at h1 ⊢
    rw [List.range_succ, List.flatMap_append, List.flatMap_singleton, List.length_append, h3, Nat.add_mul, Nat.one_mul]
    omega
theorem prB_put {n : Nat} {M : Mx} {a b : Nat} (h : M a b = true) : prB n M a (b + 1) = prB n M a b ++ [((a : Int), (b : Int))] := by
  simp [prB, rowK, List.range_succ, h]
theorem prB_nop {n : Nat} {M : Mx} {a b : Nat} (h : M a b = false) : prB n M a (b + 1) = prB n M a b := by
  simp [prB, rowK, List.range_succ, h]
theorem prB_row (n : Nat) (M : Mx) (a : Nat) : prB n M a n = prB n M (a + 1) 0 := by
  simp only [prB, List.range_succ, List.flatMap_append, List.flatMap_singleton]
  simp [rowK, rowOf]
theorem prB_end (n : Nat) (M : Mx) : prB n M n 0 = pairsOf n M := by simp [prB, rowK, pairsOf]
def GrowP (s0 s : Sg) (m : Nat) (l : List (Int × Int)) : Prop := s.m m = some (.arr 2 30 (l.flatMap pcells)) ∧ s0.next ≤ m ∧ m < s.next
theorem GrowP.push {s0 s1 : Sg} {m : Nat} {l : List (Int × Int)} (_h : GrowP s0 s1 m l) (hn : s0.next ≤ s1.next) (X : Blk) (p : Int × Int) :
    GrowP s0 (((s1.add X).del m).add (.arr 2 30 (l.flatMap pcells ++ [TI p.1, TI p.2]))) (s1.next + 1) (l ++ [p]) := by
  refine ⟨?_, by omega, by simp [Sg.add, Sg.del]⟩
  simp [Sg.add, Sg.del, List.flatMap_append]
theorem GrowP.keep {s0 s1 : Sg} {m : Nat} {l : List (Int × Int)} (h : GrowP s0 s1 m l) (hk : Keep s0 s1) (hn : s0.next ≤ s1.next) (X Y : Blk) : Keep s0 (((s1.add X).del m).add Y) :=
  ((hk.add hn X).del h.2.1).add (by simp only [n_add, n_del]; omega) Y
end Go.Proofs

open Go Go.V
namespace Go.Proofs
theorem all_take {α : Type} {f : α → Bool} {l : List α} {i : Nat} {p : α} (h : l[i]? = some p) (ha : (l.take i).all f = true) (hp : f p = true) : (l.take (i + 1)).all f = true := by
  rw [List.take_add_one, h]; simp only [List.all_append, ha, Option.toList_some, List.all_cons, List.all_nil, hp]; rfl
theorem all_bad {α : Type} {f : α → Bool} {l : List α} {i : Nat} {p : α} (h : l[i]? = some p) (hp : f p = false) : l.all f = false := by
  rw [List.all_eq_false]; exact ⟨p, List.mem_of_getElem? h, by simp [hp]⟩
theorem updM_or (M : Mx) (p : Int × Int) : (fun a b => M a b || (p.1.toNat == a && p.2.toNat == b)) = updM M p.1.toNat p.2.toNat true := by
  funext a b
  unfold updM
  by_cases h : a = p.1.toNat ∧ b = p.2.toNat
  · obtain ⟨rfl, rfl⟩ := h; simp
  · rw [if_neg h]
    have : (p.1.toNat == a && p.2.toNat == b) = false := by
      rw [Bool.eq_false_iff]; intro hh; simp at hh; exact h ⟨hh.1.symm, hh.2.symm⟩
    rw [this, Bool.or_false]
def OfR (s : Sg) (n : Nat) (l : List (Int × Int)) (v : V) (s' : Sg) : Prop :=
  (l.all (inB n) = true ∧ ∃ p o r, v = .tup [.ptr p 0, I 0] ∧ RefR s' p n (mxOf l) o r ∧ FreshR s p n o r ∧ Keep s s' ∧ s.next ≤ s'.next) ∨
  (l.all (inB n) = false ∧ v = .tup [.t (.v (.pointer none)), I 10] ∧ Keep s s' ∧ s.next ≤ s'.next)
end Go.Proofs

open Go Go.V
namespace Go.Proofs
def checkS (o : Ob) : Int := if 40 < o.labels.length then 11 else if (o.labels.all fun b => decide (b.size ≤ 60)) && (o.pairs.all (inB o.labels.length) && (risingB o.pairs && tranB o.labels.length (mxOf o.pairs))) then 0 else 10
structure IsOb (o : Ob) : Prop where
  le : o.labels.length ≤ 40
  sz : (o.labels.all fun b => decide (b.size ≤ 60)) = true
  inb : o.pairs.all (inB o.labels.length) = true
  ris : risingB o.pairs = true
  tran : tranB o.labels.length (mxOf o.pairs) = true
theorem checkS_zero {o : Ob} : checkS o = 0 ↔ IsOb o := by
  unfold checkS
  constructor
  · intro h
    split at h
    · cases h
    · split at h
      · rename_i h1 h2
        simp only [Bool.and_eq_true] at h2
        exact ⟨by omega, h2.1, h2.2.1, h2.2.2.1, h2.2.2.2⟩
      · cases h
  · intro h
    rw [if_neg (by have := h.le; omega), h.sz, h.inb, h.ris, h.tran]; rfl
theorem OfR.split {s : Sg} {n : Nat} {l : List (Int × Int)} {v : V} {s' : Sg} (h : OfR s n l v s') : ∃ (pv : V) (ec : Int), v = .tup [pv, I ec] ∧ Keep s s' ∧ s.next ≤ s'.next ∧
    ((l.all (inB n) = true ∧ ec = 0 ∧ ∃ p o r, pv = .ptr p 0 ∧ RefR s' p n (mxOf l) o r) ∨ (l.all (inB n) = false ∧ ec = 10)) := by
  rcases h with ⟨h1, p, o, r, rfl, h2, _, h3, h4⟩ | ⟨h1, rfl, h3, h4⟩
  · exact ⟨_, _, rfl, h3, h4, .inl ⟨h1, rfl, p, o, r, rfl, h2⟩⟩
  · exact ⟨_, _, rfl, h3, h4, .inr ⟨h1, rfl⟩⟩
end Go.Proofs

open Go Go.V
namespace Go.Proofs
def allY {α β : Type} (r : α → β → Bool) : List α → List β → Bool
  | [], [] => true
  | a :: l, b :: m => r a b && allY r l m
  | _, _ => false
theorem allY_len {α β : Type} {r : α → β → Bool} : ∀ {l : List α} {m : List β}, l.length ≠ m.length → allY r l m = false
  | [], [], h => absurd rfl h
  | [], _ :: _, _ => rfl
  | _ :: _, [], _ => rfl
  | a :: l, b :: m, h => by simp [allY, allY_len (r := r) (l := l) (m := m) (by simpa using h)]
theorem allY_bad {α β : Type} {r : α → β → Bool} : ∀ {l : List α} {m : List β} {i : Nat} {a : α} {b : β}, l[i]? = some a → m[i]? = some b → r a b = false → allY r l m = false
  | [], _, i, a, b, h, _, _ => by simp at h
  | _ :: _, [], i, a, b, _, h, _ => by simp at h
  | a :: l, b :: m, 0, x, y, h1, h2, h3 => by simp at h1 h2; subst h1; subst h2; simp [allY, h3]
  | a :: l, b :: m, i + 1, x, y, h1, h2, h3 => by simp [allY, allY_bad (r := r) (l := l) (m := m) (by simpa using h1) (by simpa using h2) h3]
theorem allY_good {α β : Type} {r : α → β → Bool} : ∀ {l : List α} {m : List β}, l.length = m.length → (∀ (i : Nat) (a : α) (b : β), l[i]? = some a → m[i]? = some b → r a b = true) → allY r l m = true
  | [], [], _, _ => rfl
  | [], _ :: _, h, _ => by simp at h
  | _ :: _, [], h, _ => by simp at h
  | a :: l, b :: m, h, hh => by
    simp only [allY, Bool.and_eq_true]
    exact ⟨hh 0 a b rfl rfl, allY_good (by simpa using h) fun i x y h1 h2 => hh (i + 1) x y (by simpa using h1) (by simpa using h2)⟩
theorem allY_at {α β : Type} {r : α → β → Bool} : ∀ {l : List α} {m : List β}, allY r l m = true → ∀ {i : Nat} {a : α} {b : β}, l[i]? = some a → m[i]? = some b → r a b = true
  | [], _, _, i, a, b, h, _ => by simp at h
  | _ :: _, [], h, i, a, b, _, _ => by simp [allY] at h
  | x :: l, y :: m, h, 0, a, b, h1, h2 => by simp at h1 h2; subst h1; subst h2; simp only [allY, Bool.and_eq_true] at h; exact h.1
  | x :: l, y :: m, h, i + 1, a, b, h1, h2 => by simp only [allY, Bool.and_eq_true] at h; exact allY_at h.2 (by simpa using h1) (by simpa using h2)
theorem allY_length {α β : Type} {r : α → β → Bool} {l : List α} {m : List β} (h : allY r l m = true) : l.length = m.length := Decidable.byContradiction fun hn => by rw [allY_len hn] at h; cases h
def mapOK (b : Ob) (y : Int) (la : ByteArray) : Bool := decide (0 ≤ y ∧ y < b.labels.length) && (match b.labels[y.toNat]? with | some lb => seqB la lb | none => false)
def fAt (f : List Int) (z : Int) : Nat := ((f[z.toNat]?).getD 0).toNat
def arrS (a b : Ob) (f : List Int) : Bool := (checkS a == 0) && ((checkS b == 0) && (allY (mapOK b) f a.labels && a.pairs.all fun p => mxOf b.pairs (fAt f p.1) (fAt f p.2)))
end Go.Proofs

open Go Go.V
namespace Go.Proofs
structure RefU (s : Sg) (p m : Nat) (l : List Int) : Prop where
  hp : s.m p = some (.box 999114 [.loc m 0 l.length])
  hm : s.m m = some (.arr 1 3 (l.map TI))
  lp : p < s.next
  lm : m < s.next
theorem RefU.ne {s : Sg} {p m : Nat} {l : List Int} (h : RefU s p m l) : p ≠ m := fun e => by have := h.hp; rw [e, h.hm] at this; cases this
theorem RefU.push {s : Sg} {p m : Nat} {l : List Int} (h : RefU s p m l) (X : Blk) (z : Int) :
    RefU ((((s.add X).del m).add (.arr 1 3 (l.map TI ++ [TI z]))).set p (.box 999114 [.loc (s.next + 1) 0 (l.length + 1)])) p (s.next + 1) (l ++ [z]) := by
  have h1 := h.lp
  have h2 := h.lm
  refine ⟨by simp [Sg.set], ?_, by simp [Sg.set, Sg.add, Sg.del]; omega, by simp [Sg.set, Sg.add, Sg.del]⟩
  have e1 : s.next + 1 ≠ p := by omega
  simp [Sg.set, Sg.add, Sg.del, e1]
theorem RefU.keep {s s' : Sg} {p m : Nat} {l : List Int} (h : RefU s p m l) (hk : Keep s s') (hn : s.next ≤ s'.next) : RefU s' p m l :=
  ⟨hk _ _ h.lp h.hp, hk _ _ h.lm h.hm, Nat.lt_of_lt_of_le h.lp hn, Nat.lt_of_lt_of_le h.lm hn⟩
theorem RefU.put {s : Sg} {p m : Nat} {l : List Int} (h : RefU s p m l) {i : Nat} (hi : i < l.length) (x : Int) : RefU (s.set m (.arr 1 3 (setAll (l.map TI) i [TI x]))) p m (l.set i x) := by
  refine ⟨by simp [Sg.set, h.ne, h.hp], ?_, h.lp, h.lm⟩
  rw [setAll_one _ _ _ (by simpa using hi)]
  simp [Sg.set, List.map_set]
def rangeI (n : Nat) : List Int := (List.range n).map fun (i : Nat) => (i : Int)
theorem rangeI_length (n : Nat) : (rangeI n).length = n := by simp [rangeI]
theorem rangeI_succ (n : Nat) : rangeI (n + 1) = rangeI n ++ [(n : Int)] := by simp [rangeI, List.range_succ]
def joinL (l : List Int) (a b : Nat) : List Int := l.map fun z => if z = max (l.getD a 0) (l.getD b 0) then min (l.getD a 0) (l.getD b 0) else z
theorem joinL_same {l : List Int} {a b : Nat} (h : l.getD a 0 = l.getD b 0) : joinL l a b = l := by
  unfold joinL
  rw [h, Int.max_self, Int.min_self]
  have : (fun z : Int => if z = l.getD b 0 then l.getD b 0 else z) = id := by funext z; split <;> simp_all
  rw [this, List.map_id]
def JoinU (s : Sg) (p m : Nat) (l : List Int) (v : V) (s' : Sg) : Prop := (∃ b, v = Bo b) ∧ RefU s' p m l ∧ (∀ j, j ≠ m → s'.m j = s.m j) ∧ s'.next = s.next
theorem JoinU.keep {s0 s : Sg} {p m : Nat} {l : List Int} {v : V} {s' : Sg} (h : JoinU s p m l v s') (hm : s0.next ≤ m) (hk : Keep s0 s) : Keep s0 s' := fun n b hn hb => by
  rw [h.2.2.1 n (by omega)]; exact hk n b hn hb
end Go.Proofs

open Go Go.V
namespace Go.Proofs
def GrowI (s0 s : Sg) (m : Nat) (l : List Int) : Prop := s.m m = some (.arr 1 3 (l.map TI)) ∧ s0.next ≤ m ∧ m < s.next
theorem GrowI.push {s0 s1 : Sg} {m : Nat} {l : List Int} (_h : GrowI s0 s1 m l) (hn : s0.next ≤ s1.next) (X : Blk) (z : Int) :
    GrowI s0 (((s1.add X).del m).add (.arr 1 3 (l.map TI ++ [TI z]))) (s1.next + 1) (l ++ [z]) := by
  refine ⟨?_, by omega, by simp [Sg.add, Sg.del]⟩
  simp [Sg.add, Sg.del]
theorem GrowI.keep {s0 s1 : Sg} {m : Nat} {l : List Int} (h : GrowI s0 s1 m l) (hk : Keep s0 s1) (hn : s0.next ≤ s1.next) (X Y : Blk) : Keep s0 (((s1.add X).del m).add Y) :=
  ((hk.add hn X).del h.2.1).add (by simp only [n_add, n_del]; omega) Y
theorem GrowI.new (s : Sg) : GrowI s (s.add (.arr 1 3 [])) s.next [] := ⟨by simp [Sg.add], Nat.le_refl _, by simp [Sg.add]⟩
def wfU (l : List Int) : Prop := ∀ (i : Nat) (z : Int), l[i]? = some z → 0 ≤ z ∧ z ≤ i
def plS (l : List Int) : Nat → List Int × Nat
  | 0 => ([], 0)
  | k + 1 => if l.getD k 0 = k then ((plS l k).1 ++ [((plS l k).2 : Int)], (plS l k).2 + 1) else ((plS l k).1 ++ [(plS l k).1.getD (l.getD k 0).toNat 0], (plS l k).2)
theorem plS_length (l : List Int) : ∀ k, (plS l k).1.length = k
  | 0 => rfl
  | k + 1 => by unfold plS; split <;> simp [plS_length l k]
theorem plS_le (l : List Int) : ∀ k, (plS l k).2 ≤ k
  | 0 => Nat.le_refl _
  | k + 1 => by have := plS_le l k; unfold plS; split <;> simp <;> omega
def plO (l : List Int) (i : Nat) : List Int := (plS l i).1 ++ List.replicate (l.length - i) 0
theorem plO_length {l : List Int} {i : Nat} (h : i ≤ l.length) : (plO l i).length = l.length := by simp [plO, plS_length]; omega
theorem plO_set {l : List Int} {i : Nat} (h : i < l.length) (v : Int) : (plO l i).set i v = (plS l i).1 ++ v :: List.replicate (l.length - (i + 1)) 0 := by
  unfold plO
  rw [List.set_append_right _ _ (by rw [plS_length]; omega), plS_length, Nat.sub_self, show l.length - i = (l.length - (i + 1)) + 1 by omega, List.replicate_succ, List.set_cons_zero]
theorem plO_root {l : List Int} {i : Nat} (h : i < l.length) (hz : l.getD i 0 = i) : (plO l i).set i (plS l i).2 = plO l (i + 1) := by
  rw [plO_set h]
  show _ = (if l.getD i 0 = i then _ else _ : List Int × Nat).1 ++ _
  rw [if_pos hz]; simp
theorem plO_other {l : List Int} {i : Nat} (h : i < l.length) (hz : l.getD i 0 ≠ i) : (plO l i).set i ((plS l i).1.getD (l.getD i 0).toNat 0) = plO l (i + 1) := by
  rw [plO_set h]
  show _ = (if l.getD i 0 = i then _ else _ : List Int × Nat).1 ++ _
  rw [if_neg hz]; simp
theorem plS_root2 {l : List Int} {i : Nat} (hz : l.getD i 0 = i) : (plS l (i + 1)).2 = (plS l i).2 + 1 := by
  show (if l.getD i 0 = i then _ else _ : List Int × Nat).2 = _
  rw [if_pos hz]
theorem plS_other2 {l : List Int} {i : Nat} (hz : l.getD i 0 ≠ i) : (plS l (i + 1)).2 = (plS l i).2 := by
  show (if l.getD i 0 = i then _ else _ : List Int × Nat).2 = _
  rw [if_neg hz]
theorem plO_get {l : List Int} {i j : Nat} (h : j < i) : (plO l i)[j]? = some ((plS l i).1.getD j 0) := by
  have hj : j < (plS l i).1.length := by rw [plS_length]; exact h
  unfold plO
  rw [List.getElem?_append_left hj, List.getD_eq_getElem?_getD, List.getElem?_eq_getElem hj]; rfl
def placesL (l : List Int) : List Int := (plS l l.length).1
theorem plO_end (l : List Int) : plO l l.length = placesL l := by simp [plO, placesL]
theorem plO_zero (l : List Int) : plO l 0 = List.replicate l.length 0 := by simp [plO, plS]
end Go.Proofs

open Go Go.V
namespace Go.Proofs
theorem arrS_iff {a b : Ob} {f : List Int} : arrS a b f = true ↔ IsOb a ∧ IsOb b ∧ allY (mapOK b) f a.labels = true ∧ ∀ p ∈ a.pairs, mxOf b.pairs (fAt f p.1) (fAt f p.2) = true := by
  unfold arrS
  simp only [Bool.and_eq_true, beq_iff_eq, checkS_zero, List.all_eq_true]
theorem seqB_iff {a b : ByteArray} : seqB a b = true ↔ a.toList = b.toList := by unfold seqB; exact beq_iff_eq
theorem mapOK_iff {b : Ob} {y : Int} {la : ByteArray} : mapOK b y la = true ↔ ∃ lb, (0 ≤ y ∧ y < b.labels.length) ∧ b.labels[y.toNat]? = some lb ∧ la.toList = lb.toList := by
  unfold mapOK
  constructor
  · intro h
    simp only [Bool.and_eq_true, decide_eq_true_eq] at h
    obtain ⟨h1, h2⟩ := h
    cases hb : b.labels[y.toNat]? with
    | none => rw [hb] at h2; cases h2
    | some lb => rw [hb] at h2; exact ⟨lb, h1, rfl, seqB_iff.1 h2⟩
  · rintro ⟨lb, h1, h2, h3⟩
    rw [h2]
    simp only [Bool.and_eq_true, decide_eq_true_eq]
    exact ⟨h1, seqB_iff.2 h3⟩
end Go.Proofs

open Go Go.V
namespace Go.Proofs
def shP (n : Nat) (p : Int × Int) : Int × Int := (p.1 + n, p.2 + n)
def besideS (b c : Ob) : Ob := ⟨b.labels ++ c.labels, b.pairs ++ c.pairs.map (shP b.labels.length)⟩
theorem inB_iff {n : Nat} {p : Int × Int} : inB n p = true ↔ (0 ≤ p.1 ∧ p.1 < n) ∧ (0 ≤ p.2 ∧ p.2 < n) := by
  simp only [inB, Bool.and_eq_true, decide_eq_true_eq]
theorem IsOb.within {o : Ob} (h : IsOb o) : Within o.labels.length (mxOf o.pairs) := mxOf_within fun p hp => (List.all_eq_true.1 h.inb) p hp
theorem IsOb.trans {o : Ob} (h : IsOb o) : Trans (mxOf o.pairs) := (tranB_iff h.within).1 h.tran
def fstL (l : List Int) : Nat → List Nat
  | 0 => []
  | i + 1 => if l.getD i 0 = (fstL l i).length then fstL l i ++ [i] else fstL l i
def PlOK (l : List Int) : Prop := ∀ (i : Nat) (z : Int), l[i]? = some z → 0 ≤ z ∧ z ≤ (fstL l i).length
def atN (l : List Int) (z : Int) : Nat := (l.getD z.toNat 0).toNat
def glMx (o : Ob) (l : List Int) : Mx := fun x y => o.pairs.any fun p => atN l p.1 == x && atN l p.2 == y
def glN (l : List Int) : Nat := (fstL l l.length).length
def glLab (o : Ob) (l : List Int) (i : Nat) : List ByteArray := (fstL l i).map fun i => o.labels.getD i ByteArray.empty
def gluedS (o : Ob) (l : List Int) : Ob := ⟨glLab o l l.length, pairsOf (glN l) (cloK (glMx o l) (glN l))⟩
theorem fst_le (l : List Int) : ∀ i, (fstL l i).length ≤ i
  | 0 => Nat.le_refl _
  | i + 1 => by have := fst_le l i; unfold fstL; split <;> simp <;> omega
theorem fst_mono (l : List Int) (i : Nat) : (fstL l i).length ≤ (fstL l (i + 1)).length := by
  show _ ≤ (if l.getD i 0 = (fstL l i).length then fstL l i ++ [i] else fstL l i).length
  split <;> simp
theorem fst_mono_le (l : List Int) {i j : Nat} (h : i ≤ j) : (fstL l i).length ≤ (fstL l j).length := by
  induction h with
  | refl => exact Nat.le_refl _
  | step _ ih => exact Nat.le_trans ih (fst_mono l _)
theorem PlOK.lt {l : List Int} (h : PlOK l) {i : Nat} {z : Int} (hz : l[i]? = some z) : 0 ≤ z ∧ z < glN l := by
  have h1 := h i z hz
  have hi := (List.getElem?_eq_some_iff.1 hz).1
  have h2 : z < ((fstL l (i + 1)).length : Nat) := by
    show z < (((if l.getD i 0 = (fstL l i).length then fstL l i ++ [i] else fstL l i).length : Nat) : Int)
    have hg : l.getD i 0 = z := by rw [List.getD_eq_getElem?_getD, hz]; rfl
    rw [hg]
    split
    · simp; omega
    · omega
  have h3 := fst_mono_le l (show i + 1 ≤ l.length from hi)
  unfold glN
  omega
theorem fst_mem (l : List Int) : ∀ i j, j ∈ fstL l i → j < i
  | 0, j, h => by simp [fstL] at h
  | i + 1, j, h => by
    unfold fstL at h
    split at h
    · simp only [List.mem_append, List.mem_singleton] at h
      rcases h with h | rfl
      · have := fst_mem l i j h; omega
      · omega
    · have := fst_mem l i j h; omega
theorem plS_take (l : List Int) : ∀ i j, i ≤ j → (plS l j).1.take i = (plS l i).1
  | i, 0, h => by obtain rfl : i = 0 := by omega
                  simp [plS]
  | i, j + 1, h => by
    by_cases hij : i = j + 1
    · subst hij; exact List.take_of_length_le (by rw [plS_length]; omega)
    · have ih := plS_take l i j (by omega)
      have e : (plS l (j + 1)).1 = (plS l j).1 ++ [if l.getD j 0 = j then ((plS l j).2 : Int) else (plS l j).1.getD (l.getD j 0).toNat 0] := by
        show (if l.getD j 0 = j then _ else _ : List Int × Nat).1 = _
        split <;> rfl
      rw [e, List.take_append_of_le_length (by rw [plS_length]; omega)]; exact ih
theorem plS_fst {l : List Int} (hwf : wfU l) : ∀ i, i ≤ l.length → (fstL (placesL l) i).length = (plS l i).2 ∧ ∀ (j : Nat) (z : Int), j < i → (placesL l)[j]? = some z → 0 ≤ z ∧ z ≤ (fstL (placesL l) j).length ∧ z < (plS l i).2
  | 0, _ => ⟨rfl, fun j z h => by omega⟩
  | i + 1, hi => by
    obtain ⟨h1, h2⟩ := plS_fst hwf i (by omega)
    have hlen : (placesL l).length = l.length := plS_length l _
    obtain ⟨z, hz⟩ : ∃ z, (placesL l)[i]? = some z := ⟨_, List.getElem?_eq_getElem (by omega)⟩
    have hg : (placesL l).getD i 0 = z := by rw [List.getD_eq_getElem?_getD, hz]; rfl
    have hz2 : (plS l (i + 1)).1[i]? = some z := by
      rw [← plS_take l (i + 1) l.length hi, List.getElem?_take, if_pos (by omega)]; exact hz
    have hfe : (fstL (placesL l) (i + 1)).length = if z = (fstL (placesL l) i).length then (fstL (placesL l) i).length + 1 else (fstL (placesL l) i).length := by
      show (if (placesL l).getD i 0 = (fstL (placesL l) i).length then fstL (placesL l) i ++ [i] else fstL (placesL l) i).length = _
      rw [hg]; split <;> simp
    by_cases hr : l.getD i 0 = i
    · have e2 : (plS l (i + 1)).2 = (plS l i).2 + 1 := plS_root2 hr
      have e1 : (plS l (i + 1)).1 = (plS l i).1 ++ [((plS l i).2 : Int)] := by
        show (if l.getD i 0 = i then _ else _ : List Int × Nat).1 = _
        rw [if_pos hr]
      rw [e1, List.getElem?_append_right (by rw [plS_length]; omega), plS_length] at hz2
      simp at hz2
      subst hz2
      refine ⟨by rw [hfe, h1, if_pos rfl, e2], fun j z hj hzj => ?_⟩
      by_cases hji : j = i
      · subst hji; rw [hz] at hzj; cases hzj; rw [h1, e2]; omega
      · have := h2 j z (by omega) hzj; rw [e2]; omega
    · have e2 : (plS l (i + 1)).2 = (plS l i).2 := plS_other2 hr
      have e1 : (plS l (i + 1)).1 = (plS l i).1 ++ [(plS l i).1.getD (l.getD i 0).toNat 0] := by
        show (if l.getD i 0 = i then _ else _ : List Int × Nat).1 = _
        rw [if_neg hr]
      rw [e1, List.getElem?_append_right (by rw [plS_length]; omega), plS_length] at hz2
      simp only [Nat.sub_self, List.getElem?_cons_zero, Option.some.injEq] at hz2
      obtain ⟨y, hy⟩ : ∃ y, l[i]? = some y := ⟨_, List.getElem?_eq_getElem (by omega)⟩
      have hgy : l.getD i 0 = y := by rw [List.getD_eq_getElem?_getD, hy]; rfl
      have hyw := hwf i y hy
      rw [hgy] at hz2 hr
      have hk : y.toNat < i := by omega
      have hz3 : (placesL l)[y.toNat]? = some z := by
        have : (plS l i).1[y.toNat]? = some z := by
          rw [← hz2, List.getD_eq_getElem?_getD, List.getElem?_eq_getElem (by rw [plS_length]; omega)]; rfl
        rw [← plS_take l i l.length (by omega), List.getElem?_take, if_pos hk] at this
        exact this
      have hb := h2 y.toNat z hk hz3
      refine ⟨by rw [hfe, if_neg (by omega), h1, e2], fun j z' hj hzj => ?_⟩
      by_cases hji : j = i
      · subst hji; rw [hz] at hzj; cases hzj; rw [e2]; omega
      · have := h2 j z' (by omega) hzj; rw [e2]; exact this
theorem places_ok {l : List Int} (hwf : wfU l) : PlOK (placesL l) := fun i z hz => by
  have hi : i < l.length := by have := (List.getElem?_eq_some_iff.1 hz).1; rwa [show (placesL l).length = l.length from plS_length l _] at this
  have := (plS_fst hwf l.length (Nat.le_refl _)).2 i z hi hz
  omega
end Go.Proofs

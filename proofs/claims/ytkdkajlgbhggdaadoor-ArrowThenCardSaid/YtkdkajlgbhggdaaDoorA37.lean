/- Steps on the way to the statement that the last text of this claim proves: an abstract machine over the code, proved sound, and what the functions come to over it. No condition of their own. -/
import Derived.KernelRfl
import Derived.Laws.StructEq
import Derived.Test.YtkdkajlgbhggdaaDoorA28
import Derived.Test.YtkdkajlgbhggdaaDoorA29
import Derived.Test.YtkdkajlgbhggdaaDoorA34
import Derived.Test.YtkdkajlgbhggdaaDoorA35
open Go Go.V
namespace Go.Proofs

def seqB (a b : ByteArray) : Bool := a.toList == b.toList
theorem dropP {l : List (Int × Int)} {i : Nat} {p : Int × Int} (h : l[i]? = some p) : (((l.flatMap pcells).map V.t).drop (i * 2)).take 2 = [I p.1, I p.2] := by
  induction l generalizing i with
  | nil => simp at h
  | cons a l ih =>
    cases i with
    | zero => simp at h; subst h; simp
    | succ i =>
      have := ih (i := i) (by simpa using h)
      rw [show (i + 1) * 2 = i * 2 + 2 by omega]
      simpa using this
theorem add_old2 (s : Sg) (c d : Blk) {n : Nat} {b : Blk} (hn : n < s.next) (h : s.m n = some b) : ((s.add c).add d).m n = some b := add_old _ d (Nat.lt_succ_of_lt hn) (add_old s c hn h)

end Go.Proofs

open Go Go.V
namespace Go.Proofs

abbrev Mx := Nat → Nat → Bool

def fwk (M : Mx) (k : Nat) : Mx := fun a b => M a b || (M a k && M k b)
def cloK (M : Mx) (k : Nat) : Mx := (List.range k).foldl fwk M
def tranB (n : Nat) (M : Mx) : Bool := (List.range n).all fun a => (List.range n).all fun b => M a b == cloK M n a b
def rowOf (n : Nat) (M : Mx) (a : Nat) : List (Int × Int) := ((List.range n).filter fun b => M a b).map fun (b : Nat) => ((a : Int), (b : Int))
def inB (n : Nat) (p : Int × Int) : Bool := decide (0 ≤ p.1 ∧ p.1 < n) && decide (0 ≤ p.2 ∧ p.2 < n)
def mxOf (l : List (Int × Int)) : Mx := fun a b => l.any fun p => p.1.toNat == a && p.2.toNat == b

theorem cloK_succ (M : Mx) (k : Nat) : cloK M (k + 1) = fwk (cloK M k) k := by simp [cloK, List.range_succ]

/-- all within n -/
def Within (n : Nat) (M : Mx) : Prop := ∀ a b, M a b = true → a < n ∧ b < n

theorem mxOf_append (l m : List (Int × Int)) : mxOf (l ++ m) = fun a b => mxOf l a b || mxOf m a b := by
  funext a b; simp [mxOf]

theorem mxOf_take {l : List (Int × Int)} {i : Nat} {p : Int × Int} (h : l[i]? = some p) : mxOf (l.take (i + 1)) = fun a b => mxOf (l.take i) a b || (p.1.toNat == a && p.2.toNat == b) := by
  rw [List.take_add_one, h, mxOf_append]
  funext a b; simp [mxOf]

theorem mxOf_within {n : Nat} {l : List (Int × Int)} (h : ∀ p ∈ l, inB n p = true) : Within n (mxOf l) := by
  intro a b hab
  simp only [mxOf, List.any_eq_true, Bool.and_eq_true, beq_iff_eq] at hab
  obtain ⟨p, hp, rfl, rfl⟩ := hab
  have := h p hp
  simp only [inB, Bool.and_eq_true, decide_eq_true_eq] at this
  omega

def pltB (p q : Int × Int) : Bool := decide (p.1 < q.1) || (decide (p.1 = q.1) && decide (p.2 < q.2))
def risingB : List (Int × Int) → Bool
  | p :: q :: l => pltB p q && risingB (q :: l)
  | _ => true

theorem rising_bad : ∀ {l : List (Int × Int)} {i : Nat} {p q : Int × Int}, l[i]? = some p → l[i + 1]? = some q → pltB p q = false → risingB l = false
  | [], i, p, q, h, _, _ => by simp at h
  | [x], i, p, q, _, h, _ => by simp at h
  | x :: y :: l, 0, p, q, h1, h2, h3 => by simp at h1 h2; subst h1; subst h2; simp [risingB, h3]
  | x :: y :: l, i + 1, p, q, h1, h2, h3 => by simp [risingB, rising_bad (l := y :: l) (i := i) (by simpa using h1) (by simpa using h2) h3]
theorem rising_good : ∀ {l : List (Int × Int)}, (∀ (i : Nat) (p q : Int × Int), l[i]? = some p → l[i + 1]? = some q → pltB p q = true) → risingB l = true
  | [], _ => rfl
  | [x], _ => rfl
  | x :: y :: l, h => by
    simp only [risingB, Bool.and_eq_true]
    exact ⟨h 0 x y rfl rfl, rising_good fun i p q h1 h2 => h (i + 1) p q (by simpa using h1) (by simpa using h2)⟩

end Go.Proofs

open Go Go.V
namespace Go.Proofs

def outV (n o : Nat) : V := if n = 0 then .t (.v (.slice none 0 0)) else .loc o 0 n
abbrev TBo (b : Bool) : T := .v (.bool b)
def bRow (n : Nat) (M : Mx) (a : Nat) : List T := (List.range n).map fun b => TBo (M a b)
/-- a relation of the reference's in the store -/
structure RefR (s : Sg) (p n : Nat) (M : Mx) (o : Nat) (r : Nat → Nat) : Prop where
  hp : s.m p = some (.box 119 [I n, outV n o])
  ho : 0 < n → s.m o = some (.box 49 ((List.range n).map fun i => .loc (r i) 0 n))
  hr : ∀ i, i < n → s.m (r i) = some (.arr 1 4 (bRow n M i))
  inj : ∀ i j, i < n → j < n → r i = r j → i = j
  le : n ≤ 200
  lp : p < s.next
  lo : 0 < n → o < s.next
  lr : ∀ i, i < n → r i < s.next

theorem get_range {α : Type} (f : Nat → α) {n i : Nat} (h : i < n) : ((List.range n).map f)[i]? = some (f i) := by
  rw [List.getElem?_map, List.getElem?_range h]; rfl
end Go.Proofs

open Go Go.V
namespace Go.Proofs

theorem far_bneq (x y : Operand) (a b : Bool) : opFar .neq (Bo a) (Bo b) Tryd.prog 4 x y (.bool (a != b)) := .inl ⟨_, _, rfl, rfl, by cases a <;> cases b <;> kernel_rfl⟩
def mxEqB (n : Nat) (M M' : Mx) : Bool := (List.range n).all fun a => (List.range n).all fun b => M a b == M' a b
end Go.Proofs

open Go Go.V
namespace Go.Proofs

structure FreshR (s : Sg) (p n o : Nat) (r : Nat → Nat) : Prop where
  hp : s.next ≤ p
  ho : 0 < n → s.next ≤ o
  hr : ∀ i, i < n → s.next ≤ r i
theorem bRow_length (n : Nat) (M : Mx) (a : Nat) : (bRow n M a).length = n := by simp [bRow]
theorem bRow_get {n : Nat} {M : Mx} {a b : Nat} (hb : b < n) : (bRow n M a)[b]? = some (TBo (M a b)) := get_range _ hb
theorem bRow_congr {n : Nat} {M M' : Mx} {a : Nat} (h : ∀ b, b < n → M a b = M' a b) : bRow n M a = bRow n M' a := by
  apply List.ext_getElem?
  intro j
  by_cases hj : j < n
  · rw [bRow_get hj, bRow_get hj, h j hj]
  · rw [List.getElem?_eq_none (by rw [bRow_length]; omega), List.getElem?_eq_none (by rw [bRow_length]; omega)]
def updM (M : Mx) (a b : Nat) (v : Bool) : Mx := fun x y => if x = a ∧ y = b then v else M x y

theorem bRow_put {n : Nat} {M : Mx} {a b : Nat} {v : Bool} (hb : b < n) : setAll (bRow n M a) b [TBo v] = bRow n (updM M a b v) a := by
  rw [setAll_one _ _ _ (by rw [bRow_length]; exact hb)]
  apply List.ext_getElem?
  intro j
  by_cases hj : j < n
  · rw [bRow_get hj, List.getElem?_set, bRow_length, bRow_get hj]
    by_cases hbj : b = j
    · subst hbj; simp [updM, hb]
    · simp [updM, hbj, Ne.symm hbj]
  · rw [List.getElem?_eq_none (by rw [List.length_set, bRow_length]; omega), List.getElem?_eq_none (by rw [bRow_length]; omega)]

theorem RefR.congr {s : Sg} {p n : Nat} {M M' : Mx} {o : Nat} {r : Nat → Nat} (h : RefR s p n M o r) (hm : ∀ x y, x < n → y < n → M x y = M' x y) : RefR s p n M' o r :=
  ⟨h.hp, h.ho, fun i hi => by rw [h.hr i hi, bRow_congr fun b hb => hm i b hi hb], h.inj, h.le, h.lp, h.lo, h.lr⟩

/-- one place is written -/
theorem RefR.put {s : Sg} {p n : Nat} {M : Mx} {o : Nat} {r : Nat → Nat} (h : RefR s p n M o r) {a b : Nat} (ha : a < n) (hb : b < n) (v : Bool) :
    RefR (s.set (r a) (.arr 1 4 (setAll (bRow n M a) b [TBo v]))) p n (updM M a b v) o r := by
  have h1 : p ≠ r a := fun e => by have := h.hp; rw [e, h.hr a ha] at this; cases this
  have h2 : o ≠ r a := fun e => by have := h.ho (by omega); rw [e, h.hr a ha] at this; cases this
  refine ⟨by simp [Sg.set, h1, h.hp], fun hn => by simp [Sg.set, h2, h.ho hn], fun i hi => ?_, h.inj, h.le, h.lp, h.lo, h.lr⟩
  by_cases hia : i = a
  · subst hia
    simp only [Sg.set, if_true]
    rw [bRow_put hb]
  · have h3 : r i ≠ r a := fun e => hia (h.inj i a hi ha e)
    simp only [Sg.set, h3, if_false]
    rw [h.hr i hi, bRow_congr fun y hy => ?_]
    simp [updM, hia]

theorem RefR.keep {s s' : Sg} {p n : Nat} {M : Mx} {o : Nat} {r : Nat → Nat} (h : RefR s p n M o r) (hk : Keep s s') (hn : s.next ≤ s'.next) : RefR s' p n M o r :=
  ⟨hk _ _ h.lp h.hp, fun hn0 => hk _ _ (h.lo hn0) (h.ho hn0), fun i hi => hk _ _ (h.lr i hi) (h.hr i hi), h.inj, h.le, Nat.lt_of_lt_of_le h.lp hn, fun hn0 => Nat.lt_of_lt_of_le (h.lo hn0) hn, fun i hi => Nat.lt_of_lt_of_le (h.lr i hi) hn⟩

/-- some rows are there -/
structure PartR (s : Sg) (N p n i o : Nat) (r : Nat → Nat) : Prop where
  hp : s.m p = some (.box 119 [I n, outV i o])
  ho : 0 < i → s.m o = some (.box 49 ((List.range i).map fun i => .loc (r i) 0 n))
  hr : ∀ j, j < i → s.m (r j) = some (.arr 1 4 (bRow n (fun _ _ => false) j))
  inj : ∀ j k, j < i → k < i → r j = r k → j = k
  lp : p < s.next
  lo : 0 < i → o < s.next
  lr : ∀ j, j < i → r j < s.next
  fp : N ≤ p
  fo : 0 < i → N ≤ o
  fr : ∀ j, j < i → N ≤ r j

/-- one row more -/
theorem PartR.step {s : Sg} {N p n i o : Nat} {r : Nat → Nat} (h : PartR s N p n i o r) {cells : List V} (hc : cells = (List.range i).map fun i => .loc (r i) 0 n) {s1 : Sg} (hs1n : s1.next = s.next + 2)
    (hs1 : ∀ m, m < s.next → m ≠ o → s1.m m = s.m m) (hs2 : s1.m s.next = some (.arr 1 4 (bRow n (fun _ _ => false) i))) :
    PartR ((s1.add (.box 49 (cells ++ [.loc s.next 0 n]))).set p (.box 119 [I n, .loc s1.next 0 (i + 1)])) N p n (i + 1) s1.next (fun j => if j = i then s.next else r j) := by
  subst hc
  have hpn := h.lp
  have hpr : ∀ j, j < i → r j ≠ p := fun j hj e => by have := h.hr j hj; rw [e, h.hp] at this; cases this
  have hor : ∀ j, j < i → r j ≠ o := fun j hj e => by have := h.hr j hj; rw [e, h.ho (by omega)] at this; cases this
  refine ⟨?_, fun _ => ?_, fun j hj => ?_, fun j k hj hk e => ?_, ?_, fun _ => ?_, fun j hj => ?_, h.fp, fun _ => ?_, fun j hj => ?_⟩
  · simp [Sg.set, outV]
  · have e1 : s1.next ≠ p := by omega
    simp only [Sg.set, Sg.add, e1, if_false, if_true]
    rw [List.range_succ, List.map_append, List.map_singleton, if_pos rfl]
    congr 3
    apply List.map_congr_left
    intro j hj
    have : j ≠ i := by have := List.mem_range.1 hj; omega
    rw [if_neg this]
  · by_cases hji : j = i
    · subst hji
      have e1 : s.next ≠ p := by omega
      have e2 : s.next ≠ s1.next := by omega
      simp only [Sg.set, Sg.add, if_true, e1, e2, if_false]
      exact hs2
    · have hj' : j < i := by omega
      have l1 := h.lr j hj'
      have e2 : r j ≠ s1.next := by omega
      simp only [Sg.set, Sg.add, hji, hpr j hj', e2, if_false]
      rw [hs1 _ l1 (hor j hj')]
      exact h.hr j hj'
  · by_cases hji : j = i <;> by_cases hki : k = i
    · omega
    · have := h.lr k (by omega); simp only [hji, hki, if_true, if_false] at e; omega
    · have := h.lr j (by omega); simp only [hji, hki, if_true, if_false] at e; omega
    · simp only [hji, hki, if_false] at e
      exact h.inj j k (by omega) (by omega) e
  · simp only [Sg.set, Sg.add]; omega
  · simp only [Sg.set, Sg.add]; omega
  · by_cases hji : j = i
    · simp only [hji, if_true, Sg.set, Sg.add]; omega
    · have := h.lr j (by omega); simp only [hji, if_false, Sg.set, Sg.add]; omega
  · have := h.fp; omega
  · by_cases hji : j = i
    · have := h.fp; simp only [hji, if_true]; omega
    · simp only [hji, if_false]; exact h.fr j (by omega)
theorem PartR.done {s : Sg} {N p n o : Nat} {r : Nat → Nat} (h : PartR s N p n n o r) (hn : n ≤ 200) : RefR s p n (fun _ _ => false) o r := ⟨h.hp, h.ho, h.hr, h.inj, hn, h.lp, h.lo, h.lr⟩

end Go.Proofs

open Go Go.V
namespace Go.Proofs

def fwB (M : Mx) (k a b : Nat) : Mx := fun x y => if x < a ∨ (x = a ∧ y < b) then fwk M k x y else M x y
theorem fwB_zero (M : Mx) (k : Nat) (x y : Nat) : M x y = fwB M k 0 0 x y := by simp [fwB]
theorem fwB_read (M : Mx) (k a : Nat) : fwB M k a 0 a k = M a k := by simp [fwB]
theorem fwB_skip {M : Mx} {k a : Nat} (h1 : M a k = false) (x y : Nat) : fwB M k a 0 x y = fwB M k (a + 1) 0 x y := by
  unfold fwB
  by_cases h : x = a
  · subst h; simp [fwk, h1]
  · have : (x < a ∨ (x = a ∧ y < 0)) ↔ (x < a + 1 ∨ (x = a + 1 ∧ y < 0)) := by omega
    simp only [this]
theorem fwB_done {M : Mx} {k n : Nat} (x y : Nat) (hx : x < n) : fwB (cloK M k) k n 0 x y = cloK M (k + 1) x y := by
  rw [cloK_succ]; simp [fwB, hx]

end Go.Proofs

open Go Go.V
namespace Go.Proofs

def rowK (M : Mx) (a b : Nat) : List (Int × Int) := ((List.range b).filter fun y => M a y).map fun (y : Nat) => ((a : Int), (y : Int))
def prB (n : Nat) (M : Mx) (a b : Nat) : List (Int × Int) := (List.range a).flatMap (rowOf n M) ++ rowK M a b
/-- a list of pairs that grows: an own array -/
def GrowP (s0 s : Sg) (m : Nat) (l : List (Int × Int)) : Prop := s.m m = some (.arr 2 84 (l.flatMap pcells)) ∧ s0.next ≤ m ∧ m < s.next
theorem GrowP.keep {s0 s1 : Sg} {m : Nat} {l : List (Int × Int)} (h : GrowP s0 s1 m l) (hk : Keep s0 s1) (hn : s0.next ≤ s1.next) (X Y : Blk) : Keep s0 (((s1.add X).del m).add Y) :=
  ((hk.add hn X).del h.2.1).add (by simp only [n_add, n_del]; omega) Y

end Go.Proofs

open Go Go.V
namespace Go.Proofs

theorem all_take {α : Type} {f : α → Bool} {l : List α} {i : Nat} {p : α} (h : l[i]? = some p) (ha : (l.take i).all f = true) (hp : f p = true) : (l.take (i + 1)).all f = true := by
  rw [List.take_add_one, h]; simp only [List.all_append, ha, Option.toList_some, List.all_cons, List.all_nil, hp]; rfl
theorem all_bad {α : Type} {f : α → Bool} {l : List α} {i : Nat} {p : α} (h : l[i]? = some p) (hp : f p = false) : l.all f = false := by
  rw [List.all_eq_false]; exact ⟨p, List.mem_of_getElem? h, by simp [hp]⟩
theorem updM_or (M : Mx) (p : Int × Int) : (fun a b => M a b || (p.1.toNat == a && p.2.toNat == b)) = updM M p.1.toNat p.2.toNat true := by
  funext a b
  unfold updM
  by_cases h : a = p.1.toNat ∧ b = p.2.toNat
  · obtain ⟨rfl, rfl⟩ := h; simp
  · rw [if_neg h]
    have : (p.1.toNat == a && p.2.toNat == b) = false := by
      rw [Bool.eq_false_iff]; intro hh; simp at hh; exact h ⟨hh.1.symm, hh.2.symm⟩
    rw [this, Bool.or_false]
def OfR (s : Sg) (n : Nat) (l : List (Int × Int)) (v : V) (s' : Sg) : Prop :=
  (l.all (inB n) = true ∧ ∃ p o r, v = .tup [.ptr p 0, I 0] ∧ RefR s' p n (mxOf l) o r ∧ FreshR s p n o r ∧ Keep s s' ∧ s.next ≤ s'.next) ∨
  (l.all (inB n) = false ∧ v = .tup [.t (.v (.pointer none)), I 10] ∧ Keep s s' ∧ s.next ≤ s'.next)

end Go.Proofs

open Go Go.V
namespace Go.Proofs

def checkS (o : Ob) : Int := if 40 < o.labels.length then 11 else if (o.labels.all fun b => decide (b.size ≤ 60)) && (o.pairs.all (inB o.labels.length) && (risingB o.pairs && tranB o.labels.length (mxOf o.pairs))) then 0 else 10
structure IsOb (o : Ob) : Prop where
  le : o.labels.length ≤ 40
  sz : (o.labels.all fun b => decide (b.size ≤ 60)) = true
  inb : o.pairs.all (inB o.labels.length) = true
  ris : risingB o.pairs = true
  tran : tranB o.labels.length (mxOf o.pairs) = true
theorem checkS_zero {o : Ob} : checkS o = 0 ↔ IsOb o := by
  unfold checkS
  constructor
  · intro h
    split at h
    · cases h
    · split at h
      · rename_i h1 h2
        simp only [Bool.and_eq_true] at h2
        exact ⟨by omega, h2.1, h2.2.1, h2.2.2.1, h2.2.2.2⟩
      · cases h
  · intro h
    rw [if_neg (by have := h.le; omega), h.sz, h.inb, h.ris, h.tran]; rfl
theorem OfR.split {s : Sg} {n : Nat} {l : List (Int × Int)} {v : V} {s' : Sg} (h : OfR s n l v s') : ∃ (pv : V) (ec : Int), v = .tup [pv, I ec] ∧ Keep s s' ∧ s.next ≤ s'.next ∧
    ((l.all (inB n) = true ∧ ec = 0 ∧ ∃ p o r, pv = .ptr p 0 ∧ RefR s' p n (mxOf l) o r) ∨ (l.all (inB n) = false ∧ ec = 10)) := by
  rcases h with ⟨h1, p, o, r, rfl, h2, _, h3, h4⟩ | ⟨h1, rfl, h3, h4⟩
  · exact ⟨_, _, rfl, h3, h4, .inl ⟨h1, rfl, p, o, r, rfl, h2⟩⟩
  · exact ⟨_, _, rfl, h3, h4, .inr ⟨h1, rfl⟩⟩
end Go.Proofs

open Go Go.V
namespace Go.Proofs

def allY {α β : Type} (r : α → β → Bool) : List α → List β → Bool
  | [], [] => true
  | a :: l, b :: m => r a b && allY r l m
  | _, _ => false
theorem allY_len {α β : Type} {r : α → β → Bool} : ∀ {l : List α} {m : List β}, l.length ≠ m.length → allY r l m = false
  | [], [], h => absurd rfl h
  | [], _ :: _, _ => rfl
  | _ :: _, [], _ => rfl
  | a :: l, b :: m, h => by simp [allY, allY_len (r := r) (l := l) (m := m) (by simpa using h)]
theorem allY_bad {α β : Type} {r : α → β → Bool} : ∀ {l : List α} {m : List β} {i : Nat} {a : α} {b : β}, l[i]? = some a → m[i]? = some b → r a b = false → allY r l m = false
  | [], _, i, a, b, h, _, _ => by simp at h
  | _ :: _, [], i, a, b, _, h, _ => by simp at h
  | a :: l, b :: m, 0, x, y, h1, h2, h3 => by simp at h1 h2; subst h1; subst h2; simp [allY, h3]
  | a :: l, b :: m, i + 1, x, y, h1, h2, h3 => by simp [allY, allY_bad (r := r) (l := l) (m := m) (by simpa using h1) (by simpa using h2) h3]
theorem allY_good {α β : Type} {r : α → β → Bool} : ∀ {l : List α} {m : List β}, l.length = m.length → (∀ (i : Nat) (a : α) (b : β), l[i]? = some a → m[i]? = some b → r a b = true) → allY r l m = true
  | [], [], _, _ => rfl
  | [], _ :: _, h, _ => by simp at h
  | _ :: _, [], h, _ => by simp at h
  | a :: l, b :: m, h, hh => by
    simp only [allY, Bool.and_eq_true]
    exact ⟨hh 0 a b rfl rfl, allY_good (by simpa using h) fun i x y h1 h2 => hh (i + 1) x y (by simpa using h1) (by simpa using h2)⟩
theorem allY_at {α β : Type} {r : α → β → Bool} : ∀ {l : List α} {m : List β}, allY r l m = true → ∀ {i : Nat} {a : α} {b : β}, l[i]? = some a → m[i]? = some b → r a b = true
  | [], _, _, i, a, b, h, _ => by simp at h
  | _ :: _, [], h, i, a, b, _, _ => by simp [allY] at h
  | x :: l, y :: m, h, 0, a, b, h1, h2 => by simp at h1 h2; subst h1; subst h2; simp only [allY, Bool.and_eq_true] at h; exact h.1
  | x :: l, y :: m, h, i + 1, a, b, h1, h2 => by simp only [allY, Bool.and_eq_true] at h; exact allY_at h.2 (by simpa using h1) (by simpa using h2)
theorem allY_length {α β : Type} {r : α → β → Bool} {l : List α} {m : List β} (h : allY r l m = true) : l.length = m.length := Decidable.byContradiction fun hn => by rw [allY_len hn] at h; cases h

def mapOK (b : Ob) (y : Int) (la : ByteArray) : Bool := decide (0 ≤ y ∧ y < b.labels.length) && (match b.labels[y.toNat]? with | some lb => seqB la lb | none => false)
def fAt (f : List Int) (z : Int) : Nat := ((f[z.toNat]?).getD 0).toNat
def arrS (a b : Ob) (f : List Int) : Bool := (checkS a == 0) && ((checkS b == 0) && (allY (mapOK b) f a.labels && a.pairs.all fun p => mxOf b.pairs (fAt f p.1) (fAt f p.2)))

end Go.Proofs

open Go Go.V
namespace Go.Proofs

theorem arrS_iff {a b : Ob} {f : List Int} : arrS a b f = true ↔ IsOb a ∧ IsOb b ∧ allY (mapOK b) f a.labels = true ∧ ∀ p ∈ a.pairs, mxOf b.pairs (fAt f p.1) (fAt f p.2) = true := by
  unfold arrS
  simp only [Bool.and_eq_true, beq_iff_eq, checkS_zero, List.all_eq_true]
theorem seqB_iff {a b : ByteArray} : seqB a b = true ↔ a.toList = b.toList := by unfold seqB; exact beq_iff_eq
theorem mapOK_iff {b : Ob} {y : Int} {la : ByteArray} : mapOK b y la = true ↔ ∃ lb, (0 ≤ y ∧ y < b.labels.length) ∧ b.labels[y.toNat]? = some lb ∧ la.toList = lb.toList := by
  unfold mapOK
  constructor
  · intro h
    simp only [Bool.and_eq_true, decide_eq_true_eq] at h
    obtain ⟨h1, h2⟩ := h
    cases hb : b.labels[y.toNat]? with
    | none => rw [hb] at h2; cases h2
    | some lb => rw [hb] at h2; exact ⟨lb, h1, rfl, seqB_iff.1 h2⟩
  · rintro ⟨lb, h1, h2, h3⟩
    rw [h2]
    simp only [Bool.and_eq_true, decide_eq_true_eq]
    exact ⟨h1, seqB_iff.2 h3⟩
theorem map_in {a b : Ob} {f : List Int} (h : allY (mapOK b) f a.labels = true) {i : Nat} {y : Int} (hy : f[i]? = some y) : 0 ≤ y ∧ y < b.labels.length := by
  have hl := allY_length h
  have hi : i < a.labels.length := by rw [← hl]; exact (List.getElem?_eq_some_iff.1 hy).1
  obtain ⟨lb, h1, _⟩ := mapOK_iff.1 (allY_at h hy (List.getElem?_eq_getElem hi))
  exact h1
theorem map_all {a b : Ob} {f : List Int} (h : allY (mapOK b) f a.labels = true) : ∀ y ∈ f, 0 ≤ y ∧ y < b.labels.length := fun y hy => by
  obtain ⟨i, hi⟩ := List.getElem?_of_mem hy
  exact map_in h hi
theorem thenS_ok {f g : List Int} (h : ∀ y ∈ f, 0 ≤ y ∧ y < g.length) : thenS f g = (f.map fun y => g.getD y.toNat 0, true) := by
  unfold thenS
  rw [if_pos]
  simp only [List.all_eq_true, Bool.and_eq_true, decide_eq_true_eq]
  exact h
theorem arr_pair {a b : Ob} {f : List Int} (h : arrS a b f = true) {x y : Nat} (hm : mxOf a.pairs x y = true) : ∃ u v : Nat, f[x]? = some (u : Int) ∧ f[y]? = some (v : Int) ∧ mxOf b.pairs u v = true := by
  obtain ⟨ha, hb, hmap, hp⟩ := arrS_iff.1 h
  have hl := allY_length hmap
  simp only [mxOf, List.any_eq_true, Bool.and_eq_true, beq_iff_eq] at hm
  obtain ⟨p, hpm, rfl, rfl⟩ := hm
  have hin := (List.all_eq_true.1 ha.inb) p hpm
  simp only [inB, Bool.and_eq_true, decide_eq_true_eq] at hin
  obtain ⟨u, hu⟩ : ∃ u, f[p.1.toNat]? = some u := ⟨_, List.getElem?_eq_getElem (by omega)⟩
  obtain ⟨v, hv⟩ : ∃ v, f[p.2.toNat]? = some v := ⟨_, List.getElem?_eq_getElem (by omega)⟩
  have hu0 := map_in hmap hu
  have hv0 := map_in hmap hv
  have := hp p hpm
  simp only [fAt, hu, hv, Option.getD_some] at this
  exact ⟨u.toNat, v.toNat, by rw [hu]; congr 1; omega, by rw [hv]; congr 1; omega, this⟩
theorem arr_of {a b : Ob} {f : List Int} (ha : IsOb a) (hb : IsOb b) (hl : f.length = a.labels.length) (hlab : ∀ (i : Nat) (y : Int) (la : ByteArray), f[i]? = some y → a.labels[i]? = some la → ∃ lb, (0 ≤ y ∧ y < b.labels.length) ∧ b.labels[y.toNat]? = some lb ∧ la.toList = lb.toList)
    (hp : ∀ (x y : Nat), mxOf a.pairs x y = true → ∃ u v : Nat, f[x]? = some (u : Int) ∧ f[y]? = some (v : Int) ∧ mxOf b.pairs u v = true) : arrS a b f = true := by
  refine arrS_iff.2 ⟨ha, hb, allY_good hl fun i y la h1 h2 => mapOK_iff.2 (hlab i y la h1 h2), fun p hpm => ?_⟩
  obtain ⟨u, v, h1, h2, h3⟩ := hp p.1.toNat p.2.toNat (by simp only [mxOf, List.any_eq_true, Bool.and_eq_true, beq_iff_eq]; exact ⟨p, hpm, rfl, rfl⟩)
  simp [fAt, h1, h2, h3]
theorem then_arr {a b c : Ob} {f g : List Int} (h : arrS a b f = true) (k : arrS b c g = true) : arrS a c (f.map fun y => g.getD y.toNat 0) = true := by
  obtain ⟨ha, hb, hmap, _⟩ := arrS_iff.1 h
  obtain ⟨_, hc, hmap2, _⟩ := arrS_iff.1 k
  refine arr_of ha hc (by rw [List.length_map]; exact allY_length hmap) (fun i z la hz hla => ?_) fun x y hm => ?_
  · rw [List.getElem?_map] at hz
    cases hy : f[i]? with
    | none => rw [hy] at hz; cases hz
    | some y =>
      rw [hy] at hz
      simp only [Option.map_some, Option.some.injEq] at hz
      obtain ⟨lb, h1, h2, h3⟩ := mapOK_iff.1 (allY_at hmap hy hla)
      have hgl : y.toNat < g.length := by rw [allY_length hmap2]; omega
      rw [List.getD_eq_getElem?_getD, List.getElem?_eq_getElem hgl, Option.getD_some] at hz
      obtain ⟨lc, k1, k2, k3⟩ := mapOK_iff.1 (allY_at hmap2 (List.getElem?_eq_getElem hgl) h2)
      rw [hz] at k1 k2
      exact ⟨lc, k1, k2, h3.trans k3⟩
  · obtain ⟨u, v, h1, h2, h3⟩ := arr_pair h hm
    obtain ⟨u', v', k1, k2, k3⟩ := arr_pair k h3
    refine ⟨u', v', ?_, ?_, k3⟩
    · rw [List.getElem?_map, h1]; simp [List.getD_eq_getElem?_getD, k1]
    · rw [List.getElem?_map, h2]; simp [List.getD_eq_getElem?_getD, k2]
theorem idS_nat {n : Nat} (h : n ≤ 40) : idS (n : Int) = (List.range n).map fun (j : Nat) => (j : Int) := by
  have : idN (n : Int) = n := by unfold idN; omega
  unfold idS; rw [this]
theorem idS_get {n i : Nat} (h : n ≤ 40) (hi : i < n) : (idS (n : Int))[i]? = some (i : Int) := by
  rw [idS_nat h, List.getElem?_map, List.getElem?_range hi]; rfl
theorem idS_len {n : Nat} (h : n ≤ 40) : (idS (n : Int)).length = n := by rw [idS_nat h]; simp
theorem id_arr {a : Ob} (h : IsOb a) : arrS a a (idS (a.labels.length : Int)) = true := by
  have hl := h.le
  refine arr_of h h (idS_len hl) (fun i y la hy hla => ?_) fun x y hm => ?_
  · have hi := (List.getElem?_eq_some_iff.1 hla).1
    rw [idS_get hl hi] at hy
    cases hy
    exact ⟨la, by omega, by simpa using hla, rfl⟩
  · have hw := mxOf_within (fun p hp => (List.all_eq_true.1 h.inb) p hp) x y hm
    exact ⟨x, y, idS_get hl hw.1, idS_get hl hw.2, hm⟩
theorem nil_arr {a : Ob} (h : IsOb a) : arrS ⟨[], []⟩ a [] = true := by
  refine arr_of (checkS_zero.1 (by decide)) h rfl (fun i y la hy _ => by simp at hy) fun x y hm => by simp [mxOf] at hm
theorem then_id_left {n : Nat} {f : List Int} (h : n ≤ 40) (hf : f.length = n) : thenS (idS (n : Int)) f = (f, true) := by
  rw [thenS_ok]
  · congr 1
    apply List.ext_getElem?
    intro i
    rw [List.getElem?_map]
    by_cases hi : i < n
    · rw [idS_get h hi]
      simp [List.getD_eq_getElem?_getD, List.getElem?_eq_getElem (show i < f.length by omega)]
    · rw [List.getElem?_eq_none (by rw [idS_len h]; omega), List.getElem?_eq_none (by omega)]; rfl
  · intro y hy
    rw [idS_nat h] at hy
    simp only [List.mem_map, List.mem_range] at hy
    obtain ⟨j, hj, rfl⟩ := hy
    omega
theorem then_id_right {n : Nat} {f : List Int} (h : n ≤ 40) (hf : ∀ y ∈ f, 0 ≤ y ∧ y < (n : Int)) : thenS f (idS (n : Int)) = (f, true) := by
  rw [thenS_ok]
  · congr 1
    apply List.ext_getElem?
    intro i
    rw [List.getElem?_map]
    cases hy : f[i]? with
    | none => rfl
    | some y =>
      have := hf y (List.mem_of_getElem? hy)
      simp only [Option.map_some, Option.some.injEq]
      rw [List.getD_eq_getElem?_getD, idS_get h (by omega)]
      simp; omega
  · intro y hy; rw [idS_len h]; exact hf y hy
end Go.Proofs

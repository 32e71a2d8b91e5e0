/- Lemmas on the way to the statement of this claim; no conditions. -/
import Derived.Laws.StructEq
import Derived.KernelRfl
import Derived.Test.YtjidblndipcofaaDoorA29
import Derived.Test.YtjidblndipcofaaDoorA30
import Derived.Test.YtjidblndipcofaaDoorA31
import Derived.Test.YtjidblndipcofaaDoorA37
import Derived.Test.YtjidblndipcofaaDoorA38
open Go Go.V
namespace Go.Proofs
theorem dropP {l : List (Int × Int)} {i : Nat} {p : Int × Int} (h : l[i]? = some p) : (((l.flatMap pcells).map V.t).drop (i * 2)).take 2 = [I p.1, I p.2] := by
  induction l generalizing i with
  | nil => simp at h
  | cons a l ih =>
    cases i with
    | zero => simp at h; subst h; simp
    | succ i =>
      have := ih (i := i) (by simpa using h)
      rw [show (i + 1) * 2 = i * 2 + 2 by omega]
      simpa using this
end Go.Proofs

open Go Go.V
namespace Go.Proofs
abbrev Mx := Nat → Nat → Bool
def fwk (M : Mx) (k : Nat) : Mx := fun a b => M a b || (M a k && M k b)
def cloK (M : Mx) (k : Nat) : Mx := (List.range k).foldl fwk M
def inB (n : Nat) (p : Int × Int) : Bool := decide (0 ≤ p.1 ∧ p.1 < n) && decide (0 ≤ p.2 ∧ p.2 < n)
def mxOf (l : List (Int × Int)) : Mx := fun a b => l.any fun p => p.1.toNat == a && p.2.toNat == b
theorem cloK_succ (M : Mx) (k : Nat) : cloK M (k + 1) = fwk (cloK M k) k := by simp [cloK, List.range_succ]
theorem mxOf_append (l m : List (Int × Int)) : mxOf (l ++ m) = fun a b => mxOf l a b || mxOf m a b := by
  funext a b; simp [mxOf]
end Go.Proofs

open Go Go.V
namespace Go.Proofs
abbrev TBo (b : Bool) : T := .v (.bool b)
theorem get_range {α : Type} (f : Nat → α) {n i : Nat} (h : i < n) : ((List.range n).map f)[i]? = some (f i) := by
  rw [List.getElem?_map, List.getElem?_range h]; rfl
end Go.Proofs

open Go Go.V
namespace Go.Proofs
def updM (M : Mx) (a b : Nat) (v : Bool) : Mx := fun x y => if x = a ∧ y = b then v else M x y
end Go.Proofs

open Go Go.V
namespace Go.Proofs
def fwB (M : Mx) (k a b : Nat) : Mx := fun x y => if x < a ∨ (x = a ∧ y < b) then fwk M k x y else M x y
theorem fwB_zero (M : Mx) (k : Nat) (x y : Nat) : M x y = fwB M k 0 0 x y := by simp [fwB]
theorem fwB_read (M : Mx) (k a : Nat) : fwB M k a 0 a k = M a k := by simp [fwB]
theorem fwB_skip {M : Mx} {k a : Nat} (h1 : M a k = false) (x y : Nat) : fwB M k a 0 x y = fwB M k (a + 1) 0 x y := by
  unfold fwB
  by_cases h : x = a
  · subst h; simp [fwk, h1]
  · have : (x < a ∨ (x = a ∧ y < 0)) ↔ (x < a + 1 ∨ (x = a + 1 ∧ y < 0)) := by omega
    simp only [this]
theorem fwB_done {M : Mx} {k n : Nat} (x y : Nat) (hx : x < n) : fwB (cloK M k) k n 0 x y = cloK M (k + 1) x y := by
  rw [cloK_succ]; simp [fwB, hx]
end Go.Proofs

open Go Go.V
namespace Go.Proofs
def GrowP (s0 s : Sg) (m : Nat) (l : List (Int × Int)) : Prop := s.m m = some (.arr 2 100 (l.flatMap pcells)) ∧ s0.next ≤ m ∧ m < s.next
theorem GrowP.push {s0 s1 : Sg} {m : Nat} {l : List (Int × Int)} (_h : GrowP s0 s1 m l) (hn : s0.next ≤ s1.next) (X : Blk) (p : Int × Int) :
    GrowP s0 (((s1.add X).del m).add (.arr 2 100 (l.flatMap pcells ++ [TI p.1, TI p.2]))) (s1.next + 1) (l ++ [p]) := by
  refine ⟨?_, by omega, by simp [Sg.add, Sg.del]⟩
  simp [Sg.add, Sg.del, List.flatMap_append]
theorem GrowP.keep {s0 s1 : Sg} {m : Nat} {l : List (Int × Int)} (h : GrowP s0 s1 m l) (hk : Keep s0 s1) (hn : s0.next ≤ s1.next) (X Y : Blk) : Keep s0 (((s1.add X).del m).add Y) :=
  ((hk.add hn X).del h.2.1).add (by simp only [n_add, n_del]; omega) Y
end Go.Proofs

open Go Go.V
namespace Go.Proofs
theorem updM_or (M : Mx) (p : Int × Int) : (fun a b => M a b || (p.1.toNat == a && p.2.toNat == b)) = updM M p.1.toNat p.2.toNat true := by
  funext a b
  unfold updM
  by_cases h : a = p.1.toNat ∧ b = p.2.toNat
  · obtain ⟨rfl, rfl⟩ := h; simp
  · rw [if_neg h]
    have : (p.1.toNat == a && p.2.toNat == b) = false := by
      rw [Bool.eq_false_iff]; intro hh; simp at hh; exact h ⟨hh.1.symm, hh.2.symm⟩
    rw [this, Bool.or_false]
end Go.Proofs

open Go Go.V
namespace Go.Proofs
def GrowI (s0 s : Sg) (m : Nat) (l : List Int) : Prop := s.m m = some (.arr 1 3 (l.map TI)) ∧ s0.next ≤ m ∧ m < s.next
theorem GrowI.push {s0 s1 : Sg} {m : Nat} {l : List Int} (_h : GrowI s0 s1 m l) (hn : s0.next ≤ s1.next) (X : Blk) (z : Int) :
    GrowI s0 (((s1.add X).del m).add (.arr 1 3 (l.map TI ++ [TI z]))) (s1.next + 1) (l ++ [z]) := by
  refine ⟨?_, by omega, by simp [Sg.add, Sg.del]⟩
  simp [Sg.add, Sg.del]
theorem GrowI.keep {s0 s1 : Sg} {m : Nat} {l : List Int} (h : GrowI s0 s1 m l) (hk : Keep s0 s1) (hn : s0.next ≤ s1.next) (X Y : Blk) : Keep s0 (((s1.add X).del m).add Y) :=
  ((hk.add hn X).del h.2.1).add (by simp only [n_add, n_del]; omega) Y
theorem GrowI.new (s : Sg) : GrowI s (s.add (.arr 1 3 [])) s.next [] := ⟨by simp [Sg.add], Nat.le_refl _, by simp [Sg.add]⟩
end Go.Proofs

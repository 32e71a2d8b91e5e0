/- Lemmas on the way to the statement of this claim; no conditions. -/
import Derived.Laws.Bits64b
import Derived.KernelRfl
import Derived.Test.YtjidblndipcofaaDoorA31
import Derived.Test.YtjidblndipcofaaDoorA37
open Go Go.V
namespace Go.Proofs
abbrev U (z : Nat) : V := .t (.v (.int .u64 (z : Int)))
abbrev TU (z : Nat) : T := .v (.int .u64 (z : Int))
def wordB (f : Nat → Bool) : Nat → Nat
  | 0 => 0
  | m + 1 => wordB f m + if f m then 2 ^ m else 0
theorem wordB_lt (f : Nat → Bool) : ∀ m, wordB f m < 2 ^ m
  | 0 => by simp [wordB]
  | m + 1 => by
    have := wordB_lt f m
    unfold wordB
    rw [Nat.pow_succ]
    split <;> omega
theorem wordB_testBit (f : Nat → Bool) : ∀ m j, (wordB f m).testBit j = (decide (j < m) && f j)
  | 0, j => by simp [wordB]
  | m + 1, j => by
    have hlt := wordB_lt f m
    unfold wordB
    by_cases hf : f m = true
    · rw [if_pos hf, Nat.add_comm]
      rcases Nat.lt_trichotomy j m with h | h | h
      · rw [Nat.testBit_two_pow_add_gt h, wordB_testBit f m j]
        simp [h, Nat.lt_succ_of_lt h]
      · subst h
        rw [Nat.testBit_two_pow_add_eq, wordB_testBit f j j]
        simp [hf]
      · have h1 : 2 ^ m + wordB f m < 2 ^ j := by
          have : 2 ^ (m + 1) ≤ 2 ^ j := Nat.pow_le_pow_right (by omega) h
          rw [Nat.pow_succ] at this
          omega
        rw [Nat.testBit_lt_two_pow h1]
        have : ¬ j < m + 1 := by omega
        simp [this]
    · rw [if_neg hf, Nat.add_zero, wordB_testBit f m j]
      have hf' : f m = false := by simpa using hf
      rcases Nat.lt_trichotomy j m with h | h | h
      · simp [h, Nat.lt_succ_of_lt h]
      · subst h; simp [hf']
      · have h1 : ¬ j < m := by omega
        have h2 : ¬ j < m + 1 := by omega
        simp [h1, h2]
def rowWord (n : Nat) (f : Nat → Bool) (k : Nat) : Nat := wordB (fun j => decide (k * 64 + j < n) && f (k * 64 + j)) 64
def nW (n : Nat) : Nat := (n + 63) / 64
def rowW (n : Nat) (f : Nat → Bool) : List T := (List.range (nW n)).map fun k => TU (rowWord n f k)
theorem rowW_length (n : Nat) (f : Nat → Bool) : (rowW n f).length = nW n := by simp [rowW]
theorem rowW_get {n : Nat} {f : Nat → Bool} {k : Nat} (h : k < nW n) : (rowW n f)[k]? = some (TU (rowWord n f k)) := by
  unfold rowW; rw [List.getElem?_map, List.getElem?_range h]; rfl
theorem rowWord_lt (n : Nat) (f : Nat → Bool) (k : Nat) : rowWord n f k < 18446744073709551616 := wordB_lt _ 64
theorem rowWord_bit {n : Nat} {f : Nat → Bool} {i : Nat} (h : i < n) : (rowWord n f (i / 64)).testBit (i % 64) = f i := by
  have h1 : i / 64 * 64 + i % 64 = i := by omega
  rw [rowWord, wordB_testBit]
  simp [Nat.mod_lt, h1, h]
def updB (f : Nat → Bool) (i : Nat) (v : Bool) : Nat → Bool := fun j => if j = i then v else f j
theorem rowWord_or {n : Nat} {f : Nat → Bool} {i : Nat} (h : i < n) : rowWord n f (i / 64) ||| 2 ^ (i % 64) = rowWord n (updB f i true) (i / 64) := by
  apply Nat.eq_of_testBit_eq
  intro j
  have h1 : i / 64 * 64 + i % 64 = i := by omega
  rw [Nat.testBit_or, rowWord, rowWord, wordB_testBit, wordB_testBit, Nat.testBit_two_pow]
  by_cases hj : j = i % 64
  · subst hj
    simp [Nat.mod_lt, h1, h, updB]
  · have h2 : ¬ i / 64 * 64 + j = i := by omega
    have h3 : ¬ i % 64 = j := fun e => hj e.symm
    simp [updB, h2, h3]
theorem rowWord_other {n : Nat} {f : Nat → Bool} {i : Nat} {v : Bool} {k : Nat} (h : k ≠ i / 64) : rowWord n (updB f i v) k = rowWord n f k := by
  apply Nat.eq_of_testBit_eq
  intro j
  rw [rowWord, rowWord, wordB_testBit, wordB_testBit]
  by_cases hj : j < 64
  · have h2 : ¬ k * 64 + j = i := by omega
    simp [updB, h2]
  · simp [hj]
theorem rowW_put {n : Nat} {f : Nat → Bool} {i : Nat} (h : i < n) : setAll (rowW n f) (i / 64) [TU (rowWord n f (i / 64) ||| 2 ^ (i % 64))] = rowW n (updB f i true) := by
  have hk : i / 64 < nW n := by unfold nW; omega
  rw [setAll_one _ _ _ (by rw [rowW_length]; exact hk), rowWord_or h]
  apply List.ext_getElem?
  intro j
  by_cases hj : j < nW n
  · rw [rowW_get hj, List.getElem?_set, rowW_length, rowW_get hj]
    by_cases e : i / 64 = j
    · subst e; simp [hk]
    · rw [if_neg e, rowWord_other (fun h => e h.symm)]
  · rw [List.getElem?_eq_none (by rw [List.length_set, rowW_length]; omega), List.getElem?_eq_none (by rw [rowW_length]; omega)]
theorem rowWord_false (n k : Nat) : rowWord n (fun _ => false) k = 0 := by
  apply Nat.eq_of_testBit_eq
  intro j
  rw [rowWord, wordB_testBit]; simp
theorem rowW_false (n : Nat) : repl [TU 0] (nW n) = rowW n (fun _ => false) := by
  rw [repl_one]
  apply List.ext_getElem?
  intro j
  by_cases hj : j < nW n
  · rw [rowW_get hj, rowWord_false]; simp [hj]
  · rw [List.getElem?_eq_none (by simp; omega), List.getElem?_eq_none (by rw [rowW_length]; omega)]
theorem far_shr (P : Program) (t : TypeId) (x y : Operand) (w m : Nat) (hm : m < 64) : opFar .shr (U w) (I m) P t x y (.int .u64 ((w >>> m : Nat) : Int)) := by
  refine .inl ⟨_, _, rfl, rfl, ?_⟩
  have h1 : ¬ ((m : Int) < 0) := by omega
  have h2 : min ((m : Int).toNat) 64 = m := by omega
  have h3 : ((w : Int).fdiv (2 ^ m)) = ((w >>> m : Nat) : Int) := by
    rw [Nat.shiftRight_eq_div_pow, Int.fdiv_eq_ediv_of_nonneg _ (by exact_mod_cast Nat.zero_le _)]
    norm_cast
  simp only [vbin, eqGuard, Go.binOp, Op.shift, h1, if_false, IntKind.bits, h2, h3]
  rfl
theorem far_shl (P : Program) (t : TypeId) (x y : Operand) (m : Nat) (hm : m < 64) : opFar .shl (.t (.v (.int .u64 1))) (I m) P t x y (.int .u64 ((2 ^ m : Nat) : Int)) := by
  refine .inl ⟨_, _, rfl, rfl, ?_⟩
  have h1 : ¬ ((m : Int) < 0) := by omega
  have h2 : min ((m : Int).toNat) 64 = m := by omega
  have h4 : 2 ^ m < 2 ^ 64 := Nat.pow_lt_pow_right (by omega) hm
  have h3 : IntKind.u64.wrap (1 * 2 ^ m) = ((2 ^ m : Nat) : Int) := by
    rw [IntKind.wrap_u64, Int.one_mul]
    have : ((2 : Int) ^ m) = ((2 ^ m : Nat) : Int) := by norm_cast
    rw [this]
    have h5 : 2 ^ m < 18446744073709551616 := h4
    generalize 2 ^ m = z at h5
    omega
  simp only [vbin, eqGuard, Go.binOp, Op.shift, h1, if_false, IntKind.bits, h2, h3]
  rfl
theorem far_and (P : Program) (t : TypeId) (x y : Operand) (a b : Nat) (ha : a < 18446744073709551616) (hb : b < 18446744073709551616) : opFar .and (U a) (U b) P t x y (.int .u64 ((a &&& b : Nat) : Int)) := by
  refine .inl ⟨_, _, rfl, rfl, ?_⟩
  have := bits_and_u64_nat a b ha hb
  rw [← this]; rfl
theorem far_and1 (P : Program) (t : TypeId) (x y : Operand) (a : Nat) (ha : a < 18446744073709551616) : opFar .and (U a) (.t (.v (.int .u64 1))) P t x y (.int .u64 ((a &&& 1 : Nat) : Int)) := far_and P t x y a 1 ha (by omega)
theorem far_or (P : Program) (t : TypeId) (x y : Operand) (a b : Nat) (ha : a < 18446744073709551616) (hb : b < 18446744073709551616) : opFar .or (U a) (U b) P t x y (.int .u64 ((a ||| b : Nat) : Int)) := by
  refine .inl ⟨_, _, rfl, rfl, ?_⟩
  have := bits_or_u64_nat a b ha hb
  rw [← this]; rfl
theorem far_ueq (P : Program) (t : TypeId) (x y : Operand) (a b : Int) : opFar .eql (.t (.v (.int .u64 a))) (.t (.v (.int .u64 b))) P t x y (.bool (a == b)) := .inl ⟨_, _, rfl, rfl, rfl⟩
theorem far_une (P : Program) (t : TypeId) (x y : Operand) (a b : Int) : opFar .neq (.t (.v (.int .u64 a))) (.t (.v (.int .u64 b))) P t x y (.bool (a != b)) := .inl ⟨_, _, rfl, rfl, rfl⟩
theorem bit_one (w m : Nat) : ((((w >>> m) &&& 1 : Nat) : Int) == 1) = w.testBit m := by
  rw [Nat.testBit_eq_decide_div_mod_eq, Nat.and_one_is_mod, Nat.shiftRight_eq_div_pow]
  rcases Nat.mod_two_eq_zero_or_one (w / 2 ^ m) with h | h <;> simp [h]
end Go.Proofs

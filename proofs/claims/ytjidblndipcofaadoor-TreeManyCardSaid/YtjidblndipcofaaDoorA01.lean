/- Lemmas on the way to the statement of this claim; no conditions. -/
import Derived.Lib.TrailingZeros
namespace Go.Proofs
open Go
theorem ctz_form {w : Nat} (h0 : w ≠ 0) (h : w < 2 ^ 64) : ∃ m, w = 2 ^ Lib.ctz 64 w * (2 * m + 1) ∧ Lib.ctz 64 w < 64 := by
  obtain ⟨hlow, hk⟩ := Lib.lowest_bit 64 w h0 h
  obtain ⟨m, h1, h2⟩ := Lib.ctzFrom_spec 64 w (by omega) h
  have : Lib.ctz 64 w = Lib.ctzFrom 64 w := by unfold Lib.ctz; simp [h0]
  rw [this]; exact ⟨m, h1, h2⟩
theorem ctz_bit {w : Nat} (h0 : w ≠ 0) (h : w < 2 ^ 64) : w.testBit (Lib.ctz 64 w) = true := by
  obtain ⟨m, h1, _⟩ := ctz_form h0 h
  generalize Lib.ctz 64 w = c at h1
  subst h1
  rw [Nat.testBit_two_pow_mul]; simp [Nat.testBit_zero]
theorem ctz_low {w : Nat} (h0 : w ≠ 0) (h : w < 2 ^ 64) {j : Nat} (hj : j < Lib.ctz 64 w) : w.testBit j = false := by
  obtain ⟨m, h1, _⟩ := ctz_form h0 h
  generalize Lib.ctz 64 w = c at h1 hj
  subst h1
  rw [Nat.testBit_two_pow_mul]; simp; omega
theorem low_clear {w : Nat} (h0 : w ≠ 0) (h : w < 2 ^ 64) (j : Nat) : (w &&& (w - 1)).testBit j = (w.testBit j && decide (j ≠ Lib.ctz 64 w)) := by
  obtain ⟨m, h1, _⟩ := ctz_form h0 h
  generalize Lib.ctz 64 w = c at h1
  have hp : 0 < 2 ^ c := Nat.two_pow_pos c
  have h2 : w - 1 = 2 ^ c * (2 * m) + (2 ^ c - 1) := by
    rw [h1, Nat.mul_add, Nat.mul_one]; omega
  rw [Nat.testBit_and, h2, Nat.testBit_two_pow_mul_add _ (by omega), h1, Nat.testBit_two_pow_mul]
  rcases Nat.lt_trichotomy j c with hj | hj | hj
  · have : ¬ c ≤ j := by omega
    simp [this]
  · subst hj; simp [Nat.testBit_zero]
  · have h3 : ¬ j < c := by omega
    have h4 : c ≤ j := by omega
    have h5 : j ≠ c := by omega
    simp only [h3, if_false, h4, decide_true, Bool.true_and, h5, ne_eq, not_false_eq_true, Bool.and_true]
    have h6 : j - c = (j - c - 1) + 1 := by omega
    rw [h6, Nat.testBit_succ, Nat.testBit_succ]
    have e1 : (2 * m + 1) / 2 = m := by omega
    have e2 : 2 * m / 2 = m := by omega
    rw [e1, e2, Bool.and_self]
end Go.Proofs

/- Lemmas on the way to the statement of this claim; no conditions. -/
import Derived.Test.YtkdkajlgbhggdaaGreatDoorA35
import Derived.Test.YtkdkajlgbhggdaaGreatDoorA36
open Go Go.V
namespace Go.Proofs
structure RowR (s : Sg) (p q n : Nat) (f : Nat → Bool) : Prop where
 hp : s.m p = some (.box 128 [I n, .loc q 0 (nW n)])
 hq : s.m q = some (.arr 1 130 (rowW n f))
 le : n ≤ 1000
set_option maxRecDepth 20000 in
theorem e7z (s : Sg) (p n : Nat) (v : V) (hp : s.m p = some (.box 128 [I n, v])) : k0q Tryz.prog 94 [.ptr p 0] s (I n) (s) := by
 refine d0q Tryz.func94 rfl fun Q hQ => ?_
 obtain ⟨e, he, hl, h0⟩ : ∃ e : Env, ([.ptr p 0] ++ List.replicate (Tryz.f94.ntmps - ([.ptr p 0] : List V).length) .junk) = e ∧ e.length = 9 ∧ ev e (.tmp 0) = .ptr p 0 := ⟨_, rfl, rfl, rfl⟩
 rw [he]
 clear he
 refine vsk fun K1 hK1 => ?_
 refine a3q 0 [] ?_
 simp only [bs, ↓vopx, ↓vop, a1q, flat, wocs, ↓goc, ↓woc, ↓a2q]
 refine hK1 _ _ ?_
 refine vsk fun K2 hK2 => ?_
 refine vsk fun K3 hK3 => ?_
 refine a3q 0 [.far (.bool false)] ?_
 simp only [bs, ↓vopx, ↓vop, Nat.reduceBEq, a1q, flat, Nat.reduceLT, hl, h0, wocs, ↓goc, ↓woc, ↓a2q, ↓farC]
 repeat ((with_reducible refine And.intro ?_ ?_); · exact .inr (.inr ⟨⟨_, Tryz.underlying107⟩, .inl rfl, rfl, .inl ⟨⟨_, _, rfl⟩, rfl⟩⟩))
 refine hK3 _ _ ?_
 refine vck fun A B hA hB => ?_
 simp only [b2q, a0q, lpv, Nat.reduceLT, true_implies, reduceCtorEq, false_implies, true_and, hl]
 refine hB ?_
 clear hA hB A B
 refine a9q ?_
 refine hK2 _ _ ?_
 refine vsk fun K4 hK4 => ?_
 refine a3q 0 [] ?_
 simp only [bs, f0q, ↓vopx, ↓vop, Nat.reduceBEq, a1q, Nat.reduceLT, a8q, b0q, hl, h0, wocs, ↓goc, ↓woc, ↓a2q, Tryz.ag3, Tryz.fd128_0, Tryz.sz3, hp]
 refine hK4 _ _ ?_
 refine b1q ?_
 refine hQ _ _ _ (.inr rfl) (Done.toS (a7q ?_ fun n b hn h => h))
 try simp only [a0q, lpv, hl, Nat.reduceLT]
set_option maxRecDepth 20000 in
theorem r0q (s : Sg) (p n : Nat) (v : V) (hp : s.m p = some (.box 128 [I n, v])) (i : Int) : k0q Tryz.prog 84 [.ptr p 0, I i] s (Bo (decide (0 ≤ i ∧ i < n))) (s) := by
 refine d0q Tryz.func84 rfl fun Q hQ => ?_
 obtain ⟨e, he, hl, h0, h1⟩ : ∃ e : Env, ([.ptr p 0, I i] ++ List.replicate (Tryz.f84.ntmps - ([.ptr p 0, I i] : List V).length) .junk) = e ∧ e.length = 13 ∧ ev e (.tmp 0) = .ptr p 0 ∧ ev e (.tmp 1) = I i := ⟨_, rfl, rfl, rfl, rfl⟩
 rw [he]
 clear he
 refine vsk fun K1 hK1 => ?_
 refine a3q 0 [] ?_
 simp only [bs, ↓vopx, ↓vop, a1q, flat, wocs, ↓goc, ↓woc, ↓a2q]
 refine hK1 _ _ ?_
 refine vsk fun K2 hK2 => ?_
 rcases Decidable.em (0 ≤ i) with hi | hi
 ·refine a3q 0 [.det (I n) s] ?_
  simp only [bs, ↓vopx, ↓vop, Nat.reduceBEq, a1q, flat, Nat.reduceLT, opII, gtmp, hl, h0, h1, wocs, ↓goc, ↓woc, ↓a2q, ↓b8q, ↓h3q, a6q, hi]
  repeat ((with_reducible refine And.intro ?_ ?_); · exact ⟨Tryz.is94, e7z s p n v hp⟩)
  refine hK2 _ _ ?_
  refine b1q ?_
  refine hQ _ _ _ (.inr rfl) (Done.toS (a7q ?_ fun n b hn h => h))
  try simp only [a0q, lpv, hl, Nat.reduceLT]
  simp [hi]
 ·refine a3q 0 [] ?_
  simp only [bs, ↓vopx, ↓vop, Nat.reduceBEq, a1q, flat, Nat.reduceLT, opII, gtmp, hl, h1, wocs, ↓goc, ↓woc, ↓a2q, ↓m5q, hi]
  refine hK2 _ _ ?_
  refine b1q ?_
  refine hQ _ _ _ (.inr rfl) (Done.toS (a7q ?_ fun n b hn h => h))
  try simp only [a0q, lpv, hl, Nat.reduceLT]
  simp [hi]
set_option maxRecDepth 20000 in
theorem y7q (s : Sg) (p q n : Nat) (f : Nat → Bool) (h : RowR s p q n f) (i : Int) : k0q Tryz.prog 76 [.ptr p 0, I i] s (Bo (decide (0 ≤ i ∧ i < n) && f i.toNat)) (s) := by
 refine d0q Tryz.func76 rfl fun Q hQ => ?_
 obtain ⟨e, he, hl, h0, h1⟩ : ∃ e : Env, ([.ptr p 0, I i] ++ List.replicate (Tryz.f76.ntmps - ([.ptr p 0, I i] : List V).length) .junk) = e ∧ e.length = 23 ∧ ev e (.tmp 0) = .ptr p 0 ∧ ev e (.tmp 1) = I i := ⟨_, rfl, rfl, rfl, rfl⟩
 rw [he]
 clear he
 refine vsk fun K1 hK1 => ?_
 refine a3q 0 [] ?_
 simp only [bs, ↓vopx, ↓vop, a1q, flat, wocs, ↓goc, ↓woc, ↓a2q]
 refine hK1 _ _ ?_
 refine vsk fun K2 hK2 => ?_
 rcases Decidable.em (0 ≤ i ∧ i < n) with hi | hi
 ·have hq := h.hq
  obtain ⟨k, rfl⟩ : ∃ k : Nat, i = k := ⟨i.toNat, by omega⟩
  have hkn : k < n := by omega
  have hk64 : ((k : Int) / 64).toNat = k / 64 := by omega
  have hw := w6q (n := n) (f := f) (k := k / 64) (by unfold nW; omega)
  have hmod : ((k : Int) % 64) = ((k % 64 : Nat) : Int) := by omega
  have hkw : (k : Int) / 64 < (nW n : Nat) := by unfold nW; omega
  have hle := h.le
  refine a3q 0 [.det (Bo (decide (0 ≤ (k : Int) ∧ (k : Int) < n))) s, .far (.int .u64 ((h0q n f (k / 64) >>> (k % 64) : Nat) : Int)), .far (.int .u64 ((((h0q n f (k / 64)) >>> (k % 64)) &&& 1 : Nat) : Int)), .far (.bool ((((h0q n f (k / 64) >>> (k % 64)) &&& 1 : Nat) : Int) == 1))] ?_
  simp only [bs, f0q, ↓vopx, ↓vop, Nat.reduceBEq, a1q, flat, Nat.reduceLT, a8q, b0q, gtmp, hl, h0, h1, wocs, ↓goc, ↓woc, ↓a2q, ↓b8q, ↓h3q, a6q, ↓farC, Tryz.ag130, Tryz.ag126, Tryz.fd128_1, Tryz.sz130, Tryz.sz126, Tryz.un126, h.hp, hi, hq, hk64, hw, hmod]
  repeat ((with_reducible refine And.intro ?_ ?_); · first | (with_reducible assumption) | omega | exact ⟨Tryz.is84, by simpa only [hi, and_self, decide_true] using r0q s p n _ h.hp k⟩ | exact far_shr _ _ _ _ _ _ (by omega) | exact x0x _ _ _ _ _ (by have := o6z n f (k / 64); rw [Nat.shiftRight_eq_div_pow]; exact Nat.lt_of_le_of_lt (Nat.div_le_self _ _) this) | exact far_ueq _ _ _ _ _ _)
  refine hK2 _ _ ?_
  refine b1q ?_
  refine hQ _ _ _ (.inr rfl) (Done.toS (a7q ?_ fun n b hn h => h))
  try simp only [a0q, lpv, hl, Nat.reduceLT]
  first | (rw [k9x, k2z hkn]; simp [hi]) | simp [hi]
 ·refine a3q 0 [.det (Bo (decide (0 ≤ i ∧ i < n))) s] ?_
  simp only [bs, ↓vopx, ↓vop, Nat.reduceBEq, a1q, flat, Nat.reduceLT, gtmp, hl, h0, h1, wocs, ↓goc, ↓woc, ↓a2q, ↓b8q, ↓m5q, a6q, hi]
  repeat ((with_reducible refine And.intro ?_ ?_); · exact ⟨Tryz.is84, by simpa only [hi, decide_false] using r0q s p n _ h.hp i⟩)
  refine hK2 _ _ ?_
  refine b1q ?_
  refine hQ _ _ _ (.inr rfl) (Done.toS (a7q ?_ fun n b hn h => h))
  try simp only [a0q, lpv, hl, Nat.reduceLT]
  first | (rw [k9x, k2z hkn]; simp [hi]) | simp [hi]
end Go.Proofs

open Go Go.V
namespace Go.Proofs
theorem m0x {s : Sg} {q k : Nat} {el : TypeId} {cs : List T} {e' : Env} (hq : q < s.next) : g1x Tryz.prog s [] (.tup []) (s.set q (.arr k el cs)) e' (s.set q (.arr k el cs)) := by
 refine g7x rfl (fun n b hb => ?_) fun n b hn hb => ⟨hb, ?_⟩
 ·simp only [Sg.set] at hb
  split at hb
  ·rename_i h; subst h; exact .inl hq
  ·exact .inr hb
 ·simp only [Sg.set] at hb
  split at hb
  ·cases hb; exact .inr trivial
  ·exact .inl hb
theorem b6x (n : Nat) : repl [T.v (Value.int .u64 0)] (nW n) = rowW n (fun _ => false) := i4x n
def n6q (s : Sg) (n : Nat) : Sg := (s.add (.arr 1 130 (rowW n fun _ => false))).add (.box 128 [I n, .loc s.next 0 (nW n)])
set_option maxRecDepth 20000 in
theorem w2x (s : Sg) (n : Nat) (hn : n ≤ 1000) : f8q Tryz.prog 62 [I n] s (fun v s' => v = .ptr (s.next + 1) 0 ∧ s' = n6q s n) := by
 refine b6q Tryz.func62 rfl fun Q hQ => ?_
 obtain ⟨e, he, hl, h0⟩ : ∃ e : Env, ([I n] ++ List.replicate (Tryz.f62.ntmps - ([I n] : List V).length) .junk) = e ∧ e.length = 14 ∧ ev e (.tmp 0) = I n := ⟨_, rfl, rfl, rfl⟩
 rw [he]
 clear he
 have hmx : max (n : Int) 0 = n := by omega
 have hmn : min (n : Int) 1000 = n := by omega
 have hnw : (((n : Int) + 64 - 1) / 64).toNat = nW n := by unfold nW; omega
 refine vsk fun K1 hK1 => ?_
 refine a3q 0 [] ?_
 simp only [bs, ↓vopx, ↓vop, a1q, flat, wocs, ↓goc, ↓woc, ↓a2q]
 refine hK1 _ _ ?_
 refine vsk fun K2 hK2 => ?_
 refine a3q 0 [] ?_
 simp only [bs, ↓vopx, ↓vop, Nat.reduceBEq, a1q, flat, Nat.reduceLT, hl, h0, wocs, ↓goc, ↓woc, ↓a2q, hmx, hmn]
 refine hK2 _ _ ?_
 refine vsk fun K3 hK3 => ?_
 refine a3q 0 [] ?_
 simp only [bs, Nat.reduceLeDiff, Nat.reduceAdd, d9q, g7q, ↓vopx, ↓vop, Nat.reduceBEq, a1q, flat, Nat.reduceLT, V.cells, opII, hl, wocs, ↓goc, ↓woc, ↓a2q, Tryz.sl126, Tryz.st128, hnw, b6x]
 repeat ((with_reducible refine And.intro ?_ ?_); · first | omega | exact ⟨by omega, by omega⟩)
 refine hK3 _ _ ?_
 refine b1q ?_
 refine hQ _ _ _ (.inr rfl) (d6q (v := .ptr (s.next + 1) 0) ?_ rfl ⟨rfl, rfl⟩)
 try simp only [a0q, lpv, hl, Nat.reduceLT]
set_option maxRecDepth 20000 in
theorem p9z (s : Sg) (p q n : Nat) (f : Nat → Bool) (h : RowR s p q n f) (hq : q < s.next) (k : Nat) (hk : k < n) : k0q Tryz.prog 64 [.ptr p 0, I k, Bo true] s (.tup []) (s.set q (.arr 1 130 (rowW n (updB f k true)))) := by
 refine d0q Tryz.func64 rfl fun Q hQ => ?_
 obtain ⟨e, he, hl, h0, h1, h2⟩ : ∃ e : Env, ([.ptr p 0, I k, Bo true] ++ List.replicate (Tryz.f64.ntmps - ([.ptr p 0, I k, Bo true] : List V).length) .junk) = e ∧ e.length = 39 ∧ ev e (.tmp 0) = .ptr p 0 ∧ ev e (.tmp 1) = I k ∧ ev e (.tmp 2) = Bo true := ⟨_, rfl, rfl, rfl, rfl, rfl⟩
 rw [he]
 clear he
 refine a5q ?_
 refine vsk fun K1 hK1 => ?_
 have hkr : 0 ≤ (k : Int) ∧ (k : Int) < n := by omega
 refine a3q 0 [.det (Bo (decide (0 ≤ (k : Int) ∧ (k : Int) < n))) s] ?_
 simp only [bs, ↓vopx, ↓vop, Nat.reduceBEq, a1q, Nat.reduceLT, hl, h0, h1, wocs, ↓goc, ↓woc, ↓a2q, ↓b8q, a6q, hkr]
 repeat ((with_reducible refine And.intro ?_ ?_); · exact ⟨Tryz.is84, by simpa only [hkr, and_self, decide_true] using r0q s p n _ h.hp k⟩)
 refine hK1 _ _ ?_
 refine vck fun A B hA hB => ?_
 simp only [b2q, a0q, lpv, Nat.reduceLT, true_implies, reduceCtorEq, false_implies, true_and, hl]
 refine hB ?_
 clear hA hB A B
 refine vsk fun K2 hK2 => ?_
 refine a3q 0 [] ?_
 simp only [bs, ↓vopx, ↓vop, Nat.reduceBEq, a1q, Nat.reduceLT, hl, h2, wocs, ↓goc, ↓woc, ↓a2q]
 refine hK2 _ _ ?_
 refine vck fun A B hA hB => ?_
 simp only [b2q, a0q, lpv, Nat.reduceLT, true_implies, reduceCtorEq, false_implies, and_true, hl]
 refine hA ?_
 clear hA hB A B
 have hqq := h.hq
 have hle := h.le
 have hk64 : ((k : Int) / 64).toNat = k / 64 := by omega
 have hw := w6q (n := n) (f := f) (k := k / 64) (by unfold nW; omega)
 have hmod : ((k : Int) % 64) = ((k % 64 : Nat) : Int) := by omega
 have hkw : (k : Int) / 64 < (nW n : Nat) := by unfold nW; omega
 have hkw2 : k / 64 < nW n := by unfold nW; omega
 refine c5q Tryz.mixed 11 [0, 0, 0, 1, 0, 0, 1, 1, 0, 0, 0] [.far (.int .u64 ((2 ^ (k % 64) : Nat) : Int)), .far (.int .u64 ((h0q n f (k / 64) ||| 2 ^ (k % 64) : Nat) : Int))] [] 0 (by decide +kernel) (by simp [lpv, hl]) rfl ?_
 simp only [bs, f0q, ↓vopx, ↓vop, Nat.reduceBEq, b5q, flat, Nat.reduceLT, V.cells, a8q, b0q, opII, opSS, Sg.frzL, Sg.frz1, hl, h0, h1, wocs, ↓goc, ↓woc, ↓a2q, ↓e3q, ↓farC, chn, ↓goq, ↓woq, List.zip_cons_cons, List.zip_nil_right, Tryz.ag130, Tryz.ag126, Tryz.fd128_1, Tryz.sz130, Tryz.sz126, Tryz.un126, h.hp, hqq, hk64, hw, hmod, m7q]
 repeat ((with_reducible refine And.intro ?_ ?_); · first | (with_reducible assumption) | omega | exact far_shl _ _ _ _ _ (by omega) | exact far_or _ _ _ _ _ _ (o6z _ _ _) (Nat.pow_lt_pow_right (by omega) (show k % 64 < 64 by omega)))
 rw [b5j hk]
 exact hQ _ _ _ (.inl rfl) (m0x hq)
end Go.Proofs

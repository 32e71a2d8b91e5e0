/- Lemmas on the way to the statement of this claim; no conditions. -/
import Derived.Test.YtkdkajlgbhggdaaDoorO43
import Derived.Test.YtkdkajlgbhggdaaDoorO44
open Go Go.V
namespace Go.Proofs
structure RowR (s : Sg) (p q n : Nat) (f : Nat → Bool) : Prop where
 hp : s.m p = some (.box 165 [I n, .loc q 0 (nW n)])
 hq : s.m q = some (.arr 1 162 (rowW n f))
 le : n ≤ 1000
set_option maxRecDepth 20000 in
theorem g9z (s : Sg) (p n : Nat) (v : V) (hp : s.m p = some (.box 165 [I n, v])) : k4q Tryd.prog 151 [.ptr p 0] s (I n) (s) := by
 refine d3q Tryd.func151 rfl fun Q hQ => ?_
 obtain ⟨e, he, hl, h0⟩ : ∃ e : Env, ([.ptr p 0] ++ List.replicate (Tryd.f151.ntmps - ([.ptr p 0] : List V).length) .junk) = e ∧ e.length = 9 ∧ ev e (.tmp 0) = .ptr p 0 := ⟨_, rfl, rfl, rfl⟩
 rw [he]
 clear he
 refine vsk fun K1 hK1 => ?_
 refine a3q 0 [] ?_
 simp only [bs, ↓vopx, ↓vop, a1q, flat, wocs, ↓goc, ↓woc, ↓a2q]
 refine hK1 _ _ ?_
 refine vsk fun K2 hK2 => ?_
 refine vsk fun K3 hK3 => ?_
 refine a3q 0 [.far (.bool false)] ?_
 simp only [bs, ↓vopx, ↓vop, Nat.reduceBEq, a1q, flat, Nat.reduceLT, hl, h0, wocs, ↓goc, ↓woc, ↓a2q, ↓farC]
 repeat ((with_reducible refine And.intro ?_ ?_); · exact .inr (.inr ⟨⟨_, Tryd.underlying137⟩, .inl rfl, rfl, .inl ⟨⟨_, _, rfl⟩, rfl⟩⟩))
 refine hK3 _ _ ?_
 refine vck fun A B hA hB => ?_
 simp only [b5q, a0q, lpv, Nat.reduceLT, true_implies, reduceCtorEq, false_implies, true_and, hl]
 refine hB ?_
 clear hA hB A B
 refine b1q ?_
 refine hK2 _ _ ?_
 refine vsk fun K4 hK4 => ?_
 refine a3q 0 [] ?_
 simp only [bs, e9q, ↓vopx, ↓vop, Nat.reduceBEq, a1q, Nat.reduceLT, a7q, a8q, hl, h0, wocs, ↓goc, ↓woc, ↓a2q, Tryd.ag3, Tryd.fd165_0, Tryd.sz3, hp]
 refine hK4 _ _ ?_
 refine b3q ?_
 refine hQ _ _ _ (.inr rfl) (Done.toS (b2q ?_ fun n b hn h => h))
 try simp only [a0q, lpv, hl, Nat.reduceLT]
set_option maxRecDepth 20000 in
theorem s1q (s : Sg) (p n : Nat) (v : V) (hp : s.m p = some (.box 165 [I n, v])) (i : Int) : k4q Tryd.prog 130 [.ptr p 0, I i] s (Bo (decide (0 ≤ i ∧ i < n))) (s) := by
 refine d3q Tryd.func130 rfl fun Q hQ => ?_
 obtain ⟨e, he, hl, h0, h1⟩ : ∃ e : Env, ([.ptr p 0, I i] ++ List.replicate (Tryd.f130.ntmps - ([.ptr p 0, I i] : List V).length) .junk) = e ∧ e.length = 13 ∧ ev e (.tmp 0) = .ptr p 0 ∧ ev e (.tmp 1) = I i := ⟨_, rfl, rfl, rfl, rfl⟩
 rw [he]
 clear he
 refine vsk fun K1 hK1 => ?_
 refine a3q 0 [] ?_
 simp only [bs, ↓vopx, ↓vop, a1q, flat, wocs, ↓goc, ↓woc, ↓a2q]
 refine hK1 _ _ ?_
 refine vsk fun K2 hK2 => ?_
 rcases Decidable.em (0 ≤ i) with hi | hi
 ·refine a3q 0 [.det (I n) s] ?_
  simp only [bs, ↓vopx, ↓vop, Nat.reduceBEq, a1q, flat, Nat.reduceLT, opII, gtmp, hl, h0, h1, wocs, ↓goc, ↓woc, ↓a2q, ↓c4q, ↓g1q, a6q, hi]
  repeat ((with_reducible refine And.intro ?_ ?_); · exact ⟨Tryd.is151, g9z s p n v hp⟩)
  refine hK2 _ _ ?_
  refine b3q ?_
  refine hQ _ _ _ (.inr rfl) (Done.toS (b2q ?_ fun n b hn h => h))
  try simp only [a0q, lpv, hl, Nat.reduceLT]
  simp [hi]
 ·refine a3q 0 [] ?_
  simp only [bs, ↓vopx, ↓vop, Nat.reduceBEq, a1q, flat, Nat.reduceLT, opII, gtmp, hl, h1, wocs, ↓goc, ↓woc, ↓a2q, ↓o1q, hi]
  refine hK2 _ _ ?_
  refine b3q ?_
  refine hQ _ _ _ (.inr rfl) (Done.toS (b2q ?_ fun n b hn h => h))
  try simp only [a0q, lpv, hl, Nat.reduceLT]
  simp [hi]
set_option maxRecDepth 20000 in
theorem a0z (s : Sg) (p q n : Nat) (f : Nat → Bool) (h : RowR s p q n f) (i : Int) : k4q Tryd.prog 107 [.ptr p 0, I i] s (Bo (decide (0 ≤ i ∧ i < n) && f i.toNat)) (s) := by
 refine d3q Tryd.func107 rfl fun Q hQ => ?_
 obtain ⟨e, he, hl, h0, h1⟩ : ∃ e : Env, ([.ptr p 0, I i] ++ List.replicate (Tryd.f107.ntmps - ([.ptr p 0, I i] : List V).length) .junk) = e ∧ e.length = 23 ∧ ev e (.tmp 0) = .ptr p 0 ∧ ev e (.tmp 1) = I i := ⟨_, rfl, rfl, rfl, rfl⟩
 rw [he]
 clear he
 refine vsk fun K1 hK1 => ?_
 refine a3q 0 [] ?_
 simp only [bs, ↓vopx, ↓vop, a1q, flat, wocs, ↓goc, ↓woc, ↓a2q]
 refine hK1 _ _ ?_
 refine vsk fun K2 hK2 => ?_
 rcases Decidable.em (0 ≤ i ∧ i < n) with hi | hi
 ·have hq := h.hq
  obtain ⟨k, rfl⟩ : ∃ k : Nat, i = k := ⟨i.toNat, by omega⟩
  have hkn : k < n := by omega
  have hk64 : ((k : Int) / 64).toNat = k / 64 := by omega
  have hw := y4q (n := n) (f := f) (k := k / 64) (by unfold nW; omega)
  have hmod : ((k : Int) % 64) = ((k % 64 : Nat) : Int) := by omega
  have hkw : (k : Int) / 64 < (nW n : Nat) := by unfold nW; omega
  have hle := h.le
  refine a3q 0 [.det (Bo (decide (0 ≤ (k : Int) ∧ (k : Int) < n))) s, .far (.int .u64 ((h2q n f (k / 64) >>> (k % 64) : Nat) : Int)), .far (.int .u64 ((((h2q n f (k / 64)) >>> (k % 64)) &&& 1 : Nat) : Int)), .far (.bool ((((h2q n f (k / 64) >>> (k % 64)) &&& 1 : Nat) : Int) == 1))] ?_
  simp only [bs, e9q, ↓vopx, ↓vop, Nat.reduceBEq, a1q, flat, Nat.reduceLT, a7q, a8q, gtmp, hl, h0, h1, wocs, ↓goc, ↓woc, ↓a2q, ↓c4q, ↓g1q, a6q, ↓farC, Tryd.ag162, Tryd.ag163, Tryd.fd165_1, Tryd.sz162, Tryd.sz163, Tryd.un163, h.hp, hi, hq, hk64, hw, hmod]
  repeat ((with_reducible refine And.intro ?_ ?_); · first | (with_reducible assumption) | omega | exact ⟨Tryd.is130, by simpa only [hi, and_self, decide_true] using s1q s p n _ h.hp k⟩ | exact far_shr _ _ _ _ _ _ (by omega) | exact z6x _ _ _ _ _ (by have := q2z n f (k / 64); rw [Nat.shiftRight_eq_div_pow]; exact Nat.lt_of_le_of_lt (Nat.div_le_self _ _) this) | exact far_ueq _ _ _ _ _ _)
  refine hK2 _ _ ?_
  refine b3q ?_
  refine hQ _ _ _ (.inr rfl) (Done.toS (b2q ?_ fun n b hn h => h))
  try simp only [a0q, lpv, hl, Nat.reduceLT]
  first | (rw [m1x, l8z hkn]; simp [hi]) | simp [hi]
 ·refine a3q 0 [.det (Bo (decide (0 ≤ i ∧ i < n))) s] ?_
  simp only [bs, ↓vopx, ↓vop, Nat.reduceBEq, a1q, flat, Nat.reduceLT, gtmp, hl, h0, h1, wocs, ↓goc, ↓woc, ↓a2q, ↓c4q, ↓o1q, a6q, hi]
  repeat ((with_reducible refine And.intro ?_ ?_); · exact ⟨Tryd.is130, by simpa only [hi, decide_false] using s1q s p n _ h.hp i⟩)
  refine hK2 _ _ ?_
  refine b3q ?_
  refine hQ _ _ _ (.inr rfl) (Done.toS (b2q ?_ fun n b hn h => h))
  try simp only [a0q, lpv, hl, Nat.reduceLT]
  first | (rw [m1x, l8z hkn]; simp [hi]) | simp [hi]
end Go.Proofs

open Go Go.V
namespace Go.Proofs
theorem n9x {s : Sg} {q k : Nat} {el : TypeId} {cs : List T} {e' : Env} (hq : q < s.next) : h3x Tryd.prog s [] (.tup []) (s.set q (.arr k el cs)) e' (s.set q (.arr k el cs)) := by
 refine h9x rfl (fun n b hb => ?_) fun n b hn hb => ⟨hb, ?_⟩
 ·simp only [Sg.set] at hb
  split at hb
  ·rename_i h; subst h; exact .inl hq
  ·exact .inr hb
 ·simp only [Sg.set] at hb
  split at hb
  ·cases hb; exact .inr trivial
  ·exact .inl hb
theorem d5x (n : Nat) : repl [T.v (Value.int .u64 0)] (nW n) = rowW n (fun _ => false) := j6x n
def o4q (s : Sg) (n : Nat) : Sg := (s.add (.arr 1 162 (rowW n fun _ => false))).add (.box 165 [I n, .loc s.next 0 (nW n)])
set_option maxRecDepth 20000 in
theorem x9x (s : Sg) (n : Nat) (hn : n ≤ 1000) : g0q Tryd.prog 122 [I n] s (fun v s' => v = .ptr (s.next + 1) 0 ∧ s' = o4q s n) := by
 refine b8q Tryd.func122 rfl fun Q hQ => ?_
 obtain ⟨e, he, hl, h0⟩ : ∃ e : Env, ([I n] ++ List.replicate (Tryd.f122.ntmps - ([I n] : List V).length) .junk) = e ∧ e.length = 14 ∧ ev e (.tmp 0) = I n := ⟨_, rfl, rfl, rfl⟩
 rw [he]
 clear he
 have hmx : max (n : Int) 0 = n := by omega
 have hmn : min (n : Int) 1000 = n := by omega
 have hnw : (((n : Int) + 64 - 1) / 64).toNat = nW n := by unfold nW; omega
 refine vsk fun K1 hK1 => ?_
 refine a3q 0 [] ?_
 simp only [bs, ↓vopx, ↓vop, a1q, flat, wocs, ↓goc, ↓woc, ↓a2q]
 refine hK1 _ _ ?_
 refine vsk fun K2 hK2 => ?_
 refine a3q 0 [] ?_
 simp only [bs, ↓vopx, ↓vop, Nat.reduceBEq, a1q, flat, Nat.reduceLT, hl, h0, wocs, ↓goc, ↓woc, ↓a2q, hmx, hmn]
 refine hK2 _ _ ?_
 refine vsk fun K3 hK3 => ?_
 refine a3q 0 [] ?_
 simp only [bs, Nat.reduceLeDiff, Nat.reduceAdd, d8q, g2q, ↓vopx, ↓vop, Nat.reduceBEq, a1q, flat, Nat.reduceLT, V.cells, opII, hl, wocs, ↓goc, ↓woc, ↓a2q, Tryd.sl163, Tryd.st165, hnw, d5x]
 repeat ((with_reducible refine And.intro ?_ ?_); · first | omega | exact ⟨by omega, by omega⟩)
 refine hK3 _ _ ?_
 refine b3q ?_
 refine hQ _ _ _ (.inr rfl) (d7q (v := .ptr (s.next + 1) 0) ?_ rfl ⟨rfl, rfl⟩)
 try simp only [a0q, lpv, hl, Nat.reduceLT]
set_option maxRecDepth 20000 in
theorem r2z (s : Sg) (p q n : Nat) (f : Nat → Bool) (h : RowR s p q n f) (hq : q < s.next) (k : Nat) (hk : k < n) : k4q Tryd.prog 123 [.ptr p 0, I k, Bo true] s (.tup []) (s.set q (.arr 1 162 (rowW n (updB f k true)))) := by
 refine d3q Tryd.func123 rfl fun Q hQ => ?_
 obtain ⟨e, he, hl, h0, h1, h2⟩ : ∃ e : Env, ([.ptr p 0, I k, Bo true] ++ List.replicate (Tryd.f123.ntmps - ([.ptr p 0, I k, Bo true] : List V).length) .junk) = e ∧ e.length = 39 ∧ ev e (.tmp 0) = .ptr p 0 ∧ ev e (.tmp 1) = I k ∧ ev e (.tmp 2) = Bo true := ⟨_, rfl, rfl, rfl, rfl, rfl⟩
 rw [he]
 clear he
 refine a5q ?_
 refine vsk fun K1 hK1 => ?_
 have hkr : 0 ≤ (k : Int) ∧ (k : Int) < n := by omega
 refine a3q 0 [.det (Bo (decide (0 ≤ (k : Int) ∧ (k : Int) < n))) s] ?_
 simp only [bs, ↓vopx, ↓vop, Nat.reduceBEq, a1q, Nat.reduceLT, hl, h0, h1, wocs, ↓goc, ↓woc, ↓a2q, ↓c4q, a6q, hkr]
 repeat ((with_reducible refine And.intro ?_ ?_); · exact ⟨Tryd.is130, by simpa only [hkr, and_self, decide_true] using s1q s p n _ h.hp k⟩)
 refine hK1 _ _ ?_
 refine vck fun A B hA hB => ?_
 simp only [b5q, a0q, lpv, Nat.reduceLT, true_implies, reduceCtorEq, false_implies, true_and, hl]
 refine hB ?_
 clear hA hB A B
 refine vsk fun K2 hK2 => ?_
 refine a3q 0 [] ?_
 simp only [bs, ↓vopx, ↓vop, Nat.reduceBEq, a1q, Nat.reduceLT, hl, h2, wocs, ↓goc, ↓woc, ↓a2q]
 refine hK2 _ _ ?_
 refine vck fun A B hA hB => ?_
 simp only [b5q, a0q, lpv, Nat.reduceLT, true_implies, reduceCtorEq, false_implies, and_true, hl]
 refine hA ?_
 clear hA hB A B
 have hqq := h.hq
 have hle := h.le
 have hk64 : ((k : Int) / 64).toNat = k / 64 := by omega
 have hw := y4q (n := n) (f := f) (k := k / 64) (by unfold nW; omega)
 have hmod : ((k : Int) % 64) = ((k % 64 : Nat) : Int) := by omega
 have hkw : (k : Int) / 64 < (nW n : Nat) := by unfold nW; omega
 have hkw2 : k / 64 < nW n := by unfold nW; omega
 refine d2q Tryd.mixed 11 [0, 0, 0, 1, 0, 0, 1, 1, 0, 0, 0] [.far (.int .u64 ((2 ^ (k % 64) : Nat) : Int)), .far (.int .u64 ((h2q n f (k / 64) ||| 2 ^ (k % 64) : Nat) : Int))] [] 0 (by decide +kernel) (by simp [lpv, hl]) rfl ?_
 simp only [bs, e9q, ↓vopx, ↓vop, Nat.reduceBEq, c0q, flat, Nat.reduceLT, V.cells, a7q, a8q, opII, opSS, Sg.frzL, Sg.frz1, hl, h0, h1, wocs, ↓goc, ↓woc, ↓a2q, ↓e7q, ↓farC, chn, ↓goq, ↓woq, List.zip_cons_cons, List.zip_nil_right, Tryd.ag162, Tryd.ag163, Tryd.fd165_1, Tryd.sz162, Tryd.sz163, Tryd.un163, h.hp, hqq, hk64, hw, hmod, n1q]
 repeat ((with_reducible refine And.intro ?_ ?_); · first | (with_reducible assumption) | omega | exact far_shl _ _ _ _ _ (by omega) | exact far_or _ _ _ _ _ _ (q2z _ _ _) (Nat.pow_lt_pow_right (by omega) (show k % 64 < 64 by omega)))
 rw [d7j hk]
 exact hQ _ _ _ (.inl rfl) (n9x hq)
end Go.Proofs

/- Lemmas on the way to the statement of this claim; no conditions. -/
import Derived.Test.YtjidblndipcofaaDoorA40
import Derived.Test.YtjidblndipcofaaDoorA41
open Go Go.V
namespace Go.Proofs
structure RowR (s : Sg) (p q n : Nat) (f : Nat → Bool) : Prop where
  hp : s.m p = some (.box 144 [I n, .loc q 0 (nW n)])
  hq : s.m q = some (.arr 1 123 (rowW n f))
  le : n ≤ 1000
set_option maxRecDepth 20000 in
theorem bitsLen_ (s : Sg) (p n : Nat) (v : V) (hp : s.m p = some (.box 144 [I n, v])) : DCall Tryd.prog 91 [.ptr p 0] s (I n) (s) := by
  refine dcall_of_body Tryd.func91 rfl fun Q hQ => ?_
  obtain ⟨e, he, hl, h0⟩ : ∃ e : Env, ([.ptr p 0] ++ List.replicate (Tryd.f91.ntmps - ([.ptr p 0] : List V).length) .junk) = e ∧ e.length = 9 ∧ ev e (.tmp 0) = .ptr p 0 := ⟨_, rfl, rfl, rfl⟩
  rw [he]
  clear he
  refine vsk fun K1 hK1 => ?_
  refine vw_sc 0 [] ?_
  simp only [bs, ↓vopx, ↓vop, thenV, flat, wocs, ↓goc, ↓woc, ↓vopm0]
  refine hK1 _ _ ?_
  refine vsk fun K2 hK2 => ?_
  refine vsk fun K3 hK3 => ?_
  refine vw_sc 0 [.far (.bool false)] ?_
  simp only [bs, ↓vopx, ↓vop, Nat.reduceBEq, thenV, flat, Nat.reduceLT, hl, h0, wocs, ↓goc, ↓woc, ↓vopm0, ↓farC]
  repeat ((with_reducible refine And.intro ?_ ?_); · exact .inr (.inr ⟨⟨_, Tryd.underlying127⟩, .inl rfl, rfl, .inl ⟨⟨_, _, rfl⟩, rfl⟩⟩))
  refine hK3 _ _ ?_
  refine vck fun A B hA hB => ?_
  simp only [condV, ev_hit, lpv, Nat.reduceLT, true_implies, reduceCtorEq, false_implies, true_and, hl]
  refine hB ?_
  clear hA hB A B
  refine vw_skip ?_
  refine hK2 _ _ ?_
  refine vsk fun K4 hK4 => ?_
  refine vw_sc 0 [] ?_
  simp only [bs, dSure, ↓vopx, ↓vop, Nat.reduceBEq, thenV, Nat.reduceLT, dLoad, vpart, hl, h0, wocs, ↓goc, ↓woc, ↓vopm0, Tryd.ag3, Tryd.fd144_0, Tryd.sz3, hp]
  refine hK4 _ _ ?_
  refine vw_ret ?_
  refine hQ _ _ _ (.inr rfl) (Done.toS (done_tmp ?_ fun n b hn h => h))
  try simp only [ev_hit, lpv, hl, Nat.reduceLT]
set_option maxRecDepth 20000 in
theorem bitsThere_ (s : Sg) (p n : Nat) (v : V) (hp : s.m p = some (.box 144 [I n, v])) (i : Int) : DCall Tryd.prog 87 [.ptr p 0, I i] s (Bo (decide (0 ≤ i ∧ i < n))) (s) := by
  refine dcall_of_body Tryd.func87 rfl fun Q hQ => ?_
  obtain ⟨e, he, hl, h0, h1⟩ : ∃ e : Env, ([.ptr p 0, I i] ++ List.replicate (Tryd.f87.ntmps - ([.ptr p 0, I i] : List V).length) .junk) = e ∧ e.length = 13 ∧ ev e (.tmp 0) = .ptr p 0 ∧ ev e (.tmp 1) = I i := ⟨_, rfl, rfl, rfl, rfl⟩
  rw [he]
  clear he
  refine vsk fun K1 hK1 => ?_
  refine vw_sc 0 [] ?_
  simp only [bs, ↓vopx, ↓vop, thenV, flat, wocs, ↓goc, ↓woc, ↓vopm0]
  refine hK1 _ _ ?_
  refine vsk fun K2 hK2 => ?_
  rcases Decidable.em (0 ≤ i) with hi | hi
  · refine vw_sc 0 [.det (I n) s] ?_
    simp only [bs, ↓vopx, ↓vop, Nat.reduceBEq, thenV, flat, Nat.reduceLT, opII, gtmp, hl, h0, h1, wocs, ↓goc, ↓woc, ↓vopm0, ↓callC, ↓pick_tt, calleeV, hi]
    repeat ((with_reducible refine And.intro ?_ ?_); · exact ⟨Tryd.is91, bitsLen_ s p n v hp⟩)
    refine hK2 _ _ ?_
    refine vw_ret ?_
    refine hQ _ _ _ (.inr rfl) (Done.toS (done_tmp ?_ fun n b hn h => h))
    try simp only [ev_hit, lpv, hl, Nat.reduceLT]
    simp [hi]
  · refine vw_sc 0 [] ?_
    simp only [bs, ↓vopx, ↓vop, Nat.reduceBEq, thenV, flat, Nat.reduceLT, opII, gtmp, hl, h1, wocs, ↓goc, ↓woc, ↓vopm0, ↓pick_ft, hi]
    refine hK2 _ _ ?_
    refine vw_ret ?_
    refine hQ _ _ _ (.inr rfl) (Done.toS (done_tmp ?_ fun n b hn h => h))
    try simp only [ev_hit, lpv, hl, Nat.reduceLT]
    simp [hi]
set_option maxRecDepth 20000 in
theorem bitsHas_ (s : Sg) (p q n : Nat) (f : Nat → Bool) (h : RowR s p q n f) (i : Int) : DCall Tryd.prog 79 [.ptr p 0, I i] s (Bo (decide (0 ≤ i ∧ i < n) && f i.toNat)) (s) := by
  refine dcall_of_body Tryd.func79 rfl fun Q hQ => ?_
  obtain ⟨e, he, hl, h0, h1⟩ : ∃ e : Env, ([.ptr p 0, I i] ++ List.replicate (Tryd.f79.ntmps - ([.ptr p 0, I i] : List V).length) .junk) = e ∧ e.length = 23 ∧ ev e (.tmp 0) = .ptr p 0 ∧ ev e (.tmp 1) = I i := ⟨_, rfl, rfl, rfl, rfl⟩
  rw [he]
  clear he
  refine vsk fun K1 hK1 => ?_
  refine vw_sc 0 [] ?_
  simp only [bs, ↓vopx, ↓vop, thenV, flat, wocs, ↓goc, ↓woc, ↓vopm0]
  refine hK1 _ _ ?_
  refine vsk fun K2 hK2 => ?_
  rcases Decidable.em (0 ≤ i ∧ i < n) with hi | hi
  · have hq := h.hq
    obtain ⟨k, rfl⟩ : ∃ k : Nat, i = k := ⟨i.toNat, by omega⟩
    have hkn : k < n := by omega
    have hk64 : ((k : Int) / 64).toNat = k / 64 := by omega
    have hw := rowW_get (n := n) (f := f) (k := k / 64) (by unfold nW; omega)
    have hmod : ((k : Int) % 64) = ((k % 64 : Nat) : Int) := by omega
    have hkw : (k : Int) / 64 < (nW n : Nat) := by unfold nW; omega
    have hle := h.le
    refine vw_sc 0 [.det (Bo (decide (0 ≤ (k : Int) ∧ (k : Int) < n))) s, .far (.int .u64 ((rowWord n f (k / 64) >>> (k % 64) : Nat) : Int)), .far (.int .u64 ((((rowWord n f (k / 64)) >>> (k % 64)) &&& 1 : Nat) : Int)), .far (.bool ((((rowWord n f (k / 64) >>> (k % 64)) &&& 1 : Nat) : Int) == 1))] ?_
    simp only [bs, dSure, ↓vopx, ↓vop, Nat.reduceBEq, thenV, flat, Nat.reduceLT, dLoad, vpart, gtmp, hl, h0, h1, wocs, ↓goc, ↓woc, ↓vopm0, ↓callC, ↓pick_tt, calleeV, ↓farC, Tryd.ag123, Tryd.ag142, Tryd.fd144_1, Tryd.sz123, Tryd.sz142, Tryd.un142, h.hp, hi, hq, hk64, hw, hmod]
    repeat ((with_reducible refine And.intro ?_ ?_); · first | (with_reducible assumption) | omega | exact ⟨Tryd.is87, by simpa only [hi, and_self, decide_true] using bitsThere_ s p n _ h.hp k⟩ | exact far_shr _ _ _ _ _ _ (by omega) | exact far_and1 _ _ _ _ _ (by have := rowWord_lt n f (k / 64); rw [Nat.shiftRight_eq_div_pow]; exact Nat.lt_of_le_of_lt (Nat.div_le_self _ _) this) | exact far_ueq _ _ _ _ _ _)
    refine hK2 _ _ ?_
    refine vw_ret ?_
    refine hQ _ _ _ (.inr rfl) (Done.toS (done_tmp ?_ fun n b hn h => h))
    try simp only [ev_hit, lpv, hl, Nat.reduceLT]
    first | (rw [bit_one, rowWord_bit hkn]; simp [hi]) | simp [hi]
  · refine vw_sc 0 [.det (Bo (decide (0 ≤ i ∧ i < n))) s] ?_
    simp only [bs, ↓vopx, ↓vop, Nat.reduceBEq, thenV, flat, Nat.reduceLT, gtmp, hl, h0, h1, wocs, ↓goc, ↓woc, ↓vopm0, ↓callC, ↓pick_ft, calleeV, hi]
    repeat ((with_reducible refine And.intro ?_ ?_); · exact ⟨Tryd.is87, by simpa only [hi, decide_false] using bitsThere_ s p n _ h.hp i⟩)
    refine hK2 _ _ ?_
    refine vw_ret ?_
    refine hQ _ _ _ (.inr rfl) (Done.toS (done_tmp ?_ fun n b hn h => h))
    try simp only [ev_hit, lpv, hl, Nat.reduceLT]
    first | (rw [bit_one, rowWord_bit hkn]; simp [hi]) | simp [hi]
end Go.Proofs

open Go Go.V
namespace Go.Proofs
theorem dones_set {s : Sg} {q k : Nat} {el : TypeId} {cs : List T} {e' : Env} (hq : q < s.next) : DoneS Tryd.prog s [] (.tup []) (s.set q (.arr k el cs)) e' (s.set q (.arr k el cs)) := by
  refine dones_none rfl (fun n b hb => ?_) fun n b hn hb => ⟨hb, ?_⟩
  · simp only [Sg.set] at hb
    split at hb
    · rename_i h; subst h; exact .inl hq
    · exact .inr hb
  · simp only [Sg.set] at hb
    split at hb
    · cases hb; exact .inr trivial
    · exact .inl hb
theorem rowW_false' (n : Nat) : repl [T.v (Value.int .u64 0)] (nW n) = rowW n (fun _ => false) := rowW_false n
def NewRow (s : Sg) (n : Nat) : Sg := (s.add (.arr 1 123 (rowW n fun _ => false))).add (.box 144 [I n, .loc s.next 0 (nW n)])
set_option maxRecDepth 20000 in
theorem bitsNew_ (s : Sg) (n : Nat) (hn : n ≤ 1000) : VCall Tryd.prog 74 [I n] s (fun v s' => v = .ptr (s.next + 1) 0 ∧ s' = NewRow s n) := by
  refine kcall_of_body Tryd.func74 rfl fun Q hQ => ?_
  obtain ⟨e, he, hl, h0⟩ : ∃ e : Env, ([I n] ++ List.replicate (Tryd.f74.ntmps - ([I n] : List V).length) .junk) = e ∧ e.length = 14 ∧ ev e (.tmp 0) = I n := ⟨_, rfl, rfl, rfl⟩
  rw [he]
  clear he
  have hmx : max (n : Int) 0 = n := by omega
  have hmn : min (n : Int) 1000 = n := by omega
  have hnw : (((n : Int) + 64 - 1) / 64).toNat = nW n := by unfold nW; omega
  refine vsk fun K1 hK1 => ?_
  refine vw_sc 0 [] ?_
  simp only [bs, ↓vopx, ↓vop, thenV, flat, wocs, ↓goc, ↓woc, ↓vopm0]
  refine hK1 _ _ ?_
  refine vsk fun K2 hK2 => ?_
  refine vw_sc 0 [] ?_
  simp only [bs, ↓vopx, ↓vop, Nat.reduceBEq, thenV, flat, Nat.reduceLT, hl, h0, wocs, ↓goc, ↓woc, ↓vopm0, hmx, hmn]
  refine hK2 _ _ ?_
  refine vsk fun K3 hK3 => ?_
  refine vw_sc 0 [] ?_
  simp only [bs, Nat.reduceLeDiff, Nat.reduceAdd, vparts, gfill, ↓vopx, ↓vop, Nat.reduceBEq, thenV, flat, Nat.reduceLT, V.cells, opII, hl, wocs, ↓goc, ↓woc, ↓vopm0, Tryd.sl142, Tryd.st144, hnw, rowW_false']
  repeat ((with_reducible refine And.intro ?_ ?_); · first | omega | exact ⟨by omega, by omega⟩)
  refine hK3 _ _ ?_
  refine vw_ret ?_
  refine hQ _ _ _ (.inr rfl) (donek_tmp (v := .ptr (s.next + 1) 0) ?_ rfl ⟨rfl, rfl⟩)
  try simp only [ev_hit, lpv, hl, Nat.reduceLT]
set_option maxRecDepth 20000 in
theorem bitsPut_ (s : Sg) (p q n : Nat) (f : Nat → Bool) (h : RowR s p q n f) (hq : q < s.next) (k : Nat) (hk : k < n) : DCall Tryd.prog 76 [.ptr p 0, I k, Bo true] s (.tup []) (s.set q (.arr 1 123 (rowW n (updB f k true)))) := by
  refine dcall_of_body Tryd.func76 rfl fun Q hQ => ?_
  obtain ⟨e, he, hl, h0, h1, h2⟩ : ∃ e : Env, ([.ptr p 0, I k, Bo true] ++ List.replicate (Tryd.f76.ntmps - ([.ptr p 0, I k, Bo true] : List V).length) .junk) = e ∧ e.length = 39 ∧ ev e (.tmp 0) = .ptr p 0 ∧ ev e (.tmp 1) = I k ∧ ev e (.tmp 2) = Bo true := ⟨_, rfl, rfl, rfl, rfl, rfl⟩
  rw [he]
  clear he
  refine vw_block ?_
  refine vsk fun K1 hK1 => ?_
  have hkr : 0 ≤ (k : Int) ∧ (k : Int) < n := by omega
  refine vw_sc 0 [.det (Bo (decide (0 ≤ (k : Int) ∧ (k : Int) < n))) s] ?_
  simp only [bs, ↓vopx, ↓vop, Nat.reduceBEq, thenV, Nat.reduceLT, hl, h0, h1, wocs, ↓goc, ↓woc, ↓vopm0, ↓callC, calleeV, hkr]
  repeat ((with_reducible refine And.intro ?_ ?_); · exact ⟨Tryd.is87, by simpa only [hkr, and_self, decide_true] using bitsThere_ s p n _ h.hp k⟩)
  refine hK1 _ _ ?_
  refine vck fun A B hA hB => ?_
  simp only [condV, ev_hit, lpv, Nat.reduceLT, true_implies, reduceCtorEq, false_implies, true_and, hl]
  refine hB ?_
  clear hA hB A B
  refine vsk fun K2 hK2 => ?_
  refine vw_sc 0 [] ?_
  simp only [bs, ↓vopx, ↓vop, Nat.reduceBEq, thenV, Nat.reduceLT, hl, h2, wocs, ↓goc, ↓woc, ↓vopm0]
  refine hK2 _ _ ?_
  refine vck fun A B hA hB => ?_
  simp only [condV, ev_hit, lpv, Nat.reduceLT, true_implies, reduceCtorEq, false_implies, and_true, hl]
  refine hA ?_
  clear hA hB A B
  have hqq := h.hq
  have hle := h.le
  have hk64 : ((k : Int) / 64).toNat = k / 64 := by omega
  have hw := rowW_get (n := n) (f := f) (k := k / 64) (by unfold nW; omega)
  have hmod : ((k : Int) % 64) = ((k % 64 : Nat) : Int) := by omega
  have hkw : (k : Int) / 64 < (nW n : Nat) := by unfold nW; omega
  have hkw2 : k / 64 < nW n := by unfold nW; omega
  refine vw_chain Tryd.mixed 11 [0, 0, 0, 1, 0, 0, 1, 1, 0, 0, 0] [.far (.int .u64 ((2 ^ (k % 64) : Nat) : Int)), .far (.int .u64 ((rowWord n f (k / 64) ||| 2 ^ (k % 64) : Nat) : Int))] [] 0 (by decide +kernel) (by simp [lpv, hl]) rfl ?_
  simp only [bs, dSure, ↓vopx, ↓vop, Nat.reduceBEq, blockV, flat, Nat.reduceLT, V.cells, dLoad, vpart, opII, opSS, Sg.frzL, Sg.frz1, hl, h0, h1, wocs, ↓goc, ↓woc, ↓vopm0, ↓vopm1, ↓farC, chn, ↓goq, ↓woq, List.zip_cons_cons, List.zip_nil_right, Tryd.ag123, Tryd.ag142, Tryd.fd144_1, Tryd.sz123, Tryd.sz142, Tryd.un142, h.hp, hqq, hk64, hw, hmod, rowW_length]
  repeat ((with_reducible refine And.intro ?_ ?_); · first | (with_reducible assumption) | omega | exact far_shl _ _ _ _ _ (by omega) | exact far_or _ _ _ _ _ _ (rowWord_lt _ _ _) (Nat.pow_lt_pow_right (by omega) (show k % 64 < 64 by omega)))
  rw [rowW_put hk]
  exact hQ _ _ _ (.inl rfl) (dones_set hq)
end Go.Proofs

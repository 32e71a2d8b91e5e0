/- Lemmas on the way to the statement of this claim; no conditions. -/
import Derived.Shelf.Small.Strs
import Derived.Test.YtjidblndipcofaaDoorA48
open Go Go.V
namespace Go.Proofs
open Go.Shelf
def Tryd.lays137_ren : Go.Shelf.Ren := ⟨fun | 137 => 33 | 217 => 45 | 266 => 61 | n => n, fun | 9 => 9 | 5 => 5 | 3 => 3 | n => n, fun | n => n⟩
theorem Tryd.lays137 : Go.Proofs.Lays.n137 Tryd.prog Tryd.lays137_ren := {
  mixed := by kernel_rfl
  f137 := Tryd.func33.trans (congrArg some (by kernel_rfl))
  f217 := Tryd.func45.trans (congrArg some (by kernel_rfl))
  f266 := Tryd.func61.trans (congrArg some (by kernel_rfl))
  t3 := Tryd.underlying3
  a3 := Tryd.isAgg3
  z3 := Tryd.sizeOf3
  v3 := Tryd.zeroValue3
  t5 := Tryd.underlying5
  a5 := Tryd.isAgg5
  z5 := Tryd.sizeOf5
  v5 := Tryd.zeroValue5
  t9 := Tryd.underlying9
  a9 := Tryd.isAgg9
  z9 := Tryd.sizeOf9
  v9 := Tryd.zeroValue9 }
theorem index_ (b : ByteArray) (c : Int) : PCall Tryd.prog 33 [Str b, U8 c] (I (Lib.indexByte b.data.toList c.toNat.toUInt8)) := by
  intro s B ρ w vs hs hB ha
  match vs, ha with
  | [y, y1], ⟨g1, g2, _⟩ =>
  have g1 := repV (w := w) (A := Fr s ρ) g1
  have g2 := repV (w := w) (A := Fr s ρ) g2
  subst g1 g2
  refine callsIn_wide.2 ?_
  refine (Any.strings_IndexByte Tryd.lays137 b c w).mono fun e w' he => ?_
  obtain ⟨rfl, rfl⟩ := he
  exact ⟨_, _, s, ρ, rfl, ⟨rfl, rfl⟩, hs, vr_flat rfl, Stp.refl _ _ _⟩
theorem index_no {l : List UInt8} {c : UInt8} (h : c ∉ l) : Lib.indexByte l c = -1 := by
  induction l with
  | nil => rfl
  | cons a l ih =>
    unfold Lib.indexByte
    rw [ih (fun hh => h (List.mem_cons_of_mem _ hh))]
    have : ¬ a = c := fun e => h (by rw [e]; exact List.mem_cons_self ..)
    simp [this]
def OneL (b : ByteArray) : Prop := (10 : UInt8) ∉ b.data.toList ∧ b.size ≤ 60
theorem index1_ {b : ByteArray} (h : OneL b) : PCall Tryd.prog 33 [Str b, U8 10] (I (-1)) := by
  have := index_ b 10
  rwa [show ((10 : Int).toNat.toUInt8 : UInt8) = 10 from rfl, index_no h.1] at this
def LR (cb : Nat) (R : Sg → Prop) (v : V) (s' : Sg) : Prop := ∃ r, v = Bo r ∧ R s' ∧ s'.m cb = some (.box 9 [Str ⟨#[]⟩])
set_option maxRecDepth 20000 in
theorem sLines_ (s : Sg) (b : ByteArray) : VCall Tryd.prog 21 [Str b] s (fun v s' => v = .clo 32 [.ptr s.next 0] ∧ s' = s.add (.box 9 [Str b])) := by
  refine kcall_of_body Tryd.func21 rfl fun Q hQ => ?_
  obtain ⟨e, he, hl, h0⟩ : ∃ e : Env, ([Str b] ++ List.replicate (Tryd.f21.ntmps - ([Str b] : List V).length) .junk) = e ∧ e.length = 4 ∧ ev e (.tmp 0) = Str b := ⟨_, rfl, rfl, rfl⟩
  rw [he]
  clear he
  refine vsk fun K1 hK1 => ?_
  refine vw_sc 0 [] ?_
  simp only [bs, ↓vopx, ↓vop, thenV, flat, V.cells, h0, wocs, ↓goc, ↓woc, ↓vopm0]
  repeat ((with_reducible refine And.intro ?_ ?_); · first | (with_reducible assumption) | omega | exact ⟨by omega, by omega⟩ | with_reducible rfl | (repeat' first | exact Keep.refl _ | refine Keep.add ?_ ?_ _ | refine Keep.set ?_ ?_ _ | exact Nat.le_refl _ | (simp only [Sg.add, Sg.set, Sg.del]; omega)))
  refine hK1 _ _ ?_
  refine vsk fun K2 hK2 => ?_
  refine vw_sc 0 [] ?_
  simp only [bs, ↓vopx, ↓vop, Nat.reduceBEq, thenV, Nat.reduceLT, hl, wocs, ↓goc, ↓woc, ↓vopm0, capOk, List.all_cons, List.all_nil, Bool.and_self]
  repeat ((with_reducible refine And.intro ?_ ?_); · first | (with_reducible assumption) | omega | exact ⟨by omega, by omega⟩ | with_reducible rfl | (repeat' first | exact Keep.refl _ | refine Keep.add ?_ ?_ _ | refine Keep.set ?_ ?_ _ | exact Nat.le_refl _ | (simp only [Sg.add, Sg.set, Sg.del]; omega)))
  refine hK2 _ _ ?_
  refine vw_ret ?_
  refine hQ _ _ _ (.inr rfl) (donek_tmp (v := .clo 32 [.ptr s.next 0]) ?_ rfl ⟨rfl, rfl⟩)
  try simp only [ev_hit, lpv, hl, Nat.reduceLT]
set_option maxRecDepth 20000 in
set_option maxHeartbeats 1000000 in
theorem sLines1_ (n0 cb : Nat) (b : ByteArray) (hb1 : OneL b) (s : Sg) (hcb : s.m cb = some (.box 9 [Str b])) (R : Sg → Prop) (hz0 : b.size = 0 → R s) (hY : b.size ≠ 0 → YCall Tryd.prog n0 [Str b] (s.set cb (.box 9 [Str ⟨#[]⟩])) (LR cb R)) : VCall Tryd.prog 32 [.yl n0, .ptr cb 0] s (fun _ s' => R s') := by
  refine kcall_of_body Tryd.func32 rfl fun Q hQ => ?_
  obtain ⟨e, he, hl, h0, h1⟩ : ∃ e : Env, ([.yl n0, .ptr cb 0] ++ List.replicate (Tryd.f32.ntmps - ([.yl n0, .ptr cb 0] : List V).length) .junk) = e ∧ e.length = 25 ∧ ev e (.tmp 0) = .yl n0 ∧ ev e (.tmp 1) = .ptr cb 0 := ⟨_, rfl, rfl, rfl, rfl⟩
  rw [he]
  clear he
  have hge : decide ((-1 : Int) ≥ 0) = false := rfl
  have hs0 : (⟨#[]⟩ : ByteArray).size = 0 := rfl
  refine vw_block ?_
  refine vw_loop (fun mm e' s' => ∃ i : Nat, mm = 1 - i ∧ i ≤ 1 ∧ e'.length = 25 ∧ ev e' (.tmp 0) = .yl n0 ∧ ev e' (.tmp 1) = .ptr cb 0 ∧ ((i = 0 ∧ s' = s ∧ b.size ≠ 0) ∨ (∃ d : ByteArray, s'.m cb = some (.box 9 [Str d]) ∧ d.size = 0 ∧ R s'))) (⟨0, rfl, Nat.zero_le _, ?_⟩) ?_
  · refine ⟨hl, h0, h1, ?_⟩
    rcases (show b.size = 0 ∨ b.size ≠ 0 by omega) with hz | hz
    · exact .inr ⟨b, hcb, hz, hz0 hz⟩
    · exact .inl ⟨rfl, rfl, hz⟩
  rintro mm e s1 ⟨i, rfl, hi, hl, h0, h1, hJ⟩
  refine vsk fun K1 hK1 => ?_
  refine vsk fun K2 hK2 => ?_
  rcases hJ with ⟨rfl, rfl, hz⟩ | ⟨d, hd, hdz, hR⟩
  · have hgt : decide ((b.size : Int) > 0) = true := by simp; omega
    refine vw_sc 0 [] ?_
    simp only [bs, ↓vopx, ↓vop, thenV, flat, Nat.reduceLT, dLoad, vpart, opII, hl, h1, wocs, ↓goc, ↓woc, ↓vopm0, Tryd.ag9, Tryd.sz9, hcb, hgt]
    repeat ((with_reducible refine And.intro ?_ ?_); · first | (with_reducible assumption) | omega | exact ⟨by omega, by omega⟩ | with_reducible rfl | (repeat' first | exact Keep.refl _ | refine Keep.add ?_ ?_ _ | refine Keep.set ?_ ?_ _ | exact Nat.le_refl _ | (simp only [Sg.add, Sg.set, Sg.del]; omega)))
    refine hK2 _ _ ?_
    refine vck fun A B hA hB => ?_
    simp only [condV, ev_hit, lpv, Nat.reduceLT, true_implies, reduceCtorEq, false_implies, and_true, hl]
    refine hA ?_
    clear hA hB A B
    refine vw_skip ?_
    refine hK1 _ _ ?_
    refine vw_block ?_
    refine vsk fun K3 hK3 => ?_
    refine vw_sc 0 [] ?_
    simp only [bs, ↓vopx, ↓vop, thenV, flat, wocs, ↓goc, ↓woc, ↓vopm0]
    repeat ((with_reducible refine And.intro ?_ ?_); · first | (with_reducible assumption) | omega | exact ⟨by omega, by omega⟩ | with_reducible rfl | (repeat' first | exact Keep.refl _ | refine Keep.add ?_ ?_ _ | refine Keep.set ?_ ?_ _ | exact Nat.le_refl _ | (simp only [Sg.add, Sg.set, Sg.del]; omega)))
    refine hK3 _ _ ?_
    refine vsk fun K4 hK4 => ?_
    refine vsk fun K5 hK5 => ?_
    refine vw_sc 0 [.pur (I (-1))] ?_
    simp only [bs, ↓vopx, ↓vop, Nat.reduceBEq, thenV, flat, Nat.reduceLT, dLoad, vpart, hl, h1, wocs, ↓goc, ↓woc, ↓vopm0, ↓callC, calleeV, Tryd.ag9, Tryd.sz9, hcb]
    repeat ((with_reducible refine And.intro ?_ ?_); · first | (with_reducible assumption) | omega | exact ⟨by omega, by omega⟩ | exact ⟨Tryd.is33, index1_ hb1⟩ | with_reducible rfl | (repeat' first | exact Keep.refl _ | refine Keep.add ?_ ?_ _ | refine Keep.set ?_ ?_ _ | exact Nat.le_refl _ | (simp only [Sg.add, Sg.set, Sg.del]; omega)))
    refine hK5 _ _ ?_
    refine vsk fun K6 hK6 => ?_
    refine vw_sc 0 [] ?_
    simp only [bs, ↓vopx, ↓vop, thenV, flat, Nat.reduceLT, opII, hl, wocs, ↓goc, ↓woc, ↓vopm0, hge]
    repeat ((with_reducible refine And.intro ?_ ?_); · first | (with_reducible assumption) | omega | exact ⟨by omega, by omega⟩ | with_reducible rfl | (repeat' first | exact Keep.refl _ | refine Keep.add ?_ ?_ _ | refine Keep.set ?_ ?_ _ | exact Nat.le_refl _ | (simp only [Sg.add, Sg.set, Sg.del]; omega)))
    refine hK6 _ _ ?_
    refine vck fun A B hA hB => ?_
    simp only [condV, ev_hit, lpv, Nat.reduceLT, true_implies, reduceCtorEq, false_implies, true_and, hl]
    refine hB ?_
    clear hA hB A B
    refine vw_sc 0 [] ?_
    simp only [bs, ↓vopx, ↓vop, Nat.reduceBEq, thenV, flat, Nat.reduceLT, V.cells, dLoad, vpart, hl, h1, wocs, ↓goc, ↓woc, ↓vopm0, Tryd.ag9, Tryd.sz9, hcb]
    repeat ((with_reducible refine And.intro ?_ ?_); · first | (with_reducible assumption) | omega | exact ⟨by omega, by omega⟩ | with_reducible rfl | (repeat' first | exact Keep.refl _ | refine Keep.add ?_ ?_ _ | refine Keep.set ?_ ?_ _ | exact Nat.le_refl _ | (simp only [Sg.add, Sg.set, Sg.del]; omega)))
    refine hK4 _ _ ?_
    refine vsk fun K7 hK7 => ?_
    refine vw_sc 0 [.stop] ?_
    simp only [dstIs, bs, ↓vopx, ↓vop, Nat.reduceBEq, thenV, Nat.reduceLT, hl, h0, wocs, ↓goc, ↓woc, ↓vopm0, calleeV, ↓yieldC]
    refine YCall.mono (hY hz) fun v s3 hv => ?_
    obtain ⟨r, rfl, hR, hb3⟩ := hv
    try simp only [bs, Nat.reduceBEq, Nat.reduceLT, hl, h0, Hold]
    refine hK7 _ _ ?_
    refine vck fun A B hA hB => ?_
    simp only [condV, ev_hit, lpv, Nat.reduceLT, Bool.not_eq_true', Bool.not_eq_false', hl]
    refine ⟨fun hc24 => hA ?_, fun hc24 => hB ?_⟩
    · clear hA hB A B
      refine vw_ret ?_
      first | exact hQ _ _ _ (.inr rfl) ⟨[], rfl, rfl, hR⟩ | exact hQ _ _ _ (.inl rfl) ⟨[], rfl, rfl, hR⟩
    · clear hA hB A B
      refine vw_skip ?_
      refine ⟨1 - 1, by omega, 1, rfl, by omega, ?_⟩
      try simp only [ev_miss, Nat.reduceBEq, lpv, hl, h0, h1, Nat.reduceEqDiff, true_and]
      exact .inr ⟨_, hb3, rfl, hR⟩
  · have hgt : decide ((d.size : Int) > 0) = false := by simp [hdz]
    refine vw_sc 0 [] ?_
    simp only [bs, ↓vopx, ↓vop, thenV, flat, Nat.reduceLT, dLoad, vpart, opII, hl, h1, wocs, ↓goc, ↓woc, ↓vopm0, Tryd.ag9, Tryd.sz9, hgt, hd]
    repeat ((with_reducible refine And.intro ?_ ?_); · first | (with_reducible assumption) | omega | exact ⟨by omega, by omega⟩ | with_reducible rfl | (repeat' first | exact Keep.refl _ | refine Keep.add ?_ ?_ _ | refine Keep.set ?_ ?_ _ | exact Nat.le_refl _ | (simp only [Sg.add, Sg.set, Sg.del]; omega)))
    refine hK2 _ _ ?_
    refine vck fun A B hA hB => ?_
    simp only [condV, ev_hit, lpv, Nat.reduceLT, true_implies, reduceCtorEq, false_implies, true_and, hl]
    refine hB ?_
    clear hA hB A B
    refine vw_exit ?_
    simp only [thenV, blockV, if_true]
    first | exact hQ _ _ _ (.inr rfl) ⟨[], rfl, rfl, hR⟩ | exact hQ _ _ _ (.inl rfl) ⟨[], rfl, rfl, hR⟩
set_option maxRecDepth 20000 in
set_option maxHeartbeats 1000000 in
theorem fits1_ (b : ByteArray) (hb1 : OneL b) : PCall Tryd.prog 14 [Str b] (Bo true) := by
  refine pcall_of_body Tryd.func14 rfl fun s Q hQ => ?_
  obtain ⟨e, he, hl, h0⟩ : ∃ e : Env, ([Str b] ++ List.replicate (Tryd.f14.ntmps - ([Str b] : List V).length) .junk) = e ∧ e.length = 17 ∧ ev e (.tmp 0) = Str b := ⟨_, rfl, rfl, rfl⟩
  rw [he]
  clear he
  refine vsk fun K1 hK1 => ?_
  refine vw_sc 0 [] ?_
  simp only [bs, ↓vopx, ↓vop, thenV, wocs, ↓goc, ↓woc, ↓vopm0, Tryd.zv4]
  repeat ((with_reducible refine And.intro ?_ ?_); · first | (with_reducible assumption) | omega | exact ⟨by omega, by omega⟩ | with_reducible rfl | (repeat' first | exact Keep.refl _ | refine Keep.add ?_ ?_ _ | refine Keep.set ?_ ?_ _ | exact Nat.le_refl _ | (simp only [Sg.add, Sg.set, Sg.del]; omega)))
  refine hK1 _ _ ?_
  refine vsk fun K2 hK2 => ?_
  refine vw_sc 0 [] ?_
  simp only [bs, ↓vopx, ↓vop, thenV, flat, Nat.reduceLT, V.cells, hl, wocs, ↓goc, ↓woc, ↓vopm0, Tryd.sz3, Tryd.zv3]
  repeat ((with_reducible refine And.intro ?_ ?_); · first | (with_reducible assumption) | omega | exact ⟨by omega, by omega⟩ | with_reducible rfl | (repeat' first | exact Keep.refl _ | refine Keep.add ?_ ?_ _ | refine Keep.set ?_ ?_ _ | exact Nat.le_refl _ | (simp only [Sg.add, Sg.set, Sg.del]; omega)))
  refine hK2 _ _ ?_
  refine vsk fun K3 hK3 => ?_
  refine vsk fun K4 hK4 => ?_
  refine vw_sc 0 [.stop] ?_
  simp only [bs, ↓vopx, ↓vop, Nat.reduceBEq, thenV, Nat.reduceLT, hl, h0, wocs, ↓goc, ↓woc, ↓vopm0, ↓callC, calleeV]
  refine ⟨Tryd.is21, (sLines_ _ b).mono fun v s3_ hv => ?_⟩
  obtain ⟨rfl, rfl⟩ := hv
  try simp only [bs, Nat.reduceBEq, h0, Hold]
  refine hK4 _ _ ?_
  refine vw_block ?_
  refine vw_env2 fun e1 s3 hE hS => ?_
  have hlE : e1.length = 17 := by rw [hE]; simp only [lpv, hl]
  have h2E : ev e1 (.tmp 2) = .ptr s.next 0 := by rw [hE]; simp only [ev_hit, ev_miss, Nat.reduceBEq, hl, Nat.reduceLT]
  have h3E : ev e1 (.tmp 3) = .ptr (s.next + 1) 0 := by rw [hE]; simp only [ev_hit, ev_miss, Nat.reduceBEq, lpv, hl, Nat.reduceLT]
  have h6E : ev e1 (.tmp 6) = .clo 32 [.ptr (s.next + 1 + 1) 0] := by rw [hE]; simp only [ev_hit, lpv, hl, Nat.reduceLT]
  clear hE
  have n3 : s3.next = s.next + 3 := by rw [hS]; rfl
  have b0 : s3.m s.next = some (.box 4 [Bo false]) := by rw [hS]; simp [Sg.add, Sg.set] <;> omega
  have b1 : s3.m (s.next + 1) = some (.box 3 [I 0]) := by rw [hS]; simp [Sg.add, Sg.set] <;> omega
  have b2 : s3.m (s.next + 1 + 1) = some (.box 9 [Str b]) := by rw [hS]; simp [Sg.add, Sg.set]
  have hk3 : Keep s s3 := by rw [hS]; intro n b hn h; simp [Sg.add, Sg.set, show n ≠ s.next by omega, show n ≠ s.next + 1 by omega, show n ≠ s.next + 1 + 1 by omega, h]
  clear hS
  refine vw_range (g := 32) (caps := [.ptr (s.next + 1 + 1) 0]) h6E Tryd.func32 rfl (by decide) fun s4 h4e h4n h4m h4l => ?_
  obtain ⟨lp0, hlp0⟩ : ∃ lp0, s4.m s3.next = some lp0 := ⟨_, h4l⟩
  refine (sLines1_ s3.next (s.next + 1 + 1) b hb1 s4 (by rw [h4m _ (by omega)]; exact b2) (fun s6 => s6.m s3.next = some lp0 ∧ s6.m s.next = some (.box 4 [Bo false]) ∧ Keep s s6) (fun _ => ⟨hlp0, by rw [h4m _ (by omega)]; exact b0, fun n b hn h => by rw [h4m _ (by omega)]; exact hk3 n b hn h⟩) (fun hz => ?_)).mono fun v s6 h6 => ?_
  rotate_left
  · obtain ⟨h6l, h6b, h6k⟩ := h6
    refine ⟨none, .ready, h6l.trans (hlp0.symm.trans h4l), by simp, ?_⟩
    simp only []
    refine hK3 _ _ ?_
    refine vsk fun K5 hK5 => ?_
    have nn2 : ¬ s.next = s3.next := by omega
    refine vw_sc 0 [] ?_
    simp only [bs, ↓vopx, ↓vop, thenV, flat, V.cells, h2E, wocs, ↓goc, ↓woc, ↓vopm0, Tryd.sz4, h6b, nn2]
    repeat ((with_reducible refine And.intro ?_ ?_); · first | (with_reducible assumption) | omega | exact ⟨by omega, by omega⟩ | with_reducible rfl | (repeat' first | exact Keep.refl _ | refine Keep.add ?_ ?_ _ | refine Keep.set ?_ ?_ _ | exact Nat.le_refl _ | (simp only [Sg.add, Sg.set, Sg.del]; omega)))
    refine hK5 _ _ ?_
    refine vw_ret ?_
    refine hQ _ _ _ (.inr rfl) ?_
    refine done_flat (vs := [Bo true]) ?_ rfl (by simp [pack, nm, nm2, nm1, nm0]) (fun n b hn h => by rw [m_set, if_neg (by omega), m_del, if_neg (by omega)]; exact h6k n b hn h)
    show vres Tryd.prog _ _ [.cell 2 4] = _
    simp only [vres_cell, vres_nil, h2E, Tryd.sz4, Tryd.ag4, dLoad, m_set, vpart, if_true]
    rfl
  have nn1 : ¬ s3.next = s.next + 1 + 1 := by omega
  refine ycall_of (by simp only [Sg.set, nn1, if_false]; exact h4l) rfl fun KA hKA => ?_
  rw [show (#[7] : Array Tmp).toList = [7] from rfl, setps_one]
  refine vw_sc 0 [] ?_
  simp only [bs, ↓vopx, ↓vop, thenV, Nat.reduceLT, hlE, wocs, ↓goc, ↓woc, ↓vopm0]
  repeat ((with_reducible refine And.intro ?_ ?_); · first | (with_reducible assumption) | omega | exact ⟨by omega, by omega⟩ | with_reducible rfl | (repeat' first | exact Keep.refl _ | refine Keep.add ?_ ?_ _ | refine Keep.set ?_ ?_ _ | exact Nat.le_refl _ | (simp only [Sg.add, Sg.set, Sg.del]; omega)))
  refine hKA _ _ (by simp only [Sg.set, nn1, if_false]; exact h4l) ?_
  refine vw_env2 fun e2 sc hE2 hSc => ?_
  subst hE2
  have hbs : sc.m (s.next + 1) = some (.box 3 [I 0]) := by rw [hSc]; simp only [Sg.set]; rw [if_neg (by omega), if_neg (by omega), h4m _ (by omega)]; exact b1
  have hb0 : sc.m s.next = some (.box 4 [Bo false]) := by rw [hSc]; simp only [Sg.set]; rw [if_neg (by omega), if_neg (by omega), h4m _ (by omega)]; exact b0
  refine vw_block ?_
  refine vsk fun K6 hK6 => ?_
  refine vw_sc 0 [] ?_
  simp only [bs, ↓vopx, ↓vop, Nat.reduceBEq, thenV, flat, Nat.reduceLT, V.cells, dLoad, vpart, opII, hlE, h3E, wocs, ↓goc, ↓woc, ↓vopm0, Tryd.ag3, Tryd.sz3, hbs]
  repeat ((with_reducible refine And.intro ?_ ?_); · first | (with_reducible assumption) | omega | exact ⟨by omega, by omega⟩ | with_reducible rfl | (repeat' first | exact Keep.refl _ | refine Keep.add ?_ ?_ _ | refine Keep.set ?_ ?_ _ | exact Nat.le_refl _ | (simp only [Sg.add, Sg.set, Sg.del]; omega)))
  refine hK6 _ _ ?_
  refine vsk fun K7 hK7 => ?_
  have hg1 : decide ((0 : Int) + 1 > 40) = false := rfl
  have hg2 : decide ((b.size : Int) > 60) = false := by have := hb1.2; simp; omega
  refine vw_sc 0 [] ?_
  simp only [bs, ↓vopx, ↓vop, Nat.reduceBEq, thenV, flat, Nat.reduceLT, dLoad, vpart, opII, gtmp, hlE, h3E, wocs, ↓goc, ↓woc, ↓vopm0, ↓pick_ff, Tryd.ag3, Tryd.sz3, Tryd.underlying9, hg1, hg2]
  repeat ((with_reducible refine And.intro ?_ ?_); · first | (with_reducible assumption) | omega | exact ⟨by omega, by omega⟩ | with_reducible rfl | (repeat' first | exact Keep.refl _ | refine Keep.add ?_ ?_ _ | refine Keep.set ?_ ?_ _ | exact Nat.le_refl _ | (simp only [Sg.add, Sg.set, Sg.del]; omega)))
  refine hK7 _ _ ?_
  refine vck fun A B hA hB => ?_
  simp only [condV, ev_hit, lpv, Nat.reduceLT, true_implies, reduceCtorEq, false_implies, true_and, hlE]
  refine hB ?_
  clear hA hB A B
  refine vw_skip ?_
  show _ ∧ _
  refine And.intro (by simp only [Sg.set]; rw [if_neg (by omega), hSc]; exact if_pos rfl) ⟨true, rfl, ⟨?_, ?_, ?_⟩, ?_⟩
  · rw [Option.some.inj (hlp0.symm.trans h4l)]; simp [Sg.set]
  · simp only [Sg.set]; rw [if_neg (by omega), if_neg (by omega)]; exact hb0
  · intro n b hn h; simp only [Sg.set]; rw [if_neg (by omega), if_neg (by omega), hSc]; simp only [Sg.set]; rw [if_neg (by omega), if_neg (by omega), h4m _ (by omega)]; exact hk3 n b hn h
  · simp only [Sg.set]; rw [if_neg (by omega), if_neg (by omega), hSc]; simp only [Sg.set]; rw [if_neg (by omega)]; simp
end Go.Proofs

open Go Go.V
namespace Go.Proofs
theorem Tryd.sz49 : szOf Tryd.prog 49 = some 1 := by kernel_rfl
theorem Tryd.ag49 : V.isAgg Tryd.prog 49 = some false := by kernel_rfl
abbrev Txt := ByteArray × ByteArray
def mpE (L : List Txt) : List (Value × V) := L.map fun p => (.string p.1, Str p.2)
def tix (k : ByteArray) : List Txt → Option Nat
  | [] => none
  | p :: l => if keq (.string k) (.string p.1) = true then some 0 else (tix k l).map (· + 1)
def tget (k : ByteArray) (L : List Txt) : Option ByteArray := match tix k L with
  | some i => (L[i]?).map (·.2)
  | none => none
def tput (k v : ByteArray) (L : List Txt) : List Txt := match tix k L with
  | some i => L.set i (k, v)
  | none => L ++ [(k, v)]
def tdel (k : ByteArray) (L : List Txt) : List Txt := match tix k L with
  | some i => L.eraseIdx i
  | none => L
theorem mix_mpE (k : ByteArray) : ∀ L : List Txt, mix (.string k) (mpE L) = tix k L
  | [] => rfl
  | p :: l => by
    have ih := mix_mpE k l
    simp only [mpE, List.map_cons, mix, tix]
    rw [show (List.map (fun p : Txt => ((Value.string p.1, Str p.2) : Value × V)) l) = mpE l from rfl, ih]
theorem mget_mpE (k : ByteArray) (L : List Txt) : mget (.string k) (mpE L) = (tget k L).map fun t => Str t := by
  unfold mget tget
  rw [mix_mpE]
  cases tix k L with
  | none => rfl
  | some i => simp only [mpE, List.getElem?_map, Option.map_map]; rfl
theorem mput_mpE (k v : ByteArray) (L : List Txt) : mput (.string k) (Str v) (mpE L) = mpE (tput k v L) := by
  unfold mput tput
  rw [mix_mpE]
  cases tix k L with
  | none => simp [mpE]
  | some i => simp only [mpE, List.map_set]
theorem mdel_mpE (k : ByteArray) (L : List Txt) : mdel (.string k) (mpE L) = mpE (tdel k L) := by
  unfold mdel tdel
  rw [mix_mpE]
  cases tix k L with
  | none => rfl
  | some i =>
    apply List.ext_getElem?
    intro j
    simp only [mpE, List.getElem?_map, List.getElem?_eraseIdx]
    split <;> rfl
theorem mpE_ok (L : List Txt) : ∀ p ∈ mpE L, kOK .string p.1 = true := by
  intro p hp
  obtain ⟨q, _, rfl⟩ := List.mem_map.1 hp
  rfl
theorem mpE_len (L : List Txt) : (mpE L).length = L.length := by simp [mpE]
theorem zV9 : zVal Tryd.prog 9 = some (Str ⟨#[]⟩) := by kernel_rfl
theorem look_t (k : ByteArray) (L : List Txt) : mlook true (Str ⟨#[]⟩) (mget (.string k) (mpE L)) = .tup [Str ((tget k L).getD ⟨#[]⟩), Bo (tget k L).isSome] := by
  rw [mget_mpE]; cases tget k L <;> rfl
theorem look_f (k : ByteArray) (L : List Txt) : mlook false (Str ⟨#[]⟩) (mget (.string k) (mpE L)) = Str ((tget k L).getD ⟨#[]⟩) := by
  rw [mget_mpE]; cases tget k L <;> rfl
section
variable {o : Oper} {e : Env} {s : Sg}
theorem t_look {x k : Operand} {c : Bool} (ho : o.op = .lookup 49 x k c) {n : Nat} (hx : ev e x = .mp n) {L : List Txt} (hn : s.m n = some (.mp (mpE L))) {kb : ByteArray} (hk : ev e k = Str kb) : FarO Tryd.prog o e s (mlook c (Str ⟨#[]⟩) (mget (.string kb) (mpE L))) s :=
  far_lookup ho Tryd.underlying49 Tryd.underlying9 hx hn hk rfl (mpE_ok L) zV9
theorem t_lookT {x k : Operand} (ho : o.op = .lookup 49 x k true) {n : Nat} (hx : ev e x = .mp n) {L : List Txt} (hn : s.m n = some (.mp (mpE L))) {kb : ByteArray} (hk : ev e k = Str kb) : FarO Tryd.prog o e s (.tup [Str ((tget kb L).getD ⟨#[]⟩), Bo (tget kb L).isSome]) s := by
  rw [← look_t]; exact t_look ho hx hn hk
theorem t_lookF {x k : Operand} (ho : o.op = .lookup 49 x k false) {n : Nat} (hx : ev e x = .mp n) {L : List Txt} (hn : s.m n = some (.mp (mpE L))) {kb : ByteArray} (hk : ev e k = Str kb) : FarO Tryd.prog o e s (Str ((tget kb L).getD ⟨#[]⟩)) s := by
  rw [← look_f]; exact t_look ho hx hn hk
theorem t_put {x k y : Operand} (ho : o.op = .mapUpdate 49 x k y) {n : Nat} (hx : ev e x = .mp n) {L : List Txt} (hn : s.m n = some (.mp (mpE L))) {kb vb : ByteArray} (hk : ev e k = Str kb) (hy : ev e y = Str vb) : FarO Tryd.prog o e s .junk (s.set n (.mp (mpE (tput kb vb L)))) := by
  rw [← mput_mpE]; exact far_update ho Tryd.underlying49 Tryd.underlying9 hx hn hk rfl (mpE_ok L) hy rfl
theorem t_del {c : Call} {x k : Operand} (ho : o.op = .call c) (hc : c.callee = .builtin .delete) (ha : c.args = #[x, k]) (ht : c.argTypes[0]? = some 49) {n : Nat} (hx : ev e x = .mp n) {L : List Txt} (hn : s.m n = some (.mp (mpE L))) {kb : ByteArray} (hk : ev e k = Str kb) : FarO Tryd.prog o e s (.tup []) (s.set n (.mp (mpE (tdel kb L)))) := by
  rw [← mdel_mpE]; exact far_delete ho hc ha ht Tryd.underlying49 Tryd.underlying9 hx hn hk rfl (mpE_ok L)
theorem t_len {c : Call} {x : Operand} (ho : o.op = .call c) (hc : c.callee = .builtin .len) (ha : c.args = #[x]) (ht : c.argTypes[0]? = some 49) {n : Nat} (hx : ev e x = .mp n) {L : List Txt} (hn : s.m n = some (.mp (mpE L))) : FarO Tryd.prog o e s (I L.length) s := by
  rw [← mpE_len L]; exact far_len ho hc ha ht Tryd.underlying49 hx hn
end
structure TreeP (s : Sg) (p m : Nat) (L : List Txt) : Prop where
  hp : s.m p = some (.box 51 [.mp m])
  hm : s.m m = some (.mp (mpE L))
def putS (k v : ByteArray) (fit : Bool) (L : List Txt) : Int × List Txt :=
  if pathS k = false then (10, L) else if fit = false ∨ ((tget k L).isSome = false ∧ 6 ≤ L.length) then (11, L) else (0, tput k v L)
def dropS (k : ByteArray) (L : List Txt) : Int × List Txt := if (tget k L).isSome = true then (0, tdel k L) else (13, L)
set_option maxRecDepth 20000 in
theorem tNew_ (s : Sg) : VCall Tryd.prog 5 [] s (fun v s' => v = .ptr (s.next + 1) 0 ∧ s' = (s.add (.mp [])).add (.box 51 [.mp s.next])) := by
  refine kcall_of_body Tryd.func5 rfl fun Q hQ => ?_
  obtain ⟨e, he, hl⟩ : ∃ e : Env, ([] ++ List.replicate (Tryd.f5.ntmps - ([] : List V).length) .junk) = e ∧ e.length = 4 := ⟨_, rfl, rfl⟩
  rw [he]
  clear he
  refine vsk fun K1 hK1 => ?_
  refine vw_sc 0 [] ?_
  simp only [bs, ↓vopx, ↓vop, thenV, flat, wocs, ↓goc, ↓woc, ↓vopm0]
  repeat ((with_reducible refine And.intro ?_ ?_); · first | (with_reducible assumption) | omega | exact ⟨by omega, by omega⟩ | with_reducible rfl | (repeat' first | exact Keep.refl _ | refine Keep.add ?_ ?_ _ | refine Keep.set ?_ ?_ _ | exact Nat.le_refl _ | (simp only [Sg.add, Sg.set, Sg.del]; omega)))
  refine hK1 _ _ ?_
  refine vsk fun K2 hK2 => ?_
  refine vw_sc 0 [.op (.mp s.next) (s.add (.mp []))] ?_
  simp only [bs, vparts, gfill, ↓vopx, ↓vop, thenV, Nat.reduceLT, V.cells, hl, wocs, ↓goc, ↓woc, ↓vopm0, Tryd.st51, farOp]
  repeat ((with_reducible refine And.intro ?_ ?_); · first | (with_reducible assumption) | omega | exact ⟨by omega, by omega⟩ | exact far_make rfl | with_reducible rfl | (repeat' first | exact Keep.refl _ | refine Keep.add ?_ ?_ _ | refine Keep.set ?_ ?_ _ | exact Nat.le_refl _ | (simp only [Sg.add, Sg.set, Sg.del]; omega)))
  refine hK2 _ _ ?_
  refine vw_ret ?_
  refine hQ _ _ _ (.inr rfl) (donek_tmp (v := .ptr (s.next + 1) 0) ?_ rfl ⟨rfl, rfl⟩)
  try simp only [ev_hit, lpv, hl, Nat.reduceLT]
set_option maxRecDepth 20000 in
theorem tPut_ (s : Sg) (p m : Nat) (L : List Txt) (hT : TreeP s p m L) (k v : ByteArray) (fit : Bool) (hft : PCall Tryd.prog 14 [Str v] (Bo fit)) : VCall Tryd.prog 6 [.ptr p 0, Str k, Str v] s (fun r s' => r = I (putS k v fit L).1 ∧ s' = s.set m (.mp (mpE (putS k v fit L).2))) := by
  refine kcall_of_body Tryd.func6 rfl fun Q hQ => ?_
  obtain ⟨e, he, hl, h0, h1, h2⟩ : ∃ e : Env, ([.ptr p 0, Str k, Str v] ++ List.replicate (Tryd.f6.ntmps - ([.ptr p 0, Str k, Str v] : List V).length) .junk) = e ∧ e.length = 42 ∧ ev e (.tmp 0) = .ptr p 0 ∧ ev e (.tmp 1) = Str k ∧ ev e (.tmp 2) = Str v := ⟨_, rfl, rfl, rfl, rfl, rfl⟩
  rw [he]
  clear he
  have hTm := hT.hm
  have hTp := hT.hp
  refine vsk fun K1 hK1 => ?_
  refine vw_sc 0 [] ?_
  simp only [bs, ↓vopx, ↓vop, thenV, flat, wocs, ↓goc, ↓woc, ↓vopm0]
  repeat ((with_reducible refine And.intro ?_ ?_); · first | (with_reducible assumption) | omega | exact ⟨by omega, by omega⟩ | with_reducible rfl | (repeat' first | exact Keep.refl _ | refine Keep.add ?_ ?_ _ | refine Keep.set ?_ ?_ _ | exact Nat.le_refl _ | (simp only [Sg.add, Sg.set, Sg.del]; omega)))
  refine hK1 _ _ ?_
  refine vsk fun K2 hK2 => ?_
  refine vsk fun K3 hK3 => ?_
  rcases (show pathS k = false ∨ pathS k = true by cases pathS k <;> simp) with hpk | hpk
  · refine vw_sc 0 [.pur (Bo false)] ?_
    simp only [bs, ↓vopx, ↓vop, Nat.reduceBEq, thenV, Nat.reduceLT, hl, h1, wocs, ↓goc, ↓woc, ↓vopm0, ↓callC, calleeV]
    repeat ((with_reducible refine And.intro ?_ ?_); · first | (with_reducible assumption) | omega | exact ⟨by omega, by omega⟩ | exact ⟨Tryd.is13, hpk ▸ isPath_ k⟩ | with_reducible rfl | (repeat' first | exact Keep.refl _ | refine Keep.add ?_ ?_ _ | refine Keep.set ?_ ?_ _ | exact Nat.le_refl _ | (simp only [Sg.add, Sg.set, Sg.del]; omega)))
    refine hK3 _ _ ?_
    refine vck fun A B hA hB => ?_
    simp only [condV, ev_hit, lpv, Nat.reduceLT, true_implies, reduceCtorEq, false_implies, and_true, hl]
    refine hA ?_
    clear hA hB A B
    refine vsk fun K4 hK4 => ?_
    refine vw_sc 0 [] ?_
    simp only [bs, ↓vopx, ↓vop, thenV, flat, wocs, ↓goc, ↓woc, ↓vopm0]
    repeat ((with_reducible refine And.intro ?_ ?_); · first | (with_reducible assumption) | omega | exact ⟨by omega, by omega⟩ | with_reducible rfl | (repeat' first | exact Keep.refl _ | refine Keep.add ?_ ?_ _ | refine Keep.set ?_ ?_ _ | exact Nat.le_refl _ | (simp only [Sg.add, Sg.set, Sg.del]; omega)))
    refine hK4 _ _ ?_
    refine vw_ret ?_
    have hps : putS k v fit L = (10, L) := if_pos hpk
    rw [hps] at hQ
    refine hQ _ _ _ (.inr rfl) (donek_tmp (v := I 10) ?_ rfl ⟨rfl, (set_selfb hTm).symm⟩)
    try simp only [ev_hit, lpv, hl, Nat.reduceLT]
  · refine vw_sc 0 [.pur (Bo true)] ?_
    simp only [bs, ↓vopx, ↓vop, Nat.reduceBEq, thenV, Nat.reduceLT, hl, h1, wocs, ↓goc, ↓woc, ↓vopm0, ↓callC, calleeV]
    repeat ((with_reducible refine And.intro ?_ ?_); · first | (with_reducible assumption) | omega | exact ⟨by omega, by omega⟩ | exact ⟨Tryd.is13, hpk ▸ isPath_ k⟩ | with_reducible rfl | (repeat' first | exact Keep.refl _ | refine Keep.add ?_ ?_ _ | refine Keep.set ?_ ?_ _ | exact Nat.le_refl _ | (simp only [Sg.add, Sg.set, Sg.del]; omega)))
    refine hK3 _ _ ?_
    refine vck fun A B hA hB => ?_
    simp only [condV, ev_hit, lpv, Nat.reduceLT, true_implies, reduceCtorEq, false_implies, true_and, hl]
    refine hB ?_
    clear hA hB A B
    refine vw_skip ?_
    refine hK2 _ _ ?_
    refine vsk fun K5 hK5 => ?_
    refine vw_sc 0 [.op (.tup [Str ((tget k L).getD ⟨#[]⟩), Bo (tget k L).isSome]) s] ?_
    simp only [bs, dSure, ↓vopx, ↓vop, Nat.reduceBEq, thenV, Nat.reduceLT, dLoad, vpart, hl, h0, h1, wocs, ↓goc, ↓woc, ↓vopm0, Tryd.fd51_0, hTp, farOp, Tryd.sz49, Tryd.ag49]
    repeat ((with_reducible refine And.intro ?_ ?_); · first | (with_reducible assumption) | omega | exact ⟨by omega, by omega⟩ | exact t_lookT rfl (by simp only [ev_hit, ev_miss, Nat.reduceBEq, lpv, hl, Nat.reduceLT]) hT.hm (by simp only [ev_hit, lpv, hl, Nat.reduceLT]) | with_reducible rfl | (repeat' first | exact Keep.refl _ | refine Keep.add ?_ ?_ _ | refine Keep.set ?_ ?_ _ | exact Nat.le_refl _ | (simp only [Sg.add, Sg.set, Sg.del]; omega)))
    refine hK5 _ _ ?_
    refine vsk fun K6 hK6 => ?_
    refine vsk fun K7 hK7 => ?_
    rcases (show fit = false ∨ (fit = true ∧ (tget k L).isSome = true) ∨ (fit = true ∧ (tget k L).isSome = false ∧ 6 ≤ L.length) ∨ (fit = true ∧ (tget k L).isSome = false ∧ ¬ 6 ≤ L.length) by cases fit <;> cases (tget k L).isSome <;> simp <;> omega) with hc | ⟨hc, hd⟩ | ⟨hc, hd, hg⟩ | ⟨hc, hd, hg⟩
    · refine vw_sc 0 [.pur (Bo false)] ?_
      simp only [bs, ↓vopx, ↓vop, Nat.reduceBEq, thenV, flat, Nat.reduceLT, gtmp, hl, h2, wocs, ↓goc, ↓woc, ↓vopm0, ↓callC, ↓pick_tf, calleeV]
      repeat ((with_reducible refine And.intro ?_ ?_); · first | (with_reducible assumption) | omega | exact ⟨by omega, by omega⟩ | exact ⟨Tryd.is14, hc ▸ hft⟩ | with_reducible rfl | (repeat' first | exact Keep.refl _ | refine Keep.add ?_ ?_ _ | refine Keep.set ?_ ?_ _ | exact Nat.le_refl _ | (simp only [Sg.add, Sg.set, Sg.del]; omega)))
      refine hK7 _ _ ?_
      refine vck fun A B hA hB => ?_
      simp only [condV, ev_hit, lpv, Nat.reduceLT, true_implies, reduceCtorEq, false_implies, and_true, hl]
      refine hA ?_
      clear hA hB A B
      refine vsk fun K8 hK8 => ?_
      refine vw_sc 0 [] ?_
      simp only [bs, ↓vopx, ↓vop, thenV, flat, wocs, ↓goc, ↓woc, ↓vopm0]
      repeat ((with_reducible refine And.intro ?_ ?_); · first | (with_reducible assumption) | omega | exact ⟨by omega, by omega⟩ | with_reducible rfl | (repeat' first | exact Keep.refl _ | refine Keep.add ?_ ?_ _ | refine Keep.set ?_ ?_ _ | exact Nat.le_refl _ | (simp only [Sg.add, Sg.set, Sg.del]; omega)))
      refine hK8 _ _ ?_
      refine vw_ret ?_
      have hps : putS k v fit L = (11, L) := by unfold putS; rw [if_neg (by simp [hpk]), if_pos (.inl hc)]
      rw [hps] at hQ
      refine hQ _ _ _ (.inr rfl) (donek_tmp (v := I 11) ?_ rfl ⟨rfl, (set_selfb hTm).symm⟩)
      try simp only [ev_hit, lpv, hl, Nat.reduceLT]
    · have hps : putS k v fit L = (0, tput k v L) := by unfold putS; rw [if_neg (by simp [hpk]), if_neg (by simp [hc, hd])]
      refine vw_sc 0 [.pur (Bo true)] ?_
      simp only [bs, ↓vopx, ↓vop, Nat.reduceBEq, thenV, flat, Nat.reduceLT, gtmp, hl, h2, wocs, ↓goc, ↓woc, ↓vopm0, ↓callC, ↓pick_ff, ↓pick_ft, calleeV, hd]
      repeat ((with_reducible refine And.intro ?_ ?_); · first | (with_reducible assumption) | omega | exact ⟨by omega, by omega⟩ | exact ⟨Tryd.is14, hc ▸ hft⟩ | with_reducible rfl | (repeat' first | exact Keep.refl _ | refine Keep.add ?_ ?_ _ | refine Keep.set ?_ ?_ _ | exact Nat.le_refl _ | (simp only [Sg.add, Sg.set, Sg.del]; omega)))
      refine hK7 _ _ ?_
      refine vck fun A B hA hB => ?_
      simp only [condV, ev_hit, lpv, Nat.reduceLT, true_implies, reduceCtorEq, false_implies, true_and, hl]
      refine hB ?_
      clear hA hB A B
      refine vw_skip ?_
      refine hK6 _ _ ?_
      refine vsk fun K9 hK9 => ?_
      refine vw_sc 0 [.op .junk (s.set m (.mp (mpE (tput k v L))))] ?_
      simp only [bs, dSure, ↓vopx, ↓vop, Nat.reduceBEq, thenV, Nat.reduceLT, dLoad, vpart, hl, h0, h1, h2, wocs, ↓goc, ↓woc, ↓vopm0, Tryd.fd51_0, hTp, farOp, Tryd.sz49, Tryd.ag49]
      repeat ((with_reducible refine And.intro ?_ ?_); · first | (with_reducible assumption) | omega | exact ⟨by omega, by omega⟩ | exact t_put rfl (by simp only [ev_hit, ev_miss, Nat.reduceBEq, lpv, hl, Nat.reduceLT]) hT.hm (by simp only [ev_hit, ev_miss, Nat.reduceBEq, lpv, hl, Nat.reduceLT]) (by simp only [ev_hit, lpv, hl, Nat.reduceLT]) | with_reducible rfl | (repeat' first | exact Keep.refl _ | refine Keep.add ?_ ?_ _ | refine Keep.set ?_ ?_ _ | exact Nat.le_refl _ | (simp only [Sg.add, Sg.set, Sg.del]; omega)))
      refine hK9 _ _ ?_
      refine vsk fun K10 hK10 => ?_
      refine vw_sc 0 [] ?_
      simp only [bs, ↓vopx, ↓vop, thenV, flat, wocs, ↓goc, ↓woc, ↓vopm0]
      repeat ((with_reducible refine And.intro ?_ ?_); · first | (with_reducible assumption) | omega | exact ⟨by omega, by omega⟩ | with_reducible rfl | (repeat' first | exact Keep.refl _ | refine Keep.add ?_ ?_ _ | refine Keep.set ?_ ?_ _ | exact Nat.le_refl _ | (simp only [Sg.add, Sg.set, Sg.del]; omega)))
      refine hK10 _ _ ?_
      refine vw_ret ?_
      rw [hps] at hQ
      refine hQ _ _ _ (.inr rfl) (donek_tmp (v := I 0) ?_ rfl ⟨rfl, rfl⟩)
      try simp only [ev_hit, lpv, hl, Nat.reduceLT]
    · have hgd : decide ((L.length : Int) ≥ 6) = true := by simp; omega
      refine vw_sc 0 [.pur (Bo true), .op (I L.length) s] ?_
      simp only [bs, dSure, ↓vopx, ↓vop, Nat.reduceBEq, thenV, flat, Nat.reduceLT, dLoad, vpart, opII, gtmp, hl, h0, h2, wocs, ↓goc, ↓woc, ↓vopm0, ↓callC, ↓pick_tt, ↓pick_ff, calleeV, Tryd.fd51_0, hTp, farOp, Tryd.underlying49, Tryd.sz49, Tryd.ag49, hd, hgd]
      repeat ((with_reducible refine And.intro ?_ ?_); · first | (with_reducible assumption) | omega | exact ⟨by omega, by omega⟩ | exact ⟨Tryd.is14, hc ▸ hft⟩ | exact t_len rfl rfl rfl rfl (by simp only [ev_hit, lpv, hl, Nat.reduceLT]) hT.hm | with_reducible rfl | (repeat' first | exact Keep.refl _ | refine Keep.add ?_ ?_ _ | refine Keep.set ?_ ?_ _ | exact Nat.le_refl _ | (simp only [Sg.add, Sg.set, Sg.del]; omega)))
      refine hK7 _ _ ?_
      refine vck fun A B hA hB => ?_
      simp only [condV, ev_hit, lpv, Nat.reduceLT, true_implies, reduceCtorEq, false_implies, and_true, hl]
      refine hA ?_
      clear hA hB A B
      refine vsk fun K11 hK11 => ?_
      refine vw_sc 0 [] ?_
      simp only [bs, ↓vopx, ↓vop, thenV, flat, wocs, ↓goc, ↓woc, ↓vopm0]
      repeat ((with_reducible refine And.intro ?_ ?_); · first | (with_reducible assumption) | omega | exact ⟨by omega, by omega⟩ | with_reducible rfl | (repeat' first | exact Keep.refl _ | refine Keep.add ?_ ?_ _ | refine Keep.set ?_ ?_ _ | exact Nat.le_refl _ | (simp only [Sg.add, Sg.set, Sg.del]; omega)))
      refine hK11 _ _ ?_
      refine vw_ret ?_
      have hps : putS k v fit L = (11, L) := by unfold putS; rw [if_neg (by simp [hpk]), if_pos (.inr ⟨hd, hg⟩)]
      rw [hps] at hQ
      refine hQ _ _ _ (.inr rfl) (donek_tmp (v := I 11) ?_ rfl ⟨rfl, (set_selfb hTm).symm⟩)
      try simp only [ev_hit, lpv, hl, Nat.reduceLT]
    · have hgd : decide ((L.length : Int) ≥ 6) = false := by simp; omega
      have hps : putS k v fit L = (0, tput k v L) := by unfold putS; rw [if_neg (by simp [hpk]), if_neg (by simp [hc, hd, hg])]
      refine vw_sc 0 [.pur (Bo true), .op (I L.length) s] ?_
      simp only [bs, dSure, ↓vopx, ↓vop, Nat.reduceBEq, thenV, flat, Nat.reduceLT, dLoad, vpart, opII, gtmp, hl, h0, h2, wocs, ↓goc, ↓woc, ↓vopm0, ↓callC, ↓pick_tt, ↓pick_ff, calleeV, Tryd.fd51_0, hTp, farOp, Tryd.underlying49, Tryd.sz49, Tryd.ag49, hd, hgd]
      repeat ((with_reducible refine And.intro ?_ ?_); · first | (with_reducible assumption) | omega | exact ⟨by omega, by omega⟩ | exact ⟨Tryd.is14, hc ▸ hft⟩ | exact t_len rfl rfl rfl rfl (by simp only [ev_hit, lpv, hl, Nat.reduceLT]) hT.hm | with_reducible rfl | (repeat' first | exact Keep.refl _ | refine Keep.add ?_ ?_ _ | refine Keep.set ?_ ?_ _ | exact Nat.le_refl _ | (simp only [Sg.add, Sg.set, Sg.del]; omega)))
      refine hK7 _ _ ?_
      refine vck fun A B hA hB => ?_
      simp only [condV, ev_hit, lpv, Nat.reduceLT, true_implies, reduceCtorEq, false_implies, true_and, hl]
      refine hB ?_
      clear hA hB A B
      refine vw_skip ?_
      refine hK6 _ _ ?_
      refine vsk fun K12 hK12 => ?_
      refine vw_sc 0 [.op .junk (s.set m (.mp (mpE (tput k v L))))] ?_
      simp only [bs, dSure, ↓vopx, ↓vop, Nat.reduceBEq, thenV, Nat.reduceLT, dLoad, vpart, hl, h0, h1, h2, wocs, ↓goc, ↓woc, ↓vopm0, Tryd.fd51_0, hTp, farOp, Tryd.sz49, Tryd.ag49]
      repeat ((with_reducible refine And.intro ?_ ?_); · first | (with_reducible assumption) | omega | exact ⟨by omega, by omega⟩ | exact t_put rfl (by simp only [ev_hit, ev_miss, Nat.reduceBEq, lpv, hl, Nat.reduceLT]) hT.hm (by simp only [ev_hit, ev_miss, Nat.reduceBEq, lpv, hl, Nat.reduceLT]) (by simp only [ev_hit, lpv, hl, Nat.reduceLT]) | with_reducible rfl | (repeat' first | exact Keep.refl _ | refine Keep.add ?_ ?_ _ | refine Keep.set ?_ ?_ _ | exact Nat.le_refl _ | (simp only [Sg.add, Sg.set, Sg.del]; omega)))
      refine hK12 _ _ ?_
      refine vsk fun K13 hK13 => ?_
      refine vw_sc 0 [] ?_
      simp only [bs, ↓vopx, ↓vop, thenV, flat, wocs, ↓goc, ↓woc, ↓vopm0]
      repeat ((with_reducible refine And.intro ?_ ?_); · first | (with_reducible assumption) | omega | exact ⟨by omega, by omega⟩ | with_reducible rfl | (repeat' first | exact Keep.refl _ | refine Keep.add ?_ ?_ _ | refine Keep.set ?_ ?_ _ | exact Nat.le_refl _ | (simp only [Sg.add, Sg.set, Sg.del]; omega)))
      refine hK13 _ _ ?_
      refine vw_ret ?_
      rw [hps] at hQ
      refine hQ _ _ _ (.inr rfl) (donek_tmp (v := I 0) ?_ rfl ⟨rfl, rfl⟩)
      try simp only [ev_hit, lpv, hl, Nat.reduceLT]
set_option maxRecDepth 20000 in
theorem tDrop_ (s : Sg) (p m : Nat) (L : List Txt) (hT : TreeP s p m L) (k : ByteArray) : VCall Tryd.prog 7 [.ptr p 0, Str k] s (fun r s' => r = I (dropS k L).1 ∧ s' = s.set m (.mp (mpE (dropS k L).2))) := by
  refine kcall_of_body Tryd.func7 rfl fun Q hQ => ?_
  obtain ⟨e, he, hl, h0, h1⟩ : ∃ e : Env, ([.ptr p 0, Str k] ++ List.replicate (Tryd.f7.ntmps - ([.ptr p 0, Str k] : List V).length) .junk) = e ∧ e.length = 23 ∧ ev e (.tmp 0) = .ptr p 0 ∧ ev e (.tmp 1) = Str k := ⟨_, rfl, rfl, rfl, rfl⟩
  rw [he]
  clear he
  have hTm := hT.hm
  have hTp := hT.hp
  refine vsk fun K1 hK1 => ?_
  refine vw_sc 0 [] ?_
  simp only [bs, ↓vopx, ↓vop, thenV, flat, wocs, ↓goc, ↓woc, ↓vopm0]
  repeat ((with_reducible refine And.intro ?_ ?_); · first | (with_reducible assumption) | omega | exact ⟨by omega, by omega⟩ | with_reducible rfl | (repeat' first | exact Keep.refl _ | refine Keep.add ?_ ?_ _ | refine Keep.set ?_ ?_ _ | exact Nat.le_refl _ | (simp only [Sg.add, Sg.set, Sg.del]; omega)))
  refine hK1 _ _ ?_
  refine vsk fun K2 hK2 => ?_
  refine vsk fun K3 hK3 => ?_
  refine vw_sc 0 [.op (.tup [Str ((tget k L).getD ⟨#[]⟩), Bo (tget k L).isSome]) s] ?_
  simp only [bs, dSure, ↓vopx, ↓vop, Nat.reduceBEq, thenV, Nat.reduceLT, dLoad, vpart, hl, h0, h1, wocs, ↓goc, ↓woc, ↓vopm0, Tryd.fd51_0, hTp, farOp, Tryd.sz49, Tryd.ag49]
  repeat ((with_reducible refine And.intro ?_ ?_); · first | (with_reducible assumption) | omega | exact ⟨by omega, by omega⟩ | exact t_lookT rfl (by simp only [ev_hit, ev_miss, Nat.reduceBEq, lpv, hl, Nat.reduceLT]) hT.hm (by simp only [ev_hit, lpv, hl, Nat.reduceLT]) | with_reducible rfl | (repeat' first | exact Keep.refl _ | refine Keep.add ?_ ?_ _ | refine Keep.set ?_ ?_ _ | exact Nat.le_refl _ | (simp only [Sg.add, Sg.set, Sg.del]; omega)))
  refine hK3 _ _ ?_
  refine vsk fun K4 hK4 => ?_
  rcases (show (tget k L).isSome = false ∨ (tget k L).isSome = true by cases (tget k L).isSome <;> simp) with hd | hd
  · refine vw_sc 0 [] ?_
    simp only [bs, ↓vopx, ↓vop, thenV, Nat.reduceLT, hl, wocs, ↓goc, ↓woc, ↓vopm0, hd]
    repeat ((with_reducible refine And.intro ?_ ?_); · first | (with_reducible assumption) | omega | exact ⟨by omega, by omega⟩ | with_reducible rfl | (repeat' first | exact Keep.refl _ | refine Keep.add ?_ ?_ _ | refine Keep.set ?_ ?_ _ | exact Nat.le_refl _ | (simp only [Sg.add, Sg.set, Sg.del]; omega)))
    refine hK4 _ _ ?_
    refine vck fun A B hA hB => ?_
    simp only [condV, ev_hit, lpv, Nat.reduceLT, true_implies, reduceCtorEq, false_implies, and_true, hl]
    refine hA ?_
    clear hA hB A B
    refine vsk fun K5 hK5 => ?_
    refine vw_sc 0 [] ?_
    simp only [bs, ↓vopx, ↓vop, thenV, flat, wocs, ↓goc, ↓woc, ↓vopm0]
    repeat ((with_reducible refine And.intro ?_ ?_); · first | (with_reducible assumption) | omega | exact ⟨by omega, by omega⟩ | with_reducible rfl | (repeat' first | exact Keep.refl _ | refine Keep.add ?_ ?_ _ | refine Keep.set ?_ ?_ _ | exact Nat.le_refl _ | (simp only [Sg.add, Sg.set, Sg.del]; omega)))
    refine hK5 _ _ ?_
    refine vw_ret ?_
    have hps : dropS k L = (13, L) := if_neg (by simp [hd])
    rw [hps] at hQ
    refine hQ _ _ _ (.inr rfl) (donek_tmp (v := I 13) ?_ rfl ⟨rfl, (set_selfb hTm).symm⟩)
    try simp only [ev_hit, lpv, hl, Nat.reduceLT]
  · refine vw_sc 0 [] ?_
    simp only [bs, ↓vopx, ↓vop, thenV, Nat.reduceLT, hl, wocs, ↓goc, ↓woc, ↓vopm0, hd]
    repeat ((with_reducible refine And.intro ?_ ?_); · first | (with_reducible assumption) | omega | exact ⟨by omega, by omega⟩ | with_reducible rfl | (repeat' first | exact Keep.refl _ | refine Keep.add ?_ ?_ _ | refine Keep.set ?_ ?_ _ | exact Nat.le_refl _ | (simp only [Sg.add, Sg.set, Sg.del]; omega)))
    refine hK4 _ _ ?_
    refine vck fun A B hA hB => ?_
    simp only [condV, ev_hit, lpv, Nat.reduceLT, true_implies, reduceCtorEq, false_implies, true_and, hl]
    refine hB ?_
    clear hA hB A B
    refine vw_skip ?_
    refine hK2 _ _ ?_
    refine vsk fun K6 hK6 => ?_
    refine vw_sc 0 [.op (.tup []) (s.set m (.mp (mpE (tdel k L))))] ?_
    simp only [bs, dSure, ↓vopx, ↓vop, Nat.reduceBEq, thenV, Nat.reduceLT, dLoad, vpart, hl, h0, h1, wocs, ↓goc, ↓woc, ↓vopm0, Tryd.fd51_0, hTp, farOp, Tryd.sz49, Tryd.ag49]
    repeat ((with_reducible refine And.intro ?_ ?_); · first | (with_reducible assumption) | omega | exact ⟨by omega, by omega⟩ | exact t_del rfl rfl rfl rfl (by simp only [ev_hit, ev_miss, Nat.reduceBEq, lpv, hl, Nat.reduceLT]) hT.hm (by simp only [ev_hit, lpv, hl, Nat.reduceLT]) | with_reducible rfl | (repeat' first | exact Keep.refl _ | refine Keep.add ?_ ?_ _ | refine Keep.set ?_ ?_ _ | exact Nat.le_refl _ | (simp only [Sg.add, Sg.set, Sg.del]; omega)))
    refine hK6 _ _ ?_
    refine vsk fun K7 hK7 => ?_
    refine vw_sc 0 [] ?_
    simp only [bs, ↓vopx, ↓vop, thenV, flat, wocs, ↓goc, ↓woc, ↓vopm0]
    repeat ((with_reducible refine And.intro ?_ ?_); · first | (with_reducible assumption) | omega | exact ⟨by omega, by omega⟩ | with_reducible rfl | (repeat' first | exact Keep.refl _ | refine Keep.add ?_ ?_ _ | refine Keep.set ?_ ?_ _ | exact Nat.le_refl _ | (simp only [Sg.add, Sg.set, Sg.del]; omega)))
    refine hK7 _ _ ?_
    refine vw_ret ?_
    have hps : dropS k L = (0, tdel k L) := if_pos hd
    rw [hps] at hQ
    refine hQ _ _ _ (.inr rfl) (donek_tmp (v := I 0) ?_ rfl ⟨rfl, rfl⟩)
    try simp only [ev_hit, lpv, hl, Nat.reduceLT]
set_option maxRecDepth 20000 in
theorem tGet_ (s : Sg) (p m : Nat) (L : List Txt) (hT : TreeP s p m L) (k : ByteArray) : DCall Tryd.prog 9 [.ptr p 0, Str k] s (.tup [Str ((tget k L).getD ⟨#[]⟩), Bo (tget k L).isSome]) (s) := by
  refine dcall_of_body Tryd.func9 rfl fun Q hQ => ?_
  obtain ⟨e, he, hl, h0, h1⟩ : ∃ e : Env, ([.ptr p 0, Str k] ++ List.replicate (Tryd.f9.ntmps - ([.ptr p 0, Str k] : List V).length) .junk) = e ∧ e.length = 19 ∧ ev e (.tmp 0) = .ptr p 0 ∧ ev e (.tmp 1) = Str k := ⟨_, rfl, rfl, rfl, rfl⟩
  rw [he]
  clear he
  have hTm := hT.hm
  have hTp := hT.hp
  refine vsk fun K1 hK1 => ?_
  refine vw_sc 0 [] ?_
  simp only [bs, ↓vopx, ↓vop, thenV, flat, wocs, ↓goc, ↓woc, ↓vopm0]
  repeat ((with_reducible refine And.intro ?_ ?_); · first | (with_reducible assumption) | omega | exact ⟨by omega, by omega⟩ | with_reducible rfl | (repeat' first | exact Keep.refl _ | refine Keep.add ?_ ?_ _ | refine Keep.set ?_ ?_ _ | exact Nat.le_refl _ | (simp only [Sg.add, Sg.set, Sg.del]; omega)))
  refine hK1 _ _ ?_
  refine vsk fun K2 hK2 => ?_
  refine vw_sc 0 [.op (.tup [Str ((tget k L).getD ⟨#[]⟩), Bo (tget k L).isSome]) s] ?_
  simp only [bs, dSure, ↓vopx, ↓vop, Nat.reduceBEq, thenV, Nat.reduceLT, dLoad, vpart, hl, h0, h1, wocs, ↓goc, ↓woc, ↓vopm0, Tryd.fd51_0, hTp, farOp, Tryd.sz49, Tryd.ag49]
  repeat ((with_reducible refine And.intro ?_ ?_); · first | (with_reducible assumption) | omega | exact ⟨by omega, by omega⟩ | exact t_lookT rfl (by simp only [ev_hit, ev_miss, Nat.reduceBEq, lpv, hl, Nat.reduceLT]) hT.hm (by simp only [ev_hit, lpv, hl, Nat.reduceLT]) | with_reducible rfl | (repeat' first | exact Keep.refl _ | refine Keep.add ?_ ?_ _ | refine Keep.set ?_ ?_ _ | exact Nat.le_refl _ | (simp only [Sg.add, Sg.set, Sg.del]; omega)))
  refine hK2 _ _ ?_
  refine vsk fun K3 hK3 => ?_
  refine vw_sc 0 [] ?_
  simp only [bs, ↓vopx, ↓vop, Nat.reduceBEq, thenV, Nat.reduceLT, hl, wocs, ↓goc, ↓woc, ↓vopm0]
  repeat ((with_reducible refine And.intro ?_ ?_); · first | (with_reducible assumption) | omega | exact ⟨by omega, by omega⟩ | with_reducible rfl | (repeat' first | exact Keep.refl _ | refine Keep.add ?_ ?_ _ | refine Keep.set ?_ ?_ _ | exact Nat.le_refl _ | (simp only [Sg.add, Sg.set, Sg.del]; omega)))
  refine hK3 _ _ ?_
  refine vw_ret ?_
  refine hQ _ _ _ (.inr rfl) (Done.toS (done_pair ?_ ?_ fun n b hn h => h))
  try simp only [ev_hit, ev_miss, Nat.reduceBEq, lpv, hl, Nat.reduceLT]
  try simp only [ev_hit, lpv, hl, Nat.reduceLT]
end Go.Proofs

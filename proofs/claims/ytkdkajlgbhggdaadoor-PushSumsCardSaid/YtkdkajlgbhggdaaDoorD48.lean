/- Steps on the way to the statement that the last text of this claim proves: an abstract machine over the code, proved sound, and what the functions come to over it. No condition of their own. -/
import Derived.Shelf.Sort.AssemblyIn
import Derived.Shelf.Slices.In.SortNone
import Derived.Test.YtkdkajlgbhggdaaDoorD33
import Derived.Test.YtkdkajlgbhggdaaDoorD34
import Derived.Test.YtkdkajlgbhggdaaDoorD37
import Derived.Test.YtkdkajlgbhggdaaDoorD38
import Derived.Test.YtkdkajlgbhggdaaDoorD40
import Derived.Test.YtkdkajlgbhggdaaDoorD42
import Derived.Test.YtkdkajlgbhggdaaDoorD45
import Derived.Test.YtkdkajlgbhggdaaDoorD46
open Go Go.V
namespace Go.Proofs

theorem thenS_le (f g : List Int) : (thenS f g).1.length ≤ f.length := by
  unfold thenS; split <;> simp
end Go.Proofs

open Go Go.V
namespace Go.Proofs

theorem legT_length (n base : Nat) : (legT n base).length = n := by simp [legT]
abbrev pushE (a b c : Ob) (f g : List Int) : Ob × List Int × Int := eqS a (besideS b c) (thenS f (legT b.labels.length 0)).1 (thenS g (legT c.labels.length b.labels.length)).1
/-- put together over what both have: 0, 10, 11 -/
def pushS (a b c : Ob) (f g : List Int) : Ob × List Int × List Int × Int :=
  if largeS [a] = true ∨ largeS [b, c] = true then (⟨[], []⟩, [], [], 11) else if arrS a b f = true ∧ arrS a c g = true then
    (if (pushE a b c f g).2.2 = 0 then ((pushE a b c f g).1, (thenS (legT b.labels.length 0) (pushE a b c f g).2.1).1, (thenS (legT c.labels.length b.labels.length) (pushE a b c f g).2.1).1, 0) else (⟨[], []⟩, [], [], (pushE a b c f g).2.2))
  else (⟨[], []⟩, [], [], 10)
theorem eqS_le (a b : Ob) (f g : List Int) : (eqS a b f g).2.1.length ≤ b.labels.length := by
  unfold eqS
  split
  · simp
  · split
    · show (eqPl b f g).length ≤ _
      unfold eqPl
      rw [placesL_length, joinsL_length, rangeI_length]; exact Nat.le_refl _
    · simp

set_option maxRecDepth 20000 in
set_option maxHeartbeats 4000000 in
theorem push_ (a b c : Ob) (f g : List Int) (ha1 : a.labels.length < 1000000000) (ha2 : a.pairs.length < 1000000000) (hb1 : b.labels.length < 1000000000) (hb2 : b.pairs.length ≤ 1000) (hc1 : c.labels.length < 1000000000) (hc2 : c.pairs.length ≤ 1000) (hf : f.length < 100000000) (hg : g.length < 100000000) : PCall Tryd.prog 22 [vObj a, vObj b, vObj c, .t (tInts f), .t (tInts g)] (vSum (pushS a b c f g)) := by
  refine pcall_of_body Tryd.func22 rfl fun s Q hQ => ?_
  obtain ⟨e, he, hl, h0, h1, h2, h3, h4⟩ : ∃ e : Env, ([vObj a, vObj b, vObj c, .t (tInts f), .t (tInts g)] ++ List.replicate (Tryd.f22.ntmps - ([vObj a, vObj b, vObj c, .t (tInts f), .t (tInts g)] : List V).length) .junk) = e ∧ e.length = 107 ∧ ev e (.tmp 0) = vObj a ∧ ev e (.tmp 1) = vObj b ∧ ev e (.tmp 2) = vObj c ∧ ev e (.tmp 3) = .t (tInts f) ∧ ev e (.tmp 4) = .t (tInts g) := ⟨_, rfl, rfl, rfl, rfl, rfl, rfl, rfl⟩
  rw [he]
  clear he
  refine vw_seq_k fun K1 hK1 => ?_
  refine vw_sc 0 [] ?_
  simp only [bs, ↓vopx, ↓vop, Nat.reduceBEq, thenV, flat, V.cells, h0, h1, h2, wocs, ↓goc, ↓woc, ↓vopm0, Tryd.zv25]
  refine hK1 _ _ ?_
  refine vw_seq_k fun K2 hK2 => ?_
  refine vw_block ?_
  refine vw_seq_k fun K3 hK3 => ?_
  refine vw_st fun sN hSN => ?_
  have hn5 : sN.m s.next = some (.box 25 [.t (tStrs a.labels), .t (tPairs a.pairs)]) := by rw [hSN, m_add, if_neg (by simp only [n_add]; omega), m_add, if_neg (by simp only [n_add]; omega), m_add, if_neg (by simp only [n_add]; omega), m_add, if_pos rfl]
  have hn6 : sN.m (s.next + 1) = some (.box 25 [.t (tStrs b.labels), .t (tPairs b.pairs)]) := by rw [hSN, m_add, if_neg (by simp only [n_add]; omega), m_add, if_neg (by simp only [n_add]; omega), m_add, if_pos (by simp only [n_add])]
  have hn7 : sN.m (s.next + 1 + 1) = some (.box 25 [.t (tStrs c.labels), .t (tPairs c.pairs)]) := by rw [hSN, m_add, if_neg (by simp only [n_add]; omega), m_add, if_pos (by simp only [n_add])]
  have hn10 : sN.m (s.next + 1 + 1 + 1) = some (.box 25 [.t (.v (.slice none 0 0)), .t (.v (.slice none 0 0))]) := by rw [hSN, m_add, if_pos (by simp only [n_add])]
  have hnn : sN.next = s.next + 4 := by rw [hSN]; rfl
  have hnk : ∀ j, j < s.next → sN.m j = s.m j := fun j hj => by rw [hSN, m_add, if_neg (by simp only [n_add]; omega), m_add, if_neg (by simp only [n_add]; omega), m_add, if_neg (by simp only [n_add]; omega), m_add, if_neg (by omega)]
  clear hSN
  rcases (show largeS [a] = true ∨ (largeS [a] = false ∧ largeS [b, c] = true) ∨ (largeS [a] = false ∧ largeS [b, c] = false) by cases largeS [a] <;> cases largeS [b, c] <;> simp) with ka | ⟨ka, kb⟩ | ⟨ka, kb⟩
  · refine vw_sc 1 [.pur (Bo (largeS [a]))] ?_
    simp only [bs, Nat.reduceLeDiff, Nat.reduceAdd, vparts, gfill, repl, Sg.frzP, ↓vopx, ↓vop, Nat.reduceBEq, thenV, flat, Nat.reduceLT, V.cells, dLoad, vpart, gtmp, Sg.frzL, Sg.frz1, hl, wocs, ↓goc, ↓woc, ↓vopm1, ↓callC, ↓pick_tf, calleeV, Tryd.ag25, Tryd.sl59, Tryd.sz25, Nat.reduceMul, Nat.le_refl, hn5, ka]
    repeat ((with_reducible refine And.intro ?_ ?_); · exact ⟨Tryd.is64, by simpa only [ka] using large_one a (by omega)⟩)
    refine hK3 _ _ ?_
    refine vw_cond_k fun A B hA hB => ?_
    simp only [condV, ev_hit, length_putv, Nat.reduceLT, true_implies, reduceCtorEq, false_implies, and_true, hl]
    refine hA ?_
    clear hA hB A B
    refine vw_seq_k fun K4 hK4 => ?_
    refine vw_sc 0 [] ?_
    simp only [bs, Nat.reduceAdd, vparts, gfill, ↓vopx, ↓vop, Nat.reduceBEq, thenV, flat, Nat.reduceLT, V.cells, hl, wocs, ↓goc, ↓woc, ↓vopm0, Tryd.st25, Tryd.sz25, Nat.le_refl, hn10]
    refine hK4 _ _ ?_
    refine vw_ret ?_
    have hres : vSum (pushS a b c f g) = pack [vObj ⟨[], []⟩, .t (tInts []), .t (tInts []), I 11] := by simp [pushS, vSum, ka]; rfl
    rw [hres] at hQ
    refine hQ _ _ _ (.inr rfl) (done_wk (vs := [.agg [.t (.v (.slice none 0 0)), .t (.v (.slice none 0 0))], .t (.v (.slice none 0 0)), .t (.v (.slice none 0 0)), I 11]) (vs' := [vObj ⟨[], []⟩, .t (tInts []), .t (tInts []), I 11]) ?_ rfl (ewk_err4 _ _) (by simp [pack, nm, nm2, nm1, nm0]) ?_)
    · show vres Tryd.prog _ _ [.cell 10 25, .tmp 11, .tmp 12, .tmp 13] = _
      simp only [vres_cell, vres_tmp, vres_nil, ev_hit, ev_miss, Nat.reduceBEq, length_putv, hl, hn10, Tryd.sz25, Tryd.ag25, dLoad, m_set, vpart, if_true, Nat.reduceLT, List.drop_zero, List.take_succ_cons, List.take_zero, List.length_cons, List.length_nil, Nat.zero_add, Nat.reduceAdd]
      try rfl
    · exact fun n x hn h => by rw [m_set, if_neg (by omega), hnk n hn]; exact h
  · refine vw_sc 1 [.pur (Bo (largeS [a])), .pur (Bo (largeS [b, c]))] ?_
    simp only [bs, Nat.reduceLeDiff, Nat.reduceAdd, vparts, gfill, repl, Sg.frzP, ↓vopx, ↓vop, Nat.reduceBEq, thenV, flat, Nat.reduceLT, V.cells, dLoad, vpart, gtmp, Sg.frzL, Sg.frz1, hl, wocs, ↓goc, ↓woc, ↓vopm1, ↓callC, ↓pick_ff, calleeV, Tryd.ag25, Tryd.sl59, Tryd.sz25, setAll_a0, setAll_b2, Nat.reduceMul, Nat.le_refl, hn5, hn6, hn7, ka, kb]
    repeat ((with_reducible refine And.intro ?_ ?_); · first | exact ⟨Tryd.is64, by simpa only [ka] using large_one a (by omega)⟩ | exact ⟨Tryd.is64, by simpa only [kb] using large_two b c (by omega) (by omega)⟩)
    refine hK3 _ _ ?_
    refine vw_cond_k fun A B hA hB => ?_
    simp only [condV, ev_hit, length_putv, Nat.reduceLT, true_implies, reduceCtorEq, false_implies, and_true, hl]
    refine hA ?_
    clear hA hB A B
    refine vw_seq_k fun K5 hK5 => ?_
    refine vw_sc 0 [] ?_
    simp only [bs, Nat.reduceAdd, vparts, gfill, ↓vopx, ↓vop, Nat.reduceBEq, thenV, flat, Nat.reduceLT, V.cells, hl, wocs, ↓goc, ↓woc, ↓vopm0, Tryd.st25, Tryd.sz25, Nat.le_refl, hn10]
    refine hK5 _ _ ?_
    refine vw_ret ?_
    have hres : vSum (pushS a b c f g) = pack [vObj ⟨[], []⟩, .t (tInts []), .t (tInts []), I 11] := by simp [pushS, vSum, kb]; rfl
    rw [hres] at hQ
    refine hQ _ _ _ (.inr rfl) (done_wk (vs := [.agg [.t (.v (.slice none 0 0)), .t (.v (.slice none 0 0))], .t (.v (.slice none 0 0)), .t (.v (.slice none 0 0)), I 11]) (vs' := [vObj ⟨[], []⟩, .t (tInts []), .t (tInts []), I 11]) ?_ rfl (ewk_err4 _ _) (by simp [pack, nm, nm2, nm1, nm0]) ?_)
    · show vres Tryd.prog _ _ [.cell 10 25, .tmp 11, .tmp 12, .tmp 13] = _
      simp only [vres_cell, vres_tmp, vres_nil, ev_hit, ev_miss, Nat.reduceBEq, length_putv, hl, hn10, Tryd.sz25, Tryd.ag25, dLoad, m_set, vpart, if_true, Nat.reduceLT, List.drop_zero, List.take_succ_cons, List.take_zero, List.length_cons, List.length_nil, Nat.zero_add, Nat.reduceAdd]
      try rfl
    · exact fun n x hn h => by rw [m_set, if_neg (by omega), hnk n hn]; exact h
  · refine vw_sc 1 [.pur (Bo (largeS [a])), .pur (Bo (largeS [b, c]))] ?_
    simp only [bs, Nat.reduceLeDiff, Nat.reduceAdd, vparts, gfill, repl, Sg.frzP, ↓vopx, ↓vop, Nat.reduceBEq, thenV, flat, Nat.reduceLT, V.cells, dLoad, vpart, gtmp, Sg.frzL, Sg.frz1, hl, wocs, ↓goc, ↓woc, ↓vopm1, ↓callC, ↓pick_ff, calleeV, Tryd.ag25, Tryd.sl59, Tryd.sz25, setAll_a0, setAll_b2, Nat.reduceMul, Nat.le_refl, hn5, hn6, hn7, ka, kb]
    repeat ((with_reducible refine And.intro ?_ ?_); · first | exact ⟨Tryd.is64, by simpa only [ka] using large_one a (by omega)⟩ | exact ⟨Tryd.is64, by simpa only [kb] using large_two b c (by omega) (by omega)⟩)
    refine hK3 _ _ ?_
    refine vw_cond_k fun A B hA hB => ?_
    simp only [condV, ev_hit, length_putv, Nat.reduceLT, true_implies, reduceCtorEq, false_implies, true_and, hl]
    refine hB ?_
    clear hA hB A B
    refine vw_seq_k fun K6 hK6 => ?_
    rcases (show arrS a b f = false ∨ (arrS a b f = true ∧ arrS a c g = false) ∨ (arrS a b f = true ∧ arrS a c g = true) by cases arrS a b f <;> cases arrS a c g <;> simp) with kf | ⟨kf, kg⟩ | ⟨kf, kg⟩
    · refine vw_sc 0 [.pur (Bo (arrS a b f))] ?_
      simp only [bs, Nat.reduceAdd, ↓vopx, ↓vop, Nat.reduceBEq, thenV, flat, Nat.reduceLT, dLoad, vpart, gtmp, hl, h3, wocs, ↓goc, ↓woc, ↓vopm0, ↓callC, ↓pick_tf, calleeV, Tryd.ag25, Tryd.sz25, kf, hn5, hn6]
      repeat ((with_reducible refine And.intro ?_ ?_); · exact ⟨Tryd.is34, by simpa only [kf] using arrow_ a b f (by omega) (by omega) (by omega) (by omega) (by omega)⟩)
      refine hK6 _ _ ?_
      refine vw_cond_k fun A B hA hB => ?_
      simp only [condV, ev_hit, length_putv, Nat.reduceLT, true_implies, reduceCtorEq, false_implies, and_true, hl]
      refine hA ?_
      clear hA hB A B
      refine vw_seq_k fun K7 hK7 => ?_
      refine vw_sc 0 [] ?_
      simp only [bs, Nat.reduceAdd, vparts, gfill, ↓vopx, ↓vop, Nat.reduceBEq, thenV, flat, Nat.reduceLT, V.cells, hl, wocs, ↓goc, ↓woc, ↓vopm0, Tryd.st25, Tryd.sz25, Nat.le_refl, hn10]
      refine hK7 _ _ ?_
      refine vw_ret ?_
      have hres : vSum (pushS a b c f g) = pack [vObj ⟨[], []⟩, .t (tInts []), .t (tInts []), I 10] := by simp [pushS, vSum, ka, kb, kf]; rfl
      rw [hres] at hQ
      refine hQ _ _ _ (.inr rfl) (done_wk (vs := [.agg [.t (.v (.slice none 0 0)), .t (.v (.slice none 0 0))], .t (.v (.slice none 0 0)), .t (.v (.slice none 0 0)), I 10]) (vs' := [vObj ⟨[], []⟩, .t (tInts []), .t (tInts []), I 10]) ?_ rfl (ewk_err4 _ _) (by simp [pack, nm, nm2, nm1, nm0]) ?_)
      · show vres Tryd.prog _ _ [.cell 10 25, .tmp 11, .tmp 12, .tmp 13] = _
        simp only [vres_cell, vres_tmp, vres_nil, ev_hit, ev_miss, Nat.reduceBEq, length_putv, hl, hn10, Tryd.sz25, Tryd.ag25, dLoad, m_set, vpart, if_true, Nat.reduceLT, List.drop_zero, List.take_succ_cons, List.take_zero, List.length_cons, List.length_nil, Nat.zero_add, Nat.reduceAdd]
        try rfl
      · exact fun n x hn h => by rw [m_set, if_neg (by omega), hnk n hn]; exact h
    · refine vw_sc 0 [.pur (Bo (arrS a b f)), .pur (Bo (arrS a c g))] ?_
      simp only [bs, Nat.reduceAdd, ↓vopx, ↓vop, Nat.reduceBEq, thenV, flat, Nat.reduceLT, dLoad, vpart, gtmp, hl, h3, h4, wocs, ↓goc, ↓woc, ↓vopm0, ↓callC, ↓pick_ff, calleeV, Tryd.ag25, Tryd.sz25, kf, kg, hn5, hn6, hn7]
      repeat ((with_reducible refine And.intro ?_ ?_); · first | exact ⟨Tryd.is34, by simpa only [kf] using arrow_ a b f (by omega) (by omega) (by omega) (by omega) (by omega)⟩ | exact ⟨Tryd.is34, by simpa only [kg] using arrow_ a c g (by omega) (by omega) (by omega) (by omega) (by omega)⟩)
      refine hK6 _ _ ?_
      refine vw_cond_k fun A B hA hB => ?_
      simp only [condV, ev_hit, length_putv, Nat.reduceLT, true_implies, reduceCtorEq, false_implies, and_true, hl]
      refine hA ?_
      clear hA hB A B
      refine vw_seq_k fun K8 hK8 => ?_
      refine vw_sc 0 [] ?_
      simp only [bs, Nat.reduceAdd, vparts, gfill, ↓vopx, ↓vop, Nat.reduceBEq, thenV, flat, Nat.reduceLT, V.cells, hl, wocs, ↓goc, ↓woc, ↓vopm0, Tryd.st25, Tryd.sz25, Nat.le_refl, hn10]
      refine hK8 _ _ ?_
      refine vw_ret ?_
      have hres : vSum (pushS a b c f g) = pack [vObj ⟨[], []⟩, .t (tInts []), .t (tInts []), I 10] := by simp [pushS, vSum, ka, kb, kg]; rfl
      rw [hres] at hQ
      refine hQ _ _ _ (.inr rfl) (done_wk (vs := [.agg [.t (.v (.slice none 0 0)), .t (.v (.slice none 0 0))], .t (.v (.slice none 0 0)), .t (.v (.slice none 0 0)), I 10]) (vs' := [vObj ⟨[], []⟩, .t (tInts []), .t (tInts []), I 10]) ?_ rfl (ewk_err4 _ _) (by simp [pack, nm, nm2, nm1, nm0]) ?_)
      · show vres Tryd.prog _ _ [.cell 10 25, .tmp 11, .tmp 12, .tmp 13] = _
        simp only [vres_cell, vres_tmp, vres_nil, ev_hit, ev_miss, Nat.reduceBEq, length_putv, hl, hn10, Tryd.sz25, Tryd.ag25, dLoad, m_set, vpart, if_true, Nat.reduceLT, List.drop_zero, List.take_succ_cons, List.take_zero, List.length_cons, List.length_nil, Nat.zero_add, Nat.reduceAdd]
        try rfl
      · exact fun n x hn h => by rw [m_set, if_neg (by omega), hnk n hn]; exact h
    · refine vw_sc 0 [.pur (Bo (arrS a b f)), .pur (Bo (arrS a c g))] ?_
      simp only [bs, Nat.reduceAdd, ↓vopx, ↓vop, Nat.reduceBEq, thenV, flat, Nat.reduceLT, dLoad, vpart, gtmp, hl, h3, h4, wocs, ↓goc, ↓woc, ↓vopm0, ↓callC, ↓pick_ff, calleeV, Tryd.ag25, Tryd.sz25, kf, kg, hn5, hn6, hn7]
      repeat ((with_reducible refine And.intro ?_ ?_); · first | exact ⟨Tryd.is34, by simpa only [kf] using arrow_ a b f (by omega) (by omega) (by omega) (by omega) (by omega)⟩ | exact ⟨Tryd.is34, by simpa only [kg] using arrow_ a c g (by omega) (by omega) (by omega) (by omega) (by omega)⟩)
      refine hK6 _ _ ?_
      refine vw_cond_k fun A B hA hB => ?_
      simp only [condV, ev_hit, length_putv, Nat.reduceLT, true_implies, reduceCtorEq, false_implies, true_and, hl]
      refine hB ?_
      clear hA hB A B
      refine vw_skip ?_
      refine hK2 _ _ ?_
      refine vw_seq_k fun K9 hK9 => ?_
      have hoa := (arrS_iff.1 kf).1
      have hob := (arrS_iff.1 kf).2.1
      have hoc := (arrS_iff.1 kg).2.1
      have hla := hoa.le
      have hlb := hob.le
      have hlc := hoc.le
      have hfl := allY_length (arrS_iff.1 kf).2.2.1
      have hgl := allY_length (arrS_iff.1 kg).2.2.1
      have hL1 := legT_length b.labels.length 0
      have hL2 := legT_length c.labels.length b.labels.length
      have hOK : BsOK [b, c] := ⟨by simp, by intro o ho; simp at ho; rcases ho with rfl | rfl; exact hob; exact hoc, by intro o ho; simp at ho; rcases ho with rfl | rfl <;> omega⟩
      refine vw_sc 1 [.pur (.tup [vObj (besideS b c), .t (tMat [legT b.labels.length 0, legT c.labels.length b.labels.length])])] ?_
      simp only [bs, Nat.reduceLeDiff, Nat.reduceAdd, vparts, gfill, repl, Sg.frzP, ↓vopx, ↓vop, Nat.reduceBEq, thenV, Nat.reduceLT, V.cells, dLoad, vpart, Sg.frzL, Sg.frz1, hl, wocs, ↓goc, ↓woc, ↓vopm1, ↓callC, calleeV, Tryd.ag25, Tryd.sl59, Tryd.sz25, Tryd.zv25, setAll_a0, setAll_b2, Nat.reduceMul, Nat.le_refl, hn6, hn7]
      repeat ((with_reducible refine And.intro ?_ ?_); · exact ⟨Tryd.is65, by have h := beside_two b c hOK; rw [bsS_two, legs_two] at h; exact h⟩)
      refine hK9 _ _ ?_
      refine vw_seq_k fun K10 hK10 => ?_
      refine vw_st fun sP hSP => ?_
      have hp14 : sP.m sN.next = some (.box 25 [.t (tStrs (besideS b c).labels), .t (tPairs (besideS b c).pairs)]) := by rw [hSP, m_set, if_pos rfl]
      have hps : ∀ j, j < sN.next → sP.m j = sN.m j := fun j hj => by rw [hSP, m_set, if_neg (by omega), m_add, if_neg (by omega)]
      have hpn : sP.next = sN.next + 1 := by rw [hSP]; rfl
      have hp5 : sP.m s.next = some (.box 25 [.t (tStrs a.labels), .t (tPairs a.pairs)]) := by rw [hps _ (by omega)]; exact hn5
      have hp10 : sP.m (s.next + 1 + 1 + 1) = some (.box 25 [.t (.v (.slice none 0 0)), .t (.v (.slice none 0 0))]) := by rw [hps _ (by omega)]; exact hn10
      clear hSP
      refine vw_sc 0 [.pur (.tup [.t (tInts (thenS f (legT b.labels.length 0)).1), Bo (thenS f (legT b.labels.length 0)).2])] ?_
      simp only [bs, Nat.reduceAdd, ↓vopx, ↓vop, Nat.reduceBEq, thenV, flat, Nat.reduceLT, dLoad, vpart, hl, h3, wocs, ↓goc, ↓woc, ↓vopm0, ↓callC, calleeV, Tryd.ag26, Tryd.sz26, Tryd.un63, Int.toNat_zero]
      repeat ((with_reducible refine And.intro ?_ ?_); · first | omega | exact ⟨Tryd.is32, then_ f (legT b.labels.length 0) (by omega) (by omega)⟩)
      refine hK10 _ _ ?_
      refine vw_seq_k fun K11 hK11 => ?_
      refine vw_sc 0 [.pur (.tup [.t (tInts (thenS g (legT c.labels.length b.labels.length)).1), Bo (thenS g (legT c.labels.length b.labels.length)).2])] ?_
      simp only [bs, Nat.reduceAdd, ↓vopx, ↓vop, Nat.reduceBEq, thenV, flat, Nat.reduceLT, dLoad, vpart, hl, h4, wocs, ↓goc, ↓woc, ↓vopm0, ↓callC, calleeV, Tryd.ag26, Tryd.sz26, Tryd.un63, Int.toNat_one]
      repeat ((with_reducible refine And.intro ?_ ?_); · first | omega | exact ⟨Tryd.is32, then_ g (legT c.labels.length b.labels.length) (by omega) (by omega)⟩)
      refine hK11 _ _ ?_
      refine vw_seq_k fun K12 hK12 => ?_
      have ht1 := thenS_le f (legT b.labels.length 0)
      have ht2 := thenS_le g (legT c.labels.length b.labels.length)
      have hol : (besideS b c).labels.length < 1000000000 := by simp only [besideS, List.length_append]; omega
      have hop : (besideS b c).pairs.length < 1000000000 := by simp only [besideS, List.length_append, List.length_map]; omega
      refine vw_sc 0 [.pur (.tup [vObj (pushE a b c f g).1, .t (tInts (pushE a b c f g).2.1), I (pushE a b c f g).2.2])] ?_
      simp only [bs, Nat.reduceAdd, ↓vopx, ↓vop, Nat.reduceBEq, thenV, Nat.reduceLT, V.cells, dLoad, vpart, hl, wocs, ↓goc, ↓woc, ↓vopm0, ↓callC, calleeV, Tryd.ag25, Tryd.sz25, Tryd.zv25, Nat.le_refl, hp5, hp14]
      repeat ((with_reducible refine And.intro ?_ ?_); · exact ⟨Tryd.is28, equal_ a (besideS b c) _ _ (by omega) (by omega) hol hop (by omega) (by omega)⟩)
      refine hK12 _ _ ?_
      refine vw_seq_k fun K13 hK13 => ?_
      refine vw_seq_k fun K14 hK14 => ?_
      refine vw_st fun sQ hSQ => ?_
      have hq20 : sQ.m sP.next = some (.box 25 [.t (tStrs (pushE a b c f g).1.labels), .t (tPairs (pushE a b c f g).1.pairs)]) := by rw [hSQ, m_set, if_pos rfl]
      have hqs : ∀ j, j < sP.next → sQ.m j = sP.m j := fun j hj => by rw [hSQ, m_set, if_neg (by omega), m_add, if_neg (by omega)]
      have hq10 : sQ.m (s.next + 1 + 1 + 1) = some (.box 25 [.t (.v (.slice none 0 0)), .t (.v (.slice none 0 0))]) := by rw [hqs _ (by omega)]; exact hp10
      have hqk : ∀ j x, j < s.next → s.m j = some x → sQ.m j = some x := fun j x hj hx => by rw [hqs _ (by omega), hps _ (by omega), hnk j hj]; exact hx
      clear hSQ
      have hql : (pushE a b c f g).2.1.length ≤ (besideS b c).labels.length := eqS_le a (besideS b c) (thenS f (legT b.labels.length 0)).1 (thenS g (legT c.labels.length b.labels.length)).1
      have hql2 : (besideS b c).labels.length = b.labels.length + c.labels.length := by simp only [besideS, List.length_append]
      have hn20 : ¬ sP.next = s.next + 1 + 1 + 1 := by omega
      refine vw_sc 0 [] ?_
      simp only [bs, ↓vopx, ↓vop, thenV, flat, Nat.reduceLT, opII, hl, wocs, ↓goc, ↓woc, ↓vopm0]
      refine hK14 _ _ ?_
      refine vw_cond_k fun A B hA hB => ?_
      simp only [condV, ev_hit, length_putv, Nat.reduceLT, bne_iff_ne, bne_eq_false_iff_eq, ne_eq, hl]
      refine ⟨fun hez => hA ?_, fun hez => hB ?_⟩
      · clear hA hB A B
        refine vw_seq_k fun K15 hK15 => ?_
        refine vw_sc 0 [] ?_
        simp only [bs, Nat.reduceAdd, vparts, gfill, ↓vopx, ↓vop, Nat.reduceBEq, thenV, flat, Nat.reduceLT, V.cells, hl, wocs, ↓goc, ↓woc, ↓vopm0, Tryd.st25, Tryd.sz25, Nat.le_refl, hq10]
        refine hK15 _ _ ?_
        refine vw_ret ?_
        have hres : vSum (pushS a b c f g) = pack [vObj ⟨[], []⟩, .t (tInts []), .t (tInts []), I (pushE a b c f g).2.2] := by simp [pushS, vSum, ka, kb, kf, kg, hez]; rfl
        rw [hres] at hQ
        refine hQ _ _ _ (.inr rfl) (done_wk (vs := [.agg [.t (.v (.slice none 0 0)), .t (.v (.slice none 0 0))], .t (.v (.slice none 0 0)), .t (.v (.slice none 0 0)), I (pushE a b c f g).2.2]) (vs' := [vObj ⟨[], []⟩, .t (tInts []), .t (tInts []), I (pushE a b c f g).2.2]) ?_ rfl (ewk_err4 _ _) (by simp [pack, nm, nm2, nm1, nm0]) ?_)
        · show vres Tryd.prog _ _ [.cell 10 25, .tmp 11, .tmp 12, .tmp 13] = _
          simp only [vres_cell, vres_tmp, vres_nil, ev_hit, ev_miss, Nat.reduceBEq, length_putv, hl, hq10, Tryd.sz25, Tryd.ag25, dLoad, m_set, vpart, if_true, Nat.reduceLT, List.drop_zero, List.take_succ_cons, List.take_zero, List.length_cons, List.length_nil, Nat.zero_add, Nat.reduceAdd]
          try rfl
        · exact fun n x hn h => by rw [m_set, if_neg (by omega)]; exact hqk n x hn h
      · clear hA hB A B
        refine vw_skip ?_
        refine hK13 _ _ ?_
        refine vw_seq_k fun K16 hK16 => ?_
        refine vw_sc 0 [.pur (.tup [.t (tInts (thenS (legT b.labels.length 0) (pushE a b c f g).2.1).1), Bo (thenS (legT b.labels.length 0) (pushE a b c f g).2.1).2])] ?_
        simp only [bs, Nat.reduceAdd, ↓vopx, ↓vop, Nat.reduceBEq, thenV, flat, Nat.reduceLT, dLoad, vpart, hl, wocs, ↓goc, ↓woc, ↓vopm0, ↓callC, calleeV, Tryd.ag26, Tryd.sz26, Tryd.un63, Int.toNat_zero]
        repeat ((with_reducible refine And.intro ?_ ?_); · first | omega | exact ⟨Tryd.is32, then_ (legT b.labels.length 0) (pushE a b c f g).2.1 (by omega) (by omega)⟩)
        refine hK16 _ _ ?_
        refine vw_seq_k fun K17 hK17 => ?_
        refine vw_sc 0 [.pur (.tup [.t (tInts (thenS (legT c.labels.length b.labels.length) (pushE a b c f g).2.1).1), Bo (thenS (legT c.labels.length b.labels.length) (pushE a b c f g).2.1).2])] ?_
        simp only [bs, Nat.reduceAdd, ↓vopx, ↓vop, Nat.reduceBEq, thenV, flat, Nat.reduceLT, dLoad, vpart, hl, wocs, ↓goc, ↓woc, ↓vopm0, ↓callC, calleeV, Tryd.ag26, Tryd.sz26, Tryd.un63, Int.toNat_one]
        repeat ((with_reducible refine And.intro ?_ ?_); · first | omega | exact ⟨Tryd.is32, then_ (legT c.labels.length b.labels.length) (pushE a b c f g).2.1 (by omega) (by omega)⟩)
        refine hK17 _ _ ?_
        refine vw_seq_k fun K18 hK18 => ?_
        refine vw_sc 0 [] ?_
        simp only [bs, Nat.reduceAdd, ↓vopx, ↓vop, Nat.reduceBEq, thenV, flat, Nat.reduceLT, V.cells, dLoad, vpart, hl, wocs, ↓goc, ↓woc, ↓vopm0, Tryd.ag25, Tryd.sz25, Nat.le_refl, hq20, hq10]
        refine hK18 _ _ ?_
        refine vw_ret ?_
        have hres : vSum (pushS a b c f g) = pack [vObj (pushE a b c f g).1, .t (tInts (thenS (legT b.labels.length 0) (pushE a b c f g).2.1).1), .t (tInts (thenS (legT c.labels.length b.labels.length) (pushE a b c f g).2.1).1), I 0] := by simp [pushS, vSum, ka, kb, kf, kg, hez]; rfl
        rw [hres] at hQ
        refine hQ _ _ _ (.inr rfl) ?_
        refine done_flat (vs := [vObj (pushE a b c f g).1, .t (tInts (thenS (legT b.labels.length 0) (pushE a b c f g).2.1).1), .t (tInts (thenS (legT c.labels.length b.labels.length) (pushE a b c f g).2.1).1), I 0]) ?_ rfl (by simp [pack, nm, nm2, nm1, nm0]) (fun n x hn h => by rw [m_set, if_neg (by omega)]; exact hqk n x hn h)
        show vres Tryd.prog _ _ [.cell 10 25, .tmp 11, .tmp 12, .tmp 13] = _
        simp only [vres_cell, vres_tmp, vres_nil, ev_hit, ev_miss, Nat.reduceBEq, length_putv, hl, hq10, Tryd.sz25, Tryd.ag25, dLoad, m_set, vpart, if_true, Nat.reduceLT, List.drop_zero, List.take_succ_cons, List.take_zero, List.length_cons, List.length_nil, Nat.zero_add, Nat.reduceAdd]

end Go.Proofs

open Go Go.V
namespace Go.Proofs

/-- while labels are told -/
structure LaI (s : Sg) (o : Ob) (L : List Int) (i m7 : Nat) (s' : Sg) : Prop where
  b2 : s'.m s.next = some (.box 25 [.t (tStrs o.labels), .t (tPairs o.pairs)])
  b4 : s'.m (s.next + 1) = some (.box 25 [.t (.v (.slice none 0 0)), .t (.v (.slice none 0 0))])
  a7 : s'.m m7 = some (.arr 1 9 ((glLab o L i).map TS))
  same : ∀ j, j < s.next → s'.m j = s.m j
  lo : s.next + 2 ≤ m7
  hi : m7 < s'.next
theorem glLab_old {o : Ob} {L : List Int} {i : Nat} {z : Int} (hz : L[i]? = some z) (h : z ≠ (glLab o L i).length) : glLab o L (i + 1) = glLab o L i := by
  have hg := getD_of hz
  unfold glLab at h ⊢
  rw [List.length_map] at h
  show List.map _ (if L.getD i 0 = (fstL L i).length then fstL L i ++ [i] else fstL L i) = _
  rw [hg, if_neg h]
theorem glLab_new {o : Ob} {L : List Int} {i : Nat} {z : Int} {lb : ByteArray} (hz : L[i]? = some z) (h : z = (glLab o L i).length) (hl : o.labels[i]? = some lb) : glLab o L (i + 1) = glLab o L i ++ [lb] := by
  have hg := getD_of hz
  unfold glLab at h ⊢
  rw [List.length_map] at h
  show List.map _ (if L.getD i 0 = (fstL L i).length then fstL L i ++ [i] else fstL L i) = _
  rw [hg, if_pos h]
  simp [List.getD_eq_getElem?_getD, hl]
theorem glLab_length (o : Ob) (L : List Int) (i : Nat) : (glLab o L i).length = (fstL L i).length := by simp [glLab]
theorem LaI.old {s : Sg} {o : Ob} {L : List Int} {i m7 : Nat} {s' : Sg} (h : LaI s o L i m7 s') {z : Int} (hz : L[i]? = some z) (hn : z ≠ (glLab o L i).length) : ∃ m, V.loc m7 0 (glLab o L i).length = .loc m 0 (glLab o L (i + 1)).length ∧ LaI s o L (i + 1) m s' := by
  refine ⟨m7, ?_, ?_⟩
  · rw [glLab_old hz hn]
  · obtain ⟨h1, h2, h3, h4, h5, h6⟩ := h
    exact ⟨h1, h2, by rw [glLab_old hz hn]; exact h3, h4, h5, h6⟩
theorem LaI.new {s : Sg} {o : Ob} {L : List Int} {i m7 : Nat} {s' : Sg} (h : LaI s o L i m7 s') {z : Int} {lb : ByteArray} (hz : L[i]? = some z) (hn : z = (glLab o L i).length) (hl : o.labels[i]? = some lb) (B : Blk) : ∃ m, V.loc (s'.next + 1) 0 ((glLab o L i).length + 1) = .loc m 0 (glLab o L (i + 1)).length ∧ LaI s o L (i + 1) m (((s'.add B).del m7).add (.arr 1 9 ((glLab o L i).map TS ++ [TS lb]))) := by
  have hlo := h.lo
  have hhi := h.hi
  have hfr : ∀ x, x < s'.next → x ≠ m7 → (((s'.add B).del m7).add (.arr 1 9 ((glLab o L i).map TS ++ [TS lb]))).m x = s'.m x := fun x h1 h2 => by
    rw [m_add, if_neg (by simp only [n_del, n_add]; omega), m_del, if_neg h2, m_add, if_neg (by omega)]
  refine ⟨s'.next + 1, ?_, ?_, ?_, ?_, fun j hj => ?_, by omega, by simp only [n_del, n_add]; omega⟩
  · rw [glLab_new hz hn hl, List.length_append]; rfl
  · rw [hfr _ (by omega) (by omega)]; exact h.b2
  · rw [hfr _ (by omega) (by omega)]; exact h.b4
  · rw [m_add, if_pos (by simp only [n_del, n_add]), glLab_new hz hn hl, List.map_append]; rfl
  · rw [hfr _ (by omega) (by omega)]; exact h.same j hj

set_option maxRecDepth 20000 in
set_option maxHeartbeats 4000000 in
theorem glued_ (s : Sg) (p m : Nat) (l : List Int) (hu : RefU s p m l) (hwf : wfU l) (o : Ob) (ho : IsOb o) (hpo : o.pairs.length < 1000000000) (hll : l.length = o.labels.length) : DCall Tryd.prog 68 [vObj o, .ptr p 0] s (.tup [vObj (gluedS o (placesL l)), .t (tInts (placesL l))]) (s) := by
  refine dcall_of_body Tryd.func68 rfl fun Q hQ => ?_
  obtain ⟨e, he, hl, h0, h1⟩ : ∃ e : Env, ([vObj o, .ptr p 0] ++ List.replicate (Tryd.f68.ntmps - ([vObj o, .ptr p 0] : List V).length) .junk) = e ∧ e.length = 73 ∧ ev e (.tmp 0) = vObj o ∧ ev e (.tmp 1) = .ptr p 0 := ⟨_, rfl, rfl, rfl, rfl⟩
  rw [he]
  clear he
  have hle := ho.le
  obtain ⟨L, hL⟩ : ∃ L, L = placesL l := ⟨_, rfl⟩
  have hLl : L.length = l.length := by rw [hL, placesL_length]
  have hok : PlOK L := by rw [hL]; exact places_ok hwf
  rw [← hL] at hQ
  refine vw_seq_k fun K1 hK1 => ?_
  refine vw_sc 0 [] ?_
  simp only [bs, ↓vopx, ↓vop, thenV, flat, V.cells, h0, wocs, ↓goc, ↓woc, ↓vopm0, Tryd.zv25]
  refine hK1 _ _ ?_
  refine vw_seq_k fun K2 hK2 => ?_
  refine vw_st fun sa hSa => ?_
  have ha2 : sa.m s.next = some (.box 25 [.t (tStrs o.labels), .t (tPairs o.pairs)]) := by rw [hSa, m_add, if_neg (by rw [n_add]; omega), m_add, if_pos rfl]
  have ha4 : sa.m (s.next + 1) = some (.box 25 [.t (.v (.slice none 0 0)), .t (.v (.slice none 0 0))]) := by rw [hSa, m_add, if_pos (by rw [n_add])]
  have han : sa.next = s.next + 2 := by rw [hSa]; rfl
  have hak : ∀ j, j < s.next → sa.m j = s.m j := fun j hj => by rw [hSa, m_add, if_neg (by rw [n_add]; omega), m_add, if_neg (by omega)]
  have hua : RefU sa p m l := hu.keep (fun n b hn hb => by rw [hak n hn]; exact hb) (by omega)
  clear hSa
  refine vw_sc 0 [.stop] ?_
  simp only [bs, ↓vopx, ↓vop, Nat.reduceBEq, thenV, Nat.reduceLT, hl, h1, wocs, ↓goc, ↓woc, ↓vopm0, ↓callC, calleeV]
  refine ⟨Tryd.is90, DCall.v (refPlaces_ sa p m l hua (by omega) hwf) ?_⟩
  rw [← hL]
  try simp only [bs, Nat.reduceBEq, Nat.reduceLT, hl, h1, Hold]
  refine hK2 _ _ ?_
  refine vw_seq_k fun K3 hK3 => ?_
  refine vw_sc 0 [] ?_
  simp only [bs, ↓vopx, ↓vop, thenV, flat, wocs, ↓goc, ↓woc, ↓vopm0]
  refine hK3 _ _ ?_
  refine vw_seq_k fun K4 hK4 => ?_
  refine vw_seq_k fun K5 hK5 => ?_
  refine VW.name 7 1 9 (by omega) ?_ ?_
  · try simp only [ev_hit, length_putv, hl, Nat.reduceLT]
  refine vw_st fun sb hSb => ?_
  have hLa : LaI s o L 0 sa.next sb := ⟨by rw [hSb, m_add, if_neg (by omega)]; exact ha2, by rw [hSb, m_add, if_neg (by omega)]; exact ha4, by rw [hSb, m_add, if_pos rfl]; rfl, fun j hj => by rw [hSb, m_add, if_neg (by omega)]; exact hak j hj, by omega, by rw [hSb, n_add]; omega⟩
  clear hSb
  refine vw_sc 0 [] ?_
  simp only [bs, ↓vopx, ↓vop, thenV, flat, wocs, ↓goc, ↓woc, ↓vopm0]
  refine hK5 _ _ ?_
  refine vw_block ?_
  refine vw_loop (fun mm e' s' => ∃ i : Nat, mm = L.length - i ∧ i ≤ L.length ∧ e'.length = 73 ∧ ev e' (.tmp 2) = .ptr s.next 0 ∧ ev e' (.tmp 4) = .ptr (s.next + 1) 0 ∧ ev e' (.tmp 6) = .t (tInts L) ∧ ev e' (.tmp 8) = I i ∧ True ∧ ∃ m7, ev e' (.tmp 7) = .loc m7 0 (glLab o L i).length ∧ LaI s o L i m7 s') (⟨0, rfl, Nat.zero_le _, ?_⟩) ?_
  · try simp only [ev_hit, ev_miss, Nat.reduceBEq, length_putv, hl, Nat.reduceLT, true_and]
    repeat ((with_reducible refine And.intro ?_ ?_); · trivial)
    exact ⟨_, rfl, hLa⟩
  rintro mm e s1 ⟨i, rfl, hle_i, hl, k2, k4, k6, h_i, hst, ⟨m7, k7, hLa⟩⟩
  refine vw_seq_k fun K6 hK6 => ?_
  refine vw_seq_k fun K7 hK7 => ?_
  refine vw_sc 0 [] ?_
  simp only [bs, ↓vopx, ↓vop, Nat.reduceBEq, thenV, Nat.reduceLT, opII, hl, k6, h_i, wocs, ↓goc, ↓woc, ↓vopm0, len_tInts]
  refine hK7 _ _ ?_
  refine vw_cond_k fun A B hA hB => ?_
  simp only [condV, ev_hit, length_putv, Nat.reduceLT, decide_eq_true_eq, decide_eq_false_iff_not, hl]
  refine ⟨fun hc16 => hA ?_, fun hc16 => hB ?_⟩
  · clear hA hB A B
    refine vw_skip ?_
    refine hK6 _ _ ?_
    refine vw_seq_k fun K8 hK8 => ?_
    refine vw_block ?_
    refine vw_seq_k fun K9 hK9 => ?_
    have hlt : i < L.length := by omega
    obtain ⟨z, hz⟩ : ∃ z, L[i]? = some z := ⟨_, List.getElem?_eq_getElem hlt⟩
    refine vw_sc 0 [] ?_
    simp only [bs, ↓vopx, ↓vop, Nat.reduceBEq, thenV, Nat.reduceLT, dLoad, vpart, opII, hl, k6, h_i, k7, wocs, ↓goc, ↓woc, ↓vopm0, Tryd.ag3, Tryd.sz3, Tryd.un26, hz]
    repeat ((with_reducible refine And.intro ?_ ?_); · (with_reducible assumption))
    refine hK9 _ _ ?_
    refine vw_cond_k fun A B hA hB => ?_
    simp only [condV, ev_hit, length_putv, Nat.reduceLT, beq_iff_eq, beq_eq_false_iff_ne, ne_eq, hl]
    refine ⟨fun hzc => hA ?_, fun hzc => hB ?_⟩
    · clear hA hB A B
      obtain ⟨lb, hlb⟩ : ∃ lb, o.labels[i]? = some lb := ⟨_, List.getElem?_eq_getElem (by omega)⟩
      have hb2 := hLa.b2
      have ha7 := hLa.a7
      have hsm := glLab_length o L i
      have hfs := fst_le L i
      have n1 : ¬ m7 = s1.next := by have := hLa.hi; omega
      have n2 : ¬ s.next = s1.next := by have := hLa.hi; have := hLa.lo; omega
      have hil : i < o.labels.length := by omega
      refine vw_sc 0 [] ?_
      simp only [bs, dstT, srcT, Nat.reduceLeDiff, vparts, gfill, repl, Sg.frzP, ↓vopx, ↓vop, Nat.reduceBEq, thenV, blockV, Nat.reduceLT, V.cells, dLoad, vpart, Sg.frzL, Sg.frz1, hl, k2, h_i, k7, wocs, ↓goc, ↓woc, ↓vopm0, Tryd.ag22, Tryd.ag9, Tryd.fd25_0, Tryd.sl22, Tryd.sz22, Tryd.sz9, Tryd.un22, hb2, ha7, n1, hlb, Nat.div_one]
      repeat ((with_reducible refine And.intro ?_ ?_); · first | (with_reducible assumption) | omega)
      refine hK8 _ _ ?_
      refine vw_sc 0 [] ?_
      simp only [bs, ↓vopx, ↓vop, Nat.reduceBEq, thenV, flat, Nat.reduceLT, opII, hl, k2, k4, k6, h_i, wocs, ↓goc, ↓woc, ↓vopm0]
      repeat ((with_reducible refine And.intro ?_ ?_); · exact ⟨by omega, by omega⟩)
      refine ⟨L.length - (i + 1), by omega, i + 1, rfl, by omega, ?_⟩
      try simp only [ev_hit, ev_miss, Nat.reduceBEq, length_putv, hl, k2, k4, k6, h_i, k7, if_true, if_false, Nat.reduceEqDiff, Nat.reduceLT, true_and, and_true]
      repeat ((with_reducible refine And.intro ?_ ?_); · trivial)
      first
        | exact hLa.old hz hzc
        | exact hLa.new hz hzc hlb _
    · clear hA hB A B
      refine vw_skip ?_
      refine hK8 _ _ ?_
      refine vw_sc 0 [] ?_
      simp only [bs, ↓vopx, ↓vop, Nat.reduceBEq, thenV, flat, Nat.reduceLT, opII, hl, k2, k4, k6, h_i, k7, wocs, ↓goc, ↓woc, ↓vopm0]
      repeat ((with_reducible refine And.intro ?_ ?_); · exact ⟨by omega, by omega⟩)
      refine ⟨L.length - (i + 1), by omega, i + 1, rfl, by omega, ?_⟩
      try simp only [ev_hit, ev_miss, Nat.reduceBEq, length_putv, hl, k2, k4, k6, h_i, k7, if_true, if_false, Nat.reduceEqDiff, Nat.reduceLT, true_and, and_true]
      repeat ((with_reducible refine And.intro ?_ ?_); · trivial)
      first
        | exact hLa.old hz hzc
        | exact hLa.new hz hzc hlb _
  · clear hA hB A B
    have han2 : L.length = i := by omega
    refine vw_exit ?_
    simp only [thenV, blockV, if_true]
    refine hK4 _ _ ?_
    refine vw_seq_k fun K10 hK10 => ?_
    rw [← han2] at hLa k7
    have hla7 := hLa.a7
    have hl7 := hLa.lo
    have hh7 := hLa.hi
    refine VW.freeze 7 (n := m7) (len := (glLab o L L.length).length) (k := 1) (el := 9) (cs := (glLab o L L.length).map TS) ?_ hla7 (by simp) ?_
    · try simp only [ev_miss, Nat.reduceBEq, k7]
    refine vw_st fun sF hSF => ?_
    have hF2 : sF.m s.next = some (.box 25 [.t (tStrs o.labels), .t (tPairs o.pairs)]) := by rw [hSF, m_del, if_neg (by omega)]; exact hLa.b2
    have hF4 : sF.m (s.next + 1) = some (.box 25 [.t (.v (.slice none 0 0)), .t (.v (.slice none 0 0))]) := by rw [hSF, m_del, if_neg (by omega)]; exact hLa.b4
    have hFk : ∀ j, j < s.next → sF.m j = s.m j := fun j hj => by rw [hSF, m_del, if_neg (by omega)]; exact hLa.same j hj
    have hFn : s.next + 2 ≤ sF.next := by rw [hSF, n_del]; omega
    clear hSF
    have hgn : (glLab o L L.length).length = glN L := by rw [glLab_length]; rfl
    have hg40 : glN L ≤ 40 := by have := fst_le L L.length; show (fstL L L.length).length ≤ 40; omega
    refine vw_sc 0 [.stop] ?_
    simp only [bs, ↓vopx, ↓vop, thenV, Nat.reduceLT, hl, wocs, ↓goc, ↓woc, ↓vopm0, ↓callC, calleeV, len_tStrs, hgn]
    refine ⟨Tryd.is91, (refNew_ sF (glN L)).mono fun v s2 hv => ?_⟩
    rw [newN_nat (by omega)] at hv
    obtain ⟨c, o1, r1, rfl, hR, hFr, hk, hnx⟩ := hv
    try simp only [bs, Nat.reduceLT, hl, Hold]
    refine hK10 _ _ ?_
    refine vw_seq_k fun K11 hK11 => ?_
    refine vw_seq_k fun K12 hK12 => ?_
    refine vw_sc 0 [] ?_
    simp only [bs, ↓vopx, ↓vop, thenV, flat, wocs, ↓goc, ↓woc, ↓vopm0]
    refine hK12 _ _ ?_
    refine vw_block ?_
    refine vw_loop (fun mm e' s' => ∃ j : Nat, mm = o.pairs.length - j ∧ j ≤ o.pairs.length ∧ e'.length = 73 ∧ ev e' (.tmp 2) = .ptr s.next 0 ∧ ev e' (.tmp 4) = .ptr (s.next + 1) 0 ∧ ev e' (.tmp 6) = .t (tInts L) ∧ ev e' (.tmp 7) = .t (tStrs (glLab o L L.length)) ∧ ev e' (.tmp 9) = .ptr c 0 ∧ ev e' (.tmp 10) = I j ∧ True ∧ RefR s' c (glN L) (mxOf ((o.pairs.map (mpP L)).take j)) o1 r1 ∧ Keep sF s' ∧ sF.next ≤ s'.next) (⟨0, rfl, Nat.zero_le _, ?_⟩) ?_
    · try simp only [ev_hit, ev_miss, Nat.reduceBEq, length_putv, hl, k2, k4, k6, Nat.reduceLT, true_and]
      repeat ((with_reducible refine And.intro ?_ ?_); · trivial)
      first | exact hnx | exact ⟨hR.congr fun x y hx hy => by simp [mxOf], hk, hnx⟩
    rintro mm e s1 ⟨j, rfl, hle_j, hl, q2, q4, q6, q7, q9, h_j, hst, ⟨hd, hkeep, hnx2⟩⟩
    refine vw_seq_k fun K13 hK13 => ?_
    refine vw_seq_k fun K14 hK14 => ?_
    have hb2 := hkeep _ _ (by omega) hF2
    refine vw_sc 0 [] ?_
    simp only [bs, ↓vopx, ↓vop, Nat.reduceBEq, thenV, Nat.reduceLT, dLoad, vpart, opII, hl, q2, h_j, wocs, ↓goc, ↓woc, ↓vopm0, Tryd.ag23, Tryd.fd25_1, Tryd.sz23, Tryd.un23, len_tPairs, hb2]
    refine hK14 _ _ ?_
    refine vw_cond_k fun A B hA hB => ?_
    simp only [condV, ev_hit, length_putv, Nat.reduceLT, decide_eq_true_eq, decide_eq_false_iff_not, hl]
    refine ⟨fun hc41 => hA ?_, fun hc41 => hB ?_⟩
    · clear hA hB A B
      refine vw_skip ?_
      refine hK13 _ _ ?_
      refine vw_seq_k fun K15 hK15 => ?_
      refine vw_block ?_
      have hlt : j < o.pairs.length := by omega
      obtain ⟨p, hp⟩ : ∃ p, o.pairs[j]? = some p := ⟨_, List.getElem?_eq_getElem hlt⟩
      have g0 := getP0 hp
      have g1 := getP1 hp
      have hfl := flat_length o.pairs
      have hin : (0 ≤ p.1 ∧ p.1 < o.labels.length) ∧ (0 ≤ p.2 ∧ p.2 < o.labels.length) := inB_iff.1 ((List.all_eq_true.1 ho.inb) p (List.mem_of_getElem? hp))
      obtain ⟨za, hza⟩ : ∃ z, L[p.1.toNat]? = some z := ⟨_, List.getElem?_eq_getElem (by omega)⟩
      obtain ⟨zb, hzb⟩ : ∃ z, L[p.2.toNat]? = some z := ⟨_, List.getElem?_eq_getElem (by omega)⟩
      have hla := hok.lt hza
      have hlb := hok.lt hzb
      obtain ⟨a, rfl⟩ : ∃ a : Nat, za = (a : Int) := ⟨za.toNat, by omega⟩
      obtain ⟨b, rfl⟩ : ∃ b : Nat, zb = (b : Int) := ⟨zb.toNat, by omega⟩
      have hmp : mpP L p = ((a : Int), (b : Int)) := by simp only [mpP, getD_of hza, getD_of hzb]
      have hp2k : (o.pairs.map (mpP L))[j]? = some ((a : Int), (b : Int)) := by rw [List.getElem?_map, hp, ← hmp]; rfl
      have xv : outV (glN L) o1 = .loc o1 0 (glN L) := by simp [outV, show ¬ glN L = 0 from by omega]
      have xo := hd.ho (by omega)
      have xr := hd.hr a (by omega)
      have xg : (List.range (glN L))[a]? = some a := List.getElem?_range (by omega)
      refine vw_chain Tryd.mixed 24 [0, 0, 0, 1, 0, 0, 1, 0, 1, 0, 1, 1, 1, 1, 1, 0, 0, 1, 0, 1, 0, 1, 1, 1] [] [] 0 (by decide +kernel) (by simp [length_putv, hl]) rfl ?_
      simp only [bs, dSure, ↓vopx, ↓vop, Nat.reduceBEq, thenV, blockV, flat, Nat.reduceLT, V.cells, dLoad, vpart, Sg.frzL, Sg.frz1, hl, q2, q6, q9, h_j, wocs, ↓goc, ↓woc, ↓vopm0, ↓vopm1, chn, ↓goq, ↓woq, List.zip_cons_cons, List.zip_nil_right, Tryd.ag117, Tryd.ag23, Tryd.ag3, Tryd.ag49, Tryd.fd119_1, Tryd.fd25_1, Tryd.fd84_0, Tryd.fd84_1, Tryd.sz117, Tryd.sz23, Tryd.sz3, Tryd.sz4, Tryd.sz49, Tryd.sz84, Tryd.un117, Tryd.un23, Tryd.un26, Tryd.un49, xv, xo, xr, xg, g0, g1, hfl, hd.hp, bRow_length, hza, hzb, hb2]
      repeat ((with_reducible refine And.intro ?_ ?_); · omega)
      refine hK15 _ _ ?_
      refine vw_sc 0 [] ?_
      simp only [bs, ↓vopx, ↓vop, Nat.reduceBEq, thenV, flat, Nat.reduceLT, opII, hl, q2, q4, q6, q7, q9, h_j, wocs, ↓goc, ↓woc, ↓vopm0]
      repeat ((with_reducible refine And.intro ?_ ?_); · exact ⟨by omega, by omega⟩)
      refine ⟨o.pairs.length - (j + 1), by omega, j + 1, rfl, by omega, ?_⟩
      try simp only [ev_hit, ev_miss, Nat.reduceBEq, length_putv, hl, q2, q4, q6, q7, q9, h_j, if_true, if_false, Nat.reduceEqDiff, Nat.reduceLT, true_and, and_true]
      repeat ((with_reducible refine And.intro ?_ ?_); · trivial)
      exact ⟨by rw [mxOf_take hp2k, updM_or]; exact hd.put (by omega) (by omega) true, hkeep.set (hFr.hr _ (by omega)) _, hnx2⟩
    · clear hA hB A B
      have han3 : o.pairs.length = j := by omega
      refine vw_exit ?_
      simp only [thenV, blockV, if_true]
      refine hK11 _ _ ?_
      refine vw_seq_k fun K16 hK16 => ?_
      have hb4 := hkeep _ _ (by omega) hF4
      rw [← han3, List.take_of_length_le (by simp), glMx_eq] at hd
      refine vw_sc 0 [.stop] ?_
      simp only [bs, ↓vopx, ↓vop, Nat.reduceBEq, thenV, Nat.reduceLT, V.cells, hl, q7, q9, wocs, ↓goc, ↓woc, ↓vopm0, ↓callC, calleeV]
      refine ⟨Tryd.is92, DCall.v (refMake_ s1 (glLab o L L.length) (by omega) c (glN L) _ o1 r1 hd) ?_⟩
      try simp only [bs, Nat.reduceAdd, Nat.reduceBEq, Nat.reduceLT, hl, q4, q6, q7, q9, Tryd.sz25, hb4, Hold]
      refine hK16 _ _ ?_
      refine vw_ret ?_
      refine hQ _ _ _ (.inr rfl) (Done.toS ?_)
      refine done_flat (vs := [vObj (gluedS o L), .t (tInts L)]) ?_ rfl (by simp [pack, nm, nm2, nm1, nm0]) (fun n b hn h => by rw [m_set, if_neg (by omega)]; exact hkeep n b (by omega) (by rw [hFk n hn]; exact h))
      show vres Tryd.prog _ _ [.cell 4 25, .tmp 5] = _
      simp only [vres_cell, vres_tmp, vres_nil, ev_hit, ev_miss, Nat.reduceBEq, length_putv, hl, q4, Tryd.sz25, Tryd.ag25, dLoad, m_set, vpart, if_true, Nat.reduceLT, List.drop_zero, List.take_succ_cons, List.take_zero, List.length_cons, List.length_nil, Nat.zero_add, Nat.reduceAdd]
      rfl

end Go.Proofs

open Go Go.V
namespace Go.Proofs

theorem wfU_join {l : List Int} (h : wfU l) (a b : Nat) : wfU (joinL l a b) := fun i z hz => by
  have nn : ∀ j, 0 ≤ l.getD j 0 := fun j => by
    rw [List.getD_eq_getElem?_getD]
    cases hh : l[j]? with
    | none => exact Int.le_refl _
    | some v => exact (h j v hh).1
  unfold joinL at hz
  rw [List.getElem?_map] at hz
  obtain ⟨w, hw, rfl⟩ := Option.map_eq_some_iff.1 hz
  have h1 := h i w hw
  have h2 := nn a
  have h3 := nn b
  split <;> omega
theorem wfU_range (n : Nat) : wfU (rangeI n) := fun i z hz => by
  have hi : i < n := by have := (List.getElem?_eq_some_iff.1 hz).1; rwa [rangeI_length] at this
  have : (rangeI n)[i]? = some (i : Int) := by simp [rangeI, hi]
  rw [this] at hz; cases hz
  omega
theorem wfU_joins (n : Nat) (f g : List Int) : ∀ i, wfU (joinsL (rangeI n) f g i)
  | 0 => wfU_range n
  | i + 1 => wfU_join (wfU_joins n f g i) _ _
theorem largeS_one (b : Ob) : largeS [b] = decide (40 < b.labels.length) := by simp [largeS, sumT]
theorem largeS_two (b c : Ob) : largeS [b, c] = decide (40 < b.labels.length + c.labels.length) := by simp [largeS, sumT]

set_option maxRecDepth 20000 in
set_option maxHeartbeats 4000000 in
theorem refEqual_ (a b : Ob) (f g : List Int) (ha1 : a.labels.length < 1000000000) (ha2 : a.pairs.length < 1000000000) (hb1 : b.labels.length < 1000000000) (hb2 : b.pairs.length < 1000000000) (hf : f.length < 100000000) (hg : g.length < 100000000) : PCall Tryd.prog 29 [vObj a, vObj b, .t (tInts f), .t (tInts g)] (vEq (eqS a b f g)) := by
  refine pcall_of_body Tryd.func29 rfl fun s Q hQ => ?_
  obtain ⟨e, he, hl, h0, h1, h2, h3⟩ : ∃ e : Env, ([vObj a, vObj b, .t (tInts f), .t (tInts g)] ++ List.replicate (Tryd.f29.ntmps - ([vObj a, vObj b, .t (tInts f), .t (tInts g)] : List V).length) .junk) = e ∧ e.length = 67 ∧ ev e (.tmp 0) = vObj a ∧ ev e (.tmp 1) = vObj b ∧ ev e (.tmp 2) = .t (tInts f) ∧ ev e (.tmp 3) = .t (tInts g) := ⟨_, rfl, rfl, rfl, rfl, rfl, rfl⟩
  rw [he]
  clear he
  have nn1 : ¬ s.next = s.next + 1 + 1 := by omega
  have nn2 : ¬ s.next + 1 = s.next + 1 + 1 := by omega
  have nn3 : ¬ s.next + 1 + 1 = s.next := by omega
  have nn4 : ¬ s.next + 1 + 1 = s.next + 1 := by omega
  refine vw_seq_k fun K1 hK1 => ?_
  refine vw_sc 0 [] ?_
  simp only [bs, ↓vopx, ↓vop, Nat.reduceBEq, thenV, flat, V.cells, h0, h1, wocs, ↓goc, ↓woc, ↓vopm0, Tryd.zv25]
  refine hK1 _ _ ?_
  refine vw_seq_k fun K2 hK2 => ?_
  refine vw_seq_k fun K3 hK3 => ?_
  rcases (show (a.labels.length : Int) > 40 ∨ (¬ (a.labels.length : Int) > 40 ∧ (b.labels.length : Int) > 40) ∨ (¬ (a.labels.length : Int) > 40 ∧ ¬ (b.labels.length : Int) > 40) by omega) with qa | ⟨qa, qb⟩ | ⟨qa, qb⟩
  · have ka : largeS [a] = true := by rw [largeS_one]; exact decide_eq_true (by omega)
    refine vw_sc 0 [] ?_
    simp only [bs, ↓vopx, ↓vop, Nat.reduceBEq, thenV, flat, Nat.reduceLT, dLoad, vpart, opII, gtmp, hl, wocs, ↓goc, ↓woc, ↓vopm0, ↓pick_tf, Tryd.ag22, Tryd.fd25_0, Tryd.sz22, Tryd.un22, nn1, len_tStrs, qa]
    refine hK3 _ _ ?_
    refine vw_cond_k fun A B hA hB => ?_
    simp only [condV, ev_hit, length_putv, Nat.reduceLT, true_implies, reduceCtorEq, false_implies, and_true, hl]
    refine hA ?_
    clear hA hB A B
    refine vw_seq_k fun K4 hK4 => ?_
    refine vw_sc 0 [] ?_
    simp only [bs, Nat.reduceAdd, vparts, gfill, ↓vopx, ↓vop, Nat.reduceBEq, thenV, flat, Nat.reduceLT, V.cells, hl, wocs, ↓goc, ↓woc, ↓vopm0, Tryd.st25, Tryd.sz25, nn3, nn4, Nat.le_refl]
    refine hK4 _ _ ?_
    refine vw_ret ?_
    have hres : vEq (eqS a b f g) = pack [vObj ⟨[], []⟩, .t (tInts []), I 11] := by simp [eqS, vEq, ka]; rfl
    rw [hres] at hQ
    refine hQ _ _ _ (.inr rfl) (done_wk (vs := [.agg [.t (.v (.slice none 0 0)), .t (.v (.slice none 0 0))], .t (.v (.slice none 0 0)), I 11]) (vs' := [vObj ⟨[], []⟩, .t (tInts []), I 11]) ?_ rfl (ewk_err3 _ _) (by simp [pack, nm, nm2, nm1, nm0]) ?_)
    · show vres Tryd.prog _ _ [.cell 8 25, .tmp 9, .tmp 10] = _
      simp only [vres_cell, vres_tmp, vres_nil, ev_hit, ev_miss, Nat.reduceBEq, length_putv, hl, Tryd.sz25, Tryd.ag25, dLoad, m_set, m_add, vpart, if_true, Nat.reduceLT, List.drop_zero, List.take_succ_cons, List.take_zero, List.length_cons, List.length_nil, Nat.zero_add, Nat.reduceAdd]
      try rfl
    · exact fun n b hn h => by simp [Sg.add, Sg.set, show n ≠ s.next by omega, show n ≠ s.next + 1 by omega, show n ≠ s.next + 2 by omega, h]
  · have kb : largeS [b] = true := by rw [largeS_one]; exact decide_eq_true (by omega)
    refine vw_sc 0 [] ?_
    simp only [bs, ↓vopx, ↓vop, Nat.reduceBEq, thenV, flat, Nat.reduceLT, dLoad, vpart, opII, gtmp, hl, wocs, ↓goc, ↓woc, ↓vopm0, ↓pick_ff, Tryd.ag22, Tryd.fd25_0, Tryd.sz22, Tryd.un22, nn1, nn2, len_tStrs, qa, qb]
    refine hK3 _ _ ?_
    refine vw_cond_k fun A B hA hB => ?_
    simp only [condV, ev_hit, length_putv, Nat.reduceLT, true_implies, reduceCtorEq, false_implies, and_true, hl]
    refine hA ?_
    clear hA hB A B
    refine vw_seq_k fun K5 hK5 => ?_
    refine vw_sc 0 [] ?_
    simp only [bs, Nat.reduceAdd, vparts, gfill, ↓vopx, ↓vop, Nat.reduceBEq, thenV, flat, Nat.reduceLT, V.cells, hl, wocs, ↓goc, ↓woc, ↓vopm0, Tryd.st25, Tryd.sz25, nn3, nn4, Nat.le_refl]
    refine hK5 _ _ ?_
    refine vw_ret ?_
    have hres : vEq (eqS a b f g) = pack [vObj ⟨[], []⟩, .t (tInts []), I 11] := by simp [eqS, vEq, kb]; rfl
    rw [hres] at hQ
    refine hQ _ _ _ (.inr rfl) (done_wk (vs := [.agg [.t (.v (.slice none 0 0)), .t (.v (.slice none 0 0))], .t (.v (.slice none 0 0)), I 11]) (vs' := [vObj ⟨[], []⟩, .t (tInts []), I 11]) ?_ rfl (ewk_err3 _ _) (by simp [pack, nm, nm2, nm1, nm0]) ?_)
    · show vres Tryd.prog _ _ [.cell 8 25, .tmp 9, .tmp 10] = _
      simp only [vres_cell, vres_tmp, vres_nil, ev_hit, ev_miss, Nat.reduceBEq, length_putv, hl, Tryd.sz25, Tryd.ag25, dLoad, m_set, m_add, vpart, if_true, Nat.reduceLT, List.drop_zero, List.take_succ_cons, List.take_zero, List.length_cons, List.length_nil, Nat.zero_add, Nat.reduceAdd]
      try rfl
    · exact fun n b hn h => by simp [Sg.add, Sg.set, show n ≠ s.next by omega, show n ≠ s.next + 1 by omega, show n ≠ s.next + 2 by omega, h]
  · have ka : largeS [a] = false := by rw [largeS_one]; exact decide_eq_false (by omega)
    have kb : largeS [b] = false := by rw [largeS_one]; exact decide_eq_false (by omega)
    refine vw_sc 0 [] ?_
    simp only [bs, ↓vopx, ↓vop, Nat.reduceBEq, thenV, flat, Nat.reduceLT, dLoad, vpart, opII, gtmp, hl, wocs, ↓goc, ↓woc, ↓vopm0, ↓pick_ff, Tryd.ag22, Tryd.fd25_0, Tryd.sz22, Tryd.un22, nn1, nn2, len_tStrs, qa, qb]
    refine hK3 _ _ ?_
    refine vw_cond_k fun A B hA hB => ?_
    simp only [condV, ev_hit, length_putv, Nat.reduceLT, true_implies, reduceCtorEq, false_implies, true_and, hl]
    refine hB ?_
    clear hA hB A B
    refine vw_skip ?_
    refine hK2 _ _ ?_
    refine vw_seq_k fun K6 hK6 => ?_
    refine vw_seq_k fun K7 hK7 => ?_
    rcases (show arrS a b f = false ∨ (arrS a b f = true ∧ arrS a b g = false) ∨ (arrS a b f = true ∧ arrS a b g = true) by cases arrS a b f <;> cases arrS a b g <;> simp) with kf | ⟨kf, kg⟩ | ⟨kf, kg⟩
    · refine vw_sc 0 [.pur (Bo (arrS a b f))] ?_
      simp only [bs, Nat.reduceAdd, ↓vopx, ↓vop, Nat.reduceBEq, thenV, flat, Nat.reduceLT, dLoad, vpart, gtmp, hl, h2, wocs, ↓goc, ↓woc, ↓vopm0, ↓callC, ↓pick_tf, calleeV, Tryd.ag25, Tryd.sz25, nn1, nn2, kf]
      repeat ((with_reducible refine And.intro ?_ ?_); · exact ⟨Tryd.is59, by simpa only [kf] using refArrow_ a b f (by omega) (by omega) (by omega) (by omega) (by omega)⟩)
      refine hK7 _ _ ?_
      refine vw_cond_k fun A B hA hB => ?_
      simp only [condV, ev_hit, length_putv, Nat.reduceLT, true_implies, reduceCtorEq, false_implies, and_true, hl]
      refine hA ?_
      clear hA hB A B
      refine vw_seq_k fun K8 hK8 => ?_
      refine vw_sc 0 [] ?_
      simp only [bs, Nat.reduceAdd, vparts, gfill, ↓vopx, ↓vop, Nat.reduceBEq, thenV, flat, Nat.reduceLT, V.cells, hl, wocs, ↓goc, ↓woc, ↓vopm0, Tryd.st25, Tryd.sz25, nn3, nn4, Nat.le_refl]
      refine hK8 _ _ ?_
      refine vw_ret ?_
      have hres : vEq (eqS a b f g) = pack [vObj ⟨[], []⟩, .t (tInts []), I 10] := by simp [eqS, vEq, ka, kb, kf]; rfl
      rw [hres] at hQ
      refine hQ _ _ _ (.inr rfl) (done_wk (vs := [.agg [.t (.v (.slice none 0 0)), .t (.v (.slice none 0 0))], .t (.v (.slice none 0 0)), I 10]) (vs' := [vObj ⟨[], []⟩, .t (tInts []), I 10]) ?_ rfl (ewk_err3 _ _) (by simp [pack, nm, nm2, nm1, nm0]) ?_)
      · show vres Tryd.prog _ _ [.cell 8 25, .tmp 9, .tmp 10] = _
        simp only [vres_cell, vres_tmp, vres_nil, ev_hit, ev_miss, Nat.reduceBEq, length_putv, hl, Tryd.sz25, Tryd.ag25, dLoad, m_set, m_add, vpart, if_true, Nat.reduceLT, List.drop_zero, List.take_succ_cons, List.take_zero, List.length_cons, List.length_nil, Nat.zero_add, Nat.reduceAdd]
        try rfl
      · exact fun n b hn h => by simp [Sg.add, Sg.set, show n ≠ s.next by omega, show n ≠ s.next + 1 by omega, show n ≠ s.next + 2 by omega, h]
    · refine vw_sc 0 [.pur (Bo (arrS a b f)), .pur (Bo (arrS a b g))] ?_
      simp only [bs, Nat.reduceAdd, ↓vopx, ↓vop, Nat.reduceBEq, thenV, flat, Nat.reduceLT, dLoad, vpart, gtmp, hl, h2, h3, wocs, ↓goc, ↓woc, ↓vopm0, ↓callC, ↓pick_ff, calleeV, Tryd.ag25, Tryd.sz25, nn1, nn2, kf, kg]
      repeat ((with_reducible refine And.intro ?_ ?_); · first | exact ⟨Tryd.is59, by simpa only [kf] using refArrow_ a b f (by omega) (by omega) (by omega) (by omega) (by omega)⟩ | exact ⟨Tryd.is59, by simpa only [kg] using refArrow_ a b g (by omega) (by omega) (by omega) (by omega) (by omega)⟩)
      refine hK7 _ _ ?_
      refine vw_cond_k fun A B hA hB => ?_
      simp only [condV, ev_hit, length_putv, Nat.reduceLT, true_implies, reduceCtorEq, false_implies, and_true, hl]
      refine hA ?_
      clear hA hB A B
      refine vw_seq_k fun K9 hK9 => ?_
      refine vw_sc 0 [] ?_
      simp only [bs, Nat.reduceAdd, vparts, gfill, ↓vopx, ↓vop, Nat.reduceBEq, thenV, flat, Nat.reduceLT, V.cells, hl, wocs, ↓goc, ↓woc, ↓vopm0, Tryd.st25, Tryd.sz25, nn3, nn4, Nat.le_refl]
      refine hK9 _ _ ?_
      refine vw_ret ?_
      have hres : vEq (eqS a b f g) = pack [vObj ⟨[], []⟩, .t (tInts []), I 10] := by simp [eqS, vEq, ka, kb, kg]; rfl
      rw [hres] at hQ
      refine hQ _ _ _ (.inr rfl) (done_wk (vs := [.agg [.t (.v (.slice none 0 0)), .t (.v (.slice none 0 0))], .t (.v (.slice none 0 0)), I 10]) (vs' := [vObj ⟨[], []⟩, .t (tInts []), I 10]) ?_ rfl (ewk_err3 _ _) (by simp [pack, nm, nm2, nm1, nm0]) ?_)
      · show vres Tryd.prog _ _ [.cell 8 25, .tmp 9, .tmp 10] = _
        simp only [vres_cell, vres_tmp, vres_nil, ev_hit, ev_miss, Nat.reduceBEq, length_putv, hl, Tryd.sz25, Tryd.ag25, dLoad, m_set, m_add, vpart, if_true, Nat.reduceLT, List.drop_zero, List.take_succ_cons, List.take_zero, List.length_cons, List.length_nil, Nat.zero_add, Nat.reduceAdd]
        try rfl
      · exact fun n b hn h => by simp [Sg.add, Sg.set, show n ≠ s.next by omega, show n ≠ s.next + 1 by omega, show n ≠ s.next + 2 by omega, h]
    · refine vw_sc 0 [.pur (Bo (arrS a b f)), .pur (Bo (arrS a b g))] ?_
      simp only [bs, Nat.reduceAdd, ↓vopx, ↓vop, Nat.reduceBEq, thenV, flat, Nat.reduceLT, dLoad, vpart, gtmp, hl, h2, h3, wocs, ↓goc, ↓woc, ↓vopm0, ↓callC, ↓pick_ff, calleeV, Tryd.ag25, Tryd.sz25, nn1, nn2, kf, kg]
      repeat ((with_reducible refine And.intro ?_ ?_); · first | exact ⟨Tryd.is59, by simpa only [kf] using refArrow_ a b f (by omega) (by omega) (by omega) (by omega) (by omega)⟩ | exact ⟨Tryd.is59, by simpa only [kg] using refArrow_ a b g (by omega) (by omega) (by omega) (by omega) (by omega)⟩)
      refine hK7 _ _ ?_
      refine vw_cond_k fun A B hA hB => ?_
      simp only [condV, ev_hit, length_putv, Nat.reduceLT, true_implies, reduceCtorEq, false_implies, true_and, hl]
      refine hB ?_
      clear hA hB A B
      refine vw_skip ?_
      refine hK6 _ _ ?_
      refine vw_seq_k fun K10 hK10 => ?_
      have hobb := (arrS_iff.1 kf).2.1
      have hlb := hobb.le
      have hfl := allY_length (arrS_iff.1 kf).2.2.1
      have hgl := allY_length (arrS_iff.1 kg).2.2.1
      refine vw_st fun sN hSN => ?_
      have hn5 : sN.m (s.next + 1) = some (.box 25 [.t (tStrs b.labels), .t (tPairs b.pairs)]) := by rw [hSN, m_add, if_neg (by simp only [n_add]; omega), m_add, if_pos (by rw [n_add])]
      have hn8 : sN.m (s.next + 2) = some (.box 25 [.t (.v (.slice none 0 0)), .t (.v (.slice none 0 0))]) := by rw [hSN, m_add, if_pos (by simp only [n_add])]
      have hnn : sN.next = s.next + 3 := by rw [hSN]; rfl
      have hnk : ∀ j, j < s.next → sN.m j = s.m j := fun j hj => by rw [hSN, m_add, if_neg (by simp only [n_add]; omega), m_add, if_neg (by rw [n_add]; omega), m_add, if_neg (by omega)]
      clear hSN
      refine vw_sc 0 [.stop] ?_
      simp only [bs, Nat.reduceAdd, ↓vopx, ↓vop, Nat.reduceBEq, thenV, Nat.reduceLT, dLoad, vpart, hl, wocs, ↓goc, ↓woc, ↓vopm0, ↓callC, calleeV, Tryd.ag22, Tryd.fd25_0, Tryd.sz22, Tryd.un22, len_tStrs, hn5]
      refine ⟨Tryd.is66, (refUNew_ sN b.labels.length (by omega)).mono fun v sU hv => ?_⟩
      obtain ⟨p, m, rfl, hpr, hup, hum, hku, hun⟩ := hv
      try simp only [bs, Nat.reduceLT, hl, Hold]
      refine hK10 _ _ ?_
      refine vw_seq_k fun K11 hK11 => ?_
      refine vw_seq_k fun K12 hK12 => ?_
      refine vw_sc 0 [] ?_
      simp only [bs, ↓vopx, ↓vop, thenV, flat, wocs, ↓goc, ↓woc, ↓vopm0]
      refine hK12 _ _ ?_
      refine vw_block ?_
      refine vw_loop (fun mm e' s' => ∃ i : Nat, mm = f.length - i ∧ i ≤ f.length ∧ e'.length = 67 ∧ ev e' (.tmp 2) = .t (tInts f) ∧ ev e' (.tmp 3) = .t (tInts g) ∧ ev e' (.tmp 5) = .ptr (s.next + 1) 0 ∧ ev e' (.tmp 8) = .ptr (s.next + 2) 0 ∧ ev e' (.tmp 11) = .ptr p 0 ∧ ev e' (.tmp 12) = I i ∧ True ∧ RefU s' p m (joinsL (rangeI b.labels.length) f g i) ∧ Keep sN s' ∧ sN.next ≤ s'.next) (⟨0, rfl, Nat.zero_le _, ?_⟩) ?_
      · try simp only [ev_hit, ev_miss, Nat.reduceBEq, length_putv, hl, h2, h3, Nat.reduceLT, true_and]
        repeat ((with_reducible refine And.intro ?_ ?_); · trivial)
        exact hun
      rintro mm e s1 ⟨i, rfl, hle_i, hl, k2, k3, k5, k8, k11, h_i, hst, ⟨hjP, hjK, hjN⟩⟩
      refine vw_seq_k fun K13 hK13 => ?_
      refine vw_seq_k fun K14 hK14 => ?_
      refine vw_sc 0 [] ?_
      simp only [bs, ↓vopx, ↓vop, Nat.reduceBEq, thenV, Nat.reduceLT, opII, hl, k2, h_i, wocs, ↓goc, ↓woc, ↓vopm0, len_tInts, Tryd.underlying26]
      refine hK14 _ _ ?_
      refine vw_cond_k fun A B hA hB => ?_
      simp only [condV, ev_hit, length_putv, Nat.reduceLT, decide_eq_true_eq, decide_eq_false_iff_not, hl]
      refine ⟨fun hc46 => hA ?_, fun hc46 => hB ?_⟩
      · clear hA hB A B
        refine vw_skip ?_
        refine hK13 _ _ ?_
        refine vw_seq_k fun K15 hK15 => ?_
        refine vw_block ?_
        obtain ⟨y, hy, hyl⟩ := arr_at kf (i := i) (by omega)
        obtain ⟨z, hz, hzl⟩ := arr_at kg (i := i) (by omega)
        have hjl := joinsL_length (rangeI b.labels.length) f g i
        rw [rangeI_length] at hjl
        have hif : i < f.length := by omega
        have hig : i < g.length := by omega
        refine vw_chain Tryd.mixed 9 [0, 0, 0, 1, 1, 0, 0, 1, 1] [] [.stop] 0 (by decide +kernel) (by simp [length_putv, hl]) rfl ?_
        simp only [bs, ↓vopx, ↓vop, Nat.reduceBEq, thenV, blockV, Nat.reduceLT, dLoad, vpart, hl, k2, k3, k11, h_i, wocs, ↓goc, ↓woc, ↓vopm1, ↓callC, calleeV, chn, ↓goq, ↓woq, List.zip_cons_cons, List.zip_nil_right, Tryd.ag3, Tryd.sz3, Tryd.un26, hy, hz, Int.toNat_natCast]
        repeat (refine And.intro (by omega) ?_)
        refine ⟨Tryd.is67, (refUJoin_ s1 p m _ hjP (by omega) y z (by omega) (by omega)).mono fun v s2 hv => ?_⟩
        have hj2k := hv.keep hum hjK
        obtain ⟨⟨bb, rfl⟩, hj2, hbt, hbn⟩ := hv
        try simp only [bs, Nat.reduceBEq, k2, k3, k11, h_i, Hold]
        refine hK15 _ _ ?_
        refine vw_sc 0 [] ?_
        simp only [bs, ↓vopx, ↓vop, Nat.reduceBEq, thenV, flat, Nat.reduceLT, opII, hl, k2, k3, k5, k8, k11, h_i, wocs, ↓goc, ↓woc, ↓vopm0]
        repeat ((with_reducible refine And.intro ?_ ?_); · exact ⟨by omega, by omega⟩)
        refine ⟨f.length - (i + 1), by omega, i + 1, rfl, by omega, ?_⟩
        try simp only [ev_hit, ev_miss, Nat.reduceBEq, length_putv, hl, k2, k3, k5, k8, k11, h_i, if_true, if_false, Nat.reduceEqDiff, Nat.reduceLT, true_and, and_true]
        repeat ((with_reducible refine And.intro ?_ ?_); · trivial)
        rw [joinsL_succ hy hz, Int.toNat_natCast, Int.toNat_natCast]
        exact ⟨hj2, hj2k, by omega⟩
      · clear hA hB A B
        have han : f.length = i := by omega
        refine vw_exit ?_
        simp only [thenV, blockV, if_true]
        refine hK11 _ _ ?_
        refine vw_seq_k fun K16 hK16 => ?_
        have h51 := hjK _ _ (by omega) hn5
        refine vw_sc 0 [.stop] ?_
        simp only [bs, Nat.reduceAdd, ↓vopx, ↓vop, Nat.reduceBEq, thenV, Nat.reduceLT, V.cells, dLoad, vpart, hl, k5, k11, wocs, ↓goc, ↓woc, ↓vopm0, ↓callC, calleeV, Tryd.ag25, Tryd.sz25, h51]
        refine ⟨Tryd.is68, DCall.v (glued_ s1 p m _ hjP (wfU_joins _ _ _ _) b hobb (by omega) (by rw [joinsL_length, rangeI_length])) ?_⟩
        try simp only [bs, Nat.reduceAdd, Nat.reduceBEq, Nat.reduceLT, hl, k11, Tryd.sz25, Tryd.zv25, Nat.le_refl, Hold]
        refine hK16 _ _ ?_
        refine vw_seq_k fun K17 hK17 => ?_
        refine vw_st fun sX hSX => ?_
        have hx13 : sX.m s1.next = some (.box 25 [.t (tStrs (gluedS b (placesL (joinsL (rangeI b.labels.length) f g i))).labels), .t (tPairs (gluedS b (placesL (joinsL (rangeI b.labels.length) f g i))).pairs)]) := by rw [hSX, m_set, if_pos rfl]
        have hxs : ∀ j, j < s1.next → sX.m j = s1.m j := fun j hj => by rw [hSX, m_set, if_neg (by omega), m_add, if_neg (by omega)]
        have hx8 : sX.m (s.next + 2) = some (.box 25 [.t (.v (.slice none 0 0)), .t (.v (.slice none 0 0))]) := by rw [hxs _ (by omega)]; exact hjK _ _ (by omega) hn8
        have hxk : ∀ j c, j < s.next → s.m j = some c → sX.m j = some c := fun j c hj hc => by rw [hxs _ (by omega)]; exact hjK _ _ (by omega) (by rw [hnk j hj]; exact hc)
        have hn13 : ¬ s1.next = s.next + 2 := by omega
        clear hSX
        refine vw_sc 0 [] ?_
        simp only [bs, Nat.reduceAdd, ↓vopx, ↓vop, Nat.reduceBEq, thenV, flat, Nat.reduceLT, V.cells, dLoad, vpart, hl, k8, wocs, ↓goc, ↓woc, ↓vopm0, Tryd.ag25, Tryd.sz25, Nat.le_refl, hx13, hx8]
        refine hK17 _ _ ?_
        refine vw_ret ?_
        have hres : vEq (eqS a b f g) = pack [vObj (gluedS b (placesL (joinsL (rangeI b.labels.length) f g i))), .t (tInts (placesL (joinsL (rangeI b.labels.length) f g i))), I 0] := by simp [eqS, vEq, eqPl, ka, kb, kf, kg, han]; rfl
        rw [hres] at hQ
        refine hQ _ _ _ (.inr rfl) ?_
        refine done_flat (vs := [vObj (gluedS b (placesL (joinsL (rangeI b.labels.length) f g i))), .t (tInts (placesL (joinsL (rangeI b.labels.length) f g i))), I 0]) ?_ rfl (by simp [pack, nm, nm2, nm1, nm0]) (fun n c hn h => by rw [m_set, if_neg (by omega)]; exact hxk n c hn h)
        show vres Tryd.prog _ _ [.cell 8 25, .tmp 9, .tmp 10] = _
        simp only [vres_cell, vres_tmp, vres_nil, ev_hit, ev_miss, Nat.reduceBEq, length_putv, hl, k8, Tryd.sz25, Tryd.ag25, dLoad, m_set, vpart, if_true, Nat.reduceLT, List.drop_zero, List.take_succ_cons, List.take_zero, List.length_cons, List.length_nil, Nat.zero_add, Nat.reduceAdd]

end Go.Proofs

open Go Go.V
namespace Go.Proofs

theorem half2 (n : Nat) : n * 2 / 2 = n := by omega
theorem keep_da (s : Sg) (m : Nat) (B : Blk) : Keep (s.del m) (s.add B) := fun n b hn hb => by
  rw [m_del] at hb
  split at hb
  · cases hb
  · have h2 : n < s.next := hn
    have : ¬ n = s.next := by omega
    rw [m_add, if_neg this]; exact hb
theorem half22 (n : Nat) : (n * 2 + 2) / 2 = n + 1 := by omega
/-- what lies in the store behind the first lines; m1, m2: the labels and the pairs so far -/
structure BdZ (s : Sg) (b c : Ob) (n6 m1 m2 : Nat) (s' : Sg) : Prop where
  b3 : s'.m (s.next + 1) = some (.box 25 [.t (tStrs c.labels), .t (tPairs c.pairs)])
  b4 : s'.m (s.next + 1 + 1) = some (.box 25 [.t (.v (.slice none 0 0)), .t (.v (.slice none 0 0))])
  b6 : s'.m n6 = some (.box 25 [.loc m1 0 (b.labels.length + c.labels.length), .loc m2 0 b.pairs.length])
  a1 : s'.m m1 = some (.arr 1 9 (b.labels.map TS ++ c.labels.map TS))
  a2 : s'.m m2 = some (.arr 2 84 (b.pairs.flatMap pcells))
  same : ∀ j, j < s.next → s'.m j = s.m j
  l6 : s.next + 3 ≤ n6 ∧ n6 < s'.next
  l1 : s.next + 3 ≤ m1 ∧ m1 < s'.next
  l2 : s.next + 3 ≤ m2 ∧ m2 < s'.next
  d : n6 ≠ m1 ∧ n6 ≠ m2 ∧ m1 ≠ m2
/-- while pairs are told -/
structure BdI (s : Sg) (b c : Ob) (n6 k m : Nat) (s' : Sg) : Prop where
  b3 : s'.m (s.next + 1) = some (.box 25 [.t (tStrs c.labels), .t (tPairs c.pairs)])
  b4 : s'.m (s.next + 1 + 1) = some (.box 25 [.t (.v (.slice none 0 0)), .t (.v (.slice none 0 0))])
  b6 : s'.m n6 = some (.box 25 [.t (tStrs (b.labels ++ c.labels)), .loc m 0 (b.pairs.length + k)])
  am : s'.m m = some (.arr 2 84 ((b.pairs ++ (c.pairs.take k).map (shP b.labels.length)).flatMap pcells))
  same : ∀ j, j < s.next → s'.m j = s.m j
  l6 : s.next + 3 ≤ n6 ∧ n6 < s'.next
  lm : s.next + 3 ≤ m ∧ m < s'.next
  d : n6 ≠ m
theorem BdI.push {s : Sg} {b c : Ob} {n6 i m : Nat} {s1 : Sg} (h : BdI s b c n6 i m s1) {p : Int × Int} (hp : c.pairs[i]? = some p) (B : Blk) : BdI s b c n6 (i + 1) (s1.next + 1)
    ((((s1.add B).del m).add (.arr 2 84 ((b.pairs ++ (c.pairs.take i).map (shP b.labels.length)).flatMap pcells ++ [TI (p.1 + b.labels.length), TI (p.2 + b.labels.length)]))).set n6 (.box 25 [.t (tStrs (b.labels ++ c.labels)), .loc (s1.next + 1) 0 (b.pairs.length + i + 1)])) := by
  obtain ⟨h3, h4, h6, ha, hs, ⟨l6, l6'⟩, ⟨lm, lm'⟩, hd⟩ := h
  have hfr : ∀ x, x < s1.next → x ≠ m → x ≠ n6 → ((((s1.add B).del m).add (.arr 2 84 ((b.pairs ++ (c.pairs.take i).map (shP b.labels.length)).flatMap pcells ++ [TI (p.1 + b.labels.length), TI (p.2 + b.labels.length)]))).set n6 (.box 25 [.t (tStrs (b.labels ++ c.labels)), .loc (s1.next + 1) 0 (b.pairs.length + i + 1)])).m x = s1.m x := fun x h1 h2 h5 => by
    rw [m_set, if_neg h5, m_add, if_neg (by simp only [n_del, n_add]; omega), m_del, if_neg h2, m_add, if_neg (by omega)]
  refine ⟨by rw [hfr _ (by omega) (by omega) (by omega)]; exact h3, by rw [hfr _ (by omega) (by omega) (by omega)]; exact h4, by rw [m_set, if_pos rfl]; rfl, ?_, fun j hj => by rw [hfr _ (by omega) (by omega) (by omega)]; exact hs j hj, ⟨l6, by simp only [n_set, n_add, n_del]; omega⟩, ⟨by omega, by simp only [n_set, n_add, n_del]; omega⟩, by omega⟩
  rw [m_set, if_neg (by omega), m_add, if_pos (by simp only [n_del, n_add]), List.take_add_one, hp]
  simp [shP, pcells]

set_option maxRecDepth 20000 in
set_option maxHeartbeats 4000000 in
theorem beside69 (b c : Ob) (hb1 : b.labels.length < 1000000000) (hb2 : b.pairs.length < 1000000000) (hc1 : c.labels.length < 1000000000) (hc2 : c.pairs.length < 1000000000) (hcO : IsOb c) : PCall Tryd.prog 69 [vObj b, vObj c] (vObj (besideS b c)) := by
  refine pcall_of_body Tryd.func69 rfl fun s Q hQ => ?_
  obtain ⟨e, he, hl, h0, h1⟩ : ∃ e : Env, ([vObj b, vObj c] ++ List.replicate (Tryd.f69.ntmps - ([vObj b, vObj c] : List V).length) .junk) = e ∧ e.length = 51 ∧ ev e (.tmp 0) = vObj b ∧ ev e (.tmp 1) = vObj c := ⟨_, rfl, rfl, rfl, rfl⟩
  rw [he]
  clear he
  refine vw_seq_k fun K1 hK1 => ?_
  refine vw_sc 0 [] ?_
  simp only [bs, ↓vopx, ↓vop, Nat.reduceBEq, thenV, V.cells, h0, h1, wocs, ↓goc, ↓woc, ↓vopm0, Tryd.zv25]
  refine hK1 _ _ ?_
  refine vw_seq_k fun K2 hK2 => ?_
  refine vw_sc 0 [] ?_
  simp only [bs, ↓vopx, ↓vop, Nat.reduceBEq, thenV, Nat.reduceLT, dLoad, vpart, hl, wocs, ↓goc, ↓woc, ↓vopm0, Tryd.ag22, Tryd.fd25_0, Tryd.sz22, Tryd.un22, nns, len_tStrs]
  refine hK2 _ _ ?_
  refine vw_seq_k fun K3 hK3 => ?_
  suffices key : ∀ (e2 : Env) (s2 : Sg) (n6 m1 m2 : Nat), e2.length = 51 → ev e2 (.tmp 2) = .ptr s.next 0 → ev e2 (.tmp 3) = .ptr (s.next + 1) 0 → ev e2 (.tmp 4) = .ptr (s.next + 1 + 1) 0 → ev e2 (.tmp 5) = I b.labels.length → ev e2 (.tmp 6) = .ptr n6 0 → BdZ s b c n6 m1 m2 s2 → K3 e2 s2 by
    refine vw_tree_all Tryd.mixed 11 [2, 5, 8, 10] (.quiet 0 0 (.quiet 1 2 (.quiet 3 0 (.quiet 4 2 (.quiet 6 0 (.quiet 7 2 (.alt 2 0 (.alt 5 0 (.alt 8 0 (.quiet 9 0 (.alt 10 0 (.leaf) (.none))) (.alt 10 0 (.alt 8 0 (.quiet 9 0 (.leaf)) (.none)) (.none))) (.alt 10 0 (.alt 5 0 (.alt 8 0 (.quiet 9 0 (.leaf)) (.none)) (.none)) (.none))) (.alt 10 0 (.alt 2 0 (.alt 5 0 (.alt 8 0 (.quiet 9 0 (.leaf)) (.none)) (.none)) (.none)) (.none))))))))) [] [] 0 (by decide +kernel) (by simp [length_putv, hl]) rfl ?_
    simp only [bs, dstT, srcT, Nat.reduceLeDiff, Nat.reduceAdd, vparts, gfill, ↓vopx, ↓vop, Nat.reduceBEq, thenV, flat, Nat.reduceLT, V.cells, dLoad, vpart, hl, trn, wocs, ↓goc, ↓woc, ↓vopm0, ↓goq, ↓woq, Tryd.ag22, Tryd.ag23, Tryd.fd25_0, Tryd.fd25_1, Tryd.sl22, Tryd.sl23, Tryd.st25, Tryd.sz22, Tryd.sz23, Tryd.sz25, Tryd.zv25, half2, Nat.div_one, nns, flat_length]
    (repeat' (refine And.intro ?_ ?_))
    all_goals first | omega | (repeat' first | exact Keep.refl _ | refine Keep.add ?_ ?_ _ | refine Keep.del ?_ ?_ | refine Keep.set ?_ ?_ _ | exact Nat.le_refl _ | (simp only [n_add, n_del]; omega); done) | skip
    · refine key _ _ (s.next + 1 + 1 + 1 + 1 + 1 + 1) (s.next + 1 + 1 + 1 + 1) (s.next + 1 + 1 + 1 + 1 + 1) ?_ ?_ ?_ ?_ ?_ ?_ ⟨?_, ?_, ?_, ?_, ?_, fun j hj => ?_, ⟨by omega, ?_⟩, ⟨by omega, ?_⟩, ⟨by omega, ?_⟩, ⟨by omega, by omega, by omega⟩⟩
      · simp only [length_putv, hl]
      · simp only [ev_hit, ev_miss, Nat.reduceBEq, hl, Nat.reduceLT]
      · simp only [ev_hit, ev_miss, Nat.reduceBEq, length_putv, hl, Nat.reduceLT]
      · simp only [ev_hit, ev_miss, Nat.reduceBEq, length_putv, hl, Nat.reduceLT]
      · simp only [ev_hit, ev_miss, Nat.reduceBEq, length_putv, hl, Nat.reduceLT]
      · simp only [ev_hit, length_putv, hl, Nat.reduceLT]
      · simp only [m_set, m_add, m_del, n_add, n_del, nns, if_true, if_false]
      · simp only [m_set, m_add, m_del, n_add, n_del, nns, if_true, if_false]
      · simp only [m_set, m_add, m_del, n_add, n_del, nns, if_true, if_false]
      · simp only [m_set, m_add, m_del, n_add, n_del, nns, if_true, if_false]
      · simp only [m_set, m_add, m_del, n_add, n_del, nns, if_true, if_false]
      · have z0 : ¬ j = s.next := (by omega); have z1 : ¬ j = s.next + 1 := (by omega); have z2 : ¬ j = s.next + 1 + 1 := (by omega); have z3 : ¬ j = s.next + 1 + 1 + 1 := (by omega); have z4 : ¬ j = s.next + 1 + 1 + 1 + 1 := (by omega); have z5 : ¬ j = s.next + 1 + 1 + 1 + 1 + 1 := (by omega); have z6 : ¬ j = s.next + 1 + 1 + 1 + 1 + 1 + 1 := (by omega)
        simp only [m_set, m_add, m_del, n_add, n_del, z0, z1, z2, z3, z4, z5, z6, if_false]
      · simp only [n_add, n_set, n_del]; omega
      · simp only [n_add, n_set, n_del]; omega
      · simp only [n_add, n_set, n_del]; omega
    · refine key _ _ (s.next + 1 + 1 + 1 + 1 + 1) (s.next + 1 + 1 + 1 + 1) (s.next + 1 + 1 + 1 + 1 + 1 + 1) ?_ ?_ ?_ ?_ ?_ ?_ ⟨?_, ?_, ?_, ?_, ?_, fun j hj => ?_, ⟨by omega, ?_⟩, ⟨by omega, ?_⟩, ⟨by omega, ?_⟩, ⟨by omega, by omega, by omega⟩⟩
      · simp only [length_putv, hl]
      · simp only [ev_hit, ev_miss, Nat.reduceBEq, hl, Nat.reduceLT]
      · simp only [ev_hit, ev_miss, Nat.reduceBEq, length_putv, hl, Nat.reduceLT]
      · simp only [ev_hit, ev_miss, Nat.reduceBEq, length_putv, hl, Nat.reduceLT]
      · simp only [ev_hit, ev_miss, Nat.reduceBEq, length_putv, hl, Nat.reduceLT]
      · simp only [ev_hit, ev_miss, Nat.reduceBEq, length_putv, hl, Nat.reduceLT]
      · simp only [m_set, m_add, m_del, n_add, n_del, nns, if_true, if_false]
      · simp only [m_set, m_add, m_del, n_add, n_del, nns, if_true, if_false]
      · simp only [m_set, m_add, m_del, n_add, n_del, nns, if_true, if_false]
      · simp only [m_set, m_add, m_del, n_add, n_del, nns, if_true, if_false]
      · simp only [m_set, m_add, m_del, n_add, n_del, nns, if_true, if_false]
      · have z0 : ¬ j = s.next := (by omega); have z1 : ¬ j = s.next + 1 := (by omega); have z2 : ¬ j = s.next + 1 + 1 := (by omega); have z3 : ¬ j = s.next + 1 + 1 + 1 := (by omega); have z4 : ¬ j = s.next + 1 + 1 + 1 + 1 := (by omega); have z5 : ¬ j = s.next + 1 + 1 + 1 + 1 + 1 := (by omega); have z6 : ¬ j = s.next + 1 + 1 + 1 + 1 + 1 + 1 := (by omega)
        simp only [m_set, m_add, m_del, n_add, n_del, z0, z1, z2, z3, z4, z5, z6, if_false]
      · simp only [n_add, n_set, n_del]; omega
      · simp only [n_add, n_set, n_del]; omega
      · simp only [n_add, n_set, n_del]; omega
    · refine key _ _ (s.next + 1 + 1 + 1 + 1) (s.next + 1 + 1 + 1 + 1 + 1) (s.next + 1 + 1 + 1 + 1 + 1 + 1) ?_ ?_ ?_ ?_ ?_ ?_ ⟨?_, ?_, ?_, ?_, ?_, fun j hj => ?_, ⟨by omega, ?_⟩, ⟨by omega, ?_⟩, ⟨by omega, ?_⟩, ⟨by omega, by omega, by omega⟩⟩
      · simp only [length_putv, hl]
      · simp only [ev_hit, ev_miss, Nat.reduceBEq, hl, Nat.reduceLT]
      · simp only [ev_hit, ev_miss, Nat.reduceBEq, length_putv, hl, Nat.reduceLT]
      · simp only [ev_hit, ev_miss, Nat.reduceBEq, length_putv, hl, Nat.reduceLT]
      · simp only [ev_hit, ev_miss, Nat.reduceBEq, length_putv, hl, Nat.reduceLT]
      · simp only [ev_hit, ev_miss, Nat.reduceBEq, length_putv, hl, Nat.reduceLT]
      · simp only [m_set, m_add, m_del, n_add, n_del, nns, if_true, if_false]
      · simp only [m_set, m_add, m_del, n_add, n_del, nns, if_true, if_false]
      · simp only [m_set, m_add, m_del, n_add, n_del, nns, if_true, if_false]
      · simp only [m_set, m_add, m_del, n_add, n_del, nns, if_true, if_false]
      · simp only [m_set, m_add, m_del, n_add, n_del, nns, if_true, if_false]
      · have z0 : ¬ j = s.next := (by omega); have z1 : ¬ j = s.next + 1 := (by omega); have z2 : ¬ j = s.next + 1 + 1 := (by omega); have z3 : ¬ j = s.next + 1 + 1 + 1 := (by omega); have z4 : ¬ j = s.next + 1 + 1 + 1 + 1 := (by omega); have z5 : ¬ j = s.next + 1 + 1 + 1 + 1 + 1 := (by omega); have z6 : ¬ j = s.next + 1 + 1 + 1 + 1 + 1 + 1 := (by omega)
        simp only [m_set, m_add, m_del, n_add, n_del, z0, z1, z2, z3, z4, z5, z6, if_false]
      · simp only [n_add, n_set, n_del]; omega
      · simp only [n_add, n_set, n_del]; omega
      · simp only [n_add, n_set, n_del]; omega
    · refine key _ _ (s.next + 1 + 1 + 1) (s.next + 1 + 1 + 1 + 1 + 1) (s.next + 1 + 1 + 1 + 1 + 1 + 1) ?_ ?_ ?_ ?_ ?_ ?_ ⟨?_, ?_, ?_, ?_, ?_, fun j hj => ?_, ⟨by omega, ?_⟩, ⟨by omega, ?_⟩, ⟨by omega, ?_⟩, ⟨by omega, by omega, by omega⟩⟩
      · simp only [length_putv, hl]
      · simp only [ev_hit, ev_miss, Nat.reduceBEq, hl, Nat.reduceLT]
      · simp only [ev_hit, ev_miss, Nat.reduceBEq, length_putv, hl, Nat.reduceLT]
      · simp only [ev_hit, ev_miss, Nat.reduceBEq, length_putv, hl, Nat.reduceLT]
      · simp only [ev_hit, ev_miss, Nat.reduceBEq, length_putv, hl, Nat.reduceLT]
      · simp only [ev_hit, ev_miss, Nat.reduceBEq, length_putv, hl, Nat.reduceLT]
      · simp only [m_set, m_add, m_del, n_add, n_del, nns, if_true, if_false]
      · simp only [m_set, m_add, m_del, n_add, n_del, nns, if_true, if_false]
      · simp only [m_set, m_add, m_del, n_add, n_del, nns, if_true, if_false]
      · simp only [m_set, m_add, m_del, n_add, n_del, nns, if_true, if_false]
      · simp only [m_set, m_add, m_del, n_add, n_del, nns, if_true, if_false]
      · have z0 : ¬ j = s.next := (by omega); have z1 : ¬ j = s.next + 1 := (by omega); have z2 : ¬ j = s.next + 1 + 1 := (by omega); have z3 : ¬ j = s.next + 1 + 1 + 1 := (by omega); have z4 : ¬ j = s.next + 1 + 1 + 1 + 1 := (by omega); have z5 : ¬ j = s.next + 1 + 1 + 1 + 1 + 1 := (by omega); have z6 : ¬ j = s.next + 1 + 1 + 1 + 1 + 1 + 1 := (by omega)
        simp only [m_set, m_add, m_del, n_add, n_del, z0, z1, z2, z3, z4, z5, z6, if_false]
      · simp only [n_add, n_set, n_del]; omega
      · simp only [n_add, n_set, n_del]; omega
      · simp only [n_add, n_set, n_del]; omega
  intro e2 s2 n6 m1 m2 hl2 g2 g3 g4 g5 g6 hZ
  refine hK3 _ _ ?_
  refine vw_seq_k fun K4 hK4 => ?_
  refine vw_seq_k fun K5 hK5 => ?_
  refine VW.freezeBox n6 0 (n := m1) hZ.b6 rfl hZ.a1 (by simp) ?_
  refine vw_st fun s3 hS3 => ?_
  have hI : BdI s b c n6 0 m2 s3 := by
    obtain ⟨z3, z4, z6, za, zb, zs, ⟨zl, zl2⟩, ⟨zm, zm2⟩, ⟨zn, zn2⟩, zd1, zd2, zd3⟩ := hZ
    refine ⟨?_, ?_, ?_, ?_, fun j hj => ?_, ⟨zl, ?_⟩, ⟨zn, ?_⟩, zd2⟩
    · rw [hS3, m_set, if_neg (by omega), m_del, if_neg (by omega)]; exact z3
    · rw [hS3, m_set, if_neg (by omega), m_del, if_neg (by omega)]; exact z4
    · rw [hS3, m_set, if_pos rfl]; simp [tStrs]
    · rw [hS3, m_set, if_neg (by omega), m_del, if_neg (by omega), zb]; simp
    · rw [hS3, m_set, if_neg (by omega), m_del, if_neg (by omega)]; exact zs j hj
    · rw [hS3]; exact zl2
    · rw [hS3]; exact zn2
  clear hS3 hZ
  refine vw_sc 0 [] ?_
  simp only [bs, ↓vopx, ↓vop, thenV, flat, wocs, ↓goc, ↓woc, ↓vopm0]
  refine hK5 _ _ ?_
  refine vw_block ?_
  refine vw_loop (fun mm e' s' => ∃ i : Nat, mm = c.pairs.length - i ∧ i ≤ c.pairs.length ∧ e'.length = 51 ∧ ev e' (.tmp 3) = .ptr (s.next + 1) 0 ∧ ev e' (.tmp 4) = .ptr (s.next + 1 + 1) 0 ∧ ev e' (.tmp 5) = I b.labels.length ∧ ev e' (.tmp 6) = .ptr n6 0 ∧ ev e' (.tmp 7) = I i ∧ True ∧ ∃ m, BdI s b c n6 i m s') (⟨0, rfl, Nat.zero_le _, ?_⟩) ?_
  · try simp only [ev_hit, ev_miss, Nat.reduceBEq, length_putv, hl2, g3, g4, g5, g6, Nat.reduceLT, true_and]
    repeat ((with_reducible refine And.intro ?_ ?_); · trivial)
    exact ⟨_, hI⟩
  rintro mm e s1 ⟨i, rfl, hle_i, hl, k3, k4, k5, k6, h_i, hst, ⟨m, hI⟩⟩
  refine vw_seq_k fun K6 hK6 => ?_
  refine vw_seq_k fun K7 hK7 => ?_
  have hb3 := hI.b3
  refine vw_sc 0 [] ?_
  simp only [bs, ↓vopx, ↓vop, Nat.reduceBEq, thenV, Nat.reduceLT, dLoad, vpart, opII, hl, k3, h_i, wocs, ↓goc, ↓woc, ↓vopm0, Tryd.ag23, Tryd.fd25_1, Tryd.sz23, Tryd.un23, nns, len_tPairs, hb3]
  refine hK7 _ _ ?_
  refine vw_cond_k fun A B hA hB => ?_
  simp only [condV, ev_hit, length_putv, Nat.reduceLT, decide_eq_true_eq, decide_eq_false_iff_not, hl]
  refine ⟨fun hc25 => hA ?_, fun hc25 => hB ?_⟩
  · clear hA hB A B
    refine vw_skip ?_
    refine hK6 _ _ ?_
    refine vw_seq_k fun K8 hK8 => ?_
    refine vw_block ?_
    obtain ⟨p, hp⟩ : ∃ p, c.pairs[i]? = some p := ⟨_, List.getElem?_eq_getElem (by omega)⟩
    have g0 := getP0 hp
    have g1 := getP1 hp
    have hfl := flat_length c.pairs
    have hb3 := hI.b3
    have hb6 := hI.b6
    have ham := hI.am
    have lm := hI.lm
    have l6 := hI.l6
    have hd6 := hI.d
    have hlp : (b.pairs ++ (c.pairs.take i).map (shP b.labels.length)).length = b.pairs.length + i := by rw [List.length_append, List.length_map, List.length_take]; omega
    have hil : i < c.pairs.length := by omega
    have hin : (0 ≤ p.1 ∧ p.1 < c.labels.length) ∧ (0 ≤ p.2 ∧ p.2 < c.labels.length) := inB_iff.1 ((List.all_eq_true.1 hcO.inb) p (List.mem_of_getElem? hp))
    have y1 : ¬ s.next + 1 = m := by omega
    have y2 : ¬ n6 = m := hd6
    have y3 : ¬ m = n6 := fun h => hd6 h.symm
    have y4 : ¬ n6 = s1.next := by omega
    have y5 : ¬ m = s1.next := by omega
    have y6 : ¬ s1.next = m := by omega
    have y7 : ¬ n6 = s1.next + 1 := by omega
    refine vw_chain_del (m) Tryd.mixed 20 [0, 2, 0, 1, 0, 1, 0, 1, 0, 0, 0, 1, 0, 1, 0, 1, 0, 0, 0, 3] [] [] 0 (by decide +kernel) (by simp [length_putv, hl]) rfl ?_
    simp only [bs, dstT, srcT, Nat.reduceLeDiff, Nat.reduceAdd, vparts, gfill, repl, Sg.frzP, ↓vopx, ↓vop, Nat.reduceBEq, thenV, blockV, Nat.reduceLT, V.cells, dLoad, vpart, opII, Sg.frzL, Sg.frz1, hl, k3, k5, k6, h_i, wocs, ↓goc, ↓woc, ↓vopm0, ↓vopm1, chn, ↓goq, ↓woq, List.zip_cons_cons, List.zip_nil_right, Tryd.ag23, Tryd.ag3, Tryd.fd25_1, Tryd.fd84_0, Tryd.fd84_1, Tryd.sl23, Tryd.st84, Tryd.sz23, Tryd.sz3, Tryd.sz84, Tryd.un23, half22, nns, hb3, hb6, ham, hfl, g0, g1, hlp, flat_length, y2, y4, y5, y7]
    repeat ((with_reducible refine And.intro ?_ ?_); · first | omega | exact ⟨by omega, by omega⟩ | exact keep_da _ _ _)
    refine hK8 _ _ ?_
    refine vw_sc 0 [] ?_
    simp only [bs, ↓vopx, ↓vop, Nat.reduceBEq, thenV, flat, Nat.reduceLT, opII, hl, k3, k4, k5, k6, h_i, wocs, ↓goc, ↓woc, ↓vopm0]
    repeat ((with_reducible refine And.intro ?_ ?_); · exact ⟨by omega, by omega⟩)
    refine ⟨c.pairs.length - (i + 1), by omega, i + 1, rfl, by omega, ?_⟩
    try simp only [ev_hit, ev_miss, Nat.reduceBEq, length_putv, hl, k3, k4, k5, k6, h_i, if_true, if_false, Nat.reduceEqDiff, Nat.reduceLT, true_and, and_true]
    repeat ((with_reducible refine And.intro ?_ ?_); · trivial)
    exact ⟨_, hI.push hp _⟩
  · clear hA hB A B
    refine vw_exit ?_
    simp only [thenV, blockV, if_true]
    refine hK4 _ _ ?_
    refine vw_seq_k fun K9 hK9 => ?_
    have hii : i = c.pairs.length := by omega
    subst hii
    have l6 := hI.l6
    have lm := hI.lm
    have hd6 := hI.d
    have ham := hI.am
    have hb6 := hI.b6
    have hb4 := hI.b4
    have hsm := hI.same
    rw [List.take_of_length_le (Nat.le_refl _)] at ham
    refine VW.freezeBox n6 1 (n := m) hb6 rfl ham (by rw [flat_length, List.length_append, List.length_map]) ?_
    have y8 : ¬ s.next + 1 + 1 = n6 := by omega
    have y9 : ¬ s.next + 1 + 1 = m := by omega
    refine vw_sc 0 [] ?_
    simp only [bs, Nat.reduceAdd, ↓vopx, ↓vop, Nat.reduceBEq, thenV, Nat.reduceLT, V.cells, dLoad, vpart, hl, k4, k6, wocs, ↓goc, ↓woc, ↓vopm0, Tryd.ag25, Tryd.sz25, hb4, y8, y9, List.set_cons_succ, List.set_cons_zero]
    refine hK9 _ _ ?_
    refine vw_ret ?_
    refine hQ _ _ _ (.inr rfl) (Done.toS ?_)
    refine done_flat (vs := [vObj (besideS b c)]) ?_ rfl (by simp [pack, nm, nm2, nm1, nm0]) (fun n b hn h => by rw [m_set, if_neg (by omega), m_set, if_neg (by omega), m_del, if_neg (by omega)]; exact (hsm n hn).trans h)
    show vres Tryd.prog _ _ [.cell 4 25] = _
    simp only [vres_cell, vres_nil, ev_miss, Nat.reduceBEq, k4, Tryd.sz25, Tryd.ag25, dLoad, m_set, vpart, if_true, List.drop_zero, List.take_succ_cons, List.take_zero, List.length_cons, List.length_nil, Nat.zero_add, Nat.reduceAdd]
    rfl

end Go.Proofs

open Go Go.V
namespace Go.Proofs

theorem nc2 : ((2 : Nat) : Int) = 2 := rfl
theorem nc3 : ((3 : Nat) : Int) = 3 := rfl
end Go.Proofs

open Go Go.V
namespace Go.Proofs

theorem few_le {o : Ob} (h : fewS o = true) : o.labels.length ≤ 50 ∧ o.pairs.length ≤ 200 := by
  unfold fewS at h
  simp only [Bool.and_eq_true, decide_eq_true_eq] at h
  exact ⟨h.1.2, h.2⟩
end Go.Proofs

open Go Go.V
namespace Go.Proofs

set_option maxRecDepth 20000 in
theorem refIdZ_ (n : Int) : PCall Tryd.prog 61 [I n] (.t (tInts (idS n))) := by
  refine pcall_of_body Tryd.func61 rfl fun s Q hQ => ?_
  obtain ⟨e, he, hl, h0⟩ : ∃ e : Env, ([I n] ++ List.replicate (Tryd.f61.ntmps - ([I n] : List V).length) .junk) = e ∧ e.length = 16 ∧ ev e (.tmp 0) = I n := ⟨_, rfl, rfl, rfl⟩
  rw [he]
  clear he
  have hN : idN n ≤ 40 := by unfold idN; omega
  refine vw_seq_k fun K1 hK1 => ?_
  refine vw_sc 0 [] ?_
  simp only [bs, ↓vopx, ↓vop, thenV, flat, wocs, ↓goc, ↓woc, ↓vopm0]
  refine hK1 _ _ ?_
  refine vw_seq_k fun K2 hK2 => ?_
  refine vw_sc 0 [] ?_
  simp only [bs, ↓vopx, ↓vop, thenV, flat, wocs, ↓goc, ↓woc, ↓vopm0]
  refine hK2 _ _ ?_
  refine vw_seq_k fun K3 hK3 => ?_
  refine vw_seq_k fun K4 hK4 => ?_
  refine VW.name 3 1 3 (by omega) (by simp only [ev_hit, length_putv, hl, Nat.reduceLT]) ?_
  refine vw_sc 0 [] ?_
  simp only [bs, ↓vopx, ↓vop, thenV, flat, wocs, ↓goc, ↓woc, ↓vopm0]
  refine hK4 _ _ ?_
  refine vw_block ?_
  refine vw_loop (fun mm e' s' => ∃ i : Nat, mm = idN n - i ∧ i ≤ idN n ∧ e'.length = 16 ∧ ev e' (.tmp 0) = I n ∧ ev e' (.tmp 4) = I i ∧ True ∧ ∃ m, ev e' (.tmp 3) = .loc m 0 (rangeI i).length ∧ GrowI s s' m (rangeI i) ∧ Keep s s' ∧ s.next ≤ s'.next) (⟨0, rfl, Nat.zero_le _, ?_⟩) ?_
  · try simp only [ev_hit, ev_miss, Nat.reduceBEq, length_putv, hl, h0, Nat.reduceLT, true_and]
    repeat ((with_reducible refine And.intro ?_ ?_); · trivial)
    exact ⟨s.next, rfl, GrowI.new s, (Keep.refl s).add (Nat.le_refl _) _, by simp [Sg.add]⟩
  rintro mm e s1 ⟨i, rfl, hle_i, hl, h0, h_i, hst, ⟨m, hm3, hgr, hkeep, hnx⟩⟩
  refine vw_seq_k fun K5 hK5 => ?_
  refine vw_seq_k fun K6 hK6 => ?_
  refine vw_sc 0 [] ?_
  simp only [bs, ↓vopx, ↓vop, Nat.reduceBEq, thenV, flat, Nat.reduceLT, opII, hl, h0, h_i, wocs, ↓goc, ↓woc, ↓vopm0]
  refine hK6 _ _ ?_
  refine vw_cond_k fun A B hA hB => ?_
  simp only [condV, ev_hit, length_putv, Nat.reduceLT, decide_eq_true_eq, decide_eq_false_iff_not, hl]
  refine ⟨fun hc8 => hA ?_, fun hc8 => hB ?_⟩
  · clear hA hB A B
    have hlt : i < idN n := by unfold idN; omega
    refine vw_skip ?_
    refine hK5 _ _ ?_
    refine vw_seq_k fun K7 hK7 => ?_
    refine vw_block ?_
    have hne : ¬ m = s1.next := by have := hgr.2.2; omega
    have hg0 := hgr.1
    refine vw_sc 0 [] ?_
    simp only [bs, dstT, srcT, Nat.reduceLeDiff, vparts, gfill, repl, Sg.frzP, ↓vopx, ↓vop, Nat.reduceBEq, thenV, blockV, Nat.reduceLT, V.cells, Sg.frzL, Sg.frz1, hl, h_i, hm3, wocs, ↓goc, ↓woc, ↓vopm0, Tryd.sl26, hg0, hne, rangeI_length, Nat.div_one]
    repeat ((with_reducible refine And.intro ?_ ?_); · omega)
    refine hK7 _ _ ?_
    refine vw_sc 0 [] ?_
    simp only [bs, ↓vopx, ↓vop, Nat.reduceBEq, thenV, flat, Nat.reduceLT, opII, hl, h0, h_i, wocs, ↓goc, ↓woc, ↓vopm0]
    repeat ((with_reducible refine And.intro ?_ ?_); · exact ⟨by omega, by omega⟩)
    refine ⟨idN n - (i + 1), by omega, i + 1, rfl, by omega, ?_⟩
    try simp only [ev_hit, ev_miss, Nat.reduceBEq, length_putv, hl, h0, h_i, hm3, if_true, if_false, Nat.reduceEqDiff, Nat.reduceLT, true_and, and_true]
    repeat ((with_reducible refine And.intro ?_ ?_); · trivial)
    exact ⟨s1.next + 1, by simp [rangeI_length], by rw [rangeI_succ]; exact hgr.push hnx _ i, hgr.keep hkeep hnx _ _, by omega⟩
  · clear hA hB A B
    have han : idN n = i := by unfold idN at *; omega
    rw [← han] at hgr hm3
    refine vw_exit ?_
    simp only [thenV, blockV, if_true]
    refine hK3 _ _ ?_
    refine vw_seq_k fun K8 hK8 => ?_
    refine vw_sc 0 [] ?_
    simp only [bs, ↓vopx, ↓vop, Nat.reduceBEq, thenV, Nat.reduceLT, hl, hm3, wocs, ↓goc, ↓woc, ↓vopm0]
    refine hK8 _ _ ?_
    refine vw_ret ?_
    refine hQ _ _ _ (.inr rfl) (done_loc (n := m) (len := (rangeI (idN n)).length) ?_ hgr.1 ?_ hgr.2.1 hkeep)
    all_goals try simp only [ev_hit, length_putv, hl, Nat.reduceLT]
    all_goals (try simp)
    all_goals (try rfl)

end Go.Proofs

open Go Go.V
namespace Go.Proofs

theorem idS_leg (n : Nat) (h : n ≤ 40) : idS (n : Int) = legT n 0 := by
  unfold idS legT
  rw [show idN (n : Int) = n by simp [idN]; omega]
  simp
theorem legT_mv (n by_ : Nat) : (legT n 0).map (· + (by_ : Int)) = legT n by_ := by
  unfold legT
  rw [List.map_map]
  refine List.map_congr_left fun i _ => ?_
  simp; omega
theorem moved_leg (n by_ : Nat) (hn : n ≤ 1000) (hb : by_ ≤ 1000) : PCall Tryd.prog 71 [.t (tInts (legT n 0)), I by_] (.t (tInts (legT n by_))) := by
  have h := refMoved_ (legT n 0) by_ (by rw [legT_length]; exact hn) hb fun z hz => by
    obtain ⟨i, hi, rfl⟩ := List.mem_map.1 hz
    have := List.mem_range.1 hi
    constructor <;> omega
  rw [legT_mv] at h
  exact h
theorem id_leg (n : Nat) (hn : n ≤ 40) : PCall Tryd.prog 61 [I n] (.t (tInts (legT n 0))) := by rw [← idS_leg n hn]; exact refIdZ_ n

set_option maxRecDepth 20000 in
set_option maxHeartbeats 4000000 in
theorem refSum_ (b c : Ob) (hb1 : b.labels.length < 1000000000) (hb2 : b.pairs.length < 1000000000) (hc1 : c.labels.length < 1000000000) (hc2 : c.pairs.length < 1000000000) : PCall Tryd.prog 27 [vObj b, vObj c] (vSum (sumS b c)) := by
  refine pcall_of_body Tryd.func27 rfl fun s Q hQ => ?_
  obtain ⟨e, he, hl, h0, h1⟩ : ∃ e : Env, ([vObj b, vObj c] ++ List.replicate (Tryd.f27.ntmps - ([vObj b, vObj c] : List V).length) .junk) = e ∧ e.length = 47 ∧ ev e (.tmp 0) = vObj b ∧ ev e (.tmp 1) = vObj c := ⟨_, rfl, rfl, rfl, rfl⟩
  rw [he]
  clear he
  have nn1 : ¬ s.next = s.next + 1 + 1 := by omega
  have nn2 : ¬ s.next + 1 = s.next + 1 + 1 := by omega
  have nn3 : ¬ s.next + 1 + 1 = s.next := by omega
  have nn4 : ¬ s.next + 1 + 1 = s.next + 1 := by omega
  refine vw_seq_k fun K1 hK1 => ?_
  refine vw_sc 0 [] ?_
  simp only [bs, ↓vopx, ↓vop, Nat.reduceBEq, thenV, flat, V.cells, h0, h1, wocs, ↓goc, ↓woc, ↓vopm0, Tryd.zv25]
  refine hK1 _ _ ?_
  refine vw_seq_k fun K2 hK2 => ?_
  refine vw_seq_k fun K3 hK3 => ?_
  rcases (show (b.labels.length : Int) > 40 ∨ (¬ (b.labels.length : Int) > 40 ∧ (c.labels.length : Int) > 40 - b.labels.length) ∨ (¬ (b.labels.length : Int) > 40 ∧ ¬ (c.labels.length : Int) > 40 - b.labels.length) by omega) with qa | ⟨qa, qb⟩ | ⟨qa, qb⟩
  · have hlg : largeS [b, c] = true := by rw [largeS_two]; exact decide_eq_true (by omega)
    refine vw_sc 0 [] ?_
    simp only [bs, ↓vopx, ↓vop, Nat.reduceBEq, thenV, flat, Nat.reduceLT, dLoad, vpart, opII, gtmp, hl, wocs, ↓goc, ↓woc, ↓vopm0, ↓pick_tf, Tryd.ag22, Tryd.fd25_0, Tryd.sz22, Tryd.un22, nn1, len_tStrs, qa]
    refine hK3 _ _ ?_
    refine vw_cond_k fun A B hA hB => ?_
    simp only [condV, ev_hit, length_putv, Nat.reduceLT, true_implies, reduceCtorEq, false_implies, and_true, hl]
    refine hA ?_
    clear hA hB A B
    refine vw_seq_k fun K4 hK4 => ?_
    refine vw_sc 0 [] ?_
    simp only [bs, Nat.reduceAdd, vparts, gfill, ↓vopx, ↓vop, Nat.reduceBEq, thenV, flat, Nat.reduceLT, V.cells, hl, wocs, ↓goc, ↓woc, ↓vopm0, Tryd.st25, Tryd.sz25, nn3, nn4]
    refine hK4 _ _ ?_
    refine vw_ret ?_
    have hres : vSum (sumS b c) = pack [vObj ⟨[], []⟩, .t (tInts []), .t (tInts []), I 11] := by simp [sumS, vSum, hlg]; rfl
    rw [hres] at hQ
    refine hQ _ _ _ (.inr rfl) (done_wk (vs := [.agg [.t (.v (.slice none 0 0)), .t (.v (.slice none 0 0))], .t (.v (.slice none 0 0)), .t (.v (.slice none 0 0)), I 11]) (vs' := [vObj ⟨[], []⟩, .t (tInts []), .t (tInts []), I 11]) ?_ rfl (ewk_err4 _ _) (by simp [pack, nm, nm2, nm1, nm0]) ?_)
    · show vres Tryd.prog _ _ [.cell 4 25, .tmp 5, .tmp 6, .tmp 7] = _
      simp only [vres_cell, vres_tmp, vres_nil, ev_hit, ev_miss, Nat.reduceBEq, length_putv, hl, Tryd.sz25, Tryd.ag25, dLoad, m_set, m_add, vpart, if_true, Nat.reduceLT, List.drop_zero, List.take_succ_cons, List.take_zero, List.length_cons, List.length_nil, Nat.zero_add, Nat.reduceAdd]
      try rfl
    · exact fun n b hn h => by simp [Sg.add, Sg.set, show n ≠ s.next by omega, show n ≠ s.next + 1 by omega, show n ≠ s.next + 2 by omega, h]
  · have hlg : largeS [b, c] = true := by rw [largeS_two]; exact decide_eq_true (by omega)
    refine vw_sc 0 [] ?_
    simp only [bs, ↓vopx, ↓vop, Nat.reduceBEq, thenV, flat, Nat.reduceLT, dLoad, vpart, opII, gtmp, hl, wocs, ↓goc, ↓woc, ↓vopm0, ↓pick_ff, Tryd.ag22, Tryd.fd25_0, Tryd.sz22, Tryd.un22, nn1, nn2, len_tStrs, qa, qb]
    repeat ((with_reducible refine And.intro ?_ ?_); · exact ⟨by omega, by omega⟩)
    refine hK3 _ _ ?_
    refine vw_cond_k fun A B hA hB => ?_
    simp only [condV, ev_hit, length_putv, Nat.reduceLT, true_implies, reduceCtorEq, false_implies, and_true, hl]
    refine hA ?_
    clear hA hB A B
    refine vw_seq_k fun K5 hK5 => ?_
    refine vw_sc 0 [] ?_
    simp only [bs, Nat.reduceAdd, vparts, gfill, ↓vopx, ↓vop, Nat.reduceBEq, thenV, flat, Nat.reduceLT, V.cells, hl, wocs, ↓goc, ↓woc, ↓vopm0, Tryd.st25, Tryd.sz25, nn3, nn4]
    refine hK5 _ _ ?_
    refine vw_ret ?_
    have hres : vSum (sumS b c) = pack [vObj ⟨[], []⟩, .t (tInts []), .t (tInts []), I 11] := by simp [sumS, vSum, hlg]; rfl
    rw [hres] at hQ
    refine hQ _ _ _ (.inr rfl) (done_wk (vs := [.agg [.t (.v (.slice none 0 0)), .t (.v (.slice none 0 0))], .t (.v (.slice none 0 0)), .t (.v (.slice none 0 0)), I 11]) (vs' := [vObj ⟨[], []⟩, .t (tInts []), .t (tInts []), I 11]) ?_ rfl (ewk_err4 _ _) (by simp [pack, nm, nm2, nm1, nm0]) ?_)
    · show vres Tryd.prog _ _ [.cell 4 25, .tmp 5, .tmp 6, .tmp 7] = _
      simp only [vres_cell, vres_tmp, vres_nil, ev_hit, ev_miss, Nat.reduceBEq, length_putv, hl, Tryd.sz25, Tryd.ag25, dLoad, m_set, m_add, vpart, if_true, Nat.reduceLT, List.drop_zero, List.take_succ_cons, List.take_zero, List.length_cons, List.length_nil, Nat.zero_add, Nat.reduceAdd]
      try rfl
    · exact fun n b hn h => by simp [Sg.add, Sg.set, show n ≠ s.next by omega, show n ≠ s.next + 1 by omega, show n ≠ s.next + 2 by omega, h]
  · have hlg : largeS [b, c] = false := by rw [largeS_two]; exact decide_eq_false (by omega)
    refine vw_sc 0 [] ?_
    simp only [bs, ↓vopx, ↓vop, Nat.reduceBEq, thenV, flat, Nat.reduceLT, dLoad, vpart, opII, gtmp, hl, wocs, ↓goc, ↓woc, ↓vopm0, ↓pick_ff, Tryd.ag22, Tryd.fd25_0, Tryd.sz22, Tryd.un22, nn1, nn2, len_tStrs, qa, qb]
    repeat ((with_reducible refine And.intro ?_ ?_); · exact ⟨by omega, by omega⟩)
    refine hK3 _ _ ?_
    refine vw_cond_k fun A B hA hB => ?_
    simp only [condV, ev_hit, length_putv, Nat.reduceLT, true_implies, reduceCtorEq, false_implies, true_and, hl]
    refine hB ?_
    clear hA hB A B
    refine vw_skip ?_
    refine hK2 _ _ ?_
    refine vw_seq_k fun K6 hK6 => ?_
    refine vw_seq_k fun K7 hK7 => ?_
    rcases (show (checkS b == 0) = false ∨ ((checkS b == 0) = true ∧ (checkS c == 0) = false) ∨ ((checkS b == 0) = true ∧ (checkS c == 0) = true) by cases (checkS b == 0) <;> cases (checkS c == 0) <;> simp) with kb | ⟨kb, kc⟩ | ⟨kb, kc⟩
    · refine vw_sc 0 [.pur (Bo (checkS b == 0))] ?_
      simp only [bs, Nat.reduceAdd, ↓vopx, ↓vop, Nat.reduceBEq, thenV, flat, Nat.reduceLT, dLoad, vpart, gtmp, hl, wocs, ↓goc, ↓woc, ↓vopm0, ↓callC, ↓pick_tf, calleeV, Tryd.ag25, Tryd.sz25, nn1, kb]
      repeat ((with_reducible refine And.intro ?_ ?_); · exact ⟨Tryd.is31, by simpa only [kb] using refIsOb_ b (by omega) (by omega)⟩)
      refine hK7 _ _ ?_
      refine vw_cond_k fun A B hA hB => ?_
      simp only [condV, ev_hit, length_putv, Nat.reduceLT, true_implies, reduceCtorEq, false_implies, and_true, hl]
      refine hA ?_
      clear hA hB A B
      refine vw_seq_k fun K8 hK8 => ?_
      refine vw_sc 0 [] ?_
      simp only [bs, Nat.reduceAdd, vparts, gfill, ↓vopx, ↓vop, Nat.reduceBEq, thenV, flat, Nat.reduceLT, V.cells, hl, wocs, ↓goc, ↓woc, ↓vopm0, Tryd.st25, Tryd.sz25, nn3, nn4]
      refine hK8 _ _ ?_
      refine vw_ret ?_
      have hres : vSum (sumS b c) = pack [vObj ⟨[], []⟩, .t (tInts []), .t (tInts []), I 10] := by simp [sumS, vSum, hlg, kb]; rfl
      rw [hres] at hQ
      refine hQ _ _ _ (.inr rfl) (done_wk (vs := [.agg [.t (.v (.slice none 0 0)), .t (.v (.slice none 0 0))], .t (.v (.slice none 0 0)), .t (.v (.slice none 0 0)), I 10]) (vs' := [vObj ⟨[], []⟩, .t (tInts []), .t (tInts []), I 10]) ?_ rfl (ewk_err4 _ _) (by simp [pack, nm, nm2, nm1, nm0]) ?_)
      · show vres Tryd.prog _ _ [.cell 4 25, .tmp 5, .tmp 6, .tmp 7] = _
        simp only [vres_cell, vres_tmp, vres_nil, ev_hit, ev_miss, Nat.reduceBEq, length_putv, hl, Tryd.sz25, Tryd.ag25, dLoad, m_set, m_add, vpart, if_true, Nat.reduceLT, List.drop_zero, List.take_succ_cons, List.take_zero, List.length_cons, List.length_nil, Nat.zero_add, Nat.reduceAdd]
        try rfl
      · exact fun n b hn h => by simp [Sg.add, Sg.set, show n ≠ s.next by omega, show n ≠ s.next + 1 by omega, show n ≠ s.next + 2 by omega, h]
    · refine vw_sc 0 [.pur (Bo (checkS b == 0)), .pur (Bo (checkS c == 0))] ?_
      simp only [bs, Nat.reduceAdd, ↓vopx, ↓vop, Nat.reduceBEq, thenV, flat, Nat.reduceLT, dLoad, vpart, gtmp, hl, wocs, ↓goc, ↓woc, ↓vopm0, ↓callC, ↓pick_ff, calleeV, Tryd.ag25, Tryd.sz25, nn1, nn2, kb, kc]
      repeat ((with_reducible refine And.intro ?_ ?_); · first | exact ⟨Tryd.is31, by simpa only [kb] using refIsOb_ b (by omega) (by omega)⟩ | exact ⟨Tryd.is31, by simpa only [kc] using refIsOb_ c (by omega) (by omega)⟩)
      refine hK7 _ _ ?_
      refine vw_cond_k fun A B hA hB => ?_
      simp only [condV, ev_hit, length_putv, Nat.reduceLT, true_implies, reduceCtorEq, false_implies, and_true, hl]
      refine hA ?_
      clear hA hB A B
      refine vw_seq_k fun K9 hK9 => ?_
      refine vw_sc 0 [] ?_
      simp only [bs, Nat.reduceAdd, vparts, gfill, ↓vopx, ↓vop, Nat.reduceBEq, thenV, flat, Nat.reduceLT, V.cells, hl, wocs, ↓goc, ↓woc, ↓vopm0, Tryd.st25, Tryd.sz25, nn3, nn4]
      refine hK9 _ _ ?_
      refine vw_ret ?_
      have hres : vSum (sumS b c) = pack [vObj ⟨[], []⟩, .t (tInts []), .t (tInts []), I 10] := by simp [sumS, vSum, hlg, kc]; rfl
      rw [hres] at hQ
      refine hQ _ _ _ (.inr rfl) (done_wk (vs := [.agg [.t (.v (.slice none 0 0)), .t (.v (.slice none 0 0))], .t (.v (.slice none 0 0)), .t (.v (.slice none 0 0)), I 10]) (vs' := [vObj ⟨[], []⟩, .t (tInts []), .t (tInts []), I 10]) ?_ rfl (ewk_err4 _ _) (by simp [pack, nm, nm2, nm1, nm0]) ?_)
      · show vres Tryd.prog _ _ [.cell 4 25, .tmp 5, .tmp 6, .tmp 7] = _
        simp only [vres_cell, vres_tmp, vres_nil, ev_hit, ev_miss, Nat.reduceBEq, length_putv, hl, Tryd.sz25, Tryd.ag25, dLoad, m_set, m_add, vpart, if_true, Nat.reduceLT, List.drop_zero, List.take_succ_cons, List.take_zero, List.length_cons, List.length_nil, Nat.zero_add, Nat.reduceAdd]
        try rfl
      · exact fun n b hn h => by simp [Sg.add, Sg.set, show n ≠ s.next by omega, show n ≠ s.next + 1 by omega, show n ≠ s.next + 2 by omega, h]
    · refine vw_sc 0 [.pur (Bo (checkS b == 0)), .pur (Bo (checkS c == 0))] ?_
      simp only [bs, Nat.reduceAdd, ↓vopx, ↓vop, Nat.reduceBEq, thenV, flat, Nat.reduceLT, dLoad, vpart, gtmp, hl, wocs, ↓goc, ↓woc, ↓vopm0, ↓callC, ↓pick_ff, calleeV, Tryd.ag25, Tryd.sz25, nn1, nn2, kb, kc]
      repeat ((with_reducible refine And.intro ?_ ?_); · first | exact ⟨Tryd.is31, by simpa only [kb] using refIsOb_ b (by omega) (by omega)⟩ | exact ⟨Tryd.is31, by simpa only [kc] using refIsOb_ c (by omega) (by omega)⟩)
      refine hK7 _ _ ?_
      refine vw_cond_k fun A B hA hB => ?_
      simp only [condV, ev_hit, length_putv, Nat.reduceLT, true_implies, reduceCtorEq, false_implies, true_and, hl]
      refine hB ?_
      clear hA hB A B
      refine vw_skip ?_
      refine hK6 _ _ ?_
      refine vw_seq_k fun K10 hK10 => ?_
      refine vw_sc 0 [] ?_
      simp only [bs, ↓vopx, ↓vop, Nat.reduceBEq, thenV, Nat.reduceLT, dLoad, vpart, hl, wocs, ↓goc, ↓woc, ↓vopm0, Tryd.ag22, Tryd.fd25_0, Tryd.sz22, Tryd.un22, nn1, len_tStrs]
      refine hK10 _ _ ?_
      refine vw_seq_k fun K11 hK11 => ?_
      refine vw_chain Tryd.mixed 10 [1, 1, 0, 0, 0, 0, 1, 0, 0, 0] [.pur (vObj (besideS b c)), .pur (.t (tInts (legT b.labels.length 0))), .pur (.t (tInts (legT c.labels.length 0)))] [.pur (.t (tInts (legT c.labels.length b.labels.length)))] 0 (by decide +kernel) (by simp [length_putv, hl]) rfl ?_
      simp only [bs, Nat.reduceAdd, ↓vopx, ↓vop, Nat.reduceBEq, thenV, flat, Nat.reduceLT, V.cells, dLoad, vpart, hl, wocs, ↓goc, ↓woc, ↓vopm0, ↓vopm1, ↓callC, calleeV, chn, ↓goq, ↓woq, ↓callQ, List.zip_cons_cons, List.zip_nil_right, Tryd.ag22, Tryd.ag25, Tryd.fd25_0, Tryd.sz22, Tryd.sz25, Tryd.un22, nn1, nn2, nn3, nn4, len_tStrs]
      repeat ((with_reducible refine And.intro ?_ ?_); · first | exact ⟨Tryd.is69, beside69 b c hb1 hb2 hc1 hc2 (checkS_zero.1 (beq_iff_eq.1 kc))⟩ | exact ⟨Tryd.is61, id_leg _ (by omega)⟩ | exact ⟨Tryd.is71, moved_leg _ _ (by omega) (by omega)⟩)
      refine hK11 _ _ ?_
      refine vw_ret ?_
      have hres : vSum (sumS b c) = pack [vObj (besideS b c), .t (tInts (legT b.labels.length 0)), .t (tInts (legT c.labels.length b.labels.length)), I 0] := by simp [sumS, vSum, hlg, kb, kc]; rfl
      rw [hres] at hQ
      refine hQ _ _ _ (.inr rfl) ?_
      refine done_flat (vs := [vObj (besideS b c), .t (tInts (legT b.labels.length 0)), .t (tInts (legT c.labels.length b.labels.length)), I 0]) ?_ rfl (by simp [pack, nm, nm2, nm1, nm0]) (fun n b hn h => by simp [Sg.add, Sg.set, show n ≠ s.next by omega, show n ≠ s.next + 1 by omega, show n ≠ s.next + 2 by omega, h])
      show vres Tryd.prog _ _ [.cell 4 25, .tmp 5, .tmp 6, .tmp 7] = _
      simp only [vres_cell, vres_tmp, vres_nil, ev_hit, ev_miss, Nat.reduceBEq, length_putv, hl, Tryd.sz25, Tryd.ag25, dLoad, m_set, m_add, vpart, if_true, Nat.reduceLT, List.drop_zero, List.take_succ_cons, List.take_zero, List.length_cons, List.length_nil, Nat.zero_add, Nat.reduceAdd]

end Go.Proofs

open Go Go.V
namespace Go.Proofs

abbrev gMv (b : Ob) (g : List Int) : List Int := g.map (· + (b.labels.length : Int))
/-- the places when two maps into two objects are made one -/
def puPl (b c : Ob) (f g : List Int) : List Int := placesL (joinsL (rangeI (b.labels.length + c.labels.length)) f (gMv b g) f.length)
def pushR (a b c : Ob) (f g : List Int) : Ob × List Int × List Int × Int :=
  if largeS [a] = true ∨ largeS [b] = true ∨ largeS [b, c] = true then (⟨[], []⟩, [], [], 11) else if arrS a b f = true ∧ arrS a c g = true then
    (gluedS (besideS b c) (puPl b c f g), (puPl b c f g).take b.labels.length, (puPl b c f g).drop b.labels.length, 0)
  else (⟨[], []⟩, [], [], 10)
theorem legT_get {n base i : Nat} (h : i < n) : (legT n base)[i]? = some ((base + i : Nat) : Int) := by simp [legT, h]
theorem then_leg {f : List Int} {n base : Nat} (h : ∀ y ∈ f, 0 ≤ y ∧ y < n) : (thenS f (legT n base)).1 = f.map (· + (base : Int)) := by
  have ha : f.all (fun y => decide (0 ≤ y) && decide (y < (legT n base).length)) = true := by
    rw [List.all_eq_true]
    intro y hy
    have := h y hy
    rw [legT_length]
    simp only [Bool.and_eq_true, decide_eq_true_eq]; exact this
  unfold thenS
  rw [if_pos ha]
  show List.map _ f = _
  refine List.map_congr_left fun y hy => ?_
  have hy2 := h y hy
  have := legT_get (n := n) (base := base) (i := y.toNat) (by omega)
  rw [List.getD_eq_getElem?_getD, this]
  show ((base + y.toNat : Nat) : Int) = y + base
  omega
theorem leg_then {L : List Int} {n base : Nat} (h : base + n ≤ L.length) : (thenS (legT n base) L).1 = (L.drop base).take n := by
  have ha : (legT n base).all (fun y => decide (0 ≤ y) && decide (y < L.length)) = true := by
    rw [List.all_eq_true]
    intro y hy
    obtain ⟨i, hi, rfl⟩ := List.mem_map.1 hy
    have := List.mem_range.1 hi
    simp only [Bool.and_eq_true, decide_eq_true_eq]; omega
  unfold thenS
  rw [if_pos ha]
  show List.map _ (legT n base) = _
  apply List.ext_getElem?
  intro i
  by_cases hi : i < n
  · rw [List.getElem?_map, legT_get hi, List.getElem?_take, if_pos hi, List.getElem?_drop, Option.map_some, Int.toNat_natCast, List.getD_eq_getElem?_getD, List.getElem?_eq_getElem (show base + i < L.length by omega)]; rfl
  · rw [List.getElem?_eq_none (by simp [legT]; omega), List.getElem?_eq_none (by simp; omega)]
theorem arr_all {a b : Ob} {f : List Int} (h : arrS a b f = true) : ∀ y ∈ f, 0 ≤ y ∧ y < b.labels.length := fun y hy => by
  obtain ⟨i, hi⟩ := List.mem_iff_getElem?.1 hy
  obtain ⟨z, h1, h2⟩ := arr_at h (List.getElem?_eq_some_iff.1 hi).1
  rw [hi] at h1; cases h1
  omega
theorem pushS_eq (a b c : Ob) (f g : List Int) : pushS a b c f g = pushR a b c f g := by
  unfold pushS pushR
  by_cases h1 : largeS [a] = true ∨ largeS [b, c] = true
  · rw [if_pos h1, if_pos (by rcases h1 with h | h; exact .inl h; exact .inr (.inr h))]
  · have h2 : ¬ (largeS [a] = true ∨ largeS [b] = true ∨ largeS [b, c] = true) := by
      rintro (h | h | h)
      · exact h1 (.inl h)
      · refine h1 (.inr ?_)
        rw [largeS_one] at h
        rw [largeS_two]
        have := of_decide_eq_true h
        exact decide_eq_true (by omega)
      · exact h1 (.inr h)
    rw [if_neg h1, if_neg h2]
    by_cases hk : arrS a b f = true ∧ arrS a c g = true
    · rw [if_pos hk, if_pos hk]
      obtain ⟨kf, kg⟩ := hk
      have hob := (arrS_iff.1 kf).2.1
      have hoc := (arrS_iff.1 kg).2.1
      have hbc : b.labels.length + c.labels.length ≤ 40 := by
        have : ¬ largeS [b, c] = true := fun h => h1 (.inr h)
        rw [largeS_two] at this
        have := mt decide_eq_true this
        omega
      have hol : (besideS b c).labels.length = b.labels.length + c.labels.length := by simp only [besideS, List.length_append]
      have t1 : (thenS f (legT b.labels.length 0)).1 = f := by rw [then_leg (arr_all kf)]; simp
      have t2 : (thenS g (legT c.labels.length b.labels.length)).1 = gMv b g := then_leg (arr_all kg)
      have he : pushE a b c f g = (gluedS (besideS b c) (puPl b c f g), puPl b c f g, 0) := by
        unfold pushE eqS
        rw [t1, t2]
        rw [if_neg (by
          rintro (h | h)
          · exact h1 (.inl h)
          · rw [largeS_one, hol] at h
            have := of_decide_eq_true h
            omega), if_pos ⟨arr_left kf hoc hbc, arr_right hob kg hbc⟩]
        have : eqPl (besideS b c) f (gMv b g) = puPl b c f g := by unfold eqPl puPl; rw [hol]
        rw [this]
      have hpl : (puPl b c f g).length = b.labels.length + c.labels.length := by unfold puPl; rw [placesL_length, joinsL_length, rangeI_length]
      rw [he]
      simp only [if_true]
      rw [leg_then (by omega), leg_then (by omega), List.drop_zero, show (List.drop b.labels.length (puPl b c f g)).take c.labels.length = List.drop b.labels.length (puPl b c f g) from List.take_of_length_le (by rw [List.length_drop]; omega)]
    · rw [if_neg hk, if_neg hk]
end Go.Proofs

open Go Go.V
namespace Go.Proofs


set_option maxRecDepth 20000 in
set_option maxHeartbeats 4000000 in
theorem refPush_ (a b c : Ob) (f g : List Int) (ha1 : a.labels.length < 1000000000) (ha2 : a.pairs.length < 1000000000) (hb1 : b.labels.length < 1000000000) (hb2 : b.pairs.length < 100000000) (hc1 : c.labels.length < 1000000000) (hc2 : c.pairs.length < 100000000) (hf : f.length < 100000000) (hg : g.length < 100000000) : PCall Tryd.prog 23 [vObj a, vObj b, vObj c, .t (tInts f), .t (tInts g)] (vSum (pushR a b c f g)) := by
  refine pcall_of_body Tryd.func23 rfl fun s Q hQ => ?_
  obtain ⟨e, he, hl, h0, h1, h2, h3, h4⟩ : ∃ e : Env, ([vObj a, vObj b, vObj c, .t (tInts f), .t (tInts g)] ++ List.replicate (Tryd.f23.ntmps - ([vObj a, vObj b, vObj c, .t (tInts f), .t (tInts g)] : List V).length) .junk) = e ∧ e.length = 95 ∧ ev e (.tmp 0) = vObj a ∧ ev e (.tmp 1) = vObj b ∧ ev e (.tmp 2) = vObj c ∧ ev e (.tmp 3) = .t (tInts f) ∧ ev e (.tmp 4) = .t (tInts g) := ⟨_, rfl, rfl, rfl, rfl, rfl, rfl, rfl⟩
  rw [he]
  clear he
  refine vw_seq_k fun K1 hK1 => ?_
  refine vw_sc 0 [] ?_
  simp only [bs, ↓vopx, ↓vop, Nat.reduceBEq, thenV, flat, V.cells, h0, h1, h2, wocs, ↓goc, ↓woc, ↓vopm0, Tryd.zv25]
  refine hK1 _ _ ?_
  refine vw_seq_k fun K2 hK2 => ?_
  refine vw_seq_k fun K3 hK3 => ?_
  refine vw_st fun sN hSN => ?_
  have hn5 : sN.m s.next = some (.box 25 [.t (tStrs a.labels), .t (tPairs a.pairs)]) := by rw [hSN, m_add, if_neg (by simp only [n_add]; omega), m_add, if_neg (by simp only [n_add]; omega), m_add, if_neg (by simp only [n_add]; omega), m_add, if_pos rfl]
  have hn6 : sN.m (s.next + 1) = some (.box 25 [.t (tStrs b.labels), .t (tPairs b.pairs)]) := by rw [hSN, m_add, if_neg (by simp only [n_add]; omega), m_add, if_neg (by simp only [n_add]; omega), m_add, if_pos (by simp only [n_add])]
  have hn7 : sN.m (s.next + 1 + 1) = some (.box 25 [.t (tStrs c.labels), .t (tPairs c.pairs)]) := by rw [hSN, m_add, if_neg (by simp only [n_add]; omega), m_add, if_pos (by simp only [n_add])]
  have hn10 : sN.m (s.next + 1 + 1 + 1) = some (.box 25 [.t (.v (.slice none 0 0)), .t (.v (.slice none 0 0))]) := by rw [hSN, m_add, if_pos (by simp only [n_add])]
  have hnn : sN.next = s.next + 4 := by rw [hSN]; rfl
  have hnk : ∀ j, j < s.next → sN.m j = s.m j := fun j hj => by rw [hSN, m_add, if_neg (by simp only [n_add]; omega), m_add, if_neg (by simp only [n_add]; omega), m_add, if_neg (by simp only [n_add]; omega), m_add, if_neg (by omega)]
  clear hSN
  rcases (show (a.labels.length : Int) > 40 ∨ (¬ (a.labels.length : Int) > 40 ∧ (b.labels.length : Int) > 40) ∨ (¬ (a.labels.length : Int) > 40 ∧ ¬ (b.labels.length : Int) > 40 ∧ (c.labels.length : Int) > 40 - b.labels.length) ∨ (¬ (a.labels.length : Int) > 40 ∧ ¬ (b.labels.length : Int) > 40 ∧ ¬ (c.labels.length : Int) > 40 - b.labels.length) by omega) with qa | ⟨qa, qb⟩ | ⟨qa, qb, qc⟩ | ⟨qa, qb, qc⟩
  · have ka : largeS [a] = true := by rw [largeS_one]; exact decide_eq_true (by omega)
    refine vw_sc 0 [] ?_
    simp only [bs, ↓vopx, ↓vop, Nat.reduceBEq, thenV, flat, Nat.reduceLT, dLoad, vpart, opII, gtmp, hl, wocs, ↓goc, ↓woc, ↓vopm0, ↓pick_tf, Tryd.ag22, Tryd.fd25_0, Tryd.sz22, Tryd.un22, len_tStrs, qa, hn5]
    refine hK3 _ _ ?_
    refine vw_cond_k fun A B hA hB => ?_
    simp only [condV, ev_hit, length_putv, Nat.reduceLT, true_implies, reduceCtorEq, false_implies, and_true, hl]
    refine hA ?_
    clear hA hB A B
    refine vw_seq_k fun K4 hK4 => ?_
    refine vw_sc 0 [] ?_
    simp only [bs, Nat.reduceAdd, vparts, gfill, ↓vopx, ↓vop, Nat.reduceBEq, thenV, flat, Nat.reduceLT, V.cells, hl, wocs, ↓goc, ↓woc, ↓vopm0, Tryd.st25, Tryd.sz25, Nat.le_refl, hn10]
    refine hK4 _ _ ?_
    refine vw_ret ?_
    have hres : vSum (pushR a b c f g) = pack [vObj ⟨[], []⟩, .t (tInts []), .t (tInts []), I 11] := by simp [pushR, vSum, ka]; rfl
    rw [hres] at hQ
    refine hQ _ _ _ (.inr rfl) (done_wk (vs := [.agg [.t (.v (.slice none 0 0)), .t (.v (.slice none 0 0))], .t (.v (.slice none 0 0)), .t (.v (.slice none 0 0)), I 11]) (vs' := [vObj ⟨[], []⟩, .t (tInts []), .t (tInts []), I 11]) ?_ rfl (ewk_err4 _ _) (by simp [pack, nm, nm2, nm1, nm0]) ?_)
    · show vres Tryd.prog _ _ [.cell 10 25, .tmp 11, .tmp 12, .tmp 13] = _
      simp only [vres_cell, vres_tmp, vres_nil, ev_hit, ev_miss, Nat.reduceBEq, length_putv, hl, hn10, Tryd.sz25, Tryd.ag25, dLoad, m_set, vpart, if_true, Nat.reduceLT, List.drop_zero, List.take_succ_cons, List.take_zero, List.length_cons, List.length_nil, Nat.zero_add, Nat.reduceAdd]
      try rfl
    · exact fun n x hn h => by rw [m_set, if_neg (by omega), hnk n hn]; exact h
  · have kb : largeS [b] = true := by rw [largeS_one]; exact decide_eq_true (by omega)
    refine vw_sc 0 [] ?_
    simp only [bs, ↓vopx, ↓vop, Nat.reduceBEq, thenV, flat, Nat.reduceLT, dLoad, vpart, opII, gtmp, hl, wocs, ↓goc, ↓woc, ↓vopm0, ↓pick_ff, ↓pick_tf, Tryd.ag22, Tryd.fd25_0, Tryd.sz22, Tryd.un22, len_tStrs, qa, qb, hn5, hn6]
    refine hK3 _ _ ?_
    refine vw_cond_k fun A B hA hB => ?_
    simp only [condV, ev_hit, length_putv, Nat.reduceLT, true_implies, reduceCtorEq, false_implies, and_true, hl]
    refine hA ?_
    clear hA hB A B
    refine vw_seq_k fun K5 hK5 => ?_
    refine vw_sc 0 [] ?_
    simp only [bs, Nat.reduceAdd, vparts, gfill, ↓vopx, ↓vop, Nat.reduceBEq, thenV, flat, Nat.reduceLT, V.cells, hl, wocs, ↓goc, ↓woc, ↓vopm0, Tryd.st25, Tryd.sz25, Nat.le_refl, hn10]
    refine hK5 _ _ ?_
    refine vw_ret ?_
    have hres : vSum (pushR a b c f g) = pack [vObj ⟨[], []⟩, .t (tInts []), .t (tInts []), I 11] := by simp [pushR, vSum, kb]; rfl
    rw [hres] at hQ
    refine hQ _ _ _ (.inr rfl) (done_wk (vs := [.agg [.t (.v (.slice none 0 0)), .t (.v (.slice none 0 0))], .t (.v (.slice none 0 0)), .t (.v (.slice none 0 0)), I 11]) (vs' := [vObj ⟨[], []⟩, .t (tInts []), .t (tInts []), I 11]) ?_ rfl (ewk_err4 _ _) (by simp [pack, nm, nm2, nm1, nm0]) ?_)
    · show vres Tryd.prog _ _ [.cell 10 25, .tmp 11, .tmp 12, .tmp 13] = _
      simp only [vres_cell, vres_tmp, vres_nil, ev_hit, ev_miss, Nat.reduceBEq, length_putv, hl, hn10, Tryd.sz25, Tryd.ag25, dLoad, m_set, vpart, if_true, Nat.reduceLT, List.drop_zero, List.take_succ_cons, List.take_zero, List.length_cons, List.length_nil, Nat.zero_add, Nat.reduceAdd]
      try rfl
    · exact fun n x hn h => by rw [m_set, if_neg (by omega), hnk n hn]; exact h
  · have kc : largeS [b, c] = true := by rw [largeS_two]; exact decide_eq_true (by omega)
    refine vw_sc 0 [] ?_
    simp only [bs, ↓vopx, ↓vop, Nat.reduceBEq, thenV, flat, Nat.reduceLT, dLoad, vpart, opII, gtmp, hl, wocs, ↓goc, ↓woc, ↓vopm0, ↓pick_ff, Tryd.ag22, Tryd.fd25_0, Tryd.sz22, Tryd.un22, len_tStrs, qa, qb, qc, hn5, hn6, hn7]
    repeat ((with_reducible refine And.intro ?_ ?_); · exact ⟨by omega, by omega⟩)
    refine hK3 _ _ ?_
    refine vw_cond_k fun A B hA hB => ?_
    simp only [condV, ev_hit, length_putv, Nat.reduceLT, true_implies, reduceCtorEq, false_implies, and_true, hl]
    refine hA ?_
    clear hA hB A B
    refine vw_seq_k fun K6 hK6 => ?_
    refine vw_sc 0 [] ?_
    simp only [bs, Nat.reduceAdd, vparts, gfill, ↓vopx, ↓vop, Nat.reduceBEq, thenV, flat, Nat.reduceLT, V.cells, hl, wocs, ↓goc, ↓woc, ↓vopm0, Tryd.st25, Tryd.sz25, Nat.le_refl, hn10]
    refine hK6 _ _ ?_
    refine vw_ret ?_
    have hres : vSum (pushR a b c f g) = pack [vObj ⟨[], []⟩, .t (tInts []), .t (tInts []), I 11] := by simp [pushR, vSum, kc]; rfl
    rw [hres] at hQ
    refine hQ _ _ _ (.inr rfl) (done_wk (vs := [.agg [.t (.v (.slice none 0 0)), .t (.v (.slice none 0 0))], .t (.v (.slice none 0 0)), .t (.v (.slice none 0 0)), I 11]) (vs' := [vObj ⟨[], []⟩, .t (tInts []), .t (tInts []), I 11]) ?_ rfl (ewk_err4 _ _) (by simp [pack, nm, nm2, nm1, nm0]) ?_)
    · show vres Tryd.prog _ _ [.cell 10 25, .tmp 11, .tmp 12, .tmp 13] = _
      simp only [vres_cell, vres_tmp, vres_nil, ev_hit, ev_miss, Nat.reduceBEq, length_putv, hl, hn10, Tryd.sz25, Tryd.ag25, dLoad, m_set, vpart, if_true, Nat.reduceLT, List.drop_zero, List.take_succ_cons, List.take_zero, List.length_cons, List.length_nil, Nat.zero_add, Nat.reduceAdd]
      try rfl
    · exact fun n x hn h => by rw [m_set, if_neg (by omega), hnk n hn]; exact h
  · have ka : largeS [a] = false := by rw [largeS_one]; exact decide_eq_false (by omega)
    have kb : largeS [b] = false := by rw [largeS_one]; exact decide_eq_false (by omega)
    have kc : largeS [b, c] = false := by rw [largeS_two]; exact decide_eq_false (by omega)
    refine vw_sc 0 [] ?_
    simp only [bs, ↓vopx, ↓vop, Nat.reduceBEq, thenV, flat, Nat.reduceLT, dLoad, vpart, opII, gtmp, hl, wocs, ↓goc, ↓woc, ↓vopm0, ↓pick_ff, Tryd.ag22, Tryd.fd25_0, Tryd.sz22, Tryd.un22, len_tStrs, qa, qb, qc, hn5, hn6, hn7]
    repeat ((with_reducible refine And.intro ?_ ?_); · exact ⟨by omega, by omega⟩)
    refine hK3 _ _ ?_
    refine vw_cond_k fun A B hA hB => ?_
    simp only [condV, ev_hit, length_putv, Nat.reduceLT, true_implies, reduceCtorEq, false_implies, true_and, hl]
    refine hB ?_
    clear hA hB A B
    refine vw_skip ?_
    refine hK2 _ _ ?_
    refine vw_seq_k fun K7 hK7 => ?_
    refine vw_seq_k fun K8 hK8 => ?_
    rcases (show arrS a b f = false ∨ (arrS a b f = true ∧ arrS a c g = false) ∨ (arrS a b f = true ∧ arrS a c g = true) by cases arrS a b f <;> cases arrS a c g <;> simp) with kf | ⟨kf, kg⟩ | ⟨kf, kg⟩
    · refine vw_sc 0 [.pur (Bo (arrS a b f))] ?_
      simp only [bs, Nat.reduceAdd, ↓vopx, ↓vop, Nat.reduceBEq, thenV, flat, Nat.reduceLT, dLoad, vpart, gtmp, hl, h3, wocs, ↓goc, ↓woc, ↓vopm0, ↓callC, ↓pick_tf, calleeV, Tryd.ag25, Tryd.sz25, kf, hn5, hn6]
      repeat ((with_reducible refine And.intro ?_ ?_); · exact ⟨Tryd.is59, by simpa only [kf] using refArrow_ a b f (by omega) (by omega) (by omega) (by omega) (by omega)⟩)
      refine hK8 _ _ ?_
      refine vw_cond_k fun A B hA hB => ?_
      simp only [condV, ev_hit, length_putv, Nat.reduceLT, true_implies, reduceCtorEq, false_implies, and_true, hl]
      refine hA ?_
      clear hA hB A B
      refine vw_seq_k fun K9 hK9 => ?_
      refine vw_sc 0 [] ?_
      simp only [bs, Nat.reduceAdd, vparts, gfill, ↓vopx, ↓vop, Nat.reduceBEq, thenV, flat, Nat.reduceLT, V.cells, hl, wocs, ↓goc, ↓woc, ↓vopm0, Tryd.st25, Tryd.sz25, Nat.le_refl, hn10]
      refine hK9 _ _ ?_
      refine vw_ret ?_
      have hres : vSum (pushR a b c f g) = pack [vObj ⟨[], []⟩, .t (tInts []), .t (tInts []), I 10] := by simp [pushR, vSum, ka, kb, kc, kf]; rfl
      rw [hres] at hQ
      refine hQ _ _ _ (.inr rfl) (done_wk (vs := [.agg [.t (.v (.slice none 0 0)), .t (.v (.slice none 0 0))], .t (.v (.slice none 0 0)), .t (.v (.slice none 0 0)), I 10]) (vs' := [vObj ⟨[], []⟩, .t (tInts []), .t (tInts []), I 10]) ?_ rfl (ewk_err4 _ _) (by simp [pack, nm, nm2, nm1, nm0]) ?_)
      · show vres Tryd.prog _ _ [.cell 10 25, .tmp 11, .tmp 12, .tmp 13] = _
        simp only [vres_cell, vres_tmp, vres_nil, ev_hit, ev_miss, Nat.reduceBEq, length_putv, hl, hn10, Tryd.sz25, Tryd.ag25, dLoad, m_set, vpart, if_true, Nat.reduceLT, List.drop_zero, List.take_succ_cons, List.take_zero, List.length_cons, List.length_nil, Nat.zero_add, Nat.reduceAdd]
        try rfl
      · exact fun n x hn h => by rw [m_set, if_neg (by omega), hnk n hn]; exact h
    · refine vw_sc 0 [.pur (Bo (arrS a b f)), .pur (Bo (arrS a c g))] ?_
      simp only [bs, Nat.reduceAdd, ↓vopx, ↓vop, Nat.reduceBEq, thenV, flat, Nat.reduceLT, dLoad, vpart, gtmp, hl, h3, h4, wocs, ↓goc, ↓woc, ↓vopm0, ↓callC, ↓pick_ff, calleeV, Tryd.ag25, Tryd.sz25, kf, kg, hn5, hn6, hn7]
      repeat ((with_reducible refine And.intro ?_ ?_); · first | exact ⟨Tryd.is59, by simpa only [kf] using refArrow_ a b f (by omega) (by omega) (by omega) (by omega) (by omega)⟩ | exact ⟨Tryd.is59, by simpa only [kg] using refArrow_ a c g (by omega) (by omega) (by omega) (by omega) (by omega)⟩)
      refine hK8 _ _ ?_
      refine vw_cond_k fun A B hA hB => ?_
      simp only [condV, ev_hit, length_putv, Nat.reduceLT, true_implies, reduceCtorEq, false_implies, and_true, hl]
      refine hA ?_
      clear hA hB A B
      refine vw_seq_k fun K10 hK10 => ?_
      refine vw_sc 0 [] ?_
      simp only [bs, Nat.reduceAdd, vparts, gfill, ↓vopx, ↓vop, Nat.reduceBEq, thenV, flat, Nat.reduceLT, V.cells, hl, wocs, ↓goc, ↓woc, ↓vopm0, Tryd.st25, Tryd.sz25, Nat.le_refl, hn10]
      refine hK10 _ _ ?_
      refine vw_ret ?_
      have hres : vSum (pushR a b c f g) = pack [vObj ⟨[], []⟩, .t (tInts []), .t (tInts []), I 10] := by simp [pushR, vSum, ka, kb, kc, kg]; rfl
      rw [hres] at hQ
      refine hQ _ _ _ (.inr rfl) (done_wk (vs := [.agg [.t (.v (.slice none 0 0)), .t (.v (.slice none 0 0))], .t (.v (.slice none 0 0)), .t (.v (.slice none 0 0)), I 10]) (vs' := [vObj ⟨[], []⟩, .t (tInts []), .t (tInts []), I 10]) ?_ rfl (ewk_err4 _ _) (by simp [pack, nm, nm2, nm1, nm0]) ?_)
      · show vres Tryd.prog _ _ [.cell 10 25, .tmp 11, .tmp 12, .tmp 13] = _
        simp only [vres_cell, vres_tmp, vres_nil, ev_hit, ev_miss, Nat.reduceBEq, length_putv, hl, hn10, Tryd.sz25, Tryd.ag25, dLoad, m_set, vpart, if_true, Nat.reduceLT, List.drop_zero, List.take_succ_cons, List.take_zero, List.length_cons, List.length_nil, Nat.zero_add, Nat.reduceAdd]
        try rfl
      · exact fun n x hn h => by rw [m_set, if_neg (by omega), hnk n hn]; exact h
    · refine vw_sc 0 [.pur (Bo (arrS a b f)), .pur (Bo (arrS a c g))] ?_
      simp only [bs, Nat.reduceAdd, ↓vopx, ↓vop, Nat.reduceBEq, thenV, flat, Nat.reduceLT, dLoad, vpart, gtmp, hl, h3, h4, wocs, ↓goc, ↓woc, ↓vopm0, ↓callC, ↓pick_ff, calleeV, Tryd.ag25, Tryd.sz25, kf, kg, hn5, hn6, hn7]
      repeat ((with_reducible refine And.intro ?_ ?_); · first | exact ⟨Tryd.is59, by simpa only [kf] using refArrow_ a b f (by omega) (by omega) (by omega) (by omega) (by omega)⟩ | exact ⟨Tryd.is59, by simpa only [kg] using refArrow_ a c g (by omega) (by omega) (by omega) (by omega) (by omega)⟩)
      refine hK8 _ _ ?_
      refine vw_cond_k fun A B hA hB => ?_
      simp only [condV, ev_hit, length_putv, Nat.reduceLT, true_implies, reduceCtorEq, false_implies, true_and, hl]
      refine hB ?_
      clear hA hB A B
      refine vw_skip ?_
      refine hK7 _ _ ?_
      refine vw_seq_k fun K11 hK11 => ?_
      have hob := (arrS_iff.1 kf).2.1
      have hoc := (arrS_iff.1 kg).2.1
      have hlb := hob.le
      have hlc := hoc.le
      have hfl := allY_length (arrS_iff.1 kf).2.2.1
      have hgl := allY_length (arrS_iff.1 kg).2.2.1
      have hbc : b.labels.length + c.labels.length ≤ 40 := by omega
      have hobc := beside_ob hob hoc hbc
      have hol : (besideS b c).labels.length = b.labels.length + c.labels.length := by simp only [besideS, List.length_append]
      have hop : (besideS b c).pairs.length < 1000000000 := by simp only [besideS, List.length_append, List.length_map]; omega
      refine vw_sc 0 [] ?_
      simp only [bs, ↓vopx, ↓vop, Nat.reduceBEq, thenV, Nat.reduceLT, dLoad, vpart, hl, wocs, ↓goc, ↓woc, ↓vopm0, Tryd.ag22, Tryd.fd25_0, Tryd.sz22, Tryd.un22, len_tStrs, hn6]
      refine hK11 _ _ ?_
      refine vw_seq_k fun K12 hK12 => ?_
      refine vw_sc 0 [.stop] ?_
      simp only [bs, Nat.reduceAdd, ↓vopx, ↓vop, Nat.reduceBEq, thenV, Nat.reduceLT, dLoad, vpart, opII, hl, wocs, ↓goc, ↓woc, ↓vopm0, ↓callC, calleeV, Tryd.ag22, Tryd.fd25_0, Tryd.sz22, Tryd.un22, len_tStrs, hn7]
      rw [show ((b.labels.length : Int) + (c.labels.length : Int)) = ((b.labels.length + c.labels.length : Nat) : Int) from by push_cast; rfl]
      repeat (refine And.intro (by first | omega | exact ⟨by omega, by omega⟩) ?_)
      refine ⟨Tryd.is66, (refUNew_ sN (b.labels.length + c.labels.length) (by omega)).mono fun v sU hv => ?_⟩
      obtain ⟨p, m, rfl, hpr, hup, hum, hku, hun⟩ := hv
      try simp only [bs, Nat.reduceLT, hl, Hold]
      refine hK12 _ _ ?_
      refine vw_seq_k fun K13 hK13 => ?_
      refine vw_seq_k fun K14 hK14 => ?_
      refine vw_sc 0 [] ?_
      simp only [bs, ↓vopx, ↓vop, thenV, flat, wocs, ↓goc, ↓woc, ↓vopm0]
      refine hK14 _ _ ?_
      refine vw_block ?_
      refine vw_loop (fun mm e' s' => ∃ i : Nat, mm = f.length - i ∧ i ≤ f.length ∧ e'.length = 95 ∧ ev e' (.tmp 3) = .t (tInts f) ∧ ev e' (.tmp 4) = .t (tInts g) ∧ ev e' (.tmp 6) = .ptr (s.next + 1) 0 ∧ ev e' (.tmp 7) = .ptr (s.next + 1 + 1) 0 ∧ ev e' (.tmp 10) = .ptr (s.next + 1 + 1 + 1) 0 ∧ ev e' (.tmp 14) = I b.labels.length ∧ ev e' (.tmp 15) = .ptr p 0 ∧ ev e' (.tmp 16) = I i ∧ True ∧ RefU s' p m (joinsL (rangeI (b.labels.length + c.labels.length)) f (gMv b g) i) ∧ Keep sN s' ∧ sN.next ≤ s'.next) (⟨0, rfl, Nat.zero_le _, ?_⟩) ?_
      · try simp only [ev_hit, ev_miss, Nat.reduceBEq, length_putv, hl, h3, h4, Nat.reduceLT, true_and]
        repeat ((with_reducible refine And.intro ?_ ?_); · trivial)
        exact hun
      rintro mm e s1 ⟨i, rfl, hle_i, hl, k3, k4, k6, k7, k10, k14, k15, h_i, hst, ⟨hjP, hjK, hjN⟩⟩
      refine vw_seq_k fun K15 hK15 => ?_
      refine vw_seq_k fun K16 hK16 => ?_
      refine vw_sc 0 [] ?_
      simp only [bs, ↓vopx, ↓vop, Nat.reduceBEq, thenV, Nat.reduceLT, opII, hl, k3, h_i, wocs, ↓goc, ↓woc, ↓vopm0, len_tInts, Tryd.underlying26]
      refine hK16 _ _ ?_
      refine vw_cond_k fun A B hA hB => ?_
      simp only [condV, ev_hit, length_putv, Nat.reduceLT, decide_eq_true_eq, decide_eq_false_iff_not, hl]
      refine ⟨fun hc65 => hA ?_, fun hc65 => hB ?_⟩
      · clear hA hB A B
        refine vw_skip ?_
        refine hK15 _ _ ?_
        refine vw_seq_k fun K17 hK17 => ?_
        refine vw_block ?_
        obtain ⟨y, hy, hyl⟩ := arr_at kf (i := i) (by omega)
        obtain ⟨z, hz, hzl⟩ := arr_at kg (i := i) (by omega)
        have hz2 : (gMv b g)[i]? = some ((z + b.labels.length : Nat) : Int) := by rw [List.getElem?_map, hz]; simp
        have hjl := joinsL_length (rangeI (b.labels.length + c.labels.length)) f (gMv b g) i
        rw [rangeI_length] at hjl
        have hif : i < f.length := by omega
        have hig : i < g.length := by omega
        refine vw_chain Tryd.mixed 11 [0, 0, 0, 1, 1, 0, 0, 1, 1, 0, 0] [] [.stop] 0 (by decide +kernel) (by simp [length_putv, hl]) rfl ?_
        simp only [bs, ↓vopx, ↓vop, Nat.reduceBEq, thenV, blockV, Nat.reduceLT, dLoad, vpart, opII, hl, k3, k4, k14, k15, h_i, wocs, ↓goc, ↓woc, ↓vopm1, ↓callC, calleeV, chn, ↓goq, ↓woq, List.zip_cons_cons, List.zip_nil_right, Tryd.ag3, Tryd.sz3, Tryd.un26, hy, hz, Int.toNat_natCast]
        repeat (refine And.intro (by first | omega | exact ⟨by omega, by omega⟩) ?_)
        rw [show ((z : Int) + (b.labels.length : Int)) = ((z + b.labels.length : Nat) : Int) from by push_cast; rfl]
        refine ⟨Tryd.is67, (refUJoin_ s1 p m _ hjP (by omega) y (z + b.labels.length) (by omega) (by omega)).mono fun v s2 hv => ?_⟩
        have hj2k := hv.keep hum hjK
        obtain ⟨⟨bb, rfl⟩, hj2, hbt, hbn⟩ := hv
        try simp only [bs, Nat.reduceBEq, k3, k4, k14, k15, h_i, Hold]
        refine hK17 _ _ ?_
        refine vw_sc 0 [] ?_
        simp only [bs, ↓vopx, ↓vop, Nat.reduceBEq, thenV, flat, Nat.reduceLT, opII, hl, k3, k4, k6, k7, k10, k14, k15, h_i, wocs, ↓goc, ↓woc, ↓vopm0]
        repeat ((with_reducible refine And.intro ?_ ?_); · exact ⟨by omega, by omega⟩)
        refine ⟨f.length - (i + 1), by omega, i + 1, rfl, by omega, ?_⟩
        try simp only [ev_hit, ev_miss, Nat.reduceBEq, length_putv, hl, k3, k4, k6, k7, k10, k14, k15, h_i, if_true, if_false, Nat.reduceEqDiff, Nat.reduceLT, true_and, and_true]
        repeat ((with_reducible refine And.intro ?_ ?_); · trivial)
        rw [joinsL_succ hy hz2, Int.toNat_natCast, Int.toNat_natCast]
        exact ⟨hj2, hj2k, by omega⟩
      · clear hA hB A B
        have han : f.length = i := by omega
        refine vw_exit ?_
        simp only [thenV, blockV, if_true]
        refine hK13 _ _ ?_
        refine vw_seq_k fun K18 hK18 => ?_
        have h61 := hjK _ _ (by omega) hn6
        have h71 := hjK _ _ (by omega) hn7
        refine vw_sc 0 [.pur (vObj (besideS b c)), .stop] ?_
        simp only [bs, Nat.reduceAdd, ↓vopx, ↓vop, Nat.reduceBEq, thenV, Nat.reduceLT, V.cells, dLoad, vpart, hl, k6, k7, k15, wocs, ↓goc, ↓woc, ↓vopm0, ↓callC, calleeV, Tryd.ag25, Tryd.sz25, h61, h71]
        refine ⟨⟨Tryd.is69, beside69 b c hb1 (by omega) hc1 (by omega) hoc⟩, ?_⟩
        refine ⟨Tryd.is68, DCall.v (glued_ s1 p m _ hjP (wfU_joins _ _ _ _) (besideS b c) hobc hop (by rw [joinsL_length, rangeI_length, hol])) ?_⟩
        try simp only [bs, Nat.reduceAdd, Nat.reduceBEq, Nat.reduceLT, hl, k15, Tryd.sz25, Tryd.zv25, Nat.le_refl, Hold]
        refine hK18 _ _ ?_
        refine vw_seq_k fun K19 hK19 => ?_
        refine vw_st fun sX hSX => ?_
        have hx17 : sX.m s1.next = some (.box 25 [.t (tStrs (gluedS (besideS b c) (placesL (joinsL (rangeI (b.labels.length + c.labels.length)) f (gMv b g) i))).labels), .t (tPairs (gluedS (besideS b c) (placesL (joinsL (rangeI (b.labels.length + c.labels.length)) f (gMv b g) i))).pairs)]) := by rw [hSX, m_set, if_pos rfl]
        have hxs : ∀ j, j < s1.next → sX.m j = s1.m j := fun j hj => by rw [hSX, m_set, if_neg (by omega), m_add, if_neg (by omega)]
        have hx10 : sX.m (s.next + 1 + 1 + 1) = some (.box 25 [.t (.v (.slice none 0 0)), .t (.v (.slice none 0 0))]) := by rw [hxs _ (by omega)]; exact hjK _ _ (by omega) hn10
        have hxk : ∀ j x, j < s.next → s.m j = some x → sX.m j = some x := fun j x hj hx => by rw [hxs _ (by omega)]; exact hjK _ _ (by omega) (by rw [hnk j hj]; exact hx)
        clear hSX
        have hn17 : ¬ s1.next = s.next + 1 + 1 + 1 := by omega
        have hpl : (placesL (joinsL (rangeI (b.labels.length + c.labels.length)) f (gMv b g) i)).length = b.labels.length + c.labels.length := by rw [placesL_length, joinsL_length, rangeI_length]
        refine vw_chain_del (s.next + 1 + 1 + 1) Tryd.mixed 9 [1, 0, 0, 2, 0, 0, 2, 3, 0] [] [] 0 (by decide +kernel) (by simp [length_putv, hl]) rfl ?_
        simp only [bs, Nat.reduceAdd, ↓vopx, ↓vop, Nat.reduceBEq, thenV, flat, Nat.reduceLT, V.cells, dLoad, vpart, hl, k10, k14, wocs, ↓goc, ↓woc, ↓vopm0, ↓vopm1, chn, ↓goq, ↓woq, List.zip_cons_cons, List.zip_nil_right, Tryd.ag25, Tryd.sl26, Tryd.sz25, Nat.le_refl, hx17, hx10, hpl, bnd, vflat, Nat.div_one]
        repeat ((with_reducible refine And.intro ?_ ?_); · first | omega | exact keep_del_set _ _ _)
        refine hK19 _ _ ?_
        refine vw_ret ?_
        have hres : vSum (pushR a b c f g) = pack [vObj (gluedS (besideS b c) (placesL (joinsL (rangeI (b.labels.length + c.labels.length)) f (gMv b g) i))), .t (tInts ((placesL (joinsL (rangeI (b.labels.length + c.labels.length)) f (gMv b g) i)).take b.labels.length)), .t (tInts ((placesL (joinsL (rangeI (b.labels.length + c.labels.length)) f (gMv b g) i)).drop b.labels.length)), I 0] := by simp [pushR, vSum, puPl, ka, kb, kc, kf, kg, han]; rfl
        rw [hres] at hQ
        refine hQ _ _ _ (.inr rfl) ?_
        refine done_flat (vs := [vObj (gluedS (besideS b c) (placesL (joinsL (rangeI (b.labels.length + c.labels.length)) f (gMv b g) i))), .t (tInts ((placesL (joinsL (rangeI (b.labels.length + c.labels.length)) f (gMv b g) i)).take b.labels.length)), .t (tInts ((placesL (joinsL (rangeI (b.labels.length + c.labels.length)) f (gMv b g) i)).drop b.labels.length)), I 0]) ?_ rfl (by simp [pack, nm, nm2, nm1, nm0]) (fun n x hn h => by rw [m_set, if_neg (by omega)]; exact hxk n x hn h)
        show vres Tryd.prog _ _ [.cell 10 25, .tmp 11, .tmp 12, .tmp 13] = _
        simp only [vres_cell, vres_tmp, vres_nil, ev_hit, ev_miss, Nat.reduceBEq, length_putv, hl, k10, Tryd.sz25, Tryd.ag25, dLoad, m_set, vpart, if_true, Nat.reduceLT, List.drop_zero, List.take_succ_cons, List.take_zero, List.length_cons, List.length_nil, Nat.zero_add, Nat.reduceAdd]
        simp [List.map_take, List.map_drop]
        exact List.take_of_length_le (by rw [List.length_drop, List.length_map, hpl]; omega)

end Go.Proofs

open Go Go.V
namespace Go.Proofs

abbrev k7x : ByteArray := ⟨#[120]⟩
abbrev k7y : ByteArray := ⟨#[121]⟩
abbrev k7z : ByteArray := ⟨#[122]⟩
abbrev k7A : Ob := ⟨[k7x], []⟩
abbrev k7B : Ob := ⟨[k7x, k7y], [(0, 1)]⟩
abbrev k7C : Ob := ⟨[k7z, k7x], [(0, 1)]⟩
abbrev k7S : Ob := ⟨[k7x, k7x], []⟩
theorem k7_p1 : (pushS k7A k7B k7C [0] [1]).1.labels.length = 3 ∧ (pushS k7A k7B k7C [0] [1]).1.pairs.length = 3 ∧ (pushS k7A k7B k7C [0] [1]).2.1 = [0, 1] ∧ (pushS k7A k7B k7C [0] [1]).2.2.1 = [2, 0] ∧ (pushS k7A k7B k7C [0] [1]).2.2.2 = 0 := by decide +kernel
theorem k7_p2 : (pushS k7A k7B k7C [0] [0]).2.2.2 = 10 := by decide +kernel
theorem k7_s : (sumS k7A k7A).1.labels = [k7x, k7x] ∧ (sumS k7A k7A).1.pairs = [] ∧ (sumS k7A k7A).2.1 = [0] ∧ (sumS k7A k7A).2.2.1 = [1] ∧ (sumS k7A k7A).2.2.2 = 0 := by decide +kernel
theorem k7_e : (eqS k7A k7S [0] [1]).1.labels.length = 1 ∧ (eqS k7A k7S [0] [1]).2.1 = [0, 0] ∧ (eqS k7A k7S [0] [1]).2.2 = 0 := by decide +kernel
end Go.Proofs

open Go Go.V
namespace Go.Proofs

def o7P : Ob := (pushS k7A k7B k7C [0] [1]).1
def o7E : Ob := (eqS k7A k7S [0] [1]).1
def q7 : Ob × List Int × List Int × Int := pushS k7A k7B k7C [0] [0]
theorem o7P_l : o7P.labels.length = 3 := k7_p1.1
theorem o7P_p : o7P.pairs.length = 3 := k7_p1.2.1
theorem o7E_l : o7E.labels.length = 1 := k7_e.1
theorem vw_en {P : Program} {c : Code} {Q : Exit → Env → Sg → Prop} {e : Env} {s : Sg} (h : ∀ e1, e1 = e → VW P c Q e1 s) : VW P c Q e s := h e rfl
theorem nc1 : ((1 : Nat) : Int) = 1 := rfl
theorem vlen_sl1 (cs : List T) : vlen (.t (.sl 1 cs)) = some cs.length := by simp [vlen]
theorem vsum_at {r : Ob × List Int × List Int × Int} {f g : List Int} {z : Int} (h1 : r.2.1 = f) (h2 : r.2.2.1 = g) (h3 : r.2.2.2 = z) : vSum r = .tup [vObj r.1, .t (tInts f), .t (tInts g), I z] := by subst h1 h2 h3; rfl
theorem vsum_ob {r : Ob × List Int × List Int × Int} {f g : List Int} {z : Int} {o : Ob} (h0 : r.1.labels = o.labels) (h0' : r.1.pairs = o.pairs) (h1 : r.2.1 = f) (h2 : r.2.2.1 = g) (h3 : r.2.2.2 = z) : vSum r = .tup [vObj o, .t (tInts f), .t (tInts g), I z] := by
  subst h1 h2 h3
  obtain ⟨o1, l, m, y⟩ := r
  obtain ⟨a, b⟩ := o1
  obtain ⟨c, d⟩ := o
  simp only at h0 h0'
  subst h0 h0'
  rfl
theorem veq_at {r : Ob × List Int × Int} {f : List Int} {z : Int} (h1 : r.2.1 = f) (h3 : r.2.2 = z) : vEq r = .tup [vObj r.1, .t (tInts f), I z] := by subst h1 h3; rfl
theorem kc7_p1 : PCall Tryd.prog 22 [vObj k7A, vObj k7B, vObj k7C, .t (tInts [0]), .t (tInts [1])] (.tup [vObj o7P, .t (tInts [0, 1]), .t (tInts [2, 0]), I 0]) := by
  have h := vsum_at k7_p1.2.2.1 k7_p1.2.2.2.1 k7_p1.2.2.2.2
  have := push_ k7A k7B k7C [0] [1] (by decide) (by decide) (by decide) (by decide) (by decide) (by decide) (by decide) (by decide)
  rw [h] at this
  exact this
theorem kc7_p2 : PCall Tryd.prog 22 [vObj k7A, vObj k7B, vObj k7C, .t (tInts [0]), .t (tInts [0])] (.tup [vObj q7.1, .t (tInts q7.2.1), .t (tInts q7.2.2.1), I 10]) := by
  have h := vsum_at (r := pushS k7A k7B k7C [0] [0]) rfl rfl k7_p2
  have := push_ k7A k7B k7C [0] [0] (by decide) (by decide) (by decide) (by decide) (by decide) (by decide) (by decide) (by decide)
  rw [h] at this
  exact this
theorem kc7_s : PCall Tryd.prog 26 [vObj k7A, vObj k7A] (.tup [vObj k7S, .t (tInts [0]), .t (tInts [1]), I 0]) := by
  have h := vsum_ob (o := k7S) k7_s.1 k7_s.2.1 k7_s.2.2.1 k7_s.2.2.2.1 k7_s.2.2.2.2
  have := sum_ k7A k7A (by decide) (by decide) (by decide) (by decide)
  rw [h] at this
  exact this
theorem kc7_e : PCall Tryd.prog 28 [vObj k7A, vObj k7S, .t (tInts [0]), .t (tInts [1])] (.tup [vObj o7E, .t (tInts [0, 0]), I 0]) := by
  have h := veq_at k7_e.2.1 k7_e.2.2
  have := equal_ k7A k7S [0] [1] (by decide) (by decide) (by decide) (by decide) (by decide) (by decide)
  rw [h] at this
  exact this

set_option maxRecDepth 20000 in
set_option maxHeartbeats 8000000 in
theorem known7_  : PCall Tryd.prog 20 [] (Bo true) := by
  refine pcall_of_body Tryd.func20 rfl fun s Q hQ => ?_
  obtain ⟨e, he, hl⟩ : ∃ e : Env, ([] ++ List.replicate (Tryd.f20.ntmps - ([] : List V).length) .junk) = e ∧ e.length = 158 := ⟨_, rfl, rfl⟩
  rw [he]
  clear he
  refine vw_seq_k fun K1 hK1 => ?_
  refine vw_sc 0 [] ?_
  simp only [bs, ↓vopx, ↓vop, thenV, flat, wocs, ↓goc, ↓woc, ↓vopm0]
  refine hK1 _ _ ?_
  refine vw_seq_k fun K2 hK2 => ?_
  refine vw_cut 10 rfl ?_
  refine vl_chunk 1 0 6 4 [] [] (by decide +kernel) (by decide) fun ops' KC hgs hKC => ?_
  simp only [bs, Nat.reduceLeDiff, Nat.reduceAdd, vparts, gfill, repl, Sg.frzP, ↓vopx, Nat.reduceBEq, flat, Nat.reduceLT, V.cells, Sg.frzL, Sg.frz1, hl, wocs, ↓goc, ↓woc, ↓vopm1, Tryd.sl22, Tryd.sl23, Tryd.st25, Tryd.st84]
  repeat ((with_reducible refine And.intro ?_ ?_); · omega)
  refine hKC _ _ ?_
  clear hgs hKC KC ops'
  refine vl_env fun e1_0 hE => ?_
  have hl1_0 : e1_0.length = 158 := by rw [hE]; simp only [length_putv, hl]
  have q20 : ev e1_0 (.tmp 20) = .agg [.t (.sl 1 [.v (.string k7x)]), .t (.v (.slice none 0 0))] := by rw [hE]; simp only [ev_hit, ev_miss, Nat.reduceBEq, length_putv, hl, Nat.reduceLT]
  have q24 : ev e1_0 (.tmp 24) = .agg [.t (.sl 1 [.v (.string k7x), .v (.string k7y)]), .t (.sl 2 [.v (.int .i64 0), .v (.int .i64 1)])] := by rw [hE]; simp only [ev_hit, length_putv, hl, Nat.reduceLT]
  clear hE
  refine vl_chunk 1 6 4 0 [] [] (by decide +kernel) (by decide) fun ops' KC hgs hKC => ?_
  simp only [bs, Nat.reduceAdd, ↓vopx, ↓vop, Nat.reduceBEq, Nat.reduceLT, V.cells, hl1_0, q20, q24, wocs, ↓goc, ↓woc, ↓vopm1, Tryd.sz25, Tryd.zv25, nns]
  refine hKC _ _ ?_
  clear hgs hKC KC ops'
  refine vl_nil ?_
  try simp only [thenV]
  refine hK2 _ _ ?_
  refine vw_seq_k fun K3 hK3 => ?_
  refine VW.nilBox s.next 1 2 (by omega) (ty := 25) (vs := [.t (.sl 1 [.v (.string k7x)]), .t (.v (.slice none 0 0))]) (by simp only [m_set, m_add, n_add, nns, if_true, if_false]) rfl ?_
  refine vw_en fun eb hE => ?_
  have hlb : eb.length = 158 := by rw [hE]; simp only [length_putv, hl1_0]
  have b1 : ev eb (.tmp 1) = .ptr (s.next) 0 := by rw [hE]; simp only [ev_hit, ev_miss, Nat.reduceBEq, hl1_0, Nat.reduceLT]
  have b2 : ev eb (.tmp 2) = .ptr (s.next + 1) 0 := by rw [hE]; simp only [ev_hit, length_putv, hl1_0, Nat.reduceLT]
  clear hE
  refine vw_st fun sb hS => ?_
  have bA : sb.m (s.next) = some (.box 25 [.t (.sl 1 [.v (.string k7x)]), .t (.sl 2 [])]) := by rw [hS]; simp only [m_set, m_add, n_add, nns, if_true, if_false, List.set_cons_succ, List.set_cons_zero]
  have bB : sb.m (s.next + 1) = some (.box 25 [.t (.sl 1 [.v (.string k7x), .v (.string k7y)]), .t (.sl 2 [.v (.int .i64 0), .v (.int .i64 1)])]) := by rw [hS]; simp only [m_set, m_add, n_add, nns, if_true, if_false, List.set_cons_succ, List.set_cons_zero]
  have hnb : sb.next = s.next + 1 + 1 := by rw [hS]; simp only [n_add, n_set, ]
  have hkb : ∀ j, j < s.next → sb.m j = s.m j := fun j hj => by have z0 : ¬ j = s.next := (by omega); have z1 : ¬ j = s.next + 1 := (by omega); rw [hS]; simp only [m_set, m_add, n_add, z0, z1, if_false]
  clear hS
  refine vw_sc 1 [] ?_
  simp only [bs, Nat.reduceLeDiff, Nat.reduceAdd, vparts, gfill, repl, Sg.frzP, ↓vopx, ↓vop, Nat.reduceBEq, thenV, flat, Nat.reduceLT, V.cells, Sg.frzL, Sg.frz1, hlb, hnb, wocs, ↓goc, ↓woc, ↓vopm1, Tryd.sl22, Tryd.sl23, Tryd.st25, Tryd.st84, Tryd.sz25, Tryd.zv25, nns]
  repeat ((with_reducible refine And.intro ?_ ?_); · omega)
  refine hK3 _ _ ?_
  refine vw_seq_k fun K4 hK4 => ?_
  refine vw_en fun ec hE => ?_
  have hlc : ec.length = 158 := by rw [hE]; simp only [length_putv, hlb]
  have c1 : ev ec (.tmp 1) = .ptr (s.next) 0 := by rw [hE]; simp only [ev_miss, Nat.reduceBEq, b1]
  have c2 : ev ec (.tmp 2) = .ptr (s.next + 1) 0 := by rw [hE]; simp only [ev_miss, Nat.reduceBEq, b2]
  have c3 : ev ec (.tmp 3) = .ptr (s.next + 1 + 1) 0 := by rw [hE]; simp only [ev_hit, length_putv, hlb, Nat.reduceLT]
  clear hE
  refine vw_st fun sc hS => ?_
  have cA : sc.m (s.next) = some (.box 25 [.t (.sl 1 [.v (.string k7x)]), .t (.sl 2 [])]) := by rw [hS]; simp only [m_set, m_add, nns, if_false, bA, hnb]
  have cB : sc.m (s.next + 1) = some (.box 25 [.t (.sl 1 [.v (.string k7x), .v (.string k7y)]), .t (.sl 2 [.v (.int .i64 0), .v (.int .i64 1)])]) := by rw [hS]; simp only [m_set, m_add, nns, if_false, bB, hnb]
  have cC : sc.m (s.next + 1 + 1) = some (.box 25 [.t (.sl 1 [.v (.string k7z), .v (.string k7x)]), .t (.sl 2 [.v (.int .i64 0), .v (.int .i64 1)])]) := by rw [hS]; simp only [m_set, m_add, if_true, hnb]
  have hnc : sc.next = s.next + 1 + 1 + 1 := by rw [hS]; simp only [n_add, n_set, hnb]
  have hkc : ∀ j, j < s.next → sc.m j = s.m j := fun j hj => by have z0 : ¬ j = s.next := (by omega); have z1 : ¬ j = s.next + 1 := (by omega); have z2 : ¬ j = s.next + 1 + 1 := (by omega); rw [hS]; simp only [m_set, m_add, hnb, z2, if_false, hkb j hj]
  clear hS
  refine vw_sc 1 [.pur (.tup [vObj o7P, .t (tInts [0, 1]), .t (tInts [2, 0]), I 0])] ?_
  simp only [bs, Nat.reduceLeDiff, Nat.reduceAdd, vparts, gfill, repl, Sg.frzP, ↓vopx, ↓vop, Nat.reduceBEq, thenV, flat, Nat.reduceLT, V.cells, dLoad, vpart, Sg.frzL, Sg.frz1, hlc, c1, c2, c3, cA, cB, cC, hnc, wocs, ↓goc, ↓woc, ↓vopm1, ↓callC, calleeV, Tryd.ag25, Tryd.sl26, Tryd.sz25, Tryd.zv25, nns]
  repeat ((with_reducible refine And.intro ?_ ?_); · exact ⟨Tryd.is22, kc7_p1⟩)
  refine hK4 _ _ ?_
  refine vw_seq_k fun K5 hK5 => ?_
  refine vw_en fun ed hE => ?_
  have hld : ed.length = 158 := by rw [hE]; simp only [length_putv, hlc]
  have d1 : ev ed (.tmp 1) = .ptr (s.next) 0 := by rw [hE]; simp only [ev_miss, Nat.reduceBEq, c1]
  have d2 : ev ed (.tmp 2) = .ptr (s.next + 1) 0 := by rw [hE]; simp only [ev_miss, Nat.reduceBEq, c2]
  have d3 : ev ed (.tmp 3) = .ptr (s.next + 1 + 1) 0 := by rw [hE]; simp only [ev_miss, Nat.reduceBEq, c3]
  have d4 : ev ed (.tmp 4) = .ptr (s.next + 1 + 1 + 1) 0 := by rw [hE]; simp only [ev_hit, ev_miss, Nat.reduceBEq, length_putv, hlc, Nat.reduceLT]
  have d5 : ev ed (.tmp 5) = .t (tInts [0, 1]) := by rw [hE]; simp only [ev_hit, ev_miss, Nat.reduceBEq, length_putv, hlc, Nat.reduceLT]
  have d6 : ev ed (.tmp 6) = .t (tInts [2, 0]) := by rw [hE]; simp only [ev_hit, ev_miss, Nat.reduceBEq, length_putv, hlc, Nat.reduceLT]
  have d7 : ev ed (.tmp 7) = I 0 := by rw [hE]; simp only [ev_hit, length_putv, hlc, Nat.reduceLT]
  clear hE
  refine vw_st fun sd hS => ?_
  have dA : sd.m (s.next) = some (.box 25 [.t (.sl 1 [.v (.string k7x)]), .t (.sl 2 [])]) := by rw [hS]; simp only [m_set, m_add, nns, if_false, cA, hnc]
  have dB : sd.m (s.next + 1) = some (.box 25 [.t (.sl 1 [.v (.string k7x), .v (.string k7y)]), .t (.sl 2 [.v (.int .i64 0), .v (.int .i64 1)])]) := by rw [hS]; simp only [m_set, m_add, nns, if_false, cB, hnc]
  have dC : sd.m (s.next + 1 + 1) = some (.box 25 [.t (.sl 1 [.v (.string k7z), .v (.string k7x)]), .t (.sl 2 [.v (.int .i64 0), .v (.int .i64 1)])]) := by rw [hS]; simp only [m_set, m_add, nns, if_false, cC, hnc]
  have dP : sd.m (s.next + 1 + 1 + 1) = some (.box 25 [.t (tStrs o7P.labels), .t (tPairs o7P.pairs)]) := by rw [hS]; simp only [m_set, m_add, if_true, hnc]
  have hnd : sd.next = s.next + 1 + 1 + 1 + 1 := by rw [hS]; simp only [n_add, n_set, hnc]
  have hkd : ∀ j, j < s.next → sd.m j = s.m j := fun j hj => by have z0 : ¬ j = s.next := (by omega); have z1 : ¬ j = s.next + 1 := (by omega); have z2 : ¬ j = s.next + 1 + 1 := (by omega); have z3 : ¬ j = s.next + 1 + 1 + 1 := (by omega); rw [hS]; simp only [m_set, m_add, hnc, z3, if_false, hkc j hj]
  clear hS
  refine vw_sc 1 [.pur (.tup [vObj q7.1, .t (tInts q7.2.1), .t (tInts q7.2.2.1), I 10])] ?_
  simp only [bs, Nat.reduceLeDiff, Nat.reduceAdd, vparts, gfill, repl, Sg.frzP, ↓vopx, ↓vop, Nat.reduceBEq, thenV, flat, Nat.reduceLT, V.cells, dLoad, vpart, Sg.frzL, Sg.frz1, hld, d1, d2, d3, dA, dB, dC, hnd, wocs, ↓goc, ↓woc, ↓vopm1, ↓callC, calleeV, Tryd.ag25, Tryd.sl26, Tryd.sz25, Tryd.zv25, nns]
  repeat ((with_reducible refine And.intro ?_ ?_); · exact ⟨Tryd.is22, kc7_p2⟩)
  refine hK5 _ _ ?_
  refine vw_seq_k fun K6 hK6 => ?_
  refine vw_en fun ef hE => ?_
  have hlf : ef.length = 158 := by rw [hE]; simp only [length_putv, hld]
  have f1 : ev ef (.tmp 1) = .ptr (s.next) 0 := by rw [hE]; simp only [ev_miss, Nat.reduceBEq, d1]
  have f4 : ev ef (.tmp 4) = .ptr (s.next + 1 + 1 + 1) 0 := by rw [hE]; simp only [ev_miss, Nat.reduceBEq, d4]
  have f5 : ev ef (.tmp 5) = .t (tInts [0, 1]) := by rw [hE]; simp only [ev_miss, Nat.reduceBEq, d5]
  have f6 : ev ef (.tmp 6) = .t (tInts [2, 0]) := by rw [hE]; simp only [ev_miss, Nat.reduceBEq, d6]
  have f7 : ev ef (.tmp 7) = I 0 := by rw [hE]; simp only [ev_miss, Nat.reduceBEq, d7]
  have f11 : ev ef (.tmp 11) = I 10 := by rw [hE]; simp only [ev_hit, length_putv, hld, Nat.reduceLT]
  clear hE
  refine vw_st fun sf hS => ?_
  have fA : sf.m (s.next) = some (.box 25 [.t (.sl 1 [.v (.string k7x)]), .t (.sl 2 [])]) := by rw [hS]; simp only [m_set, m_add, nns, if_false, dA, hnd]
  have fP : sf.m (s.next + 1 + 1 + 1) = some (.box 25 [.t (tStrs o7P.labels), .t (tPairs o7P.pairs)]) := by rw [hS]; simp only [m_set, m_add, nns, if_false, dP, hnd]
  have hnf : sf.next = s.next + 1 + 1 + 1 + 1 + 1 := by rw [hS]; simp only [n_add, n_set, hnd]
  have hkf : ∀ j, j < s.next → sf.m j = s.m j := fun j hj => by have z0 : ¬ j = s.next := (by omega); have z1 : ¬ j = s.next + 1 := (by omega); have z2 : ¬ j = s.next + 1 + 1 := (by omega); have z3 : ¬ j = s.next + 1 + 1 + 1 := (by omega); have z4 : ¬ j = s.next + 1 + 1 + 1 + 1 := (by omega); rw [hS]; simp only [m_set, m_add, hnd, z4, if_false, hkd j hj]
  clear hS
  refine vw_sc 1 [.pur (.tup [vObj k7S, .t (tInts [0]), .t (tInts [1]), I 0])] ?_
  simp only [bs, Nat.reduceAdd, ↓vopx, ↓vop, Nat.reduceBEq, thenV, Nat.reduceLT, V.cells, dLoad, vpart, hlf, f1, fA, hnf, wocs, ↓goc, ↓woc, ↓vopm1, ↓callC, calleeV, Tryd.ag25, Tryd.sz25, Tryd.zv25]
  repeat ((with_reducible refine And.intro ?_ ?_); · exact ⟨Tryd.is26, kc7_s⟩)
  refine hK6 _ _ ?_
  refine vw_seq_k fun K7 hK7 => ?_
  refine vw_en fun eg hE => ?_
  have hlg : eg.length = 158 := by rw [hE]; simp only [length_putv, hlf]
  have g1 : ev eg (.tmp 1) = .ptr (s.next) 0 := by rw [hE]; simp only [ev_miss, Nat.reduceBEq, f1]
  have g4 : ev eg (.tmp 4) = .ptr (s.next + 1 + 1 + 1) 0 := by rw [hE]; simp only [ev_miss, Nat.reduceBEq, f4]
  have g5 : ev eg (.tmp 5) = .t (tInts [0, 1]) := by rw [hE]; simp only [ev_miss, Nat.reduceBEq, f5]
  have g6 : ev eg (.tmp 6) = .t (tInts [2, 0]) := by rw [hE]; simp only [ev_miss, Nat.reduceBEq, f6]
  have g7 : ev eg (.tmp 7) = I 0 := by rw [hE]; simp only [ev_miss, Nat.reduceBEq, f7]
  have g11 : ev eg (.tmp 11) = I 10 := by rw [hE]; simp only [ev_miss, Nat.reduceBEq, f11]
  have g12 : ev eg (.tmp 12) = .ptr (s.next + 1 + 1 + 1 + 1 + 1) 0 := by rw [hE]; simp only [ev_hit, ev_miss, Nat.reduceBEq, length_putv, hlf, Nat.reduceLT]
  have g13 : ev eg (.tmp 13) = .t (tInts [0]) := by rw [hE]; simp only [ev_hit, ev_miss, Nat.reduceBEq, length_putv, hlf, Nat.reduceLT]
  have g14 : ev eg (.tmp 14) = .t (tInts [1]) := by rw [hE]; simp only [ev_hit, ev_miss, Nat.reduceBEq, length_putv, hlf, Nat.reduceLT]
  have g15 : ev eg (.tmp 15) = I 0 := by rw [hE]; simp only [ev_hit, length_putv, hlf, Nat.reduceLT]
  clear hE
  refine vw_st fun sg hS => ?_
  have gA : sg.m (s.next) = some (.box 25 [.t (.sl 1 [.v (.string k7x)]), .t (.sl 2 [])]) := by rw [hS]; simp only [m_set, m_add, nns, if_false, fA, hnf]
  have gP : sg.m (s.next + 1 + 1 + 1) = some (.box 25 [.t (tStrs o7P.labels), .t (tPairs o7P.pairs)]) := by rw [hS]; simp only [m_set, m_add, nns, if_false, fP, hnf]
  have gS : sg.m (s.next + 1 + 1 + 1 + 1 + 1) = some (.box 25 [.t (tStrs k7S.labels), .t (tPairs k7S.pairs)]) := by rw [hS]; simp only [m_set, m_add, if_true, hnf]
  have hng : sg.next = s.next + 1 + 1 + 1 + 1 + 1 + 1 := by rw [hS]; simp only [n_add, n_set, hnf]
  have hkg : ∀ j, j < s.next → sg.m j = s.m j := fun j hj => by have z0 : ¬ j = s.next := (by omega); have z1 : ¬ j = s.next + 1 := (by omega); have z2 : ¬ j = s.next + 1 + 1 := (by omega); have z3 : ¬ j = s.next + 1 + 1 + 1 := (by omega); have z4 : ¬ j = s.next + 1 + 1 + 1 + 1 := (by omega); have z5 : ¬ j = s.next + 1 + 1 + 1 + 1 + 1 := (by omega); rw [hS]; simp only [m_set, m_add, hnf, z5, if_false, hkf j hj]
  clear hS
  refine vw_sc 1 [.pur (.tup [vObj o7E, .t (tInts [0, 0]), I 0])] ?_
  simp only [bs, Nat.reduceLeDiff, Nat.reduceAdd, vparts, gfill, repl, Sg.frzP, ↓vopx, ↓vop, Nat.reduceBEq, thenV, flat, Nat.reduceLT, V.cells, dLoad, vpart, Sg.frzL, Sg.frz1, hlg, g1, g12, gA, gS, hng, wocs, ↓goc, ↓woc, ↓vopm1, ↓callC, calleeV, Tryd.ag25, Tryd.sl26, Tryd.sz25, Tryd.zv25, nns]
  repeat ((with_reducible refine And.intro ?_ ?_); · exact ⟨Tryd.is28, kc7_e⟩)
  refine hK7 _ _ ?_
  refine vw_seq_k fun K8 hK8 => ?_
  refine vw_en fun eh hE => ?_
  have hlh : eh.length = 158 := by rw [hE]; simp only [length_putv, hlg]
  have h_4 : ev eh (.tmp 4) = .ptr (s.next + 1 + 1 + 1) 0 := by rw [hE]; simp only [ev_miss, Nat.reduceBEq, g4]
  have h_5 : ev eh (.tmp 5) = .t (tInts [0, 1]) := by rw [hE]; simp only [ev_miss, Nat.reduceBEq, g5]
  have h_6 : ev eh (.tmp 6) = .t (tInts [2, 0]) := by rw [hE]; simp only [ev_miss, Nat.reduceBEq, g6]
  have h_7 : ev eh (.tmp 7) = I 0 := by rw [hE]; simp only [ev_miss, Nat.reduceBEq, g7]
  have h_11 : ev eh (.tmp 11) = I 10 := by rw [hE]; simp only [ev_miss, Nat.reduceBEq, g11]
  have h_12 : ev eh (.tmp 12) = .ptr (s.next + 1 + 1 + 1 + 1 + 1) 0 := by rw [hE]; simp only [ev_miss, Nat.reduceBEq, g12]
  have h_13 : ev eh (.tmp 13) = .t (tInts [0]) := by rw [hE]; simp only [ev_miss, Nat.reduceBEq, g13]
  have h_14 : ev eh (.tmp 14) = .t (tInts [1]) := by rw [hE]; simp only [ev_miss, Nat.reduceBEq, g14]
  have h_15 : ev eh (.tmp 15) = I 0 := by rw [hE]; simp only [ev_miss, Nat.reduceBEq, g15]
  have h_16 : ev eh (.tmp 16) = .ptr (s.next + 1 + 1 + 1 + 1 + 1 + 1) 0 := by rw [hE]; simp only [ev_hit, ev_miss, Nat.reduceBEq, length_putv, hlg, Nat.reduceLT]
  have h_17 : ev eh (.tmp 17) = .t (tInts [0, 0]) := by rw [hE]; simp only [ev_hit, ev_miss, Nat.reduceBEq, length_putv, hlg, Nat.reduceLT]
  have h_18 : ev eh (.tmp 18) = I 0 := by rw [hE]; simp only [ev_hit, length_putv, hlg, Nat.reduceLT]
  clear hE
  refine vw_st fun sh hS => ?_
  have hP : sh.m (s.next + 1 + 1 + 1) = some (.box 25 [.t (tStrs o7P.labels), .t (tPairs o7P.pairs)]) := by rw [hS]; simp only [m_set, m_add, nns, if_false, gP, hng]
  have hS2 : sh.m (s.next + 1 + 1 + 1 + 1 + 1) = some (.box 25 [.t (tStrs k7S.labels), .t (tPairs k7S.pairs)]) := by rw [hS]; simp only [m_set, m_add, nns, if_false, gS, hng]
  have hE2 : sh.m (s.next + 1 + 1 + 1 + 1 + 1 + 1) = some (.box 25 [.t (tStrs o7E.labels), .t (tPairs o7E.pairs)]) := by rw [hS]; simp only [m_set, m_add, if_true, hng]
  have hnh : sh.next = s.next + 1 + 1 + 1 + 1 + 1 + 1 + 1 := by rw [hS]; simp only [n_add, n_set, hng]
  have hkh : ∀ j, j < s.next → sh.m j = s.m j := fun j hj => by have z0 : ¬ j = s.next := (by omega); have z1 : ¬ j = s.next + 1 := (by omega); have z2 : ¬ j = s.next + 1 + 1 := (by omega); have z3 : ¬ j = s.next + 1 + 1 + 1 := (by omega); have z4 : ¬ j = s.next + 1 + 1 + 1 + 1 := (by omega); have z5 : ¬ j = s.next + 1 + 1 + 1 + 1 + 1 := (by omega); have z6 : ¬ j = s.next + 1 + 1 + 1 + 1 + 1 + 1 := (by omega); rw [hS]; simp only [m_set, m_add, hng, z6, if_false, hkg j hj]
  clear hS
  refine vw_phase Tryd.mixed ?_
  refine phase_chain 0 14 15 [0, 0, 0, 0, 1, 0, 0, 0, 0, 0, 1, 0, 0, 0] [] [] 0 (by decide +kernel) (by simp [hlh]) rfl ?_
  simp only [bs, ↓vopx, ↓vop, Nat.reduceBEq, flat, Nat.reduceLT, dLoad, vpart, opII, gtmp, hlh, h_4, h_7, hP, Nat.reduceSub, wocs, ↓goc, ↓woc, ↓vopm0, ↓vopm1, ↓pick_tt, chn, ↓goq, ↓woq, List.zip_cons_cons, List.zip_nil_right, Tryd.ag22, Tryd.ag23, Tryd.fd25_0, Tryd.fd25_1, Tryd.sz22, Tryd.sz23, Tryd.un22, Tryd.un23, nns, len_tPairs, nc3, beq_self_eq_true, List.append_eq, vlen_sl1, o7P_l, o7P_p]
  refine phase_env fun e7_0 hE => ?_
  have hl7_0 : e7_0.length = 158 := by rw [hE]; simp only [length_putv, hlh]
  have k4a : ev e7_0 (.tmp 4) = .ptr (s.next + 1 + 1 + 1) 0 := by rw [hE]; simp only [ev_miss, Nat.reduceBEq, h_4]
  have k5a : ev e7_0 (.tmp 5) = .t (tInts [0, 1]) := by rw [hE]; simp only [ev_miss, Nat.reduceBEq, h_5]
  have k6a : ev e7_0 (.tmp 6) = .t (tInts [2, 0]) := by rw [hE]; simp only [ev_miss, Nat.reduceBEq, h_6]
  have k7a : ev e7_0 (.tmp 7) = I 0 := by rw [hE]; simp only [ev_miss, Nat.reduceBEq, h_7]
  have k11a : ev e7_0 (.tmp 11) = I 10 := by rw [hE]; simp only [ev_miss, Nat.reduceBEq, h_11]
  have k12a : ev e7_0 (.tmp 12) = .ptr (s.next + 1 + 1 + 1 + 1 + 1) 0 := by rw [hE]; simp only [ev_miss, Nat.reduceBEq, h_12]
  have k13a : ev e7_0 (.tmp 13) = .t (tInts [0]) := by rw [hE]; simp only [ev_miss, Nat.reduceBEq, h_13]
  have k14a : ev e7_0 (.tmp 14) = .t (tInts [1]) := by rw [hE]; simp only [ev_miss, Nat.reduceBEq, h_14]
  have k15a : ev e7_0 (.tmp 15) = I 0 := by rw [hE]; simp only [ev_miss, Nat.reduceBEq, h_15]
  have k16a : ev e7_0 (.tmp 16) = .ptr (s.next + 1 + 1 + 1 + 1 + 1 + 1) 0 := by rw [hE]; simp only [ev_miss, Nat.reduceBEq, h_16]
  have k17a : ev e7_0 (.tmp 17) = .t (tInts [0, 0]) := by rw [hE]; simp only [ev_miss, Nat.reduceBEq, h_17]
  have k18a : ev e7_0 (.tmp 18) = I 0 := by rw [hE]; simp only [ev_miss, Nat.reduceBEq, h_18]
  have kga : ev e7_0 (.tmp 82) = Bo true := by rw [hE]; simp only [ev_hit, length_putv, hlh, Nat.reduceLT]
  clear hE
  refine phase_chain 15 24 25 [0, 0, 0, 0, 0, 0, 0, 0, 0] [] [] 0 (by decide +kernel) (by simp [hl7_0]) rfl ?_
  simp only [bs, Nat.reduceAdd, ↓vopx, ↓vop, Nat.reduceBEq, flat, Nat.reduceLT, opII, gtmp, hl7_0, k5a, k6a, kga, Nat.reduceSub, wocs, ↓goc, ↓woc, ↓vopm0, ↓pick_tt, chn, ↓goq, ↓woq, List.zip_cons_cons, List.zip_nil_right, Tryd.un26, nc2, beq_self_eq_true, vlen_sl1, tInts]
  refine phase_env fun e7_15 hE => ?_
  have hl7_15 : e7_15.length = 158 := by rw [hE]; simp only [length_putv, hl7_0]
  have k4b : ev e7_15 (.tmp 4) = .ptr (s.next + 1 + 1 + 1) 0 := by rw [hE]; simp only [ev_miss, Nat.reduceBEq, k4a]
  have k5b : ev e7_15 (.tmp 5) = .t (tInts [0, 1]) := by rw [hE]; simp only [ev_miss, Nat.reduceBEq, k5a]
  have k6b : ev e7_15 (.tmp 6) = .t (tInts [2, 0]) := by rw [hE]; simp only [ev_miss, Nat.reduceBEq, k6a]
  have k7b : ev e7_15 (.tmp 7) = I 0 := by rw [hE]; simp only [ev_miss, Nat.reduceBEq, k7a]
  have k11b : ev e7_15 (.tmp 11) = I 10 := by rw [hE]; simp only [ev_miss, Nat.reduceBEq, k11a]
  have k12b : ev e7_15 (.tmp 12) = .ptr (s.next + 1 + 1 + 1 + 1 + 1) 0 := by rw [hE]; simp only [ev_miss, Nat.reduceBEq, k12a]
  have k13b : ev e7_15 (.tmp 13) = .t (tInts [0]) := by rw [hE]; simp only [ev_miss, Nat.reduceBEq, k13a]
  have k14b : ev e7_15 (.tmp 14) = .t (tInts [1]) := by rw [hE]; simp only [ev_miss, Nat.reduceBEq, k14a]
  have k15b : ev e7_15 (.tmp 15) = I 0 := by rw [hE]; simp only [ev_miss, Nat.reduceBEq, k15a]
  have k16b : ev e7_15 (.tmp 16) = .ptr (s.next + 1 + 1 + 1 + 1 + 1 + 1) 0 := by rw [hE]; simp only [ev_miss, Nat.reduceBEq, k16a]
  have k17b : ev e7_15 (.tmp 17) = .t (tInts [0, 0]) := by rw [hE]; simp only [ev_miss, Nat.reduceBEq, k17a]
  have k18b : ev e7_15 (.tmp 18) = I 0 := by rw [hE]; simp only [ev_miss, Nat.reduceBEq, k18a]
  have kgb : ev e7_15 (.tmp 92) = Bo true := by rw [hE]; simp only [ev_hit, length_putv, hl7_0, Nat.reduceLT]
  clear hE
  refine phase_chain 25 33 34 [0, 1, 1, 0, 1, 1, 0, 0] [] [] 0 (by decide +kernel) (by simp [hl7_15]) rfl ?_
  simp only [bs, Nat.reduceAdd, ↓vopx, ↓vop, Nat.reduceBEq, flat, Nat.reduceLT, dLoad, vpart, opII, opSS, gtmp, hl7_15, k5b, k6b, kgb, Nat.reduceSub, wocs, ↓goc, ↓woc, ↓vopm0, ↓vopm1, ↓pick_tt, ↓farC, chn, ↓goq, ↓woq, List.zip_cons_cons, List.zip_nil_right, Tryd.ag3, Tryd.sz3, Tryd.un26, Int.toNat_zero, tInts]
  repeat ((with_reducible refine And.intro ?_ ?_); · omega)
  refine phase_env fun e7_25 hE => ?_
  have hl7_25 : e7_25.length = 158 := by rw [hE]; simp only [length_putv, hl7_15]
  have k4c : ev e7_25 (.tmp 4) = .ptr (s.next + 1 + 1 + 1) 0 := by rw [hE]; simp only [ev_miss, Nat.reduceBEq, k4b, beq_self_eq_true]
  have k5c : ev e7_25 (.tmp 5) = .t (tInts [0, 1]) := by rw [hE]; simp only [ev_miss, Nat.reduceBEq, k5b, beq_self_eq_true]
  have k6c : ev e7_25 (.tmp 6) = .t (tInts [2, 0]) := by rw [hE]; simp only [ev_miss, Nat.reduceBEq, k6b, beq_self_eq_true]
  have k7c : ev e7_25 (.tmp 7) = I 0 := by rw [hE]; simp only [ev_miss, Nat.reduceBEq, k7b, beq_self_eq_true]
  have k11c : ev e7_25 (.tmp 11) = I 10 := by rw [hE]; simp only [ev_miss, Nat.reduceBEq, k11b, beq_self_eq_true]
  have k12c : ev e7_25 (.tmp 12) = .ptr (s.next + 1 + 1 + 1 + 1 + 1) 0 := by rw [hE]; simp only [ev_miss, Nat.reduceBEq, k12b, beq_self_eq_true]
  have k13c : ev e7_25 (.tmp 13) = .t (tInts [0]) := by rw [hE]; simp only [ev_miss, Nat.reduceBEq, k13b, beq_self_eq_true]
  have k14c : ev e7_25 (.tmp 14) = .t (tInts [1]) := by rw [hE]; simp only [ev_miss, Nat.reduceBEq, k14b, beq_self_eq_true]
  have k15c : ev e7_25 (.tmp 15) = I 0 := by rw [hE]; simp only [ev_miss, Nat.reduceBEq, k15b, beq_self_eq_true]
  have k16c : ev e7_25 (.tmp 16) = .ptr (s.next + 1 + 1 + 1 + 1 + 1 + 1) 0 := by rw [hE]; simp only [ev_miss, Nat.reduceBEq, k16b, beq_self_eq_true]
  have k17c : ev e7_25 (.tmp 17) = .t (tInts [0, 0]) := by rw [hE]; simp only [ev_miss, Nat.reduceBEq, k17b, beq_self_eq_true]
  have k18c : ev e7_25 (.tmp 18) = I 0 := by rw [hE]; simp only [ev_miss, Nat.reduceBEq, k18b, beq_self_eq_true]
  have kgc : ev e7_25 (.tmp 101) = Bo true := by rw [hE]; simp only [ev_hit, length_putv, hl7_15, beq_self_eq_true, Nat.reduceLT]
  clear hE
  refine phase_chain 34 47 48 [0, 0, 0, 0, 0, 0, 0, 0, 0, 1, 0, 0, 0] [] [] 0 (by decide +kernel) (by simp [hl7_25]) rfl ?_
  simp only [bs, Nat.reduceAdd, ↓vopx, ↓vop, Nat.reduceBEq, flat, Nat.reduceLT, dLoad, vpart, opII, gtmp, hl7_25, k11c, k12c, k15c, kgc, Nat.reduceSub, wocs, ↓goc, ↓woc, ↓vopm0, ↓vopm1, ↓pick_tt, chn, ↓goq, ↓woq, List.zip_cons_cons, List.zip_nil_right, Tryd.ag22, Tryd.fd25_0, Tryd.sz22, Tryd.un22, nns, nc2, beq_self_eq_true, vlen_sl1, hS2]
  refine phase_env fun e7_34 hE => ?_
  have hl7_34 : e7_34.length = 158 := by rw [hE]; simp only [length_putv, hl7_25]
  have k4d : ev e7_34 (.tmp 4) = .ptr (s.next + 1 + 1 + 1) 0 := by rw [hE]; simp only [ev_miss, Nat.reduceBEq, k4c]
  have k5d : ev e7_34 (.tmp 5) = .t (tInts [0, 1]) := by rw [hE]; simp only [ev_miss, Nat.reduceBEq, k5c]
  have k6d : ev e7_34 (.tmp 6) = .t (tInts [2, 0]) := by rw [hE]; simp only [ev_miss, Nat.reduceBEq, k6c]
  have k7d : ev e7_34 (.tmp 7) = I 0 := by rw [hE]; simp only [ev_miss, Nat.reduceBEq, k7c]
  have k11d : ev e7_34 (.tmp 11) = I 10 := by rw [hE]; simp only [ev_miss, Nat.reduceBEq, k11c]
  have k12d : ev e7_34 (.tmp 12) = .ptr (s.next + 1 + 1 + 1 + 1 + 1) 0 := by rw [hE]; simp only [ev_miss, Nat.reduceBEq, k12c]
  have k13d : ev e7_34 (.tmp 13) = .t (tInts [0]) := by rw [hE]; simp only [ev_miss, Nat.reduceBEq, k13c]
  have k14d : ev e7_34 (.tmp 14) = .t (tInts [1]) := by rw [hE]; simp only [ev_miss, Nat.reduceBEq, k14c]
  have k15d : ev e7_34 (.tmp 15) = I 0 := by rw [hE]; simp only [ev_miss, Nat.reduceBEq, k15c]
  have k16d : ev e7_34 (.tmp 16) = .ptr (s.next + 1 + 1 + 1 + 1 + 1 + 1) 0 := by rw [hE]; simp only [ev_miss, Nat.reduceBEq, k16c]
  have k17d : ev e7_34 (.tmp 17) = .t (tInts [0, 0]) := by rw [hE]; simp only [ev_miss, Nat.reduceBEq, k17c]
  have k18d : ev e7_34 (.tmp 18) = I 0 := by rw [hE]; simp only [ev_miss, Nat.reduceBEq, k18c]
  have kgd : ev e7_34 (.tmp 115) = Bo true := by rw [hE]; simp only [ev_hit, length_putv, hl7_25, Nat.reduceLT]
  clear hE
  refine phase_chain 48 57 58 [0, 0, 0, 0, 0, 0, 0, 0, 0] [] [] 0 (by decide +kernel) (by simp [hl7_34]) rfl ?_
  simp only [bs, ↓vopx, ↓vop, Nat.reduceBEq, flat, Nat.reduceLT, opII, gtmp, hl7_34, k13d, k14d, kgd, Nat.reduceSub, wocs, ↓goc, ↓woc, ↓vopm0, ↓pick_tt, chn, ↓goq, ↓woq, List.zip_cons_cons, List.zip_nil_right, Tryd.un26, nc1, beq_self_eq_true, vlen_sl1, tInts]
  refine phase_env fun e7_48 hE => ?_
  have hl7_48 : e7_48.length = 158 := by rw [hE]; simp only [length_putv, hl7_34]
  have k4e : ev e7_48 (.tmp 4) = .ptr (s.next + 1 + 1 + 1) 0 := by rw [hE]; simp only [ev_miss, Nat.reduceBEq, k4d]
  have k5e : ev e7_48 (.tmp 5) = .t (tInts [0, 1]) := by rw [hE]; simp only [ev_miss, Nat.reduceBEq, k5d]
  have k6e : ev e7_48 (.tmp 6) = .t (tInts [2, 0]) := by rw [hE]; simp only [ev_miss, Nat.reduceBEq, k6d]
  have k7e : ev e7_48 (.tmp 7) = I 0 := by rw [hE]; simp only [ev_miss, Nat.reduceBEq, k7d]
  have k11e : ev e7_48 (.tmp 11) = I 10 := by rw [hE]; simp only [ev_miss, Nat.reduceBEq, k11d]
  have k12e : ev e7_48 (.tmp 12) = .ptr (s.next + 1 + 1 + 1 + 1 + 1) 0 := by rw [hE]; simp only [ev_miss, Nat.reduceBEq, k12d]
  have k13e : ev e7_48 (.tmp 13) = .t (tInts [0]) := by rw [hE]; simp only [ev_miss, Nat.reduceBEq, k13d]
  have k14e : ev e7_48 (.tmp 14) = .t (tInts [1]) := by rw [hE]; simp only [ev_miss, Nat.reduceBEq, k14d]
  have k15e : ev e7_48 (.tmp 15) = I 0 := by rw [hE]; simp only [ev_miss, Nat.reduceBEq, k15d]
  have k16e : ev e7_48 (.tmp 16) = .ptr (s.next + 1 + 1 + 1 + 1 + 1 + 1) 0 := by rw [hE]; simp only [ev_miss, Nat.reduceBEq, k16d]
  have k17e : ev e7_48 (.tmp 17) = .t (tInts [0, 0]) := by rw [hE]; simp only [ev_miss, Nat.reduceBEq, k17d]
  have k18e : ev e7_48 (.tmp 18) = I 0 := by rw [hE]; simp only [ev_miss, Nat.reduceBEq, k18d]
  have kge : ev e7_48 (.tmp 125) = Bo true := by rw [hE]; simp only [ev_hit, length_putv, hl7_34, Nat.reduceLT]
  clear hE
  refine phase_chain 58 69 70 [0, 1, 1, 0, 0, 0, 0, 1, 1, 0, 0] [] [] 0 (by decide +kernel) (by simp [hl7_48]) rfl ?_
  simp only [bs, ↓vopx, ↓vop, Nat.reduceBEq, flat, Nat.reduceLT, dLoad, vpart, opII, gtmp, hl7_48, k13e, k14e, kge, Nat.reduceSub, wocs, ↓goc, ↓woc, ↓vopm0, ↓vopm1, ↓pick_tt, chn, ↓goq, ↓woq, List.zip_cons_cons, List.zip_nil_right, Tryd.ag3, Tryd.sz3, Tryd.un26, Int.toNat_zero, beq_self_eq_true, tInts]
  repeat ((with_reducible refine And.intro ?_ ?_); · omega)
  refine phase_env fun e7_58 hE => ?_
  have hl7_58 : e7_58.length = 158 := by rw [hE]; simp only [length_putv, hl7_48]
  have k4f : ev e7_58 (.tmp 4) = .ptr (s.next + 1 + 1 + 1) 0 := by rw [hE]; simp only [ev_miss, Nat.reduceBEq, k4e]
  have k5f : ev e7_58 (.tmp 5) = .t (tInts [0, 1]) := by rw [hE]; simp only [ev_miss, Nat.reduceBEq, k5e]
  have k6f : ev e7_58 (.tmp 6) = .t (tInts [2, 0]) := by rw [hE]; simp only [ev_miss, Nat.reduceBEq, k6e]
  have k7f : ev e7_58 (.tmp 7) = I 0 := by rw [hE]; simp only [ev_miss, Nat.reduceBEq, k7e]
  have k11f : ev e7_58 (.tmp 11) = I 10 := by rw [hE]; simp only [ev_miss, Nat.reduceBEq, k11e]
  have k12f : ev e7_58 (.tmp 12) = .ptr (s.next + 1 + 1 + 1 + 1 + 1) 0 := by rw [hE]; simp only [ev_miss, Nat.reduceBEq, k12e]
  have k13f : ev e7_58 (.tmp 13) = .t (tInts [0]) := by rw [hE]; simp only [ev_miss, Nat.reduceBEq, k13e]
  have k14f : ev e7_58 (.tmp 14) = .t (tInts [1]) := by rw [hE]; simp only [ev_miss, Nat.reduceBEq, k14e]
  have k15f : ev e7_58 (.tmp 15) = I 0 := by rw [hE]; simp only [ev_miss, Nat.reduceBEq, k15e]
  have k16f : ev e7_58 (.tmp 16) = .ptr (s.next + 1 + 1 + 1 + 1 + 1 + 1) 0 := by rw [hE]; simp only [ev_miss, Nat.reduceBEq, k16e]
  have k17f : ev e7_58 (.tmp 17) = .t (tInts [0, 0]) := by rw [hE]; simp only [ev_miss, Nat.reduceBEq, k17e]
  have k18f : ev e7_58 (.tmp 18) = I 0 := by rw [hE]; simp only [ev_miss, Nat.reduceBEq, k18e]
  have kgf : ev e7_58 (.tmp 137) = Bo true := by rw [hE]; simp only [ev_hit, length_putv, hl7_48, Nat.reduceLT]
  clear hE
  refine phase_chain 70 79 80 [0, 0, 0, 0, 0, 1, 0, 0, 0] [] [] 0 (by decide +kernel) (by simp [hl7_58]) rfl ?_
  simp only [bs, ↓vopx, ↓vop, Nat.reduceBEq, flat, Nat.reduceLT, dLoad, vpart, opII, gtmp, hl7_58, k16f, k18f, kgf, Nat.reduceSub, wocs, ↓goc, ↓woc, ↓vopm0, ↓vopm1, ↓pick_tt, chn, ↓goq, ↓woq, List.zip_cons_cons, List.zip_nil_right, Tryd.ag22, Tryd.fd25_0, Tryd.sz22, Tryd.un22, nns, nc1, beq_self_eq_true, vlen_sl1, o7E_l, hE2]
  refine phase_env fun e7_70 hE => ?_
  have hl7_70 : e7_70.length = 158 := by rw [hE]; simp only [length_putv, hl7_58]
  have k4g : ev e7_70 (.tmp 4) = .ptr (s.next + 1 + 1 + 1) 0 := by rw [hE]; simp only [ev_miss, Nat.reduceBEq, k4f]
  have k5g : ev e7_70 (.tmp 5) = .t (tInts [0, 1]) := by rw [hE]; simp only [ev_miss, Nat.reduceBEq, k5f]
  have k6g : ev e7_70 (.tmp 6) = .t (tInts [2, 0]) := by rw [hE]; simp only [ev_miss, Nat.reduceBEq, k6f]
  have k7g : ev e7_70 (.tmp 7) = I 0 := by rw [hE]; simp only [ev_miss, Nat.reduceBEq, k7f]
  have k11g : ev e7_70 (.tmp 11) = I 10 := by rw [hE]; simp only [ev_miss, Nat.reduceBEq, k11f]
  have k12g : ev e7_70 (.tmp 12) = .ptr (s.next + 1 + 1 + 1 + 1 + 1) 0 := by rw [hE]; simp only [ev_miss, Nat.reduceBEq, k12f]
  have k13g : ev e7_70 (.tmp 13) = .t (tInts [0]) := by rw [hE]; simp only [ev_miss, Nat.reduceBEq, k13f]
  have k14g : ev e7_70 (.tmp 14) = .t (tInts [1]) := by rw [hE]; simp only [ev_miss, Nat.reduceBEq, k14f]
  have k15g : ev e7_70 (.tmp 15) = I 0 := by rw [hE]; simp only [ev_miss, Nat.reduceBEq, k15f]
  have k16g : ev e7_70 (.tmp 16) = .ptr (s.next + 1 + 1 + 1 + 1 + 1 + 1) 0 := by rw [hE]; simp only [ev_miss, Nat.reduceBEq, k16f]
  have k17g : ev e7_70 (.tmp 17) = .t (tInts [0, 0]) := by rw [hE]; simp only [ev_miss, Nat.reduceBEq, k17f]
  have k18g : ev e7_70 (.tmp 18) = I 0 := by rw [hE]; simp only [ev_miss, Nat.reduceBEq, k18f]
  have kgg : ev e7_70 (.tmp 147) = Bo true := by rw [hE]; simp only [ev_hit, length_putv, hl7_58, Nat.reduceLT]
  clear hE
  refine phase_chain 80 90 91 [0, 0, 0, 0, 0, 0, 1, 1, 0, 0] [] [] 0 (by decide +kernel) (by simp [hl7_70]) rfl ?_
  simp only [bs, Nat.reduceAdd, ↓vopx, ↓vop, Nat.reduceBEq, flat, Nat.reduceLT, dLoad, vpart, opII, opSS, gtmp, hl7_70, k17g, kgg, Nat.reduceSub, wocs, ↓goc, ↓woc, ↓vopm0, ↓vopm1, ↓pick_tt, ↓farC, chn, ↓goq, ↓woq, List.zip_cons_cons, List.zip_nil_right, Tryd.ag3, Tryd.sz3, Tryd.un26, nc2, beq_self_eq_true, vlen_sl1, tInts]
  repeat ((with_reducible refine And.intro ?_ ?_); · omega)
  refine phase_end ?_
  try simp only [thenV]
  refine hK8 _ _ ?_
  refine vw_ret ?_
  refine hQ _ _ _ (.inr rfl) (done_tmp ?_ fun n b hn h => (hkh n hn).trans h)
  try simp only [ev_hit, length_putv, hl7_70, Nat.reduceLT]
  rfl

end Go.Proofs

open Go Go.V
namespace Go.Proofs

theorem allZ_refl {α : Type} {p : α → α → Bool} (h : ∀ a, p a a = true) : ∀ l : List α, allZ p l l = true
  | [] => rfl
  | a :: l => by simp [allZ, h a, allZ_refl h l]
theorem sameS_refl (a : Ob) : sameS a a = true := by
  unfold sameS
  rw [allZ_refl (fun x => by simp [seqB]), allZ_refl (fun x => by simp [peqB])]
  rfl
theorem same_self (a : Ob) (ha : a.labels.length < 1000000000) (ha2 : a.pairs.length < 1000000000) : PCall Tryd.prog 24 [vObj a, vObj a] (Bo true) := by
  have := same_ a a ha ha2 ha ha2
  rw [sameS_refl] at this
  exact this
theorem alike_self (f : List Int) (hf : f.length < 1000000000) : PCall Tryd.prog 25 [.t (tInts f), .t (tInts f)] (Bo true) := by
  have := refAlike_ f f hf hf
  rw [beq_self_eq_true] at this
  exact this
theorem pairsOf_len (n : Nat) (M : Mx) : (pairsOf n M).length ≤ n * n := by
  unfold pairsOf
  rw [List.length_flatMap]
  have h : ∀ (l : List Nat), (l.map fun a => (rowOf n M a).length).sum ≤ l.length * n := by
    intro l
    induction l with
    | nil => simp
    | cons a l ih =>
      have h1 : (rowOf n M a).length ≤ n := by
        unfold rowOf
        rw [List.length_map]
        exact Nat.le_trans (List.length_filter_le _ _) (by simp)
      simp only [List.map_cons, List.sum_cons, List.length_cons, Nat.succ_mul]
      omega
  have := h (List.range n)
  rwa [List.length_range] at this
theorem glN_le (l : List Int) : glN l ≤ l.length := fst_le l l.length
theorem glued_lab_le (o : Ob) (l : List Int) : (gluedS o l).labels.length ≤ l.length := by
  unfold gluedS glLab
  rw [List.length_map]
  exact fst_le l l.length
theorem glued_pairs_le (o : Ob) (l : List Int) : (gluedS o l).pairs.length ≤ l.length * l.length :=
  Nat.le_trans (pairsOf_len _ _) (Nat.mul_le_mul (glN_le l) (glN_le l))
theorem eqPl_len (b : Ob) (f g : List Int) : (eqPl b f g).length = b.labels.length := by
  unfold eqPl
  rw [placesL_length, joinsL_length, rangeI_length]
theorem puPl_len (b c : Ob) (f g : List Int) : (puPl b c f g).length = b.labels.length + c.labels.length := by
  unfold puPl
  rw [placesL_length, joinsL_length, rangeI_length]
theorem sq_le {n m : Nat} (h : n ≤ m) : n * n ≤ m * m := Nat.mul_le_mul h h
theorem sumS_lim (a b : Ob) : (sumS a b).1.labels.length ≤ a.labels.length + b.labels.length ∧ (sumS a b).1.pairs.length ≤ a.pairs.length + b.pairs.length ∧ (sumS a b).2.1.length ≤ a.labels.length ∧ (sumS a b).2.2.1.length ≤ b.labels.length := by
  unfold sumS
  split
  · simp
  · split
    · simp [besideS, legT_length]
    · simp
theorem eqS_lim (a b : Ob) (f g : List Int) (hb : b.labels.length ≤ 100) : (eqS a b f g).1.labels.length ≤ 100 ∧ (eqS a b f g).1.pairs.length ≤ 10000 ∧ (eqS a b f g).2.1.length ≤ 100 := by
  unfold eqS
  split
  · simp
  · split
    · have h1 := glued_lab_le b (eqPl b f g)
      have h2 := glued_pairs_le b (eqPl b f g)
      rw [eqPl_len] at h1 h2
      have := sq_le hb
      refine ⟨?_, ?_, ?_⟩ <;> simp only [eqPl_len] <;> omega
    · simp
theorem pushR_lim (a b c : Ob) (f g : List Int) (hb : b.labels.length + c.labels.length ≤ 100) : (pushR a b c f g).1.labels.length ≤ 100 ∧ (pushR a b c f g).1.pairs.length ≤ 10000 ∧ (pushR a b c f g).2.1.length ≤ 100 ∧ (pushR a b c f g).2.2.1.length ≤ 100 := by
  unfold pushR
  split
  · simp
  · split
    · have h1 := glued_lab_le (besideS b c) (puPl b c f g)
      have h2 := glued_pairs_le (besideS b c) (puPl b c f g)
      rw [puPl_len] at h1 h2
      have := sq_le hb
      refine ⟨?_, ?_, ?_, ?_⟩ <;> simp only [List.length_take, List.length_drop, puPl_len] <;> omega
    · simp
end Go.Proofs

open Go Go.V
namespace Go.Proofs

set_option maxRecDepth 20000 in
set_option maxHeartbeats 8000000 in
theorem lawSums_ (a b : Ob) (f g : List Int) (ha1 : a.labels.length ≤ 9223372036854775807) (ha2 : a.pairs.length ≤ 9223372036854775807) (hb1 : b.labels.length ≤ 9223372036854775807) (hb2 : b.pairs.length ≤ 9223372036854775807) : PCall Tryd.prog 4 [vObj a, vObj b, .t (tInts f), .t (tInts g)] (Bo true) := by
  refine pcall_of_body Tryd.func4 rfl fun s Q hQ => ?_
  obtain ⟨e, he, hl, h0, h1, h2, h3⟩ : ∃ e : Env, ([vObj a, vObj b, .t (tInts f), .t (tInts g)] ++ List.replicate (Tryd.f4.ntmps - ([vObj a, vObj b, .t (tInts f), .t (tInts g)] : List V).length) .junk) = e ∧ e.length = 110 ∧ ev e (.tmp 0) = vObj a ∧ ev e (.tmp 1) = vObj b ∧ ev e (.tmp 2) = .t (tInts f) ∧ ev e (.tmp 3) = .t (tInts g) := ⟨_, rfl, rfl, rfl, rfl, rfl, rfl⟩
  rw [he]
  clear he
  refine vw_seq_k fun K1 hK1 => ?_
  refine vw_sc 0 [] ?_
  simp only [bs, ↓vopx, ↓vop, Nat.reduceBEq, thenV, flat, V.cells, h0, h1, wocs, ↓goc, ↓woc, ↓vopm0]
  refine hK1 _ _ ?_
  refine vw_seq_k fun K2 hK2 => ?_
  refine vw_seq_k fun K3 hK3 => ?_
  refine vw_sc 0 [.pur (Bo true)] ?_
  simp only [bs, ↓vopx, ↓vop, thenV, Nat.reduceLT, hl, wocs, ↓goc, ↓woc, ↓vopm0, ↓callC, calleeV]
  repeat ((with_reducible refine And.intro ?_ ?_); · exact ⟨Tryd.is20, known7_⟩)
  refine hK3 _ _ ?_
  refine vw_cond_k fun A B hA hB => ?_
  simp only [condV, ev_hit, length_putv, Nat.reduceLT, true_implies, reduceCtorEq, false_implies, true_and, hl]
  refine hB ?_
  clear hA hB A B
  refine vw_skip ?_
  refine hK2 _ _ ?_
  refine vw_seq_k fun K4 hK4 => ?_
  refine vw_seq_k fun K5 hK5 => ?_
  rcases (show fewS a = false ∨ (fewS a = true ∧ (fewS b = false ∨ (fewS b = true ∧ ((f.length : Int) > 60 ∨ (¬ (f.length : Int) > 60 ∧ ((g.length : Int) > 60 ∨ ¬ (g.length : Int) > 60)))))) by cases fewS a <;> cases fewS b <;> simp <;> omega) with hfa | ⟨hfa, hfb | ⟨hfb, hlf | ⟨hlf, hlg | hlg⟩⟩⟩
  · refine vw_sc 0 [.pur (Bo (fewS a))] ?_
    simp only [bs, Nat.reduceAdd, ↓vopx, ↓vop, Nat.reduceBEq, thenV, flat, Nat.reduceLT, dLoad, vpart, gtmp, hl, wocs, ↓goc, ↓woc, ↓vopm0, ↓callC, ↓pick_tf, calleeV, Tryd.ag25, Tryd.sz25, nns, hfa]
    repeat ((with_reducible refine And.intro ?_ ?_); · exact ⟨Tryd.is21, by simpa only [hfa] using few7_ a (by omega) (by omega)⟩)
    refine hK5 _ _ ?_
    refine vw_cond_k fun A B hA hB => ?_
    simp only [condV, ev_hit, length_putv, Nat.reduceLT, true_implies, reduceCtorEq, false_implies, and_true, hl]
    refine hA ?_
    clear hA hB A B
    refine vw_seq_k fun K6 hK6 => ?_
    refine vw_sc 0 [] ?_
    simp only [bs, ↓vopx, ↓vop, thenV, flat, wocs, ↓goc, ↓woc, ↓vopm0]
    refine hK6 _ _ ?_
    refine vw_ret ?_
    refine hQ _ _ _ (.inr rfl) (done_tmp ?_ fun n b hn h => by simp [Sg.add, show n ≠ s.next by omega, show n ≠ s.next + 1 by omega, h])
    try simp only [ev_hit, length_putv, hl, Nat.reduceLT]
  · refine vw_sc 0 [.pur (Bo (fewS a)), .pur (Bo (fewS b))] ?_
    simp only [bs, Nat.reduceAdd, ↓vopx, ↓vop, Nat.reduceBEq, thenV, flat, Nat.reduceLT, dLoad, vpart, gtmp, hl, wocs, ↓goc, ↓woc, ↓vopm0, ↓callC, ↓pick_ff, ↓pick_tf, calleeV, Tryd.ag25, Tryd.sz25, nns, hfa, hfb]
    repeat ((with_reducible refine And.intro ?_ ?_); · first | exact ⟨Tryd.is21, by simpa only [hfa] using few7_ a (by omega) (by omega)⟩ | exact ⟨Tryd.is21, by simpa only [hfb] using few7_ b (by omega) (by omega)⟩)
    refine hK5 _ _ ?_
    refine vw_cond_k fun A B hA hB => ?_
    simp only [condV, ev_hit, length_putv, Nat.reduceLT, true_implies, reduceCtorEq, false_implies, and_true, hl]
    refine hA ?_
    clear hA hB A B
    refine vw_seq_k fun K7 hK7 => ?_
    refine vw_sc 0 [] ?_
    simp only [bs, ↓vopx, ↓vop, thenV, flat, wocs, ↓goc, ↓woc, ↓vopm0]
    refine hK7 _ _ ?_
    refine vw_ret ?_
    refine hQ _ _ _ (.inr rfl) (done_tmp ?_ fun n b hn h => by simp [Sg.add, show n ≠ s.next by omega, show n ≠ s.next + 1 by omega, h])
    try simp only [ev_hit, length_putv, hl, Nat.reduceLT]
  · refine vw_sc 0 [.pur (Bo (fewS a)), .pur (Bo (fewS b))] ?_
    simp only [bs, Nat.reduceAdd, ↓vopx, ↓vop, Nat.reduceBEq, thenV, flat, Nat.reduceLT, dLoad, vpart, opII, gtmp, hl, h2, wocs, ↓goc, ↓woc, ↓vopm0, ↓callC, ↓pick_ff, ↓pick_tf, calleeV, Tryd.ag25, Tryd.sz25, nns, len_tInts, Tryd.underlying26, hfa, hfb, hlf]
    repeat ((with_reducible refine And.intro ?_ ?_); · first | exact ⟨Tryd.is21, by simpa only [hfa] using few7_ a (by omega) (by omega)⟩ | exact ⟨Tryd.is21, by simpa only [hfb] using few7_ b (by omega) (by omega)⟩)
    refine hK5 _ _ ?_
    refine vw_cond_k fun A B hA hB => ?_
    simp only [condV, ev_hit, length_putv, Nat.reduceLT, true_implies, reduceCtorEq, false_implies, and_true, hl]
    refine hA ?_
    clear hA hB A B
    refine vw_seq_k fun K8 hK8 => ?_
    refine vw_sc 0 [] ?_
    simp only [bs, ↓vopx, ↓vop, thenV, flat, wocs, ↓goc, ↓woc, ↓vopm0]
    refine hK8 _ _ ?_
    refine vw_ret ?_
    refine hQ _ _ _ (.inr rfl) (done_tmp ?_ fun n b hn h => by simp [Sg.add, show n ≠ s.next by omega, show n ≠ s.next + 1 by omega, h])
    try simp only [ev_hit, length_putv, hl, Nat.reduceLT]
  · refine vw_sc 0 [.pur (Bo (fewS a)), .pur (Bo (fewS b))] ?_
    simp only [bs, Nat.reduceAdd, ↓vopx, ↓vop, Nat.reduceBEq, thenV, flat, Nat.reduceLT, dLoad, vpart, opII, gtmp, hl, h2, h3, wocs, ↓goc, ↓woc, ↓vopm0, ↓callC, ↓pick_ff, calleeV, Tryd.ag25, Tryd.sz25, nns, len_tInts, Tryd.underlying26, hfa, hfb, hlf, hlg]
    repeat ((with_reducible refine And.intro ?_ ?_); · first | exact ⟨Tryd.is21, by simpa only [hfa] using few7_ a (by omega) (by omega)⟩ | exact ⟨Tryd.is21, by simpa only [hfb] using few7_ b (by omega) (by omega)⟩)
    refine hK5 _ _ ?_
    refine vw_cond_k fun A B hA hB => ?_
    simp only [condV, ev_hit, length_putv, Nat.reduceLT, true_implies, reduceCtorEq, false_implies, and_true, hl]
    refine hA ?_
    clear hA hB A B
    refine vw_seq_k fun K9 hK9 => ?_
    refine vw_sc 0 [] ?_
    simp only [bs, ↓vopx, ↓vop, thenV, flat, wocs, ↓goc, ↓woc, ↓vopm0]
    refine hK9 _ _ ?_
    refine vw_ret ?_
    refine hQ _ _ _ (.inr rfl) (done_tmp ?_ fun n b hn h => by simp [Sg.add, show n ≠ s.next by omega, show n ≠ s.next + 1 by omega, h])
    try simp only [ev_hit, length_putv, hl, Nat.reduceLT]
  · refine vw_sc 0 [.pur (Bo (fewS a)), .pur (Bo (fewS b))] ?_
    simp only [bs, Nat.reduceAdd, ↓vopx, ↓vop, Nat.reduceBEq, thenV, flat, Nat.reduceLT, dLoad, vpart, opII, gtmp, hl, h2, h3, wocs, ↓goc, ↓woc, ↓vopm0, ↓callC, ↓pick_ff, calleeV, Tryd.ag25, Tryd.sz25, nns, len_tInts, Tryd.underlying26, hfa, hfb, hlf, hlg]
    repeat ((with_reducible refine And.intro ?_ ?_); · first | exact ⟨Tryd.is21, by simpa only [hfa] using few7_ a (by omega) (by omega)⟩ | exact ⟨Tryd.is21, by simpa only [hfb] using few7_ b (by omega) (by omega)⟩)
    refine hK5 _ _ ?_
    refine vw_cond_k fun A B hA hB => ?_
    simp only [condV, ev_hit, length_putv, Nat.reduceLT, true_implies, reduceCtorEq, false_implies, true_and, hl]
    refine hB ?_
    clear hA hB A B
    refine vw_skip ?_
    refine hK4 _ _ ?_
    refine vw_seq_k fun K10 hK10 => ?_
    refine vw_en fun eqa hE => ?_
    have hlqa : eqa.length = 110 := by rw [hE]; simp only [length_putv, hl]
    have qa_2 : ev eqa (.tmp 2) = .t (tInts f) := by rw [hE]; simp only [ev_miss, Nat.reduceBEq, h2]
    have qa_3 : ev eqa (.tmp 3) = .t (tInts g) := by rw [hE]; simp only [ev_miss, Nat.reduceBEq, h3]
    have qa_4 : ev eqa (.tmp 4) = .ptr (s.next) 0 := by rw [hE]; simp only [ev_hit, ev_miss, Nat.reduceBEq, hl, Nat.reduceLT]
    have qa_5 : ev eqa (.tmp 5) = .ptr (s.next + 1) 0 := by rw [hE]; simp only [ev_hit, ev_miss, Nat.reduceBEq, length_putv, hl, Nat.reduceLT]
    clear hE
    refine vw_st fun sqa hS => ?_
    have qaB0 : sqa.m (s.next) = some (.box 25 [.t (tStrs a.labels), .t (tPairs a.pairs)]) := by rw [hS]; simp only [m_add, n_add, nns, if_true, if_false, ]
    have qaB1 : sqa.m (s.next + 1) = some (.box 25 [.t (tStrs b.labels), .t (tPairs b.pairs)]) := by rw [hS]; simp only [m_add, n_add, nns, if_true, if_false, ]
    have hnqa : sqa.next = s.next + 1 + 1 := by rw [hS]; simp only [n_add, ]
    have hkqa : ∀ j, j < s.next → sqa.m j = s.m j := fun j hj => by have z0 : ¬ j = s.next := (by omega); have z1 : ¬ j = s.next + 1 := (by omega); rw [hS]; simp only [m_add, n_add, z0, z1, if_false]
    clear hS
    have ba := few_le hfa
    have bb := few_le hfb
    refine vw_sc 0 [.pur (.tup [vObj (sumS a b).1, .t (tInts (sumS a b).2.1), .t (tInts (sumS a b).2.2.1), I (sumS a b).2.2.2])] ?_
    simp only [bs, Nat.reduceAdd, ↓vopx, ↓vop, Nat.reduceBEq, thenV, Nat.reduceLT, V.cells, dLoad, vpart, hlqa, qa_4, qa_5, qaB0, qaB1, hnqa, wocs, ↓goc, ↓woc, ↓vopm0, ↓callC, calleeV, Tryd.ag25, Tryd.sz25, Tryd.zv25]
    repeat ((with_reducible refine And.intro ?_ ?_); · exact ⟨Tryd.is26, sum_ a b (by omega) (by omega) (by omega) (by omega)⟩)
    refine hK10 _ _ ?_
    refine vw_seq_k fun K11 hK11 => ?_
    refine vw_en fun eqb hE => ?_
    have hlqb : eqb.length = 110 := by rw [hE]; simp only [length_putv, hlqa]
    have qb_2 : ev eqb (.tmp 2) = .t (tInts f) := by rw [hE]; simp only [ev_miss, Nat.reduceBEq, qa_2]
    have qb_3 : ev eqb (.tmp 3) = .t (tInts g) := by rw [hE]; simp only [ev_miss, Nat.reduceBEq, qa_3]
    have qb_4 : ev eqb (.tmp 4) = .ptr (s.next) 0 := by rw [hE]; simp only [ev_miss, Nat.reduceBEq, qa_4]
    have qb_5 : ev eqb (.tmp 5) = .ptr (s.next + 1) 0 := by rw [hE]; simp only [ev_miss, Nat.reduceBEq, qa_5]
    have qb_9 : ev eqb (.tmp 9) = .ptr (s.next + 1 + 1) 0 := by rw [hE]; simp only [ev_hit, ev_miss, Nat.reduceBEq, length_putv, hlqa, Nat.reduceLT]
    have qb_10 : ev eqb (.tmp 10) = .t (tInts (sumS a b).2.1) := by rw [hE]; simp only [ev_hit, ev_miss, Nat.reduceBEq, length_putv, hlqa, Nat.reduceLT]
    have qb_11 : ev eqb (.tmp 11) = .t (tInts (sumS a b).2.2.1) := by rw [hE]; simp only [ev_hit, ev_miss, Nat.reduceBEq, length_putv, hlqa, Nat.reduceLT]
    have qb_12 : ev eqb (.tmp 12) = I (sumS a b).2.2.2 := by rw [hE]; simp only [ev_hit, length_putv, hlqa, Nat.reduceLT]
    clear hE
    refine vw_st fun sqb hS => ?_
    have qbB0 : sqb.m (s.next) = some (.box 25 [.t (tStrs a.labels), .t (tPairs a.pairs)]) := by rw [hS]; simp only [m_set, m_add, nns, if_false, qaB0, hnqa]
    have qbB1 : sqb.m (s.next + 1) = some (.box 25 [.t (tStrs b.labels), .t (tPairs b.pairs)]) := by rw [hS]; simp only [m_set, m_add, nns, if_false, qaB1, hnqa]
    have qbB2 : sqb.m (s.next + 1 + 1) = some (.box 25 [.t (tStrs (sumS a b).1.labels), .t (tPairs (sumS a b).1.pairs)]) := by rw [hS]; simp only [m_set, m_add, if_true, hnqa]
    have hnqb : sqb.next = s.next + 1 + 1 + 1 := by rw [hS]; simp only [n_add, n_set, hnqa]
    have hkqb : ∀ j, j < s.next → sqb.m j = s.m j := fun j hj => by have z0 : ¬ j = s.next := (by omega); have z1 : ¬ j = s.next + 1 := (by omega); have z2 : ¬ j = s.next + 1 + 1 := (by omega); rw [hS]; simp only [m_set, m_add, hnqa, z2, if_false, hkqa j hj]
    clear hS
    refine vw_sc 0 [.pur (.tup [vObj (sumS a b).1, .t (tInts (sumS a b).2.1), .t (tInts (sumS a b).2.2.1), I (sumS a b).2.2.2])] ?_
    simp only [bs, Nat.reduceAdd, ↓vopx, ↓vop, Nat.reduceBEq, thenV, Nat.reduceLT, V.cells, dLoad, vpart, hlqb, qb_4, qb_5, qbB0, qbB1, hnqb, wocs, ↓goc, ↓woc, ↓vopm0, ↓callC, calleeV, Tryd.ag25, Tryd.sz25, Tryd.zv25]
    repeat ((with_reducible refine And.intro ?_ ?_); · exact ⟨Tryd.is27, refSum_ a b (by omega) (by omega) (by omega) (by omega)⟩)
    refine hK11 _ _ ?_
    refine vw_seq_k fun K12 hK12 => ?_
    refine vw_en fun eqc hE => ?_
    have hlqc : eqc.length = 110 := by rw [hE]; simp only [length_putv, hlqb]
    have qc_2 : ev eqc (.tmp 2) = .t (tInts f) := by rw [hE]; simp only [ev_miss, Nat.reduceBEq, qb_2]
    have qc_3 : ev eqc (.tmp 3) = .t (tInts g) := by rw [hE]; simp only [ev_miss, Nat.reduceBEq, qb_3]
    have qc_4 : ev eqc (.tmp 4) = .ptr (s.next) 0 := by rw [hE]; simp only [ev_miss, Nat.reduceBEq, qb_4]
    have qc_5 : ev eqc (.tmp 5) = .ptr (s.next + 1) 0 := by rw [hE]; simp only [ev_miss, Nat.reduceBEq, qb_5]
    have qc_9 : ev eqc (.tmp 9) = .ptr (s.next + 1 + 1) 0 := by rw [hE]; simp only [ev_miss, Nat.reduceBEq, qb_9]
    have qc_10 : ev eqc (.tmp 10) = .t (tInts (sumS a b).2.1) := by rw [hE]; simp only [ev_miss, Nat.reduceBEq, qb_10]
    have qc_11 : ev eqc (.tmp 11) = .t (tInts (sumS a b).2.2.1) := by rw [hE]; simp only [ev_miss, Nat.reduceBEq, qb_11]
    have qc_12 : ev eqc (.tmp 12) = I (sumS a b).2.2.2 := by rw [hE]; simp only [ev_miss, Nat.reduceBEq, qb_12]
    have qc_13 : ev eqc (.tmp 13) = .ptr (s.next + 1 + 1 + 1) 0 := by rw [hE]; simp only [ev_hit, ev_miss, Nat.reduceBEq, length_putv, hlqb, Nat.reduceLT]
    have qc_14 : ev eqc (.tmp 14) = .t (tInts (sumS a b).2.1) := by rw [hE]; simp only [ev_hit, ev_miss, Nat.reduceBEq, length_putv, hlqb, Nat.reduceLT]
    have qc_15 : ev eqc (.tmp 15) = .t (tInts (sumS a b).2.2.1) := by rw [hE]; simp only [ev_hit, ev_miss, Nat.reduceBEq, length_putv, hlqb, Nat.reduceLT]
    have qc_16 : ev eqc (.tmp 16) = I (sumS a b).2.2.2 := by rw [hE]; simp only [ev_hit, length_putv, hlqb, Nat.reduceLT]
    clear hE
    refine vw_st fun sqc hS => ?_
    have qcB0 : sqc.m (s.next) = some (.box 25 [.t (tStrs a.labels), .t (tPairs a.pairs)]) := by rw [hS]; simp only [m_set, m_add, nns, if_false, qbB0, hnqb]
    have qcB1 : sqc.m (s.next + 1) = some (.box 25 [.t (tStrs b.labels), .t (tPairs b.pairs)]) := by rw [hS]; simp only [m_set, m_add, nns, if_false, qbB1, hnqb]
    have qcB2 : sqc.m (s.next + 1 + 1) = some (.box 25 [.t (tStrs (sumS a b).1.labels), .t (tPairs (sumS a b).1.pairs)]) := by rw [hS]; simp only [m_set, m_add, nns, if_false, qbB2, hnqb]
    have qcB3 : sqc.m (s.next + 1 + 1 + 1) = some (.box 25 [.t (tStrs (sumS a b).1.labels), .t (tPairs (sumS a b).1.pairs)]) := by rw [hS]; simp only [m_set, m_add, if_true, hnqb]
    have hnqc : sqc.next = s.next + 1 + 1 + 1 + 1 := by rw [hS]; simp only [n_add, n_set, hnqb]
    have hkqc : ∀ j, j < s.next → sqc.m j = s.m j := fun j hj => by have z0 : ¬ j = s.next := (by omega); have z1 : ¬ j = s.next + 1 := (by omega); have z2 : ¬ j = s.next + 1 + 1 := (by omega); have z3 : ¬ j = s.next + 1 + 1 + 1 := (by omega); rw [hS]; simp only [m_set, m_add, hnqb, z3, if_false, hkqb j hj]
    clear hS
    refine vw_sc 0 [.pur (.tup [vObj (eqS a b f g).1, .t (tInts (eqS a b f g).2.1), I (eqS a b f g).2.2])] ?_
    simp only [bs, Nat.reduceAdd, ↓vopx, ↓vop, Nat.reduceBEq, thenV, Nat.reduceLT, V.cells, dLoad, vpart, hlqc, qc_2, qc_3, qc_4, qc_5, qcB0, qcB1, hnqc, wocs, ↓goc, ↓woc, ↓vopm0, ↓callC, calleeV, Tryd.ag25, Tryd.sz25, Tryd.zv25]
    repeat ((with_reducible refine And.intro ?_ ?_); · exact ⟨Tryd.is28, equal_ a b f g (by omega) (by omega) (by omega) (by omega) (by omega) (by omega)⟩)
    refine hK12 _ _ ?_
    refine vw_seq_k fun K13 hK13 => ?_
    refine vw_en fun eqd hE => ?_
    have hlqd : eqd.length = 110 := by rw [hE]; simp only [length_putv, hlqc]
    have qd_2 : ev eqd (.tmp 2) = .t (tInts f) := by rw [hE]; simp only [ev_miss, Nat.reduceBEq, qc_2]
    have qd_3 : ev eqd (.tmp 3) = .t (tInts g) := by rw [hE]; simp only [ev_miss, Nat.reduceBEq, qc_3]
    have qd_4 : ev eqd (.tmp 4) = .ptr (s.next) 0 := by rw [hE]; simp only [ev_miss, Nat.reduceBEq, qc_4]
    have qd_5 : ev eqd (.tmp 5) = .ptr (s.next + 1) 0 := by rw [hE]; simp only [ev_miss, Nat.reduceBEq, qc_5]
    have qd_9 : ev eqd (.tmp 9) = .ptr (s.next + 1 + 1) 0 := by rw [hE]; simp only [ev_miss, Nat.reduceBEq, qc_9]
    have qd_10 : ev eqd (.tmp 10) = .t (tInts (sumS a b).2.1) := by rw [hE]; simp only [ev_miss, Nat.reduceBEq, qc_10]
    have qd_11 : ev eqd (.tmp 11) = .t (tInts (sumS a b).2.2.1) := by rw [hE]; simp only [ev_miss, Nat.reduceBEq, qc_11]
    have qd_12 : ev eqd (.tmp 12) = I (sumS a b).2.2.2 := by rw [hE]; simp only [ev_miss, Nat.reduceBEq, qc_12]
    have qd_13 : ev eqd (.tmp 13) = .ptr (s.next + 1 + 1 + 1) 0 := by rw [hE]; simp only [ev_miss, Nat.reduceBEq, qc_13]
    have qd_14 : ev eqd (.tmp 14) = .t (tInts (sumS a b).2.1) := by rw [hE]; simp only [ev_miss, Nat.reduceBEq, qc_14]
    have qd_15 : ev eqd (.tmp 15) = .t (tInts (sumS a b).2.2.1) := by rw [hE]; simp only [ev_miss, Nat.reduceBEq, qc_15]
    have qd_16 : ev eqd (.tmp 16) = I (sumS a b).2.2.2 := by rw [hE]; simp only [ev_miss, Nat.reduceBEq, qc_16]
    have qd_17 : ev eqd (.tmp 17) = .ptr (s.next + 1 + 1 + 1 + 1) 0 := by rw [hE]; simp only [ev_hit, ev_miss, Nat.reduceBEq, length_putv, hlqc, Nat.reduceLT]
    have qd_18 : ev eqd (.tmp 18) = .t (tInts (eqS a b f g).2.1) := by rw [hE]; simp only [ev_hit, ev_miss, Nat.reduceBEq, length_putv, hlqc, Nat.reduceLT]
    have qd_19 : ev eqd (.tmp 19) = I (eqS a b f g).2.2 := by rw [hE]; simp only [ev_hit, length_putv, hlqc, Nat.reduceLT]
    clear hE
    refine vw_st fun sqd hS => ?_
    have qdB0 : sqd.m (s.next) = some (.box 25 [.t (tStrs a.labels), .t (tPairs a.pairs)]) := by rw [hS]; simp only [m_set, m_add, nns, if_false, qcB0, hnqc]
    have qdB1 : sqd.m (s.next + 1) = some (.box 25 [.t (tStrs b.labels), .t (tPairs b.pairs)]) := by rw [hS]; simp only [m_set, m_add, nns, if_false, qcB1, hnqc]
    have qdB2 : sqd.m (s.next + 1 + 1) = some (.box 25 [.t (tStrs (sumS a b).1.labels), .t (tPairs (sumS a b).1.pairs)]) := by rw [hS]; simp only [m_set, m_add, nns, if_false, qcB2, hnqc]
    have qdB3 : sqd.m (s.next + 1 + 1 + 1) = some (.box 25 [.t (tStrs (sumS a b).1.labels), .t (tPairs (sumS a b).1.pairs)]) := by rw [hS]; simp only [m_set, m_add, nns, if_false, qcB3, hnqc]
    have qdB4 : sqd.m (s.next + 1 + 1 + 1 + 1) = some (.box 25 [.t (tStrs (eqS a b f g).1.labels), .t (tPairs (eqS a b f g).1.pairs)]) := by rw [hS]; simp only [m_set, m_add, if_true, hnqc]
    have hnqd : sqd.next = s.next + 1 + 1 + 1 + 1 + 1 := by rw [hS]; simp only [n_add, n_set, hnqc]
    have hkqd : ∀ j, j < s.next → sqd.m j = s.m j := fun j hj => by have z0 : ¬ j = s.next := (by omega); have z1 : ¬ j = s.next + 1 := (by omega); have z2 : ¬ j = s.next + 1 + 1 := (by omega); have z3 : ¬ j = s.next + 1 + 1 + 1 := (by omega); have z4 : ¬ j = s.next + 1 + 1 + 1 + 1 := (by omega); rw [hS]; simp only [m_set, m_add, hnqc, z4, if_false, hkqc j hj]
    clear hS
    refine vw_sc 0 [.pur (.tup [vObj (eqS a b f g).1, .t (tInts (eqS a b f g).2.1), I (eqS a b f g).2.2])] ?_
    simp only [bs, Nat.reduceAdd, ↓vopx, ↓vop, Nat.reduceBEq, thenV, Nat.reduceLT, V.cells, dLoad, vpart, hlqd, qd_2, qd_3, qd_4, qd_5, qdB0, qdB1, hnqd, wocs, ↓goc, ↓woc, ↓vopm0, ↓callC, calleeV, Tryd.ag25, Tryd.sz25, Tryd.zv25]
    repeat ((with_reducible refine And.intro ?_ ?_); · exact ⟨Tryd.is29, refEqual_ a b f g (by omega) (by omega) (by omega) (by omega) (by omega) (by omega)⟩)
    refine hK13 _ _ ?_
    refine vw_seq_k fun K14 hK14 => ?_
    refine vw_en fun eqe hE => ?_
    have hlqe : eqe.length = 110 := by rw [hE]; simp only [length_putv, hlqd]
    have qe_2 : ev eqe (.tmp 2) = .t (tInts f) := by rw [hE]; simp only [ev_miss, Nat.reduceBEq, qd_2]
    have qe_3 : ev eqe (.tmp 3) = .t (tInts g) := by rw [hE]; simp only [ev_miss, Nat.reduceBEq, qd_3]
    have qe_4 : ev eqe (.tmp 4) = .ptr (s.next) 0 := by rw [hE]; simp only [ev_miss, Nat.reduceBEq, qd_4]
    have qe_5 : ev eqe (.tmp 5) = .ptr (s.next + 1) 0 := by rw [hE]; simp only [ev_miss, Nat.reduceBEq, qd_5]
    have qe_9 : ev eqe (.tmp 9) = .ptr (s.next + 1 + 1) 0 := by rw [hE]; simp only [ev_miss, Nat.reduceBEq, qd_9]
    have qe_10 : ev eqe (.tmp 10) = .t (tInts (sumS a b).2.1) := by rw [hE]; simp only [ev_miss, Nat.reduceBEq, qd_10]
    have qe_11 : ev eqe (.tmp 11) = .t (tInts (sumS a b).2.2.1) := by rw [hE]; simp only [ev_miss, Nat.reduceBEq, qd_11]
    have qe_12 : ev eqe (.tmp 12) = I (sumS a b).2.2.2 := by rw [hE]; simp only [ev_miss, Nat.reduceBEq, qd_12]
    have qe_13 : ev eqe (.tmp 13) = .ptr (s.next + 1 + 1 + 1) 0 := by rw [hE]; simp only [ev_miss, Nat.reduceBEq, qd_13]
    have qe_14 : ev eqe (.tmp 14) = .t (tInts (sumS a b).2.1) := by rw [hE]; simp only [ev_miss, Nat.reduceBEq, qd_14]
    have qe_15 : ev eqe (.tmp 15) = .t (tInts (sumS a b).2.2.1) := by rw [hE]; simp only [ev_miss, Nat.reduceBEq, qd_15]
    have qe_16 : ev eqe (.tmp 16) = I (sumS a b).2.2.2 := by rw [hE]; simp only [ev_miss, Nat.reduceBEq, qd_16]
    have qe_17 : ev eqe (.tmp 17) = .ptr (s.next + 1 + 1 + 1 + 1) 0 := by rw [hE]; simp only [ev_miss, Nat.reduceBEq, qd_17]
    have qe_18 : ev eqe (.tmp 18) = .t (tInts (eqS a b f g).2.1) := by rw [hE]; simp only [ev_miss, Nat.reduceBEq, qd_18]
    have qe_19 : ev eqe (.tmp 19) = I (eqS a b f g).2.2 := by rw [hE]; simp only [ev_miss, Nat.reduceBEq, qd_19]
    have qe_20 : ev eqe (.tmp 20) = .ptr (s.next + 1 + 1 + 1 + 1 + 1) 0 := by rw [hE]; simp only [ev_hit, ev_miss, Nat.reduceBEq, length_putv, hlqd, Nat.reduceLT]
    have qe_21 : ev eqe (.tmp 21) = .t (tInts (eqS a b f g).2.1) := by rw [hE]; simp only [ev_hit, ev_miss, Nat.reduceBEq, length_putv, hlqd, Nat.reduceLT]
    have qe_22 : ev eqe (.tmp 22) = I (eqS a b f g).2.2 := by rw [hE]; simp only [ev_hit, length_putv, hlqd, Nat.reduceLT]
    clear hE
    refine vw_st fun sqe hS => ?_
    have qeB0 : sqe.m (s.next) = some (.box 25 [.t (tStrs a.labels), .t (tPairs a.pairs)]) := by rw [hS]; simp only [m_set, m_add, nns, if_false, qdB0, hnqd]
    have qeB1 : sqe.m (s.next + 1) = some (.box 25 [.t (tStrs b.labels), .t (tPairs b.pairs)]) := by rw [hS]; simp only [m_set, m_add, nns, if_false, qdB1, hnqd]
    have qeB2 : sqe.m (s.next + 1 + 1) = some (.box 25 [.t (tStrs (sumS a b).1.labels), .t (tPairs (sumS a b).1.pairs)]) := by rw [hS]; simp only [m_set, m_add, nns, if_false, qdB2, hnqd]
    have qeB3 : sqe.m (s.next + 1 + 1 + 1) = some (.box 25 [.t (tStrs (sumS a b).1.labels), .t (tPairs (sumS a b).1.pairs)]) := by rw [hS]; simp only [m_set, m_add, nns, if_false, qdB3, hnqd]
    have qeB4 : sqe.m (s.next + 1 + 1 + 1 + 1) = some (.box 25 [.t (tStrs (eqS a b f g).1.labels), .t (tPairs (eqS a b f g).1.pairs)]) := by rw [hS]; simp only [m_set, m_add, nns, if_false, qdB4, hnqd]
    have qeB5 : sqe.m (s.next + 1 + 1 + 1 + 1 + 1) = some (.box 25 [.t (tStrs (eqS a b f g).1.labels), .t (tPairs (eqS a b f g).1.pairs)]) := by rw [hS]; simp only [m_set, m_add, if_true, hnqd]
    have hnqe : sqe.next = s.next + 1 + 1 + 1 + 1 + 1 + 1 := by rw [hS]; simp only [n_add, n_set, hnqd]
    have hkqe : ∀ j, j < s.next → sqe.m j = s.m j := fun j hj => by have z0 : ¬ j = s.next := (by omega); have z1 : ¬ j = s.next + 1 := (by omega); have z2 : ¬ j = s.next + 1 + 1 := (by omega); have z3 : ¬ j = s.next + 1 + 1 + 1 := (by omega); have z4 : ¬ j = s.next + 1 + 1 + 1 + 1 := (by omega); have z5 : ¬ j = s.next + 1 + 1 + 1 + 1 + 1 := (by omega); rw [hS]; simp only [m_set, m_add, hnqd, z5, if_false, hkqd j hj]
    clear hS
    obtain ⟨u1, u2, u3, u4⟩ := sumS_lim a b
    obtain ⟨w1, w2, w3⟩ := eqS_lim a b f g (by omega)
    refine vw_cut 34 rfl ?_
    refine vl_chunk 0 0 9 25 [(3, 80)] [.pur (Bo true)] (by decide +kernel) (by decide) fun ops' KC hgs hKC => ?_
    have g3_ : gtmp ops' 3 = some 80 := hgs (3, 80) (by simp)
    simp only [bs, Nat.reduceAdd, ↓vopx, ↓vop, Nat.reduceBEq, flat, Nat.reduceLT, dLoad, vpart, opII, hlqe, qe_9, qe_12, qe_13, qe_16, qeB2, qeB3, g3_, wocs, ↓goc, ↓woc, ↓vopm0, ↓callC, ↓pick_tt, calleeV, Tryd.ag25, Tryd.sz25, beq_self_eq_true]
    repeat ((with_reducible refine And.intro ?_ ?_); · exact ⟨Tryd.is24, same_self (sumS a b).1 (by omega) (by omega)⟩)
    refine hKC _ _ ?_
    clear g3_
    clear hgs hKC KC ops'
    refine vl_env fun e9_0 hE => ?_
    have hl9_0 : e9_0.length = 110 := by rw [hE]; simp only [length_putv, hlqe]
    have r1_9 : ev e9_0 (.tmp 9) = .ptr (s.next + 1 + 1) 0 := by rw [hE]; simp only [ev_miss, Nat.reduceBEq, qe_9]
    have r1_10 : ev e9_0 (.tmp 10) = .t (tInts (sumS a b).2.1) := by rw [hE]; simp only [ev_miss, Nat.reduceBEq, qe_10]
    have r1_11 : ev e9_0 (.tmp 11) = .t (tInts (sumS a b).2.2.1) := by rw [hE]; simp only [ev_miss, Nat.reduceBEq, qe_11]
    have r1_12 : ev e9_0 (.tmp 12) = I (sumS a b).2.2.2 := by rw [hE]; simp only [ev_miss, Nat.reduceBEq, qe_12]
    have r1_13 : ev e9_0 (.tmp 13) = .ptr (s.next + 1 + 1 + 1) 0 := by rw [hE]; simp only [ev_miss, Nat.reduceBEq, qe_13]
    have r1_14 : ev e9_0 (.tmp 14) = .t (tInts (sumS a b).2.1) := by rw [hE]; simp only [ev_miss, Nat.reduceBEq, qe_14]
    have r1_15 : ev e9_0 (.tmp 15) = .t (tInts (sumS a b).2.2.1) := by rw [hE]; simp only [ev_miss, Nat.reduceBEq, qe_15]
    have r1_16 : ev e9_0 (.tmp 16) = I (sumS a b).2.2.2 := by rw [hE]; simp only [ev_miss, Nat.reduceBEq, qe_16]
    have r1_17 : ev e9_0 (.tmp 17) = .ptr (s.next + 1 + 1 + 1 + 1) 0 := by rw [hE]; simp only [ev_miss, Nat.reduceBEq, qe_17]
    have r1_18 : ev e9_0 (.tmp 18) = .t (tInts (eqS a b f g).2.1) := by rw [hE]; simp only [ev_miss, Nat.reduceBEq, qe_18]
    have r1_19 : ev e9_0 (.tmp 19) = I (eqS a b f g).2.2 := by rw [hE]; simp only [ev_miss, Nat.reduceBEq, qe_19]
    have r1_20 : ev e9_0 (.tmp 20) = .ptr (s.next + 1 + 1 + 1 + 1 + 1) 0 := by rw [hE]; simp only [ev_miss, Nat.reduceBEq, qe_20]
    have r1_21 : ev e9_0 (.tmp 21) = .t (tInts (eqS a b f g).2.1) := by rw [hE]; simp only [ev_miss, Nat.reduceBEq, qe_21]
    have r1_22 : ev e9_0 (.tmp 22) = I (eqS a b f g).2.2 := by rw [hE]; simp only [ev_miss, Nat.reduceBEq, qe_22]
    have r1_g : ev e9_0 (.tmp 85) = Bo true := by rw [hE]; simp only [ev_hit, length_putv, hlqe, Nat.reduceLT]
    clear hE
    refine vl_chunk 0 9 5 20 [(8, 85)] [.pur (Bo true)] (by decide +kernel) (by decide) fun ops' KC hgs hKC => ?_
    have g8_ : gtmp ops' 8 = some 85 := hgs (8, 85) (by simp)
    simp only [bs, ↓vopx, ↓vop, Nat.reduceBEq, flat, Nat.reduceLT, hl9_0, r1_10, r1_14, r1_g, g8_, wocs, ↓goc, ↓woc, ↓vopm0, ↓callC, ↓pick_tt, calleeV]
    repeat ((with_reducible refine And.intro ?_ ?_); · exact ⟨Tryd.is25, alike_self (sumS a b).2.1 (by omega)⟩)
    refine hKC _ _ ?_
    clear g8_
    clear hgs hKC KC ops'
    refine vl_env fun e9_1 hE => ?_
    have hl9_1 : e9_1.length = 110 := by rw [hE]; simp only [length_putv, hl9_0]
    have r2_9 : ev e9_1 (.tmp 9) = .ptr (s.next + 1 + 1) 0 := by rw [hE]; simp only [ev_miss, Nat.reduceBEq, r1_9]
    have r2_10 : ev e9_1 (.tmp 10) = .t (tInts (sumS a b).2.1) := by rw [hE]; simp only [ev_miss, Nat.reduceBEq, r1_10]
    have r2_11 : ev e9_1 (.tmp 11) = .t (tInts (sumS a b).2.2.1) := by rw [hE]; simp only [ev_miss, Nat.reduceBEq, r1_11]
    have r2_12 : ev e9_1 (.tmp 12) = I (sumS a b).2.2.2 := by rw [hE]; simp only [ev_miss, Nat.reduceBEq, r1_12]
    have r2_13 : ev e9_1 (.tmp 13) = .ptr (s.next + 1 + 1 + 1) 0 := by rw [hE]; simp only [ev_miss, Nat.reduceBEq, r1_13]
    have r2_14 : ev e9_1 (.tmp 14) = .t (tInts (sumS a b).2.1) := by rw [hE]; simp only [ev_miss, Nat.reduceBEq, r1_14]
    have r2_15 : ev e9_1 (.tmp 15) = .t (tInts (sumS a b).2.2.1) := by rw [hE]; simp only [ev_miss, Nat.reduceBEq, r1_15]
    have r2_16 : ev e9_1 (.tmp 16) = I (sumS a b).2.2.2 := by rw [hE]; simp only [ev_miss, Nat.reduceBEq, r1_16]
    have r2_17 : ev e9_1 (.tmp 17) = .ptr (s.next + 1 + 1 + 1 + 1) 0 := by rw [hE]; simp only [ev_miss, Nat.reduceBEq, r1_17]
    have r2_18 : ev e9_1 (.tmp 18) = .t (tInts (eqS a b f g).2.1) := by rw [hE]; simp only [ev_miss, Nat.reduceBEq, r1_18]
    have r2_19 : ev e9_1 (.tmp 19) = I (eqS a b f g).2.2 := by rw [hE]; simp only [ev_miss, Nat.reduceBEq, r1_19]
    have r2_20 : ev e9_1 (.tmp 20) = .ptr (s.next + 1 + 1 + 1 + 1 + 1) 0 := by rw [hE]; simp only [ev_miss, Nat.reduceBEq, r1_20]
    have r2_21 : ev e9_1 (.tmp 21) = .t (tInts (eqS a b f g).2.1) := by rw [hE]; simp only [ev_miss, Nat.reduceBEq, r1_21]
    have r2_22 : ev e9_1 (.tmp 22) = I (eqS a b f g).2.2 := by rw [hE]; simp only [ev_miss, Nat.reduceBEq, r1_22]
    have r2_g : ev e9_1 (.tmp 90) = Bo true := by rw [hE]; simp only [ev_hit, length_putv, hl9_0, Nat.reduceLT]
    clear hE
    refine vl_chunk 0 14 5 15 [(13, 90)] [.pur (Bo true)] (by decide +kernel) (by decide) fun ops' KC hgs hKC => ?_
    have g13_ : gtmp ops' 13 = some 90 := hgs (13, 90) (by simp)
    simp only [bs, ↓vopx, ↓vop, Nat.reduceBEq, flat, Nat.reduceLT, hl9_1, r2_11, r2_15, r2_g, g13_, wocs, ↓goc, ↓woc, ↓vopm0, ↓callC, ↓pick_tt, calleeV]
    repeat ((with_reducible refine And.intro ?_ ?_); · exact ⟨Tryd.is25, alike_self (sumS a b).2.2.1 (by omega)⟩)
    refine hKC _ _ ?_
    clear g13_
    clear hgs hKC KC ops'
    refine vl_env fun e9_2 hE => ?_
    have hl9_2 : e9_2.length = 110 := by rw [hE]; simp only [length_putv, hl9_1]
    have r3_9 : ev e9_2 (.tmp 9) = .ptr (s.next + 1 + 1) 0 := by rw [hE]; simp only [ev_miss, Nat.reduceBEq, r2_9]
    have r3_10 : ev e9_2 (.tmp 10) = .t (tInts (sumS a b).2.1) := by rw [hE]; simp only [ev_miss, Nat.reduceBEq, r2_10]
    have r3_11 : ev e9_2 (.tmp 11) = .t (tInts (sumS a b).2.2.1) := by rw [hE]; simp only [ev_miss, Nat.reduceBEq, r2_11]
    have r3_12 : ev e9_2 (.tmp 12) = I (sumS a b).2.2.2 := by rw [hE]; simp only [ev_miss, Nat.reduceBEq, r2_12]
    have r3_13 : ev e9_2 (.tmp 13) = .ptr (s.next + 1 + 1 + 1) 0 := by rw [hE]; simp only [ev_miss, Nat.reduceBEq, r2_13]
    have r3_14 : ev e9_2 (.tmp 14) = .t (tInts (sumS a b).2.1) := by rw [hE]; simp only [ev_miss, Nat.reduceBEq, r2_14]
    have r3_15 : ev e9_2 (.tmp 15) = .t (tInts (sumS a b).2.2.1) := by rw [hE]; simp only [ev_miss, Nat.reduceBEq, r2_15]
    have r3_16 : ev e9_2 (.tmp 16) = I (sumS a b).2.2.2 := by rw [hE]; simp only [ev_miss, Nat.reduceBEq, r2_16]
    have r3_17 : ev e9_2 (.tmp 17) = .ptr (s.next + 1 + 1 + 1 + 1) 0 := by rw [hE]; simp only [ev_miss, Nat.reduceBEq, r2_17]
    have r3_18 : ev e9_2 (.tmp 18) = .t (tInts (eqS a b f g).2.1) := by rw [hE]; simp only [ev_miss, Nat.reduceBEq, r2_18]
    have r3_19 : ev e9_2 (.tmp 19) = I (eqS a b f g).2.2 := by rw [hE]; simp only [ev_miss, Nat.reduceBEq, r2_19]
    have r3_20 : ev e9_2 (.tmp 20) = .ptr (s.next + 1 + 1 + 1 + 1 + 1) 0 := by rw [hE]; simp only [ev_miss, Nat.reduceBEq, r2_20]
    have r3_21 : ev e9_2 (.tmp 21) = .t (tInts (eqS a b f g).2.1) := by rw [hE]; simp only [ev_miss, Nat.reduceBEq, r2_21]
    have r3_22 : ev e9_2 (.tmp 22) = I (eqS a b f g).2.2 := by rw [hE]; simp only [ev_miss, Nat.reduceBEq, r2_22]
    have r3_g : ev e9_2 (.tmp 95) = Bo true := by rw [hE]; simp only [ev_hit, length_putv, hl9_1, Nat.reduceLT]
    clear hE
    refine vl_chunk 0 19 5 10 [(18, 95)] [] (by decide +kernel) (by decide) fun ops' KC hgs hKC => ?_
    have g18_ : gtmp ops' 18 = some 95 := hgs (18, 95) (by simp)
    simp only [bs, ↓vopx, ↓vop, Nat.reduceBEq, flat, Nat.reduceLT, opII, hl9_2, r3_19, r3_22, r3_g, g18_, wocs, ↓goc, ↓woc, ↓vopm0, ↓pick_tt, beq_self_eq_true]
    refine hKC _ _ ?_
    clear g18_
    clear hgs hKC KC ops'
    refine vl_env fun e9_3 hE => ?_
    have hl9_3 : e9_3.length = 110 := by rw [hE]; simp only [length_putv, hl9_2]
    have r4_9 : ev e9_3 (.tmp 9) = .ptr (s.next + 1 + 1) 0 := by rw [hE]; simp only [ev_miss, Nat.reduceBEq, r3_9]
    have r4_10 : ev e9_3 (.tmp 10) = .t (tInts (sumS a b).2.1) := by rw [hE]; simp only [ev_miss, Nat.reduceBEq, r3_10]
    have r4_11 : ev e9_3 (.tmp 11) = .t (tInts (sumS a b).2.2.1) := by rw [hE]; simp only [ev_miss, Nat.reduceBEq, r3_11]
    have r4_12 : ev e9_3 (.tmp 12) = I (sumS a b).2.2.2 := by rw [hE]; simp only [ev_miss, Nat.reduceBEq, r3_12]
    have r4_13 : ev e9_3 (.tmp 13) = .ptr (s.next + 1 + 1 + 1) 0 := by rw [hE]; simp only [ev_miss, Nat.reduceBEq, r3_13]
    have r4_14 : ev e9_3 (.tmp 14) = .t (tInts (sumS a b).2.1) := by rw [hE]; simp only [ev_miss, Nat.reduceBEq, r3_14]
    have r4_15 : ev e9_3 (.tmp 15) = .t (tInts (sumS a b).2.2.1) := by rw [hE]; simp only [ev_miss, Nat.reduceBEq, r3_15]
    have r4_16 : ev e9_3 (.tmp 16) = I (sumS a b).2.2.2 := by rw [hE]; simp only [ev_miss, Nat.reduceBEq, r3_16]
    have r4_17 : ev e9_3 (.tmp 17) = .ptr (s.next + 1 + 1 + 1 + 1) 0 := by rw [hE]; simp only [ev_miss, Nat.reduceBEq, r3_17]
    have r4_18 : ev e9_3 (.tmp 18) = .t (tInts (eqS a b f g).2.1) := by rw [hE]; simp only [ev_miss, Nat.reduceBEq, r3_18]
    have r4_19 : ev e9_3 (.tmp 19) = I (eqS a b f g).2.2 := by rw [hE]; simp only [ev_miss, Nat.reduceBEq, r3_19]
    have r4_20 : ev e9_3 (.tmp 20) = .ptr (s.next + 1 + 1 + 1 + 1 + 1) 0 := by rw [hE]; simp only [ev_miss, Nat.reduceBEq, r3_20]
    have r4_21 : ev e9_3 (.tmp 21) = .t (tInts (eqS a b f g).2.1) := by rw [hE]; simp only [ev_miss, Nat.reduceBEq, r3_21]
    have r4_22 : ev e9_3 (.tmp 22) = I (eqS a b f g).2.2 := by rw [hE]; simp only [ev_miss, Nat.reduceBEq, r3_22]
    have r4_g : ev e9_3 (.tmp 100) = Bo true := by rw [hE]; simp only [ev_hit, length_putv, hl9_2, Nat.reduceLT]
    clear hE
    refine vl_chunk 0 24 5 5 [(23, 100)] [.pur (Bo true)] (by decide +kernel) (by decide) fun ops' KC hgs hKC => ?_
    have g23_ : gtmp ops' 23 = some 100 := hgs (23, 100) (by simp)
    simp only [bs, Nat.reduceAdd, ↓vopx, ↓vop, Nat.reduceBEq, flat, Nat.reduceLT, dLoad, vpart, hl9_3, r4_17, r4_20, r4_g, qeB4, qeB5, g23_, wocs, ↓goc, ↓woc, ↓vopm0, ↓callC, ↓pick_tt, calleeV, Tryd.ag25, Tryd.sz25]
    repeat ((with_reducible refine And.intro ?_ ?_); · exact ⟨Tryd.is24, same_self (eqS a b f g).1 (by omega) (by omega)⟩)
    refine hKC _ _ ?_
    clear g23_
    clear hgs hKC KC ops'
    refine vl_env fun e9_4 hE => ?_
    have hl9_4 : e9_4.length = 110 := by rw [hE]; simp only [length_putv, hl9_3]
    have r5_9 : ev e9_4 (.tmp 9) = .ptr (s.next + 1 + 1) 0 := by rw [hE]; simp only [ev_miss, Nat.reduceBEq, r4_9]
    have r5_10 : ev e9_4 (.tmp 10) = .t (tInts (sumS a b).2.1) := by rw [hE]; simp only [ev_miss, Nat.reduceBEq, r4_10]
    have r5_11 : ev e9_4 (.tmp 11) = .t (tInts (sumS a b).2.2.1) := by rw [hE]; simp only [ev_miss, Nat.reduceBEq, r4_11]
    have r5_12 : ev e9_4 (.tmp 12) = I (sumS a b).2.2.2 := by rw [hE]; simp only [ev_miss, Nat.reduceBEq, r4_12]
    have r5_13 : ev e9_4 (.tmp 13) = .ptr (s.next + 1 + 1 + 1) 0 := by rw [hE]; simp only [ev_miss, Nat.reduceBEq, r4_13]
    have r5_14 : ev e9_4 (.tmp 14) = .t (tInts (sumS a b).2.1) := by rw [hE]; simp only [ev_miss, Nat.reduceBEq, r4_14]
    have r5_15 : ev e9_4 (.tmp 15) = .t (tInts (sumS a b).2.2.1) := by rw [hE]; simp only [ev_miss, Nat.reduceBEq, r4_15]
    have r5_16 : ev e9_4 (.tmp 16) = I (sumS a b).2.2.2 := by rw [hE]; simp only [ev_miss, Nat.reduceBEq, r4_16]
    have r5_17 : ev e9_4 (.tmp 17) = .ptr (s.next + 1 + 1 + 1 + 1) 0 := by rw [hE]; simp only [ev_miss, Nat.reduceBEq, r4_17]
    have r5_18 : ev e9_4 (.tmp 18) = .t (tInts (eqS a b f g).2.1) := by rw [hE]; simp only [ev_miss, Nat.reduceBEq, r4_18]
    have r5_19 : ev e9_4 (.tmp 19) = I (eqS a b f g).2.2 := by rw [hE]; simp only [ev_miss, Nat.reduceBEq, r4_19]
    have r5_20 : ev e9_4 (.tmp 20) = .ptr (s.next + 1 + 1 + 1 + 1 + 1) 0 := by rw [hE]; simp only [ev_miss, Nat.reduceBEq, r4_20]
    have r5_21 : ev e9_4 (.tmp 21) = .t (tInts (eqS a b f g).2.1) := by rw [hE]; simp only [ev_miss, Nat.reduceBEq, r4_21]
    have r5_22 : ev e9_4 (.tmp 22) = I (eqS a b f g).2.2 := by rw [hE]; simp only [ev_miss, Nat.reduceBEq, r4_22]
    have r5_g : ev e9_4 (.tmp 105) = Bo true := by rw [hE]; simp only [ev_hit, length_putv, hl9_3, Nat.reduceLT]
    clear hE
    refine vl_chunk 0 29 5 0 [(28, 105)] [.pur (Bo true)] (by decide +kernel) (by decide) fun ops' KC hgs hKC => ?_
    have g28_ : gtmp ops' 28 = some 105 := hgs (28, 105) (by simp)
    simp only [bs, ↓vopx, ↓vop, Nat.reduceBEq, flat, Nat.reduceLT, hl9_4, r5_18, r5_21, r5_g, g28_, wocs, ↓goc, ↓woc, ↓vopm0, ↓callC, ↓pick_tt, calleeV]
    repeat ((with_reducible refine And.intro ?_ ?_); · exact ⟨Tryd.is25, alike_self (eqS a b f g).2.1 (by omega)⟩)
    refine hKC _ _ ?_
    clear g28_
    clear hgs hKC KC ops'
    refine vl_nil ?_
    try simp only [thenV]
    refine hK14 _ _ ?_
    refine vw_ret ?_
    refine hQ _ _ _ (.inr rfl) (done_tmp ?_ fun n b hn h => (hkqe n hn).trans h)
    try simp only [ev_hit, length_putv, hl9_4, Nat.reduceLT]

end Go.Proofs

open Go Go.V
namespace Go.Proofs

set_option maxRecDepth 20000 in
set_option maxHeartbeats 8000000 in
theorem lawPush_ (a b c : Ob) (f g : List Int) (ha1 : a.labels.length ≤ 9223372036854775807) (ha2 : a.pairs.length ≤ 9223372036854775807) (hb1 : b.labels.length ≤ 9223372036854775807) (hb2 : b.pairs.length ≤ 9223372036854775807) (hc1 : c.labels.length ≤ 9223372036854775807) (hc2 : c.pairs.length ≤ 9223372036854775807) : PCall Tryd.prog 3 [vObj a, vObj b, vObj c, .t (tInts f), .t (tInts g)] (Bo true) := by
  refine pcall_of_body Tryd.func3 rfl fun s Q hQ => ?_
  obtain ⟨e, he, hl, h0, h1, h2, h3, h4⟩ : ∃ e : Env, ([vObj a, vObj b, vObj c, .t (tInts f), .t (tInts g)] ++ List.replicate (Tryd.f3.ntmps - ([vObj a, vObj b, vObj c, .t (tInts f), .t (tInts g)] : List V).length) .junk) = e ∧ e.length = 84 ∧ ev e (.tmp 0) = vObj a ∧ ev e (.tmp 1) = vObj b ∧ ev e (.tmp 2) = vObj c ∧ ev e (.tmp 3) = .t (tInts f) ∧ ev e (.tmp 4) = .t (tInts g) := ⟨_, rfl, rfl, rfl, rfl, rfl, rfl, rfl⟩
  rw [he]
  clear he
  refine vw_seq_k fun K1 hK1 => ?_
  refine vw_sc 0 [] ?_
  simp only [bs, ↓vopx, ↓vop, Nat.reduceBEq, thenV, flat, V.cells, h0, h1, h2, wocs, ↓goc, ↓woc, ↓vopm0]
  refine hK1 _ _ ?_
  refine vw_seq_k fun K2 hK2 => ?_
  refine vw_seq_k fun K3 hK3 => ?_
  refine vw_sc 0 [.pur (Bo true)] ?_
  simp only [bs, ↓vopx, ↓vop, thenV, Nat.reduceLT, hl, wocs, ↓goc, ↓woc, ↓vopm0, ↓callC, calleeV]
  repeat ((with_reducible refine And.intro ?_ ?_); · exact ⟨Tryd.is20, known7_⟩)
  refine hK3 _ _ ?_
  refine vw_cond_k fun A B hA hB => ?_
  simp only [condV, ev_hit, length_putv, Nat.reduceLT, true_implies, reduceCtorEq, false_implies, true_and, hl]
  refine hB ?_
  clear hA hB A B
  refine vw_skip ?_
  refine hK2 _ _ ?_
  refine vw_seq_k fun K4 hK4 => ?_
  refine vw_seq_k fun K5 hK5 => ?_
  rcases (show fewS a = false ∨ (fewS a = true ∧ (fewS b = false ∨ (fewS b = true ∧ (fewS c = false ∨ (fewS c = true ∧ ((f.length : Int) > 60 ∨ (¬ (f.length : Int) > 60 ∧ ((g.length : Int) > 60 ∨ ¬ (g.length : Int) > 60)))))))) by cases fewS a <;> cases fewS b <;> cases fewS c <;> simp <;> omega) with hfa | ⟨hfa, hfb | ⟨hfb, hfc | ⟨hfc, hlf | ⟨hlf, hlg | hlg⟩⟩⟩⟩
  · refine vw_sc 0 [.pur (Bo (fewS a))] ?_
    simp only [bs, Nat.reduceAdd, ↓vopx, ↓vop, Nat.reduceBEq, thenV, flat, Nat.reduceLT, dLoad, vpart, gtmp, hl, wocs, ↓goc, ↓woc, ↓vopm0, ↓callC, ↓pick_tf, calleeV, Tryd.ag25, Tryd.sz25, nns, hfa]
    repeat ((with_reducible refine And.intro ?_ ?_); · exact ⟨Tryd.is21, by simpa only [hfa] using few7_ a (by omega) (by omega)⟩)
    refine hK5 _ _ ?_
    refine vw_cond_k fun A B hA hB => ?_
    simp only [condV, ev_hit, length_putv, Nat.reduceLT, true_implies, reduceCtorEq, false_implies, and_true, hl]
    refine hA ?_
    clear hA hB A B
    refine vw_seq_k fun K6 hK6 => ?_
    refine vw_sc 0 [] ?_
    simp only [bs, ↓vopx, ↓vop, thenV, flat, wocs, ↓goc, ↓woc, ↓vopm0]
    refine hK6 _ _ ?_
    refine vw_ret ?_
    refine hQ _ _ _ (.inr rfl) (done_tmp ?_ fun n b hn h => by simp [Sg.add, show n ≠ s.next by omega, show n ≠ s.next + 1 by omega, show n ≠ s.next + 1 + 1 by omega, h])
    try simp only [ev_hit, length_putv, hl, Nat.reduceLT]
  · refine vw_sc 0 [.pur (Bo (fewS a)), .pur (Bo (fewS b))] ?_
    simp only [bs, Nat.reduceAdd, ↓vopx, ↓vop, Nat.reduceBEq, thenV, flat, Nat.reduceLT, dLoad, vpart, gtmp, hl, wocs, ↓goc, ↓woc, ↓vopm0, ↓callC, ↓pick_ff, ↓pick_tf, calleeV, Tryd.ag25, Tryd.sz25, nns, hfa, hfb]
    repeat ((with_reducible refine And.intro ?_ ?_); · first | exact ⟨Tryd.is21, by simpa only [hfa] using few7_ a (by omega) (by omega)⟩ | exact ⟨Tryd.is21, by simpa only [hfb] using few7_ b (by omega) (by omega)⟩)
    refine hK5 _ _ ?_
    refine vw_cond_k fun A B hA hB => ?_
    simp only [condV, ev_hit, length_putv, Nat.reduceLT, true_implies, reduceCtorEq, false_implies, and_true, hl]
    refine hA ?_
    clear hA hB A B
    refine vw_seq_k fun K7 hK7 => ?_
    refine vw_sc 0 [] ?_
    simp only [bs, ↓vopx, ↓vop, thenV, flat, wocs, ↓goc, ↓woc, ↓vopm0]
    refine hK7 _ _ ?_
    refine vw_ret ?_
    refine hQ _ _ _ (.inr rfl) (done_tmp ?_ fun n b hn h => by simp [Sg.add, show n ≠ s.next by omega, show n ≠ s.next + 1 by omega, show n ≠ s.next + 1 + 1 by omega, h])
    try simp only [ev_hit, length_putv, hl, Nat.reduceLT]
  · refine vw_sc 0 [.pur (Bo (fewS a)), .pur (Bo (fewS b)), .pur (Bo (fewS c))] ?_
    simp only [bs, Nat.reduceAdd, ↓vopx, ↓vop, Nat.reduceBEq, thenV, flat, Nat.reduceLT, dLoad, vpart, gtmp, hl, wocs, ↓goc, ↓woc, ↓vopm0, ↓callC, ↓pick_ff, ↓pick_tf, calleeV, Tryd.ag25, Tryd.sz25, nns, hfa, hfb, hfc]
    repeat ((with_reducible refine And.intro ?_ ?_); · first | exact ⟨Tryd.is21, by simpa only [hfa] using few7_ a (by omega) (by omega)⟩ | exact ⟨Tryd.is21, by simpa only [hfb] using few7_ b (by omega) (by omega)⟩ | exact ⟨Tryd.is21, by simpa only [hfc] using few7_ c (by omega) (by omega)⟩)
    refine hK5 _ _ ?_
    refine vw_cond_k fun A B hA hB => ?_
    simp only [condV, ev_hit, length_putv, Nat.reduceLT, true_implies, reduceCtorEq, false_implies, and_true, hl]
    refine hA ?_
    clear hA hB A B
    refine vw_seq_k fun K8 hK8 => ?_
    refine vw_sc 0 [] ?_
    simp only [bs, ↓vopx, ↓vop, thenV, flat, wocs, ↓goc, ↓woc, ↓vopm0]
    refine hK8 _ _ ?_
    refine vw_ret ?_
    refine hQ _ _ _ (.inr rfl) (done_tmp ?_ fun n b hn h => by simp [Sg.add, show n ≠ s.next by omega, show n ≠ s.next + 1 by omega, show n ≠ s.next + 1 + 1 by omega, h])
    try simp only [ev_hit, length_putv, hl, Nat.reduceLT]
  · refine vw_sc 0 [.pur (Bo (fewS a)), .pur (Bo (fewS b)), .pur (Bo (fewS c))] ?_
    simp only [bs, Nat.reduceAdd, ↓vopx, ↓vop, Nat.reduceBEq, thenV, flat, Nat.reduceLT, dLoad, vpart, opII, gtmp, hl, h3, wocs, ↓goc, ↓woc, ↓vopm0, ↓callC, ↓pick_ff, ↓pick_tf, calleeV, Tryd.ag25, Tryd.sz25, nns, len_tInts, Tryd.underlying26, hfa, hfb, hfc, hlf]
    repeat ((with_reducible refine And.intro ?_ ?_); · first | exact ⟨Tryd.is21, by simpa only [hfa] using few7_ a (by omega) (by omega)⟩ | exact ⟨Tryd.is21, by simpa only [hfb] using few7_ b (by omega) (by omega)⟩ | exact ⟨Tryd.is21, by simpa only [hfc] using few7_ c (by omega) (by omega)⟩)
    refine hK5 _ _ ?_
    refine vw_cond_k fun A B hA hB => ?_
    simp only [condV, ev_hit, length_putv, Nat.reduceLT, true_implies, reduceCtorEq, false_implies, and_true, hl]
    refine hA ?_
    clear hA hB A B
    refine vw_seq_k fun K9 hK9 => ?_
    refine vw_sc 0 [] ?_
    simp only [bs, ↓vopx, ↓vop, thenV, flat, wocs, ↓goc, ↓woc, ↓vopm0]
    refine hK9 _ _ ?_
    refine vw_ret ?_
    refine hQ _ _ _ (.inr rfl) (done_tmp ?_ fun n b hn h => by simp [Sg.add, show n ≠ s.next by omega, show n ≠ s.next + 1 by omega, show n ≠ s.next + 1 + 1 by omega, h])
    try simp only [ev_hit, length_putv, hl, Nat.reduceLT]
  · refine vw_sc 0 [.pur (Bo (fewS a)), .pur (Bo (fewS b)), .pur (Bo (fewS c))] ?_
    simp only [bs, Nat.reduceAdd, ↓vopx, ↓vop, Nat.reduceBEq, thenV, flat, Nat.reduceLT, dLoad, vpart, opII, gtmp, hl, h3, h4, wocs, ↓goc, ↓woc, ↓vopm0, ↓callC, ↓pick_ff, calleeV, Tryd.ag25, Tryd.sz25, nns, len_tInts, Tryd.underlying26, hfa, hfb, hfc, hlf, hlg]
    repeat ((with_reducible refine And.intro ?_ ?_); · first | exact ⟨Tryd.is21, by simpa only [hfa] using few7_ a (by omega) (by omega)⟩ | exact ⟨Tryd.is21, by simpa only [hfb] using few7_ b (by omega) (by omega)⟩ | exact ⟨Tryd.is21, by simpa only [hfc] using few7_ c (by omega) (by omega)⟩)
    refine hK5 _ _ ?_
    refine vw_cond_k fun A B hA hB => ?_
    simp only [condV, ev_hit, length_putv, Nat.reduceLT, true_implies, reduceCtorEq, false_implies, and_true, hl]
    refine hA ?_
    clear hA hB A B
    refine vw_seq_k fun K10 hK10 => ?_
    refine vw_sc 0 [] ?_
    simp only [bs, ↓vopx, ↓vop, thenV, flat, wocs, ↓goc, ↓woc, ↓vopm0]
    refine hK10 _ _ ?_
    refine vw_ret ?_
    refine hQ _ _ _ (.inr rfl) (done_tmp ?_ fun n b hn h => by simp [Sg.add, show n ≠ s.next by omega, show n ≠ s.next + 1 by omega, show n ≠ s.next + 1 + 1 by omega, h])
    try simp only [ev_hit, length_putv, hl, Nat.reduceLT]
  · refine vw_sc 0 [.pur (Bo (fewS a)), .pur (Bo (fewS b)), .pur (Bo (fewS c))] ?_
    simp only [bs, Nat.reduceAdd, ↓vopx, ↓vop, Nat.reduceBEq, thenV, flat, Nat.reduceLT, dLoad, vpart, opII, gtmp, hl, h3, h4, wocs, ↓goc, ↓woc, ↓vopm0, ↓callC, ↓pick_ff, calleeV, Tryd.ag25, Tryd.sz25, nns, len_tInts, Tryd.underlying26, hfa, hfb, hfc, hlf, hlg]
    repeat ((with_reducible refine And.intro ?_ ?_); · first | exact ⟨Tryd.is21, by simpa only [hfa] using few7_ a (by omega) (by omega)⟩ | exact ⟨Tryd.is21, by simpa only [hfb] using few7_ b (by omega) (by omega)⟩ | exact ⟨Tryd.is21, by simpa only [hfc] using few7_ c (by omega) (by omega)⟩)
    refine hK5 _ _ ?_
    refine vw_cond_k fun A B hA hB => ?_
    simp only [condV, ev_hit, length_putv, Nat.reduceLT, true_implies, reduceCtorEq, false_implies, true_and, hl]
    refine hB ?_
    clear hA hB A B
    refine vw_skip ?_
    refine hK4 _ _ ?_
    refine vw_seq_k fun K11 hK11 => ?_
    refine vw_en fun eqa hE => ?_
    have hlqa : eqa.length = 84 := by rw [hE]; simp only [length_putv, hl]
    have qa_3 : ev eqa (.tmp 3) = .t (tInts f) := by rw [hE]; simp only [ev_miss, Nat.reduceBEq, h3]
    have qa_4 : ev eqa (.tmp 4) = .t (tInts g) := by rw [hE]; simp only [ev_miss, Nat.reduceBEq, h4]
    have qa_5 : ev eqa (.tmp 5) = .ptr (s.next) 0 := by rw [hE]; simp only [ev_hit, ev_miss, Nat.reduceBEq, hl, Nat.reduceLT]
    have qa_6 : ev eqa (.tmp 6) = .ptr (s.next + 1) 0 := by rw [hE]; simp only [ev_hit, ev_miss, Nat.reduceBEq, length_putv, hl, Nat.reduceLT]
    have qa_7 : ev eqa (.tmp 7) = .ptr (s.next + 1 + 1) 0 := by rw [hE]; simp only [ev_hit, ev_miss, Nat.reduceBEq, length_putv, hl, Nat.reduceLT]
    clear hE
    refine vw_st fun sqa hS => ?_
    have qaB0 : sqa.m (s.next) = some (.box 25 [.t (tStrs a.labels), .t (tPairs a.pairs)]) := by rw [hS]; simp only [m_add, n_add, nns, if_true, if_false, ]
    have qaB1 : sqa.m (s.next + 1) = some (.box 25 [.t (tStrs b.labels), .t (tPairs b.pairs)]) := by rw [hS]; simp only [m_add, n_add, nns, if_true, if_false, ]
    have qaB2 : sqa.m (s.next + 1 + 1) = some (.box 25 [.t (tStrs c.labels), .t (tPairs c.pairs)]) := by rw [hS]; simp only [m_add, n_add, nns, if_true, if_false, ]
    have hnqa : sqa.next = s.next + 1 + 1 + 1 := by rw [hS]; simp only [n_add, ]
    have hkqa : ∀ j, j < s.next → sqa.m j = s.m j := fun j hj => by have z0 : ¬ j = s.next := (by omega); have z1 : ¬ j = s.next + 1 := (by omega); have z2 : ¬ j = s.next + 1 + 1 := (by omega); rw [hS]; simp only [m_add, n_add, z0, z1, z2, if_false]
    clear hS
    have ba := few_le hfa
    have bb := few_le hfb
    have bc := few_le hfc
    refine vw_sc 0 [.pur (.tup [vObj (pushR a b c f g).1, .t (tInts (pushR a b c f g).2.1), .t (tInts (pushR a b c f g).2.2.1), I (pushR a b c f g).2.2.2])] ?_
    simp only [bs, Nat.reduceAdd, ↓vopx, ↓vop, Nat.reduceBEq, thenV, Nat.reduceLT, V.cells, dLoad, vpart, hlqa, qa_3, qa_4, qa_5, qa_6, qa_7, qaB0, qaB1, qaB2, hnqa, wocs, ↓goc, ↓woc, ↓vopm0, ↓callC, calleeV, Tryd.ag25, Tryd.sz25, Tryd.zv25]
    repeat ((with_reducible refine And.intro ?_ ?_); · exact ⟨Tryd.is22, by have := push_ a b c f g (by omega) (by omega) (by omega) (by omega) (by omega) (by omega) (by omega) (by omega); rw [pushS_eq] at this; exact this⟩)
    refine hK11 _ _ ?_
    refine vw_seq_k fun K12 hK12 => ?_
    refine vw_en fun eqb hE => ?_
    have hlqb : eqb.length = 84 := by rw [hE]; simp only [length_putv, hlqa]
    have qb_3 : ev eqb (.tmp 3) = .t (tInts f) := by rw [hE]; simp only [ev_miss, Nat.reduceBEq, qa_3]
    have qb_4 : ev eqb (.tmp 4) = .t (tInts g) := by rw [hE]; simp only [ev_miss, Nat.reduceBEq, qa_4]
    have qb_5 : ev eqb (.tmp 5) = .ptr (s.next) 0 := by rw [hE]; simp only [ev_miss, Nat.reduceBEq, qa_5]
    have qb_6 : ev eqb (.tmp 6) = .ptr (s.next + 1) 0 := by rw [hE]; simp only [ev_miss, Nat.reduceBEq, qa_6]
    have qb_7 : ev eqb (.tmp 7) = .ptr (s.next + 1 + 1) 0 := by rw [hE]; simp only [ev_miss, Nat.reduceBEq, qa_7]
    have qb_11 : ev eqb (.tmp 11) = .ptr (s.next + 1 + 1 + 1) 0 := by rw [hE]; simp only [ev_hit, ev_miss, Nat.reduceBEq, length_putv, hlqa, Nat.reduceLT]
    have qb_12 : ev eqb (.tmp 12) = .t (tInts (pushR a b c f g).2.1) := by rw [hE]; simp only [ev_hit, ev_miss, Nat.reduceBEq, length_putv, hlqa, Nat.reduceLT]
    have qb_13 : ev eqb (.tmp 13) = .t (tInts (pushR a b c f g).2.2.1) := by rw [hE]; simp only [ev_hit, ev_miss, Nat.reduceBEq, length_putv, hlqa, Nat.reduceLT]
    have qb_14 : ev eqb (.tmp 14) = I (pushR a b c f g).2.2.2 := by rw [hE]; simp only [ev_hit, length_putv, hlqa, Nat.reduceLT]
    clear hE
    refine vw_st fun sqb hS => ?_
    have qbB0 : sqb.m (s.next) = some (.box 25 [.t (tStrs a.labels), .t (tPairs a.pairs)]) := by rw [hS]; simp only [m_set, m_add, nns, if_false, qaB0, hnqa]
    have qbB1 : sqb.m (s.next + 1) = some (.box 25 [.t (tStrs b.labels), .t (tPairs b.pairs)]) := by rw [hS]; simp only [m_set, m_add, nns, if_false, qaB1, hnqa]
    have qbB2 : sqb.m (s.next + 1 + 1) = some (.box 25 [.t (tStrs c.labels), .t (tPairs c.pairs)]) := by rw [hS]; simp only [m_set, m_add, nns, if_false, qaB2, hnqa]
    have qbB3 : sqb.m (s.next + 1 + 1 + 1) = some (.box 25 [.t (tStrs (pushR a b c f g).1.labels), .t (tPairs (pushR a b c f g).1.pairs)]) := by rw [hS]; simp only [m_set, m_add, if_true, hnqa]
    have hnqb : sqb.next = s.next + 1 + 1 + 1 + 1 := by rw [hS]; simp only [n_add, n_set, hnqa]
    have hkqb : ∀ j, j < s.next → sqb.m j = s.m j := fun j hj => by have z0 : ¬ j = s.next := (by omega); have z1 : ¬ j = s.next + 1 := (by omega); have z2 : ¬ j = s.next + 1 + 1 := (by omega); have z3 : ¬ j = s.next + 1 + 1 + 1 := (by omega); rw [hS]; simp only [m_set, m_add, hnqa, z3, if_false, hkqa j hj]
    clear hS
    refine vw_sc 0 [.pur (.tup [vObj (pushR a b c f g).1, .t (tInts (pushR a b c f g).2.1), .t (tInts (pushR a b c f g).2.2.1), I (pushR a b c f g).2.2.2])] ?_
    simp only [bs, Nat.reduceAdd, ↓vopx, ↓vop, Nat.reduceBEq, thenV, Nat.reduceLT, V.cells, dLoad, vpart, hlqb, qb_3, qb_4, qb_5, qb_6, qb_7, qbB0, qbB1, qbB2, hnqb, wocs, ↓goc, ↓woc, ↓vopm0, ↓callC, calleeV, Tryd.ag25, Tryd.sz25, Tryd.zv25]
    repeat ((with_reducible refine And.intro ?_ ?_); · exact ⟨Tryd.is23, refPush_ a b c f g (by omega) (by omega) (by omega) (by omega) (by omega) (by omega) (by omega) (by omega)⟩)
    refine hK12 _ _ ?_
    refine vw_seq_k fun K13 hK13 => ?_
    refine vw_en fun eqc hE => ?_
    have hlqc : eqc.length = 84 := by rw [hE]; simp only [length_putv, hlqb]
    have qc_3 : ev eqc (.tmp 3) = .t (tInts f) := by rw [hE]; simp only [ev_miss, Nat.reduceBEq, qb_3]
    have qc_4 : ev eqc (.tmp 4) = .t (tInts g) := by rw [hE]; simp only [ev_miss, Nat.reduceBEq, qb_4]
    have qc_5 : ev eqc (.tmp 5) = .ptr (s.next) 0 := by rw [hE]; simp only [ev_miss, Nat.reduceBEq, qb_5]
    have qc_6 : ev eqc (.tmp 6) = .ptr (s.next + 1) 0 := by rw [hE]; simp only [ev_miss, Nat.reduceBEq, qb_6]
    have qc_7 : ev eqc (.tmp 7) = .ptr (s.next + 1 + 1) 0 := by rw [hE]; simp only [ev_miss, Nat.reduceBEq, qb_7]
    have qc_11 : ev eqc (.tmp 11) = .ptr (s.next + 1 + 1 + 1) 0 := by rw [hE]; simp only [ev_miss, Nat.reduceBEq, qb_11]
    have qc_12 : ev eqc (.tmp 12) = .t (tInts (pushR a b c f g).2.1) := by rw [hE]; simp only [ev_miss, Nat.reduceBEq, qb_12]
    have qc_13 : ev eqc (.tmp 13) = .t (tInts (pushR a b c f g).2.2.1) := by rw [hE]; simp only [ev_miss, Nat.reduceBEq, qb_13]
    have qc_14 : ev eqc (.tmp 14) = I (pushR a b c f g).2.2.2 := by rw [hE]; simp only [ev_miss, Nat.reduceBEq, qb_14]
    have qc_15 : ev eqc (.tmp 15) = .ptr (s.next + 1 + 1 + 1 + 1) 0 := by rw [hE]; simp only [ev_hit, ev_miss, Nat.reduceBEq, length_putv, hlqb, Nat.reduceLT]
    have qc_16 : ev eqc (.tmp 16) = .t (tInts (pushR a b c f g).2.1) := by rw [hE]; simp only [ev_hit, ev_miss, Nat.reduceBEq, length_putv, hlqb, Nat.reduceLT]
    have qc_17 : ev eqc (.tmp 17) = .t (tInts (pushR a b c f g).2.2.1) := by rw [hE]; simp only [ev_hit, ev_miss, Nat.reduceBEq, length_putv, hlqb, Nat.reduceLT]
    have qc_18 : ev eqc (.tmp 18) = I (pushR a b c f g).2.2.2 := by rw [hE]; simp only [ev_hit, length_putv, hlqb, Nat.reduceLT]
    clear hE
    refine vw_st fun sqc hS => ?_
    have qcB0 : sqc.m (s.next) = some (.box 25 [.t (tStrs a.labels), .t (tPairs a.pairs)]) := by rw [hS]; simp only [m_set, m_add, nns, if_false, qbB0, hnqb]
    have qcB1 : sqc.m (s.next + 1) = some (.box 25 [.t (tStrs b.labels), .t (tPairs b.pairs)]) := by rw [hS]; simp only [m_set, m_add, nns, if_false, qbB1, hnqb]
    have qcB2 : sqc.m (s.next + 1 + 1) = some (.box 25 [.t (tStrs c.labels), .t (tPairs c.pairs)]) := by rw [hS]; simp only [m_set, m_add, nns, if_false, qbB2, hnqb]
    have qcB3 : sqc.m (s.next + 1 + 1 + 1) = some (.box 25 [.t (tStrs (pushR a b c f g).1.labels), .t (tPairs (pushR a b c f g).1.pairs)]) := by rw [hS]; simp only [m_set, m_add, nns, if_false, qbB3, hnqb]
    have qcB4 : sqc.m (s.next + 1 + 1 + 1 + 1) = some (.box 25 [.t (tStrs (pushR a b c f g).1.labels), .t (tPairs (pushR a b c f g).1.pairs)]) := by rw [hS]; simp only [m_set, m_add, if_true, hnqb]
    have hnqc : sqc.next = s.next + 1 + 1 + 1 + 1 + 1 := by rw [hS]; simp only [n_add, n_set, hnqb]
    have hkqc : ∀ j, j < s.next → sqc.m j = s.m j := fun j hj => by have z0 : ¬ j = s.next := (by omega); have z1 : ¬ j = s.next + 1 := (by omega); have z2 : ¬ j = s.next + 1 + 1 := (by omega); have z3 : ¬ j = s.next + 1 + 1 + 1 := (by omega); have z4 : ¬ j = s.next + 1 + 1 + 1 + 1 := (by omega); rw [hS]; simp only [m_set, m_add, hnqb, z4, if_false, hkqb j hj]
    clear hS
    obtain ⟨u1, u2, u3, u4⟩ := pushR_lim a b c f g (by omega)
    refine vw_cut 19 rfl ?_
    refine vl_chunk 0 0 9 10 [(3, 69)] [.pur (Bo true)] (by decide +kernel) (by decide) fun ops' KC hgs hKC => ?_
    have g3_ : gtmp ops' 3 = some 69 := hgs (3, 69) (by simp)
    simp only [bs, Nat.reduceAdd, ↓vopx, ↓vop, Nat.reduceBEq, flat, Nat.reduceLT, dLoad, vpart, opII, hlqc, qc_11, qc_14, qc_15, qc_18, qcB3, qcB4, g3_, wocs, ↓goc, ↓woc, ↓vopm0, ↓callC, ↓pick_tt, calleeV, Tryd.ag25, Tryd.sz25, beq_self_eq_true]
    repeat ((with_reducible refine And.intro ?_ ?_); · exact ⟨Tryd.is24, same_self (pushR a b c f g).1 (by omega) (by omega)⟩)
    refine hKC _ _ ?_
    clear g3_
    clear hgs hKC KC ops'
    refine vl_env fun e7_0 hE => ?_
    have hl7_0 : e7_0.length = 84 := by rw [hE]; simp only [length_putv, hlqc]
    have r1_11 : ev e7_0 (.tmp 11) = .ptr (s.next + 1 + 1 + 1) 0 := by rw [hE]; simp only [ev_miss, Nat.reduceBEq, qc_11]
    have r1_12 : ev e7_0 (.tmp 12) = .t (tInts (pushR a b c f g).2.1) := by rw [hE]; simp only [ev_miss, Nat.reduceBEq, qc_12]
    have r1_13 : ev e7_0 (.tmp 13) = .t (tInts (pushR a b c f g).2.2.1) := by rw [hE]; simp only [ev_miss, Nat.reduceBEq, qc_13]
    have r1_14 : ev e7_0 (.tmp 14) = I (pushR a b c f g).2.2.2 := by rw [hE]; simp only [ev_miss, Nat.reduceBEq, qc_14]
    have r1_15 : ev e7_0 (.tmp 15) = .ptr (s.next + 1 + 1 + 1 + 1) 0 := by rw [hE]; simp only [ev_miss, Nat.reduceBEq, qc_15]
    have r1_16 : ev e7_0 (.tmp 16) = .t (tInts (pushR a b c f g).2.1) := by rw [hE]; simp only [ev_miss, Nat.reduceBEq, qc_16]
    have r1_17 : ev e7_0 (.tmp 17) = .t (tInts (pushR a b c f g).2.2.1) := by rw [hE]; simp only [ev_miss, Nat.reduceBEq, qc_17]
    have r1_18 : ev e7_0 (.tmp 18) = I (pushR a b c f g).2.2.2 := by rw [hE]; simp only [ev_miss, Nat.reduceBEq, qc_18]
    have r1_g : ev e7_0 (.tmp 74) = Bo true := by rw [hE]; simp only [ev_hit, length_putv, hlqc, Nat.reduceLT]
    clear hE
    refine vl_chunk 0 9 5 5 [(8, 74)] [.pur (Bo true)] (by decide +kernel) (by decide) fun ops' KC hgs hKC => ?_
    have g8_ : gtmp ops' 8 = some 74 := hgs (8, 74) (by simp)
    simp only [bs, ↓vopx, ↓vop, Nat.reduceBEq, flat, Nat.reduceLT, hl7_0, r1_12, r1_16, r1_g, g8_, wocs, ↓goc, ↓woc, ↓vopm0, ↓callC, ↓pick_tt, calleeV]
    repeat ((with_reducible refine And.intro ?_ ?_); · exact ⟨Tryd.is25, alike_self (pushR a b c f g).2.1 (by omega)⟩)
    refine hKC _ _ ?_
    clear g8_
    clear hgs hKC KC ops'
    refine vl_env fun e7_1 hE => ?_
    have hl7_1 : e7_1.length = 84 := by rw [hE]; simp only [length_putv, hl7_0]
    have r2_11 : ev e7_1 (.tmp 11) = .ptr (s.next + 1 + 1 + 1) 0 := by rw [hE]; simp only [ev_miss, Nat.reduceBEq, r1_11]
    have r2_12 : ev e7_1 (.tmp 12) = .t (tInts (pushR a b c f g).2.1) := by rw [hE]; simp only [ev_miss, Nat.reduceBEq, r1_12]
    have r2_13 : ev e7_1 (.tmp 13) = .t (tInts (pushR a b c f g).2.2.1) := by rw [hE]; simp only [ev_miss, Nat.reduceBEq, r1_13]
    have r2_14 : ev e7_1 (.tmp 14) = I (pushR a b c f g).2.2.2 := by rw [hE]; simp only [ev_miss, Nat.reduceBEq, r1_14]
    have r2_15 : ev e7_1 (.tmp 15) = .ptr (s.next + 1 + 1 + 1 + 1) 0 := by rw [hE]; simp only [ev_miss, Nat.reduceBEq, r1_15]
    have r2_16 : ev e7_1 (.tmp 16) = .t (tInts (pushR a b c f g).2.1) := by rw [hE]; simp only [ev_miss, Nat.reduceBEq, r1_16]
    have r2_17 : ev e7_1 (.tmp 17) = .t (tInts (pushR a b c f g).2.2.1) := by rw [hE]; simp only [ev_miss, Nat.reduceBEq, r1_17]
    have r2_18 : ev e7_1 (.tmp 18) = I (pushR a b c f g).2.2.2 := by rw [hE]; simp only [ev_miss, Nat.reduceBEq, r1_18]
    have r2_g : ev e7_1 (.tmp 79) = Bo true := by rw [hE]; simp only [ev_hit, length_putv, hl7_0, Nat.reduceLT]
    clear hE
    refine vl_chunk 0 14 5 0 [(13, 79)] [.pur (Bo true)] (by decide +kernel) (by decide) fun ops' KC hgs hKC => ?_
    have g13_ : gtmp ops' 13 = some 79 := hgs (13, 79) (by simp)
    simp only [bs, ↓vopx, ↓vop, Nat.reduceBEq, flat, Nat.reduceLT, hl7_1, r2_13, r2_17, r2_g, g13_, wocs, ↓goc, ↓woc, ↓vopm0, ↓callC, ↓pick_tt, calleeV]
    repeat ((with_reducible refine And.intro ?_ ?_); · exact ⟨Tryd.is25, alike_self (pushR a b c f g).2.2.1 (by omega)⟩)
    refine hKC _ _ ?_
    clear g13_
    clear hgs hKC KC ops'
    refine vl_nil ?_
    try simp only [thenV]
    refine hK13 _ _ ?_
    refine vw_ret ?_
    refine hQ _ _ _ (.inr rfl) (done_tmp ?_ fun n b hn h => (hkqc n hn).trans h)
    try simp only [ev_hit, length_putv, hl7_1, Nat.reduceLT]

end Go.Proofs

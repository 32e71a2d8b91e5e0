/- Lemmas on the way to the statement of this claim; no conditions. -/
import Derived.Test.YthoolojombciiaaDoorB25
import Derived.Test.YthoolojombciiaaDoorB28
import Derived.Test.YthoolojombciiaaDoorB30
import Derived.Test.YthoolojombciiaaDoorB34
import Derived.Test.YthoolojombciiaaDoorB36
import Derived.Test.YthoolojombciiaaDoorB37
import Derived.Test.YthoolojombciiaaDoorB38
import Derived.Test.YthoolojombciiaaDoorB39
import Derived.Test.YthoolojombciiaaDoorB40
import Derived.Test.YthoolojombciiaaDoorB42
import Derived.Test.YthoolojombciiaaDoorB45
import Derived.Test.YthoolojombciiaaDoorB46
import Derived.Test.YthoolojombciiaaDoorB47
open Go Go.V
namespace Go.Proofs
def injS (f : List Int) : Bool := !(adjB (sortZ f))
theorem thenS_le (f g : List Int) : (thenS f g).1.length ≤ f.length := by
  unfold thenS; split <;> simp
theorem iff_dec {k n : Nat} {b : Bool} (h : k = n ↔ b = false) : (((k : Int) == (n : Int))) = !b := by
  cases b with
  | true =>
    have : ¬ k = n := fun e => by have := h.1 e; cases this
    simp; omega
  | false =>
    have := h.2 rfl
    simp [this]
set_option maxRecDepth 20000 in
theorem injective_ (f : List Int) (hf : f.length < 100000000) : PCall Tryd.prog 7 [.t (tInts f)] (Bo (injS f)) := by
  refine pcall_of_body Tryd.func7 rfl fun s Q hQ => ?_
  obtain ⟨e, he, hl, h0⟩ : ∃ e : Env, ([.t (tInts f)] ++ List.replicate (Tryd.f7.ntmps - ([.t (tInts f)] : List V).length) .junk) = e ∧ e.length = 18 ∧ ev e (.tmp 0) = .t (tInts f) := ⟨_, rfl, rfl, rfl⟩
  rw [he]
  clear he
  refine vsk fun K1 hK1 => ?_
  refine vw_sc 0 [] ?_
  simp only [bs, ↓vopx, ↓vop, thenV, flat, wocs, ↓goc, ↓woc, ↓vopm0]
  refine hK1 _ _ ?_
  refine vsk fun K2 hK2 => ?_
  refine vw_sc 0 [] ?_
  simp only [bs, ↓vopx, ↓vop, Nat.reduceBEq, thenV, Nat.reduceLT, hl, h0, wocs, ↓goc, ↓woc, ↓vopm0, Tryd.sl27, Tryd.un27, len_tInts]
  refine ⟨by omega, by omega, by omega, ?_⟩
  refine hK2 _ _ ?_
  refine vsk fun K3 hK3 => ?_
  refine vw_sc 0 [] ?_
  simp only [bs, srcT, ↓vopx, ↓vop, Nat.reduceBEq, thenV, Nat.reduceLT, hl, h0, wocs, ↓goc, ↓woc, ↓vopm0, Tryd.sl27, srcT]
  refine ⟨by rw [repl_length]; simp, ?_⟩
  rw [add_set]
  have hc0 := th_copy f
  simp only [List.length_map] at hc0
  rw [hc0]
  refine hK3 _ _ ?_
  refine vsk fun K4 hK4 => ?_
  refine vw_sc 0 [.stop] ?_
  simp only [bs, ↓vopx, ↓vop, Nat.reduceBEq, thenV, Nat.reduceLT, hl, wocs, ↓goc, ↓woc, ↓vopm0, ↓callC, calleeV]
  refine ⟨Tryd.is15, (sort_ _ s.next f (by simp [Sg.add]) (by omega)).mono fun v s2 hv => ?_⟩
  subst hv
  try simp only [bs, Nat.reduceBEq, Nat.reduceLT, hl, Hold]
  rw [add_set]
  refine hK4 _ _ ?_
  refine vsk fun K5 hK5 => ?_
  have hsl := sortZ_length f
  refine vw_sc 0 [.stop] ?_
  simp only [bs, ↓vopx, ↓vop, Nat.reduceBEq, thenV, Nat.reduceLT, opII, opSS, hl, wocs, ↓goc, ↓woc, ↓vopm0, ↓callC, calleeV, ↓farC]
  rw [← hsl]
  refine ⟨Tryd.is16, (compact_ _ s.next (sortZ f) (by simp [Sg.add]) (by omega)).mono fun v s2 hv => ?_⟩
  obtain ⟨k, L, rfl, hkl, hL, rfl, hk⟩ := hv
  rw [hsl] at hk
  try simp only [bs, Nat.reduceBEq, Nat.reduceLT, hl, h0, len_tInts, Tryd.underlying27, Hold]
  rw [iff_dec hk]
  refine hK5 _ _ ?_
  refine vw_ret ?_
  refine hQ _ _ _ (.inr rfl) (done_tmp ?_ fun n b hn h => by simp [Sg.add, Sg.set, show n ≠ s.next by omega, h])
  try simp only [ev_hit, lpv, hl, Nat.reduceLT]
  rfl
end Go.Proofs

open Go Go.V
namespace Go.Proofs
theorem legT_length (n base : Nat) : (legT n base).length = n := by simp [legT]
abbrev pushE (a b c : Ob) (f g : List Int) : Ob × List Int × Int := eqS a (besideS b c) (thenS f (legT b.labels.length 0)).1 (thenS g (legT c.labels.length b.labels.length)).1
def pushS (a b c : Ob) (f g : List Int) : Ob × List Int × List Int × Int :=
  if largeS [a] = true ∨ largeS [b, c] = true then (⟨[], []⟩, [], [], 11) else if arrS a b f = true ∧ arrS a c g = true then
    (if (pushE a b c f g).2.2 = 0 then ((pushE a b c f g).1, (thenS (legT b.labels.length 0) (pushE a b c f g).2.1).1, (thenS (legT c.labels.length b.labels.length) (pushE a b c f g).2.1).1, 0) else (⟨[], []⟩, [], [], (pushE a b c f g).2.2))
  else (⟨[], []⟩, [], [], 10)
theorem eqS_le (a b : Ob) (f g : List Int) : (eqS a b f g).2.1.length ≤ b.labels.length := by
  unfold eqS
  split
  · simp
  · split
    · show (eqPl b f g).length ≤ _
      unfold eqPl
      rw [placesL_length, joinsL_length, rangeI_length]; exact Nat.le_refl _
    · simp
set_option maxRecDepth 20000 in
set_option maxHeartbeats 4000000 in
theorem push_ (a b c : Ob) (f g : List Int) (ha1 : a.labels.length < 1000000000) (ha2 : a.pairs.length < 1000000000) (hb1 : b.labels.length < 1000000000) (hb2 : b.pairs.length ≤ 1000) (hc1 : c.labels.length < 1000000000) (hc2 : c.pairs.length ≤ 1000) (hf : f.length < 100000000) (hg : g.length < 100000000) : PCall Tryd.prog 11 [vObj a, vObj b, vObj c, .t (tInts f), .t (tInts g)] (vSum (pushS a b c f g)) := by
  refine pcall_of_body Tryd.func11 rfl fun s Q hQ => ?_
  obtain ⟨e, he, hl, h0, h1, h2, h3, h4⟩ : ∃ e : Env, ([vObj a, vObj b, vObj c, .t (tInts f), .t (tInts g)] ++ List.replicate (Tryd.f11.ntmps - ([vObj a, vObj b, vObj c, .t (tInts f), .t (tInts g)] : List V).length) .junk) = e ∧ e.length = 107 ∧ ev e (.tmp 0) = vObj a ∧ ev e (.tmp 1) = vObj b ∧ ev e (.tmp 2) = vObj c ∧ ev e (.tmp 3) = .t (tInts f) ∧ ev e (.tmp 4) = .t (tInts g) := ⟨_, rfl, rfl, rfl, rfl, rfl, rfl, rfl⟩
  rw [he]
  clear he
  refine vsk fun K1 hK1 => ?_
  refine vw_sc 0 [] ?_
  simp only [bs, ↓vopx, ↓vop, Nat.reduceBEq, thenV, flat, V.cells, h0, h1, h2, wocs, ↓goc, ↓woc, ↓vopm0, Tryd.zv26]
  refine hK1 _ _ ?_
  refine vsk fun K2 hK2 => ?_
  refine vw_block ?_
  refine vsk fun K3 hK3 => ?_
  refine vw_st fun sN hSN => ?_
  have hn5 : sN.m s.next = some (.box 26 [.t (tStrs a.labels), .t (tPairs a.pairs)]) := by rw [hSN, m_add, if_neg (by simp only [n_add]; omega), m_add, if_neg (by simp only [n_add]; omega), m_add, if_neg (by simp only [n_add]; omega), m_add, if_pos rfl]
  have hn6 : sN.m (s.next + 1) = some (.box 26 [.t (tStrs b.labels), .t (tPairs b.pairs)]) := by rw [hSN, m_add, if_neg (by simp only [n_add]; omega), m_add, if_neg (by simp only [n_add]; omega), m_add, if_pos (by simp only [n_add])]
  have hn7 : sN.m (s.next + 1 + 1) = some (.box 26 [.t (tStrs c.labels), .t (tPairs c.pairs)]) := by rw [hSN, m_add, if_neg (by simp only [n_add]; omega), m_add, if_pos (by simp only [n_add])]
  have hn10 : sN.m (s.next + 1 + 1 + 1) = some (.box 26 [.t (.v (.slice none 0 0)), .t (.v (.slice none 0 0))]) := by rw [hSN, m_add, if_pos (by simp only [n_add])]
  have hnn : sN.next = s.next + 4 := by rw [hSN]; rfl
  have hnk : ∀ j, j < s.next → sN.m j = s.m j := fun j hj => by rw [hSN, m_add, if_neg (by simp only [n_add]; omega), m_add, if_neg (by simp only [n_add]; omega), m_add, if_neg (by simp only [n_add]; omega), m_add, if_neg (by omega)]
  clear hSN
  rcases (show largeS [a] = true ∨ (largeS [a] = false ∧ largeS [b, c] = true) ∨ (largeS [a] = false ∧ largeS [b, c] = false) by cases largeS [a] <;> cases largeS [b, c] <;> simp) with ka | ⟨ka, kb⟩ | ⟨ka, kb⟩
  · refine vw_sc 1 [.pur (Bo (largeS [a]))] ?_
    simp only [bs, Nat.reduceLeDiff, Nat.reduceAdd, vparts, gfill, repl, Sg.frzP, ↓vopx, ↓vop, Nat.reduceBEq, thenV, flat, Nat.reduceLT, V.cells, dLoad, vpart, gtmp, Sg.frzL, Sg.frz1, hl, wocs, ↓goc, ↓woc, ↓vopm1, ↓callC, ↓pick_tf, calleeV, Tryd.ag26, Tryd.sl77, Tryd.sz26, Nat.reduceMul, Nat.le_refl, hn5, ka]
    repeat ((with_reducible refine And.intro ?_ ?_); · exact ⟨Tryd.is24, by simpa only [ka] using large_one a (by omega)⟩)
    refine hK3 _ _ ?_
    refine vck fun A B hA hB => ?_
    simp only [condV, ev_hit, lpv, Nat.reduceLT, true_implies, reduceCtorEq, false_implies, and_true, hl]
    refine hA ?_
    clear hA hB A B
    refine vsk fun K4 hK4 => ?_
    refine vw_sc 0 [] ?_
    simp only [bs, Nat.reduceAdd, vparts, gfill, ↓vopx, ↓vop, Nat.reduceBEq, thenV, flat, Nat.reduceLT, V.cells, hl, wocs, ↓goc, ↓woc, ↓vopm0, Tryd.st26, Tryd.sz26, Nat.le_refl, hn10]
    refine hK4 _ _ ?_
    refine vw_ret ?_
    have hres : vSum (pushS a b c f g) = pack [vObj ⟨[], []⟩, .t (tInts []), .t (tInts []), I 11] := by simp [pushS, vSum, ka]; rfl
    rw [hres] at hQ
    refine hQ _ _ _ (.inr rfl) (done_wk (vs := [.agg [.t (.v (.slice none 0 0)), .t (.v (.slice none 0 0))], .t (.v (.slice none 0 0)), .t (.v (.slice none 0 0)), I 11]) (vs' := [vObj ⟨[], []⟩, .t (tInts []), .t (tInts []), I 11]) ?_ rfl (ewk_err4 _ _) (by simp [pack, nm, nm2, nm1, nm0]) ?_)
    · show vres Tryd.prog _ _ [.cell 10 26, .tmp 11, .tmp 12, .tmp 13] = _
      simp only [vres_cell, vres_tmp, vres_nil, ev_hit, ev_miss, Nat.reduceBEq, lpv, hl, hn10, Tryd.sz26, Tryd.ag26, dLoad, m_set, vpart, if_true, Nat.reduceLT, List.drop_zero, List.take_succ_cons, List.take_zero, List.length_cons, List.length_nil, Nat.zero_add, Nat.reduceAdd]
      try rfl
    · exact fun n x hn h => by rw [m_set, if_neg (by omega), hnk n hn]; exact h
  · refine vw_sc 1 [.pur (Bo (largeS [a])), .pur (Bo (largeS [b, c]))] ?_
    simp only [bs, Nat.reduceLeDiff, Nat.reduceAdd, vparts, gfill, repl, Sg.frzP, ↓vopx, ↓vop, Nat.reduceBEq, thenV, flat, Nat.reduceLT, V.cells, dLoad, vpart, gtmp, Sg.frzL, Sg.frz1, hl, wocs, ↓goc, ↓woc, ↓vopm1, ↓callC, ↓pick_ff, calleeV, Tryd.ag26, Tryd.sl77, Tryd.sz26, setAll_a0, setAll_b2, Nat.reduceMul, Nat.le_refl, hn5, hn6, hn7, ka, kb]
    repeat ((with_reducible refine And.intro ?_ ?_); · first | exact ⟨Tryd.is24, by simpa only [ka] using large_one a (by omega)⟩ | exact ⟨Tryd.is24, by simpa only [kb] using large_two b c (by omega) (by omega)⟩)
    refine hK3 _ _ ?_
    refine vck fun A B hA hB => ?_
    simp only [condV, ev_hit, lpv, Nat.reduceLT, true_implies, reduceCtorEq, false_implies, and_true, hl]
    refine hA ?_
    clear hA hB A B
    refine vsk fun K5 hK5 => ?_
    refine vw_sc 0 [] ?_
    simp only [bs, Nat.reduceAdd, vparts, gfill, ↓vopx, ↓vop, Nat.reduceBEq, thenV, flat, Nat.reduceLT, V.cells, hl, wocs, ↓goc, ↓woc, ↓vopm0, Tryd.st26, Tryd.sz26, Nat.le_refl, hn10]
    refine hK5 _ _ ?_
    refine vw_ret ?_
    have hres : vSum (pushS a b c f g) = pack [vObj ⟨[], []⟩, .t (tInts []), .t (tInts []), I 11] := by simp [pushS, vSum, kb]; rfl
    rw [hres] at hQ
    refine hQ _ _ _ (.inr rfl) (done_wk (vs := [.agg [.t (.v (.slice none 0 0)), .t (.v (.slice none 0 0))], .t (.v (.slice none 0 0)), .t (.v (.slice none 0 0)), I 11]) (vs' := [vObj ⟨[], []⟩, .t (tInts []), .t (tInts []), I 11]) ?_ rfl (ewk_err4 _ _) (by simp [pack, nm, nm2, nm1, nm0]) ?_)
    · show vres Tryd.prog _ _ [.cell 10 26, .tmp 11, .tmp 12, .tmp 13] = _
      simp only [vres_cell, vres_tmp, vres_nil, ev_hit, ev_miss, Nat.reduceBEq, lpv, hl, hn10, Tryd.sz26, Tryd.ag26, dLoad, m_set, vpart, if_true, Nat.reduceLT, List.drop_zero, List.take_succ_cons, List.take_zero, List.length_cons, List.length_nil, Nat.zero_add, Nat.reduceAdd]
      try rfl
    · exact fun n x hn h => by rw [m_set, if_neg (by omega), hnk n hn]; exact h
  · refine vw_sc 1 [.pur (Bo (largeS [a])), .pur (Bo (largeS [b, c]))] ?_
    simp only [bs, Nat.reduceLeDiff, Nat.reduceAdd, vparts, gfill, repl, Sg.frzP, ↓vopx, ↓vop, Nat.reduceBEq, thenV, flat, Nat.reduceLT, V.cells, dLoad, vpart, gtmp, Sg.frzL, Sg.frz1, hl, wocs, ↓goc, ↓woc, ↓vopm1, ↓callC, ↓pick_ff, calleeV, Tryd.ag26, Tryd.sl77, Tryd.sz26, setAll_a0, setAll_b2, Nat.reduceMul, Nat.le_refl, hn5, hn6, hn7, ka, kb]
    repeat ((with_reducible refine And.intro ?_ ?_); · first | exact ⟨Tryd.is24, by simpa only [ka] using large_one a (by omega)⟩ | exact ⟨Tryd.is24, by simpa only [kb] using large_two b c (by omega) (by omega)⟩)
    refine hK3 _ _ ?_
    refine vck fun A B hA hB => ?_
    simp only [condV, ev_hit, lpv, Nat.reduceLT, true_implies, reduceCtorEq, false_implies, true_and, hl]
    refine hB ?_
    clear hA hB A B
    refine vsk fun K6 hK6 => ?_
    rcases (show arrS a b f = false ∨ (arrS a b f = true ∧ arrS a c g = false) ∨ (arrS a b f = true ∧ arrS a c g = true) by cases arrS a b f <;> cases arrS a c g <;> simp) with kf | ⟨kf, kg⟩ | ⟨kf, kg⟩
    · refine vw_sc 0 [.pur (Bo (arrS a b f))] ?_
      simp only [bs, Nat.reduceAdd, ↓vopx, ↓vop, Nat.reduceBEq, thenV, flat, Nat.reduceLT, dLoad, vpart, gtmp, hl, h3, wocs, ↓goc, ↓woc, ↓vopm0, ↓callC, ↓pick_tf, calleeV, Tryd.ag26, Tryd.sz26, kf, hn5, hn6]
      repeat ((with_reducible refine And.intro ?_ ?_); · exact ⟨Tryd.is8, by simpa only [kf] using arrow_ a b f (by omega) (by omega) (by omega) (by omega) (by omega)⟩)
      refine hK6 _ _ ?_
      refine vck fun A B hA hB => ?_
      simp only [condV, ev_hit, lpv, Nat.reduceLT, true_implies, reduceCtorEq, false_implies, and_true, hl]
      refine hA ?_
      clear hA hB A B
      refine vsk fun K7 hK7 => ?_
      refine vw_sc 0 [] ?_
      simp only [bs, Nat.reduceAdd, vparts, gfill, ↓vopx, ↓vop, Nat.reduceBEq, thenV, flat, Nat.reduceLT, V.cells, hl, wocs, ↓goc, ↓woc, ↓vopm0, Tryd.st26, Tryd.sz26, Nat.le_refl, hn10]
      refine hK7 _ _ ?_
      refine vw_ret ?_
      have hres : vSum (pushS a b c f g) = pack [vObj ⟨[], []⟩, .t (tInts []), .t (tInts []), I 10] := by simp [pushS, vSum, ka, kb, kf]; rfl
      rw [hres] at hQ
      refine hQ _ _ _ (.inr rfl) (done_wk (vs := [.agg [.t (.v (.slice none 0 0)), .t (.v (.slice none 0 0))], .t (.v (.slice none 0 0)), .t (.v (.slice none 0 0)), I 10]) (vs' := [vObj ⟨[], []⟩, .t (tInts []), .t (tInts []), I 10]) ?_ rfl (ewk_err4 _ _) (by simp [pack, nm, nm2, nm1, nm0]) ?_)
      · show vres Tryd.prog _ _ [.cell 10 26, .tmp 11, .tmp 12, .tmp 13] = _
        simp only [vres_cell, vres_tmp, vres_nil, ev_hit, ev_miss, Nat.reduceBEq, lpv, hl, hn10, Tryd.sz26, Tryd.ag26, dLoad, m_set, vpart, if_true, Nat.reduceLT, List.drop_zero, List.take_succ_cons, List.take_zero, List.length_cons, List.length_nil, Nat.zero_add, Nat.reduceAdd]
        try rfl
      · exact fun n x hn h => by rw [m_set, if_neg (by omega), hnk n hn]; exact h
    · refine vw_sc 0 [.pur (Bo (arrS a b f)), .pur (Bo (arrS a c g))] ?_
      simp only [bs, Nat.reduceAdd, ↓vopx, ↓vop, Nat.reduceBEq, thenV, flat, Nat.reduceLT, dLoad, vpart, gtmp, hl, h3, h4, wocs, ↓goc, ↓woc, ↓vopm0, ↓callC, ↓pick_ff, calleeV, Tryd.ag26, Tryd.sz26, kf, kg, hn5, hn6, hn7]
      repeat ((with_reducible refine And.intro ?_ ?_); · first | exact ⟨Tryd.is8, by simpa only [kf] using arrow_ a b f (by omega) (by omega) (by omega) (by omega) (by omega)⟩ | exact ⟨Tryd.is8, by simpa only [kg] using arrow_ a c g (by omega) (by omega) (by omega) (by omega) (by omega)⟩)
      refine hK6 _ _ ?_
      refine vck fun A B hA hB => ?_
      simp only [condV, ev_hit, lpv, Nat.reduceLT, true_implies, reduceCtorEq, false_implies, and_true, hl]
      refine hA ?_
      clear hA hB A B
      refine vsk fun K8 hK8 => ?_
      refine vw_sc 0 [] ?_
      simp only [bs, Nat.reduceAdd, vparts, gfill, ↓vopx, ↓vop, Nat.reduceBEq, thenV, flat, Nat.reduceLT, V.cells, hl, wocs, ↓goc, ↓woc, ↓vopm0, Tryd.st26, Tryd.sz26, Nat.le_refl, hn10]
      refine hK8 _ _ ?_
      refine vw_ret ?_
      have hres : vSum (pushS a b c f g) = pack [vObj ⟨[], []⟩, .t (tInts []), .t (tInts []), I 10] := by simp [pushS, vSum, ka, kb, kg]; rfl
      rw [hres] at hQ
      refine hQ _ _ _ (.inr rfl) (done_wk (vs := [.agg [.t (.v (.slice none 0 0)), .t (.v (.slice none 0 0))], .t (.v (.slice none 0 0)), .t (.v (.slice none 0 0)), I 10]) (vs' := [vObj ⟨[], []⟩, .t (tInts []), .t (tInts []), I 10]) ?_ rfl (ewk_err4 _ _) (by simp [pack, nm, nm2, nm1, nm0]) ?_)
      · show vres Tryd.prog _ _ [.cell 10 26, .tmp 11, .tmp 12, .tmp 13] = _
        simp only [vres_cell, vres_tmp, vres_nil, ev_hit, ev_miss, Nat.reduceBEq, lpv, hl, hn10, Tryd.sz26, Tryd.ag26, dLoad, m_set, vpart, if_true, Nat.reduceLT, List.drop_zero, List.take_succ_cons, List.take_zero, List.length_cons, List.length_nil, Nat.zero_add, Nat.reduceAdd]
        try rfl
      · exact fun n x hn h => by rw [m_set, if_neg (by omega), hnk n hn]; exact h
    · refine vw_sc 0 [.pur (Bo (arrS a b f)), .pur (Bo (arrS a c g))] ?_
      simp only [bs, Nat.reduceAdd, ↓vopx, ↓vop, Nat.reduceBEq, thenV, flat, Nat.reduceLT, dLoad, vpart, gtmp, hl, h3, h4, wocs, ↓goc, ↓woc, ↓vopm0, ↓callC, ↓pick_ff, calleeV, Tryd.ag26, Tryd.sz26, kf, kg, hn5, hn6, hn7]
      repeat ((with_reducible refine And.intro ?_ ?_); · first | exact ⟨Tryd.is8, by simpa only [kf] using arrow_ a b f (by omega) (by omega) (by omega) (by omega) (by omega)⟩ | exact ⟨Tryd.is8, by simpa only [kg] using arrow_ a c g (by omega) (by omega) (by omega) (by omega) (by omega)⟩)
      refine hK6 _ _ ?_
      refine vck fun A B hA hB => ?_
      simp only [condV, ev_hit, lpv, Nat.reduceLT, true_implies, reduceCtorEq, false_implies, true_and, hl]
      refine hB ?_
      clear hA hB A B
      refine vw_skip ?_
      refine hK2 _ _ ?_
      refine vsk fun K9 hK9 => ?_
      have hoa := (arrS_iff.1 kf).1
      have hob := (arrS_iff.1 kf).2.1
      have hoc := (arrS_iff.1 kg).2.1
      have hla := hoa.le
      have hlb := hob.le
      have hlc := hoc.le
      have hfl := allY_length (arrS_iff.1 kf).2.2.1
      have hgl := allY_length (arrS_iff.1 kg).2.2.1
      have hL1 := legT_length b.labels.length 0
      have hL2 := legT_length c.labels.length b.labels.length
      have hOK : BsOK [b, c] := ⟨by simp, by intro o ho; simp at ho; rcases ho with rfl | rfl; exact hob; exact hoc, by intro o ho; simp at ho; rcases ho with rfl | rfl <;> omega⟩
      refine vw_sc 1 [.pur (.tup [vObj (besideS b c), .t (tMat [legT b.labels.length 0, legT c.labels.length b.labels.length])])] ?_
      simp only [bs, Nat.reduceLeDiff, Nat.reduceAdd, vparts, gfill, repl, Sg.frzP, ↓vopx, ↓vop, Nat.reduceBEq, thenV, Nat.reduceLT, V.cells, dLoad, vpart, Sg.frzL, Sg.frz1, hl, wocs, ↓goc, ↓woc, ↓vopm1, ↓callC, calleeV, Tryd.ag26, Tryd.sl77, Tryd.sz26, Tryd.zv26, setAll_a0, setAll_b2, Nat.reduceMul, Nat.le_refl, hn6, hn7]
      repeat ((with_reducible refine And.intro ?_ ?_); · exact ⟨Tryd.is25, by have h := beside_two b c hOK; rw [bsS_two, legs_two] at h; exact h⟩)
      refine hK9 _ _ ?_
      refine vsk fun K10 hK10 => ?_
      refine vw_st fun sP hSP => ?_
      have hp14 : sP.m sN.next = some (.box 26 [.t (tStrs (besideS b c).labels), .t (tPairs (besideS b c).pairs)]) := by rw [hSP, m_set, if_pos rfl]
      have hps : ∀ j, j < sN.next → sP.m j = sN.m j := fun j hj => by rw [hSP, m_set, if_neg (by omega), m_add, if_neg (by omega)]
      have hpn : sP.next = sN.next + 1 := by rw [hSP]; rfl
      have hp5 : sP.m s.next = some (.box 26 [.t (tStrs a.labels), .t (tPairs a.pairs)]) := by rw [hps _ (by omega)]; exact hn5
      have hp10 : sP.m (s.next + 1 + 1 + 1) = some (.box 26 [.t (.v (.slice none 0 0)), .t (.v (.slice none 0 0))]) := by rw [hps _ (by omega)]; exact hn10
      clear hSP
      refine vw_sc 0 [.pur (.tup [.t (tInts (thenS f (legT b.labels.length 0)).1), Bo (thenS f (legT b.labels.length 0)).2])] ?_
      simp only [bs, Nat.reduceAdd, ↓vopx, ↓vop, Nat.reduceBEq, thenV, flat, Nat.reduceLT, dLoad, vpart, hl, h3, wocs, ↓goc, ↓woc, ↓vopm0, ↓callC, calleeV, Tryd.ag27, Tryd.sz27, Tryd.un56, Int.toNat_zero]
      repeat ((with_reducible refine And.intro ?_ ?_); · first | omega | exact ⟨Tryd.is13, then_ f (legT b.labels.length 0) (by omega) (by omega)⟩)
      refine hK10 _ _ ?_
      refine vsk fun K11 hK11 => ?_
      refine vw_sc 0 [.pur (.tup [.t (tInts (thenS g (legT c.labels.length b.labels.length)).1), Bo (thenS g (legT c.labels.length b.labels.length)).2])] ?_
      simp only [bs, Nat.reduceAdd, ↓vopx, ↓vop, Nat.reduceBEq, thenV, flat, Nat.reduceLT, dLoad, vpart, hl, h4, wocs, ↓goc, ↓woc, ↓vopm0, ↓callC, calleeV, Tryd.ag27, Tryd.sz27, Tryd.un56, Int.toNat_one]
      repeat ((with_reducible refine And.intro ?_ ?_); · first | omega | exact ⟨Tryd.is13, then_ g (legT c.labels.length b.labels.length) (by omega) (by omega)⟩)
      refine hK11 _ _ ?_
      refine vsk fun K12 hK12 => ?_
      have ht1 := thenS_le f (legT b.labels.length 0)
      have ht2 := thenS_le g (legT c.labels.length b.labels.length)
      have hol : (besideS b c).labels.length < 1000000000 := by simp only [besideS, List.length_append]; omega
      have hop : (besideS b c).pairs.length < 1000000000 := by simp only [besideS, List.length_append, List.length_map]; omega
      refine vw_sc 0 [.pur (.tup [vObj (pushE a b c f g).1, .t (tInts (pushE a b c f g).2.1), I (pushE a b c f g).2.2])] ?_
      simp only [bs, Nat.reduceAdd, ↓vopx, ↓vop, Nat.reduceBEq, thenV, Nat.reduceLT, V.cells, dLoad, vpart, hl, wocs, ↓goc, ↓woc, ↓vopm0, ↓callC, calleeV, Tryd.ag26, Tryd.sz26, Tryd.zv26, Nat.le_refl, hp5, hp14]
      repeat ((with_reducible refine And.intro ?_ ?_); · exact ⟨Tryd.is23, equal_ a (besideS b c) _ _ (by omega) (by omega) hol hop (by omega) (by omega)⟩)
      refine hK12 _ _ ?_
      refine vsk fun K13 hK13 => ?_
      refine vsk fun K14 hK14 => ?_
      refine vw_st fun sQ hSQ => ?_
      have hq20 : sQ.m sP.next = some (.box 26 [.t (tStrs (pushE a b c f g).1.labels), .t (tPairs (pushE a b c f g).1.pairs)]) := by rw [hSQ, m_set, if_pos rfl]
      have hqs : ∀ j, j < sP.next → sQ.m j = sP.m j := fun j hj => by rw [hSQ, m_set, if_neg (by omega), m_add, if_neg (by omega)]
      have hq10 : sQ.m (s.next + 1 + 1 + 1) = some (.box 26 [.t (.v (.slice none 0 0)), .t (.v (.slice none 0 0))]) := by rw [hqs _ (by omega)]; exact hp10
      have hqk : ∀ j x, j < s.next → s.m j = some x → sQ.m j = some x := fun j x hj hx => by rw [hqs _ (by omega), hps _ (by omega), hnk j hj]; exact hx
      clear hSQ
      have hql : (pushE a b c f g).2.1.length ≤ (besideS b c).labels.length := eqS_le a (besideS b c) (thenS f (legT b.labels.length 0)).1 (thenS g (legT c.labels.length b.labels.length)).1
      have hql2 : (besideS b c).labels.length = b.labels.length + c.labels.length := by simp only [besideS, List.length_append]
      have hn20 : ¬ sP.next = s.next + 1 + 1 + 1 := by omega
      refine vw_sc 0 [] ?_
      simp only [bs, ↓vopx, ↓vop, thenV, flat, Nat.reduceLT, opII, hl, wocs, ↓goc, ↓woc, ↓vopm0]
      refine hK14 _ _ ?_
      refine vck fun A B hA hB => ?_
      simp only [condV, ev_hit, lpv, Nat.reduceLT, bne_iff_ne, bne_eq_false_iff_eq, ne_eq, hl]
      refine ⟨fun hez => hA ?_, fun hez => hB ?_⟩
      · clear hA hB A B
        refine vsk fun K15 hK15 => ?_
        refine vw_sc 0 [] ?_
        simp only [bs, Nat.reduceAdd, vparts, gfill, ↓vopx, ↓vop, Nat.reduceBEq, thenV, flat, Nat.reduceLT, V.cells, hl, wocs, ↓goc, ↓woc, ↓vopm0, Tryd.st26, Tryd.sz26, Nat.le_refl, hq10]
        refine hK15 _ _ ?_
        refine vw_ret ?_
        have hres : vSum (pushS a b c f g) = pack [vObj ⟨[], []⟩, .t (tInts []), .t (tInts []), I (pushE a b c f g).2.2] := by simp [pushS, vSum, ka, kb, kf, kg, hez]; rfl
        rw [hres] at hQ
        refine hQ _ _ _ (.inr rfl) (done_wk (vs := [.agg [.t (.v (.slice none 0 0)), .t (.v (.slice none 0 0))], .t (.v (.slice none 0 0)), .t (.v (.slice none 0 0)), I (pushE a b c f g).2.2]) (vs' := [vObj ⟨[], []⟩, .t (tInts []), .t (tInts []), I (pushE a b c f g).2.2]) ?_ rfl (ewk_err4 _ _) (by simp [pack, nm, nm2, nm1, nm0]) ?_)
        · show vres Tryd.prog _ _ [.cell 10 26, .tmp 11, .tmp 12, .tmp 13] = _
          simp only [vres_cell, vres_tmp, vres_nil, ev_hit, ev_miss, Nat.reduceBEq, lpv, hl, hq10, Tryd.sz26, Tryd.ag26, dLoad, m_set, vpart, if_true, Nat.reduceLT, List.drop_zero, List.take_succ_cons, List.take_zero, List.length_cons, List.length_nil, Nat.zero_add, Nat.reduceAdd]
          try rfl
        · exact fun n x hn h => by rw [m_set, if_neg (by omega)]; exact hqk n x hn h
      · clear hA hB A B
        refine vw_skip ?_
        refine hK13 _ _ ?_
        refine vsk fun K16 hK16 => ?_
        refine vw_sc 0 [.pur (.tup [.t (tInts (thenS (legT b.labels.length 0) (pushE a b c f g).2.1).1), Bo (thenS (legT b.labels.length 0) (pushE a b c f g).2.1).2])] ?_
        simp only [bs, Nat.reduceAdd, ↓vopx, ↓vop, Nat.reduceBEq, thenV, flat, Nat.reduceLT, dLoad, vpart, hl, wocs, ↓goc, ↓woc, ↓vopm0, ↓callC, calleeV, Tryd.ag27, Tryd.sz27, Tryd.un56, Int.toNat_zero]
        repeat ((with_reducible refine And.intro ?_ ?_); · first | omega | exact ⟨Tryd.is13, then_ (legT b.labels.length 0) (pushE a b c f g).2.1 (by omega) (by omega)⟩)
        refine hK16 _ _ ?_
        refine vsk fun K17 hK17 => ?_
        refine vw_sc 0 [.pur (.tup [.t (tInts (thenS (legT c.labels.length b.labels.length) (pushE a b c f g).2.1).1), Bo (thenS (legT c.labels.length b.labels.length) (pushE a b c f g).2.1).2])] ?_
        simp only [bs, Nat.reduceAdd, ↓vopx, ↓vop, Nat.reduceBEq, thenV, flat, Nat.reduceLT, dLoad, vpart, hl, wocs, ↓goc, ↓woc, ↓vopm0, ↓callC, calleeV, Tryd.ag27, Tryd.sz27, Tryd.un56, Int.toNat_one]
        repeat ((with_reducible refine And.intro ?_ ?_); · first | omega | exact ⟨Tryd.is13, then_ (legT c.labels.length b.labels.length) (pushE a b c f g).2.1 (by omega) (by omega)⟩)
        refine hK17 _ _ ?_
        refine vsk fun K18 hK18 => ?_
        refine vw_sc 0 [] ?_
        simp only [bs, Nat.reduceAdd, ↓vopx, ↓vop, Nat.reduceBEq, thenV, flat, Nat.reduceLT, V.cells, dLoad, vpart, hl, wocs, ↓goc, ↓woc, ↓vopm0, Tryd.ag26, Tryd.sz26, Nat.le_refl, hq20, hq10]
        refine hK18 _ _ ?_
        refine vw_ret ?_
        have hres : vSum (pushS a b c f g) = pack [vObj (pushE a b c f g).1, .t (tInts (thenS (legT b.labels.length 0) (pushE a b c f g).2.1).1), .t (tInts (thenS (legT c.labels.length b.labels.length) (pushE a b c f g).2.1).1), I 0] := by simp [pushS, vSum, ka, kb, kf, kg, hez]; rfl
        rw [hres] at hQ
        refine hQ _ _ _ (.inr rfl) ?_
        refine done_flat (vs := [vObj (pushE a b c f g).1, .t (tInts (thenS (legT b.labels.length 0) (pushE a b c f g).2.1).1), .t (tInts (thenS (legT c.labels.length b.labels.length) (pushE a b c f g).2.1).1), I 0]) ?_ rfl (by simp [pack, nm, nm2, nm1, nm0]) (fun n x hn h => by rw [m_set, if_neg (by omega)]; exact hqk n x hn h)
        show vres Tryd.prog _ _ [.cell 10 26, .tmp 11, .tmp 12, .tmp 13] = _
        simp only [vres_cell, vres_tmp, vres_nil, ev_hit, ev_miss, Nat.reduceBEq, lpv, hl, hq10, Tryd.sz26, Tryd.ag26, dLoad, m_set, vpart, if_true, Nat.reduceLT, List.drop_zero, List.take_succ_cons, List.take_zero, List.length_cons, List.length_nil, Nat.zero_add, Nat.reduceAdd]
end Go.Proofs

open Go Go.V
namespace Go.Proofs
structure LaI (s : Sg) (o : Ob) (L : List Int) (i m7 : Nat) (s' : Sg) : Prop where
  b2 : s'.m s.next = some (.box 26 [.t (tStrs o.labels), .t (tPairs o.pairs)])
  b4 : s'.m (s.next + 1) = some (.box 26 [.t (.v (.slice none 0 0)), .t (.v (.slice none 0 0))])
  a7 : s'.m m7 = some (.arr 1 9 ((glLab o L i).map TS))
  same : ∀ j, j < s.next → s'.m j = s.m j
  lo : s.next + 2 ≤ m7
  hi : m7 < s'.next
theorem glLab_new {o : Ob} {L : List Int} {i : Nat} {z : Int} {lb : ByteArray} (hz : L[i]? = some z) (h : z = (glLab o L i).length) (hl : o.labels[i]? = some lb) : glLab o L (i + 1) = glLab o L i ++ [lb] := by
  have hg := getD_of hz
  unfold glLab at h ⊢
  rw [List.length_map] at h
  show List.map _ (if L.getD i 0 = (fstL L i).length then fstL L i ++ [i] else fstL L i) = _
  rw [hg, if_pos h]
  simp [List.getD_eq_getElem?_getD, hl]
theorem LaI.new {s : Sg} {o : Ob} {L : List Int} {i m7 : Nat} {s' : Sg} (h : LaI s o L i m7 s') {z : Int} {lb : ByteArray} (hz : L[i]? = some z) (hn : z = (glLab o L i).length) (hl : o.labels[i]? = some lb) (B : Blk) : ∃ m, V.loc (s'.next + 1) 0 ((glLab o L i).length + 1) = .loc m 0 (glLab o L (i + 1)).length ∧ LaI s o L (i + 1) m (((s'.add B).del m7).add (.arr 1 9 ((glLab o L i).map TS ++ [TS lb]))) := by
  have hlo := h.lo
  have hhi := h.hi
  have hfr : ∀ x, x < s'.next → x ≠ m7 → (((s'.add B).del m7).add (.arr 1 9 ((glLab o L i).map TS ++ [TS lb]))).m x = s'.m x := fun x h1 h2 => by
    rw [m_add, if_neg (by simp only [n_del, n_add]; omega), m_del, if_neg h2, m_add, if_neg (by omega)]
  refine ⟨s'.next + 1, ?_, ?_, ?_, ?_, fun j hj => ?_, by omega, by simp only [n_del, n_add]; omega⟩
  · rw [glLab_new hz hn hl, List.length_append]; rfl
  · rw [hfr _ (by omega) (by omega)]; exact h.b2
  · rw [hfr _ (by omega) (by omega)]; exact h.b4
  · rw [m_add, if_pos (by simp only [n_del, n_add]), glLab_new hz hn hl, List.map_append]; rfl
  · rw [hfr _ (by omega) (by omega)]; exact h.same j hj
end Go.Proofs

open Go Go.V
namespace Go.Proofs
theorem half22 (n : Nat) : (n * 2 + 2) / 2 = n + 1 := by omega
structure BdI (s : Sg) (b c : Ob) (n6 k m : Nat) (s' : Sg) : Prop where
  b3 : s'.m (s.next + 1) = some (.box 26 [.t (tStrs c.labels), .t (tPairs c.pairs)])
  b4 : s'.m (s.next + 1 + 1) = some (.box 26 [.t (.v (.slice none 0 0)), .t (.v (.slice none 0 0))])
  b6 : s'.m n6 = some (.box 26 [.t (tStrs (b.labels ++ c.labels)), .loc m 0 (b.pairs.length + k)])
  am : s'.m m = some (.arr 2 30 ((b.pairs ++ (c.pairs.take k).map (shP b.labels.length)).flatMap pcells))
  same : ∀ j, j < s.next → s'.m j = s.m j
  l6 : s.next + 3 ≤ n6 ∧ n6 < s'.next
  lm : s.next + 3 ≤ m ∧ m < s'.next
  d : n6 ≠ m
theorem BdI.push {s : Sg} {b c : Ob} {n6 i m : Nat} {s1 : Sg} (h : BdI s b c n6 i m s1) {p : Int × Int} (hp : c.pairs[i]? = some p) (B : Blk) : BdI s b c n6 (i + 1) (s1.next + 1)
    ((((s1.add B).del m).add (.arr 2 30 ((b.pairs ++ (c.pairs.take i).map (shP b.labels.length)).flatMap pcells ++ [TI (p.1 + b.labels.length), TI (p.2 + b.labels.length)]))).set n6 (.box 26 [.t (tStrs (b.labels ++ c.labels)), .loc (s1.next + 1) 0 (b.pairs.length + i + 1)])) := by
  obtain ⟨h3, h4, h6, ha, hs, ⟨l6, l6'⟩, ⟨lm, lm'⟩, hd⟩ := h
  have hfr : ∀ x, x < s1.next → x ≠ m → x ≠ n6 → ((((s1.add B).del m).add (.arr 2 30 ((b.pairs ++ (c.pairs.take i).map (shP b.labels.length)).flatMap pcells ++ [TI (p.1 + b.labels.length), TI (p.2 + b.labels.length)]))).set n6 (.box 26 [.t (tStrs (b.labels ++ c.labels)), .loc (s1.next + 1) 0 (b.pairs.length + i + 1)])).m x = s1.m x := fun x h1 h2 h5 => by
    rw [m_set, if_neg h5, m_add, if_neg (by simp only [n_del, n_add]; omega), m_del, if_neg h2, m_add, if_neg (by omega)]
  refine ⟨by rw [hfr _ (by omega) (by omega) (by omega)]; exact h3, by rw [hfr _ (by omega) (by omega) (by omega)]; exact h4, by rw [m_set, if_pos rfl]; rfl, ?_, fun j hj => by rw [hfr _ (by omega) (by omega) (by omega)]; exact hs j hj, ⟨l6, by simp only [n_set, n_add, n_del]; omega⟩, ⟨by omega, by simp only [n_set, n_add, n_del]; omega⟩, by omega⟩
  rw [m_set, if_neg (by omega), m_add, if_pos (by simp only [n_del, n_add]), List.take_add_one, hp]
  simp [shP, pcells]
end Go.Proofs

open Go Go.V
namespace Go.Proofs
def rwB (i j : Nat) : List (Int × Int) := (List.range j).map fun (x : Nat) => ((i : Int), ((i + 1 + x : Nat) : Int))
def rwK (n : Nat) : Nat → List (Int × Int)
  | 0 => []
  | i + 1 => rwK n i ++ rwB i (n - (i + 1))
def rwS (l : List ByteArray) : Ob := ⟨l, rwK l.length l.length⟩
theorem rwB_succ (i j : Nat) : rwB i (j + 1) = rwB i j ++ [((i : Int), ((i + 1 + j : Nat) : Int))] := by simp [rwB, List.range_succ]
theorem rwB_len (i j : Nat) : (rwB i j).length = j := by simp [rwB]
theorem rwK_len (n : Nat) : ∀ i, (rwK n i).length ≤ i * n
  | 0 => by simp [rwK]
  | i + 1 => by
    have := rwK_len n i
    simp only [rwK, List.length_append, rwB_len, Nat.succ_mul]; omega
structure RoI (s : Sg) (l : List ByteArray) (P : List (Int × Int)) (m : Nat) (s' : Sg) : Prop where
  b2 : s'.m s.next = some (.box 26 [.t (.v (.slice none 0 0)), .t (.v (.slice none 0 0))])
  b3 : s'.m (s.next + 1) = some (.box 26 [.t (tStrs l), .loc m 0 P.length])
  am : s'.m m = some (.arr 2 30 (P.flatMap pcells))
  same : ∀ j, j < s.next → s'.m j = s.m j
  lm : s.next + 2 ≤ m ∧ m < s'.next
theorem RoI.push {s : Sg} {l : List ByteArray} {P : List (Int × Int)} {m : Nat} {s1 : Sg} (h : RoI s l P m s1) (p : Int × Int) (B : Blk) : RoI s l (P ++ [p]) (s1.next + 1)
    ((((s1.add B).del m).add (.arr 2 30 (P.flatMap pcells ++ [TI p.1, TI p.2]))).set (s.next + 1) (.box 26 [.t (tStrs l), .loc (s1.next + 1) 0 (P.length + 1)])) := by
  obtain ⟨h2, h3, ha, hs, lm, lm'⟩ := h
  have hfr : ∀ x, x < s1.next → x ≠ m → x ≠ s.next + 1 → ((((s1.add B).del m).add (.arr 2 30 (P.flatMap pcells ++ [TI p.1, TI p.2]))).set (s.next + 1) (.box 26 [.t (tStrs l), .loc (s1.next + 1) 0 (P.length + 1)])).m x = s1.m x := fun x h1 h2 h5 => by
    rw [m_set, if_neg h5, m_add, if_neg (by simp only [n_del, n_add]; omega), m_del, if_neg h2, m_add, if_neg (by omega)]
  refine ⟨by rw [hfr _ (by omega) (by omega) (by omega)]; exact h2, by rw [m_set, if_pos rfl, List.length_append]; rfl, ?_, fun j hj => by rw [hfr _ (by omega) (by omega) (by omega)]; exact hs j hj, by omega, by simp only [n_set, n_add, n_del]; omega⟩
  rw [m_set, if_neg (by omega), m_add, if_pos (by simp only [n_del, n_add])]
  simp [pcells]
set_option maxRecDepth 20000 in
set_option maxHeartbeats 4000000 in
theorem row_ (l : List ByteArray) (hl20 : l.length ≤ 20) : PCall Tryd.prog 12 [.t (tStrs l)] (vObj (rwS l)) := by
  refine pcall_of_body Tryd.func12 rfl fun s Q hQ => ?_
  obtain ⟨e, he, hl, h0⟩ : ∃ e : Env, ([.t (tStrs l)] ++ List.replicate (Tryd.f12.ntmps - ([.t (tStrs l)] : List V).length) .junk) = e ∧ e.length = 31 ∧ ev e (.tmp 0) = .t (tStrs l) := ⟨_, rfl, rfl, rfl⟩
  rw [he]
  clear he
  refine vsk fun K1 hK1 => ?_
  refine vw_sc 0 [] ?_
  simp only [bs, ↓vopx, ↓vop, thenV, wocs, ↓goc, ↓woc, ↓vopm0, Tryd.zv26]
  refine hK1 _ _ ?_
  refine vsk fun K2 hK2 => ?_
  refine vw_sc 0 [] ?_
  simp only [bs, Nat.reduceLeDiff, Nat.reduceAdd, vparts, gfill, ↓vopx, ↓vop, Nat.reduceBEq, thenV, Nat.reduceLT, V.cells, hl, h0, wocs, ↓goc, ↓woc, ↓vopm0, Tryd.st26, Tryd.sz26, Tryd.zv26, nns]
  refine hK2 _ _ ?_
  refine vsk fun K3 hK3 => ?_
  refine vsk fun K4 hK4 => ?_
  refine VW.nameBox (s.next + 1) 1 2 30 (by omega) (ty := 26) (cs := [.t (tStrs l), .t (.v (.slice none 0 0))]) (by simp only [m_set, m_add, n_add, nns, if_true, if_false]) rfl ?_
  refine vw_st2 fun s2 hS2 => ?_
  have hI : RoI s l (rwK l.length 0) (s.next + 2) s2 := by
    refine ⟨?_, ?_, ?_, fun j hj => ?_, Nat.le_refl _, ?_⟩
    · rw [hS2]; simp only [m_set, m_add, n_add, n_set, nns, if_true, if_false]
    · rw [hS2]; simp only [m_set, m_add, n_add, n_set, nns, if_true, if_false]; rfl
    · rw [hS2]; simp only [m_set, m_add, n_add, n_set, nns, if_true, if_false]; rfl
    · have z0 : ¬ j = s.next := (by omega); have z1 : ¬ j = s.next + 1 := (by omega); have z2 : ¬ j = s.next + 1 + 1 := (by omega); rw [hS2]; simp only [m_set, m_add, n_add, n_set, z0, z1, z2, if_false]
    · rw [hS2]; simp only [n_add, n_set]; omega
  clear hS2
  refine vw_sc 0 [] ?_
  simp only [bs, ↓vopx, ↓vop, thenV, flat, wocs, ↓goc, ↓woc, ↓vopm0]
  refine hK4 _ _ ?_
  refine vw_block ?_
  refine vw_loop (fun mm e' s' => ∃ i : Nat, mm = l.length - i ∧ i ≤ l.length ∧ e'.length = 31 ∧ ev e' (.tmp 0) = .t (tStrs l) ∧ ev e' (.tmp 2) = .ptr s.next 0 ∧ ev e' (.tmp 3) = .ptr (s.next + 1) 0 ∧ ev e' (.tmp 4) = I i ∧ True ∧ ∃ m, RoI s l (rwK l.length i) m s') (⟨0, rfl, Nat.zero_le _, ?_⟩) ?_
  · try simp only [ev_hit, ev_miss, Nat.reduceBEq, lpv, hl, h0, Nat.reduceLT, true_and]
    repeat ((with_reducible refine And.intro ?_ ?_); · trivial)
    exact ⟨_, hI⟩
  rintro mm e s1 ⟨i, rfl, hle_i, hl, k0, k2, k3, h_i, hst, ⟨m, hI⟩⟩
  refine vsk fun K5 hK5 => ?_
  refine vsk fun K6 hK6 => ?_
  refine vw_sc 0 [] ?_
  simp only [bs, ↓vopx, ↓vop, Nat.reduceBEq, thenV, Nat.reduceLT, opII, hl, k0, h_i, wocs, ↓goc, ↓woc, ↓vopm0, len_tStrs, Tryd.underlying23]
  refine hK6 _ _ ?_
  refine vck fun A B hA hB => ?_
  simp only [condV, ev_hit, lpv, Nat.reduceLT, decide_eq_true_eq, decide_eq_false_iff_not, hl]
  refine ⟨fun hc11 => hA ?_, fun hc11 => hB ?_⟩
  · clear hA hB A B
    refine vw_skip ?_
    refine hK5 _ _ ?_
    refine vsk fun K7 hK7 => ?_
    refine vw_block ?_
    refine vsk fun K8 hK8 => ?_
    have hil : i < l.length := by omega
    refine vw_sc 0 [] ?_
    simp only [bs, ↓vopx, ↓vop, Nat.reduceBEq, thenV, flat, Nat.reduceLT, opII, hl, h_i, wocs, ↓goc, ↓woc, ↓vopm0]
    repeat ((with_reducible refine And.intro ?_ ?_); · exact ⟨by omega, by omega⟩)
    refine hK8 _ _ ?_
    refine vw_block ?_
    refine vw_loop (fun mm e' s' => ∃ j : Nat, mm = (l.length - (i + 1)) - j ∧ j ≤ (l.length - (i + 1)) ∧ e'.length = 31 ∧ ev e' (.tmp 0) = .t (tStrs l) ∧ ev e' (.tmp 2) = .ptr s.next 0 ∧ ev e' (.tmp 3) = .ptr (s.next + 1) 0 ∧ ev e' (.tmp 4) = I i ∧ ev e' (.tmp 5) = I ((i + 1 + j : Nat) : Int) ∧ True ∧ ∃ m, RoI s l (rwK l.length i ++ rwB i j) m s') (⟨0, rfl, Nat.zero_le _, ?_⟩) ?_
    · try simp only [ev_hit, ev_miss, Nat.reduceBEq, lpv, hl, k0, k2, k3, h_i, Nat.reduceLT, true_and]
      repeat ((with_reducible refine And.intro ?_ ?_); · trivial)
      exact ⟨_, by rw [show rwB i 0 = [] from rfl, List.append_nil]; exact hI⟩
    rintro mm e s1 ⟨j, rfl, hle_j, hl, q0, q2, q3, q4, h_j, hst, ⟨m, hI⟩⟩
    refine vsk fun K9 hK9 => ?_
    refine vsk fun K10 hK10 => ?_
    refine vw_sc 0 [] ?_
    simp only [bs, ↓vopx, ↓vop, Nat.reduceBEq, thenV, Nat.reduceLT, opII, hl, q0, h_j, wocs, ↓goc, ↓woc, ↓vopm0, len_tStrs, Tryd.underlying23]
    refine hK10 _ _ ?_
    refine vck fun A B hA hB => ?_
    simp only [condV, ev_hit, lpv, Nat.reduceLT, decide_eq_true_eq, decide_eq_false_iff_not, hl]
    refine ⟨fun hc19 => hA ?_, fun hc19 => hB ?_⟩
    · clear hA hB A B
      refine vw_skip ?_
      refine hK9 _ _ ?_
      refine vsk fun K11 hK11 => ?_
      refine vw_block ?_
      have hb3 := hI.b3
      have ham := hI.am
      have lm := hI.lm
      have hjl : i + 1 + j < l.length := by omega
      have hpl : (rwK l.length i ++ rwB i j).length ≤ 1000 := by
        have := rwK_len l.length i
        have h2 : i * l.length ≤ 20 * 20 := Nat.mul_le_mul (by omega) hl20
        rw [List.length_append, rwB_len]; omega
      have hfl := flat_length (rwK l.length i ++ rwB i j)
      have y1 : ¬ s.next + 1 = m := by omega
      have y3 : ¬ m = s.next + 1 := fun h => y1 h.symm
      have y4 : ¬ s.next + 1 = s1.next := by omega
      have y5 : ¬ m = s1.next := by omega
      have y6 : ¬ s1.next = m := by omega
      have y7 : ¬ s.next + 1 = s1.next + 1 := by omega
      refine vw_sc 0 [] ?_
      simp only [bs, dstT, srcT, Nat.reduceLeDiff, Nat.reduceAdd, vparts, gfill, repl, Sg.frzP, ↓vopx, ↓vop, Nat.reduceBEq, thenV, blockV, Nat.reduceLT, V.cells, dLoad, vpart, Sg.frzL, Sg.frz1, hl, q3, q4, h_j, wocs, ↓goc, ↓woc, ↓vopm0, Tryd.ag24, Tryd.fd26_1, Tryd.sl24, Tryd.st30, Tryd.sz24, half22, nns, hb3, ham, hfl, y1, y4, y5, y7]
      repeat ((with_reducible refine And.intro ?_ ?_); · omega)
      refine hK11 _ _ ?_
      refine vw_sc 0 [] ?_
      simp only [bs, ↓vopx, ↓vop, Nat.reduceBEq, thenV, flat, Nat.reduceLT, opII, hl, q0, q2, q3, q4, h_j, wocs, ↓goc, ↓woc, ↓vopm0]
      repeat ((with_reducible refine And.intro ?_ ?_); · exact ⟨by omega, by omega⟩)
      refine ⟨(l.length - (i + 1)) - (j + 1), by omega, j + 1, rfl, by omega, ?_⟩
      try simp only [ev_hit, ev_miss, Nat.reduceBEq, lpv, hl, q0, q2, q3, q4, h_j, if_true, if_false, Nat.reduceEqDiff, Nat.reduceLT, true_and, and_true]
      repeat ((with_reducible refine And.intro ?_ ?_); · trivial)
      exact ⟨_, by rw [rwB_succ, ← List.append_assoc]; exact hI.push _ _⟩
    · clear hA hB A B
      refine vw_exit ?_
      simp only [thenV, blockV, if_true, if_false, Nat.reduceEqDiff, reduceCtorEq]
      refine hK7 _ _ ?_
      refine vw_sc 0 [] ?_
      simp only [bs, ↓vopx, ↓vop, Nat.reduceBEq, thenV, flat, Nat.reduceLT, opII, hl, q0, q2, q3, q4, wocs, ↓goc, ↓woc, ↓vopm0]
      repeat ((with_reducible refine And.intro ?_ ?_); · exact ⟨by omega, by omega⟩)
      refine ⟨l.length - (i + 1), by omega, i + 1, rfl, by omega, ?_⟩
      try simp only [ev_hit, ev_miss, Nat.reduceBEq, lpv, hl, k0, k2, k3, h_i, if_true, if_false, Nat.reduceEqDiff, Nat.reduceLT, true_and, and_true]
      repeat ((with_reducible refine And.intro ?_ ?_); · trivial)
      exact ⟨_, by rw [show rwK l.length (i + 1) = rwK l.length i ++ rwB i j from by rw [show rwK l.length (i + 1) = rwK l.length i ++ rwB i (l.length - (i + 1)) from rfl, show l.length - (i + 1) = j from by omega]]; exact hI⟩
  · clear hA hB A B
    refine vw_exit ?_
    simp only [thenV, blockV, if_true]
    refine hK3 _ _ ?_
    refine vsk fun K12 hK12 => ?_
    have hii : i = l.length := by omega
    subst hii
    have lm := hI.lm
    have ham := hI.am
    have hb3 := hI.b3
    have hb2 := hI.b2
    have hsm := hI.same
    refine VW.freezeBox (s.next + 1) 1 (n := m) hb3 rfl ham (by rw [flat_length]) ?_
    have y8 : ¬ s.next = m := by omega
    have y9 : ¬ s.next + 1 = m := by omega
    refine vw_sc 0 [] ?_
    simp only [bs, Nat.reduceAdd, ↓vopx, ↓vop, Nat.reduceBEq, thenV, Nat.reduceLT, V.cells, dLoad, vpart, hl, k2, k3, wocs, ↓goc, ↓woc, ↓vopm0, Tryd.ag26, Tryd.sz26, nns, hb2, y8, y9, List.set_cons_succ, List.set_cons_zero]
    refine hK12 _ _ ?_
    refine vw_ret ?_
    refine hQ _ _ _ (.inr rfl) (Done.toS ?_)
    refine done_flat (vs := [vObj (rwS l)]) ?_ rfl (by simp [pack, nm, nm2, nm1, nm0]) (fun n b hn h => by rw [m_set, if_neg (by omega), m_set, if_neg (by omega), m_del, if_neg (by omega)]; exact (hsm n hn).trans h)
    show vres Tryd.prog _ _ [.cell 2 26] = _
    simp only [vres_cell, vres_nil, ev_miss, Nat.reduceBEq, k2, Tryd.sz26, Tryd.ag26, dLoad, m_set, vpart, if_true, List.drop_zero, List.take_succ_cons, List.take_zero, List.length_cons, List.length_nil, Nat.zero_add, Nat.reduceAdd]
    rfl
end Go.Proofs

open Go Go.V
namespace Go.V
variable {P : Program} {ops : Array Oper} {Q : Exit → Env → Sg → Prop} {e : Env} {s : Sg}
theorem vl_conv {i m : Nat} {o : Oper} (hi : ops[i]? = some o) (hg : o.guard = none) {t t' : TypeId} {x : Operand} (ho : o.op = .convert t t' x) {a v : Value} (hx : vflat (ev e x) = some a) (hv : flatly (calm P (convert t t' a)) = some v)
    (h : VL P ops Q (List.range' (i + 1) m) (putv e o.dst (.t (.v v))) s) : VL P ops Q (List.range' i (m + 1)) e s := by
  rw [List.range'_succ]
  exact vl_cons hi hg (Sound.opg (sound_conv ho hx hv h))
theorem rem_u8 (t : TypeId) (x y : Operand) (a b : Int) (h0 : 0 ≤ a) (h1 : 0 < b) : vbin P .rem t x y (.int .u8 a) (.int .u8 b) = some (.int .u8 (a % b)) := by
  have hb : b ≠ 0 := by omega
  have e1 : a.tmod b = a % b := Int.tmod_eq_emod_of_nonneg h0
  simp only [vbin, eqGuard, Go.binOp, Op.intDiv, hb, if_false, e1]
  rfl
end Go.V
namespace Go.Proofs
end Go.Proofs

open Go Go.V
namespace Go.Proofs
theorem adj_nodup : ∀ {l : List Int}, l.Pairwise (· ≤ ·) → (adjB l = false ↔ l.Nodup)
  | [], _ => by simp [adjB]
  | [a], _ => by simp [adjB]
  | a :: b :: l, h => by
    have h1 := List.pairwise_cons.1 h
    have ih := adj_nodup h1.2
    have h2 := List.pairwise_cons.1 h1.2
    simp only [adjB, Bool.or_eq_false_iff, beq_eq_false_iff_ne]
    rw [ih, List.nodup_cons (a := a)]
    constructor
    · rintro ⟨h3, h4⟩
      refine ⟨fun hm => ?_, h4⟩
      rcases List.mem_cons.1 hm with e | e
      · exact h3 e
      · have k1 := h1.1 b (by simp)
        have k2 := h2.1 a e
        omega
    · rintro ⟨h3, h4⟩
      exact ⟨fun e => h3 (by simp [e]), h4⟩
theorem injS_iff (f : List Int) : injS f = decide f.Nodup := by
  have hs : (sortZ f).Pairwise (· ≤ ·) := by
    have := List.pairwise_mergeSort (le := fun x y : Int => decide (x ≤ y)) (fun a b c h1 h2 => by simp at h1 h2 ⊢; omega) (fun a b => by simp; omega) f
    exact this.imp fun h => by simpa using h
  have hp : (sortZ f).Nodup ↔ f.Nodup := (List.mergeSort_perm f _).nodup_iff
  have := adj_nodup hs
  unfold injS
  cases h : adjB (sortZ f) with
  | false => simp [hp.1 (this.1 h)]
  | true =>
    have : ¬ f.Nodup := fun hn => by have := this.2 (hp.2 hn); rw [h] at this; cases this
    simp [this]
theorem nc2 : ((2 : Nat) : Int) = 2 := rfl
theorem nc3 : ((3 : Nat) : Int) = 3 := rfl
end Go.Proofs

open Go Go.V
namespace Go.Proofs
def RepOK (R : List Int) : Prop := ∀ (i : Nat) (z : Int), R[i]? = some z → (0 ≤ z ∧ z ≤ i) ∧ R[z.toNat]? = some z
theorem RepOK.wf {R : List Int} (h : RepOK R) : wfU R := fun i z hz => (h i z hz).1
theorem RepOK.range (n : Nat) : RepOK (rangeI n) := fun i z hz => by
  have hi : i < n := by have := (List.getElem?_eq_some_iff.1 hz).1; rwa [rangeI_length] at this
  rw [rangeI_get hi] at hz
  cases hz
  exact ⟨by omega, by simpa using rangeI_get hi⟩
theorem RepOK.join {R : List Int} (h : RepOK R) {a b : Nat} {x y : Int} (hx : R[a]? = some x) (hy : R[b]? = some y) : RepOK (joinL R a b) := by
  obtain ⟨x1, x2⟩ := h a x hx
  obtain ⟨y1, y2⟩ := h b y hy
  intro i z hz
  unfold joinL at hz ⊢
  rw [getD_of hx, getD_of hy] at hz ⊢
  rw [List.getElem?_map] at hz
  obtain ⟨w, hw, rfl⟩ := Option.map_eq_some_iff.1 hz
  obtain ⟨w1, w2⟩ := h i w hw
  have hN : R[(min x y).toNat]? = some (min x y) := by
    rcases Int.le_total x y with hle | hle
    · rw [show min x y = x by omega]; exact x2
    · rw [show min x y = y by omega]; exact y2
  by_cases hm : w = max x y
  · rw [if_pos hm]
    refine ⟨by omega, ?_⟩
    rw [List.getElem?_map, hN]
    simp only [Option.map_some]
    split <;> simp
  · rw [if_neg hm]
    refine ⟨w1, ?_⟩
    rw [List.getElem?_map, w2]
    simp only [Option.map_some, if_neg hm]
end Go.Proofs

open Go Go.V
namespace Go.Proofs
abbrev k7x : ByteArray := ⟨#[120]⟩
abbrev k7y : ByteArray := ⟨#[121]⟩
abbrev k7z : ByteArray := ⟨#[122]⟩
abbrev k7A : Ob := ⟨[k7x], []⟩
abbrev k7B : Ob := ⟨[k7x, k7y], [(0, 1)]⟩
abbrev k7C : Ob := ⟨[k7z, k7x], [(0, 1)]⟩
abbrev k7S : Ob := ⟨[k7x, k7x], []⟩
theorem k7_p1 : (pushS k7A k7B k7C [0] [1]).1.labels.length = 3 ∧ (pushS k7A k7B k7C [0] [1]).1.pairs.length = 3 ∧ (pushS k7A k7B k7C [0] [1]).2.1 = [0, 1] ∧ (pushS k7A k7B k7C [0] [1]).2.2.1 = [2, 0] ∧ (pushS k7A k7B k7C [0] [1]).2.2.2 = 0 := by decide +kernel
theorem k7_p2 : (pushS k7A k7B k7C [0] [0]).2.2.2 = 10 := by decide +kernel
theorem k7_s : (sumS k7A k7A).1.labels = [k7x, k7x] ∧ (sumS k7A k7A).1.pairs = [] ∧ (sumS k7A k7A).2.1 = [0] ∧ (sumS k7A k7A).2.2.1 = [1] ∧ (sumS k7A k7A).2.2.2 = 0 := by decide +kernel
theorem k7_e : (eqS k7A k7S [0] [1]).1.labels.length = 1 ∧ (eqS k7A k7S [0] [1]).2.1 = [0, 0] ∧ (eqS k7A k7S [0] [1]).2.2 = 0 := by decide +kernel
end Go.Proofs

open Go Go.V
namespace Go.Proofs
def o7P : Ob := (pushS k7A k7B k7C [0] [1]).1
def o7E : Ob := (eqS k7A k7S [0] [1]).1
def q7 : Ob × List Int × List Int × Int := pushS k7A k7B k7C [0] [0]
theorem o7P_l : o7P.labels.length = 3 := k7_p1.1
theorem o7P_p : o7P.pairs.length = 3 := k7_p1.2.1
theorem o7E_l : o7E.labels.length = 1 := k7_e.1
theorem vw_en {P : Program} {c : Code} {Q : Exit → Env → Sg → Prop} {e : Env} {s : Sg} (h : ∀ e1, e1 = e → VW P c Q e1 s) : VW P c Q e s := h e rfl
theorem nc1 : ((1 : Nat) : Int) = 1 := rfl
theorem vlen_sl1 (cs : List T) : vlen (.t (.sl 1 cs)) = some cs.length := by simp [vlen]
theorem vsum_at {r : Ob × List Int × List Int × Int} {f g : List Int} {z : Int} (h1 : r.2.1 = f) (h2 : r.2.2.1 = g) (h3 : r.2.2.2 = z) : vSum r = .tup [vObj r.1, .t (tInts f), .t (tInts g), I z] := by subst h1 h2 h3; rfl
theorem vsum_ob {r : Ob × List Int × List Int × Int} {f g : List Int} {z : Int} {o : Ob} (h0 : r.1.labels = o.labels) (h0' : r.1.pairs = o.pairs) (h1 : r.2.1 = f) (h2 : r.2.2.1 = g) (h3 : r.2.2.2 = z) : vSum r = .tup [vObj o, .t (tInts f), .t (tInts g), I z] := by
  subst h1 h2 h3
  obtain ⟨o1, l, m, y⟩ := r
  obtain ⟨a, b⟩ := o1
  obtain ⟨c, d⟩ := o
  simp only at h0 h0'
  subst h0 h0'
  rfl
theorem veq_at {r : Ob × List Int × Int} {f : List Int} {z : Int} (h1 : r.2.1 = f) (h3 : r.2.2 = z) : vEq r = .tup [vObj r.1, .t (tInts f), I z] := by subst h1 h3; rfl
theorem kc7_p1 : PCall Tryd.prog 11 [vObj k7A, vObj k7B, vObj k7C, .t (tInts [0]), .t (tInts [1])] (.tup [vObj o7P, .t (tInts [0, 1]), .t (tInts [2, 0]), I 0]) := by
  have h := vsum_at k7_p1.2.2.1 k7_p1.2.2.2.1 k7_p1.2.2.2.2
  have := push_ k7A k7B k7C [0] [1] (by decide) (by decide) (by decide) (by decide) (by decide) (by decide) (by decide) (by decide)
  rw [h] at this
  exact this
theorem kc7_p2 : PCall Tryd.prog 11 [vObj k7A, vObj k7B, vObj k7C, .t (tInts [0]), .t (tInts [0])] (.tup [vObj q7.1, .t (tInts q7.2.1), .t (tInts q7.2.2.1), I 10]) := by
  have h := vsum_at (r := pushS k7A k7B k7C [0] [0]) rfl rfl k7_p2
  have := push_ k7A k7B k7C [0] [0] (by decide) (by decide) (by decide) (by decide) (by decide) (by decide) (by decide) (by decide)
  rw [h] at this
  exact this
theorem kc7_s : PCall Tryd.prog 22 [vObj k7A, vObj k7A] (.tup [vObj k7S, .t (tInts [0]), .t (tInts [1]), I 0]) := by
  have h := vsum_ob (o := k7S) k7_s.1 k7_s.2.1 k7_s.2.2.1 k7_s.2.2.2.1 k7_s.2.2.2.2
  have := sum_ k7A k7A (by decide) (by decide) (by decide) (by decide)
  rw [h] at this
  exact this
theorem kc7_e : PCall Tryd.prog 23 [vObj k7A, vObj k7S, .t (tInts [0]), .t (tInts [1])] (.tup [vObj o7E, .t (tInts [0, 0]), I 0]) := by
  have h := veq_at k7_e.2.1 k7_e.2.2
  have := equal_ k7A k7S [0] [1] (by decide) (by decide) (by decide) (by decide) (by decide) (by decide)
  rw [h] at this
  exact this
set_option maxRecDepth 20000 in
set_option maxHeartbeats 8000000 in
theorem known7_  : PCall Tryd.prog 10 [] (Bo true) := by
  refine pcall_of_body Tryd.func10 rfl fun s Q hQ => ?_
  obtain ⟨e, he, hl⟩ : ∃ e : Env, ([] ++ List.replicate (Tryd.f10.ntmps - ([] : List V).length) .junk) = e ∧ e.length = 158 := ⟨_, rfl, rfl⟩
  rw [he]
  clear he
  refine vsk fun K1 hK1 => ?_
  refine vw_sc 0 [] ?_
  simp only [bs, ↓vopx, ↓vop, thenV, flat, wocs, ↓goc, ↓woc, ↓vopm0]
  refine hK1 _ _ ?_
  refine vsk fun K2 hK2 => ?_
  refine vw_cut 10 rfl ?_
  refine vl_chunk 1 0 6 4 [] [] (by decide +kernel) (by decide) fun ops' KC hgs hKC => ?_
  simp only [bs, Nat.reduceLeDiff, Nat.reduceAdd, vparts, gfill, repl, Sg.frzP, ↓vopx, Nat.reduceBEq, flat, Nat.reduceLT, V.cells, Sg.frzL, Sg.frz1, hl, wocs, ↓goc, ↓woc, ↓vopm1, Tryd.sl23, Tryd.sl24, Tryd.st26, Tryd.st30]
  repeat ((with_reducible refine And.intro ?_ ?_); · omega)
  refine hKC _ _ ?_
  clear hgs hKC KC ops'
  refine vl_env fun e1_0 hE => ?_
  have hl1_0 : e1_0.length = 158 := by rw [hE]; simp only [lpv, hl]
  have q20 : ev e1_0 (.tmp 20) = .agg [.t (.sl 1 [.v (.string k7x)]), .t (.v (.slice none 0 0))] := by rw [hE]; simp only [ev_hit, ev_miss, Nat.reduceBEq, lpv, hl, Nat.reduceLT]
  have q24 : ev e1_0 (.tmp 24) = .agg [.t (.sl 1 [.v (.string k7x), .v (.string k7y)]), .t (.sl 2 [.v (.int .i64 0), .v (.int .i64 1)])] := by rw [hE]; simp only [ev_hit, lpv, hl, Nat.reduceLT]
  clear hE
  refine vl_chunk 1 6 4 0 [] [] (by decide +kernel) (by decide) fun ops' KC hgs hKC => ?_
  simp only [bs, Nat.reduceAdd, ↓vopx, ↓vop, Nat.reduceBEq, Nat.reduceLT, V.cells, hl1_0, q20, q24, wocs, ↓goc, ↓woc, ↓vopm1, Tryd.sz26, Tryd.zv26, nns]
  refine hKC _ _ ?_
  clear hgs hKC KC ops'
  refine vl_nil ?_
  try simp only [thenV]
  refine hK2 _ _ ?_
  refine vsk fun K3 hK3 => ?_
  refine VW.nilBox s.next 1 2 (by omega) (ty := 26) (vs := [.t (.sl 1 [.v (.string k7x)]), .t (.v (.slice none 0 0))]) (by simp only [m_set, m_add, n_add, nns, if_true, if_false]) rfl ?_
  refine vw_en fun eb hE => ?_
  have hlb : eb.length = 158 := by rw [hE]; simp only [lpv, hl1_0]
  have b1 : ev eb (.tmp 1) = .ptr (s.next) 0 := by rw [hE]; simp only [ev_hit, ev_miss, Nat.reduceBEq, hl1_0, Nat.reduceLT]
  have b2 : ev eb (.tmp 2) = .ptr (s.next + 1) 0 := by rw [hE]; simp only [ev_hit, lpv, hl1_0, Nat.reduceLT]
  clear hE
  refine vw_st fun sb hS => ?_
  have bA : sb.m (s.next) = some (.box 26 [.t (.sl 1 [.v (.string k7x)]), .t (.sl 2 [])]) := by rw [hS]; simp only [m_set, m_add, n_add, nns, if_true, if_false, List.set_cons_succ, List.set_cons_zero]
  have bB : sb.m (s.next + 1) = some (.box 26 [.t (.sl 1 [.v (.string k7x), .v (.string k7y)]), .t (.sl 2 [.v (.int .i64 0), .v (.int .i64 1)])]) := by rw [hS]; simp only [m_set, m_add, n_add, nns, if_true, if_false, List.set_cons_succ, List.set_cons_zero]
  have hnb : sb.next = s.next + 1 + 1 := by rw [hS]; simp only [n_add, n_set, ]
  have hkb : ∀ j, j < s.next → sb.m j = s.m j := fun j hj => by have z0 : ¬ j = s.next := (by omega); have z1 : ¬ j = s.next + 1 := (by omega); rw [hS]; simp only [m_set, m_add, n_add, z0, z1, if_false]
  clear hS
  refine vw_sc 1 [] ?_
  simp only [bs, Nat.reduceLeDiff, Nat.reduceAdd, vparts, gfill, repl, Sg.frzP, ↓vopx, ↓vop, Nat.reduceBEq, thenV, flat, Nat.reduceLT, V.cells, Sg.frzL, Sg.frz1, hlb, hnb, wocs, ↓goc, ↓woc, ↓vopm1, Tryd.sl23, Tryd.sl24, Tryd.st26, Tryd.st30, Tryd.sz26, Tryd.zv26, nns]
  repeat ((with_reducible refine And.intro ?_ ?_); · omega)
  refine hK3 _ _ ?_
  refine vsk fun K4 hK4 => ?_
  refine vw_en fun ec hE => ?_
  have hlc : ec.length = 158 := by rw [hE]; simp only [lpv, hlb]
  have c1 : ev ec (.tmp 1) = .ptr (s.next) 0 := by rw [hE]; simp only [ev_miss, Nat.reduceBEq, b1]
  have c2 : ev ec (.tmp 2) = .ptr (s.next + 1) 0 := by rw [hE]; simp only [ev_miss, Nat.reduceBEq, b2]
  have c3 : ev ec (.tmp 3) = .ptr (s.next + 1 + 1) 0 := by rw [hE]; simp only [ev_hit, lpv, hlb, Nat.reduceLT]
  clear hE
  refine vw_st fun sc hS => ?_
  have cA : sc.m (s.next) = some (.box 26 [.t (.sl 1 [.v (.string k7x)]), .t (.sl 2 [])]) := by rw [hS]; simp only [m_set, m_add, nns, if_false, bA, hnb]
  have cB : sc.m (s.next + 1) = some (.box 26 [.t (.sl 1 [.v (.string k7x), .v (.string k7y)]), .t (.sl 2 [.v (.int .i64 0), .v (.int .i64 1)])]) := by rw [hS]; simp only [m_set, m_add, nns, if_false, bB, hnb]
  have cC : sc.m (s.next + 1 + 1) = some (.box 26 [.t (.sl 1 [.v (.string k7z), .v (.string k7x)]), .t (.sl 2 [.v (.int .i64 0), .v (.int .i64 1)])]) := by rw [hS]; simp only [m_set, m_add, if_true, hnb]
  have hnc : sc.next = s.next + 1 + 1 + 1 := by rw [hS]; simp only [n_add, n_set, hnb]
  have hkc : ∀ j, j < s.next → sc.m j = s.m j := fun j hj => by have z0 : ¬ j = s.next := (by omega); have z1 : ¬ j = s.next + 1 := (by omega); have z2 : ¬ j = s.next + 1 + 1 := (by omega); rw [hS]; simp only [m_set, m_add, hnb, z2, if_false, hkb j hj]
  clear hS
  refine vw_sc 1 [.pur (.tup [vObj o7P, .t (tInts [0, 1]), .t (tInts [2, 0]), I 0])] ?_
  simp only [bs, Nat.reduceLeDiff, Nat.reduceAdd, vparts, gfill, repl, Sg.frzP, ↓vopx, ↓vop, Nat.reduceBEq, thenV, flat, Nat.reduceLT, V.cells, dLoad, vpart, Sg.frzL, Sg.frz1, hlc, c1, c2, c3, cA, cB, cC, hnc, wocs, ↓goc, ↓woc, ↓vopm1, ↓callC, calleeV, Tryd.ag26, Tryd.sl27, Tryd.sz26, Tryd.zv26, nns]
  repeat ((with_reducible refine And.intro ?_ ?_); · exact ⟨Tryd.is11, kc7_p1⟩)
  refine hK4 _ _ ?_
  refine vsk fun K5 hK5 => ?_
  refine vw_en fun ed hE => ?_
  have hld : ed.length = 158 := by rw [hE]; simp only [lpv, hlc]
  have d1 : ev ed (.tmp 1) = .ptr (s.next) 0 := by rw [hE]; simp only [ev_miss, Nat.reduceBEq, c1]
  have d2 : ev ed (.tmp 2) = .ptr (s.next + 1) 0 := by rw [hE]; simp only [ev_miss, Nat.reduceBEq, c2]
  have d3 : ev ed (.tmp 3) = .ptr (s.next + 1 + 1) 0 := by rw [hE]; simp only [ev_miss, Nat.reduceBEq, c3]
  have d4 : ev ed (.tmp 4) = .ptr (s.next + 1 + 1 + 1) 0 := by rw [hE]; simp only [ev_hit, ev_miss, Nat.reduceBEq, lpv, hlc, Nat.reduceLT]
  have d5 : ev ed (.tmp 5) = .t (tInts [0, 1]) := by rw [hE]; simp only [ev_hit, ev_miss, Nat.reduceBEq, lpv, hlc, Nat.reduceLT]
  have d6 : ev ed (.tmp 6) = .t (tInts [2, 0]) := by rw [hE]; simp only [ev_hit, ev_miss, Nat.reduceBEq, lpv, hlc, Nat.reduceLT]
  have d7 : ev ed (.tmp 7) = I 0 := by rw [hE]; simp only [ev_hit, lpv, hlc, Nat.reduceLT]
  clear hE
  refine vw_st fun sd hS => ?_
  have dA : sd.m (s.next) = some (.box 26 [.t (.sl 1 [.v (.string k7x)]), .t (.sl 2 [])]) := by rw [hS]; simp only [m_set, m_add, nns, if_false, cA, hnc]
  have dB : sd.m (s.next + 1) = some (.box 26 [.t (.sl 1 [.v (.string k7x), .v (.string k7y)]), .t (.sl 2 [.v (.int .i64 0), .v (.int .i64 1)])]) := by rw [hS]; simp only [m_set, m_add, nns, if_false, cB, hnc]
  have dC : sd.m (s.next + 1 + 1) = some (.box 26 [.t (.sl 1 [.v (.string k7z), .v (.string k7x)]), .t (.sl 2 [.v (.int .i64 0), .v (.int .i64 1)])]) := by rw [hS]; simp only [m_set, m_add, nns, if_false, cC, hnc]
  have dP : sd.m (s.next + 1 + 1 + 1) = some (.box 26 [.t (tStrs o7P.labels), .t (tPairs o7P.pairs)]) := by rw [hS]; simp only [m_set, m_add, if_true, hnc]
  have hnd : sd.next = s.next + 1 + 1 + 1 + 1 := by rw [hS]; simp only [n_add, n_set, hnc]
  have hkd : ∀ j, j < s.next → sd.m j = s.m j := fun j hj => by have z0 : ¬ j = s.next := (by omega); have z1 : ¬ j = s.next + 1 := (by omega); have z2 : ¬ j = s.next + 1 + 1 := (by omega); have z3 : ¬ j = s.next + 1 + 1 + 1 := (by omega); rw [hS]; simp only [m_set, m_add, hnc, z3, if_false, hkc j hj]
  clear hS
  refine vw_sc 1 [.pur (.tup [vObj q7.1, .t (tInts q7.2.1), .t (tInts q7.2.2.1), I 10])] ?_
  simp only [bs, Nat.reduceLeDiff, Nat.reduceAdd, vparts, gfill, repl, Sg.frzP, ↓vopx, ↓vop, Nat.reduceBEq, thenV, flat, Nat.reduceLT, V.cells, dLoad, vpart, Sg.frzL, Sg.frz1, hld, d1, d2, d3, dA, dB, dC, hnd, wocs, ↓goc, ↓woc, ↓vopm1, ↓callC, calleeV, Tryd.ag26, Tryd.sl27, Tryd.sz26, Tryd.zv26, nns]
  repeat ((with_reducible refine And.intro ?_ ?_); · exact ⟨Tryd.is11, kc7_p2⟩)
  refine hK5 _ _ ?_
  refine vsk fun K6 hK6 => ?_
  refine vw_en fun ef hE => ?_
  have hlf : ef.length = 158 := by rw [hE]; simp only [lpv, hld]
  have f1 : ev ef (.tmp 1) = .ptr (s.next) 0 := by rw [hE]; simp only [ev_miss, Nat.reduceBEq, d1]
  have f4 : ev ef (.tmp 4) = .ptr (s.next + 1 + 1 + 1) 0 := by rw [hE]; simp only [ev_miss, Nat.reduceBEq, d4]
  have f5 : ev ef (.tmp 5) = .t (tInts [0, 1]) := by rw [hE]; simp only [ev_miss, Nat.reduceBEq, d5]
  have f6 : ev ef (.tmp 6) = .t (tInts [2, 0]) := by rw [hE]; simp only [ev_miss, Nat.reduceBEq, d6]
  have f7 : ev ef (.tmp 7) = I 0 := by rw [hE]; simp only [ev_miss, Nat.reduceBEq, d7]
  have f11 : ev ef (.tmp 11) = I 10 := by rw [hE]; simp only [ev_hit, lpv, hld, Nat.reduceLT]
  clear hE
  refine vw_st fun sf hS => ?_
  have fA : sf.m (s.next) = some (.box 26 [.t (.sl 1 [.v (.string k7x)]), .t (.sl 2 [])]) := by rw [hS]; simp only [m_set, m_add, nns, if_false, dA, hnd]
  have fP : sf.m (s.next + 1 + 1 + 1) = some (.box 26 [.t (tStrs o7P.labels), .t (tPairs o7P.pairs)]) := by rw [hS]; simp only [m_set, m_add, nns, if_false, dP, hnd]
  have hnf : sf.next = s.next + 1 + 1 + 1 + 1 + 1 := by rw [hS]; simp only [n_add, n_set, hnd]
  have hkf : ∀ j, j < s.next → sf.m j = s.m j := fun j hj => by have z0 : ¬ j = s.next := (by omega); have z1 : ¬ j = s.next + 1 := (by omega); have z2 : ¬ j = s.next + 1 + 1 := (by omega); have z3 : ¬ j = s.next + 1 + 1 + 1 := (by omega); have z4 : ¬ j = s.next + 1 + 1 + 1 + 1 := (by omega); rw [hS]; simp only [m_set, m_add, hnd, z4, if_false, hkd j hj]
  clear hS
  refine vw_sc 1 [.pur (.tup [vObj k7S, .t (tInts [0]), .t (tInts [1]), I 0])] ?_
  simp only [bs, Nat.reduceAdd, ↓vopx, ↓vop, Nat.reduceBEq, thenV, Nat.reduceLT, V.cells, dLoad, vpart, hlf, f1, fA, hnf, wocs, ↓goc, ↓woc, ↓vopm1, ↓callC, calleeV, Tryd.ag26, Tryd.sz26, Tryd.zv26]
  repeat ((with_reducible refine And.intro ?_ ?_); · exact ⟨Tryd.is22, kc7_s⟩)
  refine hK6 _ _ ?_
  refine vsk fun K7 hK7 => ?_
  refine vw_en fun eg hE => ?_
  have hlg : eg.length = 158 := by rw [hE]; simp only [lpv, hlf]
  have g1 : ev eg (.tmp 1) = .ptr (s.next) 0 := by rw [hE]; simp only [ev_miss, Nat.reduceBEq, f1]
  have g4 : ev eg (.tmp 4) = .ptr (s.next + 1 + 1 + 1) 0 := by rw [hE]; simp only [ev_miss, Nat.reduceBEq, f4]
  have g5 : ev eg (.tmp 5) = .t (tInts [0, 1]) := by rw [hE]; simp only [ev_miss, Nat.reduceBEq, f5]
  have g6 : ev eg (.tmp 6) = .t (tInts [2, 0]) := by rw [hE]; simp only [ev_miss, Nat.reduceBEq, f6]
  have g7 : ev eg (.tmp 7) = I 0 := by rw [hE]; simp only [ev_miss, Nat.reduceBEq, f7]
  have g11 : ev eg (.tmp 11) = I 10 := by rw [hE]; simp only [ev_miss, Nat.reduceBEq, f11]
  have g12 : ev eg (.tmp 12) = .ptr (s.next + 1 + 1 + 1 + 1 + 1) 0 := by rw [hE]; simp only [ev_hit, ev_miss, Nat.reduceBEq, lpv, hlf, Nat.reduceLT]
  have g13 : ev eg (.tmp 13) = .t (tInts [0]) := by rw [hE]; simp only [ev_hit, ev_miss, Nat.reduceBEq, lpv, hlf, Nat.reduceLT]
  have g14 : ev eg (.tmp 14) = .t (tInts [1]) := by rw [hE]; simp only [ev_hit, ev_miss, Nat.reduceBEq, lpv, hlf, Nat.reduceLT]
  have g15 : ev eg (.tmp 15) = I 0 := by rw [hE]; simp only [ev_hit, lpv, hlf, Nat.reduceLT]
  clear hE
  refine vw_st fun sg hS => ?_
  have gA : sg.m (s.next) = some (.box 26 [.t (.sl 1 [.v (.string k7x)]), .t (.sl 2 [])]) := by rw [hS]; simp only [m_set, m_add, nns, if_false, fA, hnf]
  have gP : sg.m (s.next + 1 + 1 + 1) = some (.box 26 [.t (tStrs o7P.labels), .t (tPairs o7P.pairs)]) := by rw [hS]; simp only [m_set, m_add, nns, if_false, fP, hnf]
  have gS : sg.m (s.next + 1 + 1 + 1 + 1 + 1) = some (.box 26 [.t (tStrs k7S.labels), .t (tPairs k7S.pairs)]) := by rw [hS]; simp only [m_set, m_add, if_true, hnf]
  have hng : sg.next = s.next + 1 + 1 + 1 + 1 + 1 + 1 := by rw [hS]; simp only [n_add, n_set, hnf]
  have hkg : ∀ j, j < s.next → sg.m j = s.m j := fun j hj => by have z0 : ¬ j = s.next := (by omega); have z1 : ¬ j = s.next + 1 := (by omega); have z2 : ¬ j = s.next + 1 + 1 := (by omega); have z3 : ¬ j = s.next + 1 + 1 + 1 := (by omega); have z4 : ¬ j = s.next + 1 + 1 + 1 + 1 := (by omega); have z5 : ¬ j = s.next + 1 + 1 + 1 + 1 + 1 := (by omega); rw [hS]; simp only [m_set, m_add, hnf, z5, if_false, hkf j hj]
  clear hS
  refine vw_sc 1 [.pur (.tup [vObj o7E, .t (tInts [0, 0]), I 0])] ?_
  simp only [bs, Nat.reduceLeDiff, Nat.reduceAdd, vparts, gfill, repl, Sg.frzP, ↓vopx, ↓vop, Nat.reduceBEq, thenV, flat, Nat.reduceLT, V.cells, dLoad, vpart, Sg.frzL, Sg.frz1, hlg, g1, g12, gA, gS, hng, wocs, ↓goc, ↓woc, ↓vopm1, ↓callC, calleeV, Tryd.ag26, Tryd.sl27, Tryd.sz26, Tryd.zv26, nns]
  repeat ((with_reducible refine And.intro ?_ ?_); · exact ⟨Tryd.is23, kc7_e⟩)
  refine hK7 _ _ ?_
  refine vsk fun K8 hK8 => ?_
  refine vw_en fun eh hE => ?_
  have hlh : eh.length = 158 := by rw [hE]; simp only [lpv, hlg]
  have h_4 : ev eh (.tmp 4) = .ptr (s.next + 1 + 1 + 1) 0 := by rw [hE]; simp only [ev_miss, Nat.reduceBEq, g4]
  have h_5 : ev eh (.tmp 5) = .t (tInts [0, 1]) := by rw [hE]; simp only [ev_miss, Nat.reduceBEq, g5]
  have h_6 : ev eh (.tmp 6) = .t (tInts [2, 0]) := by rw [hE]; simp only [ev_miss, Nat.reduceBEq, g6]
  have h_7 : ev eh (.tmp 7) = I 0 := by rw [hE]; simp only [ev_miss, Nat.reduceBEq, g7]
  have h_11 : ev eh (.tmp 11) = I 10 := by rw [hE]; simp only [ev_miss, Nat.reduceBEq, g11]
  have h_12 : ev eh (.tmp 12) = .ptr (s.next + 1 + 1 + 1 + 1 + 1) 0 := by rw [hE]; simp only [ev_miss, Nat.reduceBEq, g12]
  have h_13 : ev eh (.tmp 13) = .t (tInts [0]) := by rw [hE]; simp only [ev_miss, Nat.reduceBEq, g13]
  have h_14 : ev eh (.tmp 14) = .t (tInts [1]) := by rw [hE]; simp only [ev_miss, Nat.reduceBEq, g14]
  have h_15 : ev eh (.tmp 15) = I 0 := by rw [hE]; simp only [ev_miss, Nat.reduceBEq, g15]
  have h_16 : ev eh (.tmp 16) = .ptr (s.next + 1 + 1 + 1 + 1 + 1 + 1) 0 := by rw [hE]; simp only [ev_hit, ev_miss, Nat.reduceBEq, lpv, hlg, Nat.reduceLT]
  have h_17 : ev eh (.tmp 17) = .t (tInts [0, 0]) := by rw [hE]; simp only [ev_hit, ev_miss, Nat.reduceBEq, lpv, hlg, Nat.reduceLT]
  have h_18 : ev eh (.tmp 18) = I 0 := by rw [hE]; simp only [ev_hit, lpv, hlg, Nat.reduceLT]
  clear hE
  refine vw_st fun sh hS => ?_
  have hP : sh.m (s.next + 1 + 1 + 1) = some (.box 26 [.t (tStrs o7P.labels), .t (tPairs o7P.pairs)]) := by rw [hS]; simp only [m_set, m_add, nns, if_false, gP, hng]
  have hS2 : sh.m (s.next + 1 + 1 + 1 + 1 + 1) = some (.box 26 [.t (tStrs k7S.labels), .t (tPairs k7S.pairs)]) := by rw [hS]; simp only [m_set, m_add, nns, if_false, gS, hng]
  have hE2 : sh.m (s.next + 1 + 1 + 1 + 1 + 1 + 1) = some (.box 26 [.t (tStrs o7E.labels), .t (tPairs o7E.pairs)]) := by rw [hS]; simp only [m_set, m_add, if_true, hng]
  have hnh : sh.next = s.next + 1 + 1 + 1 + 1 + 1 + 1 + 1 := by rw [hS]; simp only [n_add, n_set, hng]
  have hkh : ∀ j, j < s.next → sh.m j = s.m j := fun j hj => by have z0 : ¬ j = s.next := (by omega); have z1 : ¬ j = s.next + 1 := (by omega); have z2 : ¬ j = s.next + 1 + 1 := (by omega); have z3 : ¬ j = s.next + 1 + 1 + 1 := (by omega); have z4 : ¬ j = s.next + 1 + 1 + 1 + 1 := (by omega); have z5 : ¬ j = s.next + 1 + 1 + 1 + 1 + 1 := (by omega); have z6 : ¬ j = s.next + 1 + 1 + 1 + 1 + 1 + 1 := (by omega); rw [hS]; simp only [m_set, m_add, hng, z6, if_false, hkg j hj]
  clear hS
  refine vw_phase Tryd.mixed ?_
  refine phase_chain 0 14 15 [0, 0, 0, 0, 1, 0, 0, 0, 0, 0, 1, 0, 0, 0] [] [] 0 (by decide +kernel) (by simp [hlh]) rfl ?_
  simp only [bs, ↓vopx, ↓vop, Nat.reduceBEq, flat, Nat.reduceLT, dLoad, vpart, opII, gtmp, hlh, h_4, h_7, hP, Nat.reduceSub, wocs, ↓goc, ↓woc, ↓vopm0, ↓vopm1, ↓pick_tt, chn, ↓goq, ↓woq, List.zip_cons_cons, List.zip_nil_right, Tryd.ag23, Tryd.ag24, Tryd.fd26_0, Tryd.fd26_1, Tryd.sz23, Tryd.sz24, Tryd.un23, Tryd.un24, nns, len_tPairs, nc3, beq_self_eq_true, List.append_eq, vlen_sl1, o7P_l, o7P_p]
  refine phase_env fun e7_0 hE => ?_
  have hl7_0 : e7_0.length = 158 := by rw [hE]; simp only [lpv, hlh]
  have k4a : ev e7_0 (.tmp 4) = .ptr (s.next + 1 + 1 + 1) 0 := by rw [hE]; simp only [ev_miss, Nat.reduceBEq, h_4]
  have k5a : ev e7_0 (.tmp 5) = .t (tInts [0, 1]) := by rw [hE]; simp only [ev_miss, Nat.reduceBEq, h_5]
  have k6a : ev e7_0 (.tmp 6) = .t (tInts [2, 0]) := by rw [hE]; simp only [ev_miss, Nat.reduceBEq, h_6]
  have k7a : ev e7_0 (.tmp 7) = I 0 := by rw [hE]; simp only [ev_miss, Nat.reduceBEq, h_7]
  have k11a : ev e7_0 (.tmp 11) = I 10 := by rw [hE]; simp only [ev_miss, Nat.reduceBEq, h_11]
  have k12a : ev e7_0 (.tmp 12) = .ptr (s.next + 1 + 1 + 1 + 1 + 1) 0 := by rw [hE]; simp only [ev_miss, Nat.reduceBEq, h_12]
  have k13a : ev e7_0 (.tmp 13) = .t (tInts [0]) := by rw [hE]; simp only [ev_miss, Nat.reduceBEq, h_13]
  have k14a : ev e7_0 (.tmp 14) = .t (tInts [1]) := by rw [hE]; simp only [ev_miss, Nat.reduceBEq, h_14]
  have k15a : ev e7_0 (.tmp 15) = I 0 := by rw [hE]; simp only [ev_miss, Nat.reduceBEq, h_15]
  have k16a : ev e7_0 (.tmp 16) = .ptr (s.next + 1 + 1 + 1 + 1 + 1 + 1) 0 := by rw [hE]; simp only [ev_miss, Nat.reduceBEq, h_16]
  have k17a : ev e7_0 (.tmp 17) = .t (tInts [0, 0]) := by rw [hE]; simp only [ev_miss, Nat.reduceBEq, h_17]
  have k18a : ev e7_0 (.tmp 18) = I 0 := by rw [hE]; simp only [ev_miss, Nat.reduceBEq, h_18]
  have kga : ev e7_0 (.tmp 82) = Bo true := by rw [hE]; simp only [ev_hit, lpv, hlh, Nat.reduceLT]
  clear hE
  refine phase_chain 15 24 25 [0, 0, 0, 0, 0, 0, 0, 0, 0] [] [] 0 (by decide +kernel) (by simp [hl7_0]) rfl ?_
  simp only [bs, Nat.reduceAdd, ↓vopx, ↓vop, Nat.reduceBEq, flat, Nat.reduceLT, opII, gtmp, hl7_0, k5a, k6a, kga, Nat.reduceSub, wocs, ↓goc, ↓woc, ↓vopm0, ↓pick_tt, chn, ↓goq, ↓woq, List.zip_cons_cons, List.zip_nil_right, Tryd.un27, nc2, beq_self_eq_true, vlen_sl1, tInts]
  refine phase_env fun e7_15 hE => ?_
  have hl7_15 : e7_15.length = 158 := by rw [hE]; simp only [lpv, hl7_0]
  have k4b : ev e7_15 (.tmp 4) = .ptr (s.next + 1 + 1 + 1) 0 := by rw [hE]; simp only [ev_miss, Nat.reduceBEq, k4a]
  have k5b : ev e7_15 (.tmp 5) = .t (tInts [0, 1]) := by rw [hE]; simp only [ev_miss, Nat.reduceBEq, k5a]
  have k6b : ev e7_15 (.tmp 6) = .t (tInts [2, 0]) := by rw [hE]; simp only [ev_miss, Nat.reduceBEq, k6a]
  have k7b : ev e7_15 (.tmp 7) = I 0 := by rw [hE]; simp only [ev_miss, Nat.reduceBEq, k7a]
  have k11b : ev e7_15 (.tmp 11) = I 10 := by rw [hE]; simp only [ev_miss, Nat.reduceBEq, k11a]
  have k12b : ev e7_15 (.tmp 12) = .ptr (s.next + 1 + 1 + 1 + 1 + 1) 0 := by rw [hE]; simp only [ev_miss, Nat.reduceBEq, k12a]
  have k13b : ev e7_15 (.tmp 13) = .t (tInts [0]) := by rw [hE]; simp only [ev_miss, Nat.reduceBEq, k13a]
  have k14b : ev e7_15 (.tmp 14) = .t (tInts [1]) := by rw [hE]; simp only [ev_miss, Nat.reduceBEq, k14a]
  have k15b : ev e7_15 (.tmp 15) = I 0 := by rw [hE]; simp only [ev_miss, Nat.reduceBEq, k15a]
  have k16b : ev e7_15 (.tmp 16) = .ptr (s.next + 1 + 1 + 1 + 1 + 1 + 1) 0 := by rw [hE]; simp only [ev_miss, Nat.reduceBEq, k16a]
  have k17b : ev e7_15 (.tmp 17) = .t (tInts [0, 0]) := by rw [hE]; simp only [ev_miss, Nat.reduceBEq, k17a]
  have k18b : ev e7_15 (.tmp 18) = I 0 := by rw [hE]; simp only [ev_miss, Nat.reduceBEq, k18a]
  have kgb : ev e7_15 (.tmp 92) = Bo true := by rw [hE]; simp only [ev_hit, lpv, hl7_0, Nat.reduceLT]
  clear hE
  refine phase_chain 25 33 34 [0, 1, 1, 0, 1, 1, 0, 0] [] [] 0 (by decide +kernel) (by simp [hl7_15]) rfl ?_
  simp only [bs, Nat.reduceAdd, ↓vopx, ↓vop, Nat.reduceBEq, flat, Nat.reduceLT, dLoad, vpart, opII, opSS, gtmp, hl7_15, k5b, k6b, kgb, Nat.reduceSub, wocs, ↓goc, ↓woc, ↓vopm0, ↓vopm1, ↓pick_tt, ↓farC, chn, ↓goq, ↓woq, List.zip_cons_cons, List.zip_nil_right, Tryd.ag3, Tryd.sz3, Tryd.un27, Int.toNat_zero, tInts]
  repeat ((with_reducible refine And.intro ?_ ?_); · omega)
  refine phase_env fun e7_25 hE => ?_
  have hl7_25 : e7_25.length = 158 := by rw [hE]; simp only [lpv, hl7_15]
  have k4c : ev e7_25 (.tmp 4) = .ptr (s.next + 1 + 1 + 1) 0 := by rw [hE]; simp only [ev_miss, Nat.reduceBEq, k4b, beq_self_eq_true]
  have k5c : ev e7_25 (.tmp 5) = .t (tInts [0, 1]) := by rw [hE]; simp only [ev_miss, Nat.reduceBEq, k5b, beq_self_eq_true]
  have k6c : ev e7_25 (.tmp 6) = .t (tInts [2, 0]) := by rw [hE]; simp only [ev_miss, Nat.reduceBEq, k6b, beq_self_eq_true]
  have k7c : ev e7_25 (.tmp 7) = I 0 := by rw [hE]; simp only [ev_miss, Nat.reduceBEq, k7b, beq_self_eq_true]
  have k11c : ev e7_25 (.tmp 11) = I 10 := by rw [hE]; simp only [ev_miss, Nat.reduceBEq, k11b, beq_self_eq_true]
  have k12c : ev e7_25 (.tmp 12) = .ptr (s.next + 1 + 1 + 1 + 1 + 1) 0 := by rw [hE]; simp only [ev_miss, Nat.reduceBEq, k12b, beq_self_eq_true]
  have k13c : ev e7_25 (.tmp 13) = .t (tInts [0]) := by rw [hE]; simp only [ev_miss, Nat.reduceBEq, k13b, beq_self_eq_true]
  have k14c : ev e7_25 (.tmp 14) = .t (tInts [1]) := by rw [hE]; simp only [ev_miss, Nat.reduceBEq, k14b, beq_self_eq_true]
  have k15c : ev e7_25 (.tmp 15) = I 0 := by rw [hE]; simp only [ev_miss, Nat.reduceBEq, k15b, beq_self_eq_true]
  have k16c : ev e7_25 (.tmp 16) = .ptr (s.next + 1 + 1 + 1 + 1 + 1 + 1) 0 := by rw [hE]; simp only [ev_miss, Nat.reduceBEq, k16b, beq_self_eq_true]
  have k17c : ev e7_25 (.tmp 17) = .t (tInts [0, 0]) := by rw [hE]; simp only [ev_miss, Nat.reduceBEq, k17b, beq_self_eq_true]
  have k18c : ev e7_25 (.tmp 18) = I 0 := by rw [hE]; simp only [ev_miss, Nat.reduceBEq, k18b, beq_self_eq_true]
  have kgc : ev e7_25 (.tmp 101) = Bo true := by rw [hE]; simp only [ev_hit, lpv, hl7_15, beq_self_eq_true, Nat.reduceLT]
  clear hE
  refine phase_chain 34 47 48 [0, 0, 0, 0, 0, 0, 0, 0, 0, 1, 0, 0, 0] [] [] 0 (by decide +kernel) (by simp [hl7_25]) rfl ?_
  simp only [bs, Nat.reduceAdd, ↓vopx, ↓vop, Nat.reduceBEq, flat, Nat.reduceLT, dLoad, vpart, opII, gtmp, hl7_25, k11c, k12c, k15c, kgc, Nat.reduceSub, wocs, ↓goc, ↓woc, ↓vopm0, ↓vopm1, ↓pick_tt, chn, ↓goq, ↓woq, List.zip_cons_cons, List.zip_nil_right, Tryd.ag23, Tryd.fd26_0, Tryd.sz23, Tryd.un23, nns, nc2, beq_self_eq_true, vlen_sl1, hS2]
  refine phase_env fun e7_34 hE => ?_
  have hl7_34 : e7_34.length = 158 := by rw [hE]; simp only [lpv, hl7_25]
  have k4d : ev e7_34 (.tmp 4) = .ptr (s.next + 1 + 1 + 1) 0 := by rw [hE]; simp only [ev_miss, Nat.reduceBEq, k4c]
  have k5d : ev e7_34 (.tmp 5) = .t (tInts [0, 1]) := by rw [hE]; simp only [ev_miss, Nat.reduceBEq, k5c]
  have k6d : ev e7_34 (.tmp 6) = .t (tInts [2, 0]) := by rw [hE]; simp only [ev_miss, Nat.reduceBEq, k6c]
  have k7d : ev e7_34 (.tmp 7) = I 0 := by rw [hE]; simp only [ev_miss, Nat.reduceBEq, k7c]
  have k11d : ev e7_34 (.tmp 11) = I 10 := by rw [hE]; simp only [ev_miss, Nat.reduceBEq, k11c]
  have k12d : ev e7_34 (.tmp 12) = .ptr (s.next + 1 + 1 + 1 + 1 + 1) 0 := by rw [hE]; simp only [ev_miss, Nat.reduceBEq, k12c]
  have k13d : ev e7_34 (.tmp 13) = .t (tInts [0]) := by rw [hE]; simp only [ev_miss, Nat.reduceBEq, k13c]
  have k14d : ev e7_34 (.tmp 14) = .t (tInts [1]) := by rw [hE]; simp only [ev_miss, Nat.reduceBEq, k14c]
  have k15d : ev e7_34 (.tmp 15) = I 0 := by rw [hE]; simp only [ev_miss, Nat.reduceBEq, k15c]
  have k16d : ev e7_34 (.tmp 16) = .ptr (s.next + 1 + 1 + 1 + 1 + 1 + 1) 0 := by rw [hE]; simp only [ev_miss, Nat.reduceBEq, k16c]
  have k17d : ev e7_34 (.tmp 17) = .t (tInts [0, 0]) := by rw [hE]; simp only [ev_miss, Nat.reduceBEq, k17c]
  have k18d : ev e7_34 (.tmp 18) = I 0 := by rw [hE]; simp only [ev_miss, Nat.reduceBEq, k18c]
  have kgd : ev e7_34 (.tmp 115) = Bo true := by rw [hE]; simp only [ev_hit, lpv, hl7_25, Nat.reduceLT]
  clear hE
  refine phase_chain 48 57 58 [0, 0, 0, 0, 0, 0, 0, 0, 0] [] [] 0 (by decide +kernel) (by simp [hl7_34]) rfl ?_
  simp only [bs, ↓vopx, ↓vop, Nat.reduceBEq, flat, Nat.reduceLT, opII, gtmp, hl7_34, k13d, k14d, kgd, Nat.reduceSub, wocs, ↓goc, ↓woc, ↓vopm0, ↓pick_tt, chn, ↓goq, ↓woq, List.zip_cons_cons, List.zip_nil_right, Tryd.un27, nc1, beq_self_eq_true, vlen_sl1, tInts]
  refine phase_env fun e7_48 hE => ?_
  have hl7_48 : e7_48.length = 158 := by rw [hE]; simp only [lpv, hl7_34]
  have k4e : ev e7_48 (.tmp 4) = .ptr (s.next + 1 + 1 + 1) 0 := by rw [hE]; simp only [ev_miss, Nat.reduceBEq, k4d]
  have k5e : ev e7_48 (.tmp 5) = .t (tInts [0, 1]) := by rw [hE]; simp only [ev_miss, Nat.reduceBEq, k5d]
  have k6e : ev e7_48 (.tmp 6) = .t (tInts [2, 0]) := by rw [hE]; simp only [ev_miss, Nat.reduceBEq, k6d]
  have k7e : ev e7_48 (.tmp 7) = I 0 := by rw [hE]; simp only [ev_miss, Nat.reduceBEq, k7d]
  have k11e : ev e7_48 (.tmp 11) = I 10 := by rw [hE]; simp only [ev_miss, Nat.reduceBEq, k11d]
  have k12e : ev e7_48 (.tmp 12) = .ptr (s.next + 1 + 1 + 1 + 1 + 1) 0 := by rw [hE]; simp only [ev_miss, Nat.reduceBEq, k12d]
  have k13e : ev e7_48 (.tmp 13) = .t (tInts [0]) := by rw [hE]; simp only [ev_miss, Nat.reduceBEq, k13d]
  have k14e : ev e7_48 (.tmp 14) = .t (tInts [1]) := by rw [hE]; simp only [ev_miss, Nat.reduceBEq, k14d]
  have k15e : ev e7_48 (.tmp 15) = I 0 := by rw [hE]; simp only [ev_miss, Nat.reduceBEq, k15d]
  have k16e : ev e7_48 (.tmp 16) = .ptr (s.next + 1 + 1 + 1 + 1 + 1 + 1) 0 := by rw [hE]; simp only [ev_miss, Nat.reduceBEq, k16d]
  have k17e : ev e7_48 (.tmp 17) = .t (tInts [0, 0]) := by rw [hE]; simp only [ev_miss, Nat.reduceBEq, k17d]
  have k18e : ev e7_48 (.tmp 18) = I 0 := by rw [hE]; simp only [ev_miss, Nat.reduceBEq, k18d]
  have kge : ev e7_48 (.tmp 125) = Bo true := by rw [hE]; simp only [ev_hit, lpv, hl7_34, Nat.reduceLT]
  clear hE
  refine phase_chain 58 69 70 [0, 1, 1, 0, 0, 0, 0, 1, 1, 0, 0] [] [] 0 (by decide +kernel) (by simp [hl7_48]) rfl ?_
  simp only [bs, ↓vopx, ↓vop, Nat.reduceBEq, flat, Nat.reduceLT, dLoad, vpart, opII, gtmp, hl7_48, k13e, k14e, kge, Nat.reduceSub, wocs, ↓goc, ↓woc, ↓vopm0, ↓vopm1, ↓pick_tt, chn, ↓goq, ↓woq, List.zip_cons_cons, List.zip_nil_right, Tryd.ag3, Tryd.sz3, Tryd.un27, Int.toNat_zero, beq_self_eq_true, tInts]
  repeat ((with_reducible refine And.intro ?_ ?_); · omega)
  refine phase_env fun e7_58 hE => ?_
  have hl7_58 : e7_58.length = 158 := by rw [hE]; simp only [lpv, hl7_48]
  have k4f : ev e7_58 (.tmp 4) = .ptr (s.next + 1 + 1 + 1) 0 := by rw [hE]; simp only [ev_miss, Nat.reduceBEq, k4e]
  have k5f : ev e7_58 (.tmp 5) = .t (tInts [0, 1]) := by rw [hE]; simp only [ev_miss, Nat.reduceBEq, k5e]
  have k6f : ev e7_58 (.tmp 6) = .t (tInts [2, 0]) := by rw [hE]; simp only [ev_miss, Nat.reduceBEq, k6e]
  have k7f : ev e7_58 (.tmp 7) = I 0 := by rw [hE]; simp only [ev_miss, Nat.reduceBEq, k7e]
  have k11f : ev e7_58 (.tmp 11) = I 10 := by rw [hE]; simp only [ev_miss, Nat.reduceBEq, k11e]
  have k12f : ev e7_58 (.tmp 12) = .ptr (s.next + 1 + 1 + 1 + 1 + 1) 0 := by rw [hE]; simp only [ev_miss, Nat.reduceBEq, k12e]
  have k13f : ev e7_58 (.tmp 13) = .t (tInts [0]) := by rw [hE]; simp only [ev_miss, Nat.reduceBEq, k13e]
  have k14f : ev e7_58 (.tmp 14) = .t (tInts [1]) := by rw [hE]; simp only [ev_miss, Nat.reduceBEq, k14e]
  have k15f : ev e7_58 (.tmp 15) = I 0 := by rw [hE]; simp only [ev_miss, Nat.reduceBEq, k15e]
  have k16f : ev e7_58 (.tmp 16) = .ptr (s.next + 1 + 1 + 1 + 1 + 1 + 1) 0 := by rw [hE]; simp only [ev_miss, Nat.reduceBEq, k16e]
  have k17f : ev e7_58 (.tmp 17) = .t (tInts [0, 0]) := by rw [hE]; simp only [ev_miss, Nat.reduceBEq, k17e]
  have k18f : ev e7_58 (.tmp 18) = I 0 := by rw [hE]; simp only [ev_miss, Nat.reduceBEq, k18e]
  have kgf : ev e7_58 (.tmp 137) = Bo true := by rw [hE]; simp only [ev_hit, lpv, hl7_48, Nat.reduceLT]
  clear hE
  refine phase_chain 70 79 80 [0, 0, 0, 0, 0, 1, 0, 0, 0] [] [] 0 (by decide +kernel) (by simp [hl7_58]) rfl ?_
  simp only [bs, ↓vopx, ↓vop, Nat.reduceBEq, flat, Nat.reduceLT, dLoad, vpart, opII, gtmp, hl7_58, k16f, k18f, kgf, Nat.reduceSub, wocs, ↓goc, ↓woc, ↓vopm0, ↓vopm1, ↓pick_tt, chn, ↓goq, ↓woq, List.zip_cons_cons, List.zip_nil_right, Tryd.ag23, Tryd.fd26_0, Tryd.sz23, Tryd.un23, nns, nc1, beq_self_eq_true, vlen_sl1, o7E_l, hE2]
  refine phase_env fun e7_70 hE => ?_
  have hl7_70 : e7_70.length = 158 := by rw [hE]; simp only [lpv, hl7_58]
  have k4g : ev e7_70 (.tmp 4) = .ptr (s.next + 1 + 1 + 1) 0 := by rw [hE]; simp only [ev_miss, Nat.reduceBEq, k4f]
  have k5g : ev e7_70 (.tmp 5) = .t (tInts [0, 1]) := by rw [hE]; simp only [ev_miss, Nat.reduceBEq, k5f]
  have k6g : ev e7_70 (.tmp 6) = .t (tInts [2, 0]) := by rw [hE]; simp only [ev_miss, Nat.reduceBEq, k6f]
  have k7g : ev e7_70 (.tmp 7) = I 0 := by rw [hE]; simp only [ev_miss, Nat.reduceBEq, k7f]
  have k11g : ev e7_70 (.tmp 11) = I 10 := by rw [hE]; simp only [ev_miss, Nat.reduceBEq, k11f]
  have k12g : ev e7_70 (.tmp 12) = .ptr (s.next + 1 + 1 + 1 + 1 + 1) 0 := by rw [hE]; simp only [ev_miss, Nat.reduceBEq, k12f]
  have k13g : ev e7_70 (.tmp 13) = .t (tInts [0]) := by rw [hE]; simp only [ev_miss, Nat.reduceBEq, k13f]
  have k14g : ev e7_70 (.tmp 14) = .t (tInts [1]) := by rw [hE]; simp only [ev_miss, Nat.reduceBEq, k14f]
  have k15g : ev e7_70 (.tmp 15) = I 0 := by rw [hE]; simp only [ev_miss, Nat.reduceBEq, k15f]
  have k16g : ev e7_70 (.tmp 16) = .ptr (s.next + 1 + 1 + 1 + 1 + 1 + 1) 0 := by rw [hE]; simp only [ev_miss, Nat.reduceBEq, k16f]
  have k17g : ev e7_70 (.tmp 17) = .t (tInts [0, 0]) := by rw [hE]; simp only [ev_miss, Nat.reduceBEq, k17f]
  have k18g : ev e7_70 (.tmp 18) = I 0 := by rw [hE]; simp only [ev_miss, Nat.reduceBEq, k18f]
  have kgg : ev e7_70 (.tmp 147) = Bo true := by rw [hE]; simp only [ev_hit, lpv, hl7_58, Nat.reduceLT]
  clear hE
  refine phase_chain 80 90 91 [0, 0, 0, 0, 0, 0, 1, 1, 0, 0] [] [] 0 (by decide +kernel) (by simp [hl7_70]) rfl ?_
  simp only [bs, Nat.reduceAdd, ↓vopx, ↓vop, Nat.reduceBEq, flat, Nat.reduceLT, dLoad, vpart, opII, opSS, gtmp, hl7_70, k17g, kgg, Nat.reduceSub, wocs, ↓goc, ↓woc, ↓vopm0, ↓vopm1, ↓pick_tt, ↓farC, chn, ↓goq, ↓woq, List.zip_cons_cons, List.zip_nil_right, Tryd.ag3, Tryd.sz3, Tryd.un27, nc2, beq_self_eq_true, vlen_sl1, tInts]
  repeat ((with_reducible refine And.intro ?_ ?_); · omega)
  refine phase_end ?_
  try simp only [thenV]
  refine hK8 _ _ ?_
  refine vw_ret ?_
  refine hQ _ _ _ (.inr rfl) (done_tmp ?_ fun n b hn h => (hkh n hn).trans h)
  try simp only [ev_hit, lpv, hl7_70, Nat.reduceLT]
  rfl
end Go.Proofs

open Go Go.V
namespace Go.Proofs
abbrev lX : ByteArray := ⟨#[120]⟩
def lsX (k : Nat) : List ByteArray := List.replicate k lX
def upZ (i : Nat) : List Int := (List.range i).map fun (j : Nat) => (j : Int)
def dnZ (k i : Nat) : List Int := (List.range i).map fun (j : Nat) => (k : Int) - 1 - (j : Int)
theorem lsX_succ (k : Nat) : lsX (k + 1) = lsX k ++ [lX] := List.replicate_succ'
theorem upZ_succ (i : Nat) : upZ (i + 1) = upZ i ++ [(i : Int)] := by simp [upZ, List.range_succ]
theorem dnZ_succ (k i : Nat) : dnZ k (i + 1) = dnZ k i ++ [(k : Int) - 1 - (i : Int)] := by simp [dnZ, List.range_succ]
theorem lsX_len (k : Nat) : (lsX k).length = k := by simp [lsX]
theorem upZ_len (k : Nat) : (upZ k).length = k := by simp [upZ]
theorem dnZ_len (k i : Nat) : (dnZ k i).length = i := by simp [dnZ]
def cirP (k : Nat) : Ob × List Int × List Int × Int := pushS ⟨lsX k, []⟩ (rwS (lsX k)) (rwS (lsX k)) (upZ k) (dnZ k k)
def cirB (k : Nat) : Bool :=
  let P := cirP k
  P.2.2.2 == 0 && (P.1.labels.length == k && (P.1.pairs.length == k * k && (P.2.1.length == k && (P.2.2.1.length == k && (decide P.2.1.Nodup && decide P.2.2.1.Nodup)))))
set_option maxRecDepth 100000 in
theorem cir_all : ((List.range 8).all fun x => cirB (x + 2)) = true := by decide +kernel
theorem cir_of {x k : Nat} (hx : x < 8) (hk : k = x + 2) : ∃ q i j, cirP k = (q, i, j, 0) ∧ q.labels.length = k ∧ q.pairs.length = k * k ∧ i.length = k ∧ j.length = k ∧ injS i = true ∧ injS j = true := by
  subst hk
  have h := List.all_eq_true.1 cir_all x (List.mem_range.2 hx)
  unfold cirB at h
  generalize cirP (x + 2) = P at h ⊢
  obtain ⟨q, i, j, c⟩ := P
  simp only [Bool.and_eq_true, beq_iff_eq] at h
  obtain ⟨h1, h2, h3, h4, h5, h6, h7⟩ := h
  subst h1
  exact ⟨q, i, j, rfl, h2, h3, h4, h5, by rw [injS_iff]; exact h6, by rw [injS_iff]; exact h7⟩
theorem argW_some_nil {P : Program} {x : V} {k : Nat} (hk : 0 < k) : ArgW P (.agg [x, .t (.v (.slice none 0 0))]) (.agg [x, .t (.sl k [])]) := fun w s ρ y h => by
  obtain ⟨m, rfl, hm⟩ := h
  match m, hm with
  | [a, b], ⟨h1, h2, _⟩ =>
    have h2' : RepT w (Fr s ρ) (.v nilV) b := h2
    rw [RepT] at h2'
    obtain ⟨rfl, _⟩ := h2'
    exact ⟨_, rfl, h1, repT_nil hk, trivial⟩
theorem rw_pairs {k : Nat} (hk : k ≤ 10) : (rwS (lsX k)).pairs.length ≤ 100 := by
  have h3 : (rwS (lsX k)).pairs.length ≤ (lsX k).length * (lsX k).length := rwK_len _ _
  rw [lsX_len] at h3
  have : k * k ≤ 10 * 10 := Nat.mul_le_mul hk hk
  omega
theorem cir_push {k : Nat} (hk : k ≤ 10) {q : Ob} {i j : List Int} (h : cirP k = (q, i, j, 0)) :
    PCall Tryd.prog 11 [.agg [.t (tStrs (lsX k)), .t (.v (.slice none 0 0))], vObj (rwS (lsX k)), vObj (rwS (lsX k)), .t (tInts (upZ k)), .t (tInts (dnZ k k))] (.tup [vObj q, .t (tInts i), .t (tInts j), I 0]) := by
  have e1 := lsX_len k
  have e2 := rw_pairs hk
  have e3 : (rwS (lsX k)).labels.length = k := lsX_len k
  have e4 := upZ_len k
  have e5 := dnZ_len k k
  have := push_ ⟨lsX k, []⟩ (rwS (lsX k)) (rwS (lsX k)) (upZ k) (dnZ k k) (by simp only [e1]; omega) (by simp) (by omega) (by omega) (by omega) (by omega) (by omega) (by omega)
  change PCall Tryd.prog 11 _ (vSum (cirP k)) at this
  rw [h] at this
  exact PCall.args (args' := [vObj ⟨lsX k, []⟩, vObj (rwS (lsX k)), vObj (rwS (lsX k)), .t (tInts (upZ k)), .t (tInts (dnZ k k))]) ⟨argW_some_nil (by decide), ArgW.refl _, ArgW.refl _, ArgW.refl _, ArgW.refl _, trivial⟩ this
theorem conv_ui {z : Int} (h0 : 0 ≤ z) (h1 : z < 256) : flatly (calm Tryd.prog (convert 5 3 (.int .u8 z))) = some (.int .i64 z) := by
  have h : flatly (calm Tryd.prog (convert 5 3 (.int .u8 z))) = some (.int .i64 (IntKind.i64.wrap z)) := by kernel_rfl
  rw [h, wrap_i64 (by unfold inI; omega)]
structure CiI (s : Sg) (k i4 i5 i6 m4 m5 m6 : Nat) (s' : Sg) : Prop where
  a4 : s'.m m4 = some (.arr 1 9 ((lsX i4).map TS))
  a5 : s'.m m5 = some (.arr 1 3 ((upZ i5).map TI))
  a6 : s'.m m6 = some (.arr 1 3 ((dnZ k i6).map TI))
  same : ∀ j, j < s.next → s'.m j = s.m j
  l4 : s.next ≤ m4 ∧ m4 < s'.next
  l5 : s.next ≤ m5 ∧ m5 < s'.next
  l6 : s.next ≤ m6 ∧ m6 < s'.next
  d : m4 ≠ m5 ∧ m4 ≠ m6 ∧ m5 ≠ m6
theorem CiI.push4 {s : Sg} {k i4 i5 i6 m4 m5 m6 : Nat} {s1 : Sg} (h : CiI s k i4 i5 i6 m4 m5 m6 s1) (B : Blk) : CiI s k (i4 + 1) i5 i6 (s1.next + 1) m5 m6 (((s1.add B).del m4).add (.arr 1 9 ((lsX i4).map TS ++ [TS lX]))) := by
  obtain ⟨h4, h5, h6, hs, ⟨l4, l4'⟩, ⟨l5, l5'⟩, ⟨l6, l6'⟩, d1, d2, d3⟩ := h
  have hfr : ∀ x, x < s1.next → x ≠ m4 → (((s1.add B).del m4).add (.arr 1 9 ((lsX i4).map TS ++ [TS lX]))).m x = s1.m x := fun x h1 h2 => by
    rw [m_add, if_neg (by simp only [n_del, n_add]; omega), m_del, if_neg h2, m_add, if_neg (by omega)]
  refine ⟨by rw [m_add, if_pos (by simp only [n_del, n_add]), lsX_succ, List.map_append]; rfl, by rw [hfr _ (by omega) (by omega)]; exact h5, by rw [hfr _ (by omega) (by omega)]; exact h6, fun j hj => by rw [hfr _ (by omega) (by omega)]; exact hs j hj, ⟨by omega, ?_⟩, ⟨by omega, ?_⟩, ⟨by omega, ?_⟩, by omega, by omega, by omega⟩
  all_goals simp only [n_add, n_del]; omega
theorem CiI.push5 {s : Sg} {k i4 i5 i6 m4 m5 m6 : Nat} {s1 : Sg} (h : CiI s k i4 i5 i6 m4 m5 m6 s1) (B : Blk) : CiI s k i4 (i5 + 1) i6 m4 (s1.next + 1) m6 (((s1.add B).del m5).add (.arr 1 3 ((upZ i5).map TI ++ [TI (i5 : Int)]))) := by
  obtain ⟨h4, h5, h6, hs, ⟨l4, l4'⟩, ⟨l5, l5'⟩, ⟨l6, l6'⟩, d1, d2, d3⟩ := h
  have hfr : ∀ x, x < s1.next → x ≠ m5 → (((s1.add B).del m5).add (.arr 1 3 ((upZ i5).map TI ++ [TI (i5 : Int)]))).m x = s1.m x := fun x h1 h2 => by
    rw [m_add, if_neg (by simp only [n_del, n_add]; omega), m_del, if_neg h2, m_add, if_neg (by omega)]
  refine ⟨by rw [hfr _ (by omega) (by omega)]; exact h4, by rw [m_add, if_pos (by simp only [n_del, n_add]), upZ_succ, List.map_append]; rfl, by rw [hfr _ (by omega) (by omega)]; exact h6, fun j hj => by rw [hfr _ (by omega) (by omega)]; exact hs j hj, ⟨by omega, ?_⟩, ⟨by omega, ?_⟩, ⟨by omega, ?_⟩, by omega, by omega, by omega⟩
  all_goals simp only [n_add, n_del]; omega
theorem CiI.push6 {s : Sg} {k i4 i5 i6 m4 m5 m6 : Nat} {s1 : Sg} (h : CiI s k i4 i5 i6 m4 m5 m6 s1) (B : Blk) : CiI s k i4 i5 (i6 + 1) m4 m5 (s1.next + 1) (((s1.add B).del m6).add (.arr 1 3 ((dnZ k i6).map TI ++ [TI ((k : Int) - 1 - (i6 : Int))]))) := by
  obtain ⟨h4, h5, h6, hs, ⟨l4, l4'⟩, ⟨l5, l5'⟩, ⟨l6, l6'⟩, d1, d2, d3⟩ := h
  have hfr : ∀ x, x < s1.next → x ≠ m6 → (((s1.add B).del m6).add (.arr 1 3 ((dnZ k i6).map TI ++ [TI ((k : Int) - 1 - (i6 : Int))]))).m x = s1.m x := fun x h1 h2 => by
    rw [m_add, if_neg (by simp only [n_del, n_add]; omega), m_del, if_neg h2, m_add, if_neg (by omega)]
  refine ⟨by rw [hfr _ (by omega) (by omega)]; exact h4, by rw [hfr _ (by omega) (by omega)]; exact h5, by rw [m_add, if_pos (by simp only [n_del, n_add]), dnZ_succ, List.map_append]; rfl, fun j hj => by rw [hfr _ (by omega) (by omega)]; exact hs j hj, ⟨by omega, ?_⟩, ⟨by omega, ?_⟩, ⟨by omega, ?_⟩, by omega, by omega, by omega⟩
  all_goals simp only [n_add, n_del]; omega
set_option maxRecDepth 20000 in
set_option maxHeartbeats 8000000 in
theorem lawCircles_ (z0 : Int) (b0 : 0 ≤ z0 ∧ z0 < 256) : PCall Tryd.prog 4 [.t (.v (.int .u8 z0))] (Bo true) := by
  refine pcall_of_body Tryd.func4 rfl fun s Q hQ => ?_
  obtain ⟨e, he, hl, h0⟩ : ∃ e : Env, ([.t (.v (.int .u8 z0))] ++ List.replicate (Tryd.f4.ntmps - ([.t (.v (.int .u8 z0))] : List V).length) .junk) = e ∧ e.length = 79 ∧ ev e (.tmp 0) = .t (.v (.int .u8 z0)) := ⟨_, rfl, rfl, rfl⟩
  rw [he]
  clear he
  obtain ⟨x, hx, hx8⟩ : ∃ x : Nat, z0 % 8 = (x : Int) ∧ x < 8 := ⟨(z0 % 8).toNat, by omega, by omega⟩
  obtain ⟨k, hk⟩ : ∃ k : Nat, k = x + 2 := ⟨_, rfl⟩
  have hxn : (x : Int) + 2 = (k : Int) := by omega
  refine vsk fun K1 hK1 => ?_
  refine vw_sc 0 [] ?_
  simp only [bs, ↓vopx, ↓vop, thenV, flat, wocs, ↓goc, ↓woc, ↓vopm0]
  refine hK1 _ _ ?_
  refine vsk fun K2 hK2 => ?_
  refine vsk fun K3 hK3 => ?_
  refine vw_sc 0 [.pur (Bo true)] ?_
  simp only [bs, ↓vopx, ↓vop, thenV, Nat.reduceLT, hl, wocs, ↓goc, ↓woc, ↓vopm0, ↓callC, calleeV]
  repeat ((with_reducible refine And.intro ?_ ?_); · exact ⟨Tryd.is10, known7_⟩)
  refine hK3 _ _ ?_
  refine vck fun A B hA hB => ?_
  simp only [condV, ev_hit, lpv, Nat.reduceLT, true_implies, reduceCtorEq, false_implies, true_and, hl]
  refine hB ?_
  clear hA hB A B
  refine vw_skip ?_
  refine hK2 _ _ ?_
  refine vsk fun K4 hK4 => ?_
  refine vw_cut 5 rfl ?_
  refine vl_chunk 0 0 2 3 [] [.far (.int .u8 (x : Int))] (by decide +kernel) (by decide) fun ops' KC hgs hKC => ?_
  simp only [bs, ↓vopx, ↓vop, Nat.reduceBEq, flat, Nat.reduceLT, hl, h0, wocs, ↓goc, ↓woc, ↓vopm0, ↓farC]
  refine ⟨.inl ⟨_, _, rfl, rfl, by rw [rem_u8 _ _ _ _ _ b0.1 (by decide), hx]⟩, ?_⟩
  refine hKC _ _ ?_
  clear hgs hKC KC ops'
  refine vl_conv (i := 2) (m := 2) rfl rfl rfl (a := .int .u8 (x : Int)) (v := .int .i64 (x : Int)) (by simp only [ev_hit, lpv, hl, Nat.reduceLT]; rfl) (conv_ui (by omega) (by omega)) ?_
  change VL _ _ _ (List.range' 3 2) (putv _ (some 16) (I (x : Int))) _
  refine vl_chunk 0 3 2 0 [] [] (by decide +kernel) (by decide) fun ops' KC hgs hKC => ?_
  simp only [bs, ↓vopx, ↓vop, flat, Nat.reduceLT, opII, hl, hxn, wocs, ↓goc, ↓woc, ↓vopm0]
  refine ⟨⟨by omega, by omega⟩, ?_⟩
  refine hKC _ _ ?_
  clear hgs hKC KC ops'
  refine vl_nil ?_
  try simp only [thenV]
  refine hK4 _ _ ?_
  refine vsk fun K5 hK5 => ?_
  refine vw_sc 0 [] ?_
  simp only [bs, ↓vopx, ↓vop, thenV, flat, wocs, ↓goc, ↓woc, ↓vopm0]
  refine hK5 _ _ ?_
  refine vsk fun K6 hK6 => ?_
  refine vw_sc 0 [] ?_
  simp only [bs, Nat.reduceLeDiff, vparts, gfill, repl, Sg.frzP, ↓vopx, ↓vop, Nat.reduceBEq, thenV, Nat.reduceLT, hl, wocs, ↓goc, ↓woc, ↓vopm0, Tryd.sl27]
  refine hK6 _ _ ?_
  refine vsk fun K7 hK7 => ?_
  refine vsk fun K8 hK8 => ?_
  refine VW.name 4 1 9 (by omega) (by simp only [ev_hit, ev_miss, Nat.reduceBEq, lpv, hl, Nat.reduceLT]) ?_
  refine vw_st2 fun s6 hS6 => ?_
  have hI : CiI s k 0 0 0 (s.next + 1 + 1) s.next (s.next + 1) s6 := by
    refine ⟨?_, ?_, ?_, fun j hj => ?_, ⟨by omega, ?_⟩, ⟨by omega, ?_⟩, ⟨by omega, ?_⟩, by omega, by omega, by omega⟩
    · rw [hS6]; simp only [m_add, n_add, nns, if_true, if_false]; try rfl
    · rw [hS6]; simp only [m_add, n_add, nns, if_true, if_false]; try rfl
    · rw [hS6]; simp only [m_add, n_add, nns, if_true, if_false]; try rfl
    · have z0 : ¬ j = s.next := (by omega); have z1 : ¬ j = s.next + 1 := (by omega); have z2 : ¬ j = s.next + 1 + 1 := (by omega); rw [hS6]; simp only [m_add, n_add, z0, z1, z2, if_false]
    · rw [hS6]; simp only [n_add]; omega
    · rw [hS6]; simp only [n_add]; omega
    · rw [hS6]; simp only [n_add]; omega
  clear hS6
  refine vw_sc 0 [] ?_
  simp only [bs, ↓vopx, ↓vop, thenV, flat, wocs, ↓goc, ↓woc, ↓vopm0]
  refine hK8 _ _ ?_
  refine vw_block ?_
  refine vw_loop (fun mm e' s' => ∃ i : Nat, mm = k - i ∧ i ≤ k ∧ e'.length = 79 ∧ ev e' (.tmp 3) = I k ∧ ev e' (.tmp 7) = I i ∧ True ∧ ∃ m4 m5 m6, ev e' (.tmp 4) = .loc m4 0 i ∧ ev e' (.tmp 5) = .loc m5 0 i ∧ ev e' (.tmp 6) = .loc m6 0 i ∧ CiI s k i i i m4 m5 m6 s') (⟨0, rfl, Nat.zero_le _, ?_⟩) ?_
  · try simp only [ev_hit, ev_miss, Nat.reduceBEq, lpv, hl, Nat.reduceLT, true_and]
    repeat ((with_reducible refine And.intro ?_ ?_); · trivial)
    exact ⟨_, _, _, rfl, rfl, rfl, hI⟩
  rintro mm e s1 ⟨i, rfl, hle_i, hl, k3, h_i, hst, ⟨m4, m5, m6, k4, k5, k6, hI⟩⟩
  refine vsk fun K9 hK9 => ?_
  refine vsk fun K10 hK10 => ?_
  refine vw_sc 0 [] ?_
  simp only [bs, ↓vopx, ↓vop, Nat.reduceBEq, thenV, Nat.reduceLT, opII, hl, k3, h_i, wocs, ↓goc, ↓woc, ↓vopm0]
  refine hK10 _ _ ?_
  refine vck fun A B hA hB => ?_
  simp only [condV, ev_hit, lpv, Nat.reduceLT, decide_eq_true_eq, decide_eq_false_iff_not, hl]
  refine ⟨fun hc22 => hA ?_, fun hc22 => hB ?_⟩
  · clear hA hB A B
    refine vw_skip ?_
    refine hK9 _ _ ?_
    refine vsk fun K11 hK11 => ?_
    refine vw_block ?_
    refine vsk fun K12 hK12 => ?_
    have a4 := hI.a4
    have l4 := hI.l4
    have hln := lsX_len i
    have y1 : ¬ m4 = s1.next := by omega
    have y2 : ¬ s1.next = m4 := by omega
    refine vw_sc 0 [] ?_
    simp only [bs, dstT, srcT, Nat.reduceLeDiff, vparts, gfill, repl, Sg.frzP, ↓vopx, ↓vop, Nat.reduceBEq, thenV, flat, Nat.reduceLT, V.cells, Sg.frzL, Sg.frz1, hl, k4, wocs, ↓goc, ↓woc, ↓vopm0, Tryd.sl23, a4, hln, y1, Nat.div_one]
    repeat ((with_reducible refine And.intro ?_ ?_); · omega)
    refine hK12 _ _ ?_
    refine vw_st2 fun s9 hS9 => ?_
    have hI9 : CiI s k (i + 1) i i (s1.next + 1) m5 m6 s9 := by rw [hS9]; exact hI.push4 _
    clear hS9
    have a5 := hI9.a5
    have a6 := hI9.a6
    have l5 := hI9.l5
    have l6 := hI9.l6
    have d5 := hI9.d
    have hu := upZ_len i
    have hd := dnZ_len k i
    have hik : i < k := by omega
    have y1 : ¬ m5 = s9.next := by omega
    have y2 : ¬ s9.next = m5 := by omega
    have y3 : ¬ m6 = s9.next := by omega
    have y4 : ¬ s9.next = m6 := by omega
    have y5 : ¬ m6 = s9.next + 1 := by omega
    have y6 : ¬ s9.next + 1 = m6 := by omega
    have y7 : ¬ m6 = m5 := by omega
    have y8 : ¬ m5 = m6 := by omega
    have y9 : ¬ s9.next + 1 + 1 = m6 := by omega
    have ya : ¬ m6 = s9.next + 1 + 1 := by omega
    refine vw_sc 0 [] ?_
    simp only [bs, dstT, srcT, Nat.reduceLeDiff, vparts, gfill, repl, Sg.frzP, ↓vopx, ↓vop, Nat.reduceBEq, thenV, blockV, flat, Nat.reduceLT, V.cells, opII, Sg.frzL, Sg.frz1, hl, k3, h_i, k5, k6, wocs, ↓goc, ↓woc, ↓vopm0, Tryd.sl27, nns, a5, a6, hu, hd, y1, y3, y5, y7, ya, Nat.div_one]
    repeat ((with_reducible refine And.intro ?_ ?_); · first | omega | exact ⟨by omega, by omega⟩)
    refine hK11 _ _ ?_
    refine vw_sc 0 [] ?_
    simp only [bs, ↓vopx, ↓vop, Nat.reduceBEq, thenV, flat, Nat.reduceLT, opII, hl, k3, h_i, wocs, ↓goc, ↓woc, ↓vopm0]
    repeat ((with_reducible refine And.intro ?_ ?_); · exact ⟨by omega, by omega⟩)
    refine ⟨k - (i + 1), by omega, i + 1, rfl, by omega, ?_⟩
    try simp only [ev_hit, ev_miss, Nat.reduceBEq, lpv, hl, k3, h_i, k4, k5, k6, if_true, if_false, Nat.reduceEqDiff, Nat.reduceLT, true_and, and_true]
    repeat ((with_reducible refine And.intro ?_ ?_); · trivial)
    exact ⟨_, _, _, rfl, rfl, rfl, (hI9.push5 _).push6 _⟩
  · clear hA hB A B
    refine vw_exit ?_
    simp only [thenV, blockV, if_true]
    refine hK7 _ _ ?_
    refine vsk fun K13 hK13 => ?_
    have hik : i = k := by omega
    subst hik
    have a4 := hI.a4
    have a5 := hI.a5
    have a6 := hI.a6
    have l4 := hI.l4
    have l5 := hI.l5
    have l6 := hI.l6
    have dd := hI.d
    have hsm := hI.same
    refine VW.freeze 4 (n := m4) (len := i) (k := 1) (el := 9) (cs := (lsX i).map TS) ?_ ?_ (by simp [lsX_len]) ?_
    · simp only [ev_miss, Nat.reduceBEq, k4]
    · exact a4
    refine VW.freeze 5 (n := m5) (len := i) (k := 1) (el := 3) (cs := (upZ i).map TI) ?_ ?_ (by simp [upZ_len]) ?_
    · simp only [ev_miss, Nat.reduceBEq, k5]
    · rw [m_del, if_neg (by omega)]; exact a5
    refine VW.freeze 6 (n := m6) (len := i) (k := 1) (el := 3) (cs := (dnZ i i).map TI) ?_ ?_ (by simp [dnZ_len]) ?_
    · simp only [ev_miss, Nat.reduceBEq, k6]
    · rw [m_del, if_neg (by omega), m_del, if_neg (by omega)]; exact a6
    refine vw_en fun ea hE => ?_
    have hl0_ := hl
    have hl : ea.length = 79 := by rw [hE]; simp only [lpv, hl]
    have k3 : ev ea (.tmp 3) = I i := by rw [hE]; simp only [ev_miss, Nat.reduceBEq, k3]; try rfl
    have k4 : ev ea (.tmp 4) = .t (tStrs (lsX i)) := by rw [hE]; simp only [ev_hit, ev_miss, Nat.reduceBEq, lpv, hl0_, Nat.reduceLT]; try rfl
    have k5 : ev ea (.tmp 5) = .t (tInts (upZ i)) := by rw [hE]; simp only [ev_hit, ev_miss, Nat.reduceBEq, lpv, hl0_, Nat.reduceLT]; try rfl
    have k6 : ev ea (.tmp 6) = .t (tInts (dnZ i i)) := by rw [hE]; simp only [ev_hit, lpv, hl0_, Nat.reduceLT]; try rfl
    clear hE
    refine vw_st2 fun sa hS => ?_
    have hka : ∀ j, j < s.next → sa.m j = s.m j := fun j hj => by rw [hS, m_del, if_neg (by omega), m_del, if_neg (by omega), m_del, if_neg (by omega)]; exact hsm j hj
    have hna : s.next ≤ sa.next := by rw [hS]; simp only [n_del]; omega
    clear hS
    have hi10 : i ≤ 10 := by omega
    obtain ⟨q, p, j, hP, p1, p2, p3, p4, p5, p6⟩ := cir_of hx8 hk
    have hls := lsX_len i
    clear hI a4 a5 a6 dd
    refine vw_sc 0 [.pur (vObj (rwS (lsX i))), .pur (vObj (rwS (lsX i))), .pur (.tup [vObj q, .t (tInts p), .t (tInts j), I 0])] ?_
    simp only [bs, Nat.reduceLeDiff, Nat.reduceAdd, vparts, gfill, ↓vopx, ↓vop, Nat.reduceBEq, thenV, Nat.reduceLT, V.cells, hl, k4, k5, k6, wocs, ↓goc, ↓woc, ↓vopm0, ↓callC, calleeV, Tryd.st26, Tryd.sz26, Tryd.zv26]
    repeat ((with_reducible refine And.intro ?_ ?_); · first | exact ⟨Tryd.is12, row_ (lsX i) (by omega)⟩ | exact ⟨Tryd.is11, cir_push hi10 hP⟩)
    refine hK13 _ _ ?_
    refine vsk fun K14 hK14 => ?_
    obtain ⟨w, e1, e1n, l1⟩ : ∃ w : Nat, (i : Int) * (i : Int) = (w : Int) ∧ i * i = w ∧ w ≤ 100 := ⟨i * i, by push_cast; rfl, rfl, by have : i * i ≤ 10 * 10 := Nat.mul_le_mul hi10 hi10; omega⟩
    rw [e1n] at p2
    have hA : ((q.labels.length : Nat) : Int) = (i : Int) := by omega
    have hB : ((q.pairs.length : Nat) : Int) = (w : Int) := by omega
    refine vw_cut 27 rfl ?_
    refine vl_chunk 0 0 10 17 [(2, 55)] [] (by decide +kernel) (by decide) fun ops' KC hgs hKC => ?_
    have g2_ : gtmp ops' 2 = some 55 := hgs (2, 55) (by simp)
    simp only [bs, ↓vopx, ↓vop, Nat.reduceBEq, flat, Nat.reduceLT, dLoad, vpart, opII, hl, k3, g2_, wocs, ↓goc, ↓woc, ↓vopm0, ↓pick_tt, Tryd.ag23, Tryd.fd26_0, Tryd.sz23, Tryd.un23, nns, len_tStrs, hA, beq_self_eq_true]
    refine hKC _ _ ?_
    clear g2_
    clear hgs hKC KC ops'
    refine vl_env fun e12_0 hE => ?_
    have hl12_0 : e12_0.length = 79 := by rw [hE]; simp only [lpv, hl]
    have c1_3 : ev e12_0 (.tmp 3) = I i := by rw [hE]; simp only [ev_miss, Nat.reduceBEq, k3]
    have c1_8 : ev e12_0 (.tmp 8) = .ptr sa.next 0 := by rw [hE]; simp only [ev_hit, ev_miss, Nat.reduceBEq, lpv, hl, Nat.reduceLT]
    have c1_9 : ev e12_0 (.tmp 9) = .t (tInts p) := by rw [hE]; simp only [ev_hit, ev_miss, Nat.reduceBEq, lpv, hl, Nat.reduceLT]
    have c1_10 : ev e12_0 (.tmp 10) = .t (tInts j) := by rw [hE]; simp only [ev_hit, ev_miss, Nat.reduceBEq, lpv, hl, Nat.reduceLT]
    have c1_62 : ev e12_0 (.tmp 62) = Bo true := by rw [hE]; simp only [ev_hit, lpv, hl, Nat.reduceLT]
    clear hE
    refine vl_chunk 0 10 9 8 [(9, 62)] [] (by decide +kernel) (by decide) fun ops' KC hgs hKC => ?_
    have g9_ : gtmp ops' 9 = some 62 := hgs (9, 62) (by simp)
    simp only [bs, ↓vopx, ↓vop, Nat.reduceBEq, flat, Nat.reduceLT, dLoad, vpart, opII, hl12_0, c1_3, c1_8, c1_62, g9_, wocs, ↓goc, ↓woc, ↓vopm0, ↓pick_tt, Tryd.ag24, Tryd.fd26_1, Tryd.sz24, Tryd.un24, nns, e1, hB, len_tPairs, beq_self_eq_true]
    repeat ((with_reducible refine And.intro ?_ ?_); · exact ⟨by omega, by omega⟩)
    refine hKC _ _ ?_
    clear g9_
    clear hgs hKC KC ops'
    refine vl_env fun e12_1 hE => ?_
    have hl12_1 : e12_1.length = 79 := by rw [hE]; simp only [lpv, hl12_0]
    have c2_3 : ev e12_1 (.tmp 3) = I i := by rw [hE]; simp only [ev_miss, Nat.reduceBEq, c1_3]
    have c2_8 : ev e12_1 (.tmp 8) = .ptr sa.next 0 := by rw [hE]; simp only [ev_miss, Nat.reduceBEq, c1_8]
    have c2_9 : ev e12_1 (.tmp 9) = .t (tInts p) := by rw [hE]; simp only [ev_miss, Nat.reduceBEq, c1_9]
    have c2_10 : ev e12_1 (.tmp 10) = .t (tInts j) := by rw [hE]; simp only [ev_miss, Nat.reduceBEq, c1_10]
    have c2_71 : ev e12_1 (.tmp 71) = Bo true := by rw [hE]; simp only [ev_hit, lpv, hl12_0, Nat.reduceLT]
    clear hE
    refine vl_chunk 0 19 8 0 [(18, 71), (22, 75)] [.pur (Bo true), .pur (Bo true)] (by decide +kernel) (by decide) fun ops' KC hgs hKC => ?_
    have g18_ : gtmp ops' 18 = some 71 := hgs (18, 71) (by simp)
    have g22_ : gtmp ops' 22 = some 75 := hgs (22, 75) (by simp)
    simp only [bs, ↓vopx, ↓vop, Nat.reduceBEq, flat, Nat.reduceLT, hl12_1, c2_9, c2_10, c2_71, g18_, g22_, wocs, ↓goc, ↓woc, ↓vopm0, ↓callC, ↓pick_tt, calleeV]
    repeat ((with_reducible refine And.intro ?_ ?_); · first | exact ⟨Tryd.is7, by have := injective_ p (by omega); rw [p5] at this; exact this⟩ | exact ⟨Tryd.is7, by have := injective_ j (by omega); rw [p6] at this; exact this⟩)
    refine hKC _ _ ?_
    clear g18_
    clear g22_
    clear hgs hKC KC ops'
    refine vl_nil ?_
    try simp only [thenV]
    refine hK14 _ _ ?_
    refine vw_ret ?_
    refine hQ _ _ _ (.inr rfl) (done_tmp ?_ fun n b hn h => by rw [m_set, if_neg (by omega), m_add, if_neg (by omega), hka n hn]; exact h)
    try simp only [ev_hit, lpv, hl12_1, Nat.reduceLT]
end Go.Proofs

/- Steps on the way to the statement that the last text of this claim proves: an abstract machine over the code, proved sound, and what the functions come to over it. No condition of their own. -/
import Derived.Shelf.Sort.AssemblyIn
import Derived.Shelf.Slices.In.SortNone
import Derived.Test.YtkdkajlgbhggdaaDoorJ33
import Derived.Test.YtkdkajlgbhggdaaDoorJ34
import Derived.Test.YtkdkajlgbhggdaaDoorJ37
import Derived.Test.YtkdkajlgbhggdaaDoorJ38
import Derived.Test.YtkdkajlgbhggdaaDoorJ39
import Derived.Test.YtkdkajlgbhggdaaDoorJ40
import Derived.Test.YtkdkajlgbhggdaaDoorJ42
import Derived.Test.YtkdkajlgbhggdaaDoorJ44
import Derived.Test.YtkdkajlgbhggdaaDoorJ47
import Derived.Test.YtkdkajlgbhggdaaDoorJ48
open Go Go.V
namespace Go.Proofs

def invS (a b : Ob) (f g : List Int) : Bool := arrS a b f && (arrS b a g && ((thenS f g).1 == idS f.length && (thenS g f).1 == idS g.length))
theorem thenS_le (f g : List Int) : (thenS f g).1.length ≤ f.length := by
  unfold thenS; split <;> simp
theorem idS_le (n : Int) : (idS n).length ≤ 40 := by
  have : idN n ≤ 40 := by unfold idN; omega
  simp [idS]; exact this
set_option maxRecDepth 20000 in
theorem inverse_ (a b : Ob) (f g : List Int) (ha1 : a.labels.length < 1000000000) (ha2 : a.pairs.length < 1000000000) (hb1 : b.labels.length < 1000000000) (hb2 : b.pairs.length < 1000000000) (hf : f.length < 100000000) (hg : g.length < 100000000) : PCall Tryd.prog 36 [vObj a, vObj b, .t (tInts f), .t (tInts g)] (Bo (invS a b f g)) := by
  refine pcall_of_body Tryd.func36 rfl fun s Q hQ => ?_
  obtain ⟨e, he, hl, h0, h1, h2, h3⟩ : ∃ e : Env, ([vObj a, vObj b, .t (tInts f), .t (tInts g)] ++ List.replicate (Tryd.f36.ntmps - ([vObj a, vObj b, .t (tInts f), .t (tInts g)] : List V).length) .junk) = e ∧ e.length = 49 ∧ ev e (.tmp 0) = vObj a ∧ ev e (.tmp 1) = vObj b ∧ ev e (.tmp 2) = .t (tInts f) ∧ ev e (.tmp 3) = .t (tInts g) := ⟨_, rfl, rfl, rfl, rfl, rfl, rfl⟩
  rw [he]
  clear he
  refine vw_seq_k fun K1 hK1 => ?_
  refine vw_sc 0 [] ?_
  simp only [bs, ↓vopx, ↓vop, Nat.reduceBEq, thenV, flat, V.cells, h0, h1, wocs, ↓goc, ↓woc, ↓vopm0]
  refine hK1 _ _ ?_
  refine vw_seq_k fun K2 hK2 => ?_
  refine vw_seq_k fun K3 hK3 => ?_
  rcases (show arrS a b f = false ∨ (arrS a b f = true ∧ arrS b a g = false) ∨ (arrS a b f = true ∧ arrS b a g = true) by cases arrS a b f <;> cases arrS b a g <;> simp) with hab | ⟨hab, hba⟩ | ⟨hab, hba⟩
  · refine vw_sc 0 [.pur (Bo (arrS a b f))] ?_
    simp only [bs, Nat.reduceAdd, ↓vopx, ↓vop, Nat.reduceBEq, thenV, flat, Nat.reduceLT, dLoad, vpart, gtmp, hl, h2, wocs, ↓goc, ↓woc, ↓vopm0, ↓callC, ↓pick_tf, calleeV, Tryd.ag25, Tryd.sz25, hab]
    repeat ((with_reducible refine And.intro ?_ ?_); · exact ⟨Tryd.is34, by simpa only [hab] using arrow_ a b f ha1 ha2 hb1 hb2 (by omega)⟩)
    refine hK3 _ _ ?_
    refine vw_cond_k fun A B hA hB => ?_
    simp only [condV, ev_hit, length_putv, Nat.reduceLT, true_implies, reduceCtorEq, false_implies, and_true, hl]
    refine hA ?_
    clear hA hB A B
    refine vw_seq_k fun K4 hK4 => ?_
    refine vw_sc 0 [] ?_
    simp only [bs, ↓vopx, ↓vop, thenV, flat, wocs, ↓goc, ↓woc, ↓vopm0]
    refine hK4 _ _ ?_
    refine vw_ret ?_
    refine hQ _ _ _ (.inr rfl) (done_tmp ?_ fun n b hn h => by simp [Sg.add, show n ≠ s.next by omega, show n ≠ s.next + 1 by omega, h])
    try simp only [ev_hit, length_putv, hl, Nat.reduceLT]
    simp [invS, hab]
  · refine vw_sc 0 [.pur (Bo (arrS a b f)), .pur (Bo (arrS b a g))] ?_
    simp only [bs, Nat.reduceAdd, ↓vopx, ↓vop, Nat.reduceBEq, thenV, flat, Nat.reduceLT, dLoad, vpart, gtmp, hl, h2, h3, wocs, ↓goc, ↓woc, ↓vopm0, ↓callC, ↓pick_ff, calleeV, Tryd.ag25, Tryd.sz25, hab, hba]
    repeat ((with_reducible refine And.intro ?_ ?_); · first | exact ⟨Tryd.is34, by simpa only [hab] using arrow_ a b f ha1 ha2 hb1 hb2 (by omega)⟩ | exact ⟨Tryd.is34, by simpa only [hba] using arrow_ b a g hb1 hb2 ha1 ha2 (by omega)⟩)
    refine hK3 _ _ ?_
    refine vw_cond_k fun A B hA hB => ?_
    simp only [condV, ev_hit, length_putv, Nat.reduceLT, true_implies, reduceCtorEq, false_implies, and_true, hl]
    refine hA ?_
    clear hA hB A B
    refine vw_seq_k fun K5 hK5 => ?_
    refine vw_sc 0 [] ?_
    simp only [bs, ↓vopx, ↓vop, thenV, flat, wocs, ↓goc, ↓woc, ↓vopm0]
    refine hK5 _ _ ?_
    refine vw_ret ?_
    refine hQ _ _ _ (.inr rfl) (done_tmp ?_ fun n b hn h => by simp [Sg.add, show n ≠ s.next by omega, show n ≠ s.next + 1 by omega, h])
    try simp only [ev_hit, length_putv, hl, Nat.reduceLT]
    simp [invS, hba]
  · refine vw_sc 0 [.pur (Bo (arrS a b f)), .pur (Bo (arrS b a g))] ?_
    simp only [bs, Nat.reduceAdd, ↓vopx, ↓vop, Nat.reduceBEq, thenV, flat, Nat.reduceLT, dLoad, vpart, gtmp, hl, h2, h3, wocs, ↓goc, ↓woc, ↓vopm0, ↓callC, ↓pick_ff, calleeV, Tryd.ag25, Tryd.sz25, hab, hba]
    repeat ((with_reducible refine And.intro ?_ ?_); · first | exact ⟨Tryd.is34, by simpa only [hab] using arrow_ a b f ha1 ha2 hb1 hb2 (by omega)⟩ | exact ⟨Tryd.is34, by simpa only [hba] using arrow_ b a g hb1 hb2 ha1 ha2 (by omega)⟩)
    refine hK3 _ _ ?_
    refine vw_cond_k fun A B hA hB => ?_
    simp only [condV, ev_hit, length_putv, Nat.reduceLT, true_implies, reduceCtorEq, false_implies, true_and, hl]
    refine hB ?_
    clear hA hB A B
    refine vw_skip ?_
    refine hK2 _ _ ?_
    refine vw_seq_k fun K6 hK6 => ?_
    refine vw_sc 0 [.pur (.tup [.t (tInts (thenS f g).1), Bo (thenS f g).2])] ?_
    simp only [bs, ↓vopx, ↓vop, Nat.reduceBEq, thenV, Nat.reduceLT, hl, h2, h3, wocs, ↓goc, ↓woc, ↓vopm0, ↓callC, calleeV]
    repeat ((with_reducible refine And.intro ?_ ?_); · exact ⟨Tryd.is32, then_ f g (by omega) (by omega)⟩)
    refine hK6 _ _ ?_
    refine vw_seq_k fun K7 hK7 => ?_
    refine vw_sc 0 [.pur (.tup [.t (tInts (thenS g f).1), Bo (thenS g f).2])] ?_
    simp only [bs, ↓vopx, ↓vop, Nat.reduceBEq, thenV, Nat.reduceLT, hl, h2, h3, wocs, ↓goc, ↓woc, ↓vopm0, ↓callC, calleeV]
    repeat ((with_reducible refine And.intro ?_ ?_); · exact ⟨Tryd.is32, then_ g f (by omega) (by omega)⟩)
    refine hK7 _ _ ?_
    refine vw_seq_k fun K8 hK8 => ?_
    cases hq : ((thenS f g).1 == idS f.length)
    · refine vw_sc 0 [.pur (.t (tInts (idS f.length))), .pur (Bo ((thenS f g).1 == idS f.length))] ?_
      simp only [bs, ↓vopx, ↓vop, Nat.reduceBEq, thenV, flat, Nat.reduceLT, gtmp, hl, h2, wocs, ↓goc, ↓woc, ↓vopm0, ↓callC, ↓pick_ft, calleeV, len_tInts, Tryd.underlying26, hq]
      repeat ((with_reducible refine And.intro ?_ ?_); · first | exact ⟨Tryd.is35, identity_ _⟩ | exact ⟨Tryd.is33, by simpa only [hq] using arrowSame_ (thenS f g).1 (idS f.length) (by have := thenS_le f g; omega) (by have := idS_le f.length; omega)⟩)
      refine hK8 _ _ ?_
      refine vw_ret ?_
      refine hQ _ _ _ (.inr rfl) (done_tmp ?_ fun n b hn h => by simp [Sg.add, show n ≠ s.next by omega, show n ≠ s.next + 1 by omega, h])
      try simp only [ev_hit, length_putv, hl, Nat.reduceLT]
      simp [invS, hab, hba, hq]
    · refine vw_sc 0 [.pur (.t (tInts (idS f.length))), .pur (Bo ((thenS f g).1 == idS f.length)), .pur (.t (tInts (idS g.length))), .pur (Bo ((thenS g f).1 == idS g.length))] ?_
      simp only [bs, ↓vopx, ↓vop, Nat.reduceBEq, thenV, flat, Nat.reduceLT, gtmp, hl, h2, h3, wocs, ↓goc, ↓woc, ↓vopm0, ↓callC, ↓pick_tt, calleeV, len_tInts, Tryd.underlying26, hq]
      repeat ((with_reducible refine And.intro ?_ ?_); · first | exact ⟨Tryd.is35, identity_ _⟩ | exact ⟨Tryd.is33, by simpa only [hq] using arrowSame_ (thenS f g).1 (idS f.length) (by have := thenS_le f g; omega) (by have := idS_le f.length; omega)⟩ | exact ⟨Tryd.is33, arrowSame_ (thenS g f).1 (idS g.length) (by have := thenS_le g f; omega) (by have := idS_le g.length; omega)⟩)
      refine hK8 _ _ ?_
      refine vw_ret ?_
      refine hQ _ _ _ (.inr rfl) (done_tmp ?_ fun n b hn h => by simp [Sg.add, show n ≠ s.next by omega, show n ≠ s.next + 1 by omega, h])
      try simp only [ev_hit, length_putv, hl, Nat.reduceLT]
      simp [invS, hab, hba, hq]

end Go.Proofs

open Go Go.V
namespace Go.Proofs

theorem legT_length (n base : Nat) : (legT n base).length = n := by simp [legT]
abbrev pushE (a b c : Ob) (f g : List Int) : Ob × List Int × Int := eqS a (besideS b c) (thenS f (legT b.labels.length 0)).1 (thenS g (legT c.labels.length b.labels.length)).1
/-- put together over what both have: 0, 10, 11 -/
def pushS (a b c : Ob) (f g : List Int) : Ob × List Int × List Int × Int :=
  if largeS [a] = true ∨ largeS [b, c] = true then (⟨[], []⟩, [], [], 11) else if arrS a b f = true ∧ arrS a c g = true then
    (if (pushE a b c f g).2.2 = 0 then ((pushE a b c f g).1, (thenS (legT b.labels.length 0) (pushE a b c f g).2.1).1, (thenS (legT c.labels.length b.labels.length) (pushE a b c f g).2.1).1, 0) else (⟨[], []⟩, [], [], (pushE a b c f g).2.2))
  else (⟨[], []⟩, [], [], 10)
theorem eqS_le (a b : Ob) (f g : List Int) : (eqS a b f g).2.1.length ≤ b.labels.length := by
  unfold eqS
  split
  · simp
  · split
    · show (eqPl b f g).length ≤ _
      unfold eqPl
      rw [placesL_length, joinsL_length, rangeI_length]; exact Nat.le_refl _
    · simp

set_option maxRecDepth 20000 in
set_option maxHeartbeats 4000000 in
theorem push_ (a b c : Ob) (f g : List Int) (ha1 : a.labels.length < 1000000000) (ha2 : a.pairs.length < 1000000000) (hb1 : b.labels.length < 1000000000) (hb2 : b.pairs.length ≤ 1000) (hc1 : c.labels.length < 1000000000) (hc2 : c.pairs.length ≤ 1000) (hf : f.length < 100000000) (hg : g.length < 100000000) : PCall Tryd.prog 22 [vObj a, vObj b, vObj c, .t (tInts f), .t (tInts g)] (vSum (pushS a b c f g)) := by
  refine pcall_of_body Tryd.func22 rfl fun s Q hQ => ?_
  obtain ⟨e, he, hl, h0, h1, h2, h3, h4⟩ : ∃ e : Env, ([vObj a, vObj b, vObj c, .t (tInts f), .t (tInts g)] ++ List.replicate (Tryd.f22.ntmps - ([vObj a, vObj b, vObj c, .t (tInts f), .t (tInts g)] : List V).length) .junk) = e ∧ e.length = 107 ∧ ev e (.tmp 0) = vObj a ∧ ev e (.tmp 1) = vObj b ∧ ev e (.tmp 2) = vObj c ∧ ev e (.tmp 3) = .t (tInts f) ∧ ev e (.tmp 4) = .t (tInts g) := ⟨_, rfl, rfl, rfl, rfl, rfl, rfl, rfl⟩
  rw [he]
  clear he
  refine vw_seq_k fun K1 hK1 => ?_
  refine vw_sc 0 [] ?_
  simp only [bs, ↓vopx, ↓vop, Nat.reduceBEq, thenV, flat, V.cells, h0, h1, h2, wocs, ↓goc, ↓woc, ↓vopm0, Tryd.zv25]
  refine hK1 _ _ ?_
  refine vw_seq_k fun K2 hK2 => ?_
  refine vw_block ?_
  refine vw_seq_k fun K3 hK3 => ?_
  refine vw_st fun sN hSN => ?_
  have hn5 : sN.m s.next = some (.box 25 [.t (tStrs a.labels), .t (tPairs a.pairs)]) := by rw [hSN, m_add, if_neg (by simp only [n_add]; omega), m_add, if_neg (by simp only [n_add]; omega), m_add, if_neg (by simp only [n_add]; omega), m_add, if_pos rfl]
  have hn6 : sN.m (s.next + 1) = some (.box 25 [.t (tStrs b.labels), .t (tPairs b.pairs)]) := by rw [hSN, m_add, if_neg (by simp only [n_add]; omega), m_add, if_neg (by simp only [n_add]; omega), m_add, if_pos (by simp only [n_add])]
  have hn7 : sN.m (s.next + 1 + 1) = some (.box 25 [.t (tStrs c.labels), .t (tPairs c.pairs)]) := by rw [hSN, m_add, if_neg (by simp only [n_add]; omega), m_add, if_pos (by simp only [n_add])]
  have hn10 : sN.m (s.next + 1 + 1 + 1) = some (.box 25 [.t (.v (.slice none 0 0)), .t (.v (.slice none 0 0))]) := by rw [hSN, m_add, if_pos (by simp only [n_add])]
  have hnn : sN.next = s.next + 4 := by rw [hSN]; rfl
  have hnk : ∀ j, j < s.next → sN.m j = s.m j := fun j hj => by rw [hSN, m_add, if_neg (by simp only [n_add]; omega), m_add, if_neg (by simp only [n_add]; omega), m_add, if_neg (by simp only [n_add]; omega), m_add, if_neg (by omega)]
  clear hSN
  rcases (show largeS [a] = true ∨ (largeS [a] = false ∧ largeS [b, c] = true) ∨ (largeS [a] = false ∧ largeS [b, c] = false) by cases largeS [a] <;> cases largeS [b, c] <;> simp) with ka | ⟨ka, kb⟩ | ⟨ka, kb⟩
  · refine vw_sc 1 [.pur (Bo (largeS [a]))] ?_
    simp only [bs, Nat.reduceLeDiff, Nat.reduceAdd, vparts, gfill, repl, Sg.frzP, ↓vopx, ↓vop, Nat.reduceBEq, thenV, flat, Nat.reduceLT, V.cells, dLoad, vpart, gtmp, Sg.frzL, Sg.frz1, hl, wocs, ↓goc, ↓woc, ↓vopm1, ↓callC, ↓pick_tf, calleeV, Tryd.ag25, Tryd.sl59, Tryd.sz25, Nat.reduceMul, Nat.le_refl, hn5, ka]
    repeat ((with_reducible refine And.intro ?_ ?_); · exact ⟨Tryd.is64, by simpa only [ka] using large_one a (by omega)⟩)
    refine hK3 _ _ ?_
    refine vw_cond_k fun A B hA hB => ?_
    simp only [condV, ev_hit, length_putv, Nat.reduceLT, true_implies, reduceCtorEq, false_implies, and_true, hl]
    refine hA ?_
    clear hA hB A B
    refine vw_seq_k fun K4 hK4 => ?_
    refine vw_sc 0 [] ?_
    simp only [bs, Nat.reduceAdd, vparts, gfill, ↓vopx, ↓vop, Nat.reduceBEq, thenV, flat, Nat.reduceLT, V.cells, hl, wocs, ↓goc, ↓woc, ↓vopm0, Tryd.st25, Tryd.sz25, Nat.le_refl, hn10]
    refine hK4 _ _ ?_
    refine vw_ret ?_
    have hres : vSum (pushS a b c f g) = pack [vObj ⟨[], []⟩, .t (tInts []), .t (tInts []), I 11] := by simp [pushS, vSum, ka]; rfl
    rw [hres] at hQ
    refine hQ _ _ _ (.inr rfl) (done_wk (vs := [.agg [.t (.v (.slice none 0 0)), .t (.v (.slice none 0 0))], .t (.v (.slice none 0 0)), .t (.v (.slice none 0 0)), I 11]) (vs' := [vObj ⟨[], []⟩, .t (tInts []), .t (tInts []), I 11]) ?_ rfl (ewk_err4 _ _) (by simp [pack, nm, nm2, nm1, nm0]) ?_)
    · show vres Tryd.prog _ _ [.cell 10 25, .tmp 11, .tmp 12, .tmp 13] = _
      simp only [vres_cell, vres_tmp, vres_nil, ev_hit, ev_miss, Nat.reduceBEq, length_putv, hl, hn10, Tryd.sz25, Tryd.ag25, dLoad, m_set, vpart, if_true, Nat.reduceLT, List.drop_zero, List.take_succ_cons, List.take_zero, List.length_cons, List.length_nil, Nat.zero_add, Nat.reduceAdd]
      try rfl
    · exact fun n x hn h => by rw [m_set, if_neg (by omega), hnk n hn]; exact h
  · refine vw_sc 1 [.pur (Bo (largeS [a])), .pur (Bo (largeS [b, c]))] ?_
    simp only [bs, Nat.reduceLeDiff, Nat.reduceAdd, vparts, gfill, repl, Sg.frzP, ↓vopx, ↓vop, Nat.reduceBEq, thenV, flat, Nat.reduceLT, V.cells, dLoad, vpart, gtmp, Sg.frzL, Sg.frz1, hl, wocs, ↓goc, ↓woc, ↓vopm1, ↓callC, ↓pick_ff, calleeV, Tryd.ag25, Tryd.sl59, Tryd.sz25, setAll_a0, setAll_b2, Nat.reduceMul, Nat.le_refl, hn5, hn6, hn7, ka, kb]
    repeat ((with_reducible refine And.intro ?_ ?_); · first | exact ⟨Tryd.is64, by simpa only [ka] using large_one a (by omega)⟩ | exact ⟨Tryd.is64, by simpa only [kb] using large_two b c (by omega) (by omega)⟩)
    refine hK3 _ _ ?_
    refine vw_cond_k fun A B hA hB => ?_
    simp only [condV, ev_hit, length_putv, Nat.reduceLT, true_implies, reduceCtorEq, false_implies, and_true, hl]
    refine hA ?_
    clear hA hB A B
    refine vw_seq_k fun K5 hK5 => ?_
    refine vw_sc 0 [] ?_
    simp only [bs, Nat.reduceAdd, vparts, gfill, ↓vopx, ↓vop, Nat.reduceBEq, thenV, flat, Nat.reduceLT, V.cells, hl, wocs, ↓goc, ↓woc, ↓vopm0, Tryd.st25, Tryd.sz25, Nat.le_refl, hn10]
    refine hK5 _ _ ?_
    refine vw_ret ?_
    have hres : vSum (pushS a b c f g) = pack [vObj ⟨[], []⟩, .t (tInts []), .t (tInts []), I 11] := by simp [pushS, vSum, kb]; rfl
    rw [hres] at hQ
    refine hQ _ _ _ (.inr rfl) (done_wk (vs := [.agg [.t (.v (.slice none 0 0)), .t (.v (.slice none 0 0))], .t (.v (.slice none 0 0)), .t (.v (.slice none 0 0)), I 11]) (vs' := [vObj ⟨[], []⟩, .t (tInts []), .t (tInts []), I 11]) ?_ rfl (ewk_err4 _ _) (by simp [pack, nm, nm2, nm1, nm0]) ?_)
    · show vres Tryd.prog _ _ [.cell 10 25, .tmp 11, .tmp 12, .tmp 13] = _
      simp only [vres_cell, vres_tmp, vres_nil, ev_hit, ev_miss, Nat.reduceBEq, length_putv, hl, hn10, Tryd.sz25, Tryd.ag25, dLoad, m_set, vpart, if_true, Nat.reduceLT, List.drop_zero, List.take_succ_cons, List.take_zero, List.length_cons, List.length_nil, Nat.zero_add, Nat.reduceAdd]
      try rfl
    · exact fun n x hn h => by rw [m_set, if_neg (by omega), hnk n hn]; exact h
  · refine vw_sc 1 [.pur (Bo (largeS [a])), .pur (Bo (largeS [b, c]))] ?_
    simp only [bs, Nat.reduceLeDiff, Nat.reduceAdd, vparts, gfill, repl, Sg.frzP, ↓vopx, ↓vop, Nat.reduceBEq, thenV, flat, Nat.reduceLT, V.cells, dLoad, vpart, gtmp, Sg.frzL, Sg.frz1, hl, wocs, ↓goc, ↓woc, ↓vopm1, ↓callC, ↓pick_ff, calleeV, Tryd.ag25, Tryd.sl59, Tryd.sz25, setAll_a0, setAll_b2, Nat.reduceMul, Nat.le_refl, hn5, hn6, hn7, ka, kb]
    repeat ((with_reducible refine And.intro ?_ ?_); · first | exact ⟨Tryd.is64, by simpa only [ka] using large_one a (by omega)⟩ | exact ⟨Tryd.is64, by simpa only [kb] using large_two b c (by omega) (by omega)⟩)
    refine hK3 _ _ ?_
    refine vw_cond_k fun A B hA hB => ?_
    simp only [condV, ev_hit, length_putv, Nat.reduceLT, true_implies, reduceCtorEq, false_implies, true_and, hl]
    refine hB ?_
    clear hA hB A B
    refine vw_seq_k fun K6 hK6 => ?_
    rcases (show arrS a b f = false ∨ (arrS a b f = true ∧ arrS a c g = false) ∨ (arrS a b f = true ∧ arrS a c g = true) by cases arrS a b f <;> cases arrS a c g <;> simp) with kf | ⟨kf, kg⟩ | ⟨kf, kg⟩
    · refine vw_sc 0 [.pur (Bo (arrS a b f))] ?_
      simp only [bs, Nat.reduceAdd, ↓vopx, ↓vop, Nat.reduceBEq, thenV, flat, Nat.reduceLT, dLoad, vpart, gtmp, hl, h3, wocs, ↓goc, ↓woc, ↓vopm0, ↓callC, ↓pick_tf, calleeV, Tryd.ag25, Tryd.sz25, kf, hn5, hn6]
      repeat ((with_reducible refine And.intro ?_ ?_); · exact ⟨Tryd.is34, by simpa only [kf] using arrow_ a b f (by omega) (by omega) (by omega) (by omega) (by omega)⟩)
      refine hK6 _ _ ?_
      refine vw_cond_k fun A B hA hB => ?_
      simp only [condV, ev_hit, length_putv, Nat.reduceLT, true_implies, reduceCtorEq, false_implies, and_true, hl]
      refine hA ?_
      clear hA hB A B
      refine vw_seq_k fun K7 hK7 => ?_
      refine vw_sc 0 [] ?_
      simp only [bs, Nat.reduceAdd, vparts, gfill, ↓vopx, ↓vop, Nat.reduceBEq, thenV, flat, Nat.reduceLT, V.cells, hl, wocs, ↓goc, ↓woc, ↓vopm0, Tryd.st25, Tryd.sz25, Nat.le_refl, hn10]
      refine hK7 _ _ ?_
      refine vw_ret ?_
      have hres : vSum (pushS a b c f g) = pack [vObj ⟨[], []⟩, .t (tInts []), .t (tInts []), I 10] := by simp [pushS, vSum, ka, kb, kf]; rfl
      rw [hres] at hQ
      refine hQ _ _ _ (.inr rfl) (done_wk (vs := [.agg [.t (.v (.slice none 0 0)), .t (.v (.slice none 0 0))], .t (.v (.slice none 0 0)), .t (.v (.slice none 0 0)), I 10]) (vs' := [vObj ⟨[], []⟩, .t (tInts []), .t (tInts []), I 10]) ?_ rfl (ewk_err4 _ _) (by simp [pack, nm, nm2, nm1, nm0]) ?_)
      · show vres Tryd.prog _ _ [.cell 10 25, .tmp 11, .tmp 12, .tmp 13] = _
        simp only [vres_cell, vres_tmp, vres_nil, ev_hit, ev_miss, Nat.reduceBEq, length_putv, hl, hn10, Tryd.sz25, Tryd.ag25, dLoad, m_set, vpart, if_true, Nat.reduceLT, List.drop_zero, List.take_succ_cons, List.take_zero, List.length_cons, List.length_nil, Nat.zero_add, Nat.reduceAdd]
        try rfl
      · exact fun n x hn h => by rw [m_set, if_neg (by omega), hnk n hn]; exact h
    · refine vw_sc 0 [.pur (Bo (arrS a b f)), .pur (Bo (arrS a c g))] ?_
      simp only [bs, Nat.reduceAdd, ↓vopx, ↓vop, Nat.reduceBEq, thenV, flat, Nat.reduceLT, dLoad, vpart, gtmp, hl, h3, h4, wocs, ↓goc, ↓woc, ↓vopm0, ↓callC, ↓pick_ff, calleeV, Tryd.ag25, Tryd.sz25, kf, kg, hn5, hn6, hn7]
      repeat ((with_reducible refine And.intro ?_ ?_); · first | exact ⟨Tryd.is34, by simpa only [kf] using arrow_ a b f (by omega) (by omega) (by omega) (by omega) (by omega)⟩ | exact ⟨Tryd.is34, by simpa only [kg] using arrow_ a c g (by omega) (by omega) (by omega) (by omega) (by omega)⟩)
      refine hK6 _ _ ?_
      refine vw_cond_k fun A B hA hB => ?_
      simp only [condV, ev_hit, length_putv, Nat.reduceLT, true_implies, reduceCtorEq, false_implies, and_true, hl]
      refine hA ?_
      clear hA hB A B
      refine vw_seq_k fun K8 hK8 => ?_
      refine vw_sc 0 [] ?_
      simp only [bs, Nat.reduceAdd, vparts, gfill, ↓vopx, ↓vop, Nat.reduceBEq, thenV, flat, Nat.reduceLT, V.cells, hl, wocs, ↓goc, ↓woc, ↓vopm0, Tryd.st25, Tryd.sz25, Nat.le_refl, hn10]
      refine hK8 _ _ ?_
      refine vw_ret ?_
      have hres : vSum (pushS a b c f g) = pack [vObj ⟨[], []⟩, .t (tInts []), .t (tInts []), I 10] := by simp [pushS, vSum, ka, kb, kg]; rfl
      rw [hres] at hQ
      refine hQ _ _ _ (.inr rfl) (done_wk (vs := [.agg [.t (.v (.slice none 0 0)), .t (.v (.slice none 0 0))], .t (.v (.slice none 0 0)), .t (.v (.slice none 0 0)), I 10]) (vs' := [vObj ⟨[], []⟩, .t (tInts []), .t (tInts []), I 10]) ?_ rfl (ewk_err4 _ _) (by simp [pack, nm, nm2, nm1, nm0]) ?_)
      · show vres Tryd.prog _ _ [.cell 10 25, .tmp 11, .tmp 12, .tmp 13] = _
        simp only [vres_cell, vres_tmp, vres_nil, ev_hit, ev_miss, Nat.reduceBEq, length_putv, hl, hn10, Tryd.sz25, Tryd.ag25, dLoad, m_set, vpart, if_true, Nat.reduceLT, List.drop_zero, List.take_succ_cons, List.take_zero, List.length_cons, List.length_nil, Nat.zero_add, Nat.reduceAdd]
        try rfl
      · exact fun n x hn h => by rw [m_set, if_neg (by omega), hnk n hn]; exact h
    · refine vw_sc 0 [.pur (Bo (arrS a b f)), .pur (Bo (arrS a c g))] ?_
      simp only [bs, Nat.reduceAdd, ↓vopx, ↓vop, Nat.reduceBEq, thenV, flat, Nat.reduceLT, dLoad, vpart, gtmp, hl, h3, h4, wocs, ↓goc, ↓woc, ↓vopm0, ↓callC, ↓pick_ff, calleeV, Tryd.ag25, Tryd.sz25, kf, kg, hn5, hn6, hn7]
      repeat ((with_reducible refine And.intro ?_ ?_); · first | exact ⟨Tryd.is34, by simpa only [kf] using arrow_ a b f (by omega) (by omega) (by omega) (by omega) (by omega)⟩ | exact ⟨Tryd.is34, by simpa only [kg] using arrow_ a c g (by omega) (by omega) (by omega) (by omega) (by omega)⟩)
      refine hK6 _ _ ?_
      refine vw_cond_k fun A B hA hB => ?_
      simp only [condV, ev_hit, length_putv, Nat.reduceLT, true_implies, reduceCtorEq, false_implies, true_and, hl]
      refine hB ?_
      clear hA hB A B
      refine vw_skip ?_
      refine hK2 _ _ ?_
      refine vw_seq_k fun K9 hK9 => ?_
      have hoa := (arrS_iff.1 kf).1
      have hob := (arrS_iff.1 kf).2.1
      have hoc := (arrS_iff.1 kg).2.1
      have hla := hoa.le
      have hlb := hob.le
      have hlc := hoc.le
      have hfl := allY_length (arrS_iff.1 kf).2.2.1
      have hgl := allY_length (arrS_iff.1 kg).2.2.1
      have hL1 := legT_length b.labels.length 0
      have hL2 := legT_length c.labels.length b.labels.length
      have hOK : BsOK [b, c] := ⟨by simp, by intro o ho; simp at ho; rcases ho with rfl | rfl; exact hob; exact hoc, by intro o ho; simp at ho; rcases ho with rfl | rfl <;> omega⟩
      refine vw_sc 1 [.pur (.tup [vObj (besideS b c), .t (tMat [legT b.labels.length 0, legT c.labels.length b.labels.length])])] ?_
      simp only [bs, Nat.reduceLeDiff, Nat.reduceAdd, vparts, gfill, repl, Sg.frzP, ↓vopx, ↓vop, Nat.reduceBEq, thenV, Nat.reduceLT, V.cells, dLoad, vpart, Sg.frzL, Sg.frz1, hl, wocs, ↓goc, ↓woc, ↓vopm1, ↓callC, calleeV, Tryd.ag25, Tryd.sl59, Tryd.sz25, Tryd.zv25, setAll_a0, setAll_b2, Nat.reduceMul, Nat.le_refl, hn6, hn7]
      repeat ((with_reducible refine And.intro ?_ ?_); · exact ⟨Tryd.is65, by have h := beside_two b c hOK; rw [bsS_two, legs_two] at h; exact h⟩)
      refine hK9 _ _ ?_
      refine vw_seq_k fun K10 hK10 => ?_
      refine vw_st fun sP hSP => ?_
      have hp14 : sP.m sN.next = some (.box 25 [.t (tStrs (besideS b c).labels), .t (tPairs (besideS b c).pairs)]) := by rw [hSP, m_set, if_pos rfl]
      have hps : ∀ j, j < sN.next → sP.m j = sN.m j := fun j hj => by rw [hSP, m_set, if_neg (by omega), m_add, if_neg (by omega)]
      have hpn : sP.next = sN.next + 1 := by rw [hSP]; rfl
      have hp5 : sP.m s.next = some (.box 25 [.t (tStrs a.labels), .t (tPairs a.pairs)]) := by rw [hps _ (by omega)]; exact hn5
      have hp10 : sP.m (s.next + 1 + 1 + 1) = some (.box 25 [.t (.v (.slice none 0 0)), .t (.v (.slice none 0 0))]) := by rw [hps _ (by omega)]; exact hn10
      clear hSP
      refine vw_sc 0 [.pur (.tup [.t (tInts (thenS f (legT b.labels.length 0)).1), Bo (thenS f (legT b.labels.length 0)).2])] ?_
      simp only [bs, Nat.reduceAdd, ↓vopx, ↓vop, Nat.reduceBEq, thenV, flat, Nat.reduceLT, dLoad, vpart, hl, h3, wocs, ↓goc, ↓woc, ↓vopm0, ↓callC, calleeV, Tryd.ag26, Tryd.sz26, Tryd.un63, Int.toNat_zero]
      repeat ((with_reducible refine And.intro ?_ ?_); · first | omega | exact ⟨Tryd.is32, then_ f (legT b.labels.length 0) (by omega) (by omega)⟩)
      refine hK10 _ _ ?_
      refine vw_seq_k fun K11 hK11 => ?_
      refine vw_sc 0 [.pur (.tup [.t (tInts (thenS g (legT c.labels.length b.labels.length)).1), Bo (thenS g (legT c.labels.length b.labels.length)).2])] ?_
      simp only [bs, Nat.reduceAdd, ↓vopx, ↓vop, Nat.reduceBEq, thenV, flat, Nat.reduceLT, dLoad, vpart, hl, h4, wocs, ↓goc, ↓woc, ↓vopm0, ↓callC, calleeV, Tryd.ag26, Tryd.sz26, Tryd.un63, Int.toNat_one]
      repeat ((with_reducible refine And.intro ?_ ?_); · first | omega | exact ⟨Tryd.is32, then_ g (legT c.labels.length b.labels.length) (by omega) (by omega)⟩)
      refine hK11 _ _ ?_
      refine vw_seq_k fun K12 hK12 => ?_
      have ht1 := thenS_le f (legT b.labels.length 0)
      have ht2 := thenS_le g (legT c.labels.length b.labels.length)
      have hol : (besideS b c).labels.length < 1000000000 := by simp only [besideS, List.length_append]; omega
      have hop : (besideS b c).pairs.length < 1000000000 := by simp only [besideS, List.length_append, List.length_map]; omega
      refine vw_sc 0 [.pur (.tup [vObj (pushE a b c f g).1, .t (tInts (pushE a b c f g).2.1), I (pushE a b c f g).2.2])] ?_
      simp only [bs, Nat.reduceAdd, ↓vopx, ↓vop, Nat.reduceBEq, thenV, Nat.reduceLT, V.cells, dLoad, vpart, hl, wocs, ↓goc, ↓woc, ↓vopm0, ↓callC, calleeV, Tryd.ag25, Tryd.sz25, Tryd.zv25, Nat.le_refl, hp5, hp14]
      repeat ((with_reducible refine And.intro ?_ ?_); · exact ⟨Tryd.is28, equal_ a (besideS b c) _ _ (by omega) (by omega) hol hop (by omega) (by omega)⟩)
      refine hK12 _ _ ?_
      refine vw_seq_k fun K13 hK13 => ?_
      refine vw_seq_k fun K14 hK14 => ?_
      refine vw_st fun sQ hSQ => ?_
      have hq20 : sQ.m sP.next = some (.box 25 [.t (tStrs (pushE a b c f g).1.labels), .t (tPairs (pushE a b c f g).1.pairs)]) := by rw [hSQ, m_set, if_pos rfl]
      have hqs : ∀ j, j < sP.next → sQ.m j = sP.m j := fun j hj => by rw [hSQ, m_set, if_neg (by omega), m_add, if_neg (by omega)]
      have hq10 : sQ.m (s.next + 1 + 1 + 1) = some (.box 25 [.t (.v (.slice none 0 0)), .t (.v (.slice none 0 0))]) := by rw [hqs _ (by omega)]; exact hp10
      have hqk : ∀ j x, j < s.next → s.m j = some x → sQ.m j = some x := fun j x hj hx => by rw [hqs _ (by omega), hps _ (by omega), hnk j hj]; exact hx
      clear hSQ
      have hql : (pushE a b c f g).2.1.length ≤ (besideS b c).labels.length := eqS_le a (besideS b c) (thenS f (legT b.labels.length 0)).1 (thenS g (legT c.labels.length b.labels.length)).1
      have hql2 : (besideS b c).labels.length = b.labels.length + c.labels.length := by simp only [besideS, List.length_append]
      have hn20 : ¬ sP.next = s.next + 1 + 1 + 1 := by omega
      refine vw_sc 0 [] ?_
      simp only [bs, ↓vopx, ↓vop, thenV, flat, Nat.reduceLT, opII, hl, wocs, ↓goc, ↓woc, ↓vopm0]
      refine hK14 _ _ ?_
      refine vw_cond_k fun A B hA hB => ?_
      simp only [condV, ev_hit, length_putv, Nat.reduceLT, bne_iff_ne, bne_eq_false_iff_eq, ne_eq, hl]
      refine ⟨fun hez => hA ?_, fun hez => hB ?_⟩
      · clear hA hB A B
        refine vw_seq_k fun K15 hK15 => ?_
        refine vw_sc 0 [] ?_
        simp only [bs, Nat.reduceAdd, vparts, gfill, ↓vopx, ↓vop, Nat.reduceBEq, thenV, flat, Nat.reduceLT, V.cells, hl, wocs, ↓goc, ↓woc, ↓vopm0, Tryd.st25, Tryd.sz25, Nat.le_refl, hq10]
        refine hK15 _ _ ?_
        refine vw_ret ?_
        have hres : vSum (pushS a b c f g) = pack [vObj ⟨[], []⟩, .t (tInts []), .t (tInts []), I (pushE a b c f g).2.2] := by simp [pushS, vSum, ka, kb, kf, kg, hez]; rfl
        rw [hres] at hQ
        refine hQ _ _ _ (.inr rfl) (done_wk (vs := [.agg [.t (.v (.slice none 0 0)), .t (.v (.slice none 0 0))], .t (.v (.slice none 0 0)), .t (.v (.slice none 0 0)), I (pushE a b c f g).2.2]) (vs' := [vObj ⟨[], []⟩, .t (tInts []), .t (tInts []), I (pushE a b c f g).2.2]) ?_ rfl (ewk_err4 _ _) (by simp [pack, nm, nm2, nm1, nm0]) ?_)
        · show vres Tryd.prog _ _ [.cell 10 25, .tmp 11, .tmp 12, .tmp 13] = _
          simp only [vres_cell, vres_tmp, vres_nil, ev_hit, ev_miss, Nat.reduceBEq, length_putv, hl, hq10, Tryd.sz25, Tryd.ag25, dLoad, m_set, vpart, if_true, Nat.reduceLT, List.drop_zero, List.take_succ_cons, List.take_zero, List.length_cons, List.length_nil, Nat.zero_add, Nat.reduceAdd]
          try rfl
        · exact fun n x hn h => by rw [m_set, if_neg (by omega)]; exact hqk n x hn h
      · clear hA hB A B
        refine vw_skip ?_
        refine hK13 _ _ ?_
        refine vw_seq_k fun K16 hK16 => ?_
        refine vw_sc 0 [.pur (.tup [.t (tInts (thenS (legT b.labels.length 0) (pushE a b c f g).2.1).1), Bo (thenS (legT b.labels.length 0) (pushE a b c f g).2.1).2])] ?_
        simp only [bs, Nat.reduceAdd, ↓vopx, ↓vop, Nat.reduceBEq, thenV, flat, Nat.reduceLT, dLoad, vpart, hl, wocs, ↓goc, ↓woc, ↓vopm0, ↓callC, calleeV, Tryd.ag26, Tryd.sz26, Tryd.un63, Int.toNat_zero]
        repeat ((with_reducible refine And.intro ?_ ?_); · first | omega | exact ⟨Tryd.is32, then_ (legT b.labels.length 0) (pushE a b c f g).2.1 (by omega) (by omega)⟩)
        refine hK16 _ _ ?_
        refine vw_seq_k fun K17 hK17 => ?_
        refine vw_sc 0 [.pur (.tup [.t (tInts (thenS (legT c.labels.length b.labels.length) (pushE a b c f g).2.1).1), Bo (thenS (legT c.labels.length b.labels.length) (pushE a b c f g).2.1).2])] ?_
        simp only [bs, Nat.reduceAdd, ↓vopx, ↓vop, Nat.reduceBEq, thenV, flat, Nat.reduceLT, dLoad, vpart, hl, wocs, ↓goc, ↓woc, ↓vopm0, ↓callC, calleeV, Tryd.ag26, Tryd.sz26, Tryd.un63, Int.toNat_one]
        repeat ((with_reducible refine And.intro ?_ ?_); · first | omega | exact ⟨Tryd.is32, then_ (legT c.labels.length b.labels.length) (pushE a b c f g).2.1 (by omega) (by omega)⟩)
        refine hK17 _ _ ?_
        refine vw_seq_k fun K18 hK18 => ?_
        refine vw_sc 0 [] ?_
        simp only [bs, Nat.reduceAdd, ↓vopx, ↓vop, Nat.reduceBEq, thenV, flat, Nat.reduceLT, V.cells, dLoad, vpart, hl, wocs, ↓goc, ↓woc, ↓vopm0, Tryd.ag25, Tryd.sz25, Nat.le_refl, hq20, hq10]
        refine hK18 _ _ ?_
        refine vw_ret ?_
        have hres : vSum (pushS a b c f g) = pack [vObj (pushE a b c f g).1, .t (tInts (thenS (legT b.labels.length 0) (pushE a b c f g).2.1).1), .t (tInts (thenS (legT c.labels.length b.labels.length) (pushE a b c f g).2.1).1), I 0] := by simp [pushS, vSum, ka, kb, kf, kg, hez]; rfl
        rw [hres] at hQ
        refine hQ _ _ _ (.inr rfl) ?_
        refine done_flat (vs := [vObj (pushE a b c f g).1, .t (tInts (thenS (legT b.labels.length 0) (pushE a b c f g).2.1).1), .t (tInts (thenS (legT c.labels.length b.labels.length) (pushE a b c f g).2.1).1), I 0]) ?_ rfl (by simp [pack, nm, nm2, nm1, nm0]) (fun n x hn h => by rw [m_set, if_neg (by omega)]; exact hqk n x hn h)
        show vres Tryd.prog _ _ [.cell 10 25, .tmp 11, .tmp 12, .tmp 13] = _
        simp only [vres_cell, vres_tmp, vres_nil, ev_hit, ev_miss, Nat.reduceBEq, length_putv, hl, hq10, Tryd.sz25, Tryd.ag25, dLoad, m_set, vpart, if_true, Nat.reduceLT, List.drop_zero, List.take_succ_cons, List.take_zero, List.length_cons, List.length_nil, Nat.zero_add, Nat.reduceAdd]

end Go.Proofs

open Go Go.V
namespace Go.Proofs

theorem nc2 : ((2 : Nat) : Int) = 2 := rfl
end Go.Proofs

open Go Go.V
namespace Go.Proofs

theorem few_le {o : Ob} (h : fewS o = true) : o.labels.length ≤ 50 ∧ o.pairs.length ≤ 200 := by
  unfold fewS at h
  simp only [Bool.and_eq_true, decide_eq_true_eq] at h
  exact ⟨h.1.2, h.2⟩
end Go.Proofs

open Go Go.V
namespace Go.Proofs
/-- whether two ways out come to the same -/
def coS (a b c : Ob) (f g : List Int) (d : Ob) (h k : List Int) : Bool := arrS a b f && (arrS a c g && (arrS b d h && (arrS c d k && ((thenS f h).1 == (thenS g k).1))))
theorem thenS_le1 (f g : List Int) : (thenS f g).1.length ≤ f.length := thenS_le f g

set_option maxRecDepth 20000 in
set_option maxHeartbeats 4000000 in
theorem cocone_ (a b c : Ob) (f g : List Int) (d : Ob) (h k : List Int) (ha1 : a.labels.length < 1000000) (ha2 : a.pairs.length < 1000000) (hb1 : b.labels.length < 1000000) (hb2 : b.pairs.length < 1000000) (hc1 : c.labels.length < 1000000) (hc2 : c.pairs.length < 1000000) (hd1 : d.labels.length < 1000000) (hd2 : d.pairs.length < 1000000) (hf : f.length < 1000000) (hg : g.length < 1000000) (hh : h.length < 1000000) (hk : k.length < 1000000) : PCall Tryd.prog 43 [vObj a, vObj b, vObj c, .t (tInts f), .t (tInts g), vObj d, .t (tInts h), .t (tInts k)] (Bo (coS a b c f g d h k)) := by
  refine pcall_of_body Tryd.func43 rfl fun s Q hQ => ?_
  obtain ⟨e, he, hl, h0, h1, h2, h3, h4, h5, h6, h7⟩ : ∃ e : Env, ([vObj a, vObj b, vObj c, .t (tInts f), .t (tInts g), vObj d, .t (tInts h), .t (tInts k)] ++ List.replicate (Tryd.f43.ntmps - ([vObj a, vObj b, vObj c, .t (tInts f), .t (tInts g), vObj d, .t (tInts h), .t (tInts k)] : List V).length) .junk) = e ∧ e.length = 62 ∧ ev e (.tmp 0) = vObj a ∧ ev e (.tmp 1) = vObj b ∧ ev e (.tmp 2) = vObj c ∧ ev e (.tmp 3) = .t (tInts f) ∧ ev e (.tmp 4) = .t (tInts g) ∧ ev e (.tmp 5) = vObj d ∧ ev e (.tmp 6) = .t (tInts h) ∧ ev e (.tmp 7) = .t (tInts k) := ⟨_, rfl, rfl, rfl, rfl, rfl, rfl, rfl, rfl, rfl, rfl⟩
  rw [he]
  clear he
  refine vw_seq_k fun K1 hK1 => ?_
  refine vw_sc 0 [] ?_
  simp only [bs, ↓vopx, ↓vop, Nat.reduceBEq, thenV, flat, V.cells, h0, h1, h2, h5, wocs, ↓goc, ↓woc, ↓vopm0]
  refine hK1 _ _ ?_
  refine vw_seq_k fun K2 hK2 => ?_
  refine vw_seq_k fun K3 hK3 => ?_
  rcases (show arrS a b f = false ∨ (arrS a b f = true ∧ (arrS a c g = false ∨ (arrS a c g = true ∧ (arrS b d h = false ∨ (arrS b d h = true ∧ (arrS c d k = false ∨ arrS c d k = true)))))) by cases (arrS a b f) <;> cases (arrS a c g) <;> cases (arrS b d h) <;> cases (arrS c d k) <;> simp <;> omega) with r1 | ⟨r1, r2 | ⟨r2, r3 | ⟨r3, r4 | r4⟩⟩⟩
  · refine vw_sc 0 [.pur (Bo (arrS a b f))] ?_
    simp only [bs, Nat.reduceAdd, ↓vopx, ↓vop, Nat.reduceBEq, thenV, flat, Nat.reduceLT, dLoad, vpart, gtmp, hl, h3, wocs, ↓goc, ↓woc, ↓vopm0, ↓callC, ↓pick_tf, calleeV, Tryd.ag25, Tryd.sz25, nns, r1]
    repeat ((with_reducible refine And.intro ?_ ?_); · exact ⟨Tryd.is34, by simpa only [r1] using arrow_ a b f (by omega) (by omega) (by omega) (by omega) (by omega)⟩)
    refine hK3 _ _ ?_
    refine vw_cond_k fun A B hA hB => ?_
    simp only [condV, ev_hit, length_putv, Nat.reduceLT, true_implies, reduceCtorEq, false_implies, and_true, hl]
    refine hA ?_
    clear hA hB A B
    refine vw_seq_k fun K4 hK4 => ?_
    refine vw_sc 0 [] ?_
    simp only [bs, ↓vopx, ↓vop, thenV, flat, wocs, ↓goc, ↓woc, ↓vopm0]
    refine hK4 _ _ ?_
    refine vw_ret ?_
    rw [show coS a b c f g d h k = false from by simp [coS, r1]] at hQ
    refine hQ _ _ _ (.inr rfl) (done_tmp ?_ fun n b hn h => by simp [Sg.add, show n ≠ s.next by omega, show n ≠ s.next + 1 by omega, show n ≠ s.next + 1 + 1 by omega, show n ≠ s.next + 1 + 1 + 1 by omega, h])
    try simp only [ev_hit, length_putv, hl, Nat.reduceLT]
  · refine vw_sc 0 [.pur (Bo (arrS a b f)), .pur (Bo (arrS a c g))] ?_
    simp only [bs, Nat.reduceAdd, ↓vopx, ↓vop, Nat.reduceBEq, thenV, flat, Nat.reduceLT, dLoad, vpart, gtmp, hl, h3, h4, wocs, ↓goc, ↓woc, ↓vopm0, ↓callC, ↓pick_ff, ↓pick_tf, calleeV, Tryd.ag25, Tryd.sz25, nns, r1, r2]
    repeat ((with_reducible refine And.intro ?_ ?_); · first | exact ⟨Tryd.is34, by simpa only [r1] using arrow_ a b f (by omega) (by omega) (by omega) (by omega) (by omega)⟩ | exact ⟨Tryd.is34, by simpa only [r2] using arrow_ a c g (by omega) (by omega) (by omega) (by omega) (by omega)⟩)
    refine hK3 _ _ ?_
    refine vw_cond_k fun A B hA hB => ?_
    simp only [condV, ev_hit, length_putv, Nat.reduceLT, true_implies, reduceCtorEq, false_implies, and_true, hl]
    refine hA ?_
    clear hA hB A B
    refine vw_seq_k fun K5 hK5 => ?_
    refine vw_sc 0 [] ?_
    simp only [bs, ↓vopx, ↓vop, thenV, flat, wocs, ↓goc, ↓woc, ↓vopm0]
    refine hK5 _ _ ?_
    refine vw_ret ?_
    rw [show coS a b c f g d h k = false from by simp [coS, r2]] at hQ
    refine hQ _ _ _ (.inr rfl) (done_tmp ?_ fun n b hn h => by simp [Sg.add, show n ≠ s.next by omega, show n ≠ s.next + 1 by omega, show n ≠ s.next + 1 + 1 by omega, show n ≠ s.next + 1 + 1 + 1 by omega, h])
    try simp only [ev_hit, length_putv, hl, Nat.reduceLT]
  · refine vw_sc 0 [.pur (Bo (arrS a b f)), .pur (Bo (arrS a c g)), .pur (Bo (arrS b d h))] ?_
    simp only [bs, Nat.reduceAdd, ↓vopx, ↓vop, Nat.reduceBEq, thenV, flat, Nat.reduceLT, dLoad, vpart, gtmp, hl, h3, h4, h6, wocs, ↓goc, ↓woc, ↓vopm0, ↓callC, ↓pick_ff, ↓pick_tf, calleeV, Tryd.ag25, Tryd.sz25, nns, r1, r2, r3]
    repeat ((with_reducible refine And.intro ?_ ?_); · first | exact ⟨Tryd.is34, by simpa only [r1] using arrow_ a b f (by omega) (by omega) (by omega) (by omega) (by omega)⟩ | exact ⟨Tryd.is34, by simpa only [r2] using arrow_ a c g (by omega) (by omega) (by omega) (by omega) (by omega)⟩ | exact ⟨Tryd.is34, by simpa only [r3] using arrow_ b d h (by omega) (by omega) (by omega) (by omega) (by omega)⟩)
    refine hK3 _ _ ?_
    refine vw_cond_k fun A B hA hB => ?_
    simp only [condV, ev_hit, length_putv, Nat.reduceLT, true_implies, reduceCtorEq, false_implies, and_true, hl]
    refine hA ?_
    clear hA hB A B
    refine vw_seq_k fun K6 hK6 => ?_
    refine vw_sc 0 [] ?_
    simp only [bs, ↓vopx, ↓vop, thenV, flat, wocs, ↓goc, ↓woc, ↓vopm0]
    refine hK6 _ _ ?_
    refine vw_ret ?_
    rw [show coS a b c f g d h k = false from by simp [coS, r3]] at hQ
    refine hQ _ _ _ (.inr rfl) (done_tmp ?_ fun n b hn h => by simp [Sg.add, show n ≠ s.next by omega, show n ≠ s.next + 1 by omega, show n ≠ s.next + 1 + 1 by omega, show n ≠ s.next + 1 + 1 + 1 by omega, h])
    try simp only [ev_hit, length_putv, hl, Nat.reduceLT]
  · refine vw_sc 0 [.pur (Bo (arrS a b f)), .pur (Bo (arrS a c g)), .pur (Bo (arrS b d h)), .pur (Bo (arrS c d k))] ?_
    simp only [bs, Nat.reduceAdd, ↓vopx, ↓vop, Nat.reduceBEq, thenV, flat, Nat.reduceLT, dLoad, vpart, gtmp, hl, h3, h4, h6, h7, wocs, ↓goc, ↓woc, ↓vopm0, ↓callC, ↓pick_ff, calleeV, Tryd.ag25, Tryd.sz25, nns, r1, r2, r3, r4]
    repeat ((with_reducible refine And.intro ?_ ?_); · first | exact ⟨Tryd.is34, by simpa only [r1] using arrow_ a b f (by omega) (by omega) (by omega) (by omega) (by omega)⟩ | exact ⟨Tryd.is34, by simpa only [r2] using arrow_ a c g (by omega) (by omega) (by omega) (by omega) (by omega)⟩ | exact ⟨Tryd.is34, by simpa only [r3] using arrow_ b d h (by omega) (by omega) (by omega) (by omega) (by omega)⟩ | exact ⟨Tryd.is34, by simpa only [r4] using arrow_ c d k (by omega) (by omega) (by omega) (by omega) (by omega)⟩)
    refine hK3 _ _ ?_
    refine vw_cond_k fun A B hA hB => ?_
    simp only [condV, ev_hit, length_putv, Nat.reduceLT, true_implies, reduceCtorEq, false_implies, and_true, hl]
    refine hA ?_
    clear hA hB A B
    refine vw_seq_k fun K7 hK7 => ?_
    refine vw_sc 0 [] ?_
    simp only [bs, ↓vopx, ↓vop, thenV, flat, wocs, ↓goc, ↓woc, ↓vopm0]
    refine hK7 _ _ ?_
    refine vw_ret ?_
    rw [show coS a b c f g d h k = false from by simp [coS, r4]] at hQ
    refine hQ _ _ _ (.inr rfl) (done_tmp ?_ fun n b hn h => by simp [Sg.add, show n ≠ s.next by omega, show n ≠ s.next + 1 by omega, show n ≠ s.next + 1 + 1 by omega, show n ≠ s.next + 1 + 1 + 1 by omega, h])
    try simp only [ev_hit, length_putv, hl, Nat.reduceLT]
  · refine vw_sc 0 [.pur (Bo (arrS a b f)), .pur (Bo (arrS a c g)), .pur (Bo (arrS b d h)), .pur (Bo (arrS c d k))] ?_
    simp only [bs, Nat.reduceAdd, ↓vopx, ↓vop, Nat.reduceBEq, thenV, flat, Nat.reduceLT, dLoad, vpart, gtmp, hl, h3, h4, h6, h7, wocs, ↓goc, ↓woc, ↓vopm0, ↓callC, ↓pick_ff, calleeV, Tryd.ag25, Tryd.sz25, nns, r1, r2, r3, r4]
    repeat ((with_reducible refine And.intro ?_ ?_); · first | exact ⟨Tryd.is34, by simpa only [r1] using arrow_ a b f (by omega) (by omega) (by omega) (by omega) (by omega)⟩ | exact ⟨Tryd.is34, by simpa only [r2] using arrow_ a c g (by omega) (by omega) (by omega) (by omega) (by omega)⟩ | exact ⟨Tryd.is34, by simpa only [r3] using arrow_ b d h (by omega) (by omega) (by omega) (by omega) (by omega)⟩ | exact ⟨Tryd.is34, by simpa only [r4] using arrow_ c d k (by omega) (by omega) (by omega) (by omega) (by omega)⟩)
    refine hK3 _ _ ?_
    refine vw_cond_k fun A B hA hB => ?_
    simp only [condV, ev_hit, length_putv, Nat.reduceLT, true_implies, reduceCtorEq, false_implies, true_and, hl]
    refine hB ?_
    clear hA hB A B
    refine vw_skip ?_
    refine hK2 _ _ ?_
    refine vw_seq_k fun K8 hK8 => ?_
    refine vw_sc 0 [.pur (.tup [.t (tInts (thenS f h).1), Bo (thenS f h).2])] ?_
    simp only [bs, ↓vopx, ↓vop, Nat.reduceBEq, thenV, Nat.reduceLT, hl, h3, h6, wocs, ↓goc, ↓woc, ↓vopm0, ↓callC, calleeV]
    repeat ((with_reducible refine And.intro ?_ ?_); · exact ⟨Tryd.is32, then_ f h (by omega) (by omega)⟩)
    refine hK8 _ _ ?_
    refine vw_seq_k fun K9 hK9 => ?_
    refine vw_sc 0 [.pur (.tup [.t (tInts (thenS g k).1), Bo (thenS g k).2])] ?_
    simp only [bs, ↓vopx, ↓vop, Nat.reduceBEq, thenV, Nat.reduceLT, hl, h4, h7, wocs, ↓goc, ↓woc, ↓vopm0, ↓callC, calleeV]
    repeat ((with_reducible refine And.intro ?_ ?_); · exact ⟨Tryd.is32, then_ g k (by omega) (by omega)⟩)
    refine hK9 _ _ ?_
    refine vw_seq_k fun K10 hK10 => ?_
    have q1 := thenS_le1 f h
    have q2 := thenS_le1 g k
    refine vw_sc 0 [.pur (Bo ((thenS f h).1 == (thenS g k).1))] ?_
    simp only [bs, ↓vopx, ↓vop, Nat.reduceBEq, thenV, Nat.reduceLT, hl, wocs, ↓goc, ↓woc, ↓vopm0, ↓callC, calleeV]
    repeat ((with_reducible refine And.intro ?_ ?_); · exact ⟨Tryd.is33, arrowSame_ (thenS f h).1 (thenS g k).1 (by omega) (by omega)⟩)
    refine hK10 _ _ ?_
    refine vw_ret ?_
    rw [show coS a b c f g d h k = ((thenS f h).1 == (thenS g k).1) from by simp [coS, r1, r2, r3, r4]] at hQ
    refine hQ _ _ _ (.inr rfl) (done_tmp ?_ fun n b hn h => by simp [Sg.add, show n ≠ s.next by omega, show n ≠ s.next + 1 by omega, show n ≠ s.next + 1 + 1 by omega, show n ≠ s.next + 1 + 1 + 1 by omega, h])
    try simp only [ev_hit, length_putv, hl, Nat.reduceLT]

end Go.Proofs

open Go Go.V
namespace Go.Proofs
def fillN (n i : Nat) : List Int := List.replicate i (-1) ++ List.replicate (n - i) 0
theorem fillN_len {n i : Nat} (h : i ≤ n) : (fillN n i).length = n := by simp [fillN]; omega
theorem fillN_set {n i : Nat} (h : i < n) : (fillN n i).set i (-1) = fillN n (i + 1) := by
  unfold fillN
  rw [List.set_append_right _ _ (by simp), List.length_replicate, Nat.sub_self, show n - i = (n - (i + 1)) + 1 by omega, List.replicate_succ, List.set_cons_zero, List.replicate_succ', List.append_assoc]; rfl
theorem fillN_zero (n : Nat) : repl [TI 0] n = (fillN n 0).map TI := by
  rw [repl_one]; simp [fillN]
theorem fillN_full (n : Nat) : fillN n n = List.replicate n (-1) := by simp [fillN]
/-- what one leg tells -/
def putL (o l w : List Int) : Nat → List Int
  | 0 => o
  | x + 1 => (putL o l w x).set (l.getD x 0).toNat (w.getD x 0)
theorem putL_len (o l w : List Int) : ∀ x, (putL o l w x).length = o.length
  | 0 => rfl
  | x + 1 => by simp [putL, putL_len o l w x]
theorem putL_succ {o l w : List Int} {x : Nat} {y z : Int} (hy : l[x]? = some y) (hz : w[x]? = some z) : putL o l w (x + 1) = (putL o l w x).set y.toNat z := by
  show (putL o l w x).set (l.getD x 0).toNat (w.getD x 0) = _
  rw [getD_of hy, getD_of hz]
/-- what the first legs tell -/
def outK (n : Nat) (legs ways : List (List Int)) : Nat → List Int
  | 0 => List.replicate n (-1)
  | i + 1 => if (legs.getD i []).length = (ways.getD i []).length then putL (outK n legs ways i) (legs.getD i []) (ways.getD i []) (legs.getD i []).length else outK n legs ways i
theorem outK_len (n : Nat) (legs ways : List (List Int)) : ∀ i, (outK n legs ways i).length = n
  | 0 => by simp [outK]
  | i + 1 => by unfold outK; split <;> simp [putL_len, outK_len n legs ways i]
theorem outK_skip {n : Nat} {legs ways : List (List Int)} {i : Nat} {l w : List Int} (hl : legs[i]? = some l) (hw : ways[i]? = some w) (h : l.length ≠ w.length) : outK n legs ways (i + 1) = outK n legs ways i := by
  show (if (legs.getD i []).length = (ways.getD i []).length then _ else _) = _
  rw [List.getD_eq_getElem?_getD, List.getD_eq_getElem?_getD, hl, hw]
  exact if_neg h
theorem outK_put {n : Nat} {legs ways : List (List Int)} {i : Nat} {l w : List Int} (hl : legs[i]? = some l) (hw : ways[i]? = some w) (h : l.length = w.length) : outK n legs ways (i + 1) = putL (outK n legs ways i) l w l.length := by
  show (if (legs.getD i []).length = (ways.getD i []).length then putL _ (legs.getD i []) (ways.getD i []) (legs.getD i []).length else _) = _
  rw [List.getD_eq_getElem?_getD, List.getD_eq_getElem?_getD, hl, hw]
  exact if_pos h
def outS (n : Nat) (legs ways : List (List Int)) : List Int := outK n legs ways legs.length
theorem mneg (z : Int) : (T.v (Value.int .i64 z)) = TI z := rfl

set_option maxRecDepth 20000 in
set_option maxHeartbeats 4000000 in
theorem out_ (n : Nat) (hn : n ≤ 1000) (legs ways : List (List Int)) (hlw : legs.length ≤ ways.length) (hll : legs.length ≤ 1000) (hsz : ∀ l ∈ legs, l.length ≤ 1000) (hin : ∀ l ∈ legs, ∀ y ∈ l, 0 ≤ y ∧ y < (n : Int)) : PCall Tryd.prog 81 [I n, .t (tMat legs), .t (tMat ways)] (.t (tInts (outS n legs ways))) := by
  refine pcall_of_body Tryd.func81 rfl fun s Q hQ => ?_
  obtain ⟨e, he, hl, h0, h1, h2⟩ : ∃ e : Env, ([I n, .t (tMat legs), .t (tMat ways)] ++ List.replicate (Tryd.f81.ntmps - ([I n, .t (tMat legs), .t (tMat ways)] : List V).length) .junk) = e ∧ e.length = 59 ∧ ev e (.tmp 0) = I n ∧ ev e (.tmp 1) = .t (tMat legs) ∧ ev e (.tmp 2) = .t (tMat ways) := ⟨_, rfl, rfl, rfl, rfl, rfl⟩
  rw [he]
  clear he
  refine vw_seq_k fun K1 hK1 => ?_
  refine vw_sc 0 [] ?_
  simp only [bs, ↓vopx, ↓vop, thenV, flat, wocs, ↓goc, ↓woc, ↓vopm0]
  refine hK1 _ _ ?_
  refine vw_scope ?_
  refine vw_seq_k fun K2 hK2 => ?_
  refine vw_sc 0 [] ?_
  simp only [bs, ↓vopx, ↓vop, Nat.reduceBEq, thenV, Nat.reduceLT, hl, h0, wocs, ↓goc, ↓woc, ↓vopm0, Tryd.sl26, fillN_zero]
  repeat ((with_reducible refine And.intro ?_ ?_); · omega)
  refine hK2 _ _ ?_
  refine vw_seq_k fun K3 hK3 => ?_
  refine vw_seq_k fun K4 hK4 => ?_
  refine vw_sc 0 [] ?_
  simp only [bs, ↓vopx, ↓vop, thenV, flat, Nat.reduceLT, hl, wocs, ↓goc, ↓woc, ↓vopm0]
  refine hK4 _ _ ?_
  refine vw_block ?_
  refine vw_loop (fun mm e' s' => ∃ i : Nat, mm = n - i ∧ i ≤ n ∧ e'.length = 59 ∧ ev e' (.tmp 1) = .t (tMat legs) ∧ ev e' (.tmp 2) = .t (tMat ways) ∧ ev e' (.tmp 7) = .loc s.next 0 n ∧ ev e' (.tmp 16) = I n ∧ ev e' (.tmp 17) = I i ∧ True ∧ s'.m s.next = some (.arr 1 3 ((fillN n i).map TI)) ∧ ∀ j, j < s.next → s'.m j = s.m j) (⟨0, rfl, Nat.zero_le _, ?_⟩) ?_
  · try simp only [ev_hit, ev_miss, Nat.reduceBEq, length_putv, hl, h1, h2, Nat.reduceLT, true_and]
    repeat ((with_reducible refine And.intro ?_ ?_); · trivial)
    exact ⟨add_self _ _, fun j hj => by rw [m_add, if_neg (by omega)]⟩
  rintro mm e s1 ⟨i, rfl, hle_i, hl, k1, k2, k7, k16, h_i, hst, ⟨hM, hSm⟩⟩
  refine vw_seq_k fun K5 hK5 => ?_
  refine vw_sc 0 [] ?_
  simp only [thenV, opII, k16, h_i, wocs, ↓goc, ↓woc]
  refine hK5 _ _ ?_
  refine vw_seq_k fun K6 hK6 => ?_
  refine vw_cond_k fun A B hA hB => ?_
  simp only [condV, ev_hit, Nat.reduceLT, decide_eq_true_eq, decide_eq_false_iff_not, hl]
  refine ⟨fun hc18 => hA ?_, fun hc18 => hB ?_⟩
  · clear hA hB A B
    refine vw_skip ?_
    refine hK6 _ _ ?_
    refine vw_seq_k fun K7 hK7 => ?_
    refine vw_block ?_
    refine vw_seq_k fun K8 hK8 => ?_
    refine vw_sc 0 [] ?_
    simp only [bs, ↓vopx, ↓vop, Nat.reduceBEq, thenV, Nat.reduceLT, hl, h_i, wocs, ↓goc, ↓woc, ↓vopm0]
    refine hK8 _ _ ?_
    have hfl := fillN_len hle_i
    have hin1 : i < n := by omega
    refine vw_sc 0 [] ?_
    simp only [bs, ↓vopx, ↓vop, Nat.reduceBEq, thenV, blockV, flat, Nat.reduceLT, V.cells, Sg.frzL, Sg.frz1, hl, k7, wocs, ↓goc, ↓woc, ↓vopm0, Tryd.sz3, Tryd.un26, hM, hfl]
    repeat ((with_reducible refine And.intro ?_ ?_); · first | (with_reducible assumption) | omega)
    refine hK7 _ _ ?_
    refine vw_sc 0 [] ?_
    simp only [bs, ↓vopx, ↓vop, Nat.reduceBEq, thenV, flat, Nat.reduceLT, opII, hl, k1, k2, k7, k16, h_i, wocs, ↓goc, ↓woc, ↓vopm0, tMat]
    repeat ((with_reducible refine And.intro ?_ ?_); · exact ⟨by omega, by omega⟩)
    refine ⟨n - (i + 1), by omega, i + 1, rfl, by omega, ?_⟩
    try simp only [ev_hit, ev_miss, Nat.reduceBEq, length_putv, hl, k1, k2, k7, k16, h_i, if_true, if_false, Nat.reduceEqDiff, Nat.reduceLT, true_and, and_true]
    repeat ((with_reducible refine And.intro ?_ ?_); · trivial)
    exact ⟨by rw [mneg, setAll_TI2 _ (by omega), fillN_set hin1], fun j hj => by rw [if_neg (by omega)]; exact hSm j hj⟩
  · clear hA hB A B
    refine vw_exit ?_
    simp only [thenV, blockV, noGoto, if_true]
    refine hK3 _ _ ?_
    refine vw_seq_k fun K9 hK9 => ?_
    refine vw_label ?_
    try simp only [thenV]
    refine hK9 _ _ ?_
    refine vw_seq_k fun K10 hK10 => ?_
    refine vw_seq_k fun K11 hK11 => ?_
    refine vw_sc 0 [] ?_
    simp only [bs, ↓vopx, ↓vop, Nat.reduceBEq, thenV, flat, Nat.reduceLT, hl, k1, wocs, ↓goc, ↓woc, ↓vopm0, len_tMat, tMat]
    refine hK11 _ _ ?_
    refine vw_block ?_
    refine vw_loop (fun mm e' s' => ∃ i2 : Nat, mm = legs.length - i2 ∧ i2 ≤ legs.length ∧ e'.length = 59 ∧ ev e' (.tmp 2) = .t (tMat ways) ∧ ev e' (.tmp 7) = .loc s.next 0 n ∧ ev e' (.tmp 24) = .t (tMat legs) ∧ ev e' (.tmp 25) = I legs.length ∧ ev e' (.tmp 26) = I i2 ∧ True ∧ s'.m s.next = some (.arr 1 3 ((outK n legs ways i2).map TI)) ∧ ∀ j, j < s.next → s'.m j = s.m j) (⟨0, rfl, Nat.zero_le _, ?_⟩) ?_
    · try simp only [ev_hit, ev_miss, Nat.reduceBEq, length_putv, hl, k2, k7, Nat.reduceLT, true_and]
      repeat ((with_reducible refine And.intro ?_ ?_); · trivial)
      have hiN : i = n := by omega
      subst hiN
      rw [fillN_full] at hM
      exact ⟨hM, hSm⟩
    rintro mm e s1 ⟨i2, rfl, hle_i2, hl, m2, m7, m24, m25, h_i2, hst, ⟨hM, hSm⟩⟩
    refine vw_seq_k fun K12 hK12 => ?_
    refine vw_sc 0 [] ?_
    simp only [thenV, opII, m25, h_i2, wocs, ↓goc, ↓woc]
    refine hK12 _ _ ?_
    refine vw_seq_k fun K13 hK13 => ?_
    refine vw_cond_k fun A B hA hB => ?_
    simp only [condV, ev_hit, Nat.reduceLT, decide_eq_true_eq, decide_eq_false_iff_not, hl]
    refine ⟨fun hc27 => hA ?_, fun hc27 => hB ?_⟩
    · clear hA hB A B
      refine vw_skip ?_
      refine hK13 _ _ ?_
      refine vw_seq_k fun K14 hK14 => ?_
      refine vw_block ?_
      refine vw_seq_k fun K15 hK15 => ?_
      obtain ⟨l, hl9⟩ : ∃ l, legs[i2]? = some l := ⟨_, List.getElem?_eq_getElem (by omega)⟩
      obtain ⟨w, hw9⟩ : ∃ w, ways[i2]? = some w := ⟨_, List.getElem?_eq_getElem (by omega)⟩
      have hls := hsz l (List.mem_of_getElem? hl9)
      have hi2 : i2 < legs.length := by omega
      have hi3 : i2 < ways.length := by omega
      refine vw_sc 0 [] ?_
      simp only [bs, ↓vopx, ↓vop, Nat.reduceBEq, thenV, Nat.reduceLT, dLoad, vpart, hl, m24, h_i2, wocs, ↓goc, ↓woc, ↓vopm0, Tryd.ag26, Tryd.sz26, Tryd.un63, tMat, hl9]
      repeat ((with_reducible refine And.intro ?_ ?_); · (with_reducible assumption))
      refine hK15 _ _ ?_
      refine vw_seq_k fun K16 hK16 => ?_
      refine vw_seq_k fun K17 hK17 => ?_
      refine vw_sc 0 [] ?_
      simp only [bs, ↓vopx, ↓vop, Nat.reduceBEq, thenV, Nat.reduceLT, dLoad, vpart, opII, hl, m2, wocs, ↓goc, ↓woc, ↓vopm0, Tryd.ag26, Tryd.sz26, Tryd.un26, Tryd.un63, len_tInts, tMat, hw9]
      repeat ((with_reducible refine And.intro ?_ ?_); · (with_reducible assumption))
      refine hK17 _ _ ?_
      refine vw_cond_k fun A B hA hB => ?_
      simp only [condV, ev_hit, length_putv, Nat.reduceLT, bne_iff_ne, bne_eq_false_iff_eq, ne_eq, hl]
      refine ⟨fun hc38 => hA ?_, fun hc38 => hB ?_⟩
      · clear hA hB A B
        refine vw_exit ?_
        simp only [thenV, blockV, noGoto, if_true, if_false, Nat.reduceEqDiff]
        refine hK14 _ _ ?_
        refine vw_sc 0 [] ?_
        simp only [bs, ↓vopx, ↓vop, Nat.reduceBEq, thenV, flat, Nat.reduceLT, opII, hl, m2, m7, m24, m25, h_i2, wocs, ↓goc, ↓woc, ↓vopm0, tMat]
        repeat ((with_reducible refine And.intro ?_ ?_); · exact ⟨by omega, by omega⟩)
        refine ⟨legs.length - (i2 + 1), by omega, i2 + 1, rfl, by omega, ?_⟩
        try simp only [ev_hit, ev_miss, Nat.reduceBEq, length_putv, hl, m2, m7, m24, m25, h_i2, if_true, if_false, Nat.reduceEqDiff, Nat.reduceLT, true_and, and_true]
        repeat ((with_reducible refine And.intro ?_ ?_); · trivial)
        first
          | exact ⟨by rw [outK_skip hl9 hw9 (by omega)]; exact hM, hSm⟩
          | exact ⟨by rw [outK_put hl9 hw9 (by omega), show l.length = j from by omega]; exact hM, hSm⟩
      · clear hA hB A B
        refine vw_skip ?_
        refine hK16 _ _ ?_
        refine vw_seq_k fun K18 hK18 => ?_
        refine vw_sc 0 [] ?_
        simp only [bs, ↓vopx, ↓vop, Nat.reduceBEq, thenV, flat, Nat.reduceLT, hl, wocs, ↓goc, ↓woc, ↓vopm0, len_tInts]
        refine hK18 _ _ ?_
        refine vw_block ?_
        refine vw_loop (fun mm e' s' => ∃ j : Nat, mm = l.length - j ∧ j ≤ l.length ∧ e'.length = 59 ∧ ev e' (.tmp 2) = .t (tMat ways) ∧ ev e' (.tmp 7) = .loc s.next 0 n ∧ ev e' (.tmp 9) = I i2 ∧ ev e' (.tmp 24) = .t (tMat legs) ∧ ev e' (.tmp 25) = I legs.length ∧ ev e' (.tmp 26) = I i2 ∧ ev e' (.tmp 39) = .t (tInts l) ∧ ev e' (.tmp 40) = I l.length ∧ ev e' (.tmp 41) = I j ∧ True ∧ s'.m s.next = some (.arr 1 3 ((putL (outK n legs ways i2) l w j).map TI)) ∧ ∀ j, j < s.next → s'.m j = s.m j) (⟨0, rfl, Nat.zero_le _, ?_⟩) ?_
        · try simp only [ev_hit, ev_miss, Nat.reduceBEq, length_putv, hl, m2, m7, m24, m25, Nat.reduceLT, true_and]
          repeat ((with_reducible refine And.intro ?_ ?_); · trivial)
          exact hSm
        rintro mm e s1 ⟨j, rfl, hle_j, hl, p2, p7, p9, p24, p25, p26, p39, p40, h_j, hst, ⟨hM, hSm⟩⟩
        refine vw_seq_k fun K19 hK19 => ?_
        refine vw_sc 0 [] ?_
        simp only [thenV, opII, p40, h_j, wocs, ↓goc, ↓woc]
        refine hK19 _ _ ?_
        refine vw_seq_k fun K20 hK20 => ?_
        refine vw_cond_k fun A B hA hB => ?_
        simp only [condV, ev_hit, Nat.reduceLT, decide_eq_true_eq, decide_eq_false_iff_not, hl]
        refine ⟨fun hc42 => hA ?_, fun hc42 => hB ?_⟩
        · clear hA hB A B
          refine vw_skip ?_
          refine hK20 _ _ ?_
          refine vw_seq_k fun K21 hK21 => ?_
          refine vw_block ?_
          refine vw_seq_k fun K22 hK22 => ?_
          obtain ⟨y, hy⟩ : ∃ y, l[j]? = some y := ⟨_, List.getElem?_eq_getElem (by omega)⟩
          obtain ⟨z, hz⟩ : ∃ z, w[j]? = some z := ⟨_, List.getElem?_eq_getElem (by omega)⟩
          have hjl : j < l.length := by omega
          have hjw : j < w.length := by omega
          have hyb := hin l (List.mem_of_getElem? hl9) y (List.mem_of_getElem? hy)
          refine vw_sc 0 [] ?_
          simp only [bs, ↓vopx, ↓vop, Nat.reduceBEq, thenV, Nat.reduceLT, dLoad, vpart, hl, p39, h_j, wocs, ↓goc, ↓woc, ↓vopm0, Tryd.ag3, Tryd.sz3, Tryd.un26, hy]
          repeat ((with_reducible refine And.intro ?_ ?_); · (with_reducible assumption))
          refine hK22 _ _ ?_
          have hpl := putL_len (outK n legs ways i2) l w j
          have hol := outK_len n legs ways i2
          refine vw_sc 0 [] ?_
          simp only [bs, ↓vopx, ↓vop, Nat.reduceBEq, thenV, blockV, Nat.reduceLT, V.cells, dLoad, vpart, Sg.frzL, Sg.frz1, hl, p2, p7, p9, wocs, ↓goc, ↓woc, ↓vopm0, Tryd.ag26, Tryd.ag3, Tryd.sz26, Tryd.sz3, Tryd.un26, Tryd.un63, tMat, hM, hz, hw9, hpl, hol]
          repeat ((with_reducible refine And.intro ?_ ?_); · first | (with_reducible assumption) | omega)
          refine hK21 _ _ ?_
          refine vw_sc 0 [] ?_
          simp only [bs, ↓vopx, ↓vop, Nat.reduceBEq, thenV, flat, Nat.reduceLT, opII, hl, p2, p7, p9, p24, p25, p26, p39, p40, h_j, wocs, ↓goc, ↓woc, ↓vopm0, tMat]
          repeat ((with_reducible refine And.intro ?_ ?_); · exact ⟨by omega, by omega⟩)
          refine ⟨l.length - (j + 1), by omega, j + 1, rfl, by omega, ?_⟩
          try simp only [ev_hit, ev_miss, Nat.reduceBEq, length_putv, hl, p2, p7, p9, p24, p25, p26, p39, p40, h_j, if_true, if_false, Nat.reduceEqDiff, Nat.reduceLT, true_and, and_true]
          repeat ((with_reducible refine And.intro ?_ ?_); · trivial)
          exact ⟨by rw [setAll_TI2 _ (by rw [hpl, hol]; omega), putL_succ hy hz], fun j hj => by rw [if_neg (by omega)]; exact hSm j hj⟩
        · clear hA hB A B
          refine vw_exit ?_
          simp only [thenV, blockV, noGoto, if_true, if_false, Nat.reduceEqDiff]
          refine hK14 _ _ ?_
          refine vw_sc 0 [] ?_
          simp only [bs, ↓vopx, ↓vop, Nat.reduceBEq, thenV, flat, Nat.reduceLT, opII, hl, p2, p7, p24, p25, p26, wocs, ↓goc, ↓woc, ↓vopm0, tMat]
          repeat ((with_reducible refine And.intro ?_ ?_); · exact ⟨by omega, by omega⟩)
          refine ⟨legs.length - (i2 + 1), by omega, i2 + 1, rfl, by omega, ?_⟩
          try simp only [ev_hit, ev_miss, Nat.reduceBEq, length_putv, hl, m2, m7, m24, m25, h_i2, if_true, if_false, Nat.reduceEqDiff, Nat.reduceLT, true_and, and_true]
          repeat ((with_reducible refine And.intro ?_ ?_); · trivial)
          first
            | exact ⟨by rw [outK_skip hl9 hw9 (by omega)]; exact hM, hSm⟩
            | exact ⟨by rw [outK_put hl9 hw9 (by omega), show l.length = j from by omega]; exact hM, hSm⟩
    · clear hA hB A B
      refine vw_exit ?_
      simp only [thenV, blockV, noGoto, if_true]
      refine hK10 _ _ ?_
      refine vw_seq_k fun K23 hK23 => ?_
      refine vw_sc 0 [] ?_
      simp only [bs, ↓vopx, ↓vop, Nat.reduceBEq, thenV, Nat.reduceLT, hl, m7, wocs, ↓goc, ↓woc, ↓vopm0]
      refine hK23 _ _ ?_
      refine vw_ret ?_
      have hiL : i2 = legs.length := by omega
      subst hiL
      refine hQ _ _ _ (.inr rfl) (done_loc (n := s.next) (len := n) ?_ hM ?_ (Nat.le_refl _) fun m b hl h => (hSm m hl).trans h)
      · simp only [ev_hit, length_putv, hl, Nat.reduceLT]
      · show ((outS n legs ways).map TI).length = n * 1; rw [List.length_map, show outS n legs ways = outK n legs ways legs.length from rfl, outK_len, Nat.mul_one]

end Go.Proofs

open Go Go.V
namespace Go.Proofs

/-- while labels are told -/
structure LaI (s : Sg) (o : Ob) (L : List Int) (i m7 : Nat) (s' : Sg) : Prop where
  b2 : s'.m s.next = some (.box 25 [.t (tStrs o.labels), .t (tPairs o.pairs)])
  b4 : s'.m (s.next + 1) = some (.box 25 [.t (.v (.slice none 0 0)), .t (.v (.slice none 0 0))])
  a7 : s'.m m7 = some (.arr 1 9 ((glLab o L i).map TS))
  same : ∀ j, j < s.next → s'.m j = s.m j
  lo : s.next + 2 ≤ m7
  hi : m7 < s'.next
theorem glLab_old {o : Ob} {L : List Int} {i : Nat} {z : Int} (hz : L[i]? = some z) (h : z ≠ (glLab o L i).length) : glLab o L (i + 1) = glLab o L i := by
  have hg := getD_of hz
  unfold glLab at h ⊢
  rw [List.length_map] at h
  show List.map _ (if L.getD i 0 = (fstL L i).length then fstL L i ++ [i] else fstL L i) = _
  rw [hg, if_neg h]
theorem glLab_new {o : Ob} {L : List Int} {i : Nat} {z : Int} {lb : ByteArray} (hz : L[i]? = some z) (h : z = (glLab o L i).length) (hl : o.labels[i]? = some lb) : glLab o L (i + 1) = glLab o L i ++ [lb] := by
  have hg := getD_of hz
  unfold glLab at h ⊢
  rw [List.length_map] at h
  show List.map _ (if L.getD i 0 = (fstL L i).length then fstL L i ++ [i] else fstL L i) = _
  rw [hg, if_pos h]
  simp [List.getD_eq_getElem?_getD, hl]
theorem glLab_length (o : Ob) (L : List Int) (i : Nat) : (glLab o L i).length = (fstL L i).length := by simp [glLab]
theorem LaI.old {s : Sg} {o : Ob} {L : List Int} {i m7 : Nat} {s' : Sg} (h : LaI s o L i m7 s') {z : Int} (hz : L[i]? = some z) (hn : z ≠ (glLab o L i).length) : ∃ m, V.loc m7 0 (glLab o L i).length = .loc m 0 (glLab o L (i + 1)).length ∧ LaI s o L (i + 1) m s' := by
  refine ⟨m7, ?_, ?_⟩
  · rw [glLab_old hz hn]
  · obtain ⟨h1, h2, h3, h4, h5, h6⟩ := h
    exact ⟨h1, h2, by rw [glLab_old hz hn]; exact h3, h4, h5, h6⟩
theorem LaI.new {s : Sg} {o : Ob} {L : List Int} {i m7 : Nat} {s' : Sg} (h : LaI s o L i m7 s') {z : Int} {lb : ByteArray} (hz : L[i]? = some z) (hn : z = (glLab o L i).length) (hl : o.labels[i]? = some lb) (B : Blk) : ∃ m, V.loc (s'.next + 1) 0 ((glLab o L i).length + 1) = .loc m 0 (glLab o L (i + 1)).length ∧ LaI s o L (i + 1) m (((s'.add B).del m7).add (.arr 1 9 ((glLab o L i).map TS ++ [TS lb]))) := by
  have hlo := h.lo
  have hhi := h.hi
  have hfr : ∀ x, x < s'.next → x ≠ m7 → (((s'.add B).del m7).add (.arr 1 9 ((glLab o L i).map TS ++ [TS lb]))).m x = s'.m x := fun x h1 h2 => by
    rw [m_add, if_neg (by simp only [n_del, n_add]; omega), m_del, if_neg h2, m_add, if_neg (by omega)]
  refine ⟨s'.next + 1, ?_, ?_, ?_, ?_, fun j hj => ?_, by omega, by simp only [n_del, n_add]; omega⟩
  · rw [glLab_new hz hn hl, List.length_append]; rfl
  · rw [hfr _ (by omega) (by omega)]; exact h.b2
  · rw [hfr _ (by omega) (by omega)]; exact h.b4
  · rw [m_add, if_pos (by simp only [n_del, n_add]), glLab_new hz hn hl, List.map_append]; rfl
  · rw [hfr _ (by omega) (by omega)]; exact h.same j hj

set_option maxRecDepth 20000 in
set_option maxHeartbeats 4000000 in
theorem glued_ (s : Sg) (p m : Nat) (l : List Int) (hu : RefU s p m l) (hwf : wfU l) (o : Ob) (ho : IsOb o) (hpo : o.pairs.length < 1000000000) (hll : l.length = o.labels.length) : DCall Tryd.prog 68 [vObj o, .ptr p 0] s (.tup [vObj (gluedS o (placesL l)), .t (tInts (placesL l))]) (s) := by
  refine dcall_of_body Tryd.func68 rfl fun Q hQ => ?_
  obtain ⟨e, he, hl, h0, h1⟩ : ∃ e : Env, ([vObj o, .ptr p 0] ++ List.replicate (Tryd.f68.ntmps - ([vObj o, .ptr p 0] : List V).length) .junk) = e ∧ e.length = 73 ∧ ev e (.tmp 0) = vObj o ∧ ev e (.tmp 1) = .ptr p 0 := ⟨_, rfl, rfl, rfl, rfl⟩
  rw [he]
  clear he
  have hle := ho.le
  obtain ⟨L, hL⟩ : ∃ L, L = placesL l := ⟨_, rfl⟩
  have hLl : L.length = l.length := by rw [hL, placesL_length]
  have hok : PlOK L := by rw [hL]; exact places_ok hwf
  rw [← hL] at hQ
  refine vw_seq_k fun K1 hK1 => ?_
  refine vw_sc 0 [] ?_
  simp only [bs, ↓vopx, ↓vop, thenV, flat, V.cells, h0, wocs, ↓goc, ↓woc, ↓vopm0, Tryd.zv25]
  refine hK1 _ _ ?_
  refine vw_seq_k fun K2 hK2 => ?_
  refine vw_st fun sa hSa => ?_
  have ha2 : sa.m s.next = some (.box 25 [.t (tStrs o.labels), .t (tPairs o.pairs)]) := by rw [hSa, m_add, if_neg (by rw [n_add]; omega), m_add, if_pos rfl]
  have ha4 : sa.m (s.next + 1) = some (.box 25 [.t (.v (.slice none 0 0)), .t (.v (.slice none 0 0))]) := by rw [hSa, m_add, if_pos (by rw [n_add])]
  have han : sa.next = s.next + 2 := by rw [hSa]; rfl
  have hak : ∀ j, j < s.next → sa.m j = s.m j := fun j hj => by rw [hSa, m_add, if_neg (by rw [n_add]; omega), m_add, if_neg (by omega)]
  have hua : RefU sa p m l := hu.keep (fun n b hn hb => by rw [hak n hn]; exact hb) (by omega)
  clear hSa
  refine vw_sc 0 [.stop] ?_
  simp only [bs, ↓vopx, ↓vop, Nat.reduceBEq, thenV, Nat.reduceLT, hl, h1, wocs, ↓goc, ↓woc, ↓vopm0, ↓callC, calleeV]
  refine ⟨Tryd.is90, DCall.v (refPlaces_ sa p m l hua (by omega) hwf) ?_⟩
  rw [← hL]
  try simp only [bs, Nat.reduceBEq, Nat.reduceLT, hl, h1, Hold]
  refine hK2 _ _ ?_
  refine vw_seq_k fun K3 hK3 => ?_
  refine vw_sc 0 [] ?_
  simp only [bs, ↓vopx, ↓vop, thenV, flat, wocs, ↓goc, ↓woc, ↓vopm0]
  refine hK3 _ _ ?_
  refine vw_seq_k fun K4 hK4 => ?_
  refine vw_seq_k fun K5 hK5 => ?_
  refine VW.name 7 1 9 (by omega) ?_ ?_
  · try simp only [ev_hit, length_putv, hl, Nat.reduceLT]
  refine vw_st fun sb hSb => ?_
  have hLa : LaI s o L 0 sa.next sb := ⟨by rw [hSb, m_add, if_neg (by omega)]; exact ha2, by rw [hSb, m_add, if_neg (by omega)]; exact ha4, by rw [hSb, m_add, if_pos rfl]; rfl, fun j hj => by rw [hSb, m_add, if_neg (by omega)]; exact hak j hj, by omega, by rw [hSb, n_add]; omega⟩
  clear hSb
  refine vw_sc 0 [] ?_
  simp only [bs, ↓vopx, ↓vop, thenV, flat, wocs, ↓goc, ↓woc, ↓vopm0]
  refine hK5 _ _ ?_
  refine vw_block ?_
  refine vw_loop (fun mm e' s' => ∃ i : Nat, mm = L.length - i ∧ i ≤ L.length ∧ e'.length = 73 ∧ ev e' (.tmp 2) = .ptr s.next 0 ∧ ev e' (.tmp 4) = .ptr (s.next + 1) 0 ∧ ev e' (.tmp 6) = .t (tInts L) ∧ ev e' (.tmp 8) = I i ∧ True ∧ ∃ m7, ev e' (.tmp 7) = .loc m7 0 (glLab o L i).length ∧ LaI s o L i m7 s') (⟨0, rfl, Nat.zero_le _, ?_⟩) ?_
  · try simp only [ev_hit, ev_miss, Nat.reduceBEq, length_putv, hl, Nat.reduceLT, true_and]
    repeat ((with_reducible refine And.intro ?_ ?_); · trivial)
    exact ⟨_, rfl, hLa⟩
  rintro mm e s1 ⟨i, rfl, hle_i, hl, k2, k4, k6, h_i, hst, ⟨m7, k7, hLa⟩⟩
  refine vw_seq_k fun K6 hK6 => ?_
  refine vw_seq_k fun K7 hK7 => ?_
  refine vw_sc 0 [] ?_
  simp only [bs, ↓vopx, ↓vop, Nat.reduceBEq, thenV, Nat.reduceLT, opII, hl, k6, h_i, wocs, ↓goc, ↓woc, ↓vopm0, len_tInts]
  refine hK7 _ _ ?_
  refine vw_cond_k fun A B hA hB => ?_
  simp only [condV, ev_hit, length_putv, Nat.reduceLT, decide_eq_true_eq, decide_eq_false_iff_not, hl]
  refine ⟨fun hc16 => hA ?_, fun hc16 => hB ?_⟩
  · clear hA hB A B
    refine vw_skip ?_
    refine hK6 _ _ ?_
    refine vw_seq_k fun K8 hK8 => ?_
    refine vw_block ?_
    refine vw_seq_k fun K9 hK9 => ?_
    have hlt : i < L.length := by omega
    obtain ⟨z, hz⟩ : ∃ z, L[i]? = some z := ⟨_, List.getElem?_eq_getElem hlt⟩
    refine vw_sc 0 [] ?_
    simp only [bs, ↓vopx, ↓vop, Nat.reduceBEq, thenV, Nat.reduceLT, dLoad, vpart, opII, hl, k6, h_i, k7, wocs, ↓goc, ↓woc, ↓vopm0, Tryd.ag3, Tryd.sz3, Tryd.un26, hz]
    repeat ((with_reducible refine And.intro ?_ ?_); · (with_reducible assumption))
    refine hK9 _ _ ?_
    refine vw_cond_k fun A B hA hB => ?_
    simp only [condV, ev_hit, length_putv, Nat.reduceLT, beq_iff_eq, beq_eq_false_iff_ne, ne_eq, hl]
    refine ⟨fun hzc => hA ?_, fun hzc => hB ?_⟩
    · clear hA hB A B
      obtain ⟨lb, hlb⟩ : ∃ lb, o.labels[i]? = some lb := ⟨_, List.getElem?_eq_getElem (by omega)⟩
      have hb2 := hLa.b2
      have ha7 := hLa.a7
      have hsm := glLab_length o L i
      have hfs := fst_le L i
      have n1 : ¬ m7 = s1.next := by have := hLa.hi; omega
      have n2 : ¬ s.next = s1.next := by have := hLa.hi; have := hLa.lo; omega
      have hil : i < o.labels.length := by omega
      refine vw_sc 0 [] ?_
      simp only [bs, dstT, srcT, Nat.reduceLeDiff, vparts, gfill, repl, Sg.frzP, ↓vopx, ↓vop, Nat.reduceBEq, thenV, blockV, Nat.reduceLT, V.cells, dLoad, vpart, Sg.frzL, Sg.frz1, hl, k2, h_i, k7, wocs, ↓goc, ↓woc, ↓vopm0, Tryd.ag22, Tryd.ag9, Tryd.fd25_0, Tryd.sl22, Tryd.sz22, Tryd.sz9, Tryd.un22, hb2, ha7, n1, hlb, Nat.div_one]
      repeat ((with_reducible refine And.intro ?_ ?_); · first | (with_reducible assumption) | omega)
      refine hK8 _ _ ?_
      refine vw_sc 0 [] ?_
      simp only [bs, ↓vopx, ↓vop, Nat.reduceBEq, thenV, flat, Nat.reduceLT, opII, hl, k2, k4, k6, h_i, wocs, ↓goc, ↓woc, ↓vopm0]
      repeat ((with_reducible refine And.intro ?_ ?_); · exact ⟨by omega, by omega⟩)
      refine ⟨L.length - (i + 1), by omega, i + 1, rfl, by omega, ?_⟩
      try simp only [ev_hit, ev_miss, Nat.reduceBEq, length_putv, hl, k2, k4, k6, h_i, k7, if_true, if_false, Nat.reduceEqDiff, Nat.reduceLT, true_and, and_true]
      repeat ((with_reducible refine And.intro ?_ ?_); · trivial)
      first
        | exact hLa.old hz hzc
        | exact hLa.new hz hzc hlb _
    · clear hA hB A B
      refine vw_skip ?_
      refine hK8 _ _ ?_
      refine vw_sc 0 [] ?_
      simp only [bs, ↓vopx, ↓vop, Nat.reduceBEq, thenV, flat, Nat.reduceLT, opII, hl, k2, k4, k6, h_i, k7, wocs, ↓goc, ↓woc, ↓vopm0]
      repeat ((with_reducible refine And.intro ?_ ?_); · exact ⟨by omega, by omega⟩)
      refine ⟨L.length - (i + 1), by omega, i + 1, rfl, by omega, ?_⟩
      try simp only [ev_hit, ev_miss, Nat.reduceBEq, length_putv, hl, k2, k4, k6, h_i, k7, if_true, if_false, Nat.reduceEqDiff, Nat.reduceLT, true_and, and_true]
      repeat ((with_reducible refine And.intro ?_ ?_); · trivial)
      first
        | exact hLa.old hz hzc
        | exact hLa.new hz hzc hlb _
  · clear hA hB A B
    have han2 : L.length = i := by omega
    refine vw_exit ?_
    simp only [thenV, blockV, if_true]
    refine hK4 _ _ ?_
    refine vw_seq_k fun K10 hK10 => ?_
    rw [← han2] at hLa k7
    have hla7 := hLa.a7
    have hl7 := hLa.lo
    have hh7 := hLa.hi
    refine VW.freeze 7 (n := m7) (len := (glLab o L L.length).length) (k := 1) (el := 9) (cs := (glLab o L L.length).map TS) ?_ hla7 (by simp) ?_
    · try simp only [ev_miss, Nat.reduceBEq, k7]
    refine vw_st fun sF hSF => ?_
    have hF2 : sF.m s.next = some (.box 25 [.t (tStrs o.labels), .t (tPairs o.pairs)]) := by rw [hSF, m_del, if_neg (by omega)]; exact hLa.b2
    have hF4 : sF.m (s.next + 1) = some (.box 25 [.t (.v (.slice none 0 0)), .t (.v (.slice none 0 0))]) := by rw [hSF, m_del, if_neg (by omega)]; exact hLa.b4
    have hFk : ∀ j, j < s.next → sF.m j = s.m j := fun j hj => by rw [hSF, m_del, if_neg (by omega)]; exact hLa.same j hj
    have hFn : s.next + 2 ≤ sF.next := by rw [hSF, n_del]; omega
    clear hSF
    have hgn : (glLab o L L.length).length = glN L := by rw [glLab_length]; rfl
    have hg40 : glN L ≤ 40 := by have := fst_le L L.length; show (fstL L L.length).length ≤ 40; omega
    refine vw_sc 0 [.stop] ?_
    simp only [bs, ↓vopx, ↓vop, thenV, Nat.reduceLT, hl, wocs, ↓goc, ↓woc, ↓vopm0, ↓callC, calleeV, len_tStrs, hgn]
    refine ⟨Tryd.is91, (refNew_ sF (glN L)).mono fun v s2 hv => ?_⟩
    rw [newN_nat (by omega)] at hv
    obtain ⟨c, o1, r1, rfl, hR, hFr, hk, hnx⟩ := hv
    try simp only [bs, Nat.reduceLT, hl, Hold]
    refine hK10 _ _ ?_
    refine vw_seq_k fun K11 hK11 => ?_
    refine vw_seq_k fun K12 hK12 => ?_
    refine vw_sc 0 [] ?_
    simp only [bs, ↓vopx, ↓vop, thenV, flat, wocs, ↓goc, ↓woc, ↓vopm0]
    refine hK12 _ _ ?_
    refine vw_block ?_
    refine vw_loop (fun mm e' s' => ∃ j : Nat, mm = o.pairs.length - j ∧ j ≤ o.pairs.length ∧ e'.length = 73 ∧ ev e' (.tmp 2) = .ptr s.next 0 ∧ ev e' (.tmp 4) = .ptr (s.next + 1) 0 ∧ ev e' (.tmp 6) = .t (tInts L) ∧ ev e' (.tmp 7) = .t (tStrs (glLab o L L.length)) ∧ ev e' (.tmp 9) = .ptr c 0 ∧ ev e' (.tmp 10) = I j ∧ True ∧ RefR s' c (glN L) (mxOf ((o.pairs.map (mpP L)).take j)) o1 r1 ∧ Keep sF s' ∧ sF.next ≤ s'.next) (⟨0, rfl, Nat.zero_le _, ?_⟩) ?_
    · try simp only [ev_hit, ev_miss, Nat.reduceBEq, length_putv, hl, k2, k4, k6, Nat.reduceLT, true_and]
      repeat ((with_reducible refine And.intro ?_ ?_); · trivial)
      first | exact hnx | exact ⟨hR.congr fun x y hx hy => by simp [mxOf], hk, hnx⟩
    rintro mm e s1 ⟨j, rfl, hle_j, hl, q2, q4, q6, q7, q9, h_j, hst, ⟨hd, hkeep, hnx2⟩⟩
    refine vw_seq_k fun K13 hK13 => ?_
    refine vw_seq_k fun K14 hK14 => ?_
    have hb2 := hkeep _ _ (by omega) hF2
    refine vw_sc 0 [] ?_
    simp only [bs, ↓vopx, ↓vop, Nat.reduceBEq, thenV, Nat.reduceLT, dLoad, vpart, opII, hl, q2, h_j, wocs, ↓goc, ↓woc, ↓vopm0, Tryd.ag23, Tryd.fd25_1, Tryd.sz23, Tryd.un23, len_tPairs, hb2]
    refine hK14 _ _ ?_
    refine vw_cond_k fun A B hA hB => ?_
    simp only [condV, ev_hit, length_putv, Nat.reduceLT, decide_eq_true_eq, decide_eq_false_iff_not, hl]
    refine ⟨fun hc41 => hA ?_, fun hc41 => hB ?_⟩
    · clear hA hB A B
      refine vw_skip ?_
      refine hK13 _ _ ?_
      refine vw_seq_k fun K15 hK15 => ?_
      refine vw_block ?_
      have hlt : j < o.pairs.length := by omega
      obtain ⟨p, hp⟩ : ∃ p, o.pairs[j]? = some p := ⟨_, List.getElem?_eq_getElem hlt⟩
      have g0 := getP0 hp
      have g1 := getP1 hp
      have hfl := flat_length o.pairs
      have hin : (0 ≤ p.1 ∧ p.1 < o.labels.length) ∧ (0 ≤ p.2 ∧ p.2 < o.labels.length) := inB_iff.1 ((List.all_eq_true.1 ho.inb) p (List.mem_of_getElem? hp))
      obtain ⟨za, hza⟩ : ∃ z, L[p.1.toNat]? = some z := ⟨_, List.getElem?_eq_getElem (by omega)⟩
      obtain ⟨zb, hzb⟩ : ∃ z, L[p.2.toNat]? = some z := ⟨_, List.getElem?_eq_getElem (by omega)⟩
      have hla := hok.lt hza
      have hlb := hok.lt hzb
      obtain ⟨a, rfl⟩ : ∃ a : Nat, za = (a : Int) := ⟨za.toNat, by omega⟩
      obtain ⟨b, rfl⟩ : ∃ b : Nat, zb = (b : Int) := ⟨zb.toNat, by omega⟩
      have hmp : mpP L p = ((a : Int), (b : Int)) := by simp only [mpP, getD_of hza, getD_of hzb]
      have hp2k : (o.pairs.map (mpP L))[j]? = some ((a : Int), (b : Int)) := by rw [List.getElem?_map, hp, ← hmp]; rfl
      have xv : outV (glN L) o1 = .loc o1 0 (glN L) := by simp [outV, show ¬ glN L = 0 from by omega]
      have xo := hd.ho (by omega)
      have xr := hd.hr a (by omega)
      have xg : (List.range (glN L))[a]? = some a := List.getElem?_range (by omega)
      refine vw_chain Tryd.mixed 24 [0, 0, 0, 1, 0, 0, 1, 0, 1, 0, 1, 1, 1, 1, 1, 0, 0, 1, 0, 1, 0, 1, 1, 1] [] [] 0 (by decide +kernel) (by simp [length_putv, hl]) rfl ?_
      simp only [bs, dSure, ↓vopx, ↓vop, Nat.reduceBEq, thenV, blockV, flat, Nat.reduceLT, V.cells, dLoad, vpart, Sg.frzL, Sg.frz1, hl, q2, q6, q9, h_j, wocs, ↓goc, ↓woc, ↓vopm0, ↓vopm1, chn, ↓goq, ↓woq, List.zip_cons_cons, List.zip_nil_right, Tryd.ag117, Tryd.ag23, Tryd.ag3, Tryd.ag49, Tryd.fd119_1, Tryd.fd25_1, Tryd.fd84_0, Tryd.fd84_1, Tryd.sz117, Tryd.sz23, Tryd.sz3, Tryd.sz4, Tryd.sz49, Tryd.sz84, Tryd.un117, Tryd.un23, Tryd.un26, Tryd.un49, xv, xo, xr, xg, g0, g1, hfl, hd.hp, bRow_length, hza, hzb, hb2]
      repeat ((with_reducible refine And.intro ?_ ?_); · omega)
      refine hK15 _ _ ?_
      refine vw_sc 0 [] ?_
      simp only [bs, ↓vopx, ↓vop, Nat.reduceBEq, thenV, flat, Nat.reduceLT, opII, hl, q2, q4, q6, q7, q9, h_j, wocs, ↓goc, ↓woc, ↓vopm0]
      repeat ((with_reducible refine And.intro ?_ ?_); · exact ⟨by omega, by omega⟩)
      refine ⟨o.pairs.length - (j + 1), by omega, j + 1, rfl, by omega, ?_⟩
      try simp only [ev_hit, ev_miss, Nat.reduceBEq, length_putv, hl, q2, q4, q6, q7, q9, h_j, if_true, if_false, Nat.reduceEqDiff, Nat.reduceLT, true_and, and_true]
      repeat ((with_reducible refine And.intro ?_ ?_); · trivial)
      exact ⟨by rw [mxOf_take hp2k, updM_or]; exact hd.put (by omega) (by omega) true, hkeep.set (hFr.hr _ (by omega)) _, hnx2⟩
    · clear hA hB A B
      have han3 : o.pairs.length = j := by omega
      refine vw_exit ?_
      simp only [thenV, blockV, if_true]
      refine hK11 _ _ ?_
      refine vw_seq_k fun K16 hK16 => ?_
      have hb4 := hkeep _ _ (by omega) hF4
      rw [← han3, List.take_of_length_le (by simp), glMx_eq] at hd
      refine vw_sc 0 [.stop] ?_
      simp only [bs, ↓vopx, ↓vop, Nat.reduceBEq, thenV, Nat.reduceLT, V.cells, hl, q7, q9, wocs, ↓goc, ↓woc, ↓vopm0, ↓callC, calleeV]
      refine ⟨Tryd.is92, DCall.v (refMake_ s1 (glLab o L L.length) (by omega) c (glN L) _ o1 r1 hd) ?_⟩
      try simp only [bs, Nat.reduceAdd, Nat.reduceBEq, Nat.reduceLT, hl, q4, q6, q7, q9, Tryd.sz25, hb4, Hold]
      refine hK16 _ _ ?_
      refine vw_ret ?_
      refine hQ _ _ _ (.inr rfl) (Done.toS ?_)
      refine done_flat (vs := [vObj (gluedS o L), .t (tInts L)]) ?_ rfl (by simp [pack, nm, nm2, nm1, nm0]) (fun n b hn h => by rw [m_set, if_neg (by omega)]; exact hkeep n b (by omega) (by rw [hFk n hn]; exact h))
      show vres Tryd.prog _ _ [.cell 4 25, .tmp 5] = _
      simp only [vres_cell, vres_tmp, vres_nil, ev_hit, ev_miss, Nat.reduceBEq, length_putv, hl, q4, Tryd.sz25, Tryd.ag25, dLoad, m_set, vpart, if_true, Nat.reduceLT, List.drop_zero, List.take_succ_cons, List.take_zero, List.length_cons, List.length_nil, Nat.zero_add, Nat.reduceAdd]
      rfl

end Go.Proofs

open Go Go.V
namespace Go.Proofs

theorem wfU_join {l : List Int} (h : wfU l) (a b : Nat) : wfU (joinL l a b) := fun i z hz => by
  have nn : ∀ j, 0 ≤ l.getD j 0 := fun j => by
    rw [List.getD_eq_getElem?_getD]
    cases hh : l[j]? with
    | none => exact Int.le_refl _
    | some v => exact (h j v hh).1
  unfold joinL at hz
  rw [List.getElem?_map] at hz
  obtain ⟨w, hw, rfl⟩ := Option.map_eq_some_iff.1 hz
  have h1 := h i w hw
  have h2 := nn a
  have h3 := nn b
  split <;> omega
theorem wfU_range (n : Nat) : wfU (rangeI n) := fun i z hz => by
  have hi : i < n := by have := (List.getElem?_eq_some_iff.1 hz).1; rwa [rangeI_length] at this
  have : (rangeI n)[i]? = some (i : Int) := by simp [rangeI, hi]
  rw [this] at hz; cases hz
  omega
theorem wfU_joins (n : Nat) (f g : List Int) : ∀ i, wfU (joinsL (rangeI n) f g i)
  | 0 => wfU_range n
  | i + 1 => wfU_join (wfU_joins n f g i) _ _
theorem largeS_one (b : Ob) : largeS [b] = decide (40 < b.labels.length) := by simp [largeS, sumT]
theorem largeS_two (b c : Ob) : largeS [b, c] = decide (40 < b.labels.length + c.labels.length) := by simp [largeS, sumT]

end Go.Proofs

open Go Go.V
namespace Go.Proofs

theorem half2 (n : Nat) : n * 2 / 2 = n := by omega
theorem keep_da (s : Sg) (m : Nat) (B : Blk) : Keep (s.del m) (s.add B) := fun n b hn hb => by
  rw [m_del] at hb
  split at hb
  · cases hb
  · have h2 : n < s.next := hn
    have : ¬ n = s.next := by omega
    rw [m_add, if_neg this]; exact hb
theorem half22 (n : Nat) : (n * 2 + 2) / 2 = n + 1 := by omega
/-- what lies in the store behind the first lines; m1, m2: the labels and the pairs so far -/
structure BdZ (s : Sg) (b c : Ob) (n6 m1 m2 : Nat) (s' : Sg) : Prop where
  b3 : s'.m (s.next + 1) = some (.box 25 [.t (tStrs c.labels), .t (tPairs c.pairs)])
  b4 : s'.m (s.next + 1 + 1) = some (.box 25 [.t (.v (.slice none 0 0)), .t (.v (.slice none 0 0))])
  b6 : s'.m n6 = some (.box 25 [.loc m1 0 (b.labels.length + c.labels.length), .loc m2 0 b.pairs.length])
  a1 : s'.m m1 = some (.arr 1 9 (b.labels.map TS ++ c.labels.map TS))
  a2 : s'.m m2 = some (.arr 2 84 (b.pairs.flatMap pcells))
  same : ∀ j, j < s.next → s'.m j = s.m j
  l6 : s.next + 3 ≤ n6 ∧ n6 < s'.next
  l1 : s.next + 3 ≤ m1 ∧ m1 < s'.next
  l2 : s.next + 3 ≤ m2 ∧ m2 < s'.next
  d : n6 ≠ m1 ∧ n6 ≠ m2 ∧ m1 ≠ m2
/-- while pairs are told -/
structure BdI (s : Sg) (b c : Ob) (n6 k m : Nat) (s' : Sg) : Prop where
  b3 : s'.m (s.next + 1) = some (.box 25 [.t (tStrs c.labels), .t (tPairs c.pairs)])
  b4 : s'.m (s.next + 1 + 1) = some (.box 25 [.t (.v (.slice none 0 0)), .t (.v (.slice none 0 0))])
  b6 : s'.m n6 = some (.box 25 [.t (tStrs (b.labels ++ c.labels)), .loc m 0 (b.pairs.length + k)])
  am : s'.m m = some (.arr 2 84 ((b.pairs ++ (c.pairs.take k).map (shP b.labels.length)).flatMap pcells))
  same : ∀ j, j < s.next → s'.m j = s.m j
  l6 : s.next + 3 ≤ n6 ∧ n6 < s'.next
  lm : s.next + 3 ≤ m ∧ m < s'.next
  d : n6 ≠ m
theorem BdI.push {s : Sg} {b c : Ob} {n6 i m : Nat} {s1 : Sg} (h : BdI s b c n6 i m s1) {p : Int × Int} (hp : c.pairs[i]? = some p) (B : Blk) : BdI s b c n6 (i + 1) (s1.next + 1)
    ((((s1.add B).del m).add (.arr 2 84 ((b.pairs ++ (c.pairs.take i).map (shP b.labels.length)).flatMap pcells ++ [TI (p.1 + b.labels.length), TI (p.2 + b.labels.length)]))).set n6 (.box 25 [.t (tStrs (b.labels ++ c.labels)), .loc (s1.next + 1) 0 (b.pairs.length + i + 1)])) := by
  obtain ⟨h3, h4, h6, ha, hs, ⟨l6, l6'⟩, ⟨lm, lm'⟩, hd⟩ := h
  have hfr : ∀ x, x < s1.next → x ≠ m → x ≠ n6 → ((((s1.add B).del m).add (.arr 2 84 ((b.pairs ++ (c.pairs.take i).map (shP b.labels.length)).flatMap pcells ++ [TI (p.1 + b.labels.length), TI (p.2 + b.labels.length)]))).set n6 (.box 25 [.t (tStrs (b.labels ++ c.labels)), .loc (s1.next + 1) 0 (b.pairs.length + i + 1)])).m x = s1.m x := fun x h1 h2 h5 => by
    rw [m_set, if_neg h5, m_add, if_neg (by simp only [n_del, n_add]; omega), m_del, if_neg h2, m_add, if_neg (by omega)]
  refine ⟨by rw [hfr _ (by omega) (by omega) (by omega)]; exact h3, by rw [hfr _ (by omega) (by omega) (by omega)]; exact h4, by rw [m_set, if_pos rfl]; rfl, ?_, fun j hj => by rw [hfr _ (by omega) (by omega) (by omega)]; exact hs j hj, ⟨l6, by simp only [n_set, n_add, n_del]; omega⟩, ⟨by omega, by simp only [n_set, n_add, n_del]; omega⟩, by omega⟩
  rw [m_set, if_neg (by omega), m_add, if_pos (by simp only [n_del, n_add]), List.take_add_one, hp]
  simp [shP, pcells]

set_option maxRecDepth 20000 in
set_option maxHeartbeats 4000000 in
theorem beside69 (b c : Ob) (hb1 : b.labels.length < 1000000000) (hb2 : b.pairs.length < 1000000000) (hc1 : c.labels.length < 1000000000) (hc2 : c.pairs.length < 1000000000) (hcO : IsOb c) : PCall Tryd.prog 69 [vObj b, vObj c] (vObj (besideS b c)) := by
  refine pcall_of_body Tryd.func69 rfl fun s Q hQ => ?_
  obtain ⟨e, he, hl, h0, h1⟩ : ∃ e : Env, ([vObj b, vObj c] ++ List.replicate (Tryd.f69.ntmps - ([vObj b, vObj c] : List V).length) .junk) = e ∧ e.length = 51 ∧ ev e (.tmp 0) = vObj b ∧ ev e (.tmp 1) = vObj c := ⟨_, rfl, rfl, rfl, rfl⟩
  rw [he]
  clear he
  refine vw_seq_k fun K1 hK1 => ?_
  refine vw_sc 0 [] ?_
  simp only [bs, ↓vopx, ↓vop, Nat.reduceBEq, thenV, V.cells, h0, h1, wocs, ↓goc, ↓woc, ↓vopm0, Tryd.zv25]
  refine hK1 _ _ ?_
  refine vw_seq_k fun K2 hK2 => ?_
  refine vw_sc 0 [] ?_
  simp only [bs, ↓vopx, ↓vop, Nat.reduceBEq, thenV, Nat.reduceLT, dLoad, vpart, hl, wocs, ↓goc, ↓woc, ↓vopm0, Tryd.ag22, Tryd.fd25_0, Tryd.sz22, Tryd.un22, nns, len_tStrs]
  refine hK2 _ _ ?_
  refine vw_seq_k fun K3 hK3 => ?_
  suffices key : ∀ (e2 : Env) (s2 : Sg) (n6 m1 m2 : Nat), e2.length = 51 → ev e2 (.tmp 2) = .ptr s.next 0 → ev e2 (.tmp 3) = .ptr (s.next + 1) 0 → ev e2 (.tmp 4) = .ptr (s.next + 1 + 1) 0 → ev e2 (.tmp 5) = I b.labels.length → ev e2 (.tmp 6) = .ptr n6 0 → BdZ s b c n6 m1 m2 s2 → K3 e2 s2 by
    refine vw_tree_all Tryd.mixed 11 [2, 5, 8, 10] (.quiet 0 0 (.quiet 1 2 (.quiet 3 0 (.quiet 4 2 (.quiet 6 0 (.quiet 7 2 (.alt 2 0 (.alt 5 0 (.alt 8 0 (.quiet 9 0 (.alt 10 0 (.leaf) (.none))) (.alt 10 0 (.alt 8 0 (.quiet 9 0 (.leaf)) (.none)) (.none))) (.alt 10 0 (.alt 5 0 (.alt 8 0 (.quiet 9 0 (.leaf)) (.none)) (.none)) (.none))) (.alt 10 0 (.alt 2 0 (.alt 5 0 (.alt 8 0 (.quiet 9 0 (.leaf)) (.none)) (.none)) (.none)) (.none))))))))) [] [] 0 (by decide +kernel) (by simp [length_putv, hl]) rfl ?_
    simp only [bs, dstT, srcT, Nat.reduceLeDiff, Nat.reduceAdd, vparts, gfill, ↓vopx, ↓vop, Nat.reduceBEq, thenV, flat, Nat.reduceLT, V.cells, dLoad, vpart, hl, trn, wocs, ↓goc, ↓woc, ↓vopm0, ↓goq, ↓woq, Tryd.ag22, Tryd.ag23, Tryd.fd25_0, Tryd.fd25_1, Tryd.sl22, Tryd.sl23, Tryd.st25, Tryd.sz22, Tryd.sz23, Tryd.sz25, Tryd.zv25, half2, Nat.div_one, nns, flat_length]
    (repeat' (refine And.intro ?_ ?_))
    all_goals first | omega | (repeat' first | exact Keep.refl _ | refine Keep.add ?_ ?_ _ | refine Keep.del ?_ ?_ | refine Keep.set ?_ ?_ _ | exact Nat.le_refl _ | (simp only [n_add, n_del]; omega); done) | skip
    · refine key _ _ (s.next + 1 + 1 + 1 + 1 + 1 + 1) (s.next + 1 + 1 + 1 + 1) (s.next + 1 + 1 + 1 + 1 + 1) ?_ ?_ ?_ ?_ ?_ ?_ ⟨?_, ?_, ?_, ?_, ?_, fun j hj => ?_, ⟨by omega, ?_⟩, ⟨by omega, ?_⟩, ⟨by omega, ?_⟩, ⟨by omega, by omega, by omega⟩⟩
      · simp only [length_putv, hl]
      · simp only [ev_hit, ev_miss, Nat.reduceBEq, hl, Nat.reduceLT]
      · simp only [ev_hit, ev_miss, Nat.reduceBEq, length_putv, hl, Nat.reduceLT]
      · simp only [ev_hit, ev_miss, Nat.reduceBEq, length_putv, hl, Nat.reduceLT]
      · simp only [ev_hit, ev_miss, Nat.reduceBEq, length_putv, hl, Nat.reduceLT]
      · simp only [ev_hit, length_putv, hl, Nat.reduceLT]
      · simp only [m_set, m_add, m_del, n_add, n_del, nns, if_true, if_false]
      · simp only [m_set, m_add, m_del, n_add, n_del, nns, if_true, if_false]
      · simp only [m_set, m_add, m_del, n_add, n_del, nns, if_true, if_false]
      · simp only [m_set, m_add, m_del, n_add, n_del, nns, if_true, if_false]
      · simp only [m_set, m_add, m_del, n_add, n_del, nns, if_true, if_false]
      · have z0 : ¬ j = s.next := (by omega); have z1 : ¬ j = s.next + 1 := (by omega); have z2 : ¬ j = s.next + 1 + 1 := (by omega); have z3 : ¬ j = s.next + 1 + 1 + 1 := (by omega); have z4 : ¬ j = s.next + 1 + 1 + 1 + 1 := (by omega); have z5 : ¬ j = s.next + 1 + 1 + 1 + 1 + 1 := (by omega); have z6 : ¬ j = s.next + 1 + 1 + 1 + 1 + 1 + 1 := (by omega)
        simp only [m_set, m_add, m_del, n_add, n_del, z0, z1, z2, z3, z4, z5, z6, if_false]
      · simp only [n_add, n_set, n_del]; omega
      · simp only [n_add, n_set, n_del]; omega
      · simp only [n_add, n_set, n_del]; omega
    · refine key _ _ (s.next + 1 + 1 + 1 + 1 + 1) (s.next + 1 + 1 + 1 + 1) (s.next + 1 + 1 + 1 + 1 + 1 + 1) ?_ ?_ ?_ ?_ ?_ ?_ ⟨?_, ?_, ?_, ?_, ?_, fun j hj => ?_, ⟨by omega, ?_⟩, ⟨by omega, ?_⟩, ⟨by omega, ?_⟩, ⟨by omega, by omega, by omega⟩⟩
      · simp only [length_putv, hl]
      · simp only [ev_hit, ev_miss, Nat.reduceBEq, hl, Nat.reduceLT]
      · simp only [ev_hit, ev_miss, Nat.reduceBEq, length_putv, hl, Nat.reduceLT]
      · simp only [ev_hit, ev_miss, Nat.reduceBEq, length_putv, hl, Nat.reduceLT]
      · simp only [ev_hit, ev_miss, Nat.reduceBEq, length_putv, hl, Nat.reduceLT]
      · simp only [ev_hit, ev_miss, Nat.reduceBEq, length_putv, hl, Nat.reduceLT]
      · simp only [m_set, m_add, m_del, n_add, n_del, nns, if_true, if_false]
      · simp only [m_set, m_add, m_del, n_add, n_del, nns, if_true, if_false]
      · simp only [m_set, m_add, m_del, n_add, n_del, nns, if_true, if_false]
      · simp only [m_set, m_add, m_del, n_add, n_del, nns, if_true, if_false]
      · simp only [m_set, m_add, m_del, n_add, n_del, nns, if_true, if_false]
      · have z0 : ¬ j = s.next := (by omega); have z1 : ¬ j = s.next + 1 := (by omega); have z2 : ¬ j = s.next + 1 + 1 := (by omega); have z3 : ¬ j = s.next + 1 + 1 + 1 := (by omega); have z4 : ¬ j = s.next + 1 + 1 + 1 + 1 := (by omega); have z5 : ¬ j = s.next + 1 + 1 + 1 + 1 + 1 := (by omega); have z6 : ¬ j = s.next + 1 + 1 + 1 + 1 + 1 + 1 := (by omega)
        simp only [m_set, m_add, m_del, n_add, n_del, z0, z1, z2, z3, z4, z5, z6, if_false]
      · simp only [n_add, n_set, n_del]; omega
      · simp only [n_add, n_set, n_del]; omega
      · simp only [n_add, n_set, n_del]; omega
    · refine key _ _ (s.next + 1 + 1 + 1 + 1) (s.next + 1 + 1 + 1 + 1 + 1) (s.next + 1 + 1 + 1 + 1 + 1 + 1) ?_ ?_ ?_ ?_ ?_ ?_ ⟨?_, ?_, ?_, ?_, ?_, fun j hj => ?_, ⟨by omega, ?_⟩, ⟨by omega, ?_⟩, ⟨by omega, ?_⟩, ⟨by omega, by omega, by omega⟩⟩
      · simp only [length_putv, hl]
      · simp only [ev_hit, ev_miss, Nat.reduceBEq, hl, Nat.reduceLT]
      · simp only [ev_hit, ev_miss, Nat.reduceBEq, length_putv, hl, Nat.reduceLT]
      · simp only [ev_hit, ev_miss, Nat.reduceBEq, length_putv, hl, Nat.reduceLT]
      · simp only [ev_hit, ev_miss, Nat.reduceBEq, length_putv, hl, Nat.reduceLT]
      · simp only [ev_hit, ev_miss, Nat.reduceBEq, length_putv, hl, Nat.reduceLT]
      · simp only [m_set, m_add, m_del, n_add, n_del, nns, if_true, if_false]
      · simp only [m_set, m_add, m_del, n_add, n_del, nns, if_true, if_false]
      · simp only [m_set, m_add, m_del, n_add, n_del, nns, if_true, if_false]
      · simp only [m_set, m_add, m_del, n_add, n_del, nns, if_true, if_false]
      · simp only [m_set, m_add, m_del, n_add, n_del, nns, if_true, if_false]
      · have z0 : ¬ j = s.next := (by omega); have z1 : ¬ j = s.next + 1 := (by omega); have z2 : ¬ j = s.next + 1 + 1 := (by omega); have z3 : ¬ j = s.next + 1 + 1 + 1 := (by omega); have z4 : ¬ j = s.next + 1 + 1 + 1 + 1 := (by omega); have z5 : ¬ j = s.next + 1 + 1 + 1 + 1 + 1 := (by omega); have z6 : ¬ j = s.next + 1 + 1 + 1 + 1 + 1 + 1 := (by omega)
        simp only [m_set, m_add, m_del, n_add, n_del, z0, z1, z2, z3, z4, z5, z6, if_false]
      · simp only [n_add, n_set, n_del]; omega
      · simp only [n_add, n_set, n_del]; omega
      · simp only [n_add, n_set, n_del]; omega
    · refine key _ _ (s.next + 1 + 1 + 1) (s.next + 1 + 1 + 1 + 1 + 1) (s.next + 1 + 1 + 1 + 1 + 1 + 1) ?_ ?_ ?_ ?_ ?_ ?_ ⟨?_, ?_, ?_, ?_, ?_, fun j hj => ?_, ⟨by omega, ?_⟩, ⟨by omega, ?_⟩, ⟨by omega, ?_⟩, ⟨by omega, by omega, by omega⟩⟩
      · simp only [length_putv, hl]
      · simp only [ev_hit, ev_miss, Nat.reduceBEq, hl, Nat.reduceLT]
      · simp only [ev_hit, ev_miss, Nat.reduceBEq, length_putv, hl, Nat.reduceLT]
      · simp only [ev_hit, ev_miss, Nat.reduceBEq, length_putv, hl, Nat.reduceLT]
      · simp only [ev_hit, ev_miss, Nat.reduceBEq, length_putv, hl, Nat.reduceLT]
      · simp only [ev_hit, ev_miss, Nat.reduceBEq, length_putv, hl, Nat.reduceLT]
      · simp only [m_set, m_add, m_del, n_add, n_del, nns, if_true, if_false]
      · simp only [m_set, m_add, m_del, n_add, n_del, nns, if_true, if_false]
      · simp only [m_set, m_add, m_del, n_add, n_del, nns, if_true, if_false]
      · simp only [m_set, m_add, m_del, n_add, n_del, nns, if_true, if_false]
      · simp only [m_set, m_add, m_del, n_add, n_del, nns, if_true, if_false]
      · have z0 : ¬ j = s.next := (by omega); have z1 : ¬ j = s.next + 1 := (by omega); have z2 : ¬ j = s.next + 1 + 1 := (by omega); have z3 : ¬ j = s.next + 1 + 1 + 1 := (by omega); have z4 : ¬ j = s.next + 1 + 1 + 1 + 1 := (by omega); have z5 : ¬ j = s.next + 1 + 1 + 1 + 1 + 1 := (by omega); have z6 : ¬ j = s.next + 1 + 1 + 1 + 1 + 1 + 1 := (by omega)
        simp only [m_set, m_add, m_del, n_add, n_del, z0, z1, z2, z3, z4, z5, z6, if_false]
      · simp only [n_add, n_set, n_del]; omega
      · simp only [n_add, n_set, n_del]; omega
      · simp only [n_add, n_set, n_del]; omega
  intro e2 s2 n6 m1 m2 hl2 g2 g3 g4 g5 g6 hZ
  refine hK3 _ _ ?_
  refine vw_seq_k fun K4 hK4 => ?_
  refine vw_seq_k fun K5 hK5 => ?_
  refine VW.freezeBox n6 0 (n := m1) hZ.b6 rfl hZ.a1 (by simp) ?_
  refine vw_st fun s3 hS3 => ?_
  have hI : BdI s b c n6 0 m2 s3 := by
    obtain ⟨z3, z4, z6, za, zb, zs, ⟨zl, zl2⟩, ⟨zm, zm2⟩, ⟨zn, zn2⟩, zd1, zd2, zd3⟩ := hZ
    refine ⟨?_, ?_, ?_, ?_, fun j hj => ?_, ⟨zl, ?_⟩, ⟨zn, ?_⟩, zd2⟩
    · rw [hS3, m_set, if_neg (by omega), m_del, if_neg (by omega)]; exact z3
    · rw [hS3, m_set, if_neg (by omega), m_del, if_neg (by omega)]; exact z4
    · rw [hS3, m_set, if_pos rfl]; simp [tStrs]
    · rw [hS3, m_set, if_neg (by omega), m_del, if_neg (by omega), zb]; simp
    · rw [hS3, m_set, if_neg (by omega), m_del, if_neg (by omega)]; exact zs j hj
    · rw [hS3]; exact zl2
    · rw [hS3]; exact zn2
  clear hS3 hZ
  refine vw_sc 0 [] ?_
  simp only [bs, ↓vopx, ↓vop, thenV, flat, wocs, ↓goc, ↓woc, ↓vopm0]
  refine hK5 _ _ ?_
  refine vw_block ?_
  refine vw_loop (fun mm e' s' => ∃ i : Nat, mm = c.pairs.length - i ∧ i ≤ c.pairs.length ∧ e'.length = 51 ∧ ev e' (.tmp 3) = .ptr (s.next + 1) 0 ∧ ev e' (.tmp 4) = .ptr (s.next + 1 + 1) 0 ∧ ev e' (.tmp 5) = I b.labels.length ∧ ev e' (.tmp 6) = .ptr n6 0 ∧ ev e' (.tmp 7) = I i ∧ True ∧ ∃ m, BdI s b c n6 i m s') (⟨0, rfl, Nat.zero_le _, ?_⟩) ?_
  · try simp only [ev_hit, ev_miss, Nat.reduceBEq, length_putv, hl2, g3, g4, g5, g6, Nat.reduceLT, true_and]
    repeat ((with_reducible refine And.intro ?_ ?_); · trivial)
    exact ⟨_, hI⟩
  rintro mm e s1 ⟨i, rfl, hle_i, hl, k3, k4, k5, k6, h_i, hst, ⟨m, hI⟩⟩
  refine vw_seq_k fun K6 hK6 => ?_
  refine vw_seq_k fun K7 hK7 => ?_
  have hb3 := hI.b3
  refine vw_sc 0 [] ?_
  simp only [bs, ↓vopx, ↓vop, Nat.reduceBEq, thenV, Nat.reduceLT, dLoad, vpart, opII, hl, k3, h_i, wocs, ↓goc, ↓woc, ↓vopm0, Tryd.ag23, Tryd.fd25_1, Tryd.sz23, Tryd.un23, nns, len_tPairs, hb3]
  refine hK7 _ _ ?_
  refine vw_cond_k fun A B hA hB => ?_
  simp only [condV, ev_hit, length_putv, Nat.reduceLT, decide_eq_true_eq, decide_eq_false_iff_not, hl]
  refine ⟨fun hc25 => hA ?_, fun hc25 => hB ?_⟩
  · clear hA hB A B
    refine vw_skip ?_
    refine hK6 _ _ ?_
    refine vw_seq_k fun K8 hK8 => ?_
    refine vw_block ?_
    obtain ⟨p, hp⟩ : ∃ p, c.pairs[i]? = some p := ⟨_, List.getElem?_eq_getElem (by omega)⟩
    have g0 := getP0 hp
    have g1 := getP1 hp
    have hfl := flat_length c.pairs
    have hb3 := hI.b3
    have hb6 := hI.b6
    have ham := hI.am
    have lm := hI.lm
    have l6 := hI.l6
    have hd6 := hI.d
    have hlp : (b.pairs ++ (c.pairs.take i).map (shP b.labels.length)).length = b.pairs.length + i := by rw [List.length_append, List.length_map, List.length_take]; omega
    have hil : i < c.pairs.length := by omega
    have hin : (0 ≤ p.1 ∧ p.1 < c.labels.length) ∧ (0 ≤ p.2 ∧ p.2 < c.labels.length) := inB_iff.1 ((List.all_eq_true.1 hcO.inb) p (List.mem_of_getElem? hp))
    have y1 : ¬ s.next + 1 = m := by omega
    have y2 : ¬ n6 = m := hd6
    have y3 : ¬ m = n6 := fun h => hd6 h.symm
    have y4 : ¬ n6 = s1.next := by omega
    have y5 : ¬ m = s1.next := by omega
    have y6 : ¬ s1.next = m := by omega
    have y7 : ¬ n6 = s1.next + 1 := by omega
    refine vw_chain_del (m) Tryd.mixed 20 [0, 2, 0, 1, 0, 1, 0, 1, 0, 0, 0, 1, 0, 1, 0, 1, 0, 0, 0, 3] [] [] 0 (by decide +kernel) (by simp [length_putv, hl]) rfl ?_
    simp only [bs, dstT, srcT, Nat.reduceLeDiff, Nat.reduceAdd, vparts, gfill, repl, Sg.frzP, ↓vopx, ↓vop, Nat.reduceBEq, thenV, blockV, Nat.reduceLT, V.cells, dLoad, vpart, opII, Sg.frzL, Sg.frz1, hl, k3, k5, k6, h_i, wocs, ↓goc, ↓woc, ↓vopm0, ↓vopm1, chn, ↓goq, ↓woq, List.zip_cons_cons, List.zip_nil_right, Tryd.ag23, Tryd.ag3, Tryd.fd25_1, Tryd.fd84_0, Tryd.fd84_1, Tryd.sl23, Tryd.st84, Tryd.sz23, Tryd.sz3, Tryd.sz84, Tryd.un23, half22, nns, hb3, hb6, ham, hfl, g0, g1, hlp, flat_length, y2, y4, y5, y7]
    repeat ((with_reducible refine And.intro ?_ ?_); · first | omega | exact ⟨by omega, by omega⟩ | exact keep_da _ _ _)
    refine hK8 _ _ ?_
    refine vw_sc 0 [] ?_
    simp only [bs, ↓vopx, ↓vop, Nat.reduceBEq, thenV, flat, Nat.reduceLT, opII, hl, k3, k4, k5, k6, h_i, wocs, ↓goc, ↓woc, ↓vopm0]
    repeat ((with_reducible refine And.intro ?_ ?_); · exact ⟨by omega, by omega⟩)
    refine ⟨c.pairs.length - (i + 1), by omega, i + 1, rfl, by omega, ?_⟩
    try simp only [ev_hit, ev_miss, Nat.reduceBEq, length_putv, hl, k3, k4, k5, k6, h_i, if_true, if_false, Nat.reduceEqDiff, Nat.reduceLT, true_and, and_true]
    repeat ((with_reducible refine And.intro ?_ ?_); · trivial)
    exact ⟨_, hI.push hp _⟩
  · clear hA hB A B
    refine vw_exit ?_
    simp only [thenV, blockV, if_true]
    refine hK4 _ _ ?_
    refine vw_seq_k fun K9 hK9 => ?_
    have hii : i = c.pairs.length := by omega
    subst hii
    have l6 := hI.l6
    have lm := hI.lm
    have hd6 := hI.d
    have ham := hI.am
    have hb6 := hI.b6
    have hb4 := hI.b4
    have hsm := hI.same
    rw [List.take_of_length_le (Nat.le_refl _)] at ham
    refine VW.freezeBox n6 1 (n := m) hb6 rfl ham (by rw [flat_length, List.length_append, List.length_map]) ?_
    have y8 : ¬ s.next + 1 + 1 = n6 := by omega
    have y9 : ¬ s.next + 1 + 1 = m := by omega
    refine vw_sc 0 [] ?_
    simp only [bs, Nat.reduceAdd, ↓vopx, ↓vop, Nat.reduceBEq, thenV, Nat.reduceLT, V.cells, dLoad, vpart, hl, k4, k6, wocs, ↓goc, ↓woc, ↓vopm0, Tryd.ag25, Tryd.sz25, hb4, y8, y9, List.set_cons_succ, List.set_cons_zero]
    refine hK9 _ _ ?_
    refine vw_ret ?_
    refine hQ _ _ _ (.inr rfl) (Done.toS ?_)
    refine done_flat (vs := [vObj (besideS b c)]) ?_ rfl (by simp [pack, nm, nm2, nm1, nm0]) (fun n b hn h => by rw [m_set, if_neg (by omega), m_set, if_neg (by omega), m_del, if_neg (by omega)]; exact (hsm n hn).trans h)
    show vres Tryd.prog _ _ [.cell 4 25] = _
    simp only [vres_cell, vres_nil, ev_miss, Nat.reduceBEq, k4, Tryd.sz25, Tryd.ag25, dLoad, m_set, vpart, if_true, List.drop_zero, List.take_succ_cons, List.take_zero, List.length_cons, List.length_nil, Nat.zero_add, Nat.reduceAdd]
    rfl

end Go.Proofs

open Go Go.V
namespace Go.Proofs

abbrev gMv (b : Ob) (g : List Int) : List Int := g.map (· + (b.labels.length : Int))
/-- the places when two maps into two objects are made one -/
def puPl (b c : Ob) (f g : List Int) : List Int := placesL (joinsL (rangeI (b.labels.length + c.labels.length)) f (gMv b g) f.length)
def pushR (a b c : Ob) (f g : List Int) : Ob × List Int × List Int × Int :=
  if largeS [a] = true ∨ largeS [b] = true ∨ largeS [b, c] = true then (⟨[], []⟩, [], [], 11) else if arrS a b f = true ∧ arrS a c g = true then
    (gluedS (besideS b c) (puPl b c f g), (puPl b c f g).take b.labels.length, (puPl b c f g).drop b.labels.length, 0)
  else (⟨[], []⟩, [], [], 10)
theorem legT_get {n base i : Nat} (h : i < n) : (legT n base)[i]? = some ((base + i : Nat) : Int) := by simp [legT, h]
theorem then_leg {f : List Int} {n base : Nat} (h : ∀ y ∈ f, 0 ≤ y ∧ y < n) : (thenS f (legT n base)).1 = f.map (· + (base : Int)) := by
  have ha : f.all (fun y => decide (0 ≤ y) && decide (y < (legT n base).length)) = true := by
    rw [List.all_eq_true]
    intro y hy
    have := h y hy
    rw [legT_length]
    simp only [Bool.and_eq_true, decide_eq_true_eq]; exact this
  unfold thenS
  rw [if_pos ha]
  show List.map _ f = _
  refine List.map_congr_left fun y hy => ?_
  have hy2 := h y hy
  have := legT_get (n := n) (base := base) (i := y.toNat) (by omega)
  rw [List.getD_eq_getElem?_getD, this]
  show ((base + y.toNat : Nat) : Int) = y + base
  omega
theorem leg_then {L : List Int} {n base : Nat} (h : base + n ≤ L.length) : (thenS (legT n base) L).1 = (L.drop base).take n := by
  have ha : (legT n base).all (fun y => decide (0 ≤ y) && decide (y < L.length)) = true := by
    rw [List.all_eq_true]
    intro y hy
    obtain ⟨i, hi, rfl⟩ := List.mem_map.1 hy
    have := List.mem_range.1 hi
    simp only [Bool.and_eq_true, decide_eq_true_eq]; omega
  unfold thenS
  rw [if_pos ha]
  show List.map _ (legT n base) = _
  apply List.ext_getElem?
  intro i
  by_cases hi : i < n
  · rw [List.getElem?_map, legT_get hi, List.getElem?_take, if_pos hi, List.getElem?_drop, Option.map_some, Int.toNat_natCast, List.getD_eq_getElem?_getD, List.getElem?_eq_getElem (show base + i < L.length by omega)]; rfl
  · rw [List.getElem?_eq_none (by simp [legT]; omega), List.getElem?_eq_none (by simp; omega)]
theorem arr_all {a b : Ob} {f : List Int} (h : arrS a b f = true) : ∀ y ∈ f, 0 ≤ y ∧ y < b.labels.length := fun y hy => by
  obtain ⟨i, hi⟩ := List.mem_iff_getElem?.1 hy
  obtain ⟨z, h1, h2⟩ := arr_at h (List.getElem?_eq_some_iff.1 hi).1
  rw [hi] at h1; cases h1
  omega
theorem pushS_eq (a b c : Ob) (f g : List Int) : pushS a b c f g = pushR a b c f g := by
  unfold pushS pushR
  by_cases h1 : largeS [a] = true ∨ largeS [b, c] = true
  · rw [if_pos h1, if_pos (by rcases h1 with h | h; exact .inl h; exact .inr (.inr h))]
  · have h2 : ¬ (largeS [a] = true ∨ largeS [b] = true ∨ largeS [b, c] = true) := by
      rintro (h | h | h)
      · exact h1 (.inl h)
      · refine h1 (.inr ?_)
        rw [largeS_one] at h
        rw [largeS_two]
        have := of_decide_eq_true h
        exact decide_eq_true (by omega)
      · exact h1 (.inr h)
    rw [if_neg h1, if_neg h2]
    by_cases hk : arrS a b f = true ∧ arrS a c g = true
    · rw [if_pos hk, if_pos hk]
      obtain ⟨kf, kg⟩ := hk
      have hob := (arrS_iff.1 kf).2.1
      have hoc := (arrS_iff.1 kg).2.1
      have hbc : b.labels.length + c.labels.length ≤ 40 := by
        have : ¬ largeS [b, c] = true := fun h => h1 (.inr h)
        rw [largeS_two] at this
        have := mt decide_eq_true this
        omega
      have hol : (besideS b c).labels.length = b.labels.length + c.labels.length := by simp only [besideS, List.length_append]
      have t1 : (thenS f (legT b.labels.length 0)).1 = f := by rw [then_leg (arr_all kf)]; simp
      have t2 : (thenS g (legT c.labels.length b.labels.length)).1 = gMv b g := then_leg (arr_all kg)
      have he : pushE a b c f g = (gluedS (besideS b c) (puPl b c f g), puPl b c f g, 0) := by
        unfold pushE eqS
        rw [t1, t2]
        rw [if_neg (by
          rintro (h | h)
          · exact h1 (.inl h)
          · rw [largeS_one, hol] at h
            have := of_decide_eq_true h
            omega), if_pos ⟨arr_left kf hoc hbc, arr_right hob kg hbc⟩]
        have : eqPl (besideS b c) f (gMv b g) = puPl b c f g := by unfold eqPl puPl; rw [hol]
        rw [this]
      have hpl : (puPl b c f g).length = b.labels.length + c.labels.length := by unfold puPl; rw [placesL_length, joinsL_length, rangeI_length]
      rw [he]
      simp only [if_true]
      rw [leg_then (by omega), leg_then (by omega), List.drop_zero, show (List.drop b.labels.length (puPl b c f g)).take c.labels.length = List.drop b.labels.length (puPl b c f g) from List.take_of_length_le (by rw [List.length_drop]; omega)]
    · rw [if_neg hk, if_neg hk]
end Go.Proofs

open Go Go.V
namespace Go.Proofs

theorem pairsOf_len (n : Nat) (M : Mx) : (pairsOf n M).length ≤ n * n := by
  unfold pairsOf
  rw [List.length_flatMap]
  have h : ∀ (l : List Nat), (l.map fun a => (rowOf n M a).length).sum ≤ l.length * n := by
    intro l
    induction l with
    | nil => simp
    | cons a l ih =>
      have h1 : (rowOf n M a).length ≤ n := by
        unfold rowOf
        rw [List.length_map]
        exact Nat.le_trans (List.length_filter_le _ _) (by simp)
      simp only [List.map_cons, List.sum_cons, List.length_cons, Nat.succ_mul]
      omega
  have := h (List.range n)
  rwa [List.length_range] at this
theorem glN_le (l : List Int) : glN l ≤ l.length := fst_le l l.length
theorem glued_lab_le (o : Ob) (l : List Int) : (gluedS o l).labels.length ≤ l.length := by
  unfold gluedS glLab
  rw [List.length_map]
  exact fst_le l l.length
theorem glued_pairs_le (o : Ob) (l : List Int) : (gluedS o l).pairs.length ≤ l.length * l.length :=
  Nat.le_trans (pairsOf_len _ _) (Nat.mul_le_mul (glN_le l) (glN_le l))
theorem puPl_len (b c : Ob) (f g : List Int) : (puPl b c f g).length = b.labels.length + c.labels.length := by
  unfold puPl
  rw [placesL_length, joinsL_length, rangeI_length]
theorem sq_le {n m : Nat} (h : n ≤ m) : n * n ≤ m * m := Nat.mul_le_mul h h
theorem pushR_lim (a b c : Ob) (f g : List Int) (hb : b.labels.length + c.labels.length ≤ 100) : (pushR a b c f g).1.labels.length ≤ 100 ∧ (pushR a b c f g).1.pairs.length ≤ 10000 ∧ (pushR a b c f g).2.1.length ≤ 100 ∧ (pushR a b c f g).2.2.1.length ≤ 100 := by
  unfold pushR
  split
  · simp
  · split
    · have h1 := glued_lab_le (besideS b c) (puPl b c f g)
      have h2 := glued_pairs_le (besideS b c) (puPl b c f g)
      rw [puPl_len] at h1 h2
      have := sq_le hb
      refine ⟨?_, ?_, ?_, ?_⟩ <;> simp only [List.length_take, List.length_drop, puPl_len] <;> omega
    · simp
end Go.Proofs

open Go Go.V
namespace Go.Proofs

/-- of each element the least of its class -/
def RepOK (R : List Int) : Prop := ∀ (i : Nat) (z : Int), R[i]? = some z → (0 ≤ z ∧ z ≤ i) ∧ R[z.toNat]? = some z
theorem RepOK.wf {R : List Int} (h : RepOK R) : wfU R := fun i z hz => (h i z hz).1
theorem RepOK.range (n : Nat) : RepOK (rangeI n) := fun i z hz => by
  have hi : i < n := by have := (List.getElem?_eq_some_iff.1 hz).1; rwa [rangeI_length] at this
  rw [rangeI_get hi] at hz
  cases hz
  exact ⟨by omega, by simpa using rangeI_get hi⟩
theorem RepOK.join {R : List Int} (h : RepOK R) {a b : Nat} {x y : Int} (hx : R[a]? = some x) (hy : R[b]? = some y) : RepOK (joinL R a b) := by
  obtain ⟨x1, x2⟩ := h a x hx
  obtain ⟨y1, y2⟩ := h b y hy
  intro i z hz
  unfold joinL at hz ⊢
  rw [getD_of hx, getD_of hy] at hz ⊢
  rw [List.getElem?_map] at hz
  obtain ⟨w, hw, rfl⟩ := Option.map_eq_some_iff.1 hz
  obtain ⟨w1, w2⟩ := h i w hw
  have hN : R[(min x y).toNat]? = some (min x y) := by
    rcases Int.le_total x y with hle | hle
    · rw [show min x y = x by omega]; exact x2
    · rw [show min x y = y by omega]; exact y2
  by_cases hm : w = max x y
  · rw [if_pos hm]
    refine ⟨by omega, ?_⟩
    rw [List.getElem?_map, hN]
    simp only [Option.map_some]
    split <;> simp
  · rw [if_neg hm]
    refine ⟨w1, ?_⟩
    rw [List.getElem?_map, w2]
    simp only [Option.map_some, if_neg hm]
theorem joins_ok (n : Nat) (f g : List Int) (hf : ∀ y ∈ f, 0 ≤ y ∧ y < n) (hg : ∀ y ∈ g, 0 ≤ y ∧ y < n) : ∀ k, k ≤ f.length → k ≤ g.length → RepOK (joinsL (rangeI n) f g k) ∧ (joinsL (rangeI n) f g k).length = n
  | 0, _, _ => ⟨RepOK.range n, rangeI_length n⟩
  | k + 1, h1, h2 => by
    obtain ⟨ih, il⟩ := joins_ok n f g hf hg k (by omega) (by omega)
    obtain ⟨y, hy⟩ : ∃ y, f[k]? = some y := ⟨_, List.getElem?_eq_getElem (by omega)⟩
    obtain ⟨z, hz⟩ : ∃ z, g[k]? = some z := ⟨_, List.getElem?_eq_getElem (by omega)⟩
    have by_ := hf y (List.mem_of_getElem? hy)
    have bz := hg z (List.mem_of_getElem? hz)
    rw [joinsL_succ hy hz]
    refine ⟨ih.join (List.getElem?_eq_getElem (by omega)) (List.getElem?_eq_getElem (by omega)), by rw [joinL_length]; exact il⟩
/-- what takes the same value at what is made one, does so in each class -/
theorem joins_inv {β : Type} (n : Nat) (f g : List Int) (hf : ∀ y ∈ f, 0 ≤ y ∧ y < n) (hg : ∀ y ∈ g, 0 ≤ y ∧ y < n) (h : Nat → β) : ∀ k, k ≤ f.length → k ≤ g.length → (∀ (i : Nat) (y z : Int), i < k → f[i]? = some y → g[i]? = some z → h y.toNat = h z.toNat) →
    ∀ (j : Nat) (r : Int), (joinsL (rangeI n) f g k)[j]? = some r → h r.toNat = h j
  | 0, _, _, _, j, r, hr => by
    have hj : j < n := by have := (List.getElem?_eq_some_iff.1 hr).1; rwa [show joinsL (rangeI n) f g 0 = rangeI n from rfl, rangeI_length] at this
    rw [show joinsL (rangeI n) f g 0 = rangeI n from rfl, rangeI_get hj] at hr
    cases hr; simp
  | k + 1, h1, h2, he, j, r, hr => by
    have ih := joins_inv n f g hf hg h k (by omega) (by omega) (fun i y z hi => he i y z (by omega))
    obtain ⟨hok, il⟩ := joins_ok n f g hf hg k (by omega) (by omega)
    obtain ⟨y, hy⟩ : ∃ y, f[k]? = some y := ⟨_, List.getElem?_eq_getElem (by omega)⟩
    obtain ⟨z, hz⟩ : ∃ z, g[k]? = some z := ⟨_, List.getElem?_eq_getElem (by omega)⟩
    have by_ := hf y (List.mem_of_getElem? hy)
    have bz := hg z (List.mem_of_getElem? hz)
    obtain ⟨a, ha⟩ : ∃ a, (joinsL (rangeI n) f g k)[y.toNat]? = some a := ⟨_, List.getElem?_eq_getElem (by omega)⟩
    obtain ⟨b, hb⟩ : ∃ b, (joinsL (rangeI n) f g k)[z.toNat]? = some b := ⟨_, List.getElem?_eq_getElem (by omega)⟩
    rw [joinsL_succ hy hz] at hr
    unfold joinL at hr
    rw [getD_of ha, getD_of hb, List.getElem?_map] at hr
    obtain ⟨w, hw, rfl⟩ := Option.map_eq_some_iff.1 hr
    have e1 := ih _ _ ha
    have e2 := ih _ _ hb
    have e3 := he k y z (by omega) hy hz
    have e4 := ih _ _ hw
    split
    · rename_i hm
      rw [← e4, hm]
      rcases Int.le_total a b with hle | hle
      · rw [show min a b = a by omega, show max a b = b by omega, e1, e2, e3]
      · rw [show min a b = b by omega, show max a b = a by omega, e1, e2, e3]
    · exact e4
/-- what is made one is one -/
theorem joins_eq (n : Nat) (f g : List Int) (hf : ∀ y ∈ f, 0 ≤ y ∧ y < n) (hg : ∀ y ∈ g, 0 ≤ y ∧ y < n) : ∀ k, k ≤ f.length → k ≤ g.length → ∀ (i : Nat) (y z : Int), i < k → f[i]? = some y → g[i]? = some z → (joinsL (rangeI n) f g k)[y.toNat]? = (joinsL (rangeI n) f g k)[z.toNat]?
  | 0, _, _, i, y, z, hi, _, _ => by omega
  | k + 1, h1, h2, i, y, z, hi, hy, hz => by
    obtain ⟨hok, il⟩ := joins_ok n f g hf hg k (by omega) (by omega)
    obtain ⟨y', hy'⟩ : ∃ y, f[k]? = some y := ⟨_, List.getElem?_eq_getElem (by omega)⟩
    obtain ⟨z', hz'⟩ : ∃ z, g[k]? = some z := ⟨_, List.getElem?_eq_getElem (by omega)⟩
    rw [joinsL_succ hy' hz']
    unfold joinL
    rw [List.getElem?_map, List.getElem?_map]
    by_cases hik : i = k
    · subst hik
      rw [hy] at hy'; cases hy'
      rw [hz] at hz'; cases hz'
      have by_ := hf y (List.mem_of_getElem? hy)
      have bz := hg z (List.mem_of_getElem? hz)
      obtain ⟨a, ha⟩ : ∃ a, (joinsL (rangeI n) f g i)[y.toNat]? = some a := ⟨_, List.getElem?_eq_getElem (by omega)⟩
      obtain ⟨b, hb⟩ : ∃ b, (joinsL (rangeI n) f g i)[z.toNat]? = some b := ⟨_, List.getElem?_eq_getElem (by omega)⟩
      rw [getD_of ha, getD_of hb, ha, hb]
      simp only [Option.map_some, Option.some.injEq]
      rcases Int.le_total a b with hle | hle
      · rw [show min a b = a by omega, show max a b = b by omega]; (split <;> split) <;> simp_all
      · rw [show min a b = b by omega, show max a b = a by omega]; (split <;> split) <;> simp_all
    · rw [joins_eq n f g hf hg k (by omega) (by omega) i y z (by omega) hy hz]

theorem placesL_len (R : List Int) : (placesL R).length = R.length := plS_length R _
theorem pl_step (R : List Int) {i : Nat} (h : i < R.length) : (placesL R)[i]? = some (if R.getD i 0 = i then ((plS R i).2 : Int) else (plS R i).1.getD (R.getD i 0).toNat 0) := by
  have h1 : (plS R (i + 1)).1 = (plS R i).1 ++ [if R.getD i 0 = i then ((plS R i).2 : Int) else (plS R i).1.getD (R.getD i 0).toNat 0] := by
    show (if R.getD i 0 = i then _ else _ : List Int × Nat).1 = _
    split <;> rfl
  have h2 : (placesL R)[i]? = (plS R (i + 1)).1[i]? := by
    rw [← plS_take R (i + 1) R.length h, List.getElem?_take, if_pos (by omega)]; rfl
  rw [h2, h1, List.getElem?_append_right (by rw [plS_length]; omega), plS_length, Nat.sub_self]; rfl
/-- each element has the place of the least of its class -/
theorem pl_rep {R : List Int} (h : RepOK R) {i : Nat} {z : Int} (hz : R[i]? = some z) : (placesL R)[i]? = (placesL R)[z.toNat]? := by
  have hi := (List.getElem?_eq_some_iff.1 hz).1
  obtain ⟨h1, h2⟩ := h i z hz
  by_cases hr : z = i
  · subst hr; simp
  · rw [pl_step R hi, getD_of hz, if_neg hr]
    have : (plS R i).1.getD z.toNat 0 = (placesL R).getD z.toNat 0 := by
      rw [← plS_take R i R.length (by omega), List.getD_eq_getElem?_getD, List.getElem?_take, if_pos (by omega), List.getD_eq_getElem?_getD]; rfl
    rw [this, List.getD_eq_getElem?_getD, List.getElem?_eq_getElem (by rw [placesL_len]; omega)]; rfl
theorem pl_root {R : List Int} (h : RepOK R) {i : Nat} (hz : R[i]? = some (i : Int)) : (placesL R)[i]? = some ((fstL (placesL R) i).length : Int) := by
  have hi := (List.getElem?_eq_some_iff.1 hz).1
  rw [pl_step R hi, getD_of hz, if_pos rfl, (plS_fst h.wf i (by omega)).1]
theorem fst_step (L : List Int) (i : Nat) : fstL L (i + 1) = if L.getD i 0 = (fstL L i).length then fstL L i ++ [i] else fstL L i := rfl
theorem fst_keep (L : List Int) {i j : Nat} (h : i ≤ j) {k x : Nat} (hx : (fstL L i)[k]? = some x) : (fstL L j)[k]? = some x := by
  induction h with
  | refl => exact hx
  | step _ ih =>
    rw [fst_step]
    split
    · rw [List.getElem?_append_left (List.getElem?_eq_some_iff.1 ih).1]; exact ih
    · exact ih
theorem fst_root {R : List Int} (h : RepOK R) {i : Nat} (hz : R[i]? = some (i : Int)) : (fstL (placesL R) R.length)[(fstL (placesL R) i).length]? = some i := by
  have hi := (List.getElem?_eq_some_iff.1 hz).1
  refine fst_keep _ (show i + 1 ≤ R.length from hi) ?_
  rw [fst_step, getD_of (pl_root h hz), if_pos rfl, List.getElem?_append_right (Nat.le_refl _), Nat.sub_self]; rfl
/-- at the place of an element the least of its class is told -/
theorem fst_at {R : List Int} (h : RepOK R) {i : Nat} {z : Int} (hz : R[i]? = some z) : ∃ k : Nat, (placesL R)[i]? = some (k : Int) ∧ (fstL (placesL R) R.length)[k]? = some z.toNat := by
  obtain ⟨h1, h2⟩ := h i z hz
  have hz0 : R[z.toNat]? = some (z.toNat : Int) := by rw [h2]; congr 1; omega
  exact ⟨_, by rw [pl_rep h hz]; exact pl_root h hz0, fst_root h hz0⟩
theorem fst_val (L : List Int) : ∀ (m k r : Nat), (fstL L m)[k]? = some r → L.getD r 0 = k
  | 0, k, r, h => by simp [fstL] at h
  | m + 1, k, r, h => by
    rw [fst_step] at h
    split at h
    · rename_i hm
      by_cases hk : k < (fstL L m).length
      · rw [List.getElem?_append_left hk] at h; exact fst_val L m k r h
      · rw [List.getElem?_append_right (by omega)] at h
        have hk0 : k - (fstL L m).length = 0 := by
          rcases Nat.eq_zero_or_pos (k - (fstL L m).length) with h0 | h0
          · exact h0
          · rw [List.getElem?_eq_none (by simp only [List.length_cons, List.length_nil]; omega)] at h; cases h
        rw [hk0] at h; simp at h; subst h
        rw [hm]; congr 1; omega
    · exact fst_val L m k r h
/-- each place is one of an element -/
theorem pl_onto (L : List Int) {k : Nat} (hk : k < glN L) : ∃ i, i < L.length ∧ L.getD i 0 = k := by
  obtain ⟨r, hr⟩ : ∃ r, (fstL L L.length)[k]? = some r := ⟨_, List.getElem?_eq_getElem hk⟩
  exact ⟨r, fst_mem L L.length r (List.mem_of_getElem? hr), fst_val L _ _ _ hr⟩

theorem glLab_len (o : Ob) (L : List Int) : (glLab o L L.length).length = glN L := by simp [glLab, glN]
theorem glMx_within {o : Ob} {L : List Int} (ho : IsOb o) (hl : L.length = o.labels.length) (hok : PlOK L) : Within (glN L) (glMx o L) := by
  intro x y h
  simp only [glMx, List.any_eq_true, Bool.and_eq_true, beq_iff_eq] at h
  obtain ⟨p, hp, rfl, rfl⟩ := h
  have hin := inB_iff.1 ((List.all_eq_true.1 ho.inb) p hp)
  obtain ⟨u, hu⟩ : ∃ u, L[p.1.toNat]? = some u := ⟨_, List.getElem?_eq_getElem (by omega)⟩
  obtain ⟨v, hv⟩ : ∃ v, L[p.2.toNat]? = some v := ⟨_, List.getElem?_eq_getElem (by omega)⟩
  have a := hok.lt hu
  have b := hok.lt hv
  unfold atN
  rw [getD_of hu, getD_of hv]
  omega
theorem glued_ob {o : Ob} {L : List Int} (ho : IsOb o) (hl : L.length = o.labels.length) (hok : PlOK L) : IsOb (gluedS o L) := by
  have hle := ho.le
  have hn := glLab_len o L
  have hw := glMx_within ho hl hok
  unfold gluedS
  rw [← hn] at hw ⊢
  refine ob_of_clo (by have := fst_le L L.length; rw [hn]; unfold glN; omega) ?_ hw
  rw [List.all_eq_true]
  intro b hb
  unfold glLab at hb
  obtain ⟨r, hr, rfl⟩ := List.mem_map.1 hb
  have hrl := fst_mem L L.length r hr
  have : o.labels.getD r ByteArray.empty ∈ o.labels := by
    rw [List.getD_eq_getElem?_getD, List.getElem?_eq_getElem (by omega)]; exact List.getElem_mem _
  exact (List.all_eq_true.1 ho.sz) _ this
/-- the places are a map to the object, if labels agree in each class -/
theorem glued_arr {o : Ob} {R : List Int} (ho : IsOb o) (h : RepOK R) (hl : R.length = o.labels.length)
    (hlab : ∀ (j : Nat) (r : Int), R[j]? = some r → (o.labels.getD r.toNat ByteArray.empty).toList = (o.labels.getD j ByteArray.empty).toList) : arrS o (gluedS o (placesL R)) (placesL R) = true := by
  have hpl := placesL_len R
  have hok := places_ok h.wf
  have hq := glued_ob ho (by rw [hpl]; exact hl) hok
  refine arr_of ho hq (by rw [hpl]; exact hl) (fun i y la hy hla => ?_) fun x y hm => ?_
  · have hi := (List.getElem?_eq_some_iff.1 hla).1
    obtain ⟨z, hz⟩ : ∃ z, R[i]? = some z := ⟨_, List.getElem?_eq_getElem (by omega)⟩
    obtain ⟨k, hk, hf⟩ := fst_at h hz
    rw [hk] at hy; cases hy
    have hbd := hok.lt hk
    have hqk : (gluedS o (placesL R)).labels[k]? = some (o.labels.getD z.toNat ByteArray.empty) := by
      show (glLab o (placesL R) (placesL R).length)[k]? = _
      unfold glLab
      rw [hpl, List.getElem?_map, hf]; rfl
    refine ⟨o.labels.getD z.toNat ByteArray.empty, ⟨by omega, ?_⟩, by rw [Int.toNat_natCast]; exact hqk, ?_⟩
    · show (k : Int) < ((glLab o (placesL R) (placesL R).length).length : Nat)
      rw [glLab_len]; omega
    · rw [hlab i z hz, List.getD_eq_getElem?_getD, hla]; rfl
  · have hwx := ho.within x y hm
    obtain ⟨u, hu⟩ : ∃ u, (placesL R)[x]? = some u := ⟨_, List.getElem?_eq_getElem (by omega)⟩
    obtain ⟨v, hv⟩ : ∃ v, (placesL R)[y]? = some v := ⟨_, List.getElem?_eq_getElem (by omega)⟩
    have hu0 := hok.lt hu
    have hv0 := hok.lt hv
    refine ⟨u.toNat, v.toNat, by rw [hu]; congr 1; omega, by rw [hv]; congr 1; omega, ?_⟩
    show mxOf (pairsOf (glN (placesL R)) (cloK (glMx o (placesL R)) (glN (placesL R)))) u.toNat v.toNat = true
    rw [mxOf_pairsOf (cloK_within (glMx_within ho (by rw [hpl]; exact hl) hok) _)]
    refine cloK_le ?_ _
    obtain ⟨p, hp, h1, h2⟩ := mxOf_iff.1 hm
    simp only [glMx, List.any_eq_true, Bool.and_eq_true, beq_iff_eq]
    refine ⟨p, hp, ?_, ?_⟩
    · unfold atN; rw [h1, getD_of hu]
    · unfold atN; rw [h2, getD_of hv]
end Go.Proofs

open Go Go.V
namespace Go.Proofs

structure SqS (b c : Ob) (f g : List Int) (q : Ob) (i j h : List Int) : Prop where
  t1 : thenS f i = (h, true)
  t2 : thenS g j = (h, true)
  a1 : arrS b q i = true
  a2 : arrS c q j = true
  on : ∀ k : Nat, k < q.labels.length → (k : Int) ∈ i ++ j
theorem lab_at {a b : Ob} {f : List Int} (h : arrS a b f = true) {k : Nat} {y : Int} (hy : f[k]? = some y) : (b.labels.getD y.toNat ByteArray.empty).toList = (a.labels.getD k ByteArray.empty).toList := by
  obtain ⟨_, _, hmap, _⟩ := arrS_iff.1 h
  have hl := allY_length hmap
  have hk := (List.getElem?_eq_some_iff.1 hy).1
  obtain ⟨lb, k1, k2, k3⟩ := mapOK_iff.1 (allY_at hmap hy (List.getElem?_eq_getElem (show k < a.labels.length by omega)))
  rw [List.getD_eq_getElem?_getD, k2, List.getD_eq_getElem?_getD, List.getElem?_eq_getElem (show k < a.labels.length by omega)]
  exact k3.symm
theorem mv_get {b : Ob} {g : List Int} {k : Nat} {z : Int} (h : (gMv b g)[k]? = some z) : ∃ y, g[k]? = some y ∧ z = y + b.labels.length := by
  rw [List.getElem?_map] at h
  obtain ⟨y, hy, rfl⟩ := Option.map_eq_some_iff.1 h
  exact ⟨y, hy, rfl⟩
theorem push_rep {a b c : Ob} {f g : List Int} (hf : arrS a b f = true) (hg : arrS a c g = true) :
    (∀ y ∈ f, 0 ≤ y ∧ y < ((b.labels.length + c.labels.length : Nat) : Int)) ∧ (∀ y ∈ gMv b g, 0 ≤ y ∧ y < ((b.labels.length + c.labels.length : Nat) : Int)) ∧ f.length = (gMv b g).length := by
  obtain ⟨_, _, m1, _⟩ := arrS_iff.1 hf
  obtain ⟨_, _, m2, _⟩ := arrS_iff.1 hg
  have l1 := allY_length m1
  have l2 := allY_length m2
  refine ⟨fun y hy => ?_, fun y hy => ?_, by simp [gMv]; omega⟩
  · have := map_all m1 y hy; omega
  · obtain ⟨z, hz, rfl⟩ := List.mem_map.1 hy
    have := map_all m2 z hz; omega
theorem push_lab {a b c : Ob} {f g : List Int} (hf : arrS a b f = true) (hg : arrS a c g = true) (k : Nat) (y z : Int) (hy : f[k]? = some y) (hz : (gMv b g)[k]? = some z) :
    ((besideS b c).labels.getD y.toNat ByteArray.empty).toList = ((besideS b c).labels.getD z.toNat ByteArray.empty).toList := by
  obtain ⟨w, hw, rfl⟩ := mv_get hz
  have h1 := lab_at hf hy
  have h2 := lab_at hg hw
  have b1 := map_all (arrS_iff.1 hf).2.2.1 y (List.mem_of_getElem? hy)
  have b2 := map_all (arrS_iff.1 hg).2.2.1 w (List.mem_of_getElem? hw)
  have e1 : (besideS b c).labels.getD y.toNat ByteArray.empty = b.labels.getD y.toNat ByteArray.empty := by
    simp only [besideS, List.getD_eq_getElem?_getD]; rw [List.getElem?_append_left (by omega)]
  have e2 : (besideS b c).labels.getD (w + b.labels.length).toNat ByteArray.empty = c.labels.getD w.toNat ByteArray.empty := by
    simp only [besideS, List.getD_eq_getElem?_getD]; rw [List.getElem?_append_right (by omega)]; congr 2; omega
  rw [e1, e2, h1, h2]
theorem sq_of {a b c : Ob} {f g : List Int} (hf : arrS a b f = true) (hg : arrS a c g = true) (hl : b.labels.length + c.labels.length ≤ 40) :
    ∃ h, SqS b c f g (gluedS (besideS b c) (puPl b c f g)) ((puPl b c f g).take b.labels.length) ((puPl b c f g).drop b.labels.length) h := by
  have ha := (arrS_iff.1 hf).1
  have hb := (arrS_iff.1 hf).2.1
  have hc := (arrS_iff.1 hg).2.1
  have ho := beside_ob hb hc hl
  have hol : (besideS b c).labels.length = b.labels.length + c.labels.length := by simp [besideS]
  obtain ⟨r1, r2, r3⟩ := push_rep hf hg
  obtain ⟨hok, hRl⟩ := joins_ok _ f (gMv b g) r1 r2 f.length (Nat.le_refl _) (by omega)
  have hinv := joins_inv _ f (gMv b g) r1 r2 (fun j => ((besideS b c).labels.getD j ByteArray.empty).toList) f.length (Nat.le_refl _) (by omega) (fun i y z _ hy hz => push_lab hf hg i y z hy hz)
  have heq := joins_eq _ f (gMv b g) r1 r2 f.length (Nat.le_refl _) (by omega)
  have harr := glued_arr ho hok (by rw [hRl, hol]) hinv
  have hLl := placesL_len (joinsL (rangeI (b.labels.length + c.labels.length)) f (gMv b g) f.length)
  change arrS (besideS b c) (gluedS (besideS b c) (puPl b c f g)) (puPl b c f g) = true at harr
  change (puPl b c f g).length = _ at hLl
  rw [hRl] at hLl
  have hi : arrS b (gluedS (besideS b c) (puPl b c f g)) ((puPl b c f g).take b.labels.length) = true := by
    have h1 := then_arr (arr_left (id_arr hb) hc hl) harr
    have h2 : ((idS (b.labels.length : Int)).map fun y => (puPl b c f g).getD y.toNat 0) = (puPl b c f g).take b.labels.length := by
      apply List.ext_getElem?
      intro k
      rw [List.getElem?_map]
      by_cases hk : k < b.labels.length
      · rw [idS_get hb.le hk, List.getElem?_take, if_pos hk, List.getElem?_eq_getElem (show k < (puPl b c f g).length by omega)]
        simp [List.getD_eq_getElem?_getD, List.getElem?_eq_getElem (show k < (puPl b c f g).length by omega)]
      · rw [List.getElem?_eq_none (by rw [idS_len hb.le]; omega), List.getElem?_take, if_neg hk]; rfl
    rwa [h2] at h1
  have hj : arrS c (gluedS (besideS b c) (puPl b c f g)) ((puPl b c f g).drop b.labels.length) = true := by
    have h1 := then_arr (arr_right hb (id_arr hc) hl) harr
    have h2 : (((idS (c.labels.length : Int)).map (· + (b.labels.length : Int))).map fun y => (puPl b c f g).getD y.toNat 0) = (puPl b c f g).drop b.labels.length := by
      apply List.ext_getElem?
      intro k
      rw [List.getElem?_map, List.getElem?_map]
      by_cases hk : k < c.labels.length
      · rw [idS_get hc.le hk, List.getElem?_drop, List.getElem?_eq_getElem (show b.labels.length + k < (puPl b c f g).length by omega)]
        have : ((k : Int) + (b.labels.length : Int)).toNat = b.labels.length + k := by omega
        simp only [Option.map_some, this, List.getD_eq_getElem?_getD, List.getElem?_eq_getElem (show b.labels.length + k < (puPl b c f g).length by omega), Option.getD_some]
      · rw [List.getElem?_eq_none (by rw [idS_len hc.le]; omega), List.getElem?_drop, List.getElem?_eq_none (by omega)]; rfl
    rwa [h2] at h1
  have hil := allY_length (arrS_iff.1 hi).2.2.1
  have hjl := allY_length (arrS_iff.1 hj).2.2.1
  refine ⟨f.map fun y => ((puPl b c f g).take b.labels.length).getD y.toNat 0, ⟨thenS_ok fun y hy => ?_, ?_, hi, hj, fun k hk => ?_⟩⟩
  · have := map_all (arrS_iff.1 hf).2.2.1 y hy; omega
  · rw [thenS_ok fun y hy => by have := map_all (arrS_iff.1 hg).2.2.1 y hy; omega]
    congr 1
    have hgl : g.length = f.length := by rw [r3]; simp [gMv]
    apply List.ext_getElem?
    intro k
    rw [List.getElem?_map, List.getElem?_map]
    by_cases hk : k < f.length
    · obtain ⟨y, hy⟩ : ∃ y, f[k]? = some y := ⟨_, List.getElem?_eq_getElem hk⟩
      obtain ⟨w, hw⟩ : ∃ w, g[k]? = some w := ⟨_, List.getElem?_eq_getElem (by omega)⟩
      have hz : (gMv b g)[k]? = some (w + b.labels.length) := by rw [List.getElem?_map, hw]; rfl
      have b1 := map_all (arrS_iff.1 hf).2.2.1 y (List.mem_of_getElem? hy)
      have b2 := map_all (arrS_iff.1 hg).2.2.1 w (List.mem_of_getElem? hw)
      have e0 := heq k y _ hk hy hz
      obtain ⟨r, hr⟩ : ∃ r, (joinsL (rangeI (b.labels.length + c.labels.length)) f (gMv b g) f.length)[y.toNat]? = some r := ⟨_, List.getElem?_eq_getElem (by omega)⟩
      have e1 := pl_rep hok hr
      have e2 := pl_rep hok (e0 ▸ hr)
      rw [hy, hw]
      simp only [Option.map_some, Option.some.injEq, List.getD_eq_getElem?_getD]
      rw [List.getElem?_drop, List.getElem?_take, if_pos (by omega), show b.labels.length + w.toNat = (w + (b.labels.length : Int)).toNat by omega]
      show ((puPl b c f g)[_]?).getD 0 = ((puPl b c f g)[_]?).getD 0
      exact congrArg (fun o => Option.getD o 0) (e2.trans e1.symm)
    · rw [List.getElem?_eq_none (by omega), List.getElem?_eq_none (by omega)]; rfl
  · have hk' : k < glN (puPl b c f g) := by rw [← glLab_len (besideS b c)]; exact hk
    obtain ⟨x, hx, hxv⟩ := pl_onto _ hk'
    rw [List.take_append_drop]
    rw [List.getD_eq_getElem?_getD, List.getElem?_eq_getElem hx] at hxv
    rw [show (k : Int) = (puPl b c f g)[x] from hxv.symm]
    exact List.getElem_mem _
theorem push_cases (a b c : Ob) (f g : List Int) : (∃ e : Int, e ≠ 0 ∧ pushR a b c f g = (⟨[], []⟩, [], [], e)) ∨ ∃ q i j h, pushR a b c f g = (q, i, j, 0) ∧ SqS b c f g q i j h ∧ arrS a b f = true ∧ arrS a c g = true := by
  unfold pushR
  split
  · exact .inl ⟨11, by decide, rfl⟩
  · rename_i hlg
    split
    · rename_i har
      simp only [not_or] at hlg
      rw [largeS_two] at hlg
      have h2 := hlg.2.2
      simp only [decide_eq_true_eq] at h2
      obtain ⟨h, hS⟩ := sq_of har.1 har.2 (by omega)
      exact .inr ⟨_, _, _, h, rfl, hS, har.1, har.2⟩
    · exact .inl ⟨10, by decide, rfl⟩
end Go.Proofs

open Go Go.V
namespace Go.Proofs
/-- the one way out: the map, 0, 10, 11, 12 -/
def medS (a b c : Ob) (f g : List Int) (d : Ob) (h k : List Int) : List Int × Int :=
  if (pushR a b c f g).2.2.2 ≠ 0 then ([], (pushR a b c f g).2.2.2) else if 40 < d.labels.length then ([], 11) else if coS a b c f g d h k = false then ([], 12)
  else (outS (pushR a b c f g).1.labels.length [(pushR a b c f g).2.1, (pushR a b c f g).2.2.1] [h, k], 0)
def vMed (r : List Int × Int) : V := .tup [.t (tInts r.1), I r.2]
theorem vsum_mk' (q : Ob) (i j : List Int) (e : Int) : vSum (q, i, j, e) = .tup [vObj q, .t (tInts i), .t (tInts j), I e] := rfl
theorem out_two (n : Nat) (hn : n ≤ 1000) (i j h k : List Int) (hi : i.length ≤ 1000) (hj : j.length ≤ 1000) (bi : ∀ y ∈ i, 0 ≤ y ∧ y < (n : Int)) (bj : ∀ y ∈ j, 0 ≤ y ∧ y < (n : Int)) :
    PCall Tryd.prog 81 [I n, .t (.sl 1 [tInts i, tInts j]), .t (.sl 1 [tInts h, tInts k])] (.t (tInts (outS n [i, j] [h, k]))) :=
  out_ n hn [i, j] [h, k] (by simp) (by simp) (fun l hl => by simp at hl; rcases hl with rfl | rfl <;> assumption) (fun l hl => by simp at hl; rcases hl with rfl | rfl <;> assumption)

set_option maxRecDepth 20000 in
set_option maxHeartbeats 8000000 in
theorem mediate_ (a b c : Ob) (f g : List Int) (d : Ob) (h k : List Int) (ha1 : a.labels.length ≤ 50) (ha2 : a.pairs.length ≤ 10000) (hb1 : b.labels.length ≤ 50) (hb2 : b.pairs.length ≤ 1000) (hc1 : c.labels.length ≤ 50) (hc2 : c.pairs.length ≤ 1000) (hd1 : d.labels.length ≤ 100) (hd2 : d.pairs.length ≤ 100000) (hf : f.length ≤ 1000) (hg : g.length ≤ 1000) (hh : h.length ≤ 1000) (hk : k.length ≤ 1000) : PCall Tryd.prog 41 [vObj a, vObj b, vObj c, .t (tInts f), .t (tInts g), vObj d, .t (tInts h), .t (tInts k)] (vMed (medS a b c f g d h k)) := by
  refine pcall_of_body Tryd.func41 rfl fun s Q hQ => ?_
  obtain ⟨e, he, hl, h0, h1, h2, h3, h4, h5, h6, h7⟩ : ∃ e : Env, ([vObj a, vObj b, vObj c, .t (tInts f), .t (tInts g), vObj d, .t (tInts h), .t (tInts k)] ++ List.replicate (Tryd.f41.ntmps - ([vObj a, vObj b, vObj c, .t (tInts f), .t (tInts g), vObj d, .t (tInts h), .t (tInts k)] : List V).length) .junk) = e ∧ e.length = 63 ∧ ev e (.tmp 0) = vObj a ∧ ev e (.tmp 1) = vObj b ∧ ev e (.tmp 2) = vObj c ∧ ev e (.tmp 3) = .t (tInts f) ∧ ev e (.tmp 4) = .t (tInts g) ∧ ev e (.tmp 5) = vObj d ∧ ev e (.tmp 6) = .t (tInts h) ∧ ev e (.tmp 7) = .t (tInts k) := ⟨_, rfl, rfl, rfl, rfl, rfl, rfl, rfl, rfl, rfl, rfl⟩
  rw [he]
  clear he
  refine vw_seq_k fun K1 hK1 => ?_
  refine vw_sc 0 [] ?_
  simp only [bs, ↓vopx, ↓vop, Nat.reduceBEq, thenV, flat, V.cells, h0, h1, h2, h5, wocs, ↓goc, ↓woc, ↓vopm0]
  refine hK1 _ _ ?_
  refine vw_seq_k fun K2 hK2 => ?_
  refine vw_en fun eqa hE => ?_
  have hlqa : eqa.length = 63 := by rw [hE]; simp only [length_putv, hl]
  have qa_3 : ev eqa (.tmp 3) = .t (tInts f) := by rw [hE]; simp only [ev_miss, Nat.reduceBEq, h3]
  have qa_4 : ev eqa (.tmp 4) = .t (tInts g) := by rw [hE]; simp only [ev_miss, Nat.reduceBEq, h4]
  have qa_6 : ev eqa (.tmp 6) = .t (tInts h) := by rw [hE]; simp only [ev_miss, Nat.reduceBEq, h6]
  have qa_7 : ev eqa (.tmp 7) = .t (tInts k) := by rw [hE]; simp only [ev_miss, Nat.reduceBEq, h7]
  have qa_8 : ev eqa (.tmp 8) = .ptr (s.next) 0 := by rw [hE]; simp only [ev_hit, ev_miss, Nat.reduceBEq, hl, Nat.reduceLT]
  have qa_9 : ev eqa (.tmp 9) = .ptr (s.next + 1) 0 := by rw [hE]; simp only [ev_hit, ev_miss, Nat.reduceBEq, length_putv, hl, Nat.reduceLT]
  have qa_10 : ev eqa (.tmp 10) = .ptr (s.next + 1 + 1) 0 := by rw [hE]; simp only [ev_hit, ev_miss, Nat.reduceBEq, length_putv, hl, Nat.reduceLT]
  have qa_13 : ev eqa (.tmp 13) = .ptr (s.next + 1 + 1 + 1) 0 := by rw [hE]; simp only [ev_hit, ev_miss, Nat.reduceBEq, length_putv, hl, Nat.reduceLT]
  clear hE
  refine vw_st fun sqa hS => ?_
  have qaB0 : sqa.m (s.next) = some (.box 25 [.t (tStrs a.labels), .t (tPairs a.pairs)]) := by rw [hS]; simp only [m_add, n_add, nns, if_true, if_false, ]
  have qaB1 : sqa.m (s.next + 1) = some (.box 25 [.t (tStrs b.labels), .t (tPairs b.pairs)]) := by rw [hS]; simp only [m_add, n_add, nns, if_true, if_false, ]
  have qaB2 : sqa.m (s.next + 1 + 1) = some (.box 25 [.t (tStrs c.labels), .t (tPairs c.pairs)]) := by rw [hS]; simp only [m_add, n_add, nns, if_true, if_false, ]
  have qaB3 : sqa.m (s.next + 1 + 1 + 1) = some (.box 25 [.t (tStrs d.labels), .t (tPairs d.pairs)]) := by rw [hS]; simp only [m_add, n_add, nns, if_true, if_false, ]
  have hnqa : sqa.next = s.next + 1 + 1 + 1 + 1 := by rw [hS]; simp only [n_add, ]
  have hkqa : ∀ j, j < s.next → sqa.m j = s.m j := fun j hj => by have z0 : ¬ j = s.next := (by omega); have z1 : ¬ j = s.next + 1 := (by omega); have z2 : ¬ j = s.next + 1 + 1 := (by omega); have z3 : ¬ j = s.next + 1 + 1 + 1 := (by omega); rw [hS]; simp only [m_add, n_add, z0, z1, z2, z3, if_false]
  clear hS
  obtain ⟨u1, u2, u3, u4⟩ := pushR_lim a b c f g (by omega)
  obtain ⟨q, ii, jj, ec, hR⟩ : ∃ q ii jj ec, pushR a b c f g = (q, ii, jj, ec) := ⟨_, _, _, _, rfl⟩
  have hcs := push_cases a b c f g
  have hm0 : medS a b c f g d h k = if ec ≠ 0 then ([], ec) else if 40 < d.labels.length then ([], 11) else if coS a b c f g d h k = false then ([], 12) else (outS q.labels.length [ii, jj] [h, k], 0) := by unfold medS; rw [hR]
  rw [hR] at hcs u1 u2 u3 u4
  simp only at u1 u2 u3 u4
  refine vw_sc 0 [.pur (.tup [vObj q, .t (tInts ii), .t (tInts jj), I ec])] ?_
  simp only [bs, Nat.reduceAdd, ↓vopx, ↓vop, Nat.reduceBEq, thenV, Nat.reduceLT, V.cells, dLoad, vpart, hlqa, qa_3, qa_4, qa_8, qa_9, qa_10, qaB0, qaB1, qaB2, hnqa, wocs, ↓goc, ↓woc, ↓vopm0, ↓callC, calleeV, Tryd.ag25, Tryd.sz25, Tryd.zv25]
  repeat ((with_reducible refine And.intro ?_ ?_); · exact ⟨Tryd.is22, by have := push_ a b c f g (by omega) (by omega) (by omega) (by omega) (by omega) (by omega) (by omega) (by omega); rw [pushS_eq, hR, vsum_mk'] at this; exact this⟩)
  refine hK2 _ _ ?_
  refine vw_seq_k fun K3 hK3 => ?_
  refine vw_block ?_
  refine vw_seq_k fun K4 hK4 => ?_
  refine vw_en fun eqb hE => ?_
  have hlqb : eqb.length = 63 := by rw [hE]; simp only [length_putv, hlqa]
  have qb_3 : ev eqb (.tmp 3) = .t (tInts f) := by rw [hE]; simp only [ev_miss, Nat.reduceBEq, qa_3]
  have qb_4 : ev eqb (.tmp 4) = .t (tInts g) := by rw [hE]; simp only [ev_miss, Nat.reduceBEq, qa_4]
  have qb_6 : ev eqb (.tmp 6) = .t (tInts h) := by rw [hE]; simp only [ev_miss, Nat.reduceBEq, qa_6]
  have qb_7 : ev eqb (.tmp 7) = .t (tInts k) := by rw [hE]; simp only [ev_miss, Nat.reduceBEq, qa_7]
  have qb_8 : ev eqb (.tmp 8) = .ptr (s.next) 0 := by rw [hE]; simp only [ev_miss, Nat.reduceBEq, qa_8]
  have qb_9 : ev eqb (.tmp 9) = .ptr (s.next + 1) 0 := by rw [hE]; simp only [ev_miss, Nat.reduceBEq, qa_9]
  have qb_10 : ev eqb (.tmp 10) = .ptr (s.next + 1 + 1) 0 := by rw [hE]; simp only [ev_miss, Nat.reduceBEq, qa_10]
  have qb_13 : ev eqb (.tmp 13) = .ptr (s.next + 1 + 1 + 1) 0 := by rw [hE]; simp only [ev_miss, Nat.reduceBEq, qa_13]
  have qb_18 : ev eqb (.tmp 18) = .ptr (s.next + 1 + 1 + 1 + 1) 0 := by rw [hE]; simp only [ev_hit, ev_miss, Nat.reduceBEq, length_putv, hlqa, Nat.reduceLT]
  have qb_19 : ev eqb (.tmp 19) = .t (tInts ii) := by rw [hE]; simp only [ev_hit, ev_miss, Nat.reduceBEq, length_putv, hlqa, Nat.reduceLT]
  have qb_20 : ev eqb (.tmp 20) = .t (tInts jj) := by rw [hE]; simp only [ev_hit, ev_miss, Nat.reduceBEq, length_putv, hlqa, Nat.reduceLT]
  have qb_21 : ev eqb (.tmp 21) = I ec := by rw [hE]; simp only [ev_hit, length_putv, hlqa, Nat.reduceLT]
  clear hE
  refine vw_st fun sqb hS => ?_
  have qbB0 : sqb.m (s.next) = some (.box 25 [.t (tStrs a.labels), .t (tPairs a.pairs)]) := by rw [hS]; simp only [m_set, m_add, nns, if_false, qaB0, hnqa]
  have qbB1 : sqb.m (s.next + 1) = some (.box 25 [.t (tStrs b.labels), .t (tPairs b.pairs)]) := by rw [hS]; simp only [m_set, m_add, nns, if_false, qaB1, hnqa]
  have qbB2 : sqb.m (s.next + 1 + 1) = some (.box 25 [.t (tStrs c.labels), .t (tPairs c.pairs)]) := by rw [hS]; simp only [m_set, m_add, nns, if_false, qaB2, hnqa]
  have qbB3 : sqb.m (s.next + 1 + 1 + 1) = some (.box 25 [.t (tStrs d.labels), .t (tPairs d.pairs)]) := by rw [hS]; simp only [m_set, m_add, nns, if_false, qaB3, hnqa]
  have qbB4 : sqb.m (s.next + 1 + 1 + 1 + 1) = some (.box 25 [.t (tStrs q.labels), .t (tPairs q.pairs)]) := by rw [hS]; simp only [m_set, m_add, if_true, hnqa]
  have hnqb : sqb.next = s.next + 1 + 1 + 1 + 1 + 1 := by rw [hS]; simp only [n_add, n_set, hnqa]
  have hkqb : ∀ j, j < s.next → sqb.m j = s.m j := fun j hj => by have z0 : ¬ j = s.next := (by omega); have z1 : ¬ j = s.next + 1 := (by omega); have z2 : ¬ j = s.next + 1 + 1 := (by omega); have z3 : ¬ j = s.next + 1 + 1 + 1 := (by omega); have z4 : ¬ j = s.next + 1 + 1 + 1 + 1 := (by omega); rw [hS]; simp only [m_set, m_add, hnqa, z4, if_false, hkqa j hj]
  clear hS
  rcases hcs with ⟨e, he0, hcs⟩ | ⟨q0, i0, j0, hh9, hcs, hS, hrf, hrg⟩
  · obtain ⟨rfl, rfl, rfl, rfl⟩ : q = ⟨[], []⟩ ∧ ii = [] ∧ jj = [] ∧ ec = e := by simpa only [Prod.mk.injEq] using hcs
    refine vw_sc 0 [] ?_
    simp only [bs, ↓vopx, ↓vop, thenV, flat, Nat.reduceLT, opII, hlqb, qb_21, wocs, ↓goc, ↓woc, ↓vopm0]
    refine hK4 _ _ ?_
    refine vw_cond_k fun A B hA hB => ?_
    simp only [condV, ev_hit, length_putv, Nat.reduceLT, bne_iff_ne, bne_eq_false_iff_eq, ne_eq, true_implies, false_implies, and_true, hlqb, he0, not_false_eq_true]
    refine hA ?_
    clear hA hB A B
    refine vw_seq_k fun K5 hK5 => ?_
    refine vw_sc 0 [] ?_
    simp only [bs, ↓vopx, ↓vop, Nat.reduceBEq, thenV, flat, Nat.reduceLT, hlqb, qb_21, wocs, ↓goc, ↓woc, ↓vopm0]
    refine hK5 _ _ ?_
    refine vw_ret ?_
    rw [show medS a b c f g d h k = ([], ec) from by rw [hm0, if_pos he0]] at hQ
    refine hQ _ _ _ (.inr rfl) (done_nil_pair (by omega) ?_ ?_ fun n b hn h => (hkqb n hn).trans h)
    · simp only [ev_hit, ev_miss, Nat.reduceBEq, length_putv, hlqb, Nat.reduceLT]
    · simp only [ev_hit, length_putv, hlqb, Nat.reduceLT]; try rfl
  · obtain ⟨rfl, rfl, rfl, rfl⟩ : q = q0 ∧ ii = i0 ∧ jj = j0 ∧ ec = 0 := by simpa only [Prod.mk.injEq] using hcs
    refine vw_sc 0 [] ?_
    simp only [bs, ↓vopx, ↓vop, thenV, flat, Nat.reduceLT, opII, hlqb, qb_21, wocs, ↓goc, ↓woc, ↓vopm0]
    refine hK4 _ _ ?_
    refine vw_cond_k fun A B hA hB => ?_
    simp only [condV, ev_hit, length_putv, Nat.reduceLT, bne_iff_ne, bne_eq_false_iff_eq, ne_eq, true_implies, false_implies, true_and, hlqb, not_true_eq_false]
    refine hB ?_
    clear hA hB A B
    refine vw_seq_k fun K6 hK6 => ?_
    rcases (show (d.labels.length : Int) > 40 ∨ ¬ (d.labels.length : Int) > 40 by omega) with hd0 | hd0
    · refine vw_sc 0 [] ?_
      simp only [bs, ↓vopx, ↓vop, Nat.reduceBEq, thenV, flat, Nat.reduceLT, dLoad, vpart, opII, hlqb, qb_13, qbB3, wocs, ↓goc, ↓woc, ↓vopm0, Tryd.ag22, Tryd.fd25_0, Tryd.sz22, Tryd.un22, nns, len_tStrs, hd0]
      refine hK6 _ _ ?_
      refine vw_cond_k fun A B hA hB => ?_
      simp only [condV, ev_hit, length_putv, Nat.reduceLT, true_implies, reduceCtorEq, false_implies, and_true, hlqb]
      refine hA ?_
      clear hA hB A B
      refine vw_seq_k fun K7 hK7 => ?_
      refine vw_sc 0 [] ?_
      simp only [bs, ↓vopx, ↓vop, thenV, flat, wocs, ↓goc, ↓woc, ↓vopm0]
      refine hK7 _ _ ?_
      refine vw_ret ?_
      rw [show medS a b c f g d h k = ([], 11) from by rw [hm0, if_neg (by simp), if_pos (by omega)]] at hQ
      refine hQ _ _ _ (.inr rfl) (done_nil_pair (by omega) ?_ ?_ fun n b hn h => (hkqb n hn).trans h)
      · simp only [ev_hit, ev_miss, Nat.reduceBEq, length_putv, hlqb, Nat.reduceLT]
      · simp only [ev_hit, length_putv, hlqb, Nat.reduceLT]; try rfl
    · refine vw_sc 0 [] ?_
      simp only [bs, ↓vopx, ↓vop, Nat.reduceBEq, thenV, flat, Nat.reduceLT, dLoad, vpart, opII, hlqb, qb_13, qbB3, wocs, ↓goc, ↓woc, ↓vopm0, Tryd.ag22, Tryd.fd25_0, Tryd.sz22, Tryd.un22, nns, len_tStrs, hd0]
      refine hK6 _ _ ?_
      refine vw_cond_k fun A B hA hB => ?_
      simp only [condV, ev_hit, length_putv, Nat.reduceLT, true_implies, reduceCtorEq, false_implies, true_and, hlqb]
      refine hB ?_
      clear hA hB A B
      refine vw_seq_k fun K8 hK8 => ?_
      rcases (show coS a b c f g d h k = false ∨ coS a b c f g d h k = true by cases coS a b c f g d h k <;> simp) with hc0 | hc0
      · refine vw_sc 0 [.pur (Bo (coS a b c f g d h k))] ?_
        simp only [bs, Nat.reduceAdd, ↓vopx, ↓vop, Nat.reduceBEq, thenV, Nat.reduceLT, dLoad, vpart, hlqb, qb_3, qb_4, qb_6, qb_7, qb_8, qb_9, qb_10, qb_13, qbB0, qbB1, qbB2, qbB3, wocs, ↓goc, ↓woc, ↓vopm0, ↓callC, calleeV, Tryd.ag25, Tryd.sz25, hc0]
        repeat ((with_reducible refine And.intro ?_ ?_); · exact ⟨Tryd.is43, by simpa only [hc0] using cocone_ a b c f g d h k (by omega) (by omega) (by omega) (by omega) (by omega) (by omega) (by omega) (by omega) (by omega) (by omega) (by omega) (by omega)⟩)
        refine hK8 _ _ ?_
        refine vw_cond_k fun A B hA hB => ?_
        simp only [condV, ev_hit, length_putv, Nat.reduceLT, true_implies, reduceCtorEq, false_implies, and_true, hlqb]
        refine hA ?_
        clear hA hB A B
        refine vw_seq_k fun K9 hK9 => ?_
        refine vw_sc 0 [] ?_
        simp only [bs, ↓vopx, ↓vop, thenV, flat, wocs, ↓goc, ↓woc, ↓vopm0]
        refine hK9 _ _ ?_
        refine vw_ret ?_
        rw [show medS a b c f g d h k = ([], 12) from by rw [hm0, if_neg (by simp), if_neg (by omega), if_pos hc0]] at hQ
        refine hQ _ _ _ (.inr rfl) (done_nil_pair (by omega) ?_ ?_ fun n b hn h => (hkqb n hn).trans h)
        · simp only [ev_hit, ev_miss, Nat.reduceBEq, length_putv, hlqb, Nat.reduceLT]
        · simp only [ev_hit, length_putv, hlqb, Nat.reduceLT]; try rfl
      · refine vw_sc 0 [.pur (Bo (coS a b c f g d h k))] ?_
        simp only [bs, Nat.reduceAdd, ↓vopx, ↓vop, Nat.reduceBEq, thenV, Nat.reduceLT, dLoad, vpart, hlqb, qb_3, qb_4, qb_6, qb_7, qb_8, qb_9, qb_10, qb_13, qbB0, qbB1, qbB2, qbB3, wocs, ↓goc, ↓woc, ↓vopm0, ↓callC, calleeV, Tryd.ag25, Tryd.sz25, hc0]
        repeat ((with_reducible refine And.intro ?_ ?_); · exact ⟨Tryd.is43, by simpa only [hc0] using cocone_ a b c f g d h k (by omega) (by omega) (by omega) (by omega) (by omega) (by omega) (by omega) (by omega) (by omega) (by omega) (by omega) (by omega)⟩)
        refine hK8 _ _ ?_
        refine vw_cond_k fun A B hA hB => ?_
        simp only [condV, ev_hit, length_putv, Nat.reduceLT, true_implies, reduceCtorEq, false_implies, true_and, hlqb]
        refine hB ?_
        clear hA hB A B
        refine vw_skip ?_
        refine hK3 _ _ ?_
        refine vw_seq_k fun K10 hK10 => ?_
        refine vw_sc 1 [.pur (.t (tInts (outS q.labels.length [ii, jj] [h, k])))] ?_
        simp only [bs, Nat.reduceLeDiff, Nat.reduceAdd, vparts, gfill, repl, Sg.frzP, ↓vopx, ↓vop, Nat.reduceBEq, thenV, flat, Nat.reduceLT, V.cells, dLoad, vpart, Sg.frzL, Sg.frz1, hlqb, qb_6, qb_7, qb_18, qb_19, qb_20, qbB4, hnqb, wocs, ↓goc, ↓woc, ↓vopm1, ↓callC, calleeV, Tryd.ag22, Tryd.fd25_0, Tryd.sl63, Tryd.sz22, Tryd.un22, nns, len_tStrs]
        repeat ((with_reducible refine And.intro ?_ ?_); · exact ⟨Tryd.is81, out_two q.labels.length (by omega) ii jj h k (by omega) (by omega) (map_all (arrS_iff.1 hS.a1).2.2.1) (map_all (arrS_iff.1 hS.a2).2.2.1)⟩)
        refine hK10 _ _ ?_
        refine vw_ret ?_
        rw [show medS a b c f g d h k = (outS q.labels.length [ii, jj] [h, k], 0) from by rw [hm0, if_neg (by simp), if_neg (by omega), if_neg (by rw [hc0]; simp)]] at hQ
        refine hQ _ _ _ (.inr rfl) (done_pair ?_ ?_ fun n b hn h => (hkqb n hn).trans h)
        · simp only [ev_hit, ev_miss, Nat.reduceBEq, length_putv, hlqb, Nat.reduceLT]
        · simp only [ev_hit, length_putv, hlqb, Nat.reduceLT]; try rfl

end Go.Proofs

open Go Go.V
namespace Go.V
theorem done_nil_tri {P : Program} {s s' : Sg} {e' : Env} {t u x k l : Nat} {b : T} (hk : 0 < k) (hl : 0 < l) (hv : ev e' (.tmp t) = .t (.v (.slice none 0 0))) (hu : ev e' (.tmp u) = .t (.v (.slice none 0 0))) (hx : ev e' (.tmp x) = .t b) (hs : ∀ n b, n < s.next → s.m n = some b → s'.m n = some b) : Done P s [.tmp t, .tmp u, .tmp x] (.tup [.t (.sl k []), .t (.sl l []), .t b]) e' s' :=
  ⟨[.t (.v (.slice none 0 0)), .t (.v (.slice none 0 0)), .t b], by simp [vres, vres1, hv, hu, hx], rfl, .tup [.t (.sl k []), .t (.sl l []), .t b], s', s,
    ⟨rfl, fun n b hb => ⟨b, hb, by cases b <;> simp [BWk]; exact all2_refl (fun _ => .inl rfl) _⟩, .inr (.inr (.inr ⟨_, _, rfl, rfl, .inl (.inr (.inr ⟨k, hk, rfl, rfl⟩)), .inl (.inr (.inr ⟨l, hl, rfl, rfl⟩)), .inl (.inl rfl), trivial⟩)), trivial⟩,
    by simp [nm, nm2, nm1, nm0], ⟨rfl, fun n b h => .inr h, fun n b hl h => ⟨hs n b hl h, .inl h⟩⟩, rfl, rfl⟩
end Go.V
namespace Go.Proofs
def swS (a b c : Ob) (f g : List Int) : List Int × List Int × Int :=
  if (pushR a b c f g).2.2.2 ≠ 0 then ([], [], (pushR a b c f g).2.2.2) else if (pushR a c b g f).2.2.2 ≠ 0 then ([], [], (pushR a c b g f).2.2.2)
  else (outS (pushR a b c f g).1.labels.length [(pushR a b c f g).2.1, (pushR a b c f g).2.2.1] [(pushR a c b g f).2.2.1, (pushR a c b g f).2.1], outS (pushR a c b g f).1.labels.length [(pushR a c b g f).2.2.1, (pushR a c b g f).2.1] [(pushR a b c f g).2.1, (pushR a b c f g).2.2.1], 0)
def vSw (r : List Int × List Int × Int) : V := .tup [.t (tInts r.1), .t (tInts r.2.1), I r.2.2]

set_option maxRecDepth 20000 in
set_option maxHeartbeats 8000000 in
theorem swap_ (a b c : Ob) (f g : List Int) (ha1 : a.labels.length ≤ 50) (ha2 : a.pairs.length ≤ 10000) (hb1 : b.labels.length ≤ 50) (hb2 : b.pairs.length ≤ 1000) (hc1 : c.labels.length ≤ 50) (hc2 : c.pairs.length ≤ 1000) (hf : f.length ≤ 1000) (hg : g.length ≤ 1000) : PCall Tryd.prog 55 [vObj a, vObj b, vObj c, .t (tInts f), .t (tInts g)] (vSw (swS a b c f g)) := by
  refine pcall_of_body Tryd.func55 rfl fun s Q hQ => ?_
  obtain ⟨e, he, hl, h0, h1, h2, h3, h4⟩ : ∃ e : Env, ([vObj a, vObj b, vObj c, .t (tInts f), .t (tInts g)] ++ List.replicate (Tryd.f55.ntmps - ([vObj a, vObj b, vObj c, .t (tInts f), .t (tInts g)] : List V).length) .junk) = e ∧ e.length = 68 ∧ ev e (.tmp 0) = vObj a ∧ ev e (.tmp 1) = vObj b ∧ ev e (.tmp 2) = vObj c ∧ ev e (.tmp 3) = .t (tInts f) ∧ ev e (.tmp 4) = .t (tInts g) := ⟨_, rfl, rfl, rfl, rfl, rfl, rfl, rfl⟩
  rw [he]
  clear he
  refine vw_seq_k fun K1 hK1 => ?_
  refine vw_sc 0 [] ?_
  simp only [bs, ↓vopx, ↓vop, Nat.reduceBEq, thenV, flat, V.cells, h0, h1, h2, wocs, ↓goc, ↓woc, ↓vopm0]
  refine hK1 _ _ ?_
  refine vw_seq_k fun K2 hK2 => ?_
  refine vw_en fun eqa hE => ?_
  have hlqa : eqa.length = 68 := by rw [hE]; simp only [length_putv, hl]
  have qa_3 : ev eqa (.tmp 3) = .t (tInts f) := by rw [hE]; simp only [ev_miss, Nat.reduceBEq, h3]
  have qa_4 : ev eqa (.tmp 4) = .t (tInts g) := by rw [hE]; simp only [ev_miss, Nat.reduceBEq, h4]
  have qa_5 : ev eqa (.tmp 5) = .ptr (s.next) 0 := by rw [hE]; simp only [ev_hit, ev_miss, Nat.reduceBEq, hl, Nat.reduceLT]
  have qa_6 : ev eqa (.tmp 6) = .ptr (s.next + 1) 0 := by rw [hE]; simp only [ev_hit, ev_miss, Nat.reduceBEq, length_putv, hl, Nat.reduceLT]
  have qa_7 : ev eqa (.tmp 7) = .ptr (s.next + 1 + 1) 0 := by rw [hE]; simp only [ev_hit, ev_miss, Nat.reduceBEq, length_putv, hl, Nat.reduceLT]
  clear hE
  refine vw_st fun sqa hS => ?_
  have qaB0 : sqa.m (s.next) = some (.box 25 [.t (tStrs a.labels), .t (tPairs a.pairs)]) := by rw [hS]; simp only [m_add, n_add, nns, if_true, if_false, ]
  have qaB1 : sqa.m (s.next + 1) = some (.box 25 [.t (tStrs b.labels), .t (tPairs b.pairs)]) := by rw [hS]; simp only [m_add, n_add, nns, if_true, if_false, ]
  have qaB2 : sqa.m (s.next + 1 + 1) = some (.box 25 [.t (tStrs c.labels), .t (tPairs c.pairs)]) := by rw [hS]; simp only [m_add, n_add, nns, if_true, if_false, ]
  have hnqa : sqa.next = s.next + 1 + 1 + 1 := by rw [hS]; simp only [n_add, ]
  have hkqa : ∀ j, j < s.next → sqa.m j = s.m j := fun j hj => by have z0 : ¬ j = s.next := (by omega); have z1 : ¬ j = s.next + 1 := (by omega); have z2 : ¬ j = s.next + 1 + 1 := (by omega); rw [hS]; simp only [m_add, n_add, z0, z1, z2, if_false]
  clear hS
  obtain ⟨u1, u2, u3, u4⟩ := pushR_lim a b c f g (by omega)
  obtain ⟨v1, v2, v3, v4⟩ := pushR_lim a c b g f (by omega)
  obtain ⟨q, ii, jj, ec, hR⟩ : ∃ q ii jj ec, pushR a b c f g = (q, ii, jj, ec) := ⟨_, _, _, _, rfl⟩
  obtain ⟨o, yy, xx, ed, hR2⟩ : ∃ o yy xx ed, pushR a c b g f = (o, yy, xx, ed) := ⟨_, _, _, _, rfl⟩
  have hcs := push_cases a b c f g
  have hct := push_cases a c b g f
  have hm0 : swS a b c f g = if ec ≠ 0 then ([], [], ec) else if ed ≠ 0 then ([], [], ed) else ((outS q.labels.length [ii, jj] [xx, yy]), (outS o.labels.length [xx, yy] [ii, jj]), 0) := by unfold swS; rw [hR, hR2]
  rw [hR] at hcs u1 u2 u3 u4
  rw [hR2] at hct v1 v2 v3 v4
  simp only at u1 u2 u3 u4 v1 v2 v3 v4
  refine vw_sc 0 [.pur (.tup [vObj q, .t (tInts ii), .t (tInts jj), I ec])] ?_
  simp only [bs, Nat.reduceAdd, ↓vopx, ↓vop, Nat.reduceBEq, thenV, Nat.reduceLT, V.cells, dLoad, vpart, hlqa, qa_3, qa_4, qa_5, qa_6, qa_7, qaB0, qaB1, qaB2, hnqa, wocs, ↓goc, ↓woc, ↓vopm0, ↓callC, calleeV, Tryd.ag25, Tryd.sz25, Tryd.zv25]
  repeat ((with_reducible refine And.intro ?_ ?_); · exact ⟨Tryd.is22, by have := push_ a b c f g (by omega) (by omega) (by omega) (by omega) (by omega) (by omega) (by omega) (by omega); rw [pushS_eq, hR, vsum_mk'] at this; exact this⟩)
  refine hK2 _ _ ?_
  refine vw_seq_k fun K3 hK3 => ?_
  refine vw_seq_k fun K4 hK4 => ?_
  refine vw_en fun eqb hE => ?_
  have hlqb : eqb.length = 68 := by rw [hE]; simp only [length_putv, hlqa]
  have qb_3 : ev eqb (.tmp 3) = .t (tInts f) := by rw [hE]; simp only [ev_miss, Nat.reduceBEq, qa_3]
  have qb_4 : ev eqb (.tmp 4) = .t (tInts g) := by rw [hE]; simp only [ev_miss, Nat.reduceBEq, qa_4]
  have qb_5 : ev eqb (.tmp 5) = .ptr (s.next) 0 := by rw [hE]; simp only [ev_miss, Nat.reduceBEq, qa_5]
  have qb_6 : ev eqb (.tmp 6) = .ptr (s.next + 1) 0 := by rw [hE]; simp only [ev_miss, Nat.reduceBEq, qa_6]
  have qb_7 : ev eqb (.tmp 7) = .ptr (s.next + 1 + 1) 0 := by rw [hE]; simp only [ev_miss, Nat.reduceBEq, qa_7]
  have qb_13 : ev eqb (.tmp 13) = .ptr (s.next + 1 + 1 + 1) 0 := by rw [hE]; simp only [ev_hit, ev_miss, Nat.reduceBEq, length_putv, hlqa, Nat.reduceLT]
  have qb_14 : ev eqb (.tmp 14) = .t (tInts ii) := by rw [hE]; simp only [ev_hit, ev_miss, Nat.reduceBEq, length_putv, hlqa, Nat.reduceLT]
  have qb_15 : ev eqb (.tmp 15) = .t (tInts jj) := by rw [hE]; simp only [ev_hit, ev_miss, Nat.reduceBEq, length_putv, hlqa, Nat.reduceLT]
  have qb_16 : ev eqb (.tmp 16) = I ec := by rw [hE]; simp only [ev_hit, length_putv, hlqa, Nat.reduceLT]
  clear hE
  refine vw_st fun sqb hS => ?_
  have qbB0 : sqb.m (s.next) = some (.box 25 [.t (tStrs a.labels), .t (tPairs a.pairs)]) := by rw [hS]; simp only [m_set, m_add, nns, if_false, qaB0, hnqa]
  have qbB1 : sqb.m (s.next + 1) = some (.box 25 [.t (tStrs b.labels), .t (tPairs b.pairs)]) := by rw [hS]; simp only [m_set, m_add, nns, if_false, qaB1, hnqa]
  have qbB2 : sqb.m (s.next + 1 + 1) = some (.box 25 [.t (tStrs c.labels), .t (tPairs c.pairs)]) := by rw [hS]; simp only [m_set, m_add, nns, if_false, qaB2, hnqa]
  have qbB3 : sqb.m (s.next + 1 + 1 + 1) = some (.box 25 [.t (tStrs q.labels), .t (tPairs q.pairs)]) := by rw [hS]; simp only [m_set, m_add, if_true, hnqa]
  have hnqb : sqb.next = s.next + 1 + 1 + 1 + 1 := by rw [hS]; simp only [n_add, n_set, hnqa]
  have hkqb : ∀ j, j < s.next → sqb.m j = s.m j := fun j hj => by have z0 : ¬ j = s.next := (by omega); have z1 : ¬ j = s.next + 1 := (by omega); have z2 : ¬ j = s.next + 1 + 1 := (by omega); have z3 : ¬ j = s.next + 1 + 1 + 1 := (by omega); rw [hS]; simp only [m_set, m_add, hnqa, z3, if_false, hkqa j hj]
  clear hS
  rcases hcs with ⟨e9, he0, hcs⟩ | ⟨q0, i0, j0, hh9, hcs, hS, hrf, hrg⟩
  · obtain ⟨rfl, rfl, rfl, rfl⟩ : q = ⟨[], []⟩ ∧ ii = [] ∧ jj = [] ∧ ec = e9 := by simpa only [Prod.mk.injEq] using hcs
    refine vw_sc 0 [] ?_
    simp only [bs, ↓vopx, ↓vop, thenV, flat, Nat.reduceLT, opII, hlqb, qb_16, wocs, ↓goc, ↓woc, ↓vopm0]
    refine hK4 _ _ ?_
    refine vw_cond_k fun A B hA hB => ?_
    simp only [condV, ev_hit, length_putv, Nat.reduceLT, bne_iff_ne, bne_eq_false_iff_eq, ne_eq, true_implies, false_implies, and_true, hlqb, he0, not_false_eq_true]
    refine hA ?_
    clear hA hB A B
    refine vw_seq_k fun K5 hK5 => ?_
    refine vw_sc 0 [] ?_
    simp only [bs, ↓vopx, ↓vop, Nat.reduceBEq, thenV, flat, Nat.reduceLT, hlqb, qb_16, wocs, ↓goc, ↓woc, ↓vopm0]
    refine hK5 _ _ ?_
    refine vw_ret ?_
    rw [show swS a b c f g = ([], [], ec) from by rw [hm0, if_pos he0]] at hQ
    refine hQ _ _ _ (.inr rfl) (done_nil_tri (by omega) (by omega) ?_ ?_ ?_ fun n b hn h => (hkqb n hn).trans h)
    · simp only [ev_hit, ev_miss, Nat.reduceBEq, length_putv, hlqb, Nat.reduceLT]; try rfl
    · simp only [ev_hit, ev_miss, Nat.reduceBEq, length_putv, hlqb, Nat.reduceLT]; try rfl
    · simp only [ev_hit, length_putv, hlqb, Nat.reduceLT]; try rfl
  · obtain ⟨rfl, rfl, rfl, rfl⟩ : q = q0 ∧ ii = i0 ∧ jj = j0 ∧ ec = 0 := by simpa only [Prod.mk.injEq] using hcs
    refine vw_sc 0 [] ?_
    simp only [bs, ↓vopx, ↓vop, thenV, flat, Nat.reduceLT, opII, hlqb, qb_16, wocs, ↓goc, ↓woc, ↓vopm0]
    refine hK4 _ _ ?_
    refine vw_cond_k fun A B hA hB => ?_
    simp only [condV, ev_hit, length_putv, Nat.reduceLT, bne_iff_ne, bne_eq_false_iff_eq, ne_eq, true_implies, false_implies, true_and, hlqb, not_true_eq_false]
    refine hB ?_
    clear hA hB A B
    refine vw_skip ?_
    refine hK3 _ _ ?_
    refine vw_seq_k fun K6 hK6 => ?_
    refine vw_sc 0 [.pur (.tup [vObj o, .t (tInts yy), .t (tInts xx), I ed])] ?_
    simp only [bs, Nat.reduceAdd, ↓vopx, ↓vop, Nat.reduceBEq, thenV, Nat.reduceLT, V.cells, dLoad, vpart, hlqb, qb_3, qb_4, qb_5, qb_6, qb_7, qbB0, qbB1, qbB2, hnqb, wocs, ↓goc, ↓woc, ↓vopm0, ↓callC, calleeV, Tryd.ag25, Tryd.sz25, Tryd.zv25]
    repeat ((with_reducible refine And.intro ?_ ?_); · exact ⟨Tryd.is22, by have := push_ a c b g f (by omega) (by omega) (by omega) (by omega) (by omega) (by omega) (by omega) (by omega); rw [pushS_eq, hR2, vsum_mk'] at this; exact this⟩)
    refine hK6 _ _ ?_
    refine vw_seq_k fun K7 hK7 => ?_
    refine vw_seq_k fun K8 hK8 => ?_
    refine vw_en fun eqc hE => ?_
    have hlqc : eqc.length = 68 := by rw [hE]; simp only [length_putv, hlqb]
    have qc_13 : ev eqc (.tmp 13) = .ptr (s.next + 1 + 1 + 1) 0 := by rw [hE]; simp only [ev_miss, Nat.reduceBEq, qb_13]
    have qc_14 : ev eqc (.tmp 14) = .t (tInts ii) := by rw [hE]; simp only [ev_miss, Nat.reduceBEq, qb_14]
    have qc_15 : ev eqc (.tmp 15) = .t (tInts jj) := by rw [hE]; simp only [ev_miss, Nat.reduceBEq, qb_15]
    have qc_17 : ev eqc (.tmp 17) = .ptr (s.next + 1 + 1 + 1 + 1) 0 := by rw [hE]; simp only [ev_hit, ev_miss, Nat.reduceBEq, length_putv, hlqb, Nat.reduceLT]
    have qc_18 : ev eqc (.tmp 18) = .t (tInts yy) := by rw [hE]; simp only [ev_hit, ev_miss, Nat.reduceBEq, length_putv, hlqb, Nat.reduceLT]
    have qc_19 : ev eqc (.tmp 19) = .t (tInts xx) := by rw [hE]; simp only [ev_hit, ev_miss, Nat.reduceBEq, length_putv, hlqb, Nat.reduceLT]
    have qc_16 : ev eqc (.tmp 16) = I ed := by rw [hE]; simp only [ev_hit, length_putv, hlqb, Nat.reduceLT]
    clear hE
    refine vw_st fun sqc hS => ?_
    have qcB0 : sqc.m (s.next) = some (.box 25 [.t (tStrs a.labels), .t (tPairs a.pairs)]) := by rw [hS]; simp only [m_set, m_add, nns, if_false, qbB0, hnqb]
    have qcB1 : sqc.m (s.next + 1) = some (.box 25 [.t (tStrs b.labels), .t (tPairs b.pairs)]) := by rw [hS]; simp only [m_set, m_add, nns, if_false, qbB1, hnqb]
    have qcB2 : sqc.m (s.next + 1 + 1) = some (.box 25 [.t (tStrs c.labels), .t (tPairs c.pairs)]) := by rw [hS]; simp only [m_set, m_add, nns, if_false, qbB2, hnqb]
    have qcB3 : sqc.m (s.next + 1 + 1 + 1) = some (.box 25 [.t (tStrs q.labels), .t (tPairs q.pairs)]) := by rw [hS]; simp only [m_set, m_add, nns, if_false, qbB3, hnqb]
    have qcB4 : sqc.m (s.next + 1 + 1 + 1 + 1) = some (.box 25 [.t (tStrs o.labels), .t (tPairs o.pairs)]) := by rw [hS]; simp only [m_set, m_add, if_true, hnqb]
    have hnqc : sqc.next = s.next + 1 + 1 + 1 + 1 + 1 := by rw [hS]; simp only [n_add, n_set, hnqb]
    have hkqc : ∀ j, j < s.next → sqc.m j = s.m j := fun j hj => by have z0 : ¬ j = s.next := (by omega); have z1 : ¬ j = s.next + 1 := (by omega); have z2 : ¬ j = s.next + 1 + 1 := (by omega); have z3 : ¬ j = s.next + 1 + 1 + 1 := (by omega); have z4 : ¬ j = s.next + 1 + 1 + 1 + 1 := (by omega); rw [hS]; simp only [m_set, m_add, hnqb, z4, if_false, hkqb j hj]
    clear hS
    rcases hct with ⟨e9, he0, hct⟩ | ⟨q0, i0, j0, hh8, hct, hT, hrf2, hrg2⟩
    · obtain ⟨rfl, rfl, rfl, rfl⟩ : o = ⟨[], []⟩ ∧ yy = [] ∧ xx = [] ∧ ed = e9 := by simpa only [Prod.mk.injEq] using hct
      refine vw_sc 0 [] ?_
      simp only [bs, ↓vopx, ↓vop, thenV, flat, Nat.reduceLT, opII, hlqc, qc_16, wocs, ↓goc, ↓woc, ↓vopm0]
      refine hK8 _ _ ?_
      refine vw_cond_k fun A B hA hB => ?_
      simp only [condV, ev_hit, length_putv, Nat.reduceLT, bne_iff_ne, bne_eq_false_iff_eq, ne_eq, true_implies, false_implies, and_true, hlqc, he0, not_false_eq_true]
      refine hA ?_
      clear hA hB A B
      refine vw_seq_k fun K9 hK9 => ?_
      refine vw_sc 0 [] ?_
      simp only [bs, ↓vopx, ↓vop, Nat.reduceBEq, thenV, flat, Nat.reduceLT, hlqc, qc_16, wocs, ↓goc, ↓woc, ↓vopm0]
      refine hK9 _ _ ?_
      refine vw_ret ?_
      rw [show swS a b c f g = ([], [], ed) from by rw [hm0, if_neg (by simp), if_pos he0]] at hQ
      refine hQ _ _ _ (.inr rfl) (done_nil_tri (by omega) (by omega) ?_ ?_ ?_ fun n b hn h => (hkqc n hn).trans h)
      · simp only [ev_hit, ev_miss, Nat.reduceBEq, length_putv, hlqc, Nat.reduceLT]; try rfl
      · simp only [ev_hit, ev_miss, Nat.reduceBEq, length_putv, hlqc, Nat.reduceLT]; try rfl
      · simp only [ev_hit, length_putv, hlqc, Nat.reduceLT]; try rfl
    · obtain ⟨rfl, rfl, rfl, rfl⟩ : o = q0 ∧ yy = i0 ∧ xx = j0 ∧ ed = 0 := by simpa only [Prod.mk.injEq] using hct
      refine vw_sc 0 [] ?_
      simp only [bs, ↓vopx, ↓vop, thenV, flat, Nat.reduceLT, opII, hlqc, qc_16, wocs, ↓goc, ↓woc, ↓vopm0]
      refine hK8 _ _ ?_
      refine vw_cond_k fun A B hA hB => ?_
      simp only [condV, ev_hit, length_putv, Nat.reduceLT, bne_iff_ne, bne_eq_false_iff_eq, ne_eq, true_implies, false_implies, true_and, hlqc, not_true_eq_false]
      refine hB ?_
      clear hA hB A B
      refine vw_skip ?_
      refine hK7 _ _ ?_
      refine vw_seq_k fun K10 hK10 => ?_
      refine vw_chain Tryd.mixed 19 [0, 1, 0, 0, 0, 1, 0, 0, 1, 0, 0, 1, 0, 0, 0, 1, 0, 0, 1] [.pur (.t (tInts (outS q.labels.length [ii, jj] [xx, yy]))), .pur (.t (tInts (outS o.labels.length [xx, yy] [ii, jj])))] [] 0 (by decide +kernel) (by simp [length_putv, hlqc]) rfl ?_
      simp only [bs, Nat.reduceLeDiff, Nat.reduceAdd, vparts, gfill, repl, Sg.frzP, ↓vopx, ↓vop, Nat.reduceBEq, thenV, flat, Nat.reduceLT, V.cells, dLoad, vpart, Sg.frzL, Sg.frz1, hlqc, qc_13, qc_14, qc_15, qc_17, qc_18, qc_19, qcB3, qcB4, hnqc, wocs, ↓goc, ↓woc, ↓vopm0, ↓vopm1, ↓callC, calleeV, chn, ↓goq, ↓woq, ↓callQ, List.zip_cons_cons, List.zip_nil_right, Tryd.ag22, Tryd.fd25_0, Tryd.sl63, Tryd.sz22, Tryd.un22, nns, len_tStrs]
      repeat ((with_reducible refine And.intro ?_ ?_); · first | exact ⟨Tryd.is81, out_two q.labels.length (by omega) ii jj xx yy (by omega) (by omega) (map_all (arrS_iff.1 hS.a1).2.2.1) (map_all (arrS_iff.1 hS.a2).2.2.1)⟩ | exact ⟨Tryd.is81, out_two o.labels.length (by omega) xx yy ii jj (by omega) (by omega) (map_all (arrS_iff.1 hT.a2).2.2.1) (map_all (arrS_iff.1 hT.a1).2.2.1)⟩)
      refine hK10 _ _ ?_
      refine vw_ret ?_
      have hres : vSw (swS a b c f g) = pack [.t (tInts (outS q.labels.length [ii, jj] [xx, yy])), .t (tInts (outS o.labels.length [xx, yy] [ii, jj])), I 0] := by rw [hm0, if_neg (by simp), if_neg (by simp)]; rfl
      rw [hres] at hQ
      refine hQ _ _ _ (.inr rfl) ?_
      refine done_flat (vs := [.t (tInts (outS q.labels.length [ii, jj] [xx, yy])), .t (tInts (outS o.labels.length [xx, yy] [ii, jj])), I 0]) ?_ rfl (by simp [pack, nm, nm2, nm1, nm0]) (fun n b hn h => (hkqc n hn).trans h)
      show vres Tryd.prog _ _ [.tmp 10, .tmp 11, .tmp 12] = _
      simp only [vres_tmp, vres_nil, ev_hit, ev_miss, Nat.reduceBEq, length_putv, hlqc, Nat.reduceLT]

end Go.Proofs

open Go Go.V
namespace Go.Proofs

abbrev k7x : ByteArray := ⟨#[120]⟩
end Go.Proofs

open Go Go.V
namespace Go.Proofs
abbrev k8A : Ob := ⟨[], []⟩
abbrev k8B : Ob := ⟨[k7x], []⟩
theorem k8_m1 : medS k8A k8B k8B [] [] k8B [0] [0] = ([0, 0], 0) := by decide +kernel
theorem k8_m2 : medS k8A k8B k8B [] [] k8B [0] [1] = ([], 12) := by decide +kernel
theorem k8_s : swS k8A k8B k8B [] [] = ([1, 0], [1, 0], 0) := by decide +kernel
theorem k8_c : coS k8A k8B k8B [] [] k8B [0] [0] = true := by decide +kernel
abbrev nilT : V := .t (.v (.slice none 0 0))
theorem argN (l l2 l3 : V) (x y z _w : V) : All2 (ArgW Tryd.prog) [x, y, z, nilT, nilT, l, l2, l3] [x, y, z, .t (tInts []), .t (tInts []), l, l2, l3] :=
  ⟨ArgW.refl _, ArgW.refl _, ArgW.refl _, argW_nil (by decide), argW_nil (by decide), ArgW.refl _, ArgW.refl _, ArgW.refl _, trivial⟩
theorem argN5 (x y z : V) : All2 (ArgW Tryd.prog) [x, y, z, nilT, nilT] [x, y, z, .t (tInts []), .t (tInts [])] :=
  ⟨ArgW.refl _, ArgW.refl _, ArgW.refl _, argW_nil (by decide), argW_nil (by decide), trivial⟩
theorem kc8_m1 : PCall Tryd.prog 41 [vObj k8A, vObj k8B, vObj k8B, nilT, nilT, vObj k8B, .t (tInts [0]), .t (tInts [0])] (.tup [.t (tInts [0, 0]), I 0]) := by
  have h := mediate_ k8A k8B k8B [] [] k8B [0] [0] (by decide) (by decide) (by decide) (by decide) (by decide) (by decide) (by decide) (by decide) (by decide) (by decide) (by decide) (by decide)
  rw [k8_m1] at h
  exact h.args (argN _ _ _ _ _ _ nilT)
theorem kc8_m2 : PCall Tryd.prog 41 [vObj k8A, vObj k8B, vObj k8B, nilT, nilT, vObj k8B, .t (tInts [0]), .t (tInts [1])] (.tup [.t (tInts []), I 12]) := by
  have h := mediate_ k8A k8B k8B [] [] k8B [0] [1] (by decide) (by decide) (by decide) (by decide) (by decide) (by decide) (by decide) (by decide) (by decide) (by decide) (by decide) (by decide)
  rw [k8_m2] at h
  exact h.args (argN _ _ _ _ _ _ nilT)
theorem kc8_s : PCall Tryd.prog 55 [vObj k8A, vObj k8B, vObj k8B, nilT, nilT] (.tup [.t (tInts [1, 0]), .t (tInts [1, 0]), I 0]) := by
  have h := swap_ k8A k8B k8B [] [] (by decide) (by decide) (by decide) (by decide) (by decide) (by decide) (by decide) (by decide)
  rw [k8_s] at h
  exact h.args (argN5 _ _ _)
theorem kc8_c : PCall Tryd.prog 43 [vObj k8A, vObj k8B, vObj k8B, nilT, nilT, vObj k8B, .t (tInts [0]), .t (tInts [0])] (Bo true) := by
  have h := cocone_ k8A k8B k8B [] [] k8B [0] [0] (by decide) (by decide) (by decide) (by decide) (by decide) (by decide) (by decide) (by decide) (by decide) (by decide) (by decide) (by decide)
  rw [k8_c] at h
  exact h.args (argN _ _ _ _ _ _ nilT)
theorem vlen_s1 (cs : List T) : vlen (.t (.sl 1 cs)) = some cs.length := by simp [vlen]
set_option maxRecDepth 20000 in
set_option maxHeartbeats 8000000 in
theorem known8_  : PCall Tryd.prog 39 [] (Bo true) := by
  refine pcall_of_body Tryd.func39 rfl fun s Q hQ => ?_
  obtain ⟨e, he, hl⟩ : ∃ e : Env, ([] ++ List.replicate (Tryd.f39.ntmps - ([] : List V).length) .junk) = e ∧ e.length = 99 := ⟨_, rfl, rfl⟩
  rw [he]
  clear he
  refine vw_seq_k fun K1 hK1 => ?_
  refine vw_sc 0 [] ?_
  simp only [bs, ↓vopx, ↓vop, thenV, flat, wocs, ↓goc, ↓woc, ↓vopm0]
  refine hK1 _ _ ?_
  refine vw_seq_k fun K2 hK2 => ?_
  refine vw_cut 3 rfl ?_
  refine vl_chunk 1 0 1 2 [] [] (by decide +kernel) (by decide) fun ops' KC hgs hKC => ?_
  simp only [bs, vparts, gfill, ↓vopx, wocs, ↓goc, ↓woc, ↓vopm1, Tryd.st25]
  refine hKC _ _ ?_
  clear hgs hKC KC ops'
  refine vl_env fun e1_0 hE => ?_
  have hl1_0 : e1_0.length = 99 := by rw [hE]; simp only [length_putv, hl]
  have q10 : ev e1_0 (.tmp 10) = .agg [.t (.v (.slice none 0 0)), .t (.v (.slice none 0 0))] := by rw [hE]; simp only [ev_hit, length_putv, hl, Nat.reduceLT]
  clear hE
  refine vl_chunk 1 1 2 0 [] [] (by decide +kernel) (by decide) fun ops' KC hgs hKC => ?_
  simp only [bs, Nat.reduceAdd, ↓vopx, ↓vop, Nat.reduceBEq, Nat.reduceLT, V.cells, hl1_0, q10, wocs, ↓goc, ↓woc, ↓vopm1, Tryd.sz25, Tryd.zv25]
  refine hKC _ _ ?_
  clear hgs hKC KC ops'
  refine vl_nil ?_
  try simp only [thenV]
  refine hK2 _ _ ?_
  refine vw_seq_k fun K3 hK3 => ?_
  refine VW.nilBox (s.next) 0 1 (by omega) (ty := 25) (vs := [.t (.v (.slice none 0 0)), .t (.v (.slice none 0 0))]) (by simp only [m_set, m_add, if_true]) rfl ?_
  refine VW.nilBox (s.next) 1 2 (by omega) (ty := 25) (vs := [.t (.sl 1 []), .t (.v (.slice none 0 0))]) (by simp only [m_set, m_add, List.set_cons_zero, if_true]) rfl ?_
  refine vw_en fun era hE => ?_
  have hlra : era.length = 99 := by rw [hE]; simp only [length_putv, hl1_0]
  have ra_1 : ev era (.tmp 1) = .ptr (s.next) 0 := by rw [hE]; simp only [ev_hit, hl1_0, Nat.reduceLT]
  clear hE
  refine vw_st fun sra hS => ?_
  have raA : sra.m (s.next) = some (.box 25 [.t (.sl 1 []), .t (.sl 2 [])]) := by rw [hS]; simp only [m_set, m_add, if_true, List.set_cons_zero, List.set_cons_succ]
  have hnra : sra.next = s.next + 1 := by rw [hS]; simp only [n_add, n_set, ]
  have hkra : ∀ j, j < s.next → sra.m j = s.m j := fun j hj => by have z0 : ¬ j = s.next := (by omega); rw [hS]; simp only [m_set, m_add, z0, if_false]
  clear hS
  refine vw_cut 4 rfl ?_
  refine vl_chunk 1 0 2 2 [] [] (by decide +kernel) (by decide) fun ops' KC hgs hKC => ?_
  simp only [bs, Nat.reduceLeDiff, Nat.reduceAdd, vparts, gfill, repl, Sg.frzP, ↓vopx, flat, Nat.reduceLT, V.cells, Sg.frzL, Sg.frz1, hlra, hnra, wocs, ↓goc, ↓woc, ↓vopm1, Tryd.sl22, Tryd.st25]
  refine hKC _ _ ?_
  clear hgs hKC KC ops'
  refine vl_env fun e2_0 hE => ?_
  have hl2_0 : e2_0.length = 99 := by rw [hE]; simp only [length_putv, hlra]
  have q12 : ev e2_0 (.tmp 12) = .agg [.t (.sl 1 [.v (.string k7x)]), .t (.v (.slice none 0 0))] := by rw [hE]; simp only [ev_hit, length_putv, hlra, Nat.reduceLT]
  have q1 : ev e2_0 (.tmp 1) = .ptr (s.next) 0 := by rw [hE]; simp only [ev_miss, Nat.reduceBEq, ra_1]
  clear hE
  refine vl_chunk 1 2 2 0 [] [] (by decide +kernel) (by decide) fun ops' KC hgs hKC => ?_
  simp only [bs, Nat.reduceAdd, ↓vopx, ↓vop, Nat.reduceBEq, Nat.reduceLT, V.cells, hl2_0, q12, hnra, wocs, ↓goc, ↓woc, ↓vopm1, Tryd.sz25, Tryd.zv25]
  refine hKC _ _ ?_
  clear hgs hKC KC ops'
  refine vl_nil ?_
  try simp only [thenV]
  refine hK3 _ _ ?_
  refine vw_seq_k fun K4 hK4 => ?_
  refine VW.nilBox (s.next + 1) 1 2 (by omega) (ty := 25) (vs := [.t (.sl 1 [.v (.string k7x)]), .t (.v (.slice none 0 0))]) (by simp only [m_set, m_add, if_true, hnra]) rfl ?_
  refine vw_en fun erb hE => ?_
  have hlrb : erb.length = 99 := by rw [hE]; simp only [length_putv, hl2_0]
  have rb_1 : ev erb (.tmp 1) = .ptr (s.next) 0 := by rw [hE]; simp only [ev_miss, Nat.reduceBEq, q1]
  have rb_2 : ev erb (.tmp 2) = .ptr (s.next + 1) 0 := by rw [hE]; simp only [ev_hit, hl2_0, Nat.reduceLT]
  clear hE
  refine vw_st fun srb hS => ?_
  have rbA : srb.m (s.next) = some (.box 25 [.t (.sl 1 []), .t (.sl 2 [])]) := by rw [hS]; simp only [m_set, m_add, nns, if_false, raA, List.set_cons_zero, List.set_cons_succ, hnra]
  have rbB : srb.m (s.next + 1) = some (.box 25 [.t (.sl 1 [.v (.string k7x)]), .t (.sl 2 [])]) := by rw [hS]; simp only [m_set, m_add, if_true, List.set_cons_zero, List.set_cons_succ, hnra]
  have hnrb : srb.next = s.next + 1 + 1 := by rw [hS]; simp only [n_add, n_set, hnra]
  have hkrb : ∀ j, j < s.next → srb.m j = s.m j := fun j hj => by have z0 : ¬ j = s.next := (by omega); have z1 : ¬ j = s.next + 1 := (by omega); rw [hS]; simp only [m_set, m_add, hnra, z1, if_false, hkra j hj]
  clear hS
  refine vw_sc 1 [.pur (.tup [.t (tInts [0, 0]), I 0])] ?_
  simp only [bs, Nat.reduceLeDiff, Nat.reduceAdd, vparts, gfill, repl, Sg.frzP, ↓vopx, ↓vop, Nat.reduceBEq, thenV, flat, Nat.reduceLT, V.cells, dLoad, vpart, Sg.frzL, Sg.frz1, hlrb, rb_1, rb_2, rbA, rbB, hnrb, wocs, ↓goc, ↓woc, ↓vopm1, ↓callC, calleeV, Tryd.ag25, Tryd.sl26, Tryd.sz25]
  repeat ((with_reducible refine And.intro ?_ ?_); · exact ⟨Tryd.is41, kc8_m1⟩)
  refine hK4 _ _ ?_
  refine vw_seq_k fun K5 hK5 => ?_
  refine vw_en fun erc hE => ?_
  have hlrc : erc.length = 99 := by rw [hE]; simp only [length_putv, hlrb]
  have rc_1 : ev erc (.tmp 1) = .ptr (s.next) 0 := by rw [hE]; simp only [ev_miss, Nat.reduceBEq, rb_1]
  have rc_2 : ev erc (.tmp 2) = .ptr (s.next + 1) 0 := by rw [hE]; simp only [ev_miss, Nat.reduceBEq, rb_2]
  have rc_3 : ev erc (.tmp 3) = .t (tInts [0, 0]) := by rw [hE]; simp only [ev_hit, ev_miss, Nat.reduceBEq, length_putv, hlrb, Nat.reduceLT]
  have rc_4 : ev erc (.tmp 4) = I 0 := by rw [hE]; simp only [ev_hit, length_putv, hlrb, Nat.reduceLT]
  clear hE
  refine vw_st fun src hS => ?_
  have rcA : src.m (s.next) = some (.box 25 [.t (.sl 1 []), .t (.sl 2 [])]) := by rw [hS]; simp only [rbA]
  have rcB : src.m (s.next + 1) = some (.box 25 [.t (.sl 1 [.v (.string k7x)]), .t (.sl 2 [])]) := by rw [hS]; simp only [rbB]
  have hnrc : src.next = s.next + 1 + 1 := by rw [hS]; simp only [hnrb]
  have hkrc : ∀ j, j < s.next → src.m j = s.m j := fun j hj => by have z0 : ¬ j = s.next := (by omega); have z1 : ¬ j = s.next + 1 := (by omega); rw [hS]; simp only [hkrb j hj]
  clear hS
  refine vw_sc 1 [.pur (.tup [.t (tInts []), I 12])] ?_
  simp only [bs, Nat.reduceLeDiff, Nat.reduceAdd, vparts, gfill, repl, Sg.frzP, ↓vopx, ↓vop, Nat.reduceBEq, thenV, flat, Nat.reduceLT, V.cells, dLoad, vpart, Sg.frzL, Sg.frz1, hlrc, rc_1, rc_2, rcA, rcB, hnrc, wocs, ↓goc, ↓woc, ↓vopm1, ↓callC, calleeV, Tryd.ag25, Tryd.sl26, Tryd.sz25]
  repeat ((with_reducible refine And.intro ?_ ?_); · exact ⟨Tryd.is41, kc8_m2⟩)
  refine hK5 _ _ ?_
  refine vw_seq_k fun K6 hK6 => ?_
  refine vw_en fun erd hE => ?_
  have hlrd : erd.length = 99 := by rw [hE]; simp only [length_putv, hlrc]
  have rd_1 : ev erd (.tmp 1) = .ptr (s.next) 0 := by rw [hE]; simp only [ev_miss, Nat.reduceBEq, rc_1]
  have rd_2 : ev erd (.tmp 2) = .ptr (s.next + 1) 0 := by rw [hE]; simp only [ev_miss, Nat.reduceBEq, rc_2]
  have rd_3 : ev erd (.tmp 3) = .t (tInts [0, 0]) := by rw [hE]; simp only [ev_miss, Nat.reduceBEq, rc_3]
  have rd_4 : ev erd (.tmp 4) = I 0 := by rw [hE]; simp only [ev_miss, Nat.reduceBEq, rc_4]
  have rd_6 : ev erd (.tmp 6) = I 12 := by rw [hE]; simp only [ev_hit, length_putv, hlrc, Nat.reduceLT]
  clear hE
  refine vw_st fun srd hS => ?_
  have rdA : srd.m (s.next) = some (.box 25 [.t (.sl 1 []), .t (.sl 2 [])]) := by rw [hS]; simp only [rcA]
  have rdB : srd.m (s.next + 1) = some (.box 25 [.t (.sl 1 [.v (.string k7x)]), .t (.sl 2 [])]) := by rw [hS]; simp only [rcB]
  have hnrd : srd.next = s.next + 1 + 1 := by rw [hS]; simp only [hnrc]
  have hkrd : ∀ j, j < s.next → srd.m j = s.m j := fun j hj => by have z0 : ¬ j = s.next := (by omega); have z1 : ¬ j = s.next + 1 := (by omega); rw [hS]; simp only [hkrc j hj]
  clear hS
  refine vw_sc 1 [.pur (.tup [.t (tInts [1, 0]), .t (tInts [1, 0]), I 0])] ?_
  simp only [bs, Nat.reduceAdd, ↓vopx, ↓vop, Nat.reduceBEq, thenV, flat, Nat.reduceLT, dLoad, vpart, hlrd, rd_1, rd_2, rdA, rdB, wocs, ↓goc, ↓woc, ↓vopm1, ↓callC, calleeV, Tryd.ag25, Tryd.sz25]
  repeat ((with_reducible refine And.intro ?_ ?_); · exact ⟨Tryd.is55, kc8_s⟩)
  refine hK6 _ _ ?_
  refine vw_seq_k fun K7 hK7 => ?_
  refine vw_en fun ere hE => ?_
  have hlre : ere.length = 99 := by rw [hE]; simp only [length_putv, hlrd]
  have re_1 : ev ere (.tmp 1) = .ptr (s.next) 0 := by rw [hE]; simp only [ev_miss, Nat.reduceBEq, rd_1]
  have re_2 : ev ere (.tmp 2) = .ptr (s.next + 1) 0 := by rw [hE]; simp only [ev_miss, Nat.reduceBEq, rd_2]
  have re_3 : ev ere (.tmp 3) = .t (tInts [0, 0]) := by rw [hE]; simp only [ev_miss, Nat.reduceBEq, rd_3]
  have re_4 : ev ere (.tmp 4) = I 0 := by rw [hE]; simp only [ev_miss, Nat.reduceBEq, rd_4]
  have re_6 : ev ere (.tmp 6) = I 12 := by rw [hE]; simp only [ev_miss, Nat.reduceBEq, rd_6]
  have re_7 : ev ere (.tmp 7) = .t (tInts [1, 0]) := by rw [hE]; simp only [ev_hit, ev_miss, Nat.reduceBEq, length_putv, hlrd, Nat.reduceLT]
  have re_8 : ev ere (.tmp 8) = .t (tInts [1, 0]) := by rw [hE]; simp only [ev_hit, ev_miss, Nat.reduceBEq, length_putv, hlrd, Nat.reduceLT]
  have re_9 : ev ere (.tmp 9) = I 0 := by rw [hE]; simp only [ev_hit, length_putv, hlrd, Nat.reduceLT]
  clear hE
  refine vw_st fun sre hS => ?_
  have reA : sre.m (s.next) = some (.box 25 [.t (.sl 1 []), .t (.sl 2 [])]) := by rw [hS]; simp only [rdA]
  have reB : sre.m (s.next + 1) = some (.box 25 [.t (.sl 1 [.v (.string k7x)]), .t (.sl 2 [])]) := by rw [hS]; simp only [rdB]
  have hnre : sre.next = s.next + 1 + 1 := by rw [hS]; simp only [hnrd]
  have hkre : ∀ j, j < s.next → sre.m j = s.m j := fun j hj => by have z0 : ¬ j = s.next := (by omega); have z1 : ¬ j = s.next + 1 := (by omega); rw [hS]; simp only [hkrd j hj]
  clear hS
  refine vw_cut 59 rfl ?_
  refine vl_chunk 1 0 14 45 [(2, 43), (7, 48)] [] (by decide +kernel) (by decide) fun ops' KC hgs hKC => ?_
  have g2_ : gtmp ops' 2 = some 43 := hgs (2, 43) (by simp)
  have g7_ : gtmp ops' 7 = some 48 := hgs (7, 48) (by simp)
  simp only [bs, Nat.reduceAdd, ↓vopx, ↓vop, Nat.reduceBEq, flat, Nat.reduceLT, dLoad, vpart, opII, hlre, re_3, re_4, g2_, g7_, wocs, ↓goc, ↓woc, ↓vopm1, ↓pick_tt, Tryd.ag3, Tryd.sz3, Tryd.un26, vlen_s1, nc2, Int.toNat_zero, beq_self_eq_true, tInts]
  repeat ((with_reducible refine And.intro ?_ ?_); · omega)
  refine hKC _ _ ?_
  clear g2_
  clear g7_
  clear hgs hKC KC ops'
  refine vl_env fun e6_0 hE => ?_
  have hl6_0 : e6_0.length = 99 := by rw [hE]; simp only [length_putv, hlre]
  have s1_1 : ev e6_0 (.tmp 1) = .ptr (s.next) 0 := by rw [hE]; simp only [ev_miss, Nat.reduceBEq, re_1]
  have s1_2 : ev e6_0 (.tmp 2) = .ptr (s.next + 1) 0 := by rw [hE]; simp only [ev_miss, Nat.reduceBEq, re_2]
  have s1_3 : ev e6_0 (.tmp 3) = .t (tInts [0, 0]) := by rw [hE]; simp only [ev_miss, Nat.reduceBEq, re_3]
  have s1_4 : ev e6_0 (.tmp 4) = I 0 := by rw [hE]; simp only [ev_miss, Nat.reduceBEq, re_4]
  have s1_6 : ev e6_0 (.tmp 6) = I 12 := by rw [hE]; simp only [ev_miss, Nat.reduceBEq, re_6]
  have s1_7 : ev e6_0 (.tmp 7) = .t (tInts [1, 0]) := by rw [hE]; simp only [ev_miss, Nat.reduceBEq, re_7]
  have s1_8 : ev e6_0 (.tmp 8) = .t (tInts [1, 0]) := by rw [hE]; simp only [ev_miss, Nat.reduceBEq, re_8]
  have s1_9 : ev e6_0 (.tmp 9) = I 0 := by rw [hE]; simp only [ev_miss, Nat.reduceBEq, re_9]
  have s1_g : ev e6_0 (.tmp 54) = Bo true := by rw [hE]; simp only [ev_hit, length_putv, hlre, Nat.reduceLT]
  clear hE
  refine vl_chunk 1 14 10 35 [(13, 54), (19, 60)] [] (by decide +kernel) (by decide) fun ops' KC hgs hKC => ?_
  have g13_ : gtmp ops' 13 = some 54 := hgs (13, 54) (by simp)
  have g19_ : gtmp ops' 19 = some 60 := hgs (19, 60) (by simp)
  simp only [bs, Nat.reduceAdd, ↓vopx, ↓vop, Nat.reduceBEq, flat, Nat.reduceLT, dLoad, vpart, opII, hl6_0, s1_3, s1_6, s1_g, g13_, g19_, wocs, ↓goc, ↓woc, ↓vopm1, ↓pick_tt, Tryd.ag3, Tryd.sz3, Tryd.un26, Int.toNat_one, beq_self_eq_true, tInts]
  repeat ((with_reducible refine And.intro ?_ ?_); · omega)
  refine hKC _ _ ?_
  clear g13_
  clear g19_
  clear hgs hKC KC ops'
  refine vl_env fun e6_1 hE => ?_
  have hl6_1 : e6_1.length = 99 := by rw [hE]; simp only [length_putv, hl6_0]
  have s2_1 : ev e6_1 (.tmp 1) = .ptr (s.next) 0 := by rw [hE]; simp only [ev_miss, Nat.reduceBEq, s1_1]
  have s2_2 : ev e6_1 (.tmp 2) = .ptr (s.next + 1) 0 := by rw [hE]; simp only [ev_miss, Nat.reduceBEq, s1_2]
  have s2_3 : ev e6_1 (.tmp 3) = .t (tInts [0, 0]) := by rw [hE]; simp only [ev_miss, Nat.reduceBEq, s1_3]
  have s2_4 : ev e6_1 (.tmp 4) = I 0 := by rw [hE]; simp only [ev_miss, Nat.reduceBEq, s1_4]
  have s2_6 : ev e6_1 (.tmp 6) = I 12 := by rw [hE]; simp only [ev_miss, Nat.reduceBEq, s1_6]
  have s2_7 : ev e6_1 (.tmp 7) = .t (tInts [1, 0]) := by rw [hE]; simp only [ev_miss, Nat.reduceBEq, s1_7]
  have s2_8 : ev e6_1 (.tmp 8) = .t (tInts [1, 0]) := by rw [hE]; simp only [ev_miss, Nat.reduceBEq, s1_8]
  have s2_9 : ev e6_1 (.tmp 9) = I 0 := by rw [hE]; simp only [ev_miss, Nat.reduceBEq, s1_9]
  have s2_g : ev e6_1 (.tmp 64) = Bo true := by rw [hE]; simp only [ev_hit, length_putv, hl6_0, Nat.reduceLT]
  clear hE
  refine vl_chunk 1 24 14 21 [(23, 64), (27, 68), (32, 73)] [] (by decide +kernel) (by decide) fun ops' KC hgs hKC => ?_
  have g23_ : gtmp ops' 23 = some 64 := hgs (23, 64) (by simp)
  have g27_ : gtmp ops' 27 = some 68 := hgs (27, 68) (by simp)
  have g32_ : gtmp ops' 32 = some 73 := hgs (32, 73) (by simp)
  simp only [bs, Nat.reduceAdd, ↓vopx, ↓vop, Nat.reduceBEq, flat, Nat.reduceLT, opII, hl6_1, s2_7, s2_8, s2_9, s2_g, g23_, g27_, g32_, wocs, ↓goc, ↓woc, ↓vopm1, ↓pick_tt, vlen_s1, Tryd.underlying26, nc2, beq_self_eq_true, tInts]
  refine hKC _ _ ?_
  clear g23_
  clear g27_
  clear g32_
  clear hgs hKC KC ops'
  refine vl_env fun e6_2 hE => ?_
  have hl6_2 : e6_2.length = 99 := by rw [hE]; simp only [length_putv, hl6_1]
  have s3_1 : ev e6_2 (.tmp 1) = .ptr (s.next) 0 := by rw [hE]; simp only [ev_miss, Nat.reduceBEq, s2_1]
  have s3_2 : ev e6_2 (.tmp 2) = .ptr (s.next + 1) 0 := by rw [hE]; simp only [ev_miss, Nat.reduceBEq, s2_2]
  have s3_3 : ev e6_2 (.tmp 3) = .t (tInts [0, 0]) := by rw [hE]; simp only [ev_miss, Nat.reduceBEq, s2_3]
  have s3_4 : ev e6_2 (.tmp 4) = I 0 := by rw [hE]; simp only [ev_miss, Nat.reduceBEq, s2_4]
  have s3_6 : ev e6_2 (.tmp 6) = I 12 := by rw [hE]; simp only [ev_miss, Nat.reduceBEq, s2_6]
  have s3_7 : ev e6_2 (.tmp 7) = .t (tInts [1, 0]) := by rw [hE]; simp only [ev_miss, Nat.reduceBEq, s2_7]
  have s3_8 : ev e6_2 (.tmp 8) = .t (tInts [1, 0]) := by rw [hE]; simp only [ev_miss, Nat.reduceBEq, s2_8]
  have s3_9 : ev e6_2 (.tmp 9) = I 0 := by rw [hE]; simp only [ev_miss, Nat.reduceBEq, s2_9]
  have s3_g : ev e6_2 (.tmp 78) = Bo true := by rw [hE]; simp only [ev_hit, length_putv, hl6_1, Nat.reduceLT]
  clear hE
  refine vl_chunk 1 38 12 9 [(37, 78), (43, 84)] [] (by decide +kernel) (by decide) fun ops' KC hgs hKC => ?_
  have g37_ : gtmp ops' 37 = some 78 := hgs (37, 78) (by simp)
  have g43_ : gtmp ops' 43 = some 84 := hgs (43, 84) (by simp)
  simp only [bs, Nat.reduceAdd, ↓vopx, ↓vop, Nat.reduceBEq, flat, Nat.reduceLT, dLoad, vpart, opII, hl6_2, s3_7, s3_8, s3_g, g37_, g43_, wocs, ↓goc, ↓woc, ↓vopm1, ↓pick_tt, Tryd.ag3, Tryd.sz3, Tryd.un26, Int.toNat_zero, Int.toNat_one, beq_self_eq_true, tInts]
  repeat ((with_reducible refine And.intro ?_ ?_); · omega)
  refine hKC _ _ ?_
  clear g37_
  clear g43_
  clear hgs hKC KC ops'
  refine vl_env fun e6_3 hE => ?_
  have hl6_3 : e6_3.length = 99 := by rw [hE]; simp only [length_putv, hl6_2]
  have s4_1 : ev e6_3 (.tmp 1) = .ptr (s.next) 0 := by rw [hE]; simp only [ev_miss, Nat.reduceBEq, s3_1]
  have s4_2 : ev e6_3 (.tmp 2) = .ptr (s.next + 1) 0 := by rw [hE]; simp only [ev_miss, Nat.reduceBEq, s3_2]
  have s4_3 : ev e6_3 (.tmp 3) = .t (tInts [0, 0]) := by rw [hE]; simp only [ev_miss, Nat.reduceBEq, s3_3]
  have s4_4 : ev e6_3 (.tmp 4) = I 0 := by rw [hE]; simp only [ev_miss, Nat.reduceBEq, s3_4]
  have s4_6 : ev e6_3 (.tmp 6) = I 12 := by rw [hE]; simp only [ev_miss, Nat.reduceBEq, s3_6]
  have s4_7 : ev e6_3 (.tmp 7) = .t (tInts [1, 0]) := by rw [hE]; simp only [ev_miss, Nat.reduceBEq, s3_7]
  have s4_8 : ev e6_3 (.tmp 8) = .t (tInts [1, 0]) := by rw [hE]; simp only [ev_miss, Nat.reduceBEq, s3_8]
  have s4_9 : ev e6_3 (.tmp 9) = I 0 := by rw [hE]; simp only [ev_miss, Nat.reduceBEq, s3_9]
  have s4_g : ev e6_3 (.tmp 90) = Bo true := by rw [hE]; simp only [ev_hit, length_putv, hl6_2, Nat.reduceLT]
  clear hE
  refine vl_chunk 1 50 9 0 [(49, 90)] [.pur (Bo true)] (by decide +kernel) (by decide) fun ops' KC hgs hKC => ?_
  have g49_ : gtmp ops' 49 = some 90 := hgs (49, 90) (by simp)
  simp only [bs, Nat.reduceLeDiff, Nat.reduceAdd, vparts, gfill, repl, Sg.frzP, ↓vopx, ↓vop, Nat.reduceBEq, flat, Nat.reduceLT, V.cells, dLoad, vpart, Sg.frzL, Sg.frz1, hl6_3, s4_1, s4_2, s4_g, reA, reB, g49_, wocs, ↓goc, ↓woc, ↓vopm1, ↓callC, ↓pick_tt, calleeV, Tryd.ag25, Tryd.sl26, Tryd.sz25]
  repeat ((with_reducible refine And.intro ?_ ?_); · exact ⟨Tryd.is43, kc8_c⟩)
  refine hKC _ _ ?_
  clear g49_
  clear hgs hKC KC ops'
  refine vl_nil ?_
  try simp only [thenV]
  refine hK7 _ _ ?_
  refine vw_ret ?_
  refine hQ _ _ _ (.inr rfl) (done_tmp ?_ fun n b hn h => (hkre n hn).trans h)
  try simp only [ev_hit, length_putv, hl6_3, Nat.reduceLT]

end Go.Proofs

open Go Go.V
namespace Go.Proofs


set_option maxRecDepth 20000 in
set_option maxHeartbeats 4000000 in
theorem refPush_ (a b c : Ob) (f g : List Int) (ha1 : a.labels.length < 1000000000) (ha2 : a.pairs.length < 1000000000) (hb1 : b.labels.length < 1000000000) (hb2 : b.pairs.length < 100000000) (hc1 : c.labels.length < 1000000000) (hc2 : c.pairs.length < 100000000) (hf : f.length < 100000000) (hg : g.length < 100000000) : PCall Tryd.prog 23 [vObj a, vObj b, vObj c, .t (tInts f), .t (tInts g)] (vSum (pushR a b c f g)) := by
  refine pcall_of_body Tryd.func23 rfl fun s Q hQ => ?_
  obtain ⟨e, he, hl, h0, h1, h2, h3, h4⟩ : ∃ e : Env, ([vObj a, vObj b, vObj c, .t (tInts f), .t (tInts g)] ++ List.replicate (Tryd.f23.ntmps - ([vObj a, vObj b, vObj c, .t (tInts f), .t (tInts g)] : List V).length) .junk) = e ∧ e.length = 95 ∧ ev e (.tmp 0) = vObj a ∧ ev e (.tmp 1) = vObj b ∧ ev e (.tmp 2) = vObj c ∧ ev e (.tmp 3) = .t (tInts f) ∧ ev e (.tmp 4) = .t (tInts g) := ⟨_, rfl, rfl, rfl, rfl, rfl, rfl, rfl⟩
  rw [he]
  clear he
  refine vw_seq_k fun K1 hK1 => ?_
  refine vw_sc 0 [] ?_
  simp only [bs, ↓vopx, ↓vop, Nat.reduceBEq, thenV, flat, V.cells, h0, h1, h2, wocs, ↓goc, ↓woc, ↓vopm0, Tryd.zv25]
  refine hK1 _ _ ?_
  refine vw_seq_k fun K2 hK2 => ?_
  refine vw_seq_k fun K3 hK3 => ?_
  refine vw_st fun sN hSN => ?_
  have hn5 : sN.m s.next = some (.box 25 [.t (tStrs a.labels), .t (tPairs a.pairs)]) := by rw [hSN, m_add, if_neg (by simp only [n_add]; omega), m_add, if_neg (by simp only [n_add]; omega), m_add, if_neg (by simp only [n_add]; omega), m_add, if_pos rfl]
  have hn6 : sN.m (s.next + 1) = some (.box 25 [.t (tStrs b.labels), .t (tPairs b.pairs)]) := by rw [hSN, m_add, if_neg (by simp only [n_add]; omega), m_add, if_neg (by simp only [n_add]; omega), m_add, if_pos (by simp only [n_add])]
  have hn7 : sN.m (s.next + 1 + 1) = some (.box 25 [.t (tStrs c.labels), .t (tPairs c.pairs)]) := by rw [hSN, m_add, if_neg (by simp only [n_add]; omega), m_add, if_pos (by simp only [n_add])]
  have hn10 : sN.m (s.next + 1 + 1 + 1) = some (.box 25 [.t (.v (.slice none 0 0)), .t (.v (.slice none 0 0))]) := by rw [hSN, m_add, if_pos (by simp only [n_add])]
  have hnn : sN.next = s.next + 4 := by rw [hSN]; rfl
  have hnk : ∀ j, j < s.next → sN.m j = s.m j := fun j hj => by rw [hSN, m_add, if_neg (by simp only [n_add]; omega), m_add, if_neg (by simp only [n_add]; omega), m_add, if_neg (by simp only [n_add]; omega), m_add, if_neg (by omega)]
  clear hSN
  rcases (show (a.labels.length : Int) > 40 ∨ (¬ (a.labels.length : Int) > 40 ∧ (b.labels.length : Int) > 40) ∨ (¬ (a.labels.length : Int) > 40 ∧ ¬ (b.labels.length : Int) > 40 ∧ (c.labels.length : Int) > 40 - b.labels.length) ∨ (¬ (a.labels.length : Int) > 40 ∧ ¬ (b.labels.length : Int) > 40 ∧ ¬ (c.labels.length : Int) > 40 - b.labels.length) by omega) with qa | ⟨qa, qb⟩ | ⟨qa, qb, qc⟩ | ⟨qa, qb, qc⟩
  · have ka : largeS [a] = true := by rw [largeS_one]; exact decide_eq_true (by omega)
    refine vw_sc 0 [] ?_
    simp only [bs, ↓vopx, ↓vop, Nat.reduceBEq, thenV, flat, Nat.reduceLT, dLoad, vpart, opII, gtmp, hl, wocs, ↓goc, ↓woc, ↓vopm0, ↓pick_tf, Tryd.ag22, Tryd.fd25_0, Tryd.sz22, Tryd.un22, len_tStrs, qa, hn5]
    refine hK3 _ _ ?_
    refine vw_cond_k fun A B hA hB => ?_
    simp only [condV, ev_hit, length_putv, Nat.reduceLT, true_implies, reduceCtorEq, false_implies, and_true, hl]
    refine hA ?_
    clear hA hB A B
    refine vw_seq_k fun K4 hK4 => ?_
    refine vw_sc 0 [] ?_
    simp only [bs, Nat.reduceAdd, vparts, gfill, ↓vopx, ↓vop, Nat.reduceBEq, thenV, flat, Nat.reduceLT, V.cells, hl, wocs, ↓goc, ↓woc, ↓vopm0, Tryd.st25, Tryd.sz25, Nat.le_refl, hn10]
    refine hK4 _ _ ?_
    refine vw_ret ?_
    have hres : vSum (pushR a b c f g) = pack [vObj ⟨[], []⟩, .t (tInts []), .t (tInts []), I 11] := by simp [pushR, vSum, ka]; rfl
    rw [hres] at hQ
    refine hQ _ _ _ (.inr rfl) (done_wk (vs := [.agg [.t (.v (.slice none 0 0)), .t (.v (.slice none 0 0))], .t (.v (.slice none 0 0)), .t (.v (.slice none 0 0)), I 11]) (vs' := [vObj ⟨[], []⟩, .t (tInts []), .t (tInts []), I 11]) ?_ rfl (ewk_err4 _ _) (by simp [pack, nm, nm2, nm1, nm0]) ?_)
    · show vres Tryd.prog _ _ [.cell 10 25, .tmp 11, .tmp 12, .tmp 13] = _
      simp only [vres_cell, vres_tmp, vres_nil, ev_hit, ev_miss, Nat.reduceBEq, length_putv, hl, hn10, Tryd.sz25, Tryd.ag25, dLoad, m_set, vpart, if_true, Nat.reduceLT, List.drop_zero, List.take_succ_cons, List.take_zero, List.length_cons, List.length_nil, Nat.zero_add, Nat.reduceAdd]
      try rfl
    · exact fun n x hn h => by rw [m_set, if_neg (by omega), hnk n hn]; exact h
  · have kb : largeS [b] = true := by rw [largeS_one]; exact decide_eq_true (by omega)
    refine vw_sc 0 [] ?_
    simp only [bs, ↓vopx, ↓vop, Nat.reduceBEq, thenV, flat, Nat.reduceLT, dLoad, vpart, opII, gtmp, hl, wocs, ↓goc, ↓woc, ↓vopm0, ↓pick_ff, ↓pick_tf, Tryd.ag22, Tryd.fd25_0, Tryd.sz22, Tryd.un22, len_tStrs, qa, qb, hn5, hn6]
    refine hK3 _ _ ?_
    refine vw_cond_k fun A B hA hB => ?_
    simp only [condV, ev_hit, length_putv, Nat.reduceLT, true_implies, reduceCtorEq, false_implies, and_true, hl]
    refine hA ?_
    clear hA hB A B
    refine vw_seq_k fun K5 hK5 => ?_
    refine vw_sc 0 [] ?_
    simp only [bs, Nat.reduceAdd, vparts, gfill, ↓vopx, ↓vop, Nat.reduceBEq, thenV, flat, Nat.reduceLT, V.cells, hl, wocs, ↓goc, ↓woc, ↓vopm0, Tryd.st25, Tryd.sz25, Nat.le_refl, hn10]
    refine hK5 _ _ ?_
    refine vw_ret ?_
    have hres : vSum (pushR a b c f g) = pack [vObj ⟨[], []⟩, .t (tInts []), .t (tInts []), I 11] := by simp [pushR, vSum, kb]; rfl
    rw [hres] at hQ
    refine hQ _ _ _ (.inr rfl) (done_wk (vs := [.agg [.t (.v (.slice none 0 0)), .t (.v (.slice none 0 0))], .t (.v (.slice none 0 0)), .t (.v (.slice none 0 0)), I 11]) (vs' := [vObj ⟨[], []⟩, .t (tInts []), .t (tInts []), I 11]) ?_ rfl (ewk_err4 _ _) (by simp [pack, nm, nm2, nm1, nm0]) ?_)
    · show vres Tryd.prog _ _ [.cell 10 25, .tmp 11, .tmp 12, .tmp 13] = _
      simp only [vres_cell, vres_tmp, vres_nil, ev_hit, ev_miss, Nat.reduceBEq, length_putv, hl, hn10, Tryd.sz25, Tryd.ag25, dLoad, m_set, vpart, if_true, Nat.reduceLT, List.drop_zero, List.take_succ_cons, List.take_zero, List.length_cons, List.length_nil, Nat.zero_add, Nat.reduceAdd]
      try rfl
    · exact fun n x hn h => by rw [m_set, if_neg (by omega), hnk n hn]; exact h
  · have kc : largeS [b, c] = true := by rw [largeS_two]; exact decide_eq_true (by omega)
    refine vw_sc 0 [] ?_
    simp only [bs, ↓vopx, ↓vop, Nat.reduceBEq, thenV, flat, Nat.reduceLT, dLoad, vpart, opII, gtmp, hl, wocs, ↓goc, ↓woc, ↓vopm0, ↓pick_ff, Tryd.ag22, Tryd.fd25_0, Tryd.sz22, Tryd.un22, len_tStrs, qa, qb, qc, hn5, hn6, hn7]
    repeat ((with_reducible refine And.intro ?_ ?_); · exact ⟨by omega, by omega⟩)
    refine hK3 _ _ ?_
    refine vw_cond_k fun A B hA hB => ?_
    simp only [condV, ev_hit, length_putv, Nat.reduceLT, true_implies, reduceCtorEq, false_implies, and_true, hl]
    refine hA ?_
    clear hA hB A B
    refine vw_seq_k fun K6 hK6 => ?_
    refine vw_sc 0 [] ?_
    simp only [bs, Nat.reduceAdd, vparts, gfill, ↓vopx, ↓vop, Nat.reduceBEq, thenV, flat, Nat.reduceLT, V.cells, hl, wocs, ↓goc, ↓woc, ↓vopm0, Tryd.st25, Tryd.sz25, Nat.le_refl, hn10]
    refine hK6 _ _ ?_
    refine vw_ret ?_
    have hres : vSum (pushR a b c f g) = pack [vObj ⟨[], []⟩, .t (tInts []), .t (tInts []), I 11] := by simp [pushR, vSum, kc]; rfl
    rw [hres] at hQ
    refine hQ _ _ _ (.inr rfl) (done_wk (vs := [.agg [.t (.v (.slice none 0 0)), .t (.v (.slice none 0 0))], .t (.v (.slice none 0 0)), .t (.v (.slice none 0 0)), I 11]) (vs' := [vObj ⟨[], []⟩, .t (tInts []), .t (tInts []), I 11]) ?_ rfl (ewk_err4 _ _) (by simp [pack, nm, nm2, nm1, nm0]) ?_)
    · show vres Tryd.prog _ _ [.cell 10 25, .tmp 11, .tmp 12, .tmp 13] = _
      simp only [vres_cell, vres_tmp, vres_nil, ev_hit, ev_miss, Nat.reduceBEq, length_putv, hl, hn10, Tryd.sz25, Tryd.ag25, dLoad, m_set, vpart, if_true, Nat.reduceLT, List.drop_zero, List.take_succ_cons, List.take_zero, List.length_cons, List.length_nil, Nat.zero_add, Nat.reduceAdd]
      try rfl
    · exact fun n x hn h => by rw [m_set, if_neg (by omega), hnk n hn]; exact h
  · have ka : largeS [a] = false := by rw [largeS_one]; exact decide_eq_false (by omega)
    have kb : largeS [b] = false := by rw [largeS_one]; exact decide_eq_false (by omega)
    have kc : largeS [b, c] = false := by rw [largeS_two]; exact decide_eq_false (by omega)
    refine vw_sc 0 [] ?_
    simp only [bs, ↓vopx, ↓vop, Nat.reduceBEq, thenV, flat, Nat.reduceLT, dLoad, vpart, opII, gtmp, hl, wocs, ↓goc, ↓woc, ↓vopm0, ↓pick_ff, Tryd.ag22, Tryd.fd25_0, Tryd.sz22, Tryd.un22, len_tStrs, qa, qb, qc, hn5, hn6, hn7]
    repeat ((with_reducible refine And.intro ?_ ?_); · exact ⟨by omega, by omega⟩)
    refine hK3 _ _ ?_
    refine vw_cond_k fun A B hA hB => ?_
    simp only [condV, ev_hit, length_putv, Nat.reduceLT, true_implies, reduceCtorEq, false_implies, true_and, hl]
    refine hB ?_
    clear hA hB A B
    refine vw_skip ?_
    refine hK2 _ _ ?_
    refine vw_seq_k fun K7 hK7 => ?_
    refine vw_seq_k fun K8 hK8 => ?_
    rcases (show arrS a b f = false ∨ (arrS a b f = true ∧ arrS a c g = false) ∨ (arrS a b f = true ∧ arrS a c g = true) by cases arrS a b f <;> cases arrS a c g <;> simp) with kf | ⟨kf, kg⟩ | ⟨kf, kg⟩
    · refine vw_sc 0 [.pur (Bo (arrS a b f))] ?_
      simp only [bs, Nat.reduceAdd, ↓vopx, ↓vop, Nat.reduceBEq, thenV, flat, Nat.reduceLT, dLoad, vpart, gtmp, hl, h3, wocs, ↓goc, ↓woc, ↓vopm0, ↓callC, ↓pick_tf, calleeV, Tryd.ag25, Tryd.sz25, kf, hn5, hn6]
      repeat ((with_reducible refine And.intro ?_ ?_); · exact ⟨Tryd.is59, by simpa only [kf] using refArrow_ a b f (by omega) (by omega) (by omega) (by omega) (by omega)⟩)
      refine hK8 _ _ ?_
      refine vw_cond_k fun A B hA hB => ?_
      simp only [condV, ev_hit, length_putv, Nat.reduceLT, true_implies, reduceCtorEq, false_implies, and_true, hl]
      refine hA ?_
      clear hA hB A B
      refine vw_seq_k fun K9 hK9 => ?_
      refine vw_sc 0 [] ?_
      simp only [bs, Nat.reduceAdd, vparts, gfill, ↓vopx, ↓vop, Nat.reduceBEq, thenV, flat, Nat.reduceLT, V.cells, hl, wocs, ↓goc, ↓woc, ↓vopm0, Tryd.st25, Tryd.sz25, Nat.le_refl, hn10]
      refine hK9 _ _ ?_
      refine vw_ret ?_
      have hres : vSum (pushR a b c f g) = pack [vObj ⟨[], []⟩, .t (tInts []), .t (tInts []), I 10] := by simp [pushR, vSum, ka, kb, kc, kf]; rfl
      rw [hres] at hQ
      refine hQ _ _ _ (.inr rfl) (done_wk (vs := [.agg [.t (.v (.slice none 0 0)), .t (.v (.slice none 0 0))], .t (.v (.slice none 0 0)), .t (.v (.slice none 0 0)), I 10]) (vs' := [vObj ⟨[], []⟩, .t (tInts []), .t (tInts []), I 10]) ?_ rfl (ewk_err4 _ _) (by simp [pack, nm, nm2, nm1, nm0]) ?_)
      · show vres Tryd.prog _ _ [.cell 10 25, .tmp 11, .tmp 12, .tmp 13] = _
        simp only [vres_cell, vres_tmp, vres_nil, ev_hit, ev_miss, Nat.reduceBEq, length_putv, hl, hn10, Tryd.sz25, Tryd.ag25, dLoad, m_set, vpart, if_true, Nat.reduceLT, List.drop_zero, List.take_succ_cons, List.take_zero, List.length_cons, List.length_nil, Nat.zero_add, Nat.reduceAdd]
        try rfl
      · exact fun n x hn h => by rw [m_set, if_neg (by omega), hnk n hn]; exact h
    · refine vw_sc 0 [.pur (Bo (arrS a b f)), .pur (Bo (arrS a c g))] ?_
      simp only [bs, Nat.reduceAdd, ↓vopx, ↓vop, Nat.reduceBEq, thenV, flat, Nat.reduceLT, dLoad, vpart, gtmp, hl, h3, h4, wocs, ↓goc, ↓woc, ↓vopm0, ↓callC, ↓pick_ff, calleeV, Tryd.ag25, Tryd.sz25, kf, kg, hn5, hn6, hn7]
      repeat ((with_reducible refine And.intro ?_ ?_); · first | exact ⟨Tryd.is59, by simpa only [kf] using refArrow_ a b f (by omega) (by omega) (by omega) (by omega) (by omega)⟩ | exact ⟨Tryd.is59, by simpa only [kg] using refArrow_ a c g (by omega) (by omega) (by omega) (by omega) (by omega)⟩)
      refine hK8 _ _ ?_
      refine vw_cond_k fun A B hA hB => ?_
      simp only [condV, ev_hit, length_putv, Nat.reduceLT, true_implies, reduceCtorEq, false_implies, and_true, hl]
      refine hA ?_
      clear hA hB A B
      refine vw_seq_k fun K10 hK10 => ?_
      refine vw_sc 0 [] ?_
      simp only [bs, Nat.reduceAdd, vparts, gfill, ↓vopx, ↓vop, Nat.reduceBEq, thenV, flat, Nat.reduceLT, V.cells, hl, wocs, ↓goc, ↓woc, ↓vopm0, Tryd.st25, Tryd.sz25, Nat.le_refl, hn10]
      refine hK10 _ _ ?_
      refine vw_ret ?_
      have hres : vSum (pushR a b c f g) = pack [vObj ⟨[], []⟩, .t (tInts []), .t (tInts []), I 10] := by simp [pushR, vSum, ka, kb, kc, kg]; rfl
      rw [hres] at hQ
      refine hQ _ _ _ (.inr rfl) (done_wk (vs := [.agg [.t (.v (.slice none 0 0)), .t (.v (.slice none 0 0))], .t (.v (.slice none 0 0)), .t (.v (.slice none 0 0)), I 10]) (vs' := [vObj ⟨[], []⟩, .t (tInts []), .t (tInts []), I 10]) ?_ rfl (ewk_err4 _ _) (by simp [pack, nm, nm2, nm1, nm0]) ?_)
      · show vres Tryd.prog _ _ [.cell 10 25, .tmp 11, .tmp 12, .tmp 13] = _
        simp only [vres_cell, vres_tmp, vres_nil, ev_hit, ev_miss, Nat.reduceBEq, length_putv, hl, hn10, Tryd.sz25, Tryd.ag25, dLoad, m_set, vpart, if_true, Nat.reduceLT, List.drop_zero, List.take_succ_cons, List.take_zero, List.length_cons, List.length_nil, Nat.zero_add, Nat.reduceAdd]
        try rfl
      · exact fun n x hn h => by rw [m_set, if_neg (by omega), hnk n hn]; exact h
    · refine vw_sc 0 [.pur (Bo (arrS a b f)), .pur (Bo (arrS a c g))] ?_
      simp only [bs, Nat.reduceAdd, ↓vopx, ↓vop, Nat.reduceBEq, thenV, flat, Nat.reduceLT, dLoad, vpart, gtmp, hl, h3, h4, wocs, ↓goc, ↓woc, ↓vopm0, ↓callC, ↓pick_ff, calleeV, Tryd.ag25, Tryd.sz25, kf, kg, hn5, hn6, hn7]
      repeat ((with_reducible refine And.intro ?_ ?_); · first | exact ⟨Tryd.is59, by simpa only [kf] using refArrow_ a b f (by omega) (by omega) (by omega) (by omega) (by omega)⟩ | exact ⟨Tryd.is59, by simpa only [kg] using refArrow_ a c g (by omega) (by omega) (by omega) (by omega) (by omega)⟩)
      refine hK8 _ _ ?_
      refine vw_cond_k fun A B hA hB => ?_
      simp only [condV, ev_hit, length_putv, Nat.reduceLT, true_implies, reduceCtorEq, false_implies, true_and, hl]
      refine hB ?_
      clear hA hB A B
      refine vw_skip ?_
      refine hK7 _ _ ?_
      refine vw_seq_k fun K11 hK11 => ?_
      have hob := (arrS_iff.1 kf).2.1
      have hoc := (arrS_iff.1 kg).2.1
      have hlb := hob.le
      have hlc := hoc.le
      have hfl := allY_length (arrS_iff.1 kf).2.2.1
      have hgl := allY_length (arrS_iff.1 kg).2.2.1
      have hbc : b.labels.length + c.labels.length ≤ 40 := by omega
      have hobc := beside_ob hob hoc hbc
      have hol : (besideS b c).labels.length = b.labels.length + c.labels.length := by simp only [besideS, List.length_append]
      have hop : (besideS b c).pairs.length < 1000000000 := by simp only [besideS, List.length_append, List.length_map]; omega
      refine vw_sc 0 [] ?_
      simp only [bs, ↓vopx, ↓vop, Nat.reduceBEq, thenV, Nat.reduceLT, dLoad, vpart, hl, wocs, ↓goc, ↓woc, ↓vopm0, Tryd.ag22, Tryd.fd25_0, Tryd.sz22, Tryd.un22, len_tStrs, hn6]
      refine hK11 _ _ ?_
      refine vw_seq_k fun K12 hK12 => ?_
      refine vw_sc 0 [.stop] ?_
      simp only [bs, Nat.reduceAdd, ↓vopx, ↓vop, Nat.reduceBEq, thenV, Nat.reduceLT, dLoad, vpart, opII, hl, wocs, ↓goc, ↓woc, ↓vopm0, ↓callC, calleeV, Tryd.ag22, Tryd.fd25_0, Tryd.sz22, Tryd.un22, len_tStrs, hn7]
      rw [show ((b.labels.length : Int) + (c.labels.length : Int)) = ((b.labels.length + c.labels.length : Nat) : Int) from by push_cast; rfl]
      repeat (refine And.intro (by first | omega | exact ⟨by omega, by omega⟩) ?_)
      refine ⟨Tryd.is66, (refUNew_ sN (b.labels.length + c.labels.length) (by omega)).mono fun v sU hv => ?_⟩
      obtain ⟨p, m, rfl, hpr, hup, hum, hku, hun⟩ := hv
      try simp only [bs, Nat.reduceLT, hl, Hold]
      refine hK12 _ _ ?_
      refine vw_seq_k fun K13 hK13 => ?_
      refine vw_seq_k fun K14 hK14 => ?_
      refine vw_sc 0 [] ?_
      simp only [bs, ↓vopx, ↓vop, thenV, flat, wocs, ↓goc, ↓woc, ↓vopm0]
      refine hK14 _ _ ?_
      refine vw_block ?_
      refine vw_loop (fun mm e' s' => ∃ i : Nat, mm = f.length - i ∧ i ≤ f.length ∧ e'.length = 95 ∧ ev e' (.tmp 3) = .t (tInts f) ∧ ev e' (.tmp 4) = .t (tInts g) ∧ ev e' (.tmp 6) = .ptr (s.next + 1) 0 ∧ ev e' (.tmp 7) = .ptr (s.next + 1 + 1) 0 ∧ ev e' (.tmp 10) = .ptr (s.next + 1 + 1 + 1) 0 ∧ ev e' (.tmp 14) = I b.labels.length ∧ ev e' (.tmp 15) = .ptr p 0 ∧ ev e' (.tmp 16) = I i ∧ True ∧ RefU s' p m (joinsL (rangeI (b.labels.length + c.labels.length)) f (gMv b g) i) ∧ Keep sN s' ∧ sN.next ≤ s'.next) (⟨0, rfl, Nat.zero_le _, ?_⟩) ?_
      · try simp only [ev_hit, ev_miss, Nat.reduceBEq, length_putv, hl, h3, h4, Nat.reduceLT, true_and]
        repeat ((with_reducible refine And.intro ?_ ?_); · trivial)
        exact hun
      rintro mm e s1 ⟨i, rfl, hle_i, hl, k3, k4, k6, k7, k10, k14, k15, h_i, hst, ⟨hjP, hjK, hjN⟩⟩
      refine vw_seq_k fun K15 hK15 => ?_
      refine vw_seq_k fun K16 hK16 => ?_
      refine vw_sc 0 [] ?_
      simp only [bs, ↓vopx, ↓vop, Nat.reduceBEq, thenV, Nat.reduceLT, opII, hl, k3, h_i, wocs, ↓goc, ↓woc, ↓vopm0, len_tInts, Tryd.underlying26]
      refine hK16 _ _ ?_
      refine vw_cond_k fun A B hA hB => ?_
      simp only [condV, ev_hit, length_putv, Nat.reduceLT, decide_eq_true_eq, decide_eq_false_iff_not, hl]
      refine ⟨fun hc65 => hA ?_, fun hc65 => hB ?_⟩
      · clear hA hB A B
        refine vw_skip ?_
        refine hK15 _ _ ?_
        refine vw_seq_k fun K17 hK17 => ?_
        refine vw_block ?_
        obtain ⟨y, hy, hyl⟩ := arr_at kf (i := i) (by omega)
        obtain ⟨z, hz, hzl⟩ := arr_at kg (i := i) (by omega)
        have hz2 : (gMv b g)[i]? = some ((z + b.labels.length : Nat) : Int) := by rw [List.getElem?_map, hz]; simp
        have hjl := joinsL_length (rangeI (b.labels.length + c.labels.length)) f (gMv b g) i
        rw [rangeI_length] at hjl
        have hif : i < f.length := by omega
        have hig : i < g.length := by omega
        refine vw_chain Tryd.mixed 11 [0, 0, 0, 1, 1, 0, 0, 1, 1, 0, 0] [] [.stop] 0 (by decide +kernel) (by simp [length_putv, hl]) rfl ?_
        simp only [bs, ↓vopx, ↓vop, Nat.reduceBEq, thenV, blockV, Nat.reduceLT, dLoad, vpart, opII, hl, k3, k4, k14, k15, h_i, wocs, ↓goc, ↓woc, ↓vopm1, ↓callC, calleeV, chn, ↓goq, ↓woq, List.zip_cons_cons, List.zip_nil_right, Tryd.ag3, Tryd.sz3, Tryd.un26, hy, hz, Int.toNat_natCast]
        repeat (refine And.intro (by first | omega | exact ⟨by omega, by omega⟩) ?_)
        rw [show ((z : Int) + (b.labels.length : Int)) = ((z + b.labels.length : Nat) : Int) from by push_cast; rfl]
        refine ⟨Tryd.is67, (refUJoin_ s1 p m _ hjP (by omega) y (z + b.labels.length) (by omega) (by omega)).mono fun v s2 hv => ?_⟩
        have hj2k := hv.keep hum hjK
        obtain ⟨⟨bb, rfl⟩, hj2, hbt, hbn⟩ := hv
        try simp only [bs, Nat.reduceBEq, k3, k4, k14, k15, h_i, Hold]
        refine hK17 _ _ ?_
        refine vw_sc 0 [] ?_
        simp only [bs, ↓vopx, ↓vop, Nat.reduceBEq, thenV, flat, Nat.reduceLT, opII, hl, k3, k4, k6, k7, k10, k14, k15, h_i, wocs, ↓goc, ↓woc, ↓vopm0]
        repeat ((with_reducible refine And.intro ?_ ?_); · exact ⟨by omega, by omega⟩)
        refine ⟨f.length - (i + 1), by omega, i + 1, rfl, by omega, ?_⟩
        try simp only [ev_hit, ev_miss, Nat.reduceBEq, length_putv, hl, k3, k4, k6, k7, k10, k14, k15, h_i, if_true, if_false, Nat.reduceEqDiff, Nat.reduceLT, true_and, and_true]
        repeat ((with_reducible refine And.intro ?_ ?_); · trivial)
        rw [joinsL_succ hy hz2, Int.toNat_natCast, Int.toNat_natCast]
        exact ⟨hj2, hj2k, by omega⟩
      · clear hA hB A B
        have han : f.length = i := by omega
        refine vw_exit ?_
        simp only [thenV, blockV, if_true]
        refine hK13 _ _ ?_
        refine vw_seq_k fun K18 hK18 => ?_
        have h61 := hjK _ _ (by omega) hn6
        have h71 := hjK _ _ (by omega) hn7
        refine vw_sc 0 [.pur (vObj (besideS b c)), .stop] ?_
        simp only [bs, Nat.reduceAdd, ↓vopx, ↓vop, Nat.reduceBEq, thenV, Nat.reduceLT, V.cells, dLoad, vpart, hl, k6, k7, k15, wocs, ↓goc, ↓woc, ↓vopm0, ↓callC, calleeV, Tryd.ag25, Tryd.sz25, h61, h71]
        refine ⟨⟨Tryd.is69, beside69 b c hb1 (by omega) hc1 (by omega) hoc⟩, ?_⟩
        refine ⟨Tryd.is68, DCall.v (glued_ s1 p m _ hjP (wfU_joins _ _ _ _) (besideS b c) hobc hop (by rw [joinsL_length, rangeI_length, hol])) ?_⟩
        try simp only [bs, Nat.reduceAdd, Nat.reduceBEq, Nat.reduceLT, hl, k15, Tryd.sz25, Tryd.zv25, Nat.le_refl, Hold]
        refine hK18 _ _ ?_
        refine vw_seq_k fun K19 hK19 => ?_
        refine vw_st fun sX hSX => ?_
        have hx17 : sX.m s1.next = some (.box 25 [.t (tStrs (gluedS (besideS b c) (placesL (joinsL (rangeI (b.labels.length + c.labels.length)) f (gMv b g) i))).labels), .t (tPairs (gluedS (besideS b c) (placesL (joinsL (rangeI (b.labels.length + c.labels.length)) f (gMv b g) i))).pairs)]) := by rw [hSX, m_set, if_pos rfl]
        have hxs : ∀ j, j < s1.next → sX.m j = s1.m j := fun j hj => by rw [hSX, m_set, if_neg (by omega), m_add, if_neg (by omega)]
        have hx10 : sX.m (s.next + 1 + 1 + 1) = some (.box 25 [.t (.v (.slice none 0 0)), .t (.v (.slice none 0 0))]) := by rw [hxs _ (by omega)]; exact hjK _ _ (by omega) hn10
        have hxk : ∀ j x, j < s.next → s.m j = some x → sX.m j = some x := fun j x hj hx => by rw [hxs _ (by omega)]; exact hjK _ _ (by omega) (by rw [hnk j hj]; exact hx)
        clear hSX
        have hn17 : ¬ s1.next = s.next + 1 + 1 + 1 := by omega
        have hpl : (placesL (joinsL (rangeI (b.labels.length + c.labels.length)) f (gMv b g) i)).length = b.labels.length + c.labels.length := by rw [placesL_length, joinsL_length, rangeI_length]
        refine vw_chain_del (s.next + 1 + 1 + 1) Tryd.mixed 9 [1, 0, 0, 2, 0, 0, 2, 3, 0] [] [] 0 (by decide +kernel) (by simp [length_putv, hl]) rfl ?_
        simp only [bs, Nat.reduceAdd, ↓vopx, ↓vop, Nat.reduceBEq, thenV, flat, Nat.reduceLT, V.cells, dLoad, vpart, hl, k10, k14, wocs, ↓goc, ↓woc, ↓vopm0, ↓vopm1, chn, ↓goq, ↓woq, List.zip_cons_cons, List.zip_nil_right, Tryd.ag25, Tryd.sl26, Tryd.sz25, Nat.le_refl, hx17, hx10, hpl, bnd, vflat, Nat.div_one]
        repeat ((with_reducible refine And.intro ?_ ?_); · first | omega | exact keep_del_set _ _ _)
        refine hK19 _ _ ?_
        refine vw_ret ?_
        have hres : vSum (pushR a b c f g) = pack [vObj (gluedS (besideS b c) (placesL (joinsL (rangeI (b.labels.length + c.labels.length)) f (gMv b g) i))), .t (tInts ((placesL (joinsL (rangeI (b.labels.length + c.labels.length)) f (gMv b g) i)).take b.labels.length)), .t (tInts ((placesL (joinsL (rangeI (b.labels.length + c.labels.length)) f (gMv b g) i)).drop b.labels.length)), I 0] := by simp [pushR, vSum, puPl, ka, kb, kc, kf, kg, han]; rfl
        rw [hres] at hQ
        refine hQ _ _ _ (.inr rfl) ?_
        refine done_flat (vs := [vObj (gluedS (besideS b c) (placesL (joinsL (rangeI (b.labels.length + c.labels.length)) f (gMv b g) i))), .t (tInts ((placesL (joinsL (rangeI (b.labels.length + c.labels.length)) f (gMv b g) i)).take b.labels.length)), .t (tInts ((placesL (joinsL (rangeI (b.labels.length + c.labels.length)) f (gMv b g) i)).drop b.labels.length)), I 0]) ?_ rfl (by simp [pack, nm, nm2, nm1, nm0]) (fun n x hn h => by rw [m_set, if_neg (by omega)]; exact hxk n x hn h)
        show vres Tryd.prog _ _ [.cell 10 25, .tmp 11, .tmp 12, .tmp 13] = _
        simp only [vres_cell, vres_tmp, vres_nil, ev_hit, ev_miss, Nat.reduceBEq, length_putv, hl, k10, Tryd.sz25, Tryd.ag25, dLoad, m_set, vpart, if_true, Nat.reduceLT, List.drop_zero, List.take_succ_cons, List.take_zero, List.length_cons, List.length_nil, Nat.zero_add, Nat.reduceAdd]
        simp [List.map_take, List.map_drop]
        exact List.take_of_length_le (by rw [List.length_drop, List.length_map, hpl]; omega)

end Go.Proofs

open Go Go.V
namespace Go.Proofs

theorem push_pl {a b c : Ob} {f g : List Int} {q : Ob} {i j : List Int} (hR : pushR a b c f g = (q, i, j, 0)) :
    i ++ j = puPl b c f g ∧ i.length = b.labels.length ∧ j.length = c.labels.length ∧ q = gluedS (besideS b c) (puPl b c f g) ∧ arrS a b f = true ∧ arrS a c g = true ∧ b.labels.length + c.labels.length ≤ 40 := by
  unfold pushR at hR
  split at hR
  · simp at hR
  · rename_i hlg
    split at hR
    · rename_i har
      simp only [not_or] at hlg
      rw [largeS_two] at hlg
      have h2 := hlg.2.2
      simp only [decide_eq_true_eq] at h2
      simp only [Prod.mk.injEq] at hR
      obtain ⟨rfl, rfl, rfl, _⟩ := hR
      have hl := puPl_len b c f g
      exact ⟨List.take_append_drop _ _, by rw [List.length_take]; omega, by rw [List.length_drop]; omega, rfl, har.1, har.2, by omega⟩
    · simp at hR
/-- what takes the same value at what is made one, does so wherever places are the same -/
theorem pu_univ {β : Type} {a b c : Ob} {f g : List Int} (hf : arrS a b f = true) (hg : arrS a c g = true) (H : Nat → β) (hH : ∀ (k : Nat) (y z : Int), f[k]? = some y → (gMv b g)[k]? = some z → H y.toNat = H z.toNat)
    {p p' : Nat} {v : Int} (hp : (puPl b c f g)[p]? = some v) (hp' : (puPl b c f g)[p']? = some v) : H p = H p' := by
  obtain ⟨r1, r2, r3⟩ := push_rep hf hg
  obtain ⟨hok, hRl⟩ := joins_ok _ f (gMv b g) r1 r2 f.length (Nat.le_refl _) (by omega)
  have hinv := joins_inv _ f (gMv b g) r1 r2 H f.length (Nat.le_refl _) (by omega) (fun i y z _ hy hz => hH i y z hy hz)
  have hl := puPl_len b c f g
  have get : ∀ {p : Nat}, (puPl b c f g)[p]? = some v → ∃ z : Int, (joinsL (rangeI (b.labels.length + c.labels.length)) f (gMv b g) f.length)[p]? = some z ∧ (fstL (puPl b c f g) (joinsL (rangeI (b.labels.length + c.labels.length)) f (gMv b g) f.length).length)[v.toNat]? = some z.toNat := by
    intro p hp
    have hpl := (List.getElem?_eq_some_iff.1 hp).1
    obtain ⟨z, hz⟩ : ∃ z, (joinsL (rangeI (b.labels.length + c.labels.length)) f (gMv b g) f.length)[p]? = some z := ⟨_, List.getElem?_eq_getElem (by omega)⟩
    obtain ⟨k, hk, hf⟩ := fst_at hok hz
    change (puPl b c f g)[p]? = _ at hk
    rw [hp] at hk
    cases hk
    exact ⟨z, hz, by rw [Int.toNat_natCast]; exact hf⟩
  obtain ⟨z, hz, h1⟩ := get hp
  obtain ⟨z', hz', h2⟩ := get hp'
  rw [h1] at h2
  have e1 := hinv p z hz
  have e2 := hinv p' z' hz'
  have : z.toNat = z'.toNat := by simpa using h2
  rw [← e1, ← e2, this]
theorem putL_val {o l w : List Int} (hlw : l.length = w.length) : ∀ (x : Nat), x ≤ l.length → ∀ (v : Nat) (z : Int), v < o.length → (∀ x', x' < x → l[x']? = some (v : Int) → w[x']? = some z) → (∀ y ∈ l, (0 : Int) ≤ y) →
    ((∃ x', x' < x ∧ l[x']? = some (v : Int)) ∨ o[v]? = some z) → (putL o l w x)[v]? = some z
  | 0, _, v, z, _, _, _, h => by
    rcases h with ⟨x', hx', _⟩ | h
    · omega
    · exact h
  | x + 1, hx, v, z, hv, hw, h0, h => by
    obtain ⟨y, hy⟩ : ∃ y, l[x]? = some y := ⟨_, List.getElem?_eq_getElem (by omega)⟩
    obtain ⟨u, hu⟩ : ∃ u, w[x]? = some u := ⟨_, List.getElem?_eq_getElem (by omega)⟩
    have hy0 := h0 y (List.mem_of_getElem? hy)
    rw [putL_succ hy hu, List.getElem?_set, putL_len]
    split
    · rename_i he
      have : y = (v : Int) := by omega
      subst this
      have := hw x (by omega) hy
      rw [hu] at this
      rw [if_pos (by omega)]; exact this
    · rename_i hne
      refine putL_val hlw x (by omega) v z hv (fun x' hx' => hw x' (by omega)) h0 ?_
      rcases h with ⟨x', hx', hl'⟩ | h
      · by_cases hxx : x' = x
        · subst hxx
          rw [hy] at hl'; cases hl'
          exact absurd (by simp) hne
        · exact .inl ⟨x', by omega, hl'⟩
      · exact .inr h
/-- what the map out is at a place -/
theorem out_at {n : Nat} {i j h k : List Int} (hi : i.length = h.length) (hj : j.length = k.length) (bi : ∀ y ∈ i, (0 : Int) ≤ y ∧ y < n) (bj : ∀ y ∈ j, (0 : Int) ≤ y ∧ y < n)
    (hc : ∀ (p p' : Nat) (v : Int), (i ++ j)[p]? = some v → (i ++ j)[p']? = some v → (h ++ k)[p]? = (h ++ k)[p']?) {p : Nat} {v : Int} (hp : (i ++ j)[p]? = some v) : (outS n [i, j] [h, k])[v.toNat]? = (h ++ k)[p]? := by
  have hv : 0 ≤ v ∧ v < n := by
    rcases List.mem_append.1 (List.mem_of_getElem? hp) with hm | hm
    · exact bi v hm
    · exact bj v hm
  have hpl : p < (h ++ k).length := by have := (List.getElem?_eq_some_iff.1 hp).1; simp only [List.length_append] at this ⊢; omega
  obtain ⟨z, hz⟩ : ∃ z, (h ++ k)[p]? = some z := ⟨_, List.getElem?_eq_getElem hpl⟩
  have e : outS n [i, j] [h, k] = putL (putL (List.replicate n (-1)) i h i.length) j k j.length := by
    show outK n [i, j] [h, k] 2 = _
    rw [outK_put (i := 1) (l := j) (w := k) rfl rfl hj, outK_put (i := 0) (l := i) (w := h) rfl rfl hi]; rfl
  have hv2 : ((v.toNat : Nat) : Int) = v := by omega
  have left : ∀ x', x' < i.length → i[x']? = some v → h[x']? = some z := fun x' hx' hix => by
    have := hc p x' v hp (by rw [List.getElem?_append_left hx']; exact hix)
    rw [hz, List.getElem?_append_left (by omega)] at this
    exact this.symm
  have right : ∀ x', x' < j.length → j[x']? = some v → k[x']? = some z := fun x' hx' hjx => by
    have := hc p (i.length + x') v hp (by rw [List.getElem?_append_right (by omega), show i.length + x' - i.length = x' by omega]; exact hjx)
    rw [hz, List.getElem?_append_right (by omega), show i.length + x' - h.length = x' by omega] at this
    exact this.symm
  rw [hz, e]
  refine putL_val hj j.length (Nat.le_refl _) v.toNat z (by rw [putL_len]; simp; omega) (by rw [hv2]; exact right) (fun y hy => (bj y hy).1) ?_
  rw [hv2]
  by_cases hpi : p < i.length
  · right
    rw [List.getElem?_append_left hpi] at hp
    exact putL_val hi i.length (Nat.le_refl _) v.toNat z (by simp; omega) (by rw [hv2]; exact left) (fun y hy => (bi y hy).1) (.inl ⟨p, hpi, by rw [hv2]; exact hp⟩)
  · left
    have hpj := (List.getElem?_eq_some_iff.1 hp).1
    rw [List.length_append] at hpj
    rw [List.getElem?_append_right (by omega)] at hp
    exact ⟨p - i.length, by omega, hp⟩
end Go.Proofs

open Go Go.V
namespace Go.Proofs

theorem cloK_leastP {M : Mx} {T : Nat → Nat → Prop} (hT : ∀ a k b, T a k → T k b → T a b) (h : ∀ a b, M a b = true → T a b) : ∀ k a b, cloK M k a b = true → T a b
  | 0, a, b, hm => h a b hm
  | k + 1, a, b, hm => by
    rw [cloK_succ] at hm
    simp only [fwk, Bool.or_eq_true, Bool.and_eq_true] at hm
    rcases hm with hm | ⟨h1, h2⟩
    · exact cloK_leastP hT h k a b hm
    · exact hT a k b (cloK_leastP hT h k _ _ h1) (cloK_leastP hT h k _ _ h2)
structure MedS (q : Ob) (i j : List Int) (d : Ob) (h k u : List Int) : Prop where
  ar : arrS q d u = true
  t1 : thenS i u = (h, true)
  t2 : thenS j u = (k, true)
  un : ∀ o, arrS q d o = true → ((thenS i o).1 == h && (thenS j o).1 == k) = (o == u)
theorem co_iff {a b c : Ob} {f g : List Int} {d : Ob} {h k : List Int} (h0 : coS a b c f g d h k = true) : arrS a b f = true ∧ arrS a c g = true ∧ arrS b d h = true ∧ arrS c d k = true ∧ (thenS f h).1 = (thenS g k).1 := by
  simp only [coS, Bool.and_eq_true, beq_iff_eq] at h0
  exact h0
/-- labels and pairs of the object that is put together come from both -/
theorem med_of {a b c : Ob} {f g : List Int} {q : Ob} {i j hh : List Int} {d : Ob} {h k : List Int} (hR : pushR a b c f g = (q, i, j, 0)) (hS : SqS b c f g q i j hh) (h0 : coS a b c f g d h k = true) :
    MedS q i j d h k (outS q.labels.length [i, j] [h, k]) := by
  obtain ⟨e1, e2, e3, e4, hf, hg, hl40⟩ := push_pl hR
  obtain ⟨_, _, ah, ak, hco⟩ := co_iff h0
  have bi := map_all (arrS_iff.1 hS.a1).2.2.1
  have bj := map_all (arrS_iff.1 hS.a2).2.2.1
  have mh := (arrS_iff.1 ah).2.2.1
  have mk := (arrS_iff.1 ak).2.2.1
  have hhl := allY_length mh
  have hkl := allY_length mk
  have wi : i.length = h.length := by omega
  have wj : j.length = k.length := by omega
  have hb := (arrS_iff.1 hf).2.1
  have hc := (arrS_iff.1 hg).2.1
  have hd := (arrS_iff.1 ah).2.1
  have mf := (arrS_iff.1 hf).2.2.1
  have mg := (arrS_iff.1 hg).2.2.1
  have hfl := allY_length mf
  have hgl := allY_length mg
  -- both ways out take the same value in each class
  have hH : ∀ (m : Nat) (y z : Int), f[m]? = some y → (gMv b g)[m]? = some z → (h ++ k)[y.toNat]? = (h ++ k)[z.toNat]? := fun m y z hy hz => by
    obtain ⟨w, hw, rfl⟩ := mv_get hz
    have b1 := map_all mf y (List.mem_of_getElem? hy)
    have b2 := map_all mg w (List.mem_of_getElem? hw)
    have t1 := thenS_ok (f := f) (g := h) (fun y hy => by have := map_all mf y hy; omega)
    have t2 := thenS_ok (f := g) (g := k) (fun y hy => by have := map_all mg y hy; omega)
    rw [t1, t2] at hco
    have := congrArg (fun l => l[m]?) hco
    simp only [List.getElem?_map, hy, hw, Option.map_some, Option.some.injEq] at this
    rw [List.getElem?_append_left (by omega), List.getElem?_append_right (by omega), show (w + (b.labels.length : Int)).toNat - h.length = w.toNat by omega, List.getElem?_eq_getElem (show y.toNat < h.length by omega), List.getElem?_eq_getElem (show w.toNat < k.length by omega)]
    rw [List.getD_eq_getElem?_getD, List.getD_eq_getElem?_getD, List.getElem?_eq_getElem (show y.toNat < h.length by omega), List.getElem?_eq_getElem (show w.toNat < k.length by omega)] at this
    simpa using this
  have hcon : ∀ (p p' : Nat) (v : Int), (i ++ j)[p]? = some v → (i ++ j)[p']? = some v → (h ++ k)[p]? = (h ++ k)[p']? := fun p p' v hp hp' => by
    rw [e1] at hp hp'
    exact pu_univ hf hg (fun p => (h ++ k)[p]?) hH hp hp'
  have hat : ∀ {p : Nat} {v : Int}, (i ++ j)[p]? = some v → (outS q.labels.length [i, j] [h, k])[v.toNat]? = (h ++ k)[p]? := fun hp => out_at wi wj bi bj hcon hp
  have hul : (outS q.labels.length [i, j] [h, k]).length = q.labels.length := outK_len _ _ _ _
  generalize outS q.labels.length [i, j] [h, k] = u at hat hul
  have t1 : thenS i u = (h, true) := by
    rw [thenS_ok (fun y hy => by have := bi y hy; omega)]
    congr 1
    apply List.ext_getElem?
    intro p
    rw [List.getElem?_map]
    by_cases hp : p < i.length
    · have hq : (i ++ j)[p]? = some i[p] := by rw [List.getElem?_append_left hp, List.getElem?_eq_getElem hp]
      have := hat hq
      rw [List.getElem?_append_left (by omega)] at this
      rw [List.getElem?_eq_getElem hp, Option.map_some, List.getD_eq_getElem?_getD, this, List.getElem?_eq_getElem (show p < h.length by omega)]; rfl
    · rw [List.getElem?_eq_none (by omega), List.getElem?_eq_none (by omega)]; rfl
  have t2 : thenS j u = (k, true) := by
    rw [thenS_ok (fun y hy => by have := bj y hy; omega)]
    congr 1
    apply List.ext_getElem?
    intro p
    rw [List.getElem?_map]
    by_cases hp : p < j.length
    · have hq : (i ++ j)[i.length + p]? = some j[p] := by rw [List.getElem?_append_right (by omega), show i.length + p - i.length = p by omega, List.getElem?_eq_getElem hp]
      have := hat hq
      rw [List.getElem?_append_right (by omega), show i.length + p - h.length = p by omega] at this
      rw [List.getElem?_eq_getElem hp, Option.map_some, List.getD_eq_getElem?_getD, this, List.getElem?_eq_getElem (show p < k.length by omega)]; rfl
    · rw [List.getElem?_eq_none (by omega), List.getElem?_eq_none (by omega)]; rfl
  -- each element of q is one of i or j
  have onto : ∀ v : Nat, v < q.labels.length → ∃ p : Nat, (i ++ j)[p]? = some (v : Int) := fun v hv => List.getElem?_of_mem (hS.on v hv)
  refine ⟨?_, t1, t2, fun o ho => ?_⟩
  · refine arr_of (arrS_iff.1 hS.a1).2.1 hd hul (fun v y la hy hla => ?_) fun x y hm => ?_
    · have hv := (List.getElem?_eq_some_iff.1 hla).1
      obtain ⟨p, hp⟩ := onto v hv
      have hpu := hat hp
      rw [Int.toNat_natCast, hy] at hpu
      have hpl := (List.getElem?_eq_some_iff.1 hp).1
      rw [List.length_append] at hpl
      by_cases hpi : p < i.length
      · rw [List.getElem?_append_left hpi] at hp
        rw [List.getElem?_append_left (by omega)] at hpu
        have l1 := lab_at hS.a1 hp
        obtain ⟨lb, k1, k2, k3⟩ := mapOK_iff.1 (allY_at mh hpu.symm (List.getElem?_eq_getElem (show p < b.labels.length by omega)))
        refine ⟨lb, k1, k2, ?_⟩
        rw [← k3]
        rw [Int.toNat_natCast, List.getD_eq_getElem?_getD, hla, List.getD_eq_getElem?_getD, List.getElem?_eq_getElem (show p < b.labels.length by omega)] at l1
        exact l1
      · rw [List.getElem?_append_right (by omega)] at hp
        rw [List.getElem?_append_right (by omega), ← wi] at hpu
        have l1 := lab_at hS.a2 hp
        obtain ⟨lb, k1, k2, k3⟩ := mapOK_iff.1 (allY_at mk hpu.symm (List.getElem?_eq_getElem (show p - i.length < c.labels.length by omega)))
        refine ⟨lb, k1, k2, ?_⟩
        rw [← k3]
        rw [Int.toNat_natCast, List.getD_eq_getElem?_getD, hla, List.getD_eq_getElem?_getD, List.getElem?_eq_getElem (show p - i.length < c.labels.length by omega)] at l1
        exact l1
    · -- pairs: the closure goes into the pairs of d
      have hT : ∀ x z y : Nat, (∃ s t : Nat, u[x]? = some (s : Int) ∧ u[z]? = some (t : Int) ∧ mxOf d.pairs s t = true) → (∃ s t : Nat, u[z]? = some (s : Int) ∧ u[y]? = some (t : Int) ∧ mxOf d.pairs s t = true) → (∃ s t : Nat, u[x]? = some (s : Int) ∧ u[y]? = some (t : Int) ∧ mxOf d.pairs s t = true) := fun x z y h1 h2 => by
        obtain ⟨s1, t1, a1, a2, a3⟩ := h1
        obtain ⟨s2, t2, b1, b2, b3⟩ := h2
        rw [a2] at b1
        have : t1 = s2 := by have := Option.some.inj b1; omega
        subst this
        exact ⟨s1, t2, a1, b2, hd.trans _ _ _ a3 b3⟩
      have hbase : ∀ x y, glMx (besideS b c) (puPl b c f g) x y = true → (∃ s t : Nat, u[x]? = some (s : Int) ∧ u[y]? = some (t : Int) ∧ mxOf d.pairs s t = true) := fun x y hg' => by
        simp only [glMx, List.any_eq_true, Bool.and_eq_true, beq_iff_eq] at hg'
        obtain ⟨r, hr, hx, hy⟩ := hg'
        have hpl := puPl_len b c f g
        have atp : ∀ z : Nat, z < b.labels.length + c.labels.length → ∃ v : Int, (i ++ j)[z]? = some v ∧ v.toNat = atN (puPl b c f g) z := fun z hz => by
          refine ⟨(puPl b c f g)[z], by rw [e1, List.getElem?_eq_getElem (by omega)], ?_⟩
          unfold atN
          rw [Int.toNat_natCast, List.getD_eq_getElem?_getD, List.getElem?_eq_getElem (by omega)]; rfl
        simp only [besideS] at hr
        rcases List.mem_append.1 hr with hr | hr
        · have hin := inB_iff.1 ((List.all_eq_true.1 hb.inb) r hr)
          obtain ⟨s, t, k1, k2, k3⟩ := arr_pair ah (x := r.1.toNat) (y := r.2.toNat) (mxOf_iff.2 ⟨r, hr, rfl, rfl⟩)
          obtain ⟨v1, hv1, ha1⟩ := atp r.1.toNat (by omega)
          obtain ⟨v2, hv2, ha2⟩ := atp r.2.toNat (by omega)
          have g1 := hat hv1
          have g2 := hat hv2
          rw [List.getElem?_append_left (by omega), k1] at g1
          rw [List.getElem?_append_left (by omega), k2] at g2
          rw [show ((r.1.toNat : Nat) : Int) = r.1 by omega, hx] at ha1
          rw [show ((r.2.toNat : Nat) : Int) = r.2 by omega, hy] at ha2
          exact ⟨s, t, by rw [← ha1]; exact g1, by rw [← ha2]; exact g2, k3⟩
        · obtain ⟨r', hr', rfl⟩ := List.mem_map.1 hr
          have hin := inB_iff.1 ((List.all_eq_true.1 hc.inb) r' hr')
          obtain ⟨s, t, k1, k2, k3⟩ := arr_pair ak (x := r'.1.toNat) (y := r'.2.toNat) (mxOf_iff.2 ⟨r', hr', rfl, rfl⟩)
          obtain ⟨v1, hv1, ha1⟩ := atp (r'.1.toNat + b.labels.length) (by omega)
          obtain ⟨v2, hv2, ha2⟩ := atp (r'.2.toNat + b.labels.length) (by omega)
          have g1 := hat hv1
          have g2 := hat hv2
          rw [List.getElem?_append_right (by omega), show r'.1.toNat + b.labels.length - h.length = r'.1.toNat by omega, k1] at g1
          rw [List.getElem?_append_right (by omega), show r'.2.toNat + b.labels.length - h.length = r'.2.toNat by omega, k2] at g2
          simp only [shP] at hx hy
          rw [show ((r'.1.toNat + b.labels.length : Nat) : Int) = r'.1 + b.labels.length by omega, hx] at ha1
          rw [show ((r'.2.toNat + b.labels.length : Nat) : Int) = r'.2 + b.labels.length by omega, hy] at ha2
          exact ⟨s, t, by rw [← ha1]; exact g1, by rw [← ha2]; exact g2, k3⟩
      have ho := beside_ob hb hc hl40
      have hq2 : q.pairs = pairsOf (glN (puPl b c f g)) (cloK (glMx (besideS b c) (puPl b c f g)) (glN (puPl b c f g))) := by rw [e4]; rfl
      obtain ⟨r1, r2, r3⟩ := push_rep hf hg
      obtain ⟨hok, hRl⟩ := joins_ok _ f (gMv b g) r1 r2 f.length (Nat.le_refl _) (by omega)
      have hpo : PlOK (puPl b c f g) := places_ok hok.wf
      rw [hq2, mxOf_pairsOf (cloK_within (glMx_within ho (by rw [puPl_len]; simp [besideS]) hpo) _)] at hm
      exact cloK_leastP (T := fun x y => ∃ s t : Nat, u[x]? = some (s : Int) ∧ u[y]? = some (t : Int) ∧ mxOf d.pairs s t = true) hT hbase _ _ _ hm
  · have mo := (arrS_iff.1 ho).2.2.1
    have hol := allY_length mo
    have o1 := thenS_ok (f := i) (g := o) (fun y hy => by have := bi y hy; omega)
    have o2 := thenS_ok (f := j) (g := o) (fun y hy => by have := bj y hy; omega)
    rw [Bool.eq_iff_iff, Bool.and_eq_true, beq_iff_eq, beq_iff_eq, beq_iff_eq]
    constructor
    · rintro ⟨h1, h2⟩
      apply List.ext_getElem?
      intro v
      by_cases hv : v < q.labels.length
      · obtain ⟨p, hp⟩ := onto v hv
        have hu := hat hp
        rw [Int.toNat_natCast] at hu
        rw [hu]
        have hpl := (List.getElem?_eq_some_iff.1 hp).1
        rw [List.length_append] at hpl
        by_cases hpi : p < i.length
        · rw [List.getElem?_append_left hpi] at hp
          rw [List.getElem?_append_left (by omega), ← h1, o1]
          simp only [List.getElem?_map, hp, Option.map_some, Int.toNat_natCast]
          rw [List.getD_eq_getElem?_getD, List.getElem?_eq_getElem (by omega)]; rfl
        · rw [List.getElem?_append_right (by omega)] at hp
          rw [List.getElem?_append_right (by omega), ← wi, ← h2, o2]
          simp only [List.getElem?_map, hp, Option.map_some, Int.toNat_natCast]
          rw [List.getD_eq_getElem?_getD, List.getElem?_eq_getElem (by omega)]; rfl
      · rw [List.getElem?_eq_none (by omega), List.getElem?_eq_none (by omega)]
    · rintro rfl
      exact ⟨by rw [t1], by rw [t2]⟩
end Go.Proofs

open Go Go.V
namespace Go.Proofs
theorem nc0' : ((0 : Nat) : Int) = 0 := rfl

end Go.Proofs

open Go Go.V
namespace Go.Proofs

theorem then_assoc {i x y : List Int} (hi : ∀ z ∈ i, 0 ≤ z ∧ z < (x.length : Int)) (hx : ∀ z ∈ x, 0 ≤ z ∧ z < (y.length : Int)) : (thenS i (thenS x y).1).1 = (thenS (thenS i x).1 y).1 := by
  rw [thenS_ok hx, thenS_ok hi]
  rw [thenS_ok (fun z hz => by rw [List.length_map]; exact hi z hz), thenS_ok (f := i.map _) (fun z hz => by
    obtain ⟨w, hw, rfl⟩ := List.mem_map.1 hz
    have := hi w hw
    rw [List.getD_eq_getElem?_getD, List.getElem?_eq_getElem (show w.toNat < x.length by omega)]
    exact hx _ (List.getElem_mem _))]
  simp only [List.map_map]
  refine List.map_congr_left fun w hw => ?_
  have := hi w hw
  simp [List.getD_eq_getElem?_getD, List.getElem?_eq_getElem (show w.toNat < x.length by omega)]
theorem code_swap (a b c : Ob) (f g : List Int) : (pushR a b c f g).2.2.2 = (pushR a c b g f).2.2.2 := by
  unfold pushR
  simp only [largeS_one, largeS_two, decide_eq_true_eq]
  have hc : (40 < a.labels.length ∨ 40 < b.labels.length ∨ 40 < b.labels.length + c.labels.length) ↔ (40 < a.labels.length ∨ 40 < c.labels.length ∨ 40 < c.labels.length + b.labels.length) := by omega
  by_cases h : 40 < a.labels.length ∨ 40 < b.labels.length ∨ 40 < b.labels.length + c.labels.length
  · rw [if_pos h, if_pos (hc.1 h)]
  · rw [if_neg h, if_neg (fun k => h (hc.2 k))]
    by_cases h2 : arrS a b f = true ∧ arrS a c g = true
    · rw [if_pos h2, if_pos h2.symm]
    · rw [if_neg h2, if_neg fun h3 => h2 h3.symm]
theorem co_of_sq {a b c : Ob} {f g : List Int} {q : Ob} {i j hh : List Int} (hf : arrS a b f = true) (hg : arrS a c g = true) (hS : SqS b c f g q i j hh) : coS a b c f g q i j = true := by
  simp only [coS, Bool.and_eq_true, beq_iff_eq]
  exact ⟨hf, hg, hS.a1, hS.a2, by rw [hS.t1, hS.t2]⟩
/-- only what moves nothing comes to both legs behind themselves -/
theorem own_id {a b c : Ob} {f g : List Int} {q : Ob} {i j hh : List Int} (hR : pushR a b c f g = (q, i, j, 0)) (hS : SqS b c f g q i j hh) : outS q.labels.length [i, j] [i, j] = idS (q.labels.length : Int) := by
  obtain ⟨_, _, _, _, hf, hg, _⟩ := push_pl hR
  have hM := med_of hR hS (co_of_sq hf hg hS)
  have hq := (arrS_iff.1 hS.a1).2.1
  have := hM.un (idS q.labels.length) (id_arr hq)
  rw [then_id_right hq.le (map_all (arrS_iff.1 hS.a1).2.2.1), then_id_right hq.le (map_all (arrS_iff.1 hS.a2).2.2.1)] at this
  simp only [beq_self_eq_true, Bool.and_self] at this
  exact (beq_iff_eq.1 this.symm).symm
structure SwS (q p : Ob) (i j k l x y : List Int) : Prop where
  ix : (thenS i x).1 = l
  jx : (thenS j x).1 = k
  inv : invS q p x y = true
theorem sw_of {a b c : Ob} {f g : List Int} {q p : Ob} {i j k l h1 h2 : List Int} (hR : pushR a b c f g = (q, i, j, 0)) (hS : SqS b c f g q i j h1) (hR2 : pushR a c b g f = (p, k, l, 0)) (hT : SqS c b g f p k l h2) :
    SwS q p i j k l (outS q.labels.length [i, j] [l, k]) (outS p.labels.length [l, k] [i, j]) := by
  obtain ⟨_, _, _, _, hf, hg, _⟩ := push_pl hR
  have c1 : coS a b c f g p l k = true := by
    simp only [coS, Bool.and_eq_true, beq_iff_eq]
    exact ⟨hf, hg, hT.a2, hT.a1, by rw [hT.t1, hT.t2]⟩
  have c2 : coS a c b g f q j i = true := by
    simp only [coS, Bool.and_eq_true, beq_iff_eq]
    exact ⟨hg, hf, hS.a2, hS.a1, by rw [hS.t1, hS.t2]⟩
  have hM := med_of hR hS c1
  have hN := med_of hR2 hT c2
  have li := allY_length (arrS_iff.1 hS.a1).2.2.1
  have lj := allY_length (arrS_iff.1 hS.a2).2.2.1
  have lk := allY_length (arrS_iff.1 hT.a1).2.2.1
  have ll := allY_length (arrS_iff.1 hT.a2).2.2.1
  have bk := map_all (arrS_iff.1 hT.a1).2.2.1
  have bl := map_all (arrS_iff.1 hT.a2).2.2.1
  have bi := map_all (arrS_iff.1 hS.a1).2.2.1
  have bj := map_all (arrS_iff.1 hS.a2).2.2.1
  have lu : (outS p.labels.length [k, l] [j, i]).length = p.labels.length := outK_len _ _ _ _
  -- the way back, told in the other order
  have hy : outS p.labels.length [l, k] [i, j] = outS p.labels.length [k, l] [j, i] := by
    have hval : ∀ (x : Nat) (v : Int), (l ++ k)[x]? = some v → (i ++ j)[x]? = (outS p.labels.length [k, l] [j, i])[v.toNat]? := fun x v hv => by
      have e1 := congrArg Prod.fst hN.t2
      have e2 := congrArg Prod.fst hN.t1
      rw [thenS_ok (fun z hz => by have := bl z hz; omega)] at e1
      rw [thenS_ok (fun z hz => by have := bk z hz; omega)] at e2
      simp only at e1 e2
      by_cases hx : x < l.length
      · rw [List.getElem?_append_left hx] at hv
        have hb := bl v (List.mem_of_getElem? hv)
        have e3 := congrArg (fun t => t[x]?) e1
        simp only [List.getElem?_map, hv, Option.map_some] at e3
        rw [List.getElem?_append_left (by omega), ← e3, List.getD_eq_getElem?_getD, List.getElem?_eq_getElem (show v.toNat < (outS p.labels.length [k, l] [j, i]).length by omega), Option.getD_some]
      · rw [List.getElem?_append_right (by omega)] at hv
        have hb := bk v (List.mem_of_getElem? hv)
        have e3 := congrArg (fun t => t[x - l.length]?) e2
        simp only [List.getElem?_map, hv, Option.map_some] at e3
        rw [List.getElem?_append_right (by omega), show x - i.length = x - l.length by omega, ← e3, List.getD_eq_getElem?_getD, List.getElem?_eq_getElem (show v.toNat < (outS p.labels.length [k, l] [j, i]).length by omega), Option.getD_some]
    apply List.ext_getElem?
    intro v
    by_cases hv : v < p.labels.length
    · have hm := hT.on v hv
      have hm2 : (v : Int) ∈ l ++ k := by rcases List.mem_append.1 hm with h | h; exact List.mem_append_right _ h; exact List.mem_append_left _ h
      obtain ⟨x, hx⟩ := List.getElem?_of_mem hm2
      have := out_at (n := p.labels.length) (i := l) (j := k) (h := i) (k := j) (by omega) (by omega) bl bk (fun x x' w h1 h2 => by rw [hval x w h1, hval x' w h2]) hx
      rw [Int.toNat_natCast] at this
      rw [this, hval x _ hx, Int.toNat_natCast]
    · rw [List.getElem?_eq_none (by rw [show (outS p.labels.length [l, k] [i, j]).length = p.labels.length from outK_len _ _ _ _]; omega), List.getElem?_eq_none (by omega)]
  rw [hy]
  have lx : (outS q.labels.length [i, j] [l, k]).length = q.labels.length := outK_len _ _ _ _
  generalize outS q.labels.length [i, j] [l, k] = x at *
  generalize outS p.labels.length [k, l] [j, i] = y at *
  have hix : (thenS i x).1 = l := by rw [hM.t1]
  have hjx : (thenS j x).1 = k := by rw [hM.t2]
  have hky : (thenS k y).1 = j := by rw [hN.t1]
  have hly : (thenS l y).1 = i := by rw [hN.t2]
  have bx := map_all (arrS_iff.1 hM.ar).2.2.1
  have by_ := map_all (arrS_iff.1 hN.ar).2.2.1
  refine ⟨hix, hjx, ?_⟩
  have z1 : (thenS x y).1 = idS (q.labels.length : Int) := by
    have hM0 := med_of hR hS (co_of_sq hf hg hS)
    have ha : arrS q q (thenS x y).1 = true := by rw [thenS_ok (f := x) (g := y) (fun z hz => by have := bx z hz; omega)]; exact then_arr hM.ar hN.ar
    have := hM0.un _ ha
    rw [then_assoc (fun z hz => by have := bi z hz; omega) (fun z hz => by have := bx z hz; omega), then_assoc (fun z hz => by have := bj z hz; omega) (fun z hz => by have := bx z hz; omega), hix, hjx, hly, hky] at this
    simp only [beq_self_eq_true, Bool.and_self] at this
    rw [beq_iff_eq.1 this.symm, own_id hR hS]
  have z2 : (thenS y x).1 = idS (p.labels.length : Int) := by
    have hN0 := med_of hR2 hT (co_of_sq hg hf hT)
    have ha : arrS p p (thenS y x).1 = true := by rw [thenS_ok (f := y) (g := x) (fun z hz => by have := by_ z hz; omega)]; exact then_arr hN.ar hM.ar
    have := hN0.un _ ha
    rw [then_assoc (fun z hz => by have := bk z hz; omega) (fun z hz => by have := by_ z hz; omega), then_assoc (fun z hz => by have := bl z hz; omega) (fun z hz => by have := by_ z hz; omega), hky, hly, hjx, hix] at this
    simp only [beq_self_eq_true, Bool.and_self] at this
    rw [beq_iff_eq.1 this.symm, own_id hR2 hT]
  unfold invS
  rw [hM.ar, hN.ar, z1, z2, lx, lu]
  simp
end Go.Proofs

open Go Go.V
namespace Go.Proofs
structure SwC (a b c : Ob) (f g : List Int) (q : Ob) (i j : List Int) (p : Ob) (k l x y : List Int) : Prop where
  s1 : ∃ hh, SqS b c f g q i j hh
  s2 : ∃ hh, SqS c b g f p k l hh
  sw : SwS q p i j k l x y
theorem sw_cases {a b c : Ob} {f g : List Int} {q : Ob} {i j : List Int} {e1 : Int} {p : Ob} {k l : List Int} {e2 : Int} {x y : List Int} {e : Int} (hR : pushR a b c f g = (q, i, j, e1)) (hR2 : pushR a c b g f = (p, k, l, e2)) (hw : swS a b c f g = (x, y, e)) :
    (e1 = e ∧ e2 = e) ∧ ((e ≠ 0 ∧ x = [] ∧ y = []) ∨ (e = 0 ∧ SwC a b c f g q i j p k l x y)) := by
  have hc := code_swap a b c f g
  rw [hR, hR2] at hc
  simp only at hc
  subst hc
  unfold swS at hw
  rw [hR, hR2] at hw
  by_cases h0 : e1 = 0
  · subst h0
    rw [if_neg (by simp), if_neg (by simp)] at hw
    simp only [Prod.mk.injEq] at hw
    obtain ⟨rfl, rfl, rfl⟩ := hw
    refine ⟨⟨rfl, rfl⟩, .inr ⟨rfl, ?_⟩⟩
    rcases push_cases a b c f g with ⟨e, he, h1⟩ | ⟨q', i', j', hh, h1, hS, _, _⟩
    · rw [hR] at h1; simp only [Prod.mk.injEq] at h1; exact absurd h1.2.2.2.symm he
    · rw [hR] at h1; simp only [Prod.mk.injEq] at h1; obtain ⟨rfl, rfl, rfl, _⟩ := h1
      rcases push_cases a c b g f with ⟨e, he, h2⟩ | ⟨p', k', l', hh2, h2, hT, _, _⟩
      · rw [hR2] at h2; simp only [Prod.mk.injEq] at h2; exact absurd h2.2.2.2.symm he
      · rw [hR2] at h2; simp only [Prod.mk.injEq] at h2; obtain ⟨rfl, rfl, rfl, _⟩ := h2
        exact ⟨⟨_, hS⟩, ⟨_, hT⟩, sw_of hR hS hR2 hT⟩
  · rw [if_pos h0] at hw
    simp only [Prod.mk.injEq] at hw
    obtain ⟨rfl, rfl, rfl⟩ := hw
    exact ⟨⟨rfl, rfl⟩, .inl ⟨h0, rfl, rfl⟩⟩

set_option maxRecDepth 20000 in
set_option maxHeartbeats 8000000 in
theorem lawSwaps_ (a b c : Ob) (f g : List Int) (ha1 : a.labels.length ≤ 9223372036854775807) (ha2 : a.pairs.length ≤ 9223372036854775807) (hb1 : b.labels.length ≤ 9223372036854775807) (hb2 : b.pairs.length ≤ 9223372036854775807) (hc1 : c.labels.length ≤ 9223372036854775807) (hc2 : c.pairs.length ≤ 9223372036854775807) : PCall Tryd.prog 15 [vObj a, vObj b, vObj c, .t (tInts f), .t (tInts g)] (Bo true) := by
  refine pcall_of_body Tryd.func15 rfl fun s Q hQ => ?_
  obtain ⟨e, he, hl, h0, h1, h2, h3, h4⟩ : ∃ e : Env, ([vObj a, vObj b, vObj c, .t (tInts f), .t (tInts g)] ++ List.replicate (Tryd.f15.ntmps - ([vObj a, vObj b, vObj c, .t (tInts f), .t (tInts g)] : List V).length) .junk) = e ∧ e.length = 128 ∧ ev e (.tmp 0) = vObj a ∧ ev e (.tmp 1) = vObj b ∧ ev e (.tmp 2) = vObj c ∧ ev e (.tmp 3) = .t (tInts f) ∧ ev e (.tmp 4) = .t (tInts g) := ⟨_, rfl, rfl, rfl, rfl, rfl, rfl, rfl⟩
  rw [he]
  clear he
  refine vw_seq_k fun K1 hK1 => ?_
  refine vw_sc 0 [] ?_
  simp only [bs, ↓vopx, ↓vop, Nat.reduceBEq, thenV, flat, V.cells, h0, h1, h2, wocs, ↓goc, ↓woc, ↓vopm0]
  refine hK1 _ _ ?_
  refine vw_seq_k fun K2 hK2 => ?_
  refine vw_seq_k fun K3 hK3 => ?_
  refine vw_sc 0 [.pur (Bo true)] ?_
  simp only [bs, ↓vopx, ↓vop, thenV, Nat.reduceLT, hl, wocs, ↓goc, ↓woc, ↓vopm0, ↓callC, calleeV]
  repeat ((with_reducible refine And.intro ?_ ?_); · exact ⟨Tryd.is39, known8_⟩)
  refine hK3 _ _ ?_
  refine vw_cond_k fun A B hA hB => ?_
  simp only [condV, ev_hit, length_putv, Nat.reduceLT, true_implies, reduceCtorEq, false_implies, true_and, hl]
  refine hB ?_
  clear hA hB A B
  refine vw_skip ?_
  refine hK2 _ _ ?_
  refine vw_seq_k fun K4 hK4 => ?_
  refine vw_seq_k fun K5 hK5 => ?_
  rcases (show fewS a = false ∨ (fewS a = true ∧ (fewS b = false ∨ (fewS b = true ∧ (fewS c = false ∨ (fewS c = true ∧ ((f.length : Int) > 60 ∨ (¬ (f.length : Int) > 60 ∧ ((g.length : Int) > 60 ∨ ¬ (g.length : Int) > 60)))))))) by cases (fewS a) <;> cases (fewS b) <;> cases (fewS c) <;> simp <;> omega) with hfa | ⟨hfa, hfb | ⟨hfb, hfc | ⟨hfc, hlf | ⟨hlf, hlg | hlg⟩⟩⟩⟩
  · refine vw_sc 0 [.pur (Bo (fewS a))] ?_
    simp only [bs, Nat.reduceAdd, ↓vopx, ↓vop, Nat.reduceBEq, thenV, flat, Nat.reduceLT, dLoad, vpart, gtmp, hl, wocs, ↓goc, ↓woc, ↓vopm0, ↓callC, ↓pick_tf, calleeV, Tryd.ag25, Tryd.sz25, nns, hfa]
    repeat ((with_reducible refine And.intro ?_ ?_); · exact ⟨Tryd.is40, by simpa only [hfa] using few8_ a (by omega) (by omega)⟩)
    refine hK5 _ _ ?_
    refine vw_cond_k fun A B hA hB => ?_
    simp only [condV, ev_hit, length_putv, Nat.reduceLT, true_implies, reduceCtorEq, false_implies, and_true, hl]
    refine hA ?_
    clear hA hB A B
    refine vw_seq_k fun K6 hK6 => ?_
    refine vw_sc 0 [] ?_
    simp only [bs, ↓vopx, ↓vop, thenV, flat, wocs, ↓goc, ↓woc, ↓vopm0]
    refine hK6 _ _ ?_
    refine vw_ret ?_
    refine hQ _ _ _ (.inr rfl) (done_tmp ?_ fun n b hn h => by simp [Sg.add, show n ≠ s.next by omega, show n ≠ s.next + 1 by omega, show n ≠ s.next + 1 + 1 by omega, h])
    try simp only [ev_hit, length_putv, hl, Nat.reduceLT]
  · have ba := few_le hfa
    refine vw_sc 0 [.pur (Bo (fewS a)), .pur (Bo (fewS b))] ?_
    simp only [bs, Nat.reduceAdd, ↓vopx, ↓vop, Nat.reduceBEq, thenV, flat, Nat.reduceLT, dLoad, vpart, gtmp, hl, wocs, ↓goc, ↓woc, ↓vopm0, ↓callC, ↓pick_ff, ↓pick_tf, calleeV, Tryd.ag25, Tryd.sz25, nns, hfa, hfb]
    repeat ((with_reducible refine And.intro ?_ ?_); · first | exact ⟨Tryd.is40, by simpa only [hfa] using few8_ a (by omega) (by omega)⟩ | exact ⟨Tryd.is40, by simpa only [hfb] using few8_ b (by omega) (by omega)⟩)
    refine hK5 _ _ ?_
    refine vw_cond_k fun A B hA hB => ?_
    simp only [condV, ev_hit, length_putv, Nat.reduceLT, true_implies, reduceCtorEq, false_implies, and_true, hl]
    refine hA ?_
    clear hA hB A B
    refine vw_seq_k fun K7 hK7 => ?_
    refine vw_sc 0 [] ?_
    simp only [bs, ↓vopx, ↓vop, thenV, flat, wocs, ↓goc, ↓woc, ↓vopm0]
    refine hK7 _ _ ?_
    refine vw_ret ?_
    refine hQ _ _ _ (.inr rfl) (done_tmp ?_ fun n b hn h => by simp [Sg.add, show n ≠ s.next by omega, show n ≠ s.next + 1 by omega, show n ≠ s.next + 1 + 1 by omega, h])
    try simp only [ev_hit, length_putv, hl, Nat.reduceLT]
  · have ba := few_le hfa
    have bb := few_le hfb
    refine vw_sc 0 [.pur (Bo (fewS a)), .pur (Bo (fewS b)), .pur (Bo (fewS c))] ?_
    simp only [bs, Nat.reduceAdd, ↓vopx, ↓vop, Nat.reduceBEq, thenV, flat, Nat.reduceLT, dLoad, vpart, gtmp, hl, wocs, ↓goc, ↓woc, ↓vopm0, ↓callC, ↓pick_ff, ↓pick_tf, calleeV, Tryd.ag25, Tryd.sz25, nns, hfa, hfb, hfc]
    repeat ((with_reducible refine And.intro ?_ ?_); · first | exact ⟨Tryd.is40, by simpa only [hfa] using few8_ a (by omega) (by omega)⟩ | exact ⟨Tryd.is40, by simpa only [hfb] using few8_ b (by omega) (by omega)⟩ | exact ⟨Tryd.is40, by simpa only [hfc] using few8_ c (by omega) (by omega)⟩)
    refine hK5 _ _ ?_
    refine vw_cond_k fun A B hA hB => ?_
    simp only [condV, ev_hit, length_putv, Nat.reduceLT, true_implies, reduceCtorEq, false_implies, and_true, hl]
    refine hA ?_
    clear hA hB A B
    refine vw_seq_k fun K8 hK8 => ?_
    refine vw_sc 0 [] ?_
    simp only [bs, ↓vopx, ↓vop, thenV, flat, wocs, ↓goc, ↓woc, ↓vopm0]
    refine hK8 _ _ ?_
    refine vw_ret ?_
    refine hQ _ _ _ (.inr rfl) (done_tmp ?_ fun n b hn h => by simp [Sg.add, show n ≠ s.next by omega, show n ≠ s.next + 1 by omega, show n ≠ s.next + 1 + 1 by omega, h])
    try simp only [ev_hit, length_putv, hl, Nat.reduceLT]
  · have ba := few_le hfa
    have bb := few_le hfb
    have bc := few_le hfc
    refine vw_sc 0 [.pur (Bo (fewS a)), .pur (Bo (fewS b)), .pur (Bo (fewS c))] ?_
    simp only [bs, Nat.reduceAdd, ↓vopx, ↓vop, Nat.reduceBEq, thenV, flat, Nat.reduceLT, dLoad, vpart, opII, gtmp, hl, h3, wocs, ↓goc, ↓woc, ↓vopm0, ↓callC, ↓pick_ff, ↓pick_tf, calleeV, Tryd.ag25, Tryd.sz25, nns, len_tInts, Tryd.underlying26, hfa, hfb, hfc, hlf]
    repeat ((with_reducible refine And.intro ?_ ?_); · first | exact ⟨Tryd.is40, by simpa only [hfa] using few8_ a (by omega) (by omega)⟩ | exact ⟨Tryd.is40, by simpa only [hfb] using few8_ b (by omega) (by omega)⟩ | exact ⟨Tryd.is40, by simpa only [hfc] using few8_ c (by omega) (by omega)⟩)
    refine hK5 _ _ ?_
    refine vw_cond_k fun A B hA hB => ?_
    simp only [condV, ev_hit, length_putv, Nat.reduceLT, true_implies, reduceCtorEq, false_implies, and_true, hl]
    refine hA ?_
    clear hA hB A B
    refine vw_seq_k fun K9 hK9 => ?_
    refine vw_sc 0 [] ?_
    simp only [bs, ↓vopx, ↓vop, thenV, flat, wocs, ↓goc, ↓woc, ↓vopm0]
    refine hK9 _ _ ?_
    refine vw_ret ?_
    refine hQ _ _ _ (.inr rfl) (done_tmp ?_ fun n b hn h => by simp [Sg.add, show n ≠ s.next by omega, show n ≠ s.next + 1 by omega, show n ≠ s.next + 1 + 1 by omega, h])
    try simp only [ev_hit, length_putv, hl, Nat.reduceLT]
  · have ba := few_le hfa
    have bb := few_le hfb
    have bc := few_le hfc
    refine vw_sc 0 [.pur (Bo (fewS a)), .pur (Bo (fewS b)), .pur (Bo (fewS c))] ?_
    simp only [bs, Nat.reduceAdd, ↓vopx, ↓vop, Nat.reduceBEq, thenV, flat, Nat.reduceLT, dLoad, vpart, opII, gtmp, hl, h3, h4, wocs, ↓goc, ↓woc, ↓vopm0, ↓callC, ↓pick_ff, calleeV, Tryd.ag25, Tryd.sz25, nns, len_tInts, Tryd.underlying26, hfa, hfb, hfc, hlf, hlg]
    repeat ((with_reducible refine And.intro ?_ ?_); · first | exact ⟨Tryd.is40, by simpa only [hfa] using few8_ a (by omega) (by omega)⟩ | exact ⟨Tryd.is40, by simpa only [hfb] using few8_ b (by omega) (by omega)⟩ | exact ⟨Tryd.is40, by simpa only [hfc] using few8_ c (by omega) (by omega)⟩)
    refine hK5 _ _ ?_
    refine vw_cond_k fun A B hA hB => ?_
    simp only [condV, ev_hit, length_putv, Nat.reduceLT, true_implies, reduceCtorEq, false_implies, and_true, hl]
    refine hA ?_
    clear hA hB A B
    refine vw_seq_k fun K10 hK10 => ?_
    refine vw_sc 0 [] ?_
    simp only [bs, ↓vopx, ↓vop, thenV, flat, wocs, ↓goc, ↓woc, ↓vopm0]
    refine hK10 _ _ ?_
    refine vw_ret ?_
    refine hQ _ _ _ (.inr rfl) (done_tmp ?_ fun n b hn h => by simp [Sg.add, show n ≠ s.next by omega, show n ≠ s.next + 1 by omega, show n ≠ s.next + 1 + 1 by omega, h])
    try simp only [ev_hit, length_putv, hl, Nat.reduceLT]
  · have ba := few_le hfa
    have bb := few_le hfb
    have bc := few_le hfc
    refine vw_sc 0 [.pur (Bo (fewS a)), .pur (Bo (fewS b)), .pur (Bo (fewS c))] ?_
    simp only [bs, Nat.reduceAdd, ↓vopx, ↓vop, Nat.reduceBEq, thenV, flat, Nat.reduceLT, dLoad, vpart, opII, gtmp, hl, h3, h4, wocs, ↓goc, ↓woc, ↓vopm0, ↓callC, ↓pick_ff, calleeV, Tryd.ag25, Tryd.sz25, nns, len_tInts, Tryd.underlying26, hfa, hfb, hfc, hlf, hlg]
    repeat ((with_reducible refine And.intro ?_ ?_); · first | exact ⟨Tryd.is40, by simpa only [hfa] using few8_ a (by omega) (by omega)⟩ | exact ⟨Tryd.is40, by simpa only [hfb] using few8_ b (by omega) (by omega)⟩ | exact ⟨Tryd.is40, by simpa only [hfc] using few8_ c (by omega) (by omega)⟩)
    refine hK5 _ _ ?_
    refine vw_cond_k fun A B hA hB => ?_
    simp only [condV, ev_hit, length_putv, Nat.reduceLT, true_implies, reduceCtorEq, false_implies, true_and, hl]
    refine hB ?_
    clear hA hB A B
    refine vw_skip ?_
    refine hK4 _ _ ?_
    refine vw_seq_k fun K11 hK11 => ?_
    refine vw_en fun eqa hE => ?_
    have hlqa : eqa.length = 128 := by rw [hE]; simp only [length_putv, hl]
    have qa_3 : ev eqa (.tmp 3) = .t (tInts f) := by rw [hE]; simp only [ev_miss, Nat.reduceBEq, h3]
    have qa_4 : ev eqa (.tmp 4) = .t (tInts g) := by rw [hE]; simp only [ev_miss, Nat.reduceBEq, h4]
    have qa_5 : ev eqa (.tmp 5) = .ptr (s.next) 0 := by rw [hE]; simp only [ev_hit, ev_miss, Nat.reduceBEq, hl, Nat.reduceLT]
    have qa_6 : ev eqa (.tmp 6) = .ptr (s.next + 1) 0 := by rw [hE]; simp only [ev_hit, ev_miss, Nat.reduceBEq, length_putv, hl, Nat.reduceLT]
    have qa_7 : ev eqa (.tmp 7) = .ptr (s.next + 1 + 1) 0 := by rw [hE]; simp only [ev_hit, ev_miss, Nat.reduceBEq, length_putv, hl, Nat.reduceLT]
    clear hE
    refine vw_st fun sqa hS => ?_
    have qaB0 : sqa.m (s.next) = some (.box 25 [.t (tStrs a.labels), .t (tPairs a.pairs)]) := by rw [hS]; simp only [m_add, n_add, nns, if_true, if_false, ]
    have qaB1 : sqa.m (s.next + 1) = some (.box 25 [.t (tStrs b.labels), .t (tPairs b.pairs)]) := by rw [hS]; simp only [m_add, n_add, nns, if_true, if_false, ]
    have qaB2 : sqa.m (s.next + 1 + 1) = some (.box 25 [.t (tStrs c.labels), .t (tPairs c.pairs)]) := by rw [hS]; simp only [m_add, n_add, nns, if_true, if_false, ]
    have hnqa : sqa.next = s.next + 1 + 1 + 1 := by rw [hS]; simp only [n_add, ]
    have hkqa : ∀ j, j < s.next → sqa.m j = s.m j := fun j hj => by have z0 : ¬ j = s.next := (by omega); have z1 : ¬ j = s.next + 1 := (by omega); have z2 : ¬ j = s.next + 1 + 1 := (by omega); rw [hS]; simp only [m_add, n_add, z0, z1, z2, if_false]
    clear hS
    obtain ⟨x, y, ez, hw⟩ : ∃ x y ez, swS a b c f g = (x, y, ez) := ⟨_, _, _, rfl⟩
    obtain ⟨u1, u2, u3, u4⟩ := pushR_lim a b c f g (by omega)
    obtain ⟨v1, v2, v3, v4⟩ := pushR_lim a c b g f (by omega)
    obtain ⟨q, i, j, e1, hR⟩ : ∃ q i j e1, pushR a b c f g = (q, i, j, e1) := ⟨_, _, _, _, rfl⟩
    obtain ⟨p, k, l, e2, hR2⟩ : ∃ p k l e2, pushR a c b g f = (p, k, l, e2) := ⟨_, _, _, _, rfl⟩
    obtain ⟨⟨he1, he2⟩, hcs⟩ := sw_cases hR hR2 hw
    rw [he1] at hR
    rw [he2] at hR2
    rw [hR] at u1 u2 u3 u4
    rw [hR2] at v1 v2 v3 v4
    simp only at u1 u2 u3 u4 v1 v2 v3 v4
    refine vw_sc 0 [.pur (.tup [.t (tInts x), .t (tInts y), I ez])] ?_
    simp only [bs, Nat.reduceAdd, ↓vopx, ↓vop, Nat.reduceBEq, thenV, Nat.reduceLT, dLoad, vpart, hlqa, qa_3, qa_4, qa_5, qa_6, qa_7, qaB0, qaB1, qaB2, wocs, ↓goc, ↓woc, ↓vopm0, ↓callC, calleeV, Tryd.ag25, Tryd.sz25]
    repeat ((with_reducible refine And.intro ?_ ?_); · exact ⟨Tryd.is55, by have := swap_ a b c f g (by omega) (by omega) (by omega) (by omega) (by omega) (by omega) (by omega) (by omega); rw [hw] at this; exact this⟩)
    refine hK11 _ _ ?_
    refine vw_seq_k fun K12 hK12 => ?_
    refine vw_en fun eqb hE => ?_
    have hlqb : eqb.length = 128 := by rw [hE]; simp only [length_putv, hlqa]
    have qb_3 : ev eqb (.tmp 3) = .t (tInts f) := by rw [hE]; simp only [ev_miss, Nat.reduceBEq, qa_3]
    have qb_4 : ev eqb (.tmp 4) = .t (tInts g) := by rw [hE]; simp only [ev_miss, Nat.reduceBEq, qa_4]
    have qb_5 : ev eqb (.tmp 5) = .ptr (s.next) 0 := by rw [hE]; simp only [ev_miss, Nat.reduceBEq, qa_5]
    have qb_6 : ev eqb (.tmp 6) = .ptr (s.next + 1) 0 := by rw [hE]; simp only [ev_miss, Nat.reduceBEq, qa_6]
    have qb_7 : ev eqb (.tmp 7) = .ptr (s.next + 1 + 1) 0 := by rw [hE]; simp only [ev_miss, Nat.reduceBEq, qa_7]
    have qb_11 : ev eqb (.tmp 11) = .t (tInts x) := by rw [hE]; simp only [ev_hit, ev_miss, Nat.reduceBEq, length_putv, hlqa, Nat.reduceLT]
    have qb_12 : ev eqb (.tmp 12) = .t (tInts y) := by rw [hE]; simp only [ev_hit, ev_miss, Nat.reduceBEq, length_putv, hlqa, Nat.reduceLT]
    have qb_13 : ev eqb (.tmp 13) = I ez := by rw [hE]; simp only [ev_hit, length_putv, hlqa, Nat.reduceLT]
    clear hE
    refine vw_st fun sqb hS => ?_
    have qbB0 : sqb.m (s.next) = some (.box 25 [.t (tStrs a.labels), .t (tPairs a.pairs)]) := by rw [hS]; simp only [qaB0]
    have qbB1 : sqb.m (s.next + 1) = some (.box 25 [.t (tStrs b.labels), .t (tPairs b.pairs)]) := by rw [hS]; simp only [qaB1]
    have qbB2 : sqb.m (s.next + 1 + 1) = some (.box 25 [.t (tStrs c.labels), .t (tPairs c.pairs)]) := by rw [hS]; simp only [qaB2]
    have hnqb : sqb.next = s.next + 1 + 1 + 1 := by rw [hS]; simp only [hnqa]
    have hkqb : ∀ j, j < s.next → sqb.m j = s.m j := fun j hj => by have z0 : ¬ j = s.next := (by omega); have z1 : ¬ j = s.next + 1 := (by omega); have z2 : ¬ j = s.next + 1 + 1 := (by omega); rw [hS]; simp only [hkqa j hj]
    clear hS
    refine vw_sc 0 [.pur (.tup [vObj q, .t (tInts i), .t (tInts j), I ez])] ?_
    simp only [bs, Nat.reduceAdd, ↓vopx, ↓vop, Nat.reduceBEq, thenV, Nat.reduceLT, V.cells, dLoad, vpart, hlqb, qb_3, qb_4, qb_5, qb_6, qb_7, qbB0, qbB1, qbB2, hnqb, wocs, ↓goc, ↓woc, ↓vopm0, ↓callC, calleeV, Tryd.ag25, Tryd.sz25, Tryd.zv25]
    repeat ((with_reducible refine And.intro ?_ ?_); · exact ⟨Tryd.is23, by have := refPush_ a b c f g (by omega) (by omega) (by omega) (by omega) (by omega) (by omega) (by omega) (by omega); rw [hR, vsum_mk'] at this; exact this⟩)
    refine hK12 _ _ ?_
    refine vw_seq_k fun K13 hK13 => ?_
    refine vw_en fun eqc hE => ?_
    have hlqc : eqc.length = 128 := by rw [hE]; simp only [length_putv, hlqb]
    have qc_3 : ev eqc (.tmp 3) = .t (tInts f) := by rw [hE]; simp only [ev_miss, Nat.reduceBEq, qb_3]
    have qc_4 : ev eqc (.tmp 4) = .t (tInts g) := by rw [hE]; simp only [ev_miss, Nat.reduceBEq, qb_4]
    have qc_5 : ev eqc (.tmp 5) = .ptr (s.next) 0 := by rw [hE]; simp only [ev_miss, Nat.reduceBEq, qb_5]
    have qc_6 : ev eqc (.tmp 6) = .ptr (s.next + 1) 0 := by rw [hE]; simp only [ev_miss, Nat.reduceBEq, qb_6]
    have qc_7 : ev eqc (.tmp 7) = .ptr (s.next + 1 + 1) 0 := by rw [hE]; simp only [ev_miss, Nat.reduceBEq, qb_7]
    have qc_11 : ev eqc (.tmp 11) = .t (tInts x) := by rw [hE]; simp only [ev_miss, Nat.reduceBEq, qb_11]
    have qc_12 : ev eqc (.tmp 12) = .t (tInts y) := by rw [hE]; simp only [ev_miss, Nat.reduceBEq, qb_12]
    have qc_13 : ev eqc (.tmp 13) = I ez := by rw [hE]; simp only [ev_miss, Nat.reduceBEq, qb_13]
    have qc_14 : ev eqc (.tmp 14) = .ptr (s.next + 1 + 1 + 1) 0 := by rw [hE]; simp only [ev_hit, ev_miss, Nat.reduceBEq, length_putv, hlqb, Nat.reduceLT]
    have qc_15 : ev eqc (.tmp 15) = .t (tInts i) := by rw [hE]; simp only [ev_hit, ev_miss, Nat.reduceBEq, length_putv, hlqb, Nat.reduceLT]
    have qc_16 : ev eqc (.tmp 16) = .t (tInts j) := by rw [hE]; simp only [ev_hit, ev_miss, Nat.reduceBEq, length_putv, hlqb, Nat.reduceLT]
    have qc_17 : ev eqc (.tmp 17) = I ez := by rw [hE]; simp only [ev_hit, length_putv, hlqb, Nat.reduceLT]
    clear hE
    refine vw_st fun sqc hS => ?_
    have qcB0 : sqc.m (s.next) = some (.box 25 [.t (tStrs a.labels), .t (tPairs a.pairs)]) := by rw [hS]; simp only [m_set, m_add, nns, if_false, qbB0, hnqb]
    have qcB1 : sqc.m (s.next + 1) = some (.box 25 [.t (tStrs b.labels), .t (tPairs b.pairs)]) := by rw [hS]; simp only [m_set, m_add, nns, if_false, qbB1, hnqb]
    have qcB2 : sqc.m (s.next + 1 + 1) = some (.box 25 [.t (tStrs c.labels), .t (tPairs c.pairs)]) := by rw [hS]; simp only [m_set, m_add, nns, if_false, qbB2, hnqb]
    have qcB3 : sqc.m (s.next + 1 + 1 + 1) = some (.box 25 [.t (tStrs q.labels), .t (tPairs q.pairs)]) := by rw [hS]; simp only [m_set, m_add, if_true, hnqb]
    have hnqc : sqc.next = s.next + 1 + 1 + 1 + 1 := by rw [hS]; simp only [n_add, n_set, hnqb]
    have hkqc : ∀ j, j < s.next → sqc.m j = s.m j := fun j hj => by have z0 : ¬ j = s.next := (by omega); have z1 : ¬ j = s.next + 1 := (by omega); have z2 : ¬ j = s.next + 1 + 1 := (by omega); have z3 : ¬ j = s.next + 1 + 1 + 1 := (by omega); rw [hS]; simp only [m_set, m_add, hnqb, z3, if_false, hkqb j hj]
    clear hS
    refine vw_sc 0 [.pur (.tup [vObj p, .t (tInts k), .t (tInts l), I ez])] ?_
    simp only [bs, Nat.reduceAdd, ↓vopx, ↓vop, Nat.reduceBEq, thenV, Nat.reduceLT, V.cells, dLoad, vpart, hlqc, qc_3, qc_4, qc_5, qc_6, qc_7, qcB0, qcB1, qcB2, hnqc, wocs, ↓goc, ↓woc, ↓vopm0, ↓callC, calleeV, Tryd.ag25, Tryd.sz25, Tryd.zv25]
    repeat ((with_reducible refine And.intro ?_ ?_); · exact ⟨Tryd.is23, by have := refPush_ a c b g f (by omega) (by omega) (by omega) (by omega) (by omega) (by omega) (by omega) (by omega); rw [hR2, vsum_mk'] at this; exact this⟩)
    refine hK13 _ _ ?_
    refine vw_seq_k fun K14 hK14 => ?_
    refine vw_seq_k fun K15 hK15 => ?_
    refine vw_en fun eqd hE => ?_
    have hlqd : eqd.length = 128 := by rw [hE]; simp only [length_putv, hlqc]
    have qd_11 : ev eqd (.tmp 11) = .t (tInts x) := by rw [hE]; simp only [ev_miss, Nat.reduceBEq, qc_11]
    have qd_12 : ev eqd (.tmp 12) = .t (tInts y) := by rw [hE]; simp only [ev_miss, Nat.reduceBEq, qc_12]
    have qd_13 : ev eqd (.tmp 13) = I ez := by rw [hE]; simp only [ev_miss, Nat.reduceBEq, qc_13]
    have qd_14 : ev eqd (.tmp 14) = .ptr (s.next + 1 + 1 + 1) 0 := by rw [hE]; simp only [ev_miss, Nat.reduceBEq, qc_14]
    have qd_15 : ev eqd (.tmp 15) = .t (tInts i) := by rw [hE]; simp only [ev_miss, Nat.reduceBEq, qc_15]
    have qd_16 : ev eqd (.tmp 16) = .t (tInts j) := by rw [hE]; simp only [ev_miss, Nat.reduceBEq, qc_16]
    have qd_17 : ev eqd (.tmp 17) = I ez := by rw [hE]; simp only [ev_miss, Nat.reduceBEq, qc_17]
    have qd_18 : ev eqd (.tmp 18) = .ptr (s.next + 1 + 1 + 1 + 1) 0 := by rw [hE]; simp only [ev_hit, ev_miss, Nat.reduceBEq, length_putv, hlqc, Nat.reduceLT]
    have qd_19 : ev eqd (.tmp 19) = .t (tInts k) := by rw [hE]; simp only [ev_hit, ev_miss, Nat.reduceBEq, length_putv, hlqc, Nat.reduceLT]
    have qd_20 : ev eqd (.tmp 20) = .t (tInts l) := by rw [hE]; simp only [ev_hit, ev_miss, Nat.reduceBEq, length_putv, hlqc, Nat.reduceLT]
    have qd_21 : ev eqd (.tmp 21) = I ez := by rw [hE]; simp only [ev_hit, length_putv, hlqc, Nat.reduceLT]
    clear hE
    refine vw_st fun sqd hS => ?_
    have qdB0 : sqd.m (s.next) = some (.box 25 [.t (tStrs a.labels), .t (tPairs a.pairs)]) := by rw [hS]; simp only [m_set, m_add, nns, if_false, qcB0, hnqc]
    have qdB1 : sqd.m (s.next + 1) = some (.box 25 [.t (tStrs b.labels), .t (tPairs b.pairs)]) := by rw [hS]; simp only [m_set, m_add, nns, if_false, qcB1, hnqc]
    have qdB2 : sqd.m (s.next + 1 + 1) = some (.box 25 [.t (tStrs c.labels), .t (tPairs c.pairs)]) := by rw [hS]; simp only [m_set, m_add, nns, if_false, qcB2, hnqc]
    have qdB3 : sqd.m (s.next + 1 + 1 + 1) = some (.box 25 [.t (tStrs q.labels), .t (tPairs q.pairs)]) := by rw [hS]; simp only [m_set, m_add, nns, if_false, qcB3, hnqc]
    have qdB4 : sqd.m (s.next + 1 + 1 + 1 + 1) = some (.box 25 [.t (tStrs p.labels), .t (tPairs p.pairs)]) := by rw [hS]; simp only [m_set, m_add, if_true, hnqc]
    have hnqd : sqd.next = s.next + 1 + 1 + 1 + 1 + 1 := by rw [hS]; simp only [n_add, n_set, hnqc]
    have hkqd : ∀ j, j < s.next → sqd.m j = s.m j := fun j hj => by have z0 : ¬ j = s.next := (by omega); have z1 : ¬ j = s.next + 1 := (by omega); have z2 : ¬ j = s.next + 1 + 1 := (by omega); have z3 : ¬ j = s.next + 1 + 1 + 1 := (by omega); have z4 : ¬ j = s.next + 1 + 1 + 1 + 1 := (by omega); rw [hS]; simp only [m_set, m_add, hnqc, z4, if_false, hkqc j hj]
    clear hS
    refine vw_sc 0 [] ?_
    simp only [bs, ↓vopx, ↓vop, Nat.reduceBEq, thenV, flat, Nat.reduceLT, opII, gtmp, hlqd, qd_13, qd_17, qd_21, wocs, ↓goc, ↓woc, ↓vopm0, ↓pick_ff, bne_self_eq_false]
    refine hK15 _ _ ?_
    refine vw_cond_k fun A B hA hB => ?_
    simp only [condV, ev_hit, length_putv, Nat.reduceLT, true_implies, reduceCtorEq, false_implies, true_and, hlqd]
    refine hB ?_
    clear hA hB A B
    refine vw_skip ?_
    refine hK14 _ _ ?_
    refine vw_seq_k fun K16 hK16 => ?_
    refine vw_seq_k fun K17 hK17 => ?_
    rcases hcs with ⟨he0, rfl, rfl⟩ | ⟨rfl, hC⟩
    · refine vw_sc 0 [] ?_
      simp only [bs, ↓vopx, ↓vop, Nat.reduceBEq, thenV, flat, Nat.reduceLT, opII, hlqd, qd_17, wocs, ↓goc, ↓woc, ↓vopm0]
      refine hK17 _ _ ?_
      refine vw_cond_k fun A B hA hB => ?_
      simp only [condV, ev_hit, length_putv, Nat.reduceLT, bne_iff_ne, bne_eq_false_iff_eq, ne_eq, true_implies, false_implies, and_true, hlqd, he0, not_false_eq_true]
      refine hA ?_
      clear hA hB A B
      refine vw_seq_k fun K18 hK18 => ?_
      refine vw_sc 0 [] ?_
      simp only [bs, ↓vopx, ↓vop, Nat.reduceBEq, thenV, flat, Nat.reduceLT, opII, gtmp, hlqd, qd_11, qd_12, wocs, ↓goc, ↓woc, ↓vopm0, ↓pick_tt, len_tInts, Tryd.underlying26, nc0', beq_self_eq_true]
      refine hK18 _ _ ?_
      refine vw_ret ?_
      refine hQ _ _ _ (.inr rfl) (done_tmp ?_ fun n b hn h => (hkqd n hn).trans h)
      try simp only [ev_hit, length_putv, hlqd, Nat.reduceLT]
    · obtain ⟨hh, hS⟩ := hC.s1
      obtain ⟨hh2, hT⟩ := hC.s2
      have hW := hC.sw
      have hinv := hW.inv
      have hiv : arrS q p x = true ∧ arrS p q y = true := by simp only [invS, Bool.and_eq_true] at hinv; exact ⟨hinv.1, hinv.2.1⟩
      have lx := allY_length (arrS_iff.1 hiv.1).2.2.1
      have ly := allY_length (arrS_iff.1 hiv.2).2.2.1
      refine vw_sc 0 [] ?_
      simp only [bs, ↓vopx, ↓vop, Nat.reduceBEq, thenV, flat, Nat.reduceLT, opII, hlqd, qd_17, wocs, ↓goc, ↓woc, ↓vopm0]
      refine hK17 _ _ ?_
      refine vw_cond_k fun A B hA hB => ?_
      simp only [condV, ev_hit, length_putv, Nat.reduceLT, bne_iff_ne, bne_eq_false_iff_eq, ne_eq, true_implies, false_implies, true_and, hlqd, not_true_eq_false]
      refine hB ?_
      clear hA hB A B
      refine vw_skip ?_
      refine hK16 _ _ ?_
      refine vw_seq_k fun K19 hK19 => ?_
      refine vw_sc 0 [.pur (.tup [.t (tInts l), Bo (thenS i x).2])] ?_
      simp only [bs, ↓vopx, ↓vop, Nat.reduceBEq, thenV, Nat.reduceLT, hlqd, qd_11, qd_15, wocs, ↓goc, ↓woc, ↓vopm0, ↓callC, calleeV]
      repeat ((with_reducible refine And.intro ?_ ?_); · exact ⟨Tryd.is32, by have := then_ i x (by omega) (by omega); rw [hW.ix] at this; exact this⟩)
      refine hK19 _ _ ?_
      refine vw_seq_k fun K20 hK20 => ?_
      refine vw_sc 0 [.pur (.tup [.t (tInts k), Bo (thenS j x).2])] ?_
      simp only [bs, ↓vopx, ↓vop, Nat.reduceBEq, thenV, Nat.reduceLT, hlqd, qd_11, qd_16, wocs, ↓goc, ↓woc, ↓vopm0, ↓callC, calleeV]
      repeat ((with_reducible refine And.intro ?_ ?_); · exact ⟨Tryd.is32, by have := then_ j x (by omega) (by omega); rw [hW.jx] at this; exact this⟩)
      refine hK20 _ _ ?_
      refine vw_seq_k fun K21 hK21 => ?_
      refine vw_sc 0 [.pur (Bo true), .pur (Bo true), .pur (Bo true)] ?_
      simp only [bs, Nat.reduceAdd, ↓vopx, ↓vop, Nat.reduceBEq, thenV, flat, Nat.reduceLT, dLoad, vpart, gtmp, hlqd, qd_11, qd_12, qd_14, qd_18, qd_19, qd_20, qdB3, qdB4, wocs, ↓goc, ↓woc, ↓vopm0, ↓callC, ↓pick_tt, calleeV, Tryd.ag25, Tryd.sz25]
      repeat ((with_reducible refine And.intro ?_ ?_); · first | exact ⟨Tryd.is36, by have := inverse_ q p x y (by omega) (by omega) (by omega) (by omega) (by omega) (by omega); rw [hinv] at this; exact this⟩ | exact ⟨Tryd.is33, by have := arrowSame_ l l (by omega) (by omega); rw [beq_self_eq_true] at this; exact this⟩ | exact ⟨Tryd.is33, by have := arrowSame_ k k (by omega) (by omega); rw [beq_self_eq_true] at this; exact this⟩)
      refine hK21 _ _ ?_
      refine vw_ret ?_
      refine hQ _ _ _ (.inr rfl) (done_tmp ?_ fun n b hn h => (hkqd n hn).trans h)
      try simp only [ev_hit, length_putv, hlqd, Nat.reduceLT]

end Go.Proofs

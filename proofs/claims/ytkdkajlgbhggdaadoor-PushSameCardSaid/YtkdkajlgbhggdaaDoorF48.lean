/- Steps on the way to the statement that the last text of this claim proves: an abstract machine over the code, proved sound, and what the functions come to over it. No condition of their own. -/
import Derived.Shelf.Sort.AssemblyIn
import Derived.Shelf.Slices.In.SortNone
import Derived.Test.YtkdkajlgbhggdaaDoorF33
import Derived.Test.YtkdkajlgbhggdaaDoorF34
import Derived.Test.YtkdkajlgbhggdaaDoorF36
import Derived.Test.YtkdkajlgbhggdaaDoorF37
import Derived.Test.YtkdkajlgbhggdaaDoorF38
import Derived.Test.YtkdkajlgbhggdaaDoorF40
import Derived.Test.YtkdkajlgbhggdaaDoorF42
import Derived.Test.YtkdkajlgbhggdaaDoorF45
import Derived.Test.YtkdkajlgbhggdaaDoorF46
open Go Go.V
namespace Go.Proofs

def invS (a b : Ob) (f g : List Int) : Bool := arrS a b f && (arrS b a g && ((thenS f g).1 == idS f.length && (thenS g f).1 == idS g.length))
theorem thenS_le (f g : List Int) : (thenS f g).1.length ≤ f.length := by
  unfold thenS; split <;> simp
theorem idS_le (n : Int) : (idS n).length ≤ 40 := by
  have : idN n ≤ 40 := by unfold idN; omega
  simp [idS]; exact this
set_option maxRecDepth 20000 in
theorem inverse_ (a b : Ob) (f g : List Int) (ha1 : a.labels.length < 1000000000) (ha2 : a.pairs.length < 1000000000) (hb1 : b.labels.length < 1000000000) (hb2 : b.pairs.length < 1000000000) (hf : f.length < 100000000) (hg : g.length < 100000000) : PCall Tryd.prog 36 [vObj a, vObj b, .t (tInts f), .t (tInts g)] (Bo (invS a b f g)) := by
  refine pcall_of_body Tryd.func36 rfl fun s Q hQ => ?_
  obtain ⟨e, he, hl, h0, h1, h2, h3⟩ : ∃ e : Env, ([vObj a, vObj b, .t (tInts f), .t (tInts g)] ++ List.replicate (Tryd.f36.ntmps - ([vObj a, vObj b, .t (tInts f), .t (tInts g)] : List V).length) .junk) = e ∧ e.length = 49 ∧ ev e (.tmp 0) = vObj a ∧ ev e (.tmp 1) = vObj b ∧ ev e (.tmp 2) = .t (tInts f) ∧ ev e (.tmp 3) = .t (tInts g) := ⟨_, rfl, rfl, rfl, rfl, rfl, rfl⟩
  rw [he]
  clear he
  refine vw_seq_k fun K1 hK1 => ?_
  refine vw_sc 0 [] ?_
  simp only [bs, ↓vopx, ↓vop, Nat.reduceBEq, thenV, flat, V.cells, h0, h1, wocs, ↓goc, ↓woc, ↓vopm0]
  refine hK1 _ _ ?_
  refine vw_seq_k fun K2 hK2 => ?_
  refine vw_seq_k fun K3 hK3 => ?_
  rcases (show arrS a b f = false ∨ (arrS a b f = true ∧ arrS b a g = false) ∨ (arrS a b f = true ∧ arrS b a g = true) by cases arrS a b f <;> cases arrS b a g <;> simp) with hab | ⟨hab, hba⟩ | ⟨hab, hba⟩
  · refine vw_sc 0 [.pur (Bo (arrS a b f))] ?_
    simp only [bs, Nat.reduceAdd, ↓vopx, ↓vop, Nat.reduceBEq, thenV, flat, Nat.reduceLT, dLoad, vpart, gtmp, hl, h2, wocs, ↓goc, ↓woc, ↓vopm0, ↓callC, ↓pick_tf, calleeV, Tryd.ag25, Tryd.sz25, hab]
    repeat ((with_reducible refine And.intro ?_ ?_); · exact ⟨Tryd.is34, by simpa only [hab] using arrow_ a b f ha1 ha2 hb1 hb2 (by omega)⟩)
    refine hK3 _ _ ?_
    refine vw_cond_k fun A B hA hB => ?_
    simp only [condV, ev_hit, length_putv, Nat.reduceLT, true_implies, reduceCtorEq, false_implies, and_true, hl]
    refine hA ?_
    clear hA hB A B
    refine vw_seq_k fun K4 hK4 => ?_
    refine vw_sc 0 [] ?_
    simp only [bs, ↓vopx, ↓vop, thenV, flat, wocs, ↓goc, ↓woc, ↓vopm0]
    refine hK4 _ _ ?_
    refine vw_ret ?_
    refine hQ _ _ _ (.inr rfl) (done_tmp ?_ fun n b hn h => by simp [Sg.add, show n ≠ s.next by omega, show n ≠ s.next + 1 by omega, h])
    try simp only [ev_hit, length_putv, hl, Nat.reduceLT]
    simp [invS, hab]
  · refine vw_sc 0 [.pur (Bo (arrS a b f)), .pur (Bo (arrS b a g))] ?_
    simp only [bs, Nat.reduceAdd, ↓vopx, ↓vop, Nat.reduceBEq, thenV, flat, Nat.reduceLT, dLoad, vpart, gtmp, hl, h2, h3, wocs, ↓goc, ↓woc, ↓vopm0, ↓callC, ↓pick_ff, calleeV, Tryd.ag25, Tryd.sz25, hab, hba]
    repeat ((with_reducible refine And.intro ?_ ?_); · first | exact ⟨Tryd.is34, by simpa only [hab] using arrow_ a b f ha1 ha2 hb1 hb2 (by omega)⟩ | exact ⟨Tryd.is34, by simpa only [hba] using arrow_ b a g hb1 hb2 ha1 ha2 (by omega)⟩)
    refine hK3 _ _ ?_
    refine vw_cond_k fun A B hA hB => ?_
    simp only [condV, ev_hit, length_putv, Nat.reduceLT, true_implies, reduceCtorEq, false_implies, and_true, hl]
    refine hA ?_
    clear hA hB A B
    refine vw_seq_k fun K5 hK5 => ?_
    refine vw_sc 0 [] ?_
    simp only [bs, ↓vopx, ↓vop, thenV, flat, wocs, ↓goc, ↓woc, ↓vopm0]
    refine hK5 _ _ ?_
    refine vw_ret ?_
    refine hQ _ _ _ (.inr rfl) (done_tmp ?_ fun n b hn h => by simp [Sg.add, show n ≠ s.next by omega, show n ≠ s.next + 1 by omega, h])
    try simp only [ev_hit, length_putv, hl, Nat.reduceLT]
    simp [invS, hba]
  · refine vw_sc 0 [.pur (Bo (arrS a b f)), .pur (Bo (arrS b a g))] ?_
    simp only [bs, Nat.reduceAdd, ↓vopx, ↓vop, Nat.reduceBEq, thenV, flat, Nat.reduceLT, dLoad, vpart, gtmp, hl, h2, h3, wocs, ↓goc, ↓woc, ↓vopm0, ↓callC, ↓pick_ff, calleeV, Tryd.ag25, Tryd.sz25, hab, hba]
    repeat ((with_reducible refine And.intro ?_ ?_); · first | exact ⟨Tryd.is34, by simpa only [hab] using arrow_ a b f ha1 ha2 hb1 hb2 (by omega)⟩ | exact ⟨Tryd.is34, by simpa only [hba] using arrow_ b a g hb1 hb2 ha1 ha2 (by omega)⟩)
    refine hK3 _ _ ?_
    refine vw_cond_k fun A B hA hB => ?_
    simp only [condV, ev_hit, length_putv, Nat.reduceLT, true_implies, reduceCtorEq, false_implies, true_and, hl]
    refine hB ?_
    clear hA hB A B
    refine vw_skip ?_
    refine hK2 _ _ ?_
    refine vw_seq_k fun K6 hK6 => ?_
    refine vw_sc 0 [.pur (.tup [.t (tInts (thenS f g).1), Bo (thenS f g).2])] ?_
    simp only [bs, ↓vopx, ↓vop, Nat.reduceBEq, thenV, Nat.reduceLT, hl, h2, h3, wocs, ↓goc, ↓woc, ↓vopm0, ↓callC, calleeV]
    repeat ((with_reducible refine And.intro ?_ ?_); · exact ⟨Tryd.is32, then_ f g (by omega) (by omega)⟩)
    refine hK6 _ _ ?_
    refine vw_seq_k fun K7 hK7 => ?_
    refine vw_sc 0 [.pur (.tup [.t (tInts (thenS g f).1), Bo (thenS g f).2])] ?_
    simp only [bs, ↓vopx, ↓vop, Nat.reduceBEq, thenV, Nat.reduceLT, hl, h2, h3, wocs, ↓goc, ↓woc, ↓vopm0, ↓callC, calleeV]
    repeat ((with_reducible refine And.intro ?_ ?_); · exact ⟨Tryd.is32, then_ g f (by omega) (by omega)⟩)
    refine hK7 _ _ ?_
    refine vw_seq_k fun K8 hK8 => ?_
    cases hq : ((thenS f g).1 == idS f.length)
    · refine vw_sc 0 [.pur (.t (tInts (idS f.length))), .pur (Bo ((thenS f g).1 == idS f.length))] ?_
      simp only [bs, ↓vopx, ↓vop, Nat.reduceBEq, thenV, flat, Nat.reduceLT, gtmp, hl, h2, wocs, ↓goc, ↓woc, ↓vopm0, ↓callC, ↓pick_ft, calleeV, len_tInts, Tryd.underlying26, hq]
      repeat ((with_reducible refine And.intro ?_ ?_); · first | exact ⟨Tryd.is35, identity_ _⟩ | exact ⟨Tryd.is33, by simpa only [hq] using arrowSame_ (thenS f g).1 (idS f.length) (by have := thenS_le f g; omega) (by have := idS_le f.length; omega)⟩)
      refine hK8 _ _ ?_
      refine vw_ret ?_
      refine hQ _ _ _ (.inr rfl) (done_tmp ?_ fun n b hn h => by simp [Sg.add, show n ≠ s.next by omega, show n ≠ s.next + 1 by omega, h])
      try simp only [ev_hit, length_putv, hl, Nat.reduceLT]
      simp [invS, hab, hba, hq]
    · refine vw_sc 0 [.pur (.t (tInts (idS f.length))), .pur (Bo ((thenS f g).1 == idS f.length)), .pur (.t (tInts (idS g.length))), .pur (Bo ((thenS g f).1 == idS g.length))] ?_
      simp only [bs, ↓vopx, ↓vop, Nat.reduceBEq, thenV, flat, Nat.reduceLT, gtmp, hl, h2, h3, wocs, ↓goc, ↓woc, ↓vopm0, ↓callC, ↓pick_tt, calleeV, len_tInts, Tryd.underlying26, hq]
      repeat ((with_reducible refine And.intro ?_ ?_); · first | exact ⟨Tryd.is35, identity_ _⟩ | exact ⟨Tryd.is33, by simpa only [hq] using arrowSame_ (thenS f g).1 (idS f.length) (by have := thenS_le f g; omega) (by have := idS_le f.length; omega)⟩ | exact ⟨Tryd.is33, arrowSame_ (thenS g f).1 (idS g.length) (by have := thenS_le g f; omega) (by have := idS_le g.length; omega)⟩)
      refine hK8 _ _ ?_
      refine vw_ret ?_
      refine hQ _ _ _ (.inr rfl) (done_tmp ?_ fun n b hn h => by simp [Sg.add, show n ≠ s.next by omega, show n ≠ s.next + 1 by omega, h])
      try simp only [ev_hit, length_putv, hl, Nat.reduceLT]
      simp [invS, hab, hba, hq]

end Go.Proofs

open Go Go.V
namespace Go.Proofs

theorem legT_length (n base : Nat) : (legT n base).length = n := by simp [legT]
abbrev pushE (a b c : Ob) (f g : List Int) : Ob × List Int × Int := eqS a (besideS b c) (thenS f (legT b.labels.length 0)).1 (thenS g (legT c.labels.length b.labels.length)).1
/-- put together over what both have: 0, 10, 11 -/
def pushS (a b c : Ob) (f g : List Int) : Ob × List Int × List Int × Int :=
  if largeS [a] = true ∨ largeS [b, c] = true then (⟨[], []⟩, [], [], 11) else if arrS a b f = true ∧ arrS a c g = true then
    (if (pushE a b c f g).2.2 = 0 then ((pushE a b c f g).1, (thenS (legT b.labels.length 0) (pushE a b c f g).2.1).1, (thenS (legT c.labels.length b.labels.length) (pushE a b c f g).2.1).1, 0) else (⟨[], []⟩, [], [], (pushE a b c f g).2.2))
  else (⟨[], []⟩, [], [], 10)
theorem eqS_le (a b : Ob) (f g : List Int) : (eqS a b f g).2.1.length ≤ b.labels.length := by
  unfold eqS
  split
  · simp
  · split
    · show (eqPl b f g).length ≤ _
      unfold eqPl
      rw [placesL_length, joinsL_length, rangeI_length]; exact Nat.le_refl _
    · simp

set_option maxRecDepth 20000 in
set_option maxHeartbeats 4000000 in
theorem push_ (a b c : Ob) (f g : List Int) (ha1 : a.labels.length < 1000000000) (ha2 : a.pairs.length < 1000000000) (hb1 : b.labels.length < 1000000000) (hb2 : b.pairs.length ≤ 1000) (hc1 : c.labels.length < 1000000000) (hc2 : c.pairs.length ≤ 1000) (hf : f.length < 100000000) (hg : g.length < 100000000) : PCall Tryd.prog 22 [vObj a, vObj b, vObj c, .t (tInts f), .t (tInts g)] (vSum (pushS a b c f g)) := by
  refine pcall_of_body Tryd.func22 rfl fun s Q hQ => ?_
  obtain ⟨e, he, hl, h0, h1, h2, h3, h4⟩ : ∃ e : Env, ([vObj a, vObj b, vObj c, .t (tInts f), .t (tInts g)] ++ List.replicate (Tryd.f22.ntmps - ([vObj a, vObj b, vObj c, .t (tInts f), .t (tInts g)] : List V).length) .junk) = e ∧ e.length = 107 ∧ ev e (.tmp 0) = vObj a ∧ ev e (.tmp 1) = vObj b ∧ ev e (.tmp 2) = vObj c ∧ ev e (.tmp 3) = .t (tInts f) ∧ ev e (.tmp 4) = .t (tInts g) := ⟨_, rfl, rfl, rfl, rfl, rfl, rfl, rfl⟩
  rw [he]
  clear he
  refine vw_seq_k fun K1 hK1 => ?_
  refine vw_sc 0 [] ?_
  simp only [bs, ↓vopx, ↓vop, Nat.reduceBEq, thenV, flat, V.cells, h0, h1, h2, wocs, ↓goc, ↓woc, ↓vopm0, Tryd.zv25]
  refine hK1 _ _ ?_
  refine vw_seq_k fun K2 hK2 => ?_
  refine vw_block ?_
  refine vw_seq_k fun K3 hK3 => ?_
  refine vw_st fun sN hSN => ?_
  have hn5 : sN.m s.next = some (.box 25 [.t (tStrs a.labels), .t (tPairs a.pairs)]) := by rw [hSN, m_add, if_neg (by simp only [n_add]; omega), m_add, if_neg (by simp only [n_add]; omega), m_add, if_neg (by simp only [n_add]; omega), m_add, if_pos rfl]
  have hn6 : sN.m (s.next + 1) = some (.box 25 [.t (tStrs b.labels), .t (tPairs b.pairs)]) := by rw [hSN, m_add, if_neg (by simp only [n_add]; omega), m_add, if_neg (by simp only [n_add]; omega), m_add, if_pos (by simp only [n_add])]
  have hn7 : sN.m (s.next + 1 + 1) = some (.box 25 [.t (tStrs c.labels), .t (tPairs c.pairs)]) := by rw [hSN, m_add, if_neg (by simp only [n_add]; omega), m_add, if_pos (by simp only [n_add])]
  have hn10 : sN.m (s.next + 1 + 1 + 1) = some (.box 25 [.t (.v (.slice none 0 0)), .t (.v (.slice none 0 0))]) := by rw [hSN, m_add, if_pos (by simp only [n_add])]
  have hnn : sN.next = s.next + 4 := by rw [hSN]; rfl
  have hnk : ∀ j, j < s.next → sN.m j = s.m j := fun j hj => by rw [hSN, m_add, if_neg (by simp only [n_add]; omega), m_add, if_neg (by simp only [n_add]; omega), m_add, if_neg (by simp only [n_add]; omega), m_add, if_neg (by omega)]
  clear hSN
  rcases (show largeS [a] = true ∨ (largeS [a] = false ∧ largeS [b, c] = true) ∨ (largeS [a] = false ∧ largeS [b, c] = false) by cases largeS [a] <;> cases largeS [b, c] <;> simp) with ka | ⟨ka, kb⟩ | ⟨ka, kb⟩
  · refine vw_sc 1 [.pur (Bo (largeS [a]))] ?_
    simp only [bs, Nat.reduceLeDiff, Nat.reduceAdd, vparts, gfill, repl, Sg.frzP, ↓vopx, ↓vop, Nat.reduceBEq, thenV, flat, Nat.reduceLT, V.cells, dLoad, vpart, gtmp, Sg.frzL, Sg.frz1, hl, wocs, ↓goc, ↓woc, ↓vopm1, ↓callC, ↓pick_tf, calleeV, Tryd.ag25, Tryd.sl59, Tryd.sz25, Nat.reduceMul, Nat.le_refl, hn5, ka]
    repeat ((with_reducible refine And.intro ?_ ?_); · exact ⟨Tryd.is64, by simpa only [ka] using large_one a (by omega)⟩)
    refine hK3 _ _ ?_
    refine vw_cond_k fun A B hA hB => ?_
    simp only [condV, ev_hit, length_putv, Nat.reduceLT, true_implies, reduceCtorEq, false_implies, and_true, hl]
    refine hA ?_
    clear hA hB A B
    refine vw_seq_k fun K4 hK4 => ?_
    refine vw_sc 0 [] ?_
    simp only [bs, Nat.reduceAdd, vparts, gfill, ↓vopx, ↓vop, Nat.reduceBEq, thenV, flat, Nat.reduceLT, V.cells, hl, wocs, ↓goc, ↓woc, ↓vopm0, Tryd.st25, Tryd.sz25, Nat.le_refl, hn10]
    refine hK4 _ _ ?_
    refine vw_ret ?_
    have hres : vSum (pushS a b c f g) = pack [vObj ⟨[], []⟩, .t (tInts []), .t (tInts []), I 11] := by simp [pushS, vSum, ka]; rfl
    rw [hres] at hQ
    refine hQ _ _ _ (.inr rfl) (done_wk (vs := [.agg [.t (.v (.slice none 0 0)), .t (.v (.slice none 0 0))], .t (.v (.slice none 0 0)), .t (.v (.slice none 0 0)), I 11]) (vs' := [vObj ⟨[], []⟩, .t (tInts []), .t (tInts []), I 11]) ?_ rfl (ewk_err4 _ _) (by simp [pack, nm, nm2, nm1, nm0]) ?_)
    · show vres Tryd.prog _ _ [.cell 10 25, .tmp 11, .tmp 12, .tmp 13] = _
      simp only [vres_cell, vres_tmp, vres_nil, ev_hit, ev_miss, Nat.reduceBEq, length_putv, hl, hn10, Tryd.sz25, Tryd.ag25, dLoad, m_set, vpart, if_true, Nat.reduceLT, List.drop_zero, List.take_succ_cons, List.take_zero, List.length_cons, List.length_nil, Nat.zero_add, Nat.reduceAdd]
      try rfl
    · exact fun n x hn h => by rw [m_set, if_neg (by omega), hnk n hn]; exact h
  · refine vw_sc 1 [.pur (Bo (largeS [a])), .pur (Bo (largeS [b, c]))] ?_
    simp only [bs, Nat.reduceLeDiff, Nat.reduceAdd, vparts, gfill, repl, Sg.frzP, ↓vopx, ↓vop, Nat.reduceBEq, thenV, flat, Nat.reduceLT, V.cells, dLoad, vpart, gtmp, Sg.frzL, Sg.frz1, hl, wocs, ↓goc, ↓woc, ↓vopm1, ↓callC, ↓pick_ff, calleeV, Tryd.ag25, Tryd.sl59, Tryd.sz25, setAll_a0, setAll_b2, Nat.reduceMul, Nat.le_refl, hn5, hn6, hn7, ka, kb]
    repeat ((with_reducible refine And.intro ?_ ?_); · first | exact ⟨Tryd.is64, by simpa only [ka] using large_one a (by omega)⟩ | exact ⟨Tryd.is64, by simpa only [kb] using large_two b c (by omega) (by omega)⟩)
    refine hK3 _ _ ?_
    refine vw_cond_k fun A B hA hB => ?_
    simp only [condV, ev_hit, length_putv, Nat.reduceLT, true_implies, reduceCtorEq, false_implies, and_true, hl]
    refine hA ?_
    clear hA hB A B
    refine vw_seq_k fun K5 hK5 => ?_
    refine vw_sc 0 [] ?_
    simp only [bs, Nat.reduceAdd, vparts, gfill, ↓vopx, ↓vop, Nat.reduceBEq, thenV, flat, Nat.reduceLT, V.cells, hl, wocs, ↓goc, ↓woc, ↓vopm0, Tryd.st25, Tryd.sz25, Nat.le_refl, hn10]
    refine hK5 _ _ ?_
    refine vw_ret ?_
    have hres : vSum (pushS a b c f g) = pack [vObj ⟨[], []⟩, .t (tInts []), .t (tInts []), I 11] := by simp [pushS, vSum, kb]; rfl
    rw [hres] at hQ
    refine hQ _ _ _ (.inr rfl) (done_wk (vs := [.agg [.t (.v (.slice none 0 0)), .t (.v (.slice none 0 0))], .t (.v (.slice none 0 0)), .t (.v (.slice none 0 0)), I 11]) (vs' := [vObj ⟨[], []⟩, .t (tInts []), .t (tInts []), I 11]) ?_ rfl (ewk_err4 _ _) (by simp [pack, nm, nm2, nm1, nm0]) ?_)
    · show vres Tryd.prog _ _ [.cell 10 25, .tmp 11, .tmp 12, .tmp 13] = _
      simp only [vres_cell, vres_tmp, vres_nil, ev_hit, ev_miss, Nat.reduceBEq, length_putv, hl, hn10, Tryd.sz25, Tryd.ag25, dLoad, m_set, vpart, if_true, Nat.reduceLT, List.drop_zero, List.take_succ_cons, List.take_zero, List.length_cons, List.length_nil, Nat.zero_add, Nat.reduceAdd]
      try rfl
    · exact fun n x hn h => by rw [m_set, if_neg (by omega), hnk n hn]; exact h
  · refine vw_sc 1 [.pur (Bo (largeS [a])), .pur (Bo (largeS [b, c]))] ?_
    simp only [bs, Nat.reduceLeDiff, Nat.reduceAdd, vparts, gfill, repl, Sg.frzP, ↓vopx, ↓vop, Nat.reduceBEq, thenV, flat, Nat.reduceLT, V.cells, dLoad, vpart, gtmp, Sg.frzL, Sg.frz1, hl, wocs, ↓goc, ↓woc, ↓vopm1, ↓callC, ↓pick_ff, calleeV, Tryd.ag25, Tryd.sl59, Tryd.sz25, setAll_a0, setAll_b2, Nat.reduceMul, Nat.le_refl, hn5, hn6, hn7, ka, kb]
    repeat ((with_reducible refine And.intro ?_ ?_); · first | exact ⟨Tryd.is64, by simpa only [ka] using large_one a (by omega)⟩ | exact ⟨Tryd.is64, by simpa only [kb] using large_two b c (by omega) (by omega)⟩)
    refine hK3 _ _ ?_
    refine vw_cond_k fun A B hA hB => ?_
    simp only [condV, ev_hit, length_putv, Nat.reduceLT, true_implies, reduceCtorEq, false_implies, true_and, hl]
    refine hB ?_
    clear hA hB A B
    refine vw_seq_k fun K6 hK6 => ?_
    rcases (show arrS a b f = false ∨ (arrS a b f = true ∧ arrS a c g = false) ∨ (arrS a b f = true ∧ arrS a c g = true) by cases arrS a b f <;> cases arrS a c g <;> simp) with kf | ⟨kf, kg⟩ | ⟨kf, kg⟩
    · refine vw_sc 0 [.pur (Bo (arrS a b f))] ?_
      simp only [bs, Nat.reduceAdd, ↓vopx, ↓vop, Nat.reduceBEq, thenV, flat, Nat.reduceLT, dLoad, vpart, gtmp, hl, h3, wocs, ↓goc, ↓woc, ↓vopm0, ↓callC, ↓pick_tf, calleeV, Tryd.ag25, Tryd.sz25, kf, hn5, hn6]
      repeat ((with_reducible refine And.intro ?_ ?_); · exact ⟨Tryd.is34, by simpa only [kf] using arrow_ a b f (by omega) (by omega) (by omega) (by omega) (by omega)⟩)
      refine hK6 _ _ ?_
      refine vw_cond_k fun A B hA hB => ?_
      simp only [condV, ev_hit, length_putv, Nat.reduceLT, true_implies, reduceCtorEq, false_implies, and_true, hl]
      refine hA ?_
      clear hA hB A B
      refine vw_seq_k fun K7 hK7 => ?_
      refine vw_sc 0 [] ?_
      simp only [bs, Nat.reduceAdd, vparts, gfill, ↓vopx, ↓vop, Nat.reduceBEq, thenV, flat, Nat.reduceLT, V.cells, hl, wocs, ↓goc, ↓woc, ↓vopm0, Tryd.st25, Tryd.sz25, Nat.le_refl, hn10]
      refine hK7 _ _ ?_
      refine vw_ret ?_
      have hres : vSum (pushS a b c f g) = pack [vObj ⟨[], []⟩, .t (tInts []), .t (tInts []), I 10] := by simp [pushS, vSum, ka, kb, kf]; rfl
      rw [hres] at hQ
      refine hQ _ _ _ (.inr rfl) (done_wk (vs := [.agg [.t (.v (.slice none 0 0)), .t (.v (.slice none 0 0))], .t (.v (.slice none 0 0)), .t (.v (.slice none 0 0)), I 10]) (vs' := [vObj ⟨[], []⟩, .t (tInts []), .t (tInts []), I 10]) ?_ rfl (ewk_err4 _ _) (by simp [pack, nm, nm2, nm1, nm0]) ?_)
      · show vres Tryd.prog _ _ [.cell 10 25, .tmp 11, .tmp 12, .tmp 13] = _
        simp only [vres_cell, vres_tmp, vres_nil, ev_hit, ev_miss, Nat.reduceBEq, length_putv, hl, hn10, Tryd.sz25, Tryd.ag25, dLoad, m_set, vpart, if_true, Nat.reduceLT, List.drop_zero, List.take_succ_cons, List.take_zero, List.length_cons, List.length_nil, Nat.zero_add, Nat.reduceAdd]
        try rfl
      · exact fun n x hn h => by rw [m_set, if_neg (by omega), hnk n hn]; exact h
    · refine vw_sc 0 [.pur (Bo (arrS a b f)), .pur (Bo (arrS a c g))] ?_
      simp only [bs, Nat.reduceAdd, ↓vopx, ↓vop, Nat.reduceBEq, thenV, flat, Nat.reduceLT, dLoad, vpart, gtmp, hl, h3, h4, wocs, ↓goc, ↓woc, ↓vopm0, ↓callC, ↓pick_ff, calleeV, Tryd.ag25, Tryd.sz25, kf, kg, hn5, hn6, hn7]
      repeat ((with_reducible refine And.intro ?_ ?_); · first | exact ⟨Tryd.is34, by simpa only [kf] using arrow_ a b f (by omega) (by omega) (by omega) (by omega) (by omega)⟩ | exact ⟨Tryd.is34, by simpa only [kg] using arrow_ a c g (by omega) (by omega) (by omega) (by omega) (by omega)⟩)
      refine hK6 _ _ ?_
      refine vw_cond_k fun A B hA hB => ?_
      simp only [condV, ev_hit, length_putv, Nat.reduceLT, true_implies, reduceCtorEq, false_implies, and_true, hl]
      refine hA ?_
      clear hA hB A B
      refine vw_seq_k fun K8 hK8 => ?_
      refine vw_sc 0 [] ?_
      simp only [bs, Nat.reduceAdd, vparts, gfill, ↓vopx, ↓vop, Nat.reduceBEq, thenV, flat, Nat.reduceLT, V.cells, hl, wocs, ↓goc, ↓woc, ↓vopm0, Tryd.st25, Tryd.sz25, Nat.le_refl, hn10]
      refine hK8 _ _ ?_
      refine vw_ret ?_
      have hres : vSum (pushS a b c f g) = pack [vObj ⟨[], []⟩, .t (tInts []), .t (tInts []), I 10] := by simp [pushS, vSum, ka, kb, kg]; rfl
      rw [hres] at hQ
      refine hQ _ _ _ (.inr rfl) (done_wk (vs := [.agg [.t (.v (.slice none 0 0)), .t (.v (.slice none 0 0))], .t (.v (.slice none 0 0)), .t (.v (.slice none 0 0)), I 10]) (vs' := [vObj ⟨[], []⟩, .t (tInts []), .t (tInts []), I 10]) ?_ rfl (ewk_err4 _ _) (by simp [pack, nm, nm2, nm1, nm0]) ?_)
      · show vres Tryd.prog _ _ [.cell 10 25, .tmp 11, .tmp 12, .tmp 13] = _
        simp only [vres_cell, vres_tmp, vres_nil, ev_hit, ev_miss, Nat.reduceBEq, length_putv, hl, hn10, Tryd.sz25, Tryd.ag25, dLoad, m_set, vpart, if_true, Nat.reduceLT, List.drop_zero, List.take_succ_cons, List.take_zero, List.length_cons, List.length_nil, Nat.zero_add, Nat.reduceAdd]
        try rfl
      · exact fun n x hn h => by rw [m_set, if_neg (by omega), hnk n hn]; exact h
    · refine vw_sc 0 [.pur (Bo (arrS a b f)), .pur (Bo (arrS a c g))] ?_
      simp only [bs, Nat.reduceAdd, ↓vopx, ↓vop, Nat.reduceBEq, thenV, flat, Nat.reduceLT, dLoad, vpart, gtmp, hl, h3, h4, wocs, ↓goc, ↓woc, ↓vopm0, ↓callC, ↓pick_ff, calleeV, Tryd.ag25, Tryd.sz25, kf, kg, hn5, hn6, hn7]
      repeat ((with_reducible refine And.intro ?_ ?_); · first | exact ⟨Tryd.is34, by simpa only [kf] using arrow_ a b f (by omega) (by omega) (by omega) (by omega) (by omega)⟩ | exact ⟨Tryd.is34, by simpa only [kg] using arrow_ a c g (by omega) (by omega) (by omega) (by omega) (by omega)⟩)
      refine hK6 _ _ ?_
      refine vw_cond_k fun A B hA hB => ?_
      simp only [condV, ev_hit, length_putv, Nat.reduceLT, true_implies, reduceCtorEq, false_implies, true_and, hl]
      refine hB ?_
      clear hA hB A B
      refine vw_skip ?_
      refine hK2 _ _ ?_
      refine vw_seq_k fun K9 hK9 => ?_
      have hoa := (arrS_iff.1 kf).1
      have hob := (arrS_iff.1 kf).2.1
      have hoc := (arrS_iff.1 kg).2.1
      have hla := hoa.le
      have hlb := hob.le
      have hlc := hoc.le
      have hfl := allY_length (arrS_iff.1 kf).2.2.1
      have hgl := allY_length (arrS_iff.1 kg).2.2.1
      have hL1 := legT_length b.labels.length 0
      have hL2 := legT_length c.labels.length b.labels.length
      have hOK : BsOK [b, c] := ⟨by simp, by intro o ho; simp at ho; rcases ho with rfl | rfl; exact hob; exact hoc, by intro o ho; simp at ho; rcases ho with rfl | rfl <;> omega⟩
      refine vw_sc 1 [.pur (.tup [vObj (besideS b c), .t (tMat [legT b.labels.length 0, legT c.labels.length b.labels.length])])] ?_
      simp only [bs, Nat.reduceLeDiff, Nat.reduceAdd, vparts, gfill, repl, Sg.frzP, ↓vopx, ↓vop, Nat.reduceBEq, thenV, Nat.reduceLT, V.cells, dLoad, vpart, Sg.frzL, Sg.frz1, hl, wocs, ↓goc, ↓woc, ↓vopm1, ↓callC, calleeV, Tryd.ag25, Tryd.sl59, Tryd.sz25, Tryd.zv25, setAll_a0, setAll_b2, Nat.reduceMul, Nat.le_refl, hn6, hn7]
      repeat ((with_reducible refine And.intro ?_ ?_); · exact ⟨Tryd.is65, by have h := beside_two b c hOK; rw [bsS_two, legs_two] at h; exact h⟩)
      refine hK9 _ _ ?_
      refine vw_seq_k fun K10 hK10 => ?_
      refine vw_st fun sP hSP => ?_
      have hp14 : sP.m sN.next = some (.box 25 [.t (tStrs (besideS b c).labels), .t (tPairs (besideS b c).pairs)]) := by rw [hSP, m_set, if_pos rfl]
      have hps : ∀ j, j < sN.next → sP.m j = sN.m j := fun j hj => by rw [hSP, m_set, if_neg (by omega), m_add, if_neg (by omega)]
      have hpn : sP.next = sN.next + 1 := by rw [hSP]; rfl
      have hp5 : sP.m s.next = some (.box 25 [.t (tStrs a.labels), .t (tPairs a.pairs)]) := by rw [hps _ (by omega)]; exact hn5
      have hp10 : sP.m (s.next + 1 + 1 + 1) = some (.box 25 [.t (.v (.slice none 0 0)), .t (.v (.slice none 0 0))]) := by rw [hps _ (by omega)]; exact hn10
      clear hSP
      refine vw_sc 0 [.pur (.tup [.t (tInts (thenS f (legT b.labels.length 0)).1), Bo (thenS f (legT b.labels.length 0)).2])] ?_
      simp only [bs, Nat.reduceAdd, ↓vopx, ↓vop, Nat.reduceBEq, thenV, flat, Nat.reduceLT, dLoad, vpart, hl, h3, wocs, ↓goc, ↓woc, ↓vopm0, ↓callC, calleeV, Tryd.ag26, Tryd.sz26, Tryd.un63, Int.toNat_zero]
      repeat ((with_reducible refine And.intro ?_ ?_); · first | omega | exact ⟨Tryd.is32, then_ f (legT b.labels.length 0) (by omega) (by omega)⟩)
      refine hK10 _ _ ?_
      refine vw_seq_k fun K11 hK11 => ?_
      refine vw_sc 0 [.pur (.tup [.t (tInts (thenS g (legT c.labels.length b.labels.length)).1), Bo (thenS g (legT c.labels.length b.labels.length)).2])] ?_
      simp only [bs, Nat.reduceAdd, ↓vopx, ↓vop, Nat.reduceBEq, thenV, flat, Nat.reduceLT, dLoad, vpart, hl, h4, wocs, ↓goc, ↓woc, ↓vopm0, ↓callC, calleeV, Tryd.ag26, Tryd.sz26, Tryd.un63, Int.toNat_one]
      repeat ((with_reducible refine And.intro ?_ ?_); · first | omega | exact ⟨Tryd.is32, then_ g (legT c.labels.length b.labels.length) (by omega) (by omega)⟩)
      refine hK11 _ _ ?_
      refine vw_seq_k fun K12 hK12 => ?_
      have ht1 := thenS_le f (legT b.labels.length 0)
      have ht2 := thenS_le g (legT c.labels.length b.labels.length)
      have hol : (besideS b c).labels.length < 1000000000 := by simp only [besideS, List.length_append]; omega
      have hop : (besideS b c).pairs.length < 1000000000 := by simp only [besideS, List.length_append, List.length_map]; omega
      refine vw_sc 0 [.pur (.tup [vObj (pushE a b c f g).1, .t (tInts (pushE a b c f g).2.1), I (pushE a b c f g).2.2])] ?_
      simp only [bs, Nat.reduceAdd, ↓vopx, ↓vop, Nat.reduceBEq, thenV, Nat.reduceLT, V.cells, dLoad, vpart, hl, wocs, ↓goc, ↓woc, ↓vopm0, ↓callC, calleeV, Tryd.ag25, Tryd.sz25, Tryd.zv25, Nat.le_refl, hp5, hp14]
      repeat ((with_reducible refine And.intro ?_ ?_); · exact ⟨Tryd.is28, equal_ a (besideS b c) _ _ (by omega) (by omega) hol hop (by omega) (by omega)⟩)
      refine hK12 _ _ ?_
      refine vw_seq_k fun K13 hK13 => ?_
      refine vw_seq_k fun K14 hK14 => ?_
      refine vw_st fun sQ hSQ => ?_
      have hq20 : sQ.m sP.next = some (.box 25 [.t (tStrs (pushE a b c f g).1.labels), .t (tPairs (pushE a b c f g).1.pairs)]) := by rw [hSQ, m_set, if_pos rfl]
      have hqs : ∀ j, j < sP.next → sQ.m j = sP.m j := fun j hj => by rw [hSQ, m_set, if_neg (by omega), m_add, if_neg (by omega)]
      have hq10 : sQ.m (s.next + 1 + 1 + 1) = some (.box 25 [.t (.v (.slice none 0 0)), .t (.v (.slice none 0 0))]) := by rw [hqs _ (by omega)]; exact hp10
      have hqk : ∀ j x, j < s.next → s.m j = some x → sQ.m j = some x := fun j x hj hx => by rw [hqs _ (by omega), hps _ (by omega), hnk j hj]; exact hx
      clear hSQ
      have hql : (pushE a b c f g).2.1.length ≤ (besideS b c).labels.length := eqS_le a (besideS b c) (thenS f (legT b.labels.length 0)).1 (thenS g (legT c.labels.length b.labels.length)).1
      have hql2 : (besideS b c).labels.length = b.labels.length + c.labels.length := by simp only [besideS, List.length_append]
      have hn20 : ¬ sP.next = s.next + 1 + 1 + 1 := by omega
      refine vw_sc 0 [] ?_
      simp only [bs, ↓vopx, ↓vop, thenV, flat, Nat.reduceLT, opII, hl, wocs, ↓goc, ↓woc, ↓vopm0]
      refine hK14 _ _ ?_
      refine vw_cond_k fun A B hA hB => ?_
      simp only [condV, ev_hit, length_putv, Nat.reduceLT, bne_iff_ne, bne_eq_false_iff_eq, ne_eq, hl]
      refine ⟨fun hez => hA ?_, fun hez => hB ?_⟩
      · clear hA hB A B
        refine vw_seq_k fun K15 hK15 => ?_
        refine vw_sc 0 [] ?_
        simp only [bs, Nat.reduceAdd, vparts, gfill, ↓vopx, ↓vop, Nat.reduceBEq, thenV, flat, Nat.reduceLT, V.cells, hl, wocs, ↓goc, ↓woc, ↓vopm0, Tryd.st25, Tryd.sz25, Nat.le_refl, hq10]
        refine hK15 _ _ ?_
        refine vw_ret ?_
        have hres : vSum (pushS a b c f g) = pack [vObj ⟨[], []⟩, .t (tInts []), .t (tInts []), I (pushE a b c f g).2.2] := by simp [pushS, vSum, ka, kb, kf, kg, hez]; rfl
        rw [hres] at hQ
        refine hQ _ _ _ (.inr rfl) (done_wk (vs := [.agg [.t (.v (.slice none 0 0)), .t (.v (.slice none 0 0))], .t (.v (.slice none 0 0)), .t (.v (.slice none 0 0)), I (pushE a b c f g).2.2]) (vs' := [vObj ⟨[], []⟩, .t (tInts []), .t (tInts []), I (pushE a b c f g).2.2]) ?_ rfl (ewk_err4 _ _) (by simp [pack, nm, nm2, nm1, nm0]) ?_)
        · show vres Tryd.prog _ _ [.cell 10 25, .tmp 11, .tmp 12, .tmp 13] = _
          simp only [vres_cell, vres_tmp, vres_nil, ev_hit, ev_miss, Nat.reduceBEq, length_putv, hl, hq10, Tryd.sz25, Tryd.ag25, dLoad, m_set, vpart, if_true, Nat.reduceLT, List.drop_zero, List.take_succ_cons, List.take_zero, List.length_cons, List.length_nil, Nat.zero_add, Nat.reduceAdd]
          try rfl
        · exact fun n x hn h => by rw [m_set, if_neg (by omega)]; exact hqk n x hn h
      · clear hA hB A B
        refine vw_skip ?_
        refine hK13 _ _ ?_
        refine vw_seq_k fun K16 hK16 => ?_
        refine vw_sc 0 [.pur (.tup [.t (tInts (thenS (legT b.labels.length 0) (pushE a b c f g).2.1).1), Bo (thenS (legT b.labels.length 0) (pushE a b c f g).2.1).2])] ?_
        simp only [bs, Nat.reduceAdd, ↓vopx, ↓vop, Nat.reduceBEq, thenV, flat, Nat.reduceLT, dLoad, vpart, hl, wocs, ↓goc, ↓woc, ↓vopm0, ↓callC, calleeV, Tryd.ag26, Tryd.sz26, Tryd.un63, Int.toNat_zero]
        repeat ((with_reducible refine And.intro ?_ ?_); · first | omega | exact ⟨Tryd.is32, then_ (legT b.labels.length 0) (pushE a b c f g).2.1 (by omega) (by omega)⟩)
        refine hK16 _ _ ?_
        refine vw_seq_k fun K17 hK17 => ?_
        refine vw_sc 0 [.pur (.tup [.t (tInts (thenS (legT c.labels.length b.labels.length) (pushE a b c f g).2.1).1), Bo (thenS (legT c.labels.length b.labels.length) (pushE a b c f g).2.1).2])] ?_
        simp only [bs, Nat.reduceAdd, ↓vopx, ↓vop, Nat.reduceBEq, thenV, flat, Nat.reduceLT, dLoad, vpart, hl, wocs, ↓goc, ↓woc, ↓vopm0, ↓callC, calleeV, Tryd.ag26, Tryd.sz26, Tryd.un63, Int.toNat_one]
        repeat ((with_reducible refine And.intro ?_ ?_); · first | omega | exact ⟨Tryd.is32, then_ (legT c.labels.length b.labels.length) (pushE a b c f g).2.1 (by omega) (by omega)⟩)
        refine hK17 _ _ ?_
        refine vw_seq_k fun K18 hK18 => ?_
        refine vw_sc 0 [] ?_
        simp only [bs, Nat.reduceAdd, ↓vopx, ↓vop, Nat.reduceBEq, thenV, flat, Nat.reduceLT, V.cells, dLoad, vpart, hl, wocs, ↓goc, ↓woc, ↓vopm0, Tryd.ag25, Tryd.sz25, Nat.le_refl, hq20, hq10]
        refine hK18 _ _ ?_
        refine vw_ret ?_
        have hres : vSum (pushS a b c f g) = pack [vObj (pushE a b c f g).1, .t (tInts (thenS (legT b.labels.length 0) (pushE a b c f g).2.1).1), .t (tInts (thenS (legT c.labels.length b.labels.length) (pushE a b c f g).2.1).1), I 0] := by simp [pushS, vSum, ka, kb, kf, kg, hez]; rfl
        rw [hres] at hQ
        refine hQ _ _ _ (.inr rfl) ?_
        refine done_flat (vs := [vObj (pushE a b c f g).1, .t (tInts (thenS (legT b.labels.length 0) (pushE a b c f g).2.1).1), .t (tInts (thenS (legT c.labels.length b.labels.length) (pushE a b c f g).2.1).1), I 0]) ?_ rfl (by simp [pack, nm, nm2, nm1, nm0]) (fun n x hn h => by rw [m_set, if_neg (by omega)]; exact hqk n x hn h)
        show vres Tryd.prog _ _ [.cell 10 25, .tmp 11, .tmp 12, .tmp 13] = _
        simp only [vres_cell, vres_tmp, vres_nil, ev_hit, ev_miss, Nat.reduceBEq, length_putv, hl, hq10, Tryd.sz25, Tryd.ag25, dLoad, m_set, vpart, if_true, Nat.reduceLT, List.drop_zero, List.take_succ_cons, List.take_zero, List.length_cons, List.length_nil, Nat.zero_add, Nat.reduceAdd]

end Go.Proofs

open Go Go.V
namespace Go.Proofs

/-- while labels are told -/
structure LaI (s : Sg) (o : Ob) (L : List Int) (i m7 : Nat) (s' : Sg) : Prop where
  b2 : s'.m s.next = some (.box 25 [.t (tStrs o.labels), .t (tPairs o.pairs)])
  b4 : s'.m (s.next + 1) = some (.box 25 [.t (.v (.slice none 0 0)), .t (.v (.slice none 0 0))])
  a7 : s'.m m7 = some (.arr 1 9 ((glLab o L i).map TS))
  same : ∀ j, j < s.next → s'.m j = s.m j
  lo : s.next + 2 ≤ m7
  hi : m7 < s'.next
theorem glLab_old {o : Ob} {L : List Int} {i : Nat} {z : Int} (hz : L[i]? = some z) (h : z ≠ (glLab o L i).length) : glLab o L (i + 1) = glLab o L i := by
  have hg := getD_of hz
  unfold glLab at h ⊢
  rw [List.length_map] at h
  show List.map _ (if L.getD i 0 = (fstL L i).length then fstL L i ++ [i] else fstL L i) = _
  rw [hg, if_neg h]
theorem glLab_new {o : Ob} {L : List Int} {i : Nat} {z : Int} {lb : ByteArray} (hz : L[i]? = some z) (h : z = (glLab o L i).length) (hl : o.labels[i]? = some lb) : glLab o L (i + 1) = glLab o L i ++ [lb] := by
  have hg := getD_of hz
  unfold glLab at h ⊢
  rw [List.length_map] at h
  show List.map _ (if L.getD i 0 = (fstL L i).length then fstL L i ++ [i] else fstL L i) = _
  rw [hg, if_pos h]
  simp [List.getD_eq_getElem?_getD, hl]
theorem LaI.old {s : Sg} {o : Ob} {L : List Int} {i m7 : Nat} {s' : Sg} (h : LaI s o L i m7 s') {z : Int} (hz : L[i]? = some z) (hn : z ≠ (glLab o L i).length) : ∃ m, V.loc m7 0 (glLab o L i).length = .loc m 0 (glLab o L (i + 1)).length ∧ LaI s o L (i + 1) m s' := by
  refine ⟨m7, ?_, ?_⟩
  · rw [glLab_old hz hn]
  · obtain ⟨h1, h2, h3, h4, h5, h6⟩ := h
    exact ⟨h1, h2, by rw [glLab_old hz hn]; exact h3, h4, h5, h6⟩
theorem LaI.new {s : Sg} {o : Ob} {L : List Int} {i m7 : Nat} {s' : Sg} (h : LaI s o L i m7 s') {z : Int} {lb : ByteArray} (hz : L[i]? = some z) (hn : z = (glLab o L i).length) (hl : o.labels[i]? = some lb) (B : Blk) : ∃ m, V.loc (s'.next + 1) 0 ((glLab o L i).length + 1) = .loc m 0 (glLab o L (i + 1)).length ∧ LaI s o L (i + 1) m (((s'.add B).del m7).add (.arr 1 9 ((glLab o L i).map TS ++ [TS lb]))) := by
  have hlo := h.lo
  have hhi := h.hi
  have hfr : ∀ x, x < s'.next → x ≠ m7 → (((s'.add B).del m7).add (.arr 1 9 ((glLab o L i).map TS ++ [TS lb]))).m x = s'.m x := fun x h1 h2 => by
    rw [m_add, if_neg (by simp only [n_del, n_add]; omega), m_del, if_neg h2, m_add, if_neg (by omega)]
  refine ⟨s'.next + 1, ?_, ?_, ?_, ?_, fun j hj => ?_, by omega, by simp only [n_del, n_add]; omega⟩
  · rw [glLab_new hz hn hl, List.length_append]; rfl
  · rw [hfr _ (by omega) (by omega)]; exact h.b2
  · rw [hfr _ (by omega) (by omega)]; exact h.b4
  · rw [m_add, if_pos (by simp only [n_del, n_add]), glLab_new hz hn hl, List.map_append]; rfl
  · rw [hfr _ (by omega) (by omega)]; exact h.same j hj

end Go.Proofs

open Go Go.V
namespace Go.Proofs

theorem largeS_one (b : Ob) : largeS [b] = decide (40 < b.labels.length) := by simp [largeS, sumT]
theorem largeS_two (b c : Ob) : largeS [b, c] = decide (40 < b.labels.length + c.labels.length) := by simp [largeS, sumT]

end Go.Proofs

open Go Go.V
namespace Go.Proofs

/-- while pairs are told -/
structure BdI (s : Sg) (b c : Ob) (n6 k m : Nat) (s' : Sg) : Prop where
  b3 : s'.m (s.next + 1) = some (.box 25 [.t (tStrs c.labels), .t (tPairs c.pairs)])
  b4 : s'.m (s.next + 1 + 1) = some (.box 25 [.t (.v (.slice none 0 0)), .t (.v (.slice none 0 0))])
  b6 : s'.m n6 = some (.box 25 [.t (tStrs (b.labels ++ c.labels)), .loc m 0 (b.pairs.length + k)])
  am : s'.m m = some (.arr 2 84 ((b.pairs ++ (c.pairs.take k).map (shP b.labels.length)).flatMap pcells))
  same : ∀ j, j < s.next → s'.m j = s.m j
  l6 : s.next + 3 ≤ n6 ∧ n6 < s'.next
  lm : s.next + 3 ≤ m ∧ m < s'.next
  d : n6 ≠ m
theorem BdI.push {s : Sg} {b c : Ob} {n6 i m : Nat} {s1 : Sg} (h : BdI s b c n6 i m s1) {p : Int × Int} (hp : c.pairs[i]? = some p) (B : Blk) : BdI s b c n6 (i + 1) (s1.next + 1)
    ((((s1.add B).del m).add (.arr 2 84 ((b.pairs ++ (c.pairs.take i).map (shP b.labels.length)).flatMap pcells ++ [TI (p.1 + b.labels.length), TI (p.2 + b.labels.length)]))).set n6 (.box 25 [.t (tStrs (b.labels ++ c.labels)), .loc (s1.next + 1) 0 (b.pairs.length + i + 1)])) := by
  obtain ⟨h3, h4, h6, ha, hs, ⟨l6, l6'⟩, ⟨lm, lm'⟩, hd⟩ := h
  have hfr : ∀ x, x < s1.next → x ≠ m → x ≠ n6 → ((((s1.add B).del m).add (.arr 2 84 ((b.pairs ++ (c.pairs.take i).map (shP b.labels.length)).flatMap pcells ++ [TI (p.1 + b.labels.length), TI (p.2 + b.labels.length)]))).set n6 (.box 25 [.t (tStrs (b.labels ++ c.labels)), .loc (s1.next + 1) 0 (b.pairs.length + i + 1)])).m x = s1.m x := fun x h1 h2 h5 => by
    rw [m_set, if_neg h5, m_add, if_neg (by simp only [n_del, n_add]; omega), m_del, if_neg h2, m_add, if_neg (by omega)]
  refine ⟨by rw [hfr _ (by omega) (by omega) (by omega)]; exact h3, by rw [hfr _ (by omega) (by omega) (by omega)]; exact h4, by rw [m_set, if_pos rfl]; rfl, ?_, fun j hj => by rw [hfr _ (by omega) (by omega) (by omega)]; exact hs j hj, ⟨l6, by simp only [n_set, n_add, n_del]; omega⟩, ⟨by omega, by simp only [n_set, n_add, n_del]; omega⟩, by omega⟩
  rw [m_set, if_neg (by omega), m_add, if_pos (by simp only [n_del, n_add]), List.take_add_one, hp]
  simp [shP, pcells]

end Go.Proofs

open Go Go.V
namespace Go.Proofs

theorem nc2 : ((2 : Nat) : Int) = 2 := rfl
theorem nc3 : ((3 : Nat) : Int) = 3 := rfl
end Go.Proofs

open Go Go.V
namespace Go.Proofs

theorem few_le {o : Ob} (h : fewS o = true) : o.labels.length ≤ 50 ∧ o.pairs.length ≤ 200 := by
  unfold fewS at h
  simp only [Bool.and_eq_true, decide_eq_true_eq] at h
  exact ⟨h.1.2, h.2⟩
end Go.Proofs

open Go Go.V
namespace Go.Proofs

theorem idS_leg (n : Nat) (h : n ≤ 40) : idS (n : Int) = legT n 0 := by
  unfold idS legT
  rw [show idN (n : Int) = n by simp [idN]; omega]
  simp
end Go.Proofs

open Go Go.V
namespace Go.Proofs

abbrev gMv (b : Ob) (g : List Int) : List Int := g.map (· + (b.labels.length : Int))
/-- the places when two maps into two objects are made one -/
def puPl (b c : Ob) (f g : List Int) : List Int := placesL (joinsL (rangeI (b.labels.length + c.labels.length)) f (gMv b g) f.length)
def pushR (a b c : Ob) (f g : List Int) : Ob × List Int × List Int × Int :=
  if largeS [a] = true ∨ largeS [b] = true ∨ largeS [b, c] = true then (⟨[], []⟩, [], [], 11) else if arrS a b f = true ∧ arrS a c g = true then
    (gluedS (besideS b c) (puPl b c f g), (puPl b c f g).take b.labels.length, (puPl b c f g).drop b.labels.length, 0)
  else (⟨[], []⟩, [], [], 10)
theorem legT_get {n base i : Nat} (h : i < n) : (legT n base)[i]? = some ((base + i : Nat) : Int) := by simp [legT, h]
theorem then_leg {f : List Int} {n base : Nat} (h : ∀ y ∈ f, 0 ≤ y ∧ y < n) : (thenS f (legT n base)).1 = f.map (· + (base : Int)) := by
  have ha : f.all (fun y => decide (0 ≤ y) && decide (y < (legT n base).length)) = true := by
    rw [List.all_eq_true]
    intro y hy
    have := h y hy
    rw [legT_length]
    simp only [Bool.and_eq_true, decide_eq_true_eq]; exact this
  unfold thenS
  rw [if_pos ha]
  show List.map _ f = _
  refine List.map_congr_left fun y hy => ?_
  have hy2 := h y hy
  have := legT_get (n := n) (base := base) (i := y.toNat) (by omega)
  rw [List.getD_eq_getElem?_getD, this]
  show ((base + y.toNat : Nat) : Int) = y + base
  omega
theorem leg_then {L : List Int} {n base : Nat} (h : base + n ≤ L.length) : (thenS (legT n base) L).1 = (L.drop base).take n := by
  have ha : (legT n base).all (fun y => decide (0 ≤ y) && decide (y < L.length)) = true := by
    rw [List.all_eq_true]
    intro y hy
    obtain ⟨i, hi, rfl⟩ := List.mem_map.1 hy
    have := List.mem_range.1 hi
    simp only [Bool.and_eq_true, decide_eq_true_eq]; omega
  unfold thenS
  rw [if_pos ha]
  show List.map _ (legT n base) = _
  apply List.ext_getElem?
  intro i
  by_cases hi : i < n
  · rw [List.getElem?_map, legT_get hi, List.getElem?_take, if_pos hi, List.getElem?_drop, Option.map_some, Int.toNat_natCast, List.getD_eq_getElem?_getD, List.getElem?_eq_getElem (show base + i < L.length by omega)]; rfl
  · rw [List.getElem?_eq_none (by simp [legT]; omega), List.getElem?_eq_none (by simp; omega)]
theorem arr_all {a b : Ob} {f : List Int} (h : arrS a b f = true) : ∀ y ∈ f, 0 ≤ y ∧ y < b.labels.length := fun y hy => by
  obtain ⟨i, hi⟩ := List.mem_iff_getElem?.1 hy
  obtain ⟨z, h1, h2⟩ := arr_at h (List.getElem?_eq_some_iff.1 hi).1
  rw [hi] at h1; cases h1
  omega
theorem pushS_eq (a b c : Ob) (f g : List Int) : pushS a b c f g = pushR a b c f g := by
  unfold pushS pushR
  by_cases h1 : largeS [a] = true ∨ largeS [b, c] = true
  · rw [if_pos h1, if_pos (by rcases h1 with h | h; exact .inl h; exact .inr (.inr h))]
  · have h2 : ¬ (largeS [a] = true ∨ largeS [b] = true ∨ largeS [b, c] = true) := by
      rintro (h | h | h)
      · exact h1 (.inl h)
      · refine h1 (.inr ?_)
        rw [largeS_one] at h
        rw [largeS_two]
        have := of_decide_eq_true h
        exact decide_eq_true (by omega)
      · exact h1 (.inr h)
    rw [if_neg h1, if_neg h2]
    by_cases hk : arrS a b f = true ∧ arrS a c g = true
    · rw [if_pos hk, if_pos hk]
      obtain ⟨kf, kg⟩ := hk
      have hob := (arrS_iff.1 kf).2.1
      have hoc := (arrS_iff.1 kg).2.1
      have hbc : b.labels.length + c.labels.length ≤ 40 := by
        have : ¬ largeS [b, c] = true := fun h => h1 (.inr h)
        rw [largeS_two] at this
        have := mt decide_eq_true this
        omega
      have hol : (besideS b c).labels.length = b.labels.length + c.labels.length := by simp only [besideS, List.length_append]
      have t1 : (thenS f (legT b.labels.length 0)).1 = f := by rw [then_leg (arr_all kf)]; simp
      have t2 : (thenS g (legT c.labels.length b.labels.length)).1 = gMv b g := then_leg (arr_all kg)
      have he : pushE a b c f g = (gluedS (besideS b c) (puPl b c f g), puPl b c f g, 0) := by
        unfold pushE eqS
        rw [t1, t2]
        rw [if_neg (by
          rintro (h | h)
          · exact h1 (.inl h)
          · rw [largeS_one, hol] at h
            have := of_decide_eq_true h
            omega), if_pos ⟨arr_left kf hoc hbc, arr_right hob kg hbc⟩]
        have : eqPl (besideS b c) f (gMv b g) = puPl b c f g := by unfold eqPl puPl; rw [hol]
        rw [this]
      have hpl : (puPl b c f g).length = b.labels.length + c.labels.length := by unfold puPl; rw [placesL_length, joinsL_length, rangeI_length]
      rw [he]
      simp only [if_true]
      rw [leg_then (by omega), leg_then (by omega), List.drop_zero, show (List.drop b.labels.length (puPl b c f g)).take c.labels.length = List.drop b.labels.length (puPl b c f g) from List.take_of_length_le (by rw [List.length_drop]; omega)]
    · rw [if_neg hk, if_neg hk]
end Go.Proofs

open Go Go.V
namespace Go.Proofs

abbrev k7x : ByteArray := ⟨#[120]⟩
abbrev k7y : ByteArray := ⟨#[121]⟩
abbrev k7z : ByteArray := ⟨#[122]⟩
abbrev k7A : Ob := ⟨[k7x], []⟩
abbrev k7B : Ob := ⟨[k7x, k7y], [(0, 1)]⟩
abbrev k7C : Ob := ⟨[k7z, k7x], [(0, 1)]⟩
abbrev k7S : Ob := ⟨[k7x, k7x], []⟩
theorem k7_p1 : (pushS k7A k7B k7C [0] [1]).1.labels.length = 3 ∧ (pushS k7A k7B k7C [0] [1]).1.pairs.length = 3 ∧ (pushS k7A k7B k7C [0] [1]).2.1 = [0, 1] ∧ (pushS k7A k7B k7C [0] [1]).2.2.1 = [2, 0] ∧ (pushS k7A k7B k7C [0] [1]).2.2.2 = 0 := by decide +kernel
theorem k7_p2 : (pushS k7A k7B k7C [0] [0]).2.2.2 = 10 := by decide +kernel
theorem k7_s : (sumS k7A k7A).1.labels = [k7x, k7x] ∧ (sumS k7A k7A).1.pairs = [] ∧ (sumS k7A k7A).2.1 = [0] ∧ (sumS k7A k7A).2.2.1 = [1] ∧ (sumS k7A k7A).2.2.2 = 0 := by decide +kernel
theorem k7_e : (eqS k7A k7S [0] [1]).1.labels.length = 1 ∧ (eqS k7A k7S [0] [1]).2.1 = [0, 0] ∧ (eqS k7A k7S [0] [1]).2.2 = 0 := by decide +kernel
end Go.Proofs

open Go Go.V
namespace Go.Proofs

def o7P : Ob := (pushS k7A k7B k7C [0] [1]).1
def o7E : Ob := (eqS k7A k7S [0] [1]).1
def q7 : Ob × List Int × List Int × Int := pushS k7A k7B k7C [0] [0]
theorem o7P_l : o7P.labels.length = 3 := k7_p1.1
theorem o7P_p : o7P.pairs.length = 3 := k7_p1.2.1
theorem o7E_l : o7E.labels.length = 1 := k7_e.1
theorem vw_en {P : Program} {c : Code} {Q : Exit → Env → Sg → Prop} {e : Env} {s : Sg} (h : ∀ e1, e1 = e → VW P c Q e1 s) : VW P c Q e s := h e rfl
theorem nc1 : ((1 : Nat) : Int) = 1 := rfl
theorem vlen_sl1 (cs : List T) : vlen (.t (.sl 1 cs)) = some cs.length := by simp [vlen]
theorem vsum_at {r : Ob × List Int × List Int × Int} {f g : List Int} {z : Int} (h1 : r.2.1 = f) (h2 : r.2.2.1 = g) (h3 : r.2.2.2 = z) : vSum r = .tup [vObj r.1, .t (tInts f), .t (tInts g), I z] := by subst h1 h2 h3; rfl
theorem vsum_ob {r : Ob × List Int × List Int × Int} {f g : List Int} {z : Int} {o : Ob} (h0 : r.1.labels = o.labels) (h0' : r.1.pairs = o.pairs) (h1 : r.2.1 = f) (h2 : r.2.2.1 = g) (h3 : r.2.2.2 = z) : vSum r = .tup [vObj o, .t (tInts f), .t (tInts g), I z] := by
  subst h1 h2 h3
  obtain ⟨o1, l, m, y⟩ := r
  obtain ⟨a, b⟩ := o1
  obtain ⟨c, d⟩ := o
  simp only at h0 h0'
  subst h0 h0'
  rfl
theorem veq_at {r : Ob × List Int × Int} {f : List Int} {z : Int} (h1 : r.2.1 = f) (h3 : r.2.2 = z) : vEq r = .tup [vObj r.1, .t (tInts f), I z] := by subst h1 h3; rfl
theorem kc7_p1 : PCall Tryd.prog 22 [vObj k7A, vObj k7B, vObj k7C, .t (tInts [0]), .t (tInts [1])] (.tup [vObj o7P, .t (tInts [0, 1]), .t (tInts [2, 0]), I 0]) := by
  have h := vsum_at k7_p1.2.2.1 k7_p1.2.2.2.1 k7_p1.2.2.2.2
  have := push_ k7A k7B k7C [0] [1] (by decide) (by decide) (by decide) (by decide) (by decide) (by decide) (by decide) (by decide)
  rw [h] at this
  exact this
theorem kc7_p2 : PCall Tryd.prog 22 [vObj k7A, vObj k7B, vObj k7C, .t (tInts [0]), .t (tInts [0])] (.tup [vObj q7.1, .t (tInts q7.2.1), .t (tInts q7.2.2.1), I 10]) := by
  have h := vsum_at (r := pushS k7A k7B k7C [0] [0]) rfl rfl k7_p2
  have := push_ k7A k7B k7C [0] [0] (by decide) (by decide) (by decide) (by decide) (by decide) (by decide) (by decide) (by decide)
  rw [h] at this
  exact this
theorem kc7_s : PCall Tryd.prog 26 [vObj k7A, vObj k7A] (.tup [vObj k7S, .t (tInts [0]), .t (tInts [1]), I 0]) := by
  have h := vsum_ob (o := k7S) k7_s.1 k7_s.2.1 k7_s.2.2.1 k7_s.2.2.2.1 k7_s.2.2.2.2
  have := sum_ k7A k7A (by decide) (by decide) (by decide) (by decide)
  rw [h] at this
  exact this
theorem kc7_e : PCall Tryd.prog 28 [vObj k7A, vObj k7S, .t (tInts [0]), .t (tInts [1])] (.tup [vObj o7E, .t (tInts [0, 0]), I 0]) := by
  have h := veq_at k7_e.2.1 k7_e.2.2
  have := equal_ k7A k7S [0] [1] (by decide) (by decide) (by decide) (by decide) (by decide) (by decide)
  rw [h] at this
  exact this

set_option maxRecDepth 20000 in
set_option maxHeartbeats 8000000 in
theorem known7_  : PCall Tryd.prog 20 [] (Bo true) := by
  refine pcall_of_body Tryd.func20 rfl fun s Q hQ => ?_
  obtain ⟨e, he, hl⟩ : ∃ e : Env, ([] ++ List.replicate (Tryd.f20.ntmps - ([] : List V).length) .junk) = e ∧ e.length = 158 := ⟨_, rfl, rfl⟩
  rw [he]
  clear he
  refine vw_seq_k fun K1 hK1 => ?_
  refine vw_sc 0 [] ?_
  simp only [bs, ↓vopx, ↓vop, thenV, flat, wocs, ↓goc, ↓woc, ↓vopm0]
  refine hK1 _ _ ?_
  refine vw_seq_k fun K2 hK2 => ?_
  refine vw_cut 10 rfl ?_
  refine vl_chunk 1 0 6 4 [] [] (by decide +kernel) (by decide) fun ops' KC hgs hKC => ?_
  simp only [bs, Nat.reduceLeDiff, Nat.reduceAdd, vparts, gfill, repl, Sg.frzP, ↓vopx, Nat.reduceBEq, flat, Nat.reduceLT, V.cells, Sg.frzL, Sg.frz1, hl, wocs, ↓goc, ↓woc, ↓vopm1, Tryd.sl22, Tryd.sl23, Tryd.st25, Tryd.st84]
  repeat ((with_reducible refine And.intro ?_ ?_); · omega)
  refine hKC _ _ ?_
  clear hgs hKC KC ops'
  refine vl_env fun e1_0 hE => ?_
  have hl1_0 : e1_0.length = 158 := by rw [hE]; simp only [length_putv, hl]
  have q20 : ev e1_0 (.tmp 20) = .agg [.t (.sl 1 [.v (.string k7x)]), .t (.v (.slice none 0 0))] := by rw [hE]; simp only [ev_hit, ev_miss, Nat.reduceBEq, length_putv, hl, Nat.reduceLT]
  have q24 : ev e1_0 (.tmp 24) = .agg [.t (.sl 1 [.v (.string k7x), .v (.string k7y)]), .t (.sl 2 [.v (.int .i64 0), .v (.int .i64 1)])] := by rw [hE]; simp only [ev_hit, length_putv, hl, Nat.reduceLT]
  clear hE
  refine vl_chunk 1 6 4 0 [] [] (by decide +kernel) (by decide) fun ops' KC hgs hKC => ?_
  simp only [bs, Nat.reduceAdd, ↓vopx, ↓vop, Nat.reduceBEq, Nat.reduceLT, V.cells, hl1_0, q20, q24, wocs, ↓goc, ↓woc, ↓vopm1, Tryd.sz25, Tryd.zv25, nns]
  refine hKC _ _ ?_
  clear hgs hKC KC ops'
  refine vl_nil ?_
  try simp only [thenV]
  refine hK2 _ _ ?_
  refine vw_seq_k fun K3 hK3 => ?_
  refine VW.nilBox s.next 1 2 (by omega) (ty := 25) (vs := [.t (.sl 1 [.v (.string k7x)]), .t (.v (.slice none 0 0))]) (by simp only [m_set, m_add, n_add, nns, if_true, if_false]) rfl ?_
  refine vw_en fun eb hE => ?_
  have hlb : eb.length = 158 := by rw [hE]; simp only [length_putv, hl1_0]
  have b1 : ev eb (.tmp 1) = .ptr (s.next) 0 := by rw [hE]; simp only [ev_hit, ev_miss, Nat.reduceBEq, hl1_0, Nat.reduceLT]
  have b2 : ev eb (.tmp 2) = .ptr (s.next + 1) 0 := by rw [hE]; simp only [ev_hit, length_putv, hl1_0, Nat.reduceLT]
  clear hE
  refine vw_st fun sb hS => ?_
  have bA : sb.m (s.next) = some (.box 25 [.t (.sl 1 [.v (.string k7x)]), .t (.sl 2 [])]) := by rw [hS]; simp only [m_set, m_add, n_add, nns, if_true, if_false, List.set_cons_succ, List.set_cons_zero]
  have bB : sb.m (s.next + 1) = some (.box 25 [.t (.sl 1 [.v (.string k7x), .v (.string k7y)]), .t (.sl 2 [.v (.int .i64 0), .v (.int .i64 1)])]) := by rw [hS]; simp only [m_set, m_add, n_add, nns, if_true, if_false, List.set_cons_succ, List.set_cons_zero]
  have hnb : sb.next = s.next + 1 + 1 := by rw [hS]; simp only [n_add, n_set, ]
  have hkb : ∀ j, j < s.next → sb.m j = s.m j := fun j hj => by have z0 : ¬ j = s.next := (by omega); have z1 : ¬ j = s.next + 1 := (by omega); rw [hS]; simp only [m_set, m_add, n_add, z0, z1, if_false]
  clear hS
  refine vw_sc 1 [] ?_
  simp only [bs, Nat.reduceLeDiff, Nat.reduceAdd, vparts, gfill, repl, Sg.frzP, ↓vopx, ↓vop, Nat.reduceBEq, thenV, flat, Nat.reduceLT, V.cells, Sg.frzL, Sg.frz1, hlb, hnb, wocs, ↓goc, ↓woc, ↓vopm1, Tryd.sl22, Tryd.sl23, Tryd.st25, Tryd.st84, Tryd.sz25, Tryd.zv25, nns]
  repeat ((with_reducible refine And.intro ?_ ?_); · omega)
  refine hK3 _ _ ?_
  refine vw_seq_k fun K4 hK4 => ?_
  refine vw_en fun ec hE => ?_
  have hlc : ec.length = 158 := by rw [hE]; simp only [length_putv, hlb]
  have c1 : ev ec (.tmp 1) = .ptr (s.next) 0 := by rw [hE]; simp only [ev_miss, Nat.reduceBEq, b1]
  have c2 : ev ec (.tmp 2) = .ptr (s.next + 1) 0 := by rw [hE]; simp only [ev_miss, Nat.reduceBEq, b2]
  have c3 : ev ec (.tmp 3) = .ptr (s.next + 1 + 1) 0 := by rw [hE]; simp only [ev_hit, length_putv, hlb, Nat.reduceLT]
  clear hE
  refine vw_st fun sc hS => ?_
  have cA : sc.m (s.next) = some (.box 25 [.t (.sl 1 [.v (.string k7x)]), .t (.sl 2 [])]) := by rw [hS]; simp only [m_set, m_add, nns, if_false, bA, hnb]
  have cB : sc.m (s.next + 1) = some (.box 25 [.t (.sl 1 [.v (.string k7x), .v (.string k7y)]), .t (.sl 2 [.v (.int .i64 0), .v (.int .i64 1)])]) := by rw [hS]; simp only [m_set, m_add, nns, if_false, bB, hnb]
  have cC : sc.m (s.next + 1 + 1) = some (.box 25 [.t (.sl 1 [.v (.string k7z), .v (.string k7x)]), .t (.sl 2 [.v (.int .i64 0), .v (.int .i64 1)])]) := by rw [hS]; simp only [m_set, m_add, if_true, hnb]
  have hnc : sc.next = s.next + 1 + 1 + 1 := by rw [hS]; simp only [n_add, n_set, hnb]
  have hkc : ∀ j, j < s.next → sc.m j = s.m j := fun j hj => by have z0 : ¬ j = s.next := (by omega); have z1 : ¬ j = s.next + 1 := (by omega); have z2 : ¬ j = s.next + 1 + 1 := (by omega); rw [hS]; simp only [m_set, m_add, hnb, z2, if_false, hkb j hj]
  clear hS
  refine vw_sc 1 [.pur (.tup [vObj o7P, .t (tInts [0, 1]), .t (tInts [2, 0]), I 0])] ?_
  simp only [bs, Nat.reduceLeDiff, Nat.reduceAdd, vparts, gfill, repl, Sg.frzP, ↓vopx, ↓vop, Nat.reduceBEq, thenV, flat, Nat.reduceLT, V.cells, dLoad, vpart, Sg.frzL, Sg.frz1, hlc, c1, c2, c3, cA, cB, cC, hnc, wocs, ↓goc, ↓woc, ↓vopm1, ↓callC, calleeV, Tryd.ag25, Tryd.sl26, Tryd.sz25, Tryd.zv25, nns]
  repeat ((with_reducible refine And.intro ?_ ?_); · exact ⟨Tryd.is22, kc7_p1⟩)
  refine hK4 _ _ ?_
  refine vw_seq_k fun K5 hK5 => ?_
  refine vw_en fun ed hE => ?_
  have hld : ed.length = 158 := by rw [hE]; simp only [length_putv, hlc]
  have d1 : ev ed (.tmp 1) = .ptr (s.next) 0 := by rw [hE]; simp only [ev_miss, Nat.reduceBEq, c1]
  have d2 : ev ed (.tmp 2) = .ptr (s.next + 1) 0 := by rw [hE]; simp only [ev_miss, Nat.reduceBEq, c2]
  have d3 : ev ed (.tmp 3) = .ptr (s.next + 1 + 1) 0 := by rw [hE]; simp only [ev_miss, Nat.reduceBEq, c3]
  have d4 : ev ed (.tmp 4) = .ptr (s.next + 1 + 1 + 1) 0 := by rw [hE]; simp only [ev_hit, ev_miss, Nat.reduceBEq, length_putv, hlc, Nat.reduceLT]
  have d5 : ev ed (.tmp 5) = .t (tInts [0, 1]) := by rw [hE]; simp only [ev_hit, ev_miss, Nat.reduceBEq, length_putv, hlc, Nat.reduceLT]
  have d6 : ev ed (.tmp 6) = .t (tInts [2, 0]) := by rw [hE]; simp only [ev_hit, ev_miss, Nat.reduceBEq, length_putv, hlc, Nat.reduceLT]
  have d7 : ev ed (.tmp 7) = I 0 := by rw [hE]; simp only [ev_hit, length_putv, hlc, Nat.reduceLT]
  clear hE
  refine vw_st fun sd hS => ?_
  have dA : sd.m (s.next) = some (.box 25 [.t (.sl 1 [.v (.string k7x)]), .t (.sl 2 [])]) := by rw [hS]; simp only [m_set, m_add, nns, if_false, cA, hnc]
  have dB : sd.m (s.next + 1) = some (.box 25 [.t (.sl 1 [.v (.string k7x), .v (.string k7y)]), .t (.sl 2 [.v (.int .i64 0), .v (.int .i64 1)])]) := by rw [hS]; simp only [m_set, m_add, nns, if_false, cB, hnc]
  have dC : sd.m (s.next + 1 + 1) = some (.box 25 [.t (.sl 1 [.v (.string k7z), .v (.string k7x)]), .t (.sl 2 [.v (.int .i64 0), .v (.int .i64 1)])]) := by rw [hS]; simp only [m_set, m_add, nns, if_false, cC, hnc]
  have dP : sd.m (s.next + 1 + 1 + 1) = some (.box 25 [.t (tStrs o7P.labels), .t (tPairs o7P.pairs)]) := by rw [hS]; simp only [m_set, m_add, if_true, hnc]
  have hnd : sd.next = s.next + 1 + 1 + 1 + 1 := by rw [hS]; simp only [n_add, n_set, hnc]
  have hkd : ∀ j, j < s.next → sd.m j = s.m j := fun j hj => by have z0 : ¬ j = s.next := (by omega); have z1 : ¬ j = s.next + 1 := (by omega); have z2 : ¬ j = s.next + 1 + 1 := (by omega); have z3 : ¬ j = s.next + 1 + 1 + 1 := (by omega); rw [hS]; simp only [m_set, m_add, hnc, z3, if_false, hkc j hj]
  clear hS
  refine vw_sc 1 [.pur (.tup [vObj q7.1, .t (tInts q7.2.1), .t (tInts q7.2.2.1), I 10])] ?_
  simp only [bs, Nat.reduceLeDiff, Nat.reduceAdd, vparts, gfill, repl, Sg.frzP, ↓vopx, ↓vop, Nat.reduceBEq, thenV, flat, Nat.reduceLT, V.cells, dLoad, vpart, Sg.frzL, Sg.frz1, hld, d1, d2, d3, dA, dB, dC, hnd, wocs, ↓goc, ↓woc, ↓vopm1, ↓callC, calleeV, Tryd.ag25, Tryd.sl26, Tryd.sz25, Tryd.zv25, nns]
  repeat ((with_reducible refine And.intro ?_ ?_); · exact ⟨Tryd.is22, kc7_p2⟩)
  refine hK5 _ _ ?_
  refine vw_seq_k fun K6 hK6 => ?_
  refine vw_en fun ef hE => ?_
  have hlf : ef.length = 158 := by rw [hE]; simp only [length_putv, hld]
  have f1 : ev ef (.tmp 1) = .ptr (s.next) 0 := by rw [hE]; simp only [ev_miss, Nat.reduceBEq, d1]
  have f4 : ev ef (.tmp 4) = .ptr (s.next + 1 + 1 + 1) 0 := by rw [hE]; simp only [ev_miss, Nat.reduceBEq, d4]
  have f5 : ev ef (.tmp 5) = .t (tInts [0, 1]) := by rw [hE]; simp only [ev_miss, Nat.reduceBEq, d5]
  have f6 : ev ef (.tmp 6) = .t (tInts [2, 0]) := by rw [hE]; simp only [ev_miss, Nat.reduceBEq, d6]
  have f7 : ev ef (.tmp 7) = I 0 := by rw [hE]; simp only [ev_miss, Nat.reduceBEq, d7]
  have f11 : ev ef (.tmp 11) = I 10 := by rw [hE]; simp only [ev_hit, length_putv, hld, Nat.reduceLT]
  clear hE
  refine vw_st fun sf hS => ?_
  have fA : sf.m (s.next) = some (.box 25 [.t (.sl 1 [.v (.string k7x)]), .t (.sl 2 [])]) := by rw [hS]; simp only [m_set, m_add, nns, if_false, dA, hnd]
  have fP : sf.m (s.next + 1 + 1 + 1) = some (.box 25 [.t (tStrs o7P.labels), .t (tPairs o7P.pairs)]) := by rw [hS]; simp only [m_set, m_add, nns, if_false, dP, hnd]
  have hnf : sf.next = s.next + 1 + 1 + 1 + 1 + 1 := by rw [hS]; simp only [n_add, n_set, hnd]
  have hkf : ∀ j, j < s.next → sf.m j = s.m j := fun j hj => by have z0 : ¬ j = s.next := (by omega); have z1 : ¬ j = s.next + 1 := (by omega); have z2 : ¬ j = s.next + 1 + 1 := (by omega); have z3 : ¬ j = s.next + 1 + 1 + 1 := (by omega); have z4 : ¬ j = s.next + 1 + 1 + 1 + 1 := (by omega); rw [hS]; simp only [m_set, m_add, hnd, z4, if_false, hkd j hj]
  clear hS
  refine vw_sc 1 [.pur (.tup [vObj k7S, .t (tInts [0]), .t (tInts [1]), I 0])] ?_
  simp only [bs, Nat.reduceAdd, ↓vopx, ↓vop, Nat.reduceBEq, thenV, Nat.reduceLT, V.cells, dLoad, vpart, hlf, f1, fA, hnf, wocs, ↓goc, ↓woc, ↓vopm1, ↓callC, calleeV, Tryd.ag25, Tryd.sz25, Tryd.zv25]
  repeat ((with_reducible refine And.intro ?_ ?_); · exact ⟨Tryd.is26, kc7_s⟩)
  refine hK6 _ _ ?_
  refine vw_seq_k fun K7 hK7 => ?_
  refine vw_en fun eg hE => ?_
  have hlg : eg.length = 158 := by rw [hE]; simp only [length_putv, hlf]
  have g1 : ev eg (.tmp 1) = .ptr (s.next) 0 := by rw [hE]; simp only [ev_miss, Nat.reduceBEq, f1]
  have g4 : ev eg (.tmp 4) = .ptr (s.next + 1 + 1 + 1) 0 := by rw [hE]; simp only [ev_miss, Nat.reduceBEq, f4]
  have g5 : ev eg (.tmp 5) = .t (tInts [0, 1]) := by rw [hE]; simp only [ev_miss, Nat.reduceBEq, f5]
  have g6 : ev eg (.tmp 6) = .t (tInts [2, 0]) := by rw [hE]; simp only [ev_miss, Nat.reduceBEq, f6]
  have g7 : ev eg (.tmp 7) = I 0 := by rw [hE]; simp only [ev_miss, Nat.reduceBEq, f7]
  have g11 : ev eg (.tmp 11) = I 10 := by rw [hE]; simp only [ev_miss, Nat.reduceBEq, f11]
  have g12 : ev eg (.tmp 12) = .ptr (s.next + 1 + 1 + 1 + 1 + 1) 0 := by rw [hE]; simp only [ev_hit, ev_miss, Nat.reduceBEq, length_putv, hlf, Nat.reduceLT]
  have g13 : ev eg (.tmp 13) = .t (tInts [0]) := by rw [hE]; simp only [ev_hit, ev_miss, Nat.reduceBEq, length_putv, hlf, Nat.reduceLT]
  have g14 : ev eg (.tmp 14) = .t (tInts [1]) := by rw [hE]; simp only [ev_hit, ev_miss, Nat.reduceBEq, length_putv, hlf, Nat.reduceLT]
  have g15 : ev eg (.tmp 15) = I 0 := by rw [hE]; simp only [ev_hit, length_putv, hlf, Nat.reduceLT]
  clear hE
  refine vw_st fun sg hS => ?_
  have gA : sg.m (s.next) = some (.box 25 [.t (.sl 1 [.v (.string k7x)]), .t (.sl 2 [])]) := by rw [hS]; simp only [m_set, m_add, nns, if_false, fA, hnf]
  have gP : sg.m (s.next + 1 + 1 + 1) = some (.box 25 [.t (tStrs o7P.labels), .t (tPairs o7P.pairs)]) := by rw [hS]; simp only [m_set, m_add, nns, if_false, fP, hnf]
  have gS : sg.m (s.next + 1 + 1 + 1 + 1 + 1) = some (.box 25 [.t (tStrs k7S.labels), .t (tPairs k7S.pairs)]) := by rw [hS]; simp only [m_set, m_add, if_true, hnf]
  have hng : sg.next = s.next + 1 + 1 + 1 + 1 + 1 + 1 := by rw [hS]; simp only [n_add, n_set, hnf]
  have hkg : ∀ j, j < s.next → sg.m j = s.m j := fun j hj => by have z0 : ¬ j = s.next := (by omega); have z1 : ¬ j = s.next + 1 := (by omega); have z2 : ¬ j = s.next + 1 + 1 := (by omega); have z3 : ¬ j = s.next + 1 + 1 + 1 := (by omega); have z4 : ¬ j = s.next + 1 + 1 + 1 + 1 := (by omega); have z5 : ¬ j = s.next + 1 + 1 + 1 + 1 + 1 := (by omega); rw [hS]; simp only [m_set, m_add, hnf, z5, if_false, hkf j hj]
  clear hS
  refine vw_sc 1 [.pur (.tup [vObj o7E, .t (tInts [0, 0]), I 0])] ?_
  simp only [bs, Nat.reduceLeDiff, Nat.reduceAdd, vparts, gfill, repl, Sg.frzP, ↓vopx, ↓vop, Nat.reduceBEq, thenV, flat, Nat.reduceLT, V.cells, dLoad, vpart, Sg.frzL, Sg.frz1, hlg, g1, g12, gA, gS, hng, wocs, ↓goc, ↓woc, ↓vopm1, ↓callC, calleeV, Tryd.ag25, Tryd.sl26, Tryd.sz25, Tryd.zv25, nns]
  repeat ((with_reducible refine And.intro ?_ ?_); · exact ⟨Tryd.is28, kc7_e⟩)
  refine hK7 _ _ ?_
  refine vw_seq_k fun K8 hK8 => ?_
  refine vw_en fun eh hE => ?_
  have hlh : eh.length = 158 := by rw [hE]; simp only [length_putv, hlg]
  have h_4 : ev eh (.tmp 4) = .ptr (s.next + 1 + 1 + 1) 0 := by rw [hE]; simp only [ev_miss, Nat.reduceBEq, g4]
  have h_5 : ev eh (.tmp 5) = .t (tInts [0, 1]) := by rw [hE]; simp only [ev_miss, Nat.reduceBEq, g5]
  have h_6 : ev eh (.tmp 6) = .t (tInts [2, 0]) := by rw [hE]; simp only [ev_miss, Nat.reduceBEq, g6]
  have h_7 : ev eh (.tmp 7) = I 0 := by rw [hE]; simp only [ev_miss, Nat.reduceBEq, g7]
  have h_11 : ev eh (.tmp 11) = I 10 := by rw [hE]; simp only [ev_miss, Nat.reduceBEq, g11]
  have h_12 : ev eh (.tmp 12) = .ptr (s.next + 1 + 1 + 1 + 1 + 1) 0 := by rw [hE]; simp only [ev_miss, Nat.reduceBEq, g12]
  have h_13 : ev eh (.tmp 13) = .t (tInts [0]) := by rw [hE]; simp only [ev_miss, Nat.reduceBEq, g13]
  have h_14 : ev eh (.tmp 14) = .t (tInts [1]) := by rw [hE]; simp only [ev_miss, Nat.reduceBEq, g14]
  have h_15 : ev eh (.tmp 15) = I 0 := by rw [hE]; simp only [ev_miss, Nat.reduceBEq, g15]
  have h_16 : ev eh (.tmp 16) = .ptr (s.next + 1 + 1 + 1 + 1 + 1 + 1) 0 := by rw [hE]; simp only [ev_hit, ev_miss, Nat.reduceBEq, length_putv, hlg, Nat.reduceLT]
  have h_17 : ev eh (.tmp 17) = .t (tInts [0, 0]) := by rw [hE]; simp only [ev_hit, ev_miss, Nat.reduceBEq, length_putv, hlg, Nat.reduceLT]
  have h_18 : ev eh (.tmp 18) = I 0 := by rw [hE]; simp only [ev_hit, length_putv, hlg, Nat.reduceLT]
  clear hE
  refine vw_st fun sh hS => ?_
  have hP : sh.m (s.next + 1 + 1 + 1) = some (.box 25 [.t (tStrs o7P.labels), .t (tPairs o7P.pairs)]) := by rw [hS]; simp only [m_set, m_add, nns, if_false, gP, hng]
  have hS2 : sh.m (s.next + 1 + 1 + 1 + 1 + 1) = some (.box 25 [.t (tStrs k7S.labels), .t (tPairs k7S.pairs)]) := by rw [hS]; simp only [m_set, m_add, nns, if_false, gS, hng]
  have hE2 : sh.m (s.next + 1 + 1 + 1 + 1 + 1 + 1) = some (.box 25 [.t (tStrs o7E.labels), .t (tPairs o7E.pairs)]) := by rw [hS]; simp only [m_set, m_add, if_true, hng]
  have hnh : sh.next = s.next + 1 + 1 + 1 + 1 + 1 + 1 + 1 := by rw [hS]; simp only [n_add, n_set, hng]
  have hkh : ∀ j, j < s.next → sh.m j = s.m j := fun j hj => by have z0 : ¬ j = s.next := (by omega); have z1 : ¬ j = s.next + 1 := (by omega); have z2 : ¬ j = s.next + 1 + 1 := (by omega); have z3 : ¬ j = s.next + 1 + 1 + 1 := (by omega); have z4 : ¬ j = s.next + 1 + 1 + 1 + 1 := (by omega); have z5 : ¬ j = s.next + 1 + 1 + 1 + 1 + 1 := (by omega); have z6 : ¬ j = s.next + 1 + 1 + 1 + 1 + 1 + 1 := (by omega); rw [hS]; simp only [m_set, m_add, hng, z6, if_false, hkg j hj]
  clear hS
  refine vw_phase Tryd.mixed ?_
  refine phase_chain 0 14 15 [0, 0, 0, 0, 1, 0, 0, 0, 0, 0, 1, 0, 0, 0] [] [] 0 (by decide +kernel) (by simp [hlh]) rfl ?_
  simp only [bs, ↓vopx, ↓vop, Nat.reduceBEq, flat, Nat.reduceLT, dLoad, vpart, opII, gtmp, hlh, h_4, h_7, hP, Nat.reduceSub, wocs, ↓goc, ↓woc, ↓vopm0, ↓vopm1, ↓pick_tt, chn, ↓goq, ↓woq, List.zip_cons_cons, List.zip_nil_right, Tryd.ag22, Tryd.ag23, Tryd.fd25_0, Tryd.fd25_1, Tryd.sz22, Tryd.sz23, Tryd.un22, Tryd.un23, nns, len_tPairs, nc3, beq_self_eq_true, List.append_eq, vlen_sl1, o7P_l, o7P_p]
  refine phase_env fun e7_0 hE => ?_
  have hl7_0 : e7_0.length = 158 := by rw [hE]; simp only [length_putv, hlh]
  have k4a : ev e7_0 (.tmp 4) = .ptr (s.next + 1 + 1 + 1) 0 := by rw [hE]; simp only [ev_miss, Nat.reduceBEq, h_4]
  have k5a : ev e7_0 (.tmp 5) = .t (tInts [0, 1]) := by rw [hE]; simp only [ev_miss, Nat.reduceBEq, h_5]
  have k6a : ev e7_0 (.tmp 6) = .t (tInts [2, 0]) := by rw [hE]; simp only [ev_miss, Nat.reduceBEq, h_6]
  have k7a : ev e7_0 (.tmp 7) = I 0 := by rw [hE]; simp only [ev_miss, Nat.reduceBEq, h_7]
  have k11a : ev e7_0 (.tmp 11) = I 10 := by rw [hE]; simp only [ev_miss, Nat.reduceBEq, h_11]
  have k12a : ev e7_0 (.tmp 12) = .ptr (s.next + 1 + 1 + 1 + 1 + 1) 0 := by rw [hE]; simp only [ev_miss, Nat.reduceBEq, h_12]
  have k13a : ev e7_0 (.tmp 13) = .t (tInts [0]) := by rw [hE]; simp only [ev_miss, Nat.reduceBEq, h_13]
  have k14a : ev e7_0 (.tmp 14) = .t (tInts [1]) := by rw [hE]; simp only [ev_miss, Nat.reduceBEq, h_14]
  have k15a : ev e7_0 (.tmp 15) = I 0 := by rw [hE]; simp only [ev_miss, Nat.reduceBEq, h_15]
  have k16a : ev e7_0 (.tmp 16) = .ptr (s.next + 1 + 1 + 1 + 1 + 1 + 1) 0 := by rw [hE]; simp only [ev_miss, Nat.reduceBEq, h_16]
  have k17a : ev e7_0 (.tmp 17) = .t (tInts [0, 0]) := by rw [hE]; simp only [ev_miss, Nat.reduceBEq, h_17]
  have k18a : ev e7_0 (.tmp 18) = I 0 := by rw [hE]; simp only [ev_miss, Nat.reduceBEq, h_18]
  have kga : ev e7_0 (.tmp 82) = Bo true := by rw [hE]; simp only [ev_hit, length_putv, hlh, Nat.reduceLT]
  clear hE
  refine phase_chain 15 24 25 [0, 0, 0, 0, 0, 0, 0, 0, 0] [] [] 0 (by decide +kernel) (by simp [hl7_0]) rfl ?_
  simp only [bs, Nat.reduceAdd, ↓vopx, ↓vop, Nat.reduceBEq, flat, Nat.reduceLT, opII, gtmp, hl7_0, k5a, k6a, kga, Nat.reduceSub, wocs, ↓goc, ↓woc, ↓vopm0, ↓pick_tt, chn, ↓goq, ↓woq, List.zip_cons_cons, List.zip_nil_right, Tryd.un26, nc2, beq_self_eq_true, vlen_sl1, tInts]
  refine phase_env fun e7_15 hE => ?_
  have hl7_15 : e7_15.length = 158 := by rw [hE]; simp only [length_putv, hl7_0]
  have k4b : ev e7_15 (.tmp 4) = .ptr (s.next + 1 + 1 + 1) 0 := by rw [hE]; simp only [ev_miss, Nat.reduceBEq, k4a]
  have k5b : ev e7_15 (.tmp 5) = .t (tInts [0, 1]) := by rw [hE]; simp only [ev_miss, Nat.reduceBEq, k5a]
  have k6b : ev e7_15 (.tmp 6) = .t (tInts [2, 0]) := by rw [hE]; simp only [ev_miss, Nat.reduceBEq, k6a]
  have k7b : ev e7_15 (.tmp 7) = I 0 := by rw [hE]; simp only [ev_miss, Nat.reduceBEq, k7a]
  have k11b : ev e7_15 (.tmp 11) = I 10 := by rw [hE]; simp only [ev_miss, Nat.reduceBEq, k11a]
  have k12b : ev e7_15 (.tmp 12) = .ptr (s.next + 1 + 1 + 1 + 1 + 1) 0 := by rw [hE]; simp only [ev_miss, Nat.reduceBEq, k12a]
  have k13b : ev e7_15 (.tmp 13) = .t (tInts [0]) := by rw [hE]; simp only [ev_miss, Nat.reduceBEq, k13a]
  have k14b : ev e7_15 (.tmp 14) = .t (tInts [1]) := by rw [hE]; simp only [ev_miss, Nat.reduceBEq, k14a]
  have k15b : ev e7_15 (.tmp 15) = I 0 := by rw [hE]; simp only [ev_miss, Nat.reduceBEq, k15a]
  have k16b : ev e7_15 (.tmp 16) = .ptr (s.next + 1 + 1 + 1 + 1 + 1 + 1) 0 := by rw [hE]; simp only [ev_miss, Nat.reduceBEq, k16a]
  have k17b : ev e7_15 (.tmp 17) = .t (tInts [0, 0]) := by rw [hE]; simp only [ev_miss, Nat.reduceBEq, k17a]
  have k18b : ev e7_15 (.tmp 18) = I 0 := by rw [hE]; simp only [ev_miss, Nat.reduceBEq, k18a]
  have kgb : ev e7_15 (.tmp 92) = Bo true := by rw [hE]; simp only [ev_hit, length_putv, hl7_0, Nat.reduceLT]
  clear hE
  refine phase_chain 25 33 34 [0, 1, 1, 0, 1, 1, 0, 0] [] [] 0 (by decide +kernel) (by simp [hl7_15]) rfl ?_
  simp only [bs, Nat.reduceAdd, ↓vopx, ↓vop, Nat.reduceBEq, flat, Nat.reduceLT, dLoad, vpart, opII, opSS, gtmp, hl7_15, k5b, k6b, kgb, Nat.reduceSub, wocs, ↓goc, ↓woc, ↓vopm0, ↓vopm1, ↓pick_tt, ↓farC, chn, ↓goq, ↓woq, List.zip_cons_cons, List.zip_nil_right, Tryd.ag3, Tryd.sz3, Tryd.un26, Int.toNat_zero, tInts]
  repeat ((with_reducible refine And.intro ?_ ?_); · omega)
  refine phase_env fun e7_25 hE => ?_
  have hl7_25 : e7_25.length = 158 := by rw [hE]; simp only [length_putv, hl7_15]
  have k4c : ev e7_25 (.tmp 4) = .ptr (s.next + 1 + 1 + 1) 0 := by rw [hE]; simp only [ev_miss, Nat.reduceBEq, k4b, beq_self_eq_true]
  have k5c : ev e7_25 (.tmp 5) = .t (tInts [0, 1]) := by rw [hE]; simp only [ev_miss, Nat.reduceBEq, k5b, beq_self_eq_true]
  have k6c : ev e7_25 (.tmp 6) = .t (tInts [2, 0]) := by rw [hE]; simp only [ev_miss, Nat.reduceBEq, k6b, beq_self_eq_true]
  have k7c : ev e7_25 (.tmp 7) = I 0 := by rw [hE]; simp only [ev_miss, Nat.reduceBEq, k7b, beq_self_eq_true]
  have k11c : ev e7_25 (.tmp 11) = I 10 := by rw [hE]; simp only [ev_miss, Nat.reduceBEq, k11b, beq_self_eq_true]
  have k12c : ev e7_25 (.tmp 12) = .ptr (s.next + 1 + 1 + 1 + 1 + 1) 0 := by rw [hE]; simp only [ev_miss, Nat.reduceBEq, k12b, beq_self_eq_true]
  have k13c : ev e7_25 (.tmp 13) = .t (tInts [0]) := by rw [hE]; simp only [ev_miss, Nat.reduceBEq, k13b, beq_self_eq_true]
  have k14c : ev e7_25 (.tmp 14) = .t (tInts [1]) := by rw [hE]; simp only [ev_miss, Nat.reduceBEq, k14b, beq_self_eq_true]
  have k15c : ev e7_25 (.tmp 15) = I 0 := by rw [hE]; simp only [ev_miss, Nat.reduceBEq, k15b, beq_self_eq_true]
  have k16c : ev e7_25 (.tmp 16) = .ptr (s.next + 1 + 1 + 1 + 1 + 1 + 1) 0 := by rw [hE]; simp only [ev_miss, Nat.reduceBEq, k16b, beq_self_eq_true]
  have k17c : ev e7_25 (.tmp 17) = .t (tInts [0, 0]) := by rw [hE]; simp only [ev_miss, Nat.reduceBEq, k17b, beq_self_eq_true]
  have k18c : ev e7_25 (.tmp 18) = I 0 := by rw [hE]; simp only [ev_miss, Nat.reduceBEq, k18b, beq_self_eq_true]
  have kgc : ev e7_25 (.tmp 101) = Bo true := by rw [hE]; simp only [ev_hit, length_putv, hl7_15, beq_self_eq_true, Nat.reduceLT]
  clear hE
  refine phase_chain 34 47 48 [0, 0, 0, 0, 0, 0, 0, 0, 0, 1, 0, 0, 0] [] [] 0 (by decide +kernel) (by simp [hl7_25]) rfl ?_
  simp only [bs, Nat.reduceAdd, ↓vopx, ↓vop, Nat.reduceBEq, flat, Nat.reduceLT, dLoad, vpart, opII, gtmp, hl7_25, k11c, k12c, k15c, kgc, Nat.reduceSub, wocs, ↓goc, ↓woc, ↓vopm0, ↓vopm1, ↓pick_tt, chn, ↓goq, ↓woq, List.zip_cons_cons, List.zip_nil_right, Tryd.ag22, Tryd.fd25_0, Tryd.sz22, Tryd.un22, nns, nc2, beq_self_eq_true, vlen_sl1, hS2]
  refine phase_env fun e7_34 hE => ?_
  have hl7_34 : e7_34.length = 158 := by rw [hE]; simp only [length_putv, hl7_25]
  have k4d : ev e7_34 (.tmp 4) = .ptr (s.next + 1 + 1 + 1) 0 := by rw [hE]; simp only [ev_miss, Nat.reduceBEq, k4c]
  have k5d : ev e7_34 (.tmp 5) = .t (tInts [0, 1]) := by rw [hE]; simp only [ev_miss, Nat.reduceBEq, k5c]
  have k6d : ev e7_34 (.tmp 6) = .t (tInts [2, 0]) := by rw [hE]; simp only [ev_miss, Nat.reduceBEq, k6c]
  have k7d : ev e7_34 (.tmp 7) = I 0 := by rw [hE]; simp only [ev_miss, Nat.reduceBEq, k7c]
  have k11d : ev e7_34 (.tmp 11) = I 10 := by rw [hE]; simp only [ev_miss, Nat.reduceBEq, k11c]
  have k12d : ev e7_34 (.tmp 12) = .ptr (s.next + 1 + 1 + 1 + 1 + 1) 0 := by rw [hE]; simp only [ev_miss, Nat.reduceBEq, k12c]
  have k13d : ev e7_34 (.tmp 13) = .t (tInts [0]) := by rw [hE]; simp only [ev_miss, Nat.reduceBEq, k13c]
  have k14d : ev e7_34 (.tmp 14) = .t (tInts [1]) := by rw [hE]; simp only [ev_miss, Nat.reduceBEq, k14c]
  have k15d : ev e7_34 (.tmp 15) = I 0 := by rw [hE]; simp only [ev_miss, Nat.reduceBEq, k15c]
  have k16d : ev e7_34 (.tmp 16) = .ptr (s.next + 1 + 1 + 1 + 1 + 1 + 1) 0 := by rw [hE]; simp only [ev_miss, Nat.reduceBEq, k16c]
  have k17d : ev e7_34 (.tmp 17) = .t (tInts [0, 0]) := by rw [hE]; simp only [ev_miss, Nat.reduceBEq, k17c]
  have k18d : ev e7_34 (.tmp 18) = I 0 := by rw [hE]; simp only [ev_miss, Nat.reduceBEq, k18c]
  have kgd : ev e7_34 (.tmp 115) = Bo true := by rw [hE]; simp only [ev_hit, length_putv, hl7_25, Nat.reduceLT]
  clear hE
  refine phase_chain 48 57 58 [0, 0, 0, 0, 0, 0, 0, 0, 0] [] [] 0 (by decide +kernel) (by simp [hl7_34]) rfl ?_
  simp only [bs, ↓vopx, ↓vop, Nat.reduceBEq, flat, Nat.reduceLT, opII, gtmp, hl7_34, k13d, k14d, kgd, Nat.reduceSub, wocs, ↓goc, ↓woc, ↓vopm0, ↓pick_tt, chn, ↓goq, ↓woq, List.zip_cons_cons, List.zip_nil_right, Tryd.un26, nc1, beq_self_eq_true, vlen_sl1, tInts]
  refine phase_env fun e7_48 hE => ?_
  have hl7_48 : e7_48.length = 158 := by rw [hE]; simp only [length_putv, hl7_34]
  have k4e : ev e7_48 (.tmp 4) = .ptr (s.next + 1 + 1 + 1) 0 := by rw [hE]; simp only [ev_miss, Nat.reduceBEq, k4d]
  have k5e : ev e7_48 (.tmp 5) = .t (tInts [0, 1]) := by rw [hE]; simp only [ev_miss, Nat.reduceBEq, k5d]
  have k6e : ev e7_48 (.tmp 6) = .t (tInts [2, 0]) := by rw [hE]; simp only [ev_miss, Nat.reduceBEq, k6d]
  have k7e : ev e7_48 (.tmp 7) = I 0 := by rw [hE]; simp only [ev_miss, Nat.reduceBEq, k7d]
  have k11e : ev e7_48 (.tmp 11) = I 10 := by rw [hE]; simp only [ev_miss, Nat.reduceBEq, k11d]
  have k12e : ev e7_48 (.tmp 12) = .ptr (s.next + 1 + 1 + 1 + 1 + 1) 0 := by rw [hE]; simp only [ev_miss, Nat.reduceBEq, k12d]
  have k13e : ev e7_48 (.tmp 13) = .t (tInts [0]) := by rw [hE]; simp only [ev_miss, Nat.reduceBEq, k13d]
  have k14e : ev e7_48 (.tmp 14) = .t (tInts [1]) := by rw [hE]; simp only [ev_miss, Nat.reduceBEq, k14d]
  have k15e : ev e7_48 (.tmp 15) = I 0 := by rw [hE]; simp only [ev_miss, Nat.reduceBEq, k15d]
  have k16e : ev e7_48 (.tmp 16) = .ptr (s.next + 1 + 1 + 1 + 1 + 1 + 1) 0 := by rw [hE]; simp only [ev_miss, Nat.reduceBEq, k16d]
  have k17e : ev e7_48 (.tmp 17) = .t (tInts [0, 0]) := by rw [hE]; simp only [ev_miss, Nat.reduceBEq, k17d]
  have k18e : ev e7_48 (.tmp 18) = I 0 := by rw [hE]; simp only [ev_miss, Nat.reduceBEq, k18d]
  have kge : ev e7_48 (.tmp 125) = Bo true := by rw [hE]; simp only [ev_hit, length_putv, hl7_34, Nat.reduceLT]
  clear hE
  refine phase_chain 58 69 70 [0, 1, 1, 0, 0, 0, 0, 1, 1, 0, 0] [] [] 0 (by decide +kernel) (by simp [hl7_48]) rfl ?_
  simp only [bs, ↓vopx, ↓vop, Nat.reduceBEq, flat, Nat.reduceLT, dLoad, vpart, opII, gtmp, hl7_48, k13e, k14e, kge, Nat.reduceSub, wocs, ↓goc, ↓woc, ↓vopm0, ↓vopm1, ↓pick_tt, chn, ↓goq, ↓woq, List.zip_cons_cons, List.zip_nil_right, Tryd.ag3, Tryd.sz3, Tryd.un26, Int.toNat_zero, beq_self_eq_true, tInts]
  repeat ((with_reducible refine And.intro ?_ ?_); · omega)
  refine phase_env fun e7_58 hE => ?_
  have hl7_58 : e7_58.length = 158 := by rw [hE]; simp only [length_putv, hl7_48]
  have k4f : ev e7_58 (.tmp 4) = .ptr (s.next + 1 + 1 + 1) 0 := by rw [hE]; simp only [ev_miss, Nat.reduceBEq, k4e]
  have k5f : ev e7_58 (.tmp 5) = .t (tInts [0, 1]) := by rw [hE]; simp only [ev_miss, Nat.reduceBEq, k5e]
  have k6f : ev e7_58 (.tmp 6) = .t (tInts [2, 0]) := by rw [hE]; simp only [ev_miss, Nat.reduceBEq, k6e]
  have k7f : ev e7_58 (.tmp 7) = I 0 := by rw [hE]; simp only [ev_miss, Nat.reduceBEq, k7e]
  have k11f : ev e7_58 (.tmp 11) = I 10 := by rw [hE]; simp only [ev_miss, Nat.reduceBEq, k11e]
  have k12f : ev e7_58 (.tmp 12) = .ptr (s.next + 1 + 1 + 1 + 1 + 1) 0 := by rw [hE]; simp only [ev_miss, Nat.reduceBEq, k12e]
  have k13f : ev e7_58 (.tmp 13) = .t (tInts [0]) := by rw [hE]; simp only [ev_miss, Nat.reduceBEq, k13e]
  have k14f : ev e7_58 (.tmp 14) = .t (tInts [1]) := by rw [hE]; simp only [ev_miss, Nat.reduceBEq, k14e]
  have k15f : ev e7_58 (.tmp 15) = I 0 := by rw [hE]; simp only [ev_miss, Nat.reduceBEq, k15e]
  have k16f : ev e7_58 (.tmp 16) = .ptr (s.next + 1 + 1 + 1 + 1 + 1 + 1) 0 := by rw [hE]; simp only [ev_miss, Nat.reduceBEq, k16e]
  have k17f : ev e7_58 (.tmp 17) = .t (tInts [0, 0]) := by rw [hE]; simp only [ev_miss, Nat.reduceBEq, k17e]
  have k18f : ev e7_58 (.tmp 18) = I 0 := by rw [hE]; simp only [ev_miss, Nat.reduceBEq, k18e]
  have kgf : ev e7_58 (.tmp 137) = Bo true := by rw [hE]; simp only [ev_hit, length_putv, hl7_48, Nat.reduceLT]
  clear hE
  refine phase_chain 70 79 80 [0, 0, 0, 0, 0, 1, 0, 0, 0] [] [] 0 (by decide +kernel) (by simp [hl7_58]) rfl ?_
  simp only [bs, ↓vopx, ↓vop, Nat.reduceBEq, flat, Nat.reduceLT, dLoad, vpart, opII, gtmp, hl7_58, k16f, k18f, kgf, Nat.reduceSub, wocs, ↓goc, ↓woc, ↓vopm0, ↓vopm1, ↓pick_tt, chn, ↓goq, ↓woq, List.zip_cons_cons, List.zip_nil_right, Tryd.ag22, Tryd.fd25_0, Tryd.sz22, Tryd.un22, nns, nc1, beq_self_eq_true, vlen_sl1, o7E_l, hE2]
  refine phase_env fun e7_70 hE => ?_
  have hl7_70 : e7_70.length = 158 := by rw [hE]; simp only [length_putv, hl7_58]
  have k4g : ev e7_70 (.tmp 4) = .ptr (s.next + 1 + 1 + 1) 0 := by rw [hE]; simp only [ev_miss, Nat.reduceBEq, k4f]
  have k5g : ev e7_70 (.tmp 5) = .t (tInts [0, 1]) := by rw [hE]; simp only [ev_miss, Nat.reduceBEq, k5f]
  have k6g : ev e7_70 (.tmp 6) = .t (tInts [2, 0]) := by rw [hE]; simp only [ev_miss, Nat.reduceBEq, k6f]
  have k7g : ev e7_70 (.tmp 7) = I 0 := by rw [hE]; simp only [ev_miss, Nat.reduceBEq, k7f]
  have k11g : ev e7_70 (.tmp 11) = I 10 := by rw [hE]; simp only [ev_miss, Nat.reduceBEq, k11f]
  have k12g : ev e7_70 (.tmp 12) = .ptr (s.next + 1 + 1 + 1 + 1 + 1) 0 := by rw [hE]; simp only [ev_miss, Nat.reduceBEq, k12f]
  have k13g : ev e7_70 (.tmp 13) = .t (tInts [0]) := by rw [hE]; simp only [ev_miss, Nat.reduceBEq, k13f]
  have k14g : ev e7_70 (.tmp 14) = .t (tInts [1]) := by rw [hE]; simp only [ev_miss, Nat.reduceBEq, k14f]
  have k15g : ev e7_70 (.tmp 15) = I 0 := by rw [hE]; simp only [ev_miss, Nat.reduceBEq, k15f]
  have k16g : ev e7_70 (.tmp 16) = .ptr (s.next + 1 + 1 + 1 + 1 + 1 + 1) 0 := by rw [hE]; simp only [ev_miss, Nat.reduceBEq, k16f]
  have k17g : ev e7_70 (.tmp 17) = .t (tInts [0, 0]) := by rw [hE]; simp only [ev_miss, Nat.reduceBEq, k17f]
  have k18g : ev e7_70 (.tmp 18) = I 0 := by rw [hE]; simp only [ev_miss, Nat.reduceBEq, k18f]
  have kgg : ev e7_70 (.tmp 147) = Bo true := by rw [hE]; simp only [ev_hit, length_putv, hl7_58, Nat.reduceLT]
  clear hE
  refine phase_chain 80 90 91 [0, 0, 0, 0, 0, 0, 1, 1, 0, 0] [] [] 0 (by decide +kernel) (by simp [hl7_70]) rfl ?_
  simp only [bs, Nat.reduceAdd, ↓vopx, ↓vop, Nat.reduceBEq, flat, Nat.reduceLT, dLoad, vpart, opII, opSS, gtmp, hl7_70, k17g, kgg, Nat.reduceSub, wocs, ↓goc, ↓woc, ↓vopm0, ↓vopm1, ↓pick_tt, ↓farC, chn, ↓goq, ↓woq, List.zip_cons_cons, List.zip_nil_right, Tryd.ag3, Tryd.sz3, Tryd.un26, nc2, beq_self_eq_true, vlen_sl1, tInts]
  repeat ((with_reducible refine And.intro ?_ ?_); · omega)
  refine phase_end ?_
  try simp only [thenV]
  refine hK8 _ _ ?_
  refine vw_ret ?_
  refine hQ _ _ _ (.inr rfl) (done_tmp ?_ fun n b hn h => (hkh n hn).trans h)
  try simp only [ev_hit, length_putv, hl7_70, Nat.reduceLT]
  rfl

end Go.Proofs

open Go Go.V
namespace Go.Proofs

theorem allZ_refl {α : Type} {p : α → α → Bool} (h : ∀ a, p a a = true) : ∀ l : List α, allZ p l l = true
  | [] => rfl
  | a :: l => by simp [allZ, h a, allZ_refl h l]
theorem sameS_refl (a : Ob) : sameS a a = true := by
  unfold sameS
  rw [allZ_refl (fun x => by simp [seqB]), allZ_refl (fun x => by simp [peqB])]
  rfl
theorem same_self (a : Ob) (ha : a.labels.length < 1000000000) (ha2 : a.pairs.length < 1000000000) : PCall Tryd.prog 24 [vObj a, vObj a] (Bo true) := by
  have := same_ a a ha ha2 ha ha2
  rw [sameS_refl] at this
  exact this
theorem pairsOf_len (n : Nat) (M : Mx) : (pairsOf n M).length ≤ n * n := by
  unfold pairsOf
  rw [List.length_flatMap]
  have h : ∀ (l : List Nat), (l.map fun a => (rowOf n M a).length).sum ≤ l.length * n := by
    intro l
    induction l with
    | nil => simp
    | cons a l ih =>
      have h1 : (rowOf n M a).length ≤ n := by
        unfold rowOf
        rw [List.length_map]
        exact Nat.le_trans (List.length_filter_le _ _) (by simp)
      simp only [List.map_cons, List.sum_cons, List.length_cons, Nat.succ_mul]
      omega
  have := h (List.range n)
  rwa [List.length_range] at this
theorem glN_le (l : List Int) : glN l ≤ l.length := fst_le l l.length
theorem glued_lab_le (o : Ob) (l : List Int) : (gluedS o l).labels.length ≤ l.length := by
  unfold gluedS glLab
  rw [List.length_map]
  exact fst_le l l.length
theorem glued_pairs_le (o : Ob) (l : List Int) : (gluedS o l).pairs.length ≤ l.length * l.length :=
  Nat.le_trans (pairsOf_len _ _) (Nat.mul_le_mul (glN_le l) (glN_le l))
theorem puPl_len (b c : Ob) (f g : List Int) : (puPl b c f g).length = b.labels.length + c.labels.length := by
  unfold puPl
  rw [placesL_length, joinsL_length, rangeI_length]
theorem sq_le {n m : Nat} (h : n ≤ m) : n * n ≤ m * m := Nat.mul_le_mul h h
theorem pushR_lim (a b c : Ob) (f g : List Int) (hb : b.labels.length + c.labels.length ≤ 100) : (pushR a b c f g).1.labels.length ≤ 100 ∧ (pushR a b c f g).1.pairs.length ≤ 10000 ∧ (pushR a b c f g).2.1.length ≤ 100 ∧ (pushR a b c f g).2.2.1.length ≤ 100 := by
  unfold pushR
  split
  · simp
  · split
    · have h1 := glued_lab_le (besideS b c) (puPl b c f g)
      have h2 := glued_pairs_le (besideS b c) (puPl b c f g)
      rw [puPl_len] at h1 h2
      have := sq_le hb
      refine ⟨?_, ?_, ?_, ?_⟩ <;> simp only [List.length_take, List.length_drop, puPl_len] <;> omega
    · simp
end Go.Proofs

open Go Go.V
namespace Go.Proofs

/-- of each element the least of its class -/
def RepOK (R : List Int) : Prop := ∀ (i : Nat) (z : Int), R[i]? = some z → (0 ≤ z ∧ z ≤ i) ∧ R[z.toNat]? = some z
theorem RepOK.wf {R : List Int} (h : RepOK R) : wfU R := fun i z hz => (h i z hz).1
theorem RepOK.range (n : Nat) : RepOK (rangeI n) := fun i z hz => by
  have hi : i < n := by have := (List.getElem?_eq_some_iff.1 hz).1; rwa [rangeI_length] at this
  rw [rangeI_get hi] at hz
  cases hz
  exact ⟨by omega, by simpa using rangeI_get hi⟩
theorem RepOK.join {R : List Int} (h : RepOK R) {a b : Nat} {x y : Int} (hx : R[a]? = some x) (hy : R[b]? = some y) : RepOK (joinL R a b) := by
  obtain ⟨x1, x2⟩ := h a x hx
  obtain ⟨y1, y2⟩ := h b y hy
  intro i z hz
  unfold joinL at hz ⊢
  rw [getD_of hx, getD_of hy] at hz ⊢
  rw [List.getElem?_map] at hz
  obtain ⟨w, hw, rfl⟩ := Option.map_eq_some_iff.1 hz
  obtain ⟨w1, w2⟩ := h i w hw
  have hN : R[(min x y).toNat]? = some (min x y) := by
    rcases Int.le_total x y with hle | hle
    · rw [show min x y = x by omega]; exact x2
    · rw [show min x y = y by omega]; exact y2
  by_cases hm : w = max x y
  · rw [if_pos hm]
    refine ⟨by omega, ?_⟩
    rw [List.getElem?_map, hN]
    simp only [Option.map_some]
    split <;> simp
  · rw [if_neg hm]
    refine ⟨w1, ?_⟩
    rw [List.getElem?_map, w2]
    simp only [Option.map_some, if_neg hm]
theorem joins_ok (n : Nat) (f g : List Int) (hf : ∀ y ∈ f, 0 ≤ y ∧ y < n) (hg : ∀ y ∈ g, 0 ≤ y ∧ y < n) : ∀ k, k ≤ f.length → k ≤ g.length → RepOK (joinsL (rangeI n) f g k) ∧ (joinsL (rangeI n) f g k).length = n
  | 0, _, _ => ⟨RepOK.range n, rangeI_length n⟩
  | k + 1, h1, h2 => by
    obtain ⟨ih, il⟩ := joins_ok n f g hf hg k (by omega) (by omega)
    obtain ⟨y, hy⟩ : ∃ y, f[k]? = some y := ⟨_, List.getElem?_eq_getElem (by omega)⟩
    obtain ⟨z, hz⟩ : ∃ z, g[k]? = some z := ⟨_, List.getElem?_eq_getElem (by omega)⟩
    have by_ := hf y (List.mem_of_getElem? hy)
    have bz := hg z (List.mem_of_getElem? hz)
    rw [joinsL_succ hy hz]
    refine ⟨ih.join (List.getElem?_eq_getElem (by omega)) (List.getElem?_eq_getElem (by omega)), by rw [joinL_length]; exact il⟩
/-- what takes the same value at what is made one, does so in each class -/
theorem joins_inv {β : Type} (n : Nat) (f g : List Int) (hf : ∀ y ∈ f, 0 ≤ y ∧ y < n) (hg : ∀ y ∈ g, 0 ≤ y ∧ y < n) (h : Nat → β) : ∀ k, k ≤ f.length → k ≤ g.length → (∀ (i : Nat) (y z : Int), i < k → f[i]? = some y → g[i]? = some z → h y.toNat = h z.toNat) →
    ∀ (j : Nat) (r : Int), (joinsL (rangeI n) f g k)[j]? = some r → h r.toNat = h j
  | 0, _, _, _, j, r, hr => by
    have hj : j < n := by have := (List.getElem?_eq_some_iff.1 hr).1; rwa [show joinsL (rangeI n) f g 0 = rangeI n from rfl, rangeI_length] at this
    rw [show joinsL (rangeI n) f g 0 = rangeI n from rfl, rangeI_get hj] at hr
    cases hr; simp
  | k + 1, h1, h2, he, j, r, hr => by
    have ih := joins_inv n f g hf hg h k (by omega) (by omega) (fun i y z hi => he i y z (by omega))
    obtain ⟨hok, il⟩ := joins_ok n f g hf hg k (by omega) (by omega)
    obtain ⟨y, hy⟩ : ∃ y, f[k]? = some y := ⟨_, List.getElem?_eq_getElem (by omega)⟩
    obtain ⟨z, hz⟩ : ∃ z, g[k]? = some z := ⟨_, List.getElem?_eq_getElem (by omega)⟩
    have by_ := hf y (List.mem_of_getElem? hy)
    have bz := hg z (List.mem_of_getElem? hz)
    obtain ⟨a, ha⟩ : ∃ a, (joinsL (rangeI n) f g k)[y.toNat]? = some a := ⟨_, List.getElem?_eq_getElem (by omega)⟩
    obtain ⟨b, hb⟩ : ∃ b, (joinsL (rangeI n) f g k)[z.toNat]? = some b := ⟨_, List.getElem?_eq_getElem (by omega)⟩
    rw [joinsL_succ hy hz] at hr
    unfold joinL at hr
    rw [getD_of ha, getD_of hb, List.getElem?_map] at hr
    obtain ⟨w, hw, rfl⟩ := Option.map_eq_some_iff.1 hr
    have e1 := ih _ _ ha
    have e2 := ih _ _ hb
    have e3 := he k y z (by omega) hy hz
    have e4 := ih _ _ hw
    split
    · rename_i hm
      rw [← e4, hm]
      rcases Int.le_total a b with hle | hle
      · rw [show min a b = a by omega, show max a b = b by omega, e1, e2, e3]
      · rw [show min a b = b by omega, show max a b = a by omega, e1, e2, e3]
    · exact e4
/-- what is made one is one -/
theorem joins_eq (n : Nat) (f g : List Int) (hf : ∀ y ∈ f, 0 ≤ y ∧ y < n) (hg : ∀ y ∈ g, 0 ≤ y ∧ y < n) : ∀ k, k ≤ f.length → k ≤ g.length → ∀ (i : Nat) (y z : Int), i < k → f[i]? = some y → g[i]? = some z → (joinsL (rangeI n) f g k)[y.toNat]? = (joinsL (rangeI n) f g k)[z.toNat]?
  | 0, _, _, i, y, z, hi, _, _ => by omega
  | k + 1, h1, h2, i, y, z, hi, hy, hz => by
    obtain ⟨hok, il⟩ := joins_ok n f g hf hg k (by omega) (by omega)
    obtain ⟨y', hy'⟩ : ∃ y, f[k]? = some y := ⟨_, List.getElem?_eq_getElem (by omega)⟩
    obtain ⟨z', hz'⟩ : ∃ z, g[k]? = some z := ⟨_, List.getElem?_eq_getElem (by omega)⟩
    rw [joinsL_succ hy' hz']
    unfold joinL
    rw [List.getElem?_map, List.getElem?_map]
    by_cases hik : i = k
    · subst hik
      rw [hy] at hy'; cases hy'
      rw [hz] at hz'; cases hz'
      have by_ := hf y (List.mem_of_getElem? hy)
      have bz := hg z (List.mem_of_getElem? hz)
      obtain ⟨a, ha⟩ : ∃ a, (joinsL (rangeI n) f g i)[y.toNat]? = some a := ⟨_, List.getElem?_eq_getElem (by omega)⟩
      obtain ⟨b, hb⟩ : ∃ b, (joinsL (rangeI n) f g i)[z.toNat]? = some b := ⟨_, List.getElem?_eq_getElem (by omega)⟩
      rw [getD_of ha, getD_of hb, ha, hb]
      simp only [Option.map_some, Option.some.injEq]
      rcases Int.le_total a b with hle | hle
      · rw [show min a b = a by omega, show max a b = b by omega]; (split <;> split) <;> simp_all
      · rw [show min a b = b by omega, show max a b = a by omega]; (split <;> split) <;> simp_all
    · rw [joins_eq n f g hf hg k (by omega) (by omega) i y z (by omega) hy hz]

theorem placesL_len (R : List Int) : (placesL R).length = R.length := plS_length R _
theorem pl_step (R : List Int) {i : Nat} (h : i < R.length) : (placesL R)[i]? = some (if R.getD i 0 = i then ((plS R i).2 : Int) else (plS R i).1.getD (R.getD i 0).toNat 0) := by
  have h1 : (plS R (i + 1)).1 = (plS R i).1 ++ [if R.getD i 0 = i then ((plS R i).2 : Int) else (plS R i).1.getD (R.getD i 0).toNat 0] := by
    show (if R.getD i 0 = i then _ else _ : List Int × Nat).1 = _
    split <;> rfl
  have h2 : (placesL R)[i]? = (plS R (i + 1)).1[i]? := by
    rw [← plS_take R (i + 1) R.length h, List.getElem?_take, if_pos (by omega)]; rfl
  rw [h2, h1, List.getElem?_append_right (by rw [plS_length]; omega), plS_length, Nat.sub_self]; rfl
/-- each element has the place of the least of its class -/
theorem pl_rep {R : List Int} (h : RepOK R) {i : Nat} {z : Int} (hz : R[i]? = some z) : (placesL R)[i]? = (placesL R)[z.toNat]? := by
  have hi := (List.getElem?_eq_some_iff.1 hz).1
  obtain ⟨h1, h2⟩ := h i z hz
  by_cases hr : z = i
  · subst hr; simp
  · rw [pl_step R hi, getD_of hz, if_neg hr]
    have : (plS R i).1.getD z.toNat 0 = (placesL R).getD z.toNat 0 := by
      rw [← plS_take R i R.length (by omega), List.getD_eq_getElem?_getD, List.getElem?_take, if_pos (by omega), List.getD_eq_getElem?_getD]; rfl
    rw [this, List.getD_eq_getElem?_getD, List.getElem?_eq_getElem (by rw [placesL_len]; omega)]; rfl
theorem pl_root {R : List Int} (h : RepOK R) {i : Nat} (hz : R[i]? = some (i : Int)) : (placesL R)[i]? = some ((fstL (placesL R) i).length : Int) := by
  have hi := (List.getElem?_eq_some_iff.1 hz).1
  rw [pl_step R hi, getD_of hz, if_pos rfl, (plS_fst h.wf i (by omega)).1]
theorem fst_step (L : List Int) (i : Nat) : fstL L (i + 1) = if L.getD i 0 = (fstL L i).length then fstL L i ++ [i] else fstL L i := rfl
theorem fst_keep (L : List Int) {i j : Nat} (h : i ≤ j) {k x : Nat} (hx : (fstL L i)[k]? = some x) : (fstL L j)[k]? = some x := by
  induction h with
  | refl => exact hx
  | step _ ih =>
    rw [fst_step]
    split
    · rw [List.getElem?_append_left (List.getElem?_eq_some_iff.1 ih).1]; exact ih
    · exact ih
theorem fst_root {R : List Int} (h : RepOK R) {i : Nat} (hz : R[i]? = some (i : Int)) : (fstL (placesL R) R.length)[(fstL (placesL R) i).length]? = some i := by
  have hi := (List.getElem?_eq_some_iff.1 hz).1
  refine fst_keep _ (show i + 1 ≤ R.length from hi) ?_
  rw [fst_step, getD_of (pl_root h hz), if_pos rfl, List.getElem?_append_right (Nat.le_refl _), Nat.sub_self]; rfl
/-- at the place of an element the least of its class is told -/
theorem fst_at {R : List Int} (h : RepOK R) {i : Nat} {z : Int} (hz : R[i]? = some z) : ∃ k : Nat, (placesL R)[i]? = some (k : Int) ∧ (fstL (placesL R) R.length)[k]? = some z.toNat := by
  obtain ⟨h1, h2⟩ := h i z hz
  have hz0 : R[z.toNat]? = some (z.toNat : Int) := by rw [h2]; congr 1; omega
  exact ⟨_, by rw [pl_rep h hz]; exact pl_root h hz0, fst_root h hz0⟩
theorem fst_val (L : List Int) : ∀ (m k r : Nat), (fstL L m)[k]? = some r → L.getD r 0 = k
  | 0, k, r, h => by simp [fstL] at h
  | m + 1, k, r, h => by
    rw [fst_step] at h
    split at h
    · rename_i hm
      by_cases hk : k < (fstL L m).length
      · rw [List.getElem?_append_left hk] at h; exact fst_val L m k r h
      · rw [List.getElem?_append_right (by omega)] at h
        have hk0 : k - (fstL L m).length = 0 := by
          rcases Nat.eq_zero_or_pos (k - (fstL L m).length) with h0 | h0
          · exact h0
          · rw [List.getElem?_eq_none (by simp only [List.length_cons, List.length_nil]; omega)] at h; cases h
        rw [hk0] at h; simp at h; subst h
        rw [hm]; congr 1; omega
    · exact fst_val L m k r h
/-- each place is one of an element -/
theorem pl_onto (L : List Int) {k : Nat} (hk : k < glN L) : ∃ i, i < L.length ∧ L.getD i 0 = k := by
  obtain ⟨r, hr⟩ : ∃ r, (fstL L L.length)[k]? = some r := ⟨_, List.getElem?_eq_getElem hk⟩
  exact ⟨r, fst_mem L L.length r (List.mem_of_getElem? hr), fst_val L _ _ _ hr⟩

theorem glLab_len (o : Ob) (L : List Int) : (glLab o L L.length).length = glN L := by simp [glLab, glN]
theorem glMx_within {o : Ob} {L : List Int} (ho : IsOb o) (hl : L.length = o.labels.length) (hok : PlOK L) : Within (glN L) (glMx o L) := by
  intro x y h
  simp only [glMx, List.any_eq_true, Bool.and_eq_true, beq_iff_eq] at h
  obtain ⟨p, hp, rfl, rfl⟩ := h
  have hin := inB_iff.1 ((List.all_eq_true.1 ho.inb) p hp)
  obtain ⟨u, hu⟩ : ∃ u, L[p.1.toNat]? = some u := ⟨_, List.getElem?_eq_getElem (by omega)⟩
  obtain ⟨v, hv⟩ : ∃ v, L[p.2.toNat]? = some v := ⟨_, List.getElem?_eq_getElem (by omega)⟩
  have a := hok.lt hu
  have b := hok.lt hv
  unfold atN
  rw [getD_of hu, getD_of hv]
  omega
theorem glued_ob {o : Ob} {L : List Int} (ho : IsOb o) (hl : L.length = o.labels.length) (hok : PlOK L) : IsOb (gluedS o L) := by
  have hle := ho.le
  have hn := glLab_len o L
  have hw := glMx_within ho hl hok
  unfold gluedS
  rw [← hn] at hw ⊢
  refine ob_of_clo (by have := fst_le L L.length; rw [hn]; unfold glN; omega) ?_ hw
  rw [List.all_eq_true]
  intro b hb
  unfold glLab at hb
  obtain ⟨r, hr, rfl⟩ := List.mem_map.1 hb
  have hrl := fst_mem L L.length r hr
  have : o.labels.getD r ByteArray.empty ∈ o.labels := by
    rw [List.getD_eq_getElem?_getD, List.getElem?_eq_getElem (by omega)]; exact List.getElem_mem _
  exact (List.all_eq_true.1 ho.sz) _ this
/-- the places are a map to the object, if labels agree in each class -/
theorem glued_arr {o : Ob} {R : List Int} (ho : IsOb o) (h : RepOK R) (hl : R.length = o.labels.length)
    (hlab : ∀ (j : Nat) (r : Int), R[j]? = some r → (o.labels.getD r.toNat ByteArray.empty).toList = (o.labels.getD j ByteArray.empty).toList) : arrS o (gluedS o (placesL R)) (placesL R) = true := by
  have hpl := placesL_len R
  have hok := places_ok h.wf
  have hq := glued_ob ho (by rw [hpl]; exact hl) hok
  refine arr_of ho hq (by rw [hpl]; exact hl) (fun i y la hy hla => ?_) fun x y hm => ?_
  · have hi := (List.getElem?_eq_some_iff.1 hla).1
    obtain ⟨z, hz⟩ : ∃ z, R[i]? = some z := ⟨_, List.getElem?_eq_getElem (by omega)⟩
    obtain ⟨k, hk, hf⟩ := fst_at h hz
    rw [hk] at hy; cases hy
    have hbd := hok.lt hk
    have hqk : (gluedS o (placesL R)).labels[k]? = some (o.labels.getD z.toNat ByteArray.empty) := by
      show (glLab o (placesL R) (placesL R).length)[k]? = _
      unfold glLab
      rw [hpl, List.getElem?_map, hf]; rfl
    refine ⟨o.labels.getD z.toNat ByteArray.empty, ⟨by omega, ?_⟩, by rw [Int.toNat_natCast]; exact hqk, ?_⟩
    · show (k : Int) < ((glLab o (placesL R) (placesL R).length).length : Nat)
      rw [glLab_len]; omega
    · rw [hlab i z hz, List.getD_eq_getElem?_getD, hla]; rfl
  · have hwx := ho.within x y hm
    obtain ⟨u, hu⟩ : ∃ u, (placesL R)[x]? = some u := ⟨_, List.getElem?_eq_getElem (by omega)⟩
    obtain ⟨v, hv⟩ : ∃ v, (placesL R)[y]? = some v := ⟨_, List.getElem?_eq_getElem (by omega)⟩
    have hu0 := hok.lt hu
    have hv0 := hok.lt hv
    refine ⟨u.toNat, v.toNat, by rw [hu]; congr 1; omega, by rw [hv]; congr 1; omega, ?_⟩
    show mxOf (pairsOf (glN (placesL R)) (cloK (glMx o (placesL R)) (glN (placesL R)))) u.toNat v.toNat = true
    rw [mxOf_pairsOf (cloK_within (glMx_within ho (by rw [hpl]; exact hl) hok) _)]
    refine cloK_le ?_ _
    obtain ⟨p, hp, h1, h2⟩ := mxOf_iff.1 hm
    simp only [glMx, List.any_eq_true, Bool.and_eq_true, beq_iff_eq]
    refine ⟨p, hp, ?_, ?_⟩
    · unfold atN; rw [h1, getD_of hu]
    · unfold atN; rw [h2, getD_of hv]
end Go.Proofs

open Go Go.V
namespace Go.Proofs

structure SqS (b c : Ob) (f g : List Int) (q : Ob) (i j h : List Int) : Prop where
  t1 : thenS f i = (h, true)
  t2 : thenS g j = (h, true)
  a1 : arrS b q i = true
  a2 : arrS c q j = true
  on : ∀ k : Nat, k < q.labels.length → (k : Int) ∈ i ++ j
theorem lab_at {a b : Ob} {f : List Int} (h : arrS a b f = true) {k : Nat} {y : Int} (hy : f[k]? = some y) : (b.labels.getD y.toNat ByteArray.empty).toList = (a.labels.getD k ByteArray.empty).toList := by
  obtain ⟨_, _, hmap, _⟩ := arrS_iff.1 h
  have hl := allY_length hmap
  have hk := (List.getElem?_eq_some_iff.1 hy).1
  obtain ⟨lb, k1, k2, k3⟩ := mapOK_iff.1 (allY_at hmap hy (List.getElem?_eq_getElem (show k < a.labels.length by omega)))
  rw [List.getD_eq_getElem?_getD, k2, List.getD_eq_getElem?_getD, List.getElem?_eq_getElem (show k < a.labels.length by omega)]
  exact k3.symm
theorem mv_get {b : Ob} {g : List Int} {k : Nat} {z : Int} (h : (gMv b g)[k]? = some z) : ∃ y, g[k]? = some y ∧ z = y + b.labels.length := by
  rw [List.getElem?_map] at h
  obtain ⟨y, hy, rfl⟩ := Option.map_eq_some_iff.1 h
  exact ⟨y, hy, rfl⟩
theorem push_rep {a b c : Ob} {f g : List Int} (hf : arrS a b f = true) (hg : arrS a c g = true) :
    (∀ y ∈ f, 0 ≤ y ∧ y < ((b.labels.length + c.labels.length : Nat) : Int)) ∧ (∀ y ∈ gMv b g, 0 ≤ y ∧ y < ((b.labels.length + c.labels.length : Nat) : Int)) ∧ f.length = (gMv b g).length := by
  obtain ⟨_, _, m1, _⟩ := arrS_iff.1 hf
  obtain ⟨_, _, m2, _⟩ := arrS_iff.1 hg
  have l1 := allY_length m1
  have l2 := allY_length m2
  refine ⟨fun y hy => ?_, fun y hy => ?_, by simp [gMv]; omega⟩
  · have := map_all m1 y hy; omega
  · obtain ⟨z, hz, rfl⟩ := List.mem_map.1 hy
    have := map_all m2 z hz; omega
theorem push_lab {a b c : Ob} {f g : List Int} (hf : arrS a b f = true) (hg : arrS a c g = true) (k : Nat) (y z : Int) (hy : f[k]? = some y) (hz : (gMv b g)[k]? = some z) :
    ((besideS b c).labels.getD y.toNat ByteArray.empty).toList = ((besideS b c).labels.getD z.toNat ByteArray.empty).toList := by
  obtain ⟨w, hw, rfl⟩ := mv_get hz
  have h1 := lab_at hf hy
  have h2 := lab_at hg hw
  have b1 := map_all (arrS_iff.1 hf).2.2.1 y (List.mem_of_getElem? hy)
  have b2 := map_all (arrS_iff.1 hg).2.2.1 w (List.mem_of_getElem? hw)
  have e1 : (besideS b c).labels.getD y.toNat ByteArray.empty = b.labels.getD y.toNat ByteArray.empty := by
    simp only [besideS, List.getD_eq_getElem?_getD]; rw [List.getElem?_append_left (by omega)]
  have e2 : (besideS b c).labels.getD (w + b.labels.length).toNat ByteArray.empty = c.labels.getD w.toNat ByteArray.empty := by
    simp only [besideS, List.getD_eq_getElem?_getD]; rw [List.getElem?_append_right (by omega)]; congr 2; omega
  rw [e1, e2, h1, h2]
theorem sq_of {a b c : Ob} {f g : List Int} (hf : arrS a b f = true) (hg : arrS a c g = true) (hl : b.labels.length + c.labels.length ≤ 40) :
    ∃ h, SqS b c f g (gluedS (besideS b c) (puPl b c f g)) ((puPl b c f g).take b.labels.length) ((puPl b c f g).drop b.labels.length) h := by
  have ha := (arrS_iff.1 hf).1
  have hb := (arrS_iff.1 hf).2.1
  have hc := (arrS_iff.1 hg).2.1
  have ho := beside_ob hb hc hl
  have hol : (besideS b c).labels.length = b.labels.length + c.labels.length := by simp [besideS]
  obtain ⟨r1, r2, r3⟩ := push_rep hf hg
  obtain ⟨hok, hRl⟩ := joins_ok _ f (gMv b g) r1 r2 f.length (Nat.le_refl _) (by omega)
  have hinv := joins_inv _ f (gMv b g) r1 r2 (fun j => ((besideS b c).labels.getD j ByteArray.empty).toList) f.length (Nat.le_refl _) (by omega) (fun i y z _ hy hz => push_lab hf hg i y z hy hz)
  have heq := joins_eq _ f (gMv b g) r1 r2 f.length (Nat.le_refl _) (by omega)
  have harr := glued_arr ho hok (by rw [hRl, hol]) hinv
  have hLl := placesL_len (joinsL (rangeI (b.labels.length + c.labels.length)) f (gMv b g) f.length)
  change arrS (besideS b c) (gluedS (besideS b c) (puPl b c f g)) (puPl b c f g) = true at harr
  change (puPl b c f g).length = _ at hLl
  rw [hRl] at hLl
  have hi : arrS b (gluedS (besideS b c) (puPl b c f g)) ((puPl b c f g).take b.labels.length) = true := by
    have h1 := then_arr (arr_left (id_arr hb) hc hl) harr
    have h2 : ((idS (b.labels.length : Int)).map fun y => (puPl b c f g).getD y.toNat 0) = (puPl b c f g).take b.labels.length := by
      apply List.ext_getElem?
      intro k
      rw [List.getElem?_map]
      by_cases hk : k < b.labels.length
      · rw [idS_get hb.le hk, List.getElem?_take, if_pos hk, List.getElem?_eq_getElem (show k < (puPl b c f g).length by omega)]
        simp [List.getD_eq_getElem?_getD, List.getElem?_eq_getElem (show k < (puPl b c f g).length by omega)]
      · rw [List.getElem?_eq_none (by rw [idS_len hb.le]; omega), List.getElem?_take, if_neg hk]; rfl
    rwa [h2] at h1
  have hj : arrS c (gluedS (besideS b c) (puPl b c f g)) ((puPl b c f g).drop b.labels.length) = true := by
    have h1 := then_arr (arr_right hb (id_arr hc) hl) harr
    have h2 : (((idS (c.labels.length : Int)).map (· + (b.labels.length : Int))).map fun y => (puPl b c f g).getD y.toNat 0) = (puPl b c f g).drop b.labels.length := by
      apply List.ext_getElem?
      intro k
      rw [List.getElem?_map, List.getElem?_map]
      by_cases hk : k < c.labels.length
      · rw [idS_get hc.le hk, List.getElem?_drop, List.getElem?_eq_getElem (show b.labels.length + k < (puPl b c f g).length by omega)]
        have : ((k : Int) + (b.labels.length : Int)).toNat = b.labels.length + k := by omega
        simp only [Option.map_some, this, List.getD_eq_getElem?_getD, List.getElem?_eq_getElem (show b.labels.length + k < (puPl b c f g).length by omega), Option.getD_some]
      · rw [List.getElem?_eq_none (by rw [idS_len hc.le]; omega), List.getElem?_drop, List.getElem?_eq_none (by omega)]; rfl
    rwa [h2] at h1
  have hil := allY_length (arrS_iff.1 hi).2.2.1
  have hjl := allY_length (arrS_iff.1 hj).2.2.1
  refine ⟨f.map fun y => ((puPl b c f g).take b.labels.length).getD y.toNat 0, ⟨thenS_ok fun y hy => ?_, ?_, hi, hj, fun k hk => ?_⟩⟩
  · have := map_all (arrS_iff.1 hf).2.2.1 y hy; omega
  · rw [thenS_ok fun y hy => by have := map_all (arrS_iff.1 hg).2.2.1 y hy; omega]
    congr 1
    have hgl : g.length = f.length := by rw [r3]; simp [gMv]
    apply List.ext_getElem?
    intro k
    rw [List.getElem?_map, List.getElem?_map]
    by_cases hk : k < f.length
    · obtain ⟨y, hy⟩ : ∃ y, f[k]? = some y := ⟨_, List.getElem?_eq_getElem hk⟩
      obtain ⟨w, hw⟩ : ∃ w, g[k]? = some w := ⟨_, List.getElem?_eq_getElem (by omega)⟩
      have hz : (gMv b g)[k]? = some (w + b.labels.length) := by rw [List.getElem?_map, hw]; rfl
      have b1 := map_all (arrS_iff.1 hf).2.2.1 y (List.mem_of_getElem? hy)
      have b2 := map_all (arrS_iff.1 hg).2.2.1 w (List.mem_of_getElem? hw)
      have e0 := heq k y _ hk hy hz
      obtain ⟨r, hr⟩ : ∃ r, (joinsL (rangeI (b.labels.length + c.labels.length)) f (gMv b g) f.length)[y.toNat]? = some r := ⟨_, List.getElem?_eq_getElem (by omega)⟩
      have e1 := pl_rep hok hr
      have e2 := pl_rep hok (e0 ▸ hr)
      rw [hy, hw]
      simp only [Option.map_some, Option.some.injEq, List.getD_eq_getElem?_getD]
      rw [List.getElem?_drop, List.getElem?_take, if_pos (by omega), show b.labels.length + w.toNat = (w + (b.labels.length : Int)).toNat by omega]
      show ((puPl b c f g)[_]?).getD 0 = ((puPl b c f g)[_]?).getD 0
      exact congrArg (fun o => Option.getD o 0) (e2.trans e1.symm)
    · rw [List.getElem?_eq_none (by omega), List.getElem?_eq_none (by omega)]; rfl
  · have hk' : k < glN (puPl b c f g) := by rw [← glLab_len (besideS b c)]; exact hk
    obtain ⟨x, hx, hxv⟩ := pl_onto _ hk'
    rw [List.take_append_drop]
    rw [List.getD_eq_getElem?_getD, List.getElem?_eq_getElem hx] at hxv
    rw [show (k : Int) = (puPl b c f g)[x] from hxv.symm]
    exact List.getElem_mem _
theorem push_cases (a b c : Ob) (f g : List Int) : (∃ e : Int, e ≠ 0 ∧ pushR a b c f g = (⟨[], []⟩, [], [], e)) ∨ ∃ q i j h, pushR a b c f g = (q, i, j, 0) ∧ SqS b c f g q i j h ∧ arrS a b f = true ∧ arrS a c g = true := by
  unfold pushR
  split
  · exact .inl ⟨11, by decide, rfl⟩
  · rename_i hlg
    split
    · rename_i har
      simp only [not_or] at hlg
      rw [largeS_two] at hlg
      have h2 := hlg.2.2
      simp only [decide_eq_true_eq] at h2
      obtain ⟨h, hS⟩ := sq_of har.1 har.2 (by omega)
      exact .inr ⟨_, _, _, h, rfl, hS, har.1, har.2⟩
    · exact .inl ⟨10, by decide, rfl⟩
end Go.Proofs

open Go Go.V
namespace Go.Proofs
/-- what was hit -/
def hitC (n : Nat) (l : List Int) : List T := (List.range n).map fun (p : Nat) => T.v (Value.bool (decide ((p : Int) ∈ l)))
theorem hitC_len (n : Nat) (l : List Int) : (hitC n l).length = n := by simp [hitC]
theorem hitC_zero (n : Nat) : repl [.v (.bool false)] n = hitC n [] := by
  rw [repl_one]
  apply List.ext_getElem <;> simp [hitC]
theorem hitC_put {n : Nat} {l : List Int} {z : Int} (h0 : 0 ≤ z) (h : z < n) : setAll (hitC n l) z.toNat [.v (.bool true)] = hitC n (l ++ [z]) := by
  rw [setAll_one _ _ _ (by rw [hitC_len]; omega)]
  apply List.ext_getElem
  · simp [hitC]
  · intro i h1 h2
    rw [List.getElem_set]
    simp only [hitC, List.getElem_map, List.getElem_range, List.mem_append, List.mem_singleton]
    split
    · rename_i he; subst he; rw [show (z.toNat : Int) = z by omega]; simp
    · rename_i he
      have : ¬ (i : Int) = z := by omega
      simp [this]
theorem hitC_get {n : Nat} {l : List Int} {p : Nat} (h : p < n) (hm : (p : Int) ∈ l) : (hitC n l)[p]? = some (.v (.bool true)) := by simp [hitC, h, hm]
theorem vsum_mk (q : Ob) (i j : List Int) (e : Int) : vSum (q, i, j, e) = .tup [vObj q, .t (tInts i), .t (tInts j), I e] := rfl
theorem take_z {l : List Int} {k : Nat} {z : Int} (hz : l[k]? = some z) : l.take (k + 1) = l.take k ++ [z] := by rw [List.take_add_one, hz]; rfl
theorem nc0 : ((0 : Nat) : Int) = 0 := rfl

set_option maxRecDepth 20000 in
set_option maxHeartbeats 8000000 in
theorem lawSquare_ (a b c : Ob) (f g : List Int) (ha1 : a.labels.length ≤ 9223372036854775807) (ha2 : a.pairs.length ≤ 9223372036854775807) (hb1 : b.labels.length ≤ 9223372036854775807) (hb2 : b.pairs.length ≤ 9223372036854775807) (hc1 : c.labels.length ≤ 9223372036854775807) (hc2 : c.pairs.length ≤ 9223372036854775807) : PCall Tryd.prog 6 [vObj a, vObj b, vObj c, .t (tInts f), .t (tInts g)] (Bo true) := by
  refine pcall_of_body Tryd.func6 rfl fun s Q hQ => ?_
  obtain ⟨e, he, hl, h0, h1, h2, h3, h4⟩ : ∃ e : Env, ([vObj a, vObj b, vObj c, .t (tInts f), .t (tInts g)] ++ List.replicate (Tryd.f6.ntmps - ([vObj a, vObj b, vObj c, .t (tInts f), .t (tInts g)] : List V).length) .junk) = e ∧ e.length = 152 ∧ ev e (.tmp 0) = vObj a ∧ ev e (.tmp 1) = vObj b ∧ ev e (.tmp 2) = vObj c ∧ ev e (.tmp 3) = .t (tInts f) ∧ ev e (.tmp 4) = .t (tInts g) := ⟨_, rfl, rfl, rfl, rfl, rfl, rfl, rfl⟩
  rw [he]
  clear he
  refine vw_seq_k fun K1 hK1 => ?_
  refine vw_sc 0 [] ?_
  simp only [bs, ↓vopx, ↓vop, Nat.reduceBEq, thenV, flat, V.cells, h0, h1, h2, wocs, ↓goc, ↓woc, ↓vopm0]
  refine hK1 _ _ ?_
  refine vw_seq_k fun K2 hK2 => ?_
  refine vw_seq_k fun K3 hK3 => ?_
  refine vw_sc 0 [.pur (Bo true)] ?_
  simp only [bs, ↓vopx, ↓vop, thenV, Nat.reduceLT, hl, wocs, ↓goc, ↓woc, ↓vopm0, ↓callC, calleeV]
  repeat ((with_reducible refine And.intro ?_ ?_); · exact ⟨Tryd.is20, known7_⟩)
  refine hK3 _ _ ?_
  refine vw_cond_k fun A B hA hB => ?_
  simp only [condV, ev_hit, length_putv, Nat.reduceLT, true_implies, reduceCtorEq, false_implies, true_and, hl]
  refine hB ?_
  clear hA hB A B
  refine vw_skip ?_
  refine hK2 _ _ ?_
  refine vw_seq_k fun K4 hK4 => ?_
  refine vw_seq_k fun K5 hK5 => ?_
  rcases (show fewS a = false ∨ (fewS a = true ∧ (fewS b = false ∨ (fewS b = true ∧ (fewS c = false ∨ (fewS c = true ∧ ((f.length : Int) > 60 ∨ (¬ (f.length : Int) > 60 ∧ ((g.length : Int) > 60 ∨ ¬ (g.length : Int) > 60)))))))) by cases (fewS a) <;> cases (fewS b) <;> cases (fewS c) <;> simp <;> omega) with hfa | ⟨hfa, hfb | ⟨hfb, hfc | ⟨hfc, hlf | ⟨hlf, hlg | hlg⟩⟩⟩⟩
  · refine vw_sc 0 [.pur (Bo (fewS a))] ?_
    simp only [bs, Nat.reduceAdd, ↓vopx, ↓vop, Nat.reduceBEq, thenV, flat, Nat.reduceLT, dLoad, vpart, gtmp, hl, wocs, ↓goc, ↓woc, ↓vopm0, ↓callC, ↓pick_tf, calleeV, Tryd.ag25, Tryd.sz25, nns, hfa]
    repeat ((with_reducible refine And.intro ?_ ?_); · exact ⟨Tryd.is21, by simpa only [hfa] using few7_ a (by omega) (by omega)⟩)
    refine hK5 _ _ ?_
    refine vw_cond_k fun A B hA hB => ?_
    simp only [condV, ev_hit, length_putv, Nat.reduceLT, true_implies, reduceCtorEq, false_implies, and_true, hl]
    refine hA ?_
    clear hA hB A B
    refine vw_seq_k fun K6 hK6 => ?_
    refine vw_sc 0 [] ?_
    simp only [bs, ↓vopx, ↓vop, thenV, flat, wocs, ↓goc, ↓woc, ↓vopm0]
    refine hK6 _ _ ?_
    refine vw_ret ?_
    refine hQ _ _ _ (.inr rfl) (done_tmp ?_ fun n b hn h => by simp [Sg.add, show n ≠ s.next by omega, show n ≠ s.next + 1 by omega, show n ≠ s.next + 1 + 1 by omega, h])
    try simp only [ev_hit, length_putv, hl, Nat.reduceLT]
  · have ba := few_le hfa
    refine vw_sc 0 [.pur (Bo (fewS a)), .pur (Bo (fewS b))] ?_
    simp only [bs, Nat.reduceAdd, ↓vopx, ↓vop, Nat.reduceBEq, thenV, flat, Nat.reduceLT, dLoad, vpart, gtmp, hl, wocs, ↓goc, ↓woc, ↓vopm0, ↓callC, ↓pick_ff, ↓pick_tf, calleeV, Tryd.ag25, Tryd.sz25, nns, hfa, hfb]
    repeat ((with_reducible refine And.intro ?_ ?_); · first | exact ⟨Tryd.is21, by simpa only [hfa] using few7_ a (by omega) (by omega)⟩ | exact ⟨Tryd.is21, by simpa only [hfb] using few7_ b (by omega) (by omega)⟩)
    refine hK5 _ _ ?_
    refine vw_cond_k fun A B hA hB => ?_
    simp only [condV, ev_hit, length_putv, Nat.reduceLT, true_implies, reduceCtorEq, false_implies, and_true, hl]
    refine hA ?_
    clear hA hB A B
    refine vw_seq_k fun K7 hK7 => ?_
    refine vw_sc 0 [] ?_
    simp only [bs, ↓vopx, ↓vop, thenV, flat, wocs, ↓goc, ↓woc, ↓vopm0]
    refine hK7 _ _ ?_
    refine vw_ret ?_
    refine hQ _ _ _ (.inr rfl) (done_tmp ?_ fun n b hn h => by simp [Sg.add, show n ≠ s.next by omega, show n ≠ s.next + 1 by omega, show n ≠ s.next + 1 + 1 by omega, h])
    try simp only [ev_hit, length_putv, hl, Nat.reduceLT]
  · have ba := few_le hfa
    have bb := few_le hfb
    refine vw_sc 0 [.pur (Bo (fewS a)), .pur (Bo (fewS b)), .pur (Bo (fewS c))] ?_
    simp only [bs, Nat.reduceAdd, ↓vopx, ↓vop, Nat.reduceBEq, thenV, flat, Nat.reduceLT, dLoad, vpart, gtmp, hl, wocs, ↓goc, ↓woc, ↓vopm0, ↓callC, ↓pick_ff, ↓pick_tf, calleeV, Tryd.ag25, Tryd.sz25, nns, hfa, hfb, hfc]
    repeat ((with_reducible refine And.intro ?_ ?_); · first | exact ⟨Tryd.is21, by simpa only [hfa] using few7_ a (by omega) (by omega)⟩ | exact ⟨Tryd.is21, by simpa only [hfb] using few7_ b (by omega) (by omega)⟩ | exact ⟨Tryd.is21, by simpa only [hfc] using few7_ c (by omega) (by omega)⟩)
    refine hK5 _ _ ?_
    refine vw_cond_k fun A B hA hB => ?_
    simp only [condV, ev_hit, length_putv, Nat.reduceLT, true_implies, reduceCtorEq, false_implies, and_true, hl]
    refine hA ?_
    clear hA hB A B
    refine vw_seq_k fun K8 hK8 => ?_
    refine vw_sc 0 [] ?_
    simp only [bs, ↓vopx, ↓vop, thenV, flat, wocs, ↓goc, ↓woc, ↓vopm0]
    refine hK8 _ _ ?_
    refine vw_ret ?_
    refine hQ _ _ _ (.inr rfl) (done_tmp ?_ fun n b hn h => by simp [Sg.add, show n ≠ s.next by omega, show n ≠ s.next + 1 by omega, show n ≠ s.next + 1 + 1 by omega, h])
    try simp only [ev_hit, length_putv, hl, Nat.reduceLT]
  · have ba := few_le hfa
    have bb := few_le hfb
    have bc := few_le hfc
    refine vw_sc 0 [.pur (Bo (fewS a)), .pur (Bo (fewS b)), .pur (Bo (fewS c))] ?_
    simp only [bs, Nat.reduceAdd, ↓vopx, ↓vop, Nat.reduceBEq, thenV, flat, Nat.reduceLT, dLoad, vpart, opII, gtmp, hl, h3, wocs, ↓goc, ↓woc, ↓vopm0, ↓callC, ↓pick_ff, ↓pick_tf, calleeV, Tryd.ag25, Tryd.sz25, nns, len_tInts, Tryd.underlying26, hfa, hfb, hfc, hlf]
    repeat ((with_reducible refine And.intro ?_ ?_); · first | exact ⟨Tryd.is21, by simpa only [hfa] using few7_ a (by omega) (by omega)⟩ | exact ⟨Tryd.is21, by simpa only [hfb] using few7_ b (by omega) (by omega)⟩ | exact ⟨Tryd.is21, by simpa only [hfc] using few7_ c (by omega) (by omega)⟩)
    refine hK5 _ _ ?_
    refine vw_cond_k fun A B hA hB => ?_
    simp only [condV, ev_hit, length_putv, Nat.reduceLT, true_implies, reduceCtorEq, false_implies, and_true, hl]
    refine hA ?_
    clear hA hB A B
    refine vw_seq_k fun K9 hK9 => ?_
    refine vw_sc 0 [] ?_
    simp only [bs, ↓vopx, ↓vop, thenV, flat, wocs, ↓goc, ↓woc, ↓vopm0]
    refine hK9 _ _ ?_
    refine vw_ret ?_
    refine hQ _ _ _ (.inr rfl) (done_tmp ?_ fun n b hn h => by simp [Sg.add, show n ≠ s.next by omega, show n ≠ s.next + 1 by omega, show n ≠ s.next + 1 + 1 by omega, h])
    try simp only [ev_hit, length_putv, hl, Nat.reduceLT]
  · have ba := few_le hfa
    have bb := few_le hfb
    have bc := few_le hfc
    refine vw_sc 0 [.pur (Bo (fewS a)), .pur (Bo (fewS b)), .pur (Bo (fewS c))] ?_
    simp only [bs, Nat.reduceAdd, ↓vopx, ↓vop, Nat.reduceBEq, thenV, flat, Nat.reduceLT, dLoad, vpart, opII, gtmp, hl, h3, h4, wocs, ↓goc, ↓woc, ↓vopm0, ↓callC, ↓pick_ff, calleeV, Tryd.ag25, Tryd.sz25, nns, len_tInts, Tryd.underlying26, hfa, hfb, hfc, hlf, hlg]
    repeat ((with_reducible refine And.intro ?_ ?_); · first | exact ⟨Tryd.is21, by simpa only [hfa] using few7_ a (by omega) (by omega)⟩ | exact ⟨Tryd.is21, by simpa only [hfb] using few7_ b (by omega) (by omega)⟩ | exact ⟨Tryd.is21, by simpa only [hfc] using few7_ c (by omega) (by omega)⟩)
    refine hK5 _ _ ?_
    refine vw_cond_k fun A B hA hB => ?_
    simp only [condV, ev_hit, length_putv, Nat.reduceLT, true_implies, reduceCtorEq, false_implies, and_true, hl]
    refine hA ?_
    clear hA hB A B
    refine vw_seq_k fun K10 hK10 => ?_
    refine vw_sc 0 [] ?_
    simp only [bs, ↓vopx, ↓vop, thenV, flat, wocs, ↓goc, ↓woc, ↓vopm0]
    refine hK10 _ _ ?_
    refine vw_ret ?_
    refine hQ _ _ _ (.inr rfl) (done_tmp ?_ fun n b hn h => by simp [Sg.add, show n ≠ s.next by omega, show n ≠ s.next + 1 by omega, show n ≠ s.next + 1 + 1 by omega, h])
    try simp only [ev_hit, length_putv, hl, Nat.reduceLT]
  · have ba := few_le hfa
    have bb := few_le hfb
    have bc := few_le hfc
    refine vw_sc 0 [.pur (Bo (fewS a)), .pur (Bo (fewS b)), .pur (Bo (fewS c))] ?_
    simp only [bs, Nat.reduceAdd, ↓vopx, ↓vop, Nat.reduceBEq, thenV, flat, Nat.reduceLT, dLoad, vpart, opII, gtmp, hl, h3, h4, wocs, ↓goc, ↓woc, ↓vopm0, ↓callC, ↓pick_ff, calleeV, Tryd.ag25, Tryd.sz25, nns, len_tInts, Tryd.underlying26, hfa, hfb, hfc, hlf, hlg]
    repeat ((with_reducible refine And.intro ?_ ?_); · first | exact ⟨Tryd.is21, by simpa only [hfa] using few7_ a (by omega) (by omega)⟩ | exact ⟨Tryd.is21, by simpa only [hfb] using few7_ b (by omega) (by omega)⟩ | exact ⟨Tryd.is21, by simpa only [hfc] using few7_ c (by omega) (by omega)⟩)
    refine hK5 _ _ ?_
    refine vw_cond_k fun A B hA hB => ?_
    simp only [condV, ev_hit, length_putv, Nat.reduceLT, true_implies, reduceCtorEq, false_implies, true_and, hl]
    refine hB ?_
    clear hA hB A B
    refine vw_skip ?_
    refine hK4 _ _ ?_
    refine vw_seq_k fun K11 hK11 => ?_
    refine vw_en fun eqa hE => ?_
    have hlqa : eqa.length = 152 := by rw [hE]; simp only [length_putv, hl]
    have qa_3 : ev eqa (.tmp 3) = .t (tInts f) := by rw [hE]; simp only [ev_miss, Nat.reduceBEq, h3]
    have qa_4 : ev eqa (.tmp 4) = .t (tInts g) := by rw [hE]; simp only [ev_miss, Nat.reduceBEq, h4]
    have qa_5 : ev eqa (.tmp 5) = .ptr (s.next) 0 := by rw [hE]; simp only [ev_hit, ev_miss, Nat.reduceBEq, hl, Nat.reduceLT]
    have qa_6 : ev eqa (.tmp 6) = .ptr (s.next + 1) 0 := by rw [hE]; simp only [ev_hit, ev_miss, Nat.reduceBEq, length_putv, hl, Nat.reduceLT]
    have qa_7 : ev eqa (.tmp 7) = .ptr (s.next + 1 + 1) 0 := by rw [hE]; simp only [ev_hit, ev_miss, Nat.reduceBEq, length_putv, hl, Nat.reduceLT]
    clear hE
    refine vw_st fun sqa hS => ?_
    have qaB0 : sqa.m (s.next) = some (.box 25 [.t (tStrs a.labels), .t (tPairs a.pairs)]) := by rw [hS]; simp only [m_add, n_add, nns, if_true, if_false, ]
    have qaB1 : sqa.m (s.next + 1) = some (.box 25 [.t (tStrs b.labels), .t (tPairs b.pairs)]) := by rw [hS]; simp only [m_add, n_add, nns, if_true, if_false, ]
    have qaB2 : sqa.m (s.next + 1 + 1) = some (.box 25 [.t (tStrs c.labels), .t (tPairs c.pairs)]) := by rw [hS]; simp only [m_add, n_add, nns, if_true, if_false, ]
    have hnqa : sqa.next = s.next + 1 + 1 + 1 := by rw [hS]; simp only [n_add, ]
    have hkqa : ∀ j, j < s.next → sqa.m j = s.m j := fun j hj => by have z0 : ¬ j = s.next := (by omega); have z1 : ¬ j = s.next + 1 := (by omega); have z2 : ¬ j = s.next + 1 + 1 := (by omega); rw [hS]; simp only [m_add, n_add, z0, z1, z2, if_false]
    clear hS
    obtain ⟨u1, u2, u3, u4⟩ := pushR_lim a b c f g (by omega)
    obtain ⟨q, ii, jj, ec, hR⟩ : ∃ q ii jj ec, pushR a b c f g = (q, ii, jj, ec) := ⟨_, _, _, _, rfl⟩
    have hcs := push_cases a b c f g
    rw [hR] at hcs u1 u2 u3 u4
    simp only at u1 u2 u3 u4
    refine vw_sc 0 [.pur (.tup [vObj q, .t (tInts ii), .t (tInts jj), I ec])] ?_
    simp only [bs, Nat.reduceAdd, ↓vopx, ↓vop, Nat.reduceBEq, thenV, Nat.reduceLT, V.cells, dLoad, vpart, hlqa, qa_3, qa_4, qa_5, qa_6, qa_7, qaB0, qaB1, qaB2, hnqa, wocs, ↓goc, ↓woc, ↓vopm0, ↓callC, calleeV, Tryd.ag25, Tryd.sz25, Tryd.zv25]
    repeat ((with_reducible refine And.intro ?_ ?_); · exact ⟨Tryd.is22, by have := push_ a b c f g (by omega) (by omega) (by omega) (by omega) (by omega) (by omega) (by omega) (by omega); rw [pushS_eq, hR, vsum_mk] at this; exact this⟩)
    refine hK11 _ _ ?_
    refine vw_seq_k fun K12 hK12 => ?_
    refine vw_seq_k fun K13 hK13 => ?_
    refine vw_en fun eqb hE => ?_
    have hlqb : eqb.length = 152 := by rw [hE]; simp only [length_putv, hlqa]
    have qb_3 : ev eqb (.tmp 3) = .t (tInts f) := by rw [hE]; simp only [ev_miss, Nat.reduceBEq, qa_3]
    have qb_4 : ev eqb (.tmp 4) = .t (tInts g) := by rw [hE]; simp only [ev_miss, Nat.reduceBEq, qa_4]
    have qb_6 : ev eqb (.tmp 6) = .ptr (s.next + 1) 0 := by rw [hE]; simp only [ev_miss, Nat.reduceBEq, qa_6]
    have qb_7 : ev eqb (.tmp 7) = .ptr (s.next + 1 + 1) 0 := by rw [hE]; simp only [ev_miss, Nat.reduceBEq, qa_7]
    have qb_11 : ev eqb (.tmp 11) = .ptr (s.next + 1 + 1 + 1) 0 := by rw [hE]; simp only [ev_hit, ev_miss, Nat.reduceBEq, length_putv, hlqa, Nat.reduceLT]
    have qb_12 : ev eqb (.tmp 12) = .t (tInts ii) := by rw [hE]; simp only [ev_hit, ev_miss, Nat.reduceBEq, length_putv, hlqa, Nat.reduceLT]
    have qb_13 : ev eqb (.tmp 13) = .t (tInts jj) := by rw [hE]; simp only [ev_hit, ev_miss, Nat.reduceBEq, length_putv, hlqa, Nat.reduceLT]
    have qb_14 : ev eqb (.tmp 14) = I ec := by rw [hE]; simp only [ev_hit, length_putv, hlqa, Nat.reduceLT]
    clear hE
    refine vw_st fun sqb hS => ?_
    have qbB0 : sqb.m (s.next) = some (.box 25 [.t (tStrs a.labels), .t (tPairs a.pairs)]) := by rw [hS]; simp only [m_set, m_add, nns, if_false, qaB0, hnqa]
    have qbB1 : sqb.m (s.next + 1) = some (.box 25 [.t (tStrs b.labels), .t (tPairs b.pairs)]) := by rw [hS]; simp only [m_set, m_add, nns, if_false, qaB1, hnqa]
    have qbB2 : sqb.m (s.next + 1 + 1) = some (.box 25 [.t (tStrs c.labels), .t (tPairs c.pairs)]) := by rw [hS]; simp only [m_set, m_add, nns, if_false, qaB2, hnqa]
    have qbB3 : sqb.m (s.next + 1 + 1 + 1) = some (.box 25 [.t (tStrs q.labels), .t (tPairs q.pairs)]) := by rw [hS]; simp only [m_set, m_add, if_true, hnqa]
    have hnqb : sqb.next = s.next + 1 + 1 + 1 + 1 := by rw [hS]; simp only [n_add, n_set, hnqa]
    have hkqb : ∀ j, j < s.next → sqb.m j = s.m j := fun j hj => by have z0 : ¬ j = s.next := (by omega); have z1 : ¬ j = s.next + 1 := (by omega); have z2 : ¬ j = s.next + 1 + 1 := (by omega); have z3 : ¬ j = s.next + 1 + 1 + 1 := (by omega); rw [hS]; simp only [m_set, m_add, hnqa, z3, if_false, hkqa j hj]
    clear hS
    rcases hcs with ⟨e, he0, hcs⟩ | ⟨q0, i0, j0, hh, hcs, hS, hrf, hrg⟩
    · obtain ⟨rfl, rfl, rfl, rfl⟩ : q = ⟨[], []⟩ ∧ ii = [] ∧ jj = [] ∧ ec = e := by simpa only [Prod.mk.injEq] using hcs
      refine vw_sc 0 [] ?_
      simp only [bs, ↓vopx, ↓vop, thenV, flat, Nat.reduceLT, opII, hlqb, qb_14, wocs, ↓goc, ↓woc, ↓vopm0]
      refine hK13 _ _ ?_
      refine vw_cond_k fun A B hA hB => ?_
      simp only [condV, ev_hit, length_putv, Nat.reduceLT, bne_iff_ne, bne_eq_false_iff_eq, ne_eq, true_implies, false_implies, and_true, hlqb, he0, not_false_eq_true]
      refine hA ?_
      clear hA hB A B
      refine vw_seq_k fun K14 hK14 => ?_
      refine vw_sc 0 [] ?_
      simp only [bs, ↓vopx, ↓vop, Nat.reduceBEq, thenV, flat, Nat.reduceLT, dLoad, vpart, opII, gtmp, hlqb, qb_11, qb_12, qb_13, qbB3, wocs, ↓goc, ↓woc, ↓vopm0, ↓pick_tt, Tryd.ag22, Tryd.fd25_0, Tryd.sz22, Tryd.un22, nns, len_tInts, len_tStrs, Tryd.underlying26, nc0, beq_self_eq_true]
      refine hK14 _ _ ?_
      refine vw_ret ?_
      refine hQ _ _ _ (.inr rfl) (done_tmp ?_ fun n b hn h => (hkqb n hn).trans h)
      try simp only [ev_hit, length_putv, hlqb, Nat.reduceLT]
    · obtain ⟨rfl, rfl, rfl, rfl⟩ : q = q0 ∧ ii = i0 ∧ jj = j0 ∧ ec = 0 := by simpa only [Prod.mk.injEq] using hcs
      refine vw_sc 0 [] ?_
      simp only [bs, ↓vopx, ↓vop, thenV, flat, Nat.reduceLT, opII, hlqb, qb_14, wocs, ↓goc, ↓woc, ↓vopm0]
      refine hK13 _ _ ?_
      refine vw_cond_k fun A B hA hB => ?_
      simp only [condV, ev_hit, length_putv, Nat.reduceLT, bne_iff_ne, bne_eq_false_iff_eq, ne_eq, true_implies, false_implies, true_and, hlqb, not_true_eq_false]
      refine hB ?_
      clear hA hB A B
      refine vw_skip ?_
      refine hK12 _ _ ?_
      refine vw_seq_k fun K15 hK15 => ?_
      refine vw_sc 0 [.pur (.tup [.t (tInts hh), Bo true])] ?_
      simp only [bs, ↓vopx, ↓vop, Nat.reduceBEq, thenV, Nat.reduceLT, hlqb, qb_3, qb_12, wocs, ↓goc, ↓woc, ↓vopm0, ↓callC, calleeV]
      repeat ((with_reducible refine And.intro ?_ ?_); · exact ⟨Tryd.is32, by have := then_ f ii (by omega) (by omega); rw [hS.t1] at this; exact this⟩)
      refine hK15 _ _ ?_
      refine vw_seq_k fun K16 hK16 => ?_
      refine vw_sc 0 [.pur (.tup [.t (tInts hh), Bo true])] ?_
      simp only [bs, ↓vopx, ↓vop, Nat.reduceBEq, thenV, Nat.reduceLT, hlqb, qb_4, qb_13, wocs, ↓goc, ↓woc, ↓vopm0, ↓callC, calleeV]
      repeat ((with_reducible refine And.intro ?_ ?_); · exact ⟨Tryd.is32, by have := then_ g jj (by omega) (by omega); rw [hS.t2] at this; exact this⟩)
      refine hK16 _ _ ?_
      refine vw_seq_k fun K17 hK17 => ?_
      refine vw_seq_k fun K18 hK18 => ?_
      refine vw_en fun eqc hE => ?_
      have hlqc : eqc.length = 152 := by rw [hE]; simp only [length_putv, hlqb]
      have qc_6 : ev eqc (.tmp 6) = .ptr (s.next + 1) 0 := by rw [hE]; simp only [ev_miss, Nat.reduceBEq, qb_6]
      have qc_7 : ev eqc (.tmp 7) = .ptr (s.next + 1 + 1) 0 := by rw [hE]; simp only [ev_miss, Nat.reduceBEq, qb_7]
      have qc_11 : ev eqc (.tmp 11) = .ptr (s.next + 1 + 1 + 1) 0 := by rw [hE]; simp only [ev_miss, Nat.reduceBEq, qb_11]
      have qc_12 : ev eqc (.tmp 12) = .t (tInts ii) := by rw [hE]; simp only [ev_miss, Nat.reduceBEq, qb_12]
      have qc_13 : ev eqc (.tmp 13) = .t (tInts jj) := by rw [hE]; simp only [ev_miss, Nat.reduceBEq, qb_13]
      have qc_15 : ev eqc (.tmp 15) = .t (tInts hh) := by rw [hE]; simp only [ev_hit, ev_miss, Nat.reduceBEq, length_putv, hlqb, Nat.reduceLT]
      have qc_16 : ev eqc (.tmp 16) = Bo true := by rw [hE]; simp only [ev_hit, ev_miss, Nat.reduceBEq, length_putv, hlqb, Nat.reduceLT]
      have qc_17 : ev eqc (.tmp 17) = .t (tInts hh) := by rw [hE]; simp only [ev_hit, ev_miss, Nat.reduceBEq, length_putv, hlqb, Nat.reduceLT]
      have qc_18 : ev eqc (.tmp 18) = Bo true := by rw [hE]; simp only [ev_hit, length_putv, hlqb, Nat.reduceLT]
      clear hE
      refine vw_st fun sqc hS => ?_
      have qcB0 : sqc.m (s.next) = some (.box 25 [.t (tStrs a.labels), .t (tPairs a.pairs)]) := by rw [hS]; simp only [qbB0]
      have qcB1 : sqc.m (s.next + 1) = some (.box 25 [.t (tStrs b.labels), .t (tPairs b.pairs)]) := by rw [hS]; simp only [qbB1]
      have qcB2 : sqc.m (s.next + 1 + 1) = some (.box 25 [.t (tStrs c.labels), .t (tPairs c.pairs)]) := by rw [hS]; simp only [qbB2]
      have qcB3 : sqc.m (s.next + 1 + 1 + 1) = some (.box 25 [.t (tStrs q.labels), .t (tPairs q.pairs)]) := by rw [hS]; simp only [qbB3]
      have hnqc : sqc.next = s.next + 1 + 1 + 1 + 1 := by rw [hS]; simp only [hnqb]
      have hkqc : ∀ j, j < s.next → sqc.m j = s.m j := fun j hj => by have z0 : ¬ j = s.next := (by omega); have z1 : ¬ j = s.next + 1 := (by omega); have z2 : ¬ j = s.next + 1 + 1 := (by omega); have z3 : ¬ j = s.next + 1 + 1 + 1 := (by omega); rw [hS]; simp only [hkqb j hj]
      clear hS
      have w1 := allY_length (arrS_iff.1 hS.a1).2.2.1
      have w2 := allY_length (arrS_iff.1 hS.a2).2.2.1
      have hhl : hh.length ≤ 60 := by have := thenS_le f ii; rw [hS.t1] at this; simp only at this; omega
      refine vw_sc 0 [.pur (Bo true), .pur (Bo true), .pur (Bo true)] ?_
      simp only [bs, Nat.reduceAdd, ↓vopx, ↓vop, Nat.reduceBEq, thenV, flat, Nat.reduceLT, dLoad, vpart, gtmp, hlqc, qc_6, qc_7, qc_11, qc_12, qc_13, qc_15, qc_16, qc_17, qc_18, qcB1, qcB2, qcB3, wocs, ↓goc, ↓woc, ↓vopm0, ↓callC, ↓pick_ff, calleeV, Tryd.ag25, Tryd.sz25]
      repeat ((with_reducible refine And.intro ?_ ?_); · first | exact ⟨Tryd.is33, by have := arrowSame_ hh hh (by omega) (by omega); rw [beq_self_eq_true] at this; exact this⟩ | exact ⟨Tryd.is34, by have := arrow_ b q ii (by omega) (by omega) (by omega) (by omega) (by omega); rw [hS.a1] at this; exact this⟩ | exact ⟨Tryd.is34, by have := arrow_ c q jj (by omega) (by omega) (by omega) (by omega) (by omega); rw [hS.a2] at this; exact this⟩)
      refine hK18 _ _ ?_
      refine vw_cond_k fun A B hA hB => ?_
      simp only [condV, ev_hit, length_putv, Nat.reduceLT, true_implies, reduceCtorEq, false_implies, true_and, hlqc]
      refine hB ?_
      clear hA hB A B
      refine vw_skip ?_
      refine hK17 _ _ ?_
      refine vw_seq_k fun K19 hK19 => ?_
      refine vw_sc 0 [] ?_
      simp only [bs, ↓vopx, ↓vop, Nat.reduceBEq, thenV, Nat.reduceLT, dLoad, vpart, hlqc, qc_11, qcB3, hnqc, wocs, ↓goc, ↓woc, ↓vopm0, Tryd.ag22, Tryd.fd25_0, Tryd.sl49, Tryd.sz22, Tryd.un22, nns, len_tStrs, hitC_zero]
      repeat ((with_reducible refine And.intro ?_ ?_); · omega)
      refine hK19 _ _ ?_
      refine vw_seq_k fun K20 hK20 => ?_
      refine vw_seq_k fun K21 hK21 => ?_
      refine vw_en fun eqd hE => ?_
      have hlqd : eqd.length = 152 := by rw [hE]; simp only [length_putv, hlqc]
      have qd_12 : ev eqd (.tmp 12) = .t (tInts ii) := by rw [hE]; simp only [ev_miss, Nat.reduceBEq, qc_12]
      have qd_13 : ev eqd (.tmp 13) = .t (tInts jj) := by rw [hE]; simp only [ev_miss, Nat.reduceBEq, qc_13]
      have qd_19 : ev eqd (.tmp 19) = .loc (s.next + 1 + 1 + 1 + 1) 0 q.labels.length := by rw [hE]; simp only [ev_hit, length_putv, hlqc, Nat.reduceLT]
      clear hE
      refine vw_st fun sqd hS => ?_
      have qdH : sqd.m (s.next + 1 + 1 + 1 + 1) = some (.arr 1 4 (hitC q.labels.length [])) := by rw [hS]; simp only [m_add, if_true, hnqc]
      have hnqd : sqd.next = s.next + 1 + 1 + 1 + 1 + 1 := by rw [hS]; simp only [n_add, hnqc]
      have hkqd : ∀ j, j < s.next → sqd.m j = s.m j := fun j hj => by have z0 : ¬ j = s.next := (by omega); have z1 : ¬ j = s.next + 1 := (by omega); have z2 : ¬ j = s.next + 1 + 1 := (by omega); have z3 : ¬ j = s.next + 1 + 1 + 1 := (by omega); have z4 : ¬ j = s.next + 1 + 1 + 1 + 1 := (by omega); rw [hS]; simp only [m_add, hnqc, z4, if_false, hkqc j hj]
      clear hS
      refine vw_sc 0 [] ?_
      simp only [bs, ↓vopx, ↓vop, thenV, flat, wocs, ↓goc, ↓woc, ↓vopm0]
      refine hK21 _ _ ?_
      refine vw_block ?_
      refine vw_loop (fun mm e' s' => ∃ k : Nat, mm = ii.length - k ∧ k ≤ ii.length ∧ e'.length = 152 ∧ ev e' (.tmp 12) = .t (tInts ii) ∧ ev e' (.tmp 13) = .t (tInts jj) ∧ ev e' (.tmp 19) = .loc (s.next + 1 + 1 + 1 + 1) 0 q.labels.length ∧ ev e' (.tmp 20) = I k ∧ True ∧ s'.m (s.next + 1 + 1 + 1 + 1) = some (.arr 1 4 (hitC q.labels.length (ii.take k))) ∧ s'.next = s.next + 1 + 1 + 1 + 1 + 1 ∧ ∀ n, n < s.next → s'.m n = s.m n) (⟨0, rfl, Nat.zero_le _, ?_⟩) ?_
      · try simp only [ev_hit, ev_miss, Nat.reduceBEq, length_putv, hlqd, qd_12, qd_13, qd_19, Nat.reduceLT, true_and]
        repeat ((with_reducible refine And.intro ?_ ?_); · trivial)
        exact hkqd
      rintro mm e s1 ⟨k, rfl, hle_k, hl, k12, k13, k19, h_k, hst, ⟨hM, hN, hSm⟩⟩
      refine vw_seq_k fun K22 hK22 => ?_
      refine vw_seq_k fun K23 hK23 => ?_
      refine vw_sc 0 [] ?_
      simp only [bs, ↓vopx, ↓vop, Nat.reduceBEq, thenV, Nat.reduceLT, opII, hl, k12, h_k, wocs, ↓goc, ↓woc, ↓vopm0, len_tInts, Tryd.underlying26]
      refine hK23 _ _ ?_
      refine vw_cond_k fun A B hA hB => ?_
      simp only [condV, ev_hit, length_putv, Nat.reduceLT, decide_eq_true_eq, decide_eq_false_iff_not, hl]
      refine ⟨fun hc120 => hA ?_, fun hc120 => hB ?_⟩
      · clear hA hB A B
        refine vw_skip ?_
        refine hK22 _ _ ?_
        refine vw_seq_k fun K24 hK24 => ?_
        refine vw_block ?_
        obtain ⟨z, hz⟩ : ∃ z, ii[k]? = some z := ⟨_, List.getElem?_eq_getElem (by omega)⟩
        have hz0 := map_all (arrS_iff.1 hS.a1).2.2.1 z (List.mem_of_getElem? hz)
        have hkl : k < ii.length := by omega
        refine vw_sc 0 [] ?_
        simp only [bs, ↓vopx, ↓vop, Nat.reduceBEq, thenV, blockV, flat, Nat.reduceLT, V.cells, dLoad, vpart, Sg.frzL, Sg.frz1, hl, k12, k19, h_k, wocs, ↓goc, ↓woc, ↓vopm0, Tryd.ag3, Tryd.sz3, Tryd.sz4, Tryd.un26, Tryd.un49, hz, hM, hitC_len]
        repeat ((with_reducible refine And.intro ?_ ?_); · first | (with_reducible assumption) | omega)
        refine hK24 _ _ ?_
        refine vw_sc 0 [] ?_
        simp only [bs, ↓vopx, ↓vop, Nat.reduceBEq, thenV, flat, Nat.reduceLT, opII, hl, k12, k13, k19, h_k, wocs, ↓goc, ↓woc, ↓vopm0]
        repeat ((with_reducible refine And.intro ?_ ?_); · exact ⟨by omega, by omega⟩)
        refine ⟨ii.length - (k + 1), by omega, k + 1, rfl, by omega, ?_⟩
        try simp only [ev_hit, ev_miss, Nat.reduceBEq, length_putv, hl, k12, k13, k19, h_k, if_true, if_false, Nat.reduceEqDiff, Nat.reduceLT, true_and, and_true]
        repeat ((with_reducible refine And.intro ?_ ?_); · trivial)
        exact ⟨by rw [take_z hz, ← hitC_put hz0.1 hz0.2], hN, fun n hn => by rw [if_neg (by omega)]; exact hSm n hn⟩
      · clear hA hB A B
        refine vw_exit ?_
        simp only [thenV, blockV, if_true]
        refine hK20 _ _ ?_
        refine vw_seq_k fun K25 hK25 => ?_
        refine vw_seq_k fun K26 hK26 => ?_
        refine vw_sc 0 [] ?_
        simp only [bs, ↓vopx, ↓vop, thenV, flat, wocs, ↓goc, ↓woc, ↓vopm0]
        refine hK26 _ _ ?_
        refine vw_block ?_
        refine vw_loop (fun mm e' s' => ∃ k2 : Nat, mm = jj.length - k2 ∧ k2 ≤ jj.length ∧ e'.length = 152 ∧ ev e' (.tmp 13) = .t (tInts jj) ∧ ev e' (.tmp 19) = .loc (s.next + 1 + 1 + 1 + 1) 0 q.labels.length ∧ ev e' (.tmp 21) = I k2 ∧ True ∧ s'.m (s.next + 1 + 1 + 1 + 1) = some (.arr 1 4 (hitC q.labels.length (ii ++ jj.take k2))) ∧ s'.next = s.next + 1 + 1 + 1 + 1 + 1 ∧ ∀ n, n < s.next → s'.m n = s.m n) (⟨0, rfl, Nat.zero_le _, ?_⟩) ?_
        · try simp only [ev_hit, ev_miss, Nat.reduceBEq, length_putv, hl, k13, k19, Nat.reduceLT, true_and]
          repeat ((with_reducible refine And.intro ?_ ?_); · trivial)
          exact ⟨by rw [hM, List.take_of_length_le (by omega)]; simp, hN, hSm⟩
        rintro mm e s1 ⟨k2, rfl, hle_k2, hl, l13, l19, h_k2, hst, ⟨hM, hN, hSm⟩⟩
        refine vw_seq_k fun K27 hK27 => ?_
        refine vw_seq_k fun K28 hK28 => ?_
        refine vw_sc 0 [] ?_
        simp only [bs, ↓vopx, ↓vop, Nat.reduceBEq, thenV, Nat.reduceLT, opII, hl, l13, h_k2, wocs, ↓goc, ↓woc, ↓vopm0, len_tInts, Tryd.underlying26]
        refine hK28 _ _ ?_
        refine vw_cond_k fun A B hA hB => ?_
        simp only [condV, ev_hit, length_putv, Nat.reduceLT, decide_eq_true_eq, decide_eq_false_iff_not, hl]
        refine ⟨fun hc132 => hA ?_, fun hc132 => hB ?_⟩
        · clear hA hB A B
          refine vw_skip ?_
          refine hK27 _ _ ?_
          refine vw_seq_k fun K29 hK29 => ?_
          refine vw_block ?_
          obtain ⟨z, hz⟩ : ∃ z, jj[k2]? = some z := ⟨_, List.getElem?_eq_getElem (by omega)⟩
          have hz0 := map_all (arrS_iff.1 hS.a2).2.2.1 z (List.mem_of_getElem? hz)
          have hkl : k2 < jj.length := by omega
          refine vw_sc 0 [] ?_
          simp only [bs, ↓vopx, ↓vop, Nat.reduceBEq, thenV, blockV, flat, Nat.reduceLT, V.cells, dLoad, vpart, Sg.frzL, Sg.frz1, hl, l13, l19, h_k2, wocs, ↓goc, ↓woc, ↓vopm0, Tryd.ag3, Tryd.sz3, Tryd.sz4, Tryd.un26, Tryd.un49, hz, hM, hitC_len]
          repeat ((with_reducible refine And.intro ?_ ?_); · first | (with_reducible assumption) | omega)
          refine hK29 _ _ ?_
          refine vw_sc 0 [] ?_
          simp only [bs, ↓vopx, ↓vop, Nat.reduceBEq, thenV, flat, Nat.reduceLT, opII, hl, l13, l19, h_k2, wocs, ↓goc, ↓woc, ↓vopm0]
          repeat ((with_reducible refine And.intro ?_ ?_); · exact ⟨by omega, by omega⟩)
          refine ⟨jj.length - (k2 + 1), by omega, k2 + 1, rfl, by omega, ?_⟩
          try simp only [ev_hit, ev_miss, Nat.reduceBEq, length_putv, hl, l13, l19, h_k2, if_true, if_false, Nat.reduceEqDiff, Nat.reduceLT, true_and, and_true]
          repeat ((with_reducible refine And.intro ?_ ?_); · trivial)
          exact ⟨by rw [take_z hz, ← List.append_assoc, ← hitC_put hz0.1 hz0.2], hN, fun n hn => by rw [if_neg (by omega)]; exact hSm n hn⟩
        · clear hA hB A B
          refine vw_exit ?_
          simp only [thenV, blockV, if_true]
          refine hK25 _ _ ?_
          refine vw_seq_k fun K30 hK30 => ?_
          refine vw_seq_k fun K31 hK31 => ?_
          refine vw_sc 0 [] ?_
          simp only [bs, ↓vopx, ↓vop, thenV, flat, wocs, ↓goc, ↓woc, ↓vopm0]
          refine hK31 _ _ ?_
          refine vw_block ?_
          refine vw_loop (fun mm e' s' => ∃ k3 : Nat, mm = q.labels.length - k3 ∧ k3 ≤ q.labels.length ∧ e'.length = 152 ∧ ev e' (.tmp 19) = .loc (s.next + 1 + 1 + 1 + 1) 0 q.labels.length ∧ ev e' (.tmp 22) = I k3 ∧ True ∧ s'.m (s.next + 1 + 1 + 1 + 1) = some (.arr 1 4 (hitC q.labels.length (ii ++ jj))) ∧ s'.next = s.next + 1 + 1 + 1 + 1 + 1 ∧ ∀ n, n < s.next → s'.m n = s.m n) (⟨0, rfl, Nat.zero_le _, ?_⟩) ?_
          · try simp only [ev_hit, ev_miss, Nat.reduceBEq, length_putv, hl, l19, Nat.reduceLT, true_and]
            repeat ((with_reducible refine And.intro ?_ ?_); · trivial)
            exact ⟨by rw [hM, List.take_of_length_le (by omega)], hN, hSm⟩
          rintro mm e s1 ⟨k3, rfl, hle_k3, hl, m19, h_k3, hst, ⟨hM, hN, hSm⟩⟩
          refine vw_seq_k fun K32 hK32 => ?_
          refine vw_seq_k fun K33 hK33 => ?_
          refine vw_sc 0 [] ?_
          simp only [bs, ↓vopx, ↓vop, Nat.reduceBEq, thenV, Nat.reduceLT, opII, hl, m19, h_k3, wocs, ↓goc, ↓woc, ↓vopm0, Tryd.underlying49]
          refine hK33 _ _ ?_
          refine vw_cond_k fun A B hA hB => ?_
          simp only [condV, ev_hit, length_putv, Nat.reduceLT, decide_eq_true_eq, decide_eq_false_iff_not, hl]
          refine ⟨fun hc144 => hA ?_, fun hc144 => hB ?_⟩
          · clear hA hB A B
            refine vw_skip ?_
            refine hK32 _ _ ?_
            refine vw_seq_k fun K34 hK34 => ?_
            refine vw_block ?_
            refine vw_seq_k fun K35 hK35 => ?_
            have hkl : k3 < q.labels.length := by omega
            have hg3 := hitC_get hkl (hS.on k3 hkl)
            refine vw_sc 0 [] ?_
            simp only [bs, ↓vopx, ↓vop, Nat.reduceBEq, thenV, Nat.reduceLT, dLoad, vpart, hl, m19, h_k3, wocs, ↓goc, ↓woc, ↓vopm0, Tryd.ag4, Tryd.sz4, Tryd.un49, hM, hg3]
            repeat ((with_reducible refine And.intro ?_ ?_); · (with_reducible assumption))
            refine hK35 _ _ ?_
            refine vw_cond_k fun A B hA hB => ?_
            simp only [condV, ev_hit, length_putv, Nat.reduceLT, true_implies, reduceCtorEq, false_implies, true_and, hl]
            refine hB ?_
            clear hA hB A B
            refine vw_skip ?_
            refine hK34 _ _ ?_
            refine vw_sc 0 [] ?_
            simp only [bs, ↓vopx, ↓vop, Nat.reduceBEq, thenV, flat, Nat.reduceLT, opII, hl, m19, h_k3, wocs, ↓goc, ↓woc, ↓vopm0]
            repeat ((with_reducible refine And.intro ?_ ?_); · exact ⟨by omega, by omega⟩)
            refine ⟨q.labels.length - (k3 + 1), by omega, k3 + 1, rfl, by omega, ?_⟩
            try simp only [ev_hit, ev_miss, Nat.reduceBEq, length_putv, hl, m19, h_k3, if_true, if_false, Nat.reduceEqDiff, Nat.reduceLT, true_and, and_true]
            repeat ((with_reducible refine And.intro ?_ ?_); · trivial)
            exact hSm
          · clear hA hB A B
            refine vw_exit ?_
            simp only [thenV, blockV, if_true]
            refine hK30 _ _ ?_
            refine vw_seq_k fun K36 hK36 => ?_
            refine vw_sc 0 [] ?_
            simp only [bs, ↓vopx, ↓vop, thenV, flat, wocs, ↓goc, ↓woc, ↓vopm0]
            refine hK36 _ _ ?_
            refine vw_ret ?_
            refine hQ _ _ _ (.inr rfl) (done_tmp ?_ fun n b hn h => (hSm n hn).trans h)
            try simp only [ev_hit, length_putv, hl, Nat.reduceLT]

end Go.Proofs

open Go Go.V
namespace Go.Proofs

theorem rangeI_app {n m : Nat} : rangeI (n + m) = rangeI n ++ legT m n := by
  apply List.ext_getElem?
  intro k
  by_cases hk : k < n
  · rw [rangeI_get (by omega), List.getElem?_append_left (by rw [rangeI_length]; exact hk), rangeI_get hk]
  · rw [List.getElem?_append_right (by rw [rangeI_length]; omega), rangeI_length]
    by_cases hk2 : k < n + m
    · rw [rangeI_get hk2, legT_get (by omega)]; congr 1; omega
    · rw [List.getElem?_eq_none (by rw [rangeI_length]; omega), List.getElem?_eq_none (by rw [legT_length]; omega)]
theorem rangeI_leg (n : Nat) : rangeI n = legT n 0 := by
  have := rangeI_app (n := 0) (m := n)
  rw [Nat.zero_add] at this
  rw [this]; rfl
theorem push_nothing {a b : Ob} (ha : IsOb a) (hb : IsOb b) (hl : a.labels.length + b.labels.length ≤ 40) :
    pushR ⟨[], []⟩ a b [] [] = (besideS a b, legT a.labels.length 0, legT b.labels.length a.labels.length, 0) := by
  have hal := ha.le
  unfold pushR
  rw [if_neg (by rw [largeS_of (b := ⟨[], []⟩) (by simp), largeS_of ha.le, largeS_two, decide_eq_false (by omega)]; simp), if_pos ⟨nil_arr ha, nil_arr hb⟩]
  have hp : puPl a b [] [] = rangeI (a.labels.length + b.labels.length) := places_range _
  have ho := beside_ob ha hb hl
  have hol : (besideS a b).labels.length = a.labels.length + b.labels.length := by simp [besideS]
  rw [hp, rangeI_app, List.take_left' (by rw [rangeI_length]), List.drop_left' (by rw [rangeI_length]), ← rangeI_app, ← hol, glued_range ho, rangeI_leg]
theorem sum_ok {a b : Ob} (ha : IsOb a) (hb : IsOb b) (hl : a.labels.length + b.labels.length ≤ 40) : sumS a b = (besideS a b, legT a.labels.length 0, legT b.labels.length a.labels.length, 0) := by
  unfold sumS
  rw [if_neg (by rw [largeS_two, decide_eq_false (by omega)]; simp), if_pos ⟨by rw [checkS_zero.2 ha]; rfl, by rw [checkS_zero.2 hb]; rfl⟩]

section
variable {a b : Ob} {f : List Int}
theorem over_rep (h : arrS a b f = true) : joinsL (rangeI (b.labels.length + a.labels.length)) f (gMv b (idS a.labels.length)) f.length = rangeI b.labels.length ++ f := by
  have ha := (arrS_iff.1 h).1
  have hm := (arrS_iff.1 h).2.2.1
  have hfl := allY_length hm
  obtain ⟨r1, r2, r3⟩ := push_rep h (id_arr ha)
  obtain ⟨hok, hRl⟩ := joins_ok _ f (gMv b (idS a.labels.length)) r1 r2 f.length (Nat.le_refl _) (by omega)
  have hgv : ∀ (i : Nat) (z : Int), (gMv b (idS a.labels.length))[i]? = some z → z = i + b.labels.length := fun i z hz => by
    obtain ⟨y, hy, rfl⟩ := mv_get hz
    have hi := (List.getElem?_eq_some_iff.1 hy).1
    rw [idS_len ha.le] at hi
    rw [idS_get ha.le hi] at hy
    cases hy; rfl
  have hinv := joins_inv _ f (gMv b (idS a.labels.length)) r1 r2 (fun j => if j < b.labels.length then j else (f.getD (j - b.labels.length) 0).toNat) f.length (Nat.le_refl _) (by omega) (fun i y z _ hy hz => by
    have hyb := map_all hm y (List.mem_of_getElem? hy)
    rw [hgv i z hz]
    show (if y.toNat < b.labels.length then y.toNat else _) = (if ((i : Int) + b.labels.length).toNat < b.labels.length then _ else (f.getD (((i : Int) + b.labels.length).toNat - b.labels.length) 0).toNat)
    rw [if_pos (by omega), if_neg (by omega), show ((i : Int) + b.labels.length).toNat - b.labels.length = i by omega, getD_of hy])
  have heq := joins_eq _ f (gMv b (idS a.labels.length)) r1 r2 f.length (Nat.le_refl _) (by omega)
  have hroot : ∀ j, j < b.labels.length → (joinsL (rangeI (b.labels.length + a.labels.length)) f (gMv b (idS a.labels.length)) f.length)[j]? = some (j : Int) := fun j hj => by
    obtain ⟨r, hr⟩ : ∃ r, (joinsL (rangeI (b.labels.length + a.labels.length)) f (gMv b (idS a.labels.length)) f.length)[j]? = some r := ⟨_, List.getElem?_eq_getElem (by omega)⟩
    have h1 := hok j r hr
    have h2 := hinv j r hr
    rw [if_pos (by omega), if_pos hj] at h2
    rw [hr]; congr 1; omega
  apply List.ext_getElem?
  intro j
  by_cases hj : j < b.labels.length
  · rw [hroot j hj, List.getElem?_append_left (by rw [rangeI_length]; exact hj), rangeI_get hj]
  · rw [List.getElem?_append_right (by rw [rangeI_length]; omega), rangeI_length]
    by_cases hj2 : j < b.labels.length + a.labels.length
    · obtain ⟨y, hy⟩ : ∃ y, f[j - b.labels.length]? = some y := ⟨_, List.getElem?_eq_getElem (by omega)⟩
      have hyb := map_all hm y (List.mem_of_getElem? hy)
      have hz : (gMv b (idS a.labels.length))[j - b.labels.length]? = some (((j - b.labels.length : Nat) : Int) + b.labels.length) := by
        rw [List.getElem?_map, idS_get ha.le (by omega)]; rfl
      have := heq _ y _ (by omega) hy hz
      rw [show (((j - b.labels.length : Nat) : Int) + b.labels.length).toNat = j by omega, hroot _ (by omega)] at this
      rw [← this, hy]; congr 1; omega
    · rw [List.getElem?_eq_none (by omega), List.getElem?_eq_none (by omega)]
theorem over_fst (h : arrS a b f = true) : placesL (rangeI b.labels.length ++ f) = rangeI b.labels.length ++ f ∧ fstL (rangeI b.labels.length ++ f) (b.labels.length + a.labels.length) = List.range b.labels.length := by
  have ha := (arrS_iff.1 h).1
  have hm := (arrS_iff.1 h).2.2.1
  have hfl := allY_length hm
  have hok : RepOK (rangeI b.labels.length ++ f) := by
    obtain ⟨r1, r2, r3⟩ := push_rep h (id_arr ha)
    have := (joins_ok _ f (gMv b (idS a.labels.length)) r1 r2 f.length (Nat.le_refl _) (by omega)).1
    rwa [over_rep h] at this
  have hlow : ∀ j, j < b.labels.length → (rangeI b.labels.length ++ f)[j]? = some (j : Int) := fun j hj => by rw [List.getElem?_append_left (by rw [rangeI_length]; exact hj), rangeI_get hj]
  have hlen : (rangeI b.labels.length ++ f).length = b.labels.length + a.labels.length := by rw [List.length_append, rangeI_length, hfl]
  have hf0 : ∀ j, j ≤ b.labels.length → fstL (placesL (rangeI b.labels.length ++ f)) j = List.range j := by
    intro j
    induction j with
    | zero => intro _; rfl
    | succ j ih =>
      intro hj
      rw [fst_step, getD_of (pl_root hok (hlow j (by omega))), if_pos rfl, ih (by omega), List.range_succ]
  have hlowL : ∀ j, j < b.labels.length → (placesL (rangeI b.labels.length ++ f))[j]? = some (j : Int) := fun j hj => by
    rw [pl_root hok (hlow j hj), hf0 j (by omega), List.length_range]
  have hpl : placesL (rangeI b.labels.length ++ f) = rangeI b.labels.length ++ f := by
    apply List.ext_getElem?
    intro j
    by_cases hj : j < b.labels.length
    · rw [hlowL j hj, hlow j hj]
    · by_cases hj2 : j < b.labels.length + a.labels.length
      · obtain ⟨y, hy⟩ : ∃ y, (rangeI b.labels.length ++ f)[j]? = some y := ⟨_, List.getElem?_eq_getElem (by omega)⟩
        have hyf : f[j - b.labels.length]? = some y := by rw [List.getElem?_append_right (by rw [rangeI_length]; omega), rangeI_length] at hy; exact hy
        have hyb := map_all hm y (List.mem_of_getElem? hyf)
        rw [pl_rep hok hy, hlowL _ (by omega), hy]; congr 1; omega
      · rw [List.getElem?_eq_none (by rw [placesL_len]; omega), List.getElem?_eq_none (by omega)]
  refine ⟨hpl, ?_⟩
  rw [hpl] at hf0
  have : ∀ k, k ≤ a.labels.length → fstL (rangeI b.labels.length ++ f) (b.labels.length + k) = List.range b.labels.length := by
    intro k
    induction k with
    | zero => intro _; exact hf0 _ (Nat.le_refl _)
    | succ k ih =>
      intro hk
      obtain ⟨y, hy⟩ : ∃ y, f[k]? = some y := ⟨_, List.getElem?_eq_getElem (by omega)⟩
      have hyb := map_all hm y (List.mem_of_getElem? hy)
      have hyR : (rangeI b.labels.length ++ f)[b.labels.length + k]? = some y := by
        rw [List.getElem?_append_right (by rw [rangeI_length]; omega), rangeI_length, show b.labels.length + k - b.labels.length = k by omega]; exact hy
      rw [← Nat.add_assoc, fst_step, getD_of hyR, ih (by omega), List.length_range, if_neg (by omega)]
  exact this _ (Nat.le_refl _)
theorem over_all (h : arrS a b f = true) (hl : a.labels.length + b.labels.length ≤ 40) : pushR a b a f (idS a.labels.length) = (b, idS b.labels.length, f, 0) := by
  have ha := (arrS_iff.1 h).1
  have hb := (arrS_iff.1 h).2.1
  have hm := (arrS_iff.1 h).2.2.1
  have hfl := allY_length hm
  unfold pushR
  rw [if_neg (by rw [largeS_of ha.le, largeS_of hb.le, largeS_two, decide_eq_false (by omega)]; simp), if_pos ⟨h, id_arr ha⟩]
  obtain ⟨o1, o2⟩ := over_fst h
  have hp : puPl b a f (idS a.labels.length) = rangeI b.labels.length ++ f := by
    unfold puPl
    rw [over_rep h, o1]
  rw [hp, List.take_left' (by rw [rangeI_length]), List.drop_left' (by rw [rangeI_length])]
  have hlen : (rangeI b.labels.length ++ f).length = b.labels.length + a.labels.length := by rw [List.length_append, rangeI_length, hfl]
  have hN : glN (rangeI b.labels.length ++ f) = b.labels.length := by unfold glN; rw [hlen, o2, List.length_range]
  have hat1 : ∀ z : Int, 0 ≤ z → z < b.labels.length → atN (rangeI b.labels.length ++ f) z = z.toNat := fun z h0 h1 => by
    unfold atN
    rw [List.getD_eq_getElem?_getD, List.getElem?_append_left (by rw [rangeI_length]; omega), rangeI_get (by omega)]; rfl
  have hlabs : glLab (besideS b a) (rangeI b.labels.length ++ f) (rangeI b.labels.length ++ f).length = b.labels := by
    unfold glLab
    rw [hlen, o2]
    apply List.ext_getElem
    · simp
    · intro i h2 h3
      simp only [List.getElem_map, List.getElem_range, besideS]
      rw [List.getD_eq_getElem?_getD, List.getElem?_append_left h3, List.getElem?_eq_getElem h3]; rfl
  have hmx : glMx (besideS b a) (rangeI b.labels.length ++ f) = mxOf b.pairs := by
    funext x y
    rw [Bool.eq_iff_iff, mxOf_iff]
    simp only [glMx, List.any_eq_true, Bool.and_eq_true, beq_iff_eq, besideS]
    constructor
    · rintro ⟨p, hp, h1, h2⟩
      rcases List.mem_append.1 hp with hp | hp
      · have := inB_iff.1 ((List.all_eq_true.1 hb.inb) p hp)
        rw [hat1 _ (by omega) (by omega)] at h1 h2
        exact ⟨p, hp, h1, h2⟩
      · obtain ⟨r, hr, rfl⟩ := List.mem_map.1 hp
        have hin := inB_iff.1 ((List.all_eq_true.1 ha.inb) r hr)
        obtain ⟨u, v, k1, k2, k3⟩ := arr_pair h (x := r.1.toNat) (y := r.2.toNat) (mxOf_iff.2 ⟨r, hr, rfl, rfl⟩)
        have hat2 : ∀ (z : Int) (w : Nat), 0 ≤ z → z < a.labels.length → f[z.toNat]? = some (w : Int) → atN (rangeI b.labels.length ++ f) (z + b.labels.length) = w := fun z w h0 h1 hw => by
          unfold atN
          rw [List.getD_eq_getElem?_getD, List.getElem?_append_right (by rw [rangeI_length]; omega), rangeI_length, show (z + (b.labels.length : Int)).toNat - b.labels.length = z.toNat by omega, hw]; rfl
        simp only [shP] at h1 h2
        rw [hat2 _ u (by omega) (by omega) k1] at h1
        rw [hat2 _ v (by omega) (by omega) k2] at h2
        subst h1 h2
        exact mxOf_iff.1 k3
    · rintro ⟨p, hp, h1, h2⟩
      have := inB_iff.1 ((List.all_eq_true.1 hb.inb) p hp)
      exact ⟨p, List.mem_append_left _ hp, by rw [hat1 _ (by omega) (by omega)]; exact h1, by rw [hat1 _ (by omega) (by omega)]; exact h2⟩
  have hq : gluedS (besideS b a) (rangeI b.labels.length ++ f) = b := by
    unfold gluedS
    rw [hlabs, hN, hmx, cloK_trans hb.trans, pairsOf_mxOf hb.inb hb.ris]
  rw [hq, rangeI_leg, idS_leg _ hb.le]
end
end Go.Proofs

open Go Go.V
namespace Go.Proofs
theorem idN_nat {n : Nat} (h : n ≤ 40) : idN (n : Int) = n := by unfold idN; omega

set_option maxRecDepth 20000 in
theorem behind_ (f g : List Int) (hf : f.length < 1000000) (hg : g.length < 1000000) : PCall Tryd.prog 38 [.t (tInts f), .t (tInts g)] (.t (tInts (thenS f g).1)) := by
  refine pcall_of_body Tryd.func38 rfl fun s Q hQ => ?_
  obtain ⟨e, he, hl, h0, h1⟩ : ∃ e : Env, ([.t (tInts f), .t (tInts g)] ++ List.replicate (Tryd.f38.ntmps - ([.t (tInts f), .t (tInts g)] : List V).length) .junk) = e ∧ e.length = 14 ∧ ev e (.tmp 0) = .t (tInts f) ∧ ev e (.tmp 1) = .t (tInts g) := ⟨_, rfl, rfl, rfl, rfl⟩
  rw [he]
  clear he
  refine vw_seq_k fun K1 hK1 => ?_
  refine vw_sc 0 [] ?_
  simp only [bs, ↓vopx, ↓vop, thenV, flat, wocs, ↓goc, ↓woc, ↓vopm0]
  refine hK1 _ _ ?_
  refine vw_seq_k fun K2 hK2 => ?_
  refine vw_sc 0 [.pur (.tup [.t (tInts (thenS f g).1), Bo (thenS f g).2])] ?_
  simp only [bs, ↓vopx, ↓vop, Nat.reduceBEq, thenV, Nat.reduceLT, hl, h0, h1, wocs, ↓goc, ↓woc, ↓vopm0, ↓callC, calleeV]
  repeat ((with_reducible refine And.intro ?_ ?_); · exact ⟨Tryd.is32, then_ f g (by omega) (by omega)⟩)
  refine hK2 _ _ ?_
  refine vw_seq_k fun K3 hK3 => ?_
  refine vw_sc 0 [] ?_
  simp only [bs, ↓vopx, ↓vop, Nat.reduceBEq, thenV, Nat.reduceLT, hl, wocs, ↓goc, ↓woc, ↓vopm0]
  refine hK3 _ _ ?_
  refine vw_ret ?_
  refine hQ _ _ _ (.inr rfl) (done_tmp ?_ fun n b hn h => h)
  try simp only [ev_hit, length_putv, hl, Nat.reduceLT]

set_option maxRecDepth 20000 in
theorem inverseId_ (n : Nat) (hn : n ≤ 40) : PCall Tryd.prog 37 [.t (tInts (idS n))] (.t (tInts (idS n))) := by
  refine pcall_of_body Tryd.func37 rfl fun s Q hQ => ?_
  obtain ⟨e, he, hl, h0⟩ : ∃ e : Env, ([.t (tInts (idS n))] ++ List.replicate (Tryd.f37.ntmps - ([.t (tInts (idS n))] : List V).length) .junk) = e ∧ e.length = 36 ∧ ev e (.tmp 0) = .t (tInts (idS n)) := ⟨_, rfl, rfl, rfl⟩
  rw [he]
  clear he
  have hil := idS_len hn
  have hnN := idN_nat hn
  refine vw_seq_k fun K1 hK1 => ?_
  refine vw_sc 0 [] ?_
  simp only [bs, ↓vopx, ↓vop, thenV, flat, wocs, ↓goc, ↓woc, ↓vopm0]
  refine hK1 _ _ ?_
  refine vw_seq_k fun K2 hK2 => ?_
  refine vw_sc 0 [] ?_
  simp only [bs, ↓vopx, ↓vop, Nat.reduceBEq, thenV, Nat.reduceLT, hl, h0, wocs, ↓goc, ↓woc, ↓vopm0, Tryd.sl26, Tryd.un26, len_tInts, hil, idC_zero]
  repeat ((with_reducible refine And.intro ?_ ?_); · omega)
  refine hK2 _ _ ?_
  refine vw_seq_k fun K3 hK3 => ?_
  refine vw_seq_k fun K4 hK4 => ?_
  refine vw_sc 0 [] ?_
  simp only [bs, ↓vopx, ↓vop, thenV, flat, wocs, ↓goc, ↓woc, ↓vopm0]
  refine hK4 _ _ ?_
  refine vw_block ?_
  refine vw_loop (fun mm e' s' => ∃ i : Nat, mm = n - i ∧ i ≤ n ∧ e'.length = 36 ∧ ev e' (.tmp 0) = .t (tInts (idS n)) ∧ ev e' (.tmp 3) = .loc s.next 0 n ∧ ev e' (.tmp 4) = I i ∧ True ∧ s'.m s.next = some (.arr 1 3 (idC n i)) ∧ ∀ j, j < s.next → s'.m j = s.m j) (⟨0, rfl, Nat.zero_le _, ?_⟩) ?_
  · try simp only [ev_hit, ev_miss, Nat.reduceBEq, length_putv, hl, h0, Nat.reduceLT, true_and]
    repeat ((with_reducible refine And.intro ?_ ?_); · trivial)
    exact ⟨add_self _ _, fun j hj => by rw [m_add, if_neg (by omega)]⟩
  rintro mm e s1 ⟨i, rfl, hle_i, hl, k0, k3, h_i, hst, ⟨hM, hSm⟩⟩
  refine vw_seq_k fun K5 hK5 => ?_
  refine vw_seq_k fun K6 hK6 => ?_
  refine vw_sc 0 [] ?_
  simp only [bs, ↓vopx, ↓vop, Nat.reduceBEq, thenV, Nat.reduceLT, opII, hl, k0, h_i, wocs, ↓goc, ↓woc, ↓vopm0, len_tInts, hil]
  refine hK6 _ _ ?_
  refine vw_cond_k fun A B hA hB => ?_
  simp only [condV, ev_hit, length_putv, Nat.reduceLT, decide_eq_true_eq, decide_eq_false_iff_not, hl]
  refine ⟨fun hc11 => hA ?_, fun hc11 => hB ?_⟩
  · clear hA hB A B
    refine vw_skip ?_
    refine hK5 _ _ ?_
    refine vw_seq_k fun K7 hK7 => ?_
    refine vw_block ?_
    refine vw_seq_k fun K8 hK8 => ?_
    have hin : i < n := by omega
    have hz := idS_get hn hin
    rcases (show True from trivial) with _
    · have hq0 : decide ((i : Int) ≥ 0) = true := decide_eq_true (by omega)
      have hq1 : decide ((i : Int) < (n : Int)) = true := decide_eq_true (by omega)
      refine vw_sc 0 [] ?_
      simp only [bs, ↓vopx, ↓vop, Nat.reduceBEq, thenV, flat, Nat.reduceLT, dLoad, vpart, opII, gtmp, hl, k0, k3, h_i, wocs, ↓goc, ↓woc, ↓vopm0, ↓pick_tt, Tryd.ag3, Tryd.sz3, Tryd.un26, hil, hz, hq1]
      repeat ((with_reducible refine And.intro ?_ ?_); · (with_reducible assumption))
      refine hK8 _ _ ?_
      refine vw_cond_k fun A B hA hB => ?_
      simp only [condV, ev_hit, length_putv, Nat.reduceLT, true_implies, reduceCtorEq, false_implies, and_true, hl]
      refine hA ?_
      clear hA hB A B
      refine vw_sc 0 [] ?_
      simp only [bs, ↓vopx, ↓vop, Nat.reduceBEq, thenV, blockV, Nat.reduceLT, V.cells, dLoad, vpart, Sg.frzL, Sg.frz1, hl, k0, k3, h_i, wocs, ↓goc, ↓woc, ↓vopm0, Tryd.ag3, Tryd.sz3, Tryd.un26, hil, hz, hM, idC_length]
      repeat ((with_reducible refine And.intro ?_ ?_); · first | (with_reducible assumption) | omega)
      refine hK7 _ _ ?_
      refine vw_sc 0 [] ?_
      simp only [bs, ↓vopx, ↓vop, Nat.reduceBEq, thenV, flat, Nat.reduceLT, opII, hl, k0, k3, h_i, wocs, ↓goc, ↓woc, ↓vopm0]
      repeat ((with_reducible refine And.intro ?_ ?_); · exact ⟨by omega, by omega⟩)
      refine ⟨n - (i + 1), by omega, i + 1, rfl, by omega, ?_⟩
      try simp only [ev_hit, ev_miss, Nat.reduceBEq, length_putv, hl, k0, k3, h_i, if_true, if_false, Nat.reduceEqDiff, Nat.reduceLT, true_and, and_true]
      repeat ((with_reducible refine And.intro ?_ ?_); · trivial)
      exact ⟨by rw [show (T.v (Value.int .i64 (i : Int))) = TI i from rfl, idC_set hin], fun j hj => by rw [if_neg (by omega)]; exact hSm j hj⟩
  · clear hA hB A B
    refine vw_exit ?_
    simp only [thenV, blockV, if_true]
    refine hK3 _ _ ?_
    refine vw_seq_k fun K9 hK9 => ?_
    refine vw_sc 0 [] ?_
    simp only [bs, ↓vopx, ↓vop, Nat.reduceBEq, thenV, Nat.reduceLT, hl, k3, wocs, ↓goc, ↓woc, ↓vopm0]
    refine hK9 _ _ ?_
    refine vw_ret ?_
    have hiN : i = n := by omega
    subst hiN
    have hcs : idC i i = (idS i).map TI := by have := idC_full (i : Int); rwa [hnN] at this
    rw [hcs] at hM
    refine hQ _ _ _ (.inr rfl) (done_loc (n := s.next) (len := i) ?_ hM ?_ (Nat.le_refl _) fun m b hl h => (hSm m hl).trans h)
    · simp only [ev_hit, length_putv, hl, Nat.reduceLT]
    · rw [List.length_map, hil, Nat.mul_one]

end Go.Proofs

open Go Go.V
namespace Go.Proofs
theorem inv_id {b : Ob} (hb : IsOb b) (hb2 : b.pairs.length < 1000000) : PCall Tryd.prog 36 [vObj b, vObj b, .t (tInts (idS b.labels.length)), .t (tInts (idS b.labels.length))] (Bo true) := by
  have hl := hb.le
  have hi := idS_len hl
  have := inverse_ b b (idS b.labels.length) (idS b.labels.length) (by omega) (by omega) (by omega) (by omega) (by omega) (by omega)
  have h1 : invS b b (idS b.labels.length) (idS b.labels.length) = true := by
    unfold invS
    rw [id_arr hb, hi, then_id_left hl hi]
    simp
  rw [h1] at this
  exact this
theorem push_nil (a b : Ob) (haO : IsOb a) (hbO : IsOb b) (hl : a.labels.length + b.labels.length ≤ 40) (ha : a.labels.length ≤ 50) (ha2 : a.pairs.length ≤ 200) (hb : b.labels.length ≤ 50) (hb2 : b.pairs.length ≤ 200) :
    PCall Tryd.prog 22 [.agg [.t (.v (.slice none 0 0)), .t (.v (.slice none 0 0))], vObj a, vObj b, .t (.v (.slice none 0 0)), .t (.v (.slice none 0 0))] (.tup [vObj (besideS a b), .t (tInts (legT a.labels.length 0)), .t (tInts (legT b.labels.length a.labels.length)), I 0]) := by
  have h := push_ ⟨[], []⟩ a b [] [] (by simp) (by simp) (by omega) (by omega) (by omega) (by omega) (by simp) (by simp)
  rw [pushS_eq, push_nothing haO hbO hl] at h
  exact PCall.args (args' := [vObj ⟨[], []⟩, vObj a, vObj b, .t (tInts []), .t (tInts [])]) ⟨argW_nils (by decide) (by decide), ArgW.refl _, ArgW.refl _, argW_nil (by decide), argW_nil (by decide), trivial⟩ h
set_option maxRecDepth 20000 in
set_option maxHeartbeats 8000000 in
theorem lawSame_ (a b : Ob) (f : List Int) (ha1 : a.labels.length ≤ 9223372036854775807) (ha2 : a.pairs.length ≤ 9223372036854775807) (hb1 : b.labels.length ≤ 9223372036854775807) (hb2 : b.pairs.length ≤ 9223372036854775807) : PCall Tryd.prog 8 [vObj a, vObj b, .t (tInts f)] (Bo true) := by
  refine pcall_of_body Tryd.func8 rfl fun s Q hQ => ?_
  obtain ⟨e, he, hl, h0, h1, h2⟩ : ∃ e : Env, ([vObj a, vObj b, .t (tInts f)] ++ List.replicate (Tryd.f8.ntmps - ([vObj a, vObj b, .t (tInts f)] : List V).length) .junk) = e ∧ e.length = 131 ∧ ev e (.tmp 0) = vObj a ∧ ev e (.tmp 1) = vObj b ∧ ev e (.tmp 2) = .t (tInts f) := ⟨_, rfl, rfl, rfl, rfl, rfl⟩
  rw [he]
  clear he
  refine vw_seq_k fun K1 hK1 => ?_
  refine vw_sc 0 [] ?_
  simp only [bs, ↓vopx, ↓vop, Nat.reduceBEq, thenV, flat, V.cells, h0, h1, wocs, ↓goc, ↓woc, ↓vopm0]
  refine hK1 _ _ ?_
  refine vw_seq_k fun K2 hK2 => ?_
  refine vw_seq_k fun K3 hK3 => ?_
  refine vw_sc 0 [.pur (Bo true)] ?_
  simp only [bs, ↓vopx, ↓vop, thenV, Nat.reduceLT, hl, wocs, ↓goc, ↓woc, ↓vopm0, ↓callC, calleeV]
  repeat ((with_reducible refine And.intro ?_ ?_); · exact ⟨Tryd.is20, known7_⟩)
  refine hK3 _ _ ?_
  refine vw_cond_k fun A B hA hB => ?_
  simp only [condV, ev_hit, length_putv, Nat.reduceLT, true_implies, reduceCtorEq, false_implies, true_and, hl]
  refine hB ?_
  clear hA hB A B
  refine vw_skip ?_
  refine hK2 _ _ ?_
  refine vw_seq_k fun K4 hK4 => ?_
  refine vw_seq_k fun K5 hK5 => ?_
  rcases (show fewS a = false ∨ (fewS a = true ∧ (fewS b = false ∨ (fewS b = true ∧ ((f.length : Int) > 60 ∨ (¬ (f.length : Int) > 60 ∧ ((a.labels.length : Int) + b.labels.length > 40 ∨ (¬ (a.labels.length : Int) + b.labels.length > 40 ∧ (arrS a b f = false ∨ arrS a b f = true)))))))) by cases (fewS a) <;> cases (fewS b) <;> cases (arrS a b f) <;> simp <;> omega) with hfa | ⟨hfa, hfb | ⟨hfb, hlf | ⟨hlf, hs | ⟨hs, hr | hr⟩⟩⟩⟩
  · refine vw_sc 0 [.pur (Bo (fewS a))] ?_
    simp only [bs, Nat.reduceAdd, ↓vopx, ↓vop, Nat.reduceBEq, thenV, flat, Nat.reduceLT, dLoad, vpart, gtmp, hl, wocs, ↓goc, ↓woc, ↓vopm0, ↓callC, ↓pick_tf, calleeV, Tryd.ag25, Tryd.sz25, nns, hfa]
    repeat ((with_reducible refine And.intro ?_ ?_); · exact ⟨Tryd.is21, by simpa only [hfa] using few7_ a (by omega) (by omega)⟩)
    refine hK5 _ _ ?_
    refine vw_cond_k fun A B hA hB => ?_
    simp only [condV, ev_hit, length_putv, Nat.reduceLT, true_implies, reduceCtorEq, false_implies, and_true, hl]
    refine hA ?_
    clear hA hB A B
    refine vw_seq_k fun K6 hK6 => ?_
    refine vw_sc 0 [] ?_
    simp only [bs, ↓vopx, ↓vop, thenV, flat, wocs, ↓goc, ↓woc, ↓vopm0]
    refine hK6 _ _ ?_
    refine vw_ret ?_
    refine hQ _ _ _ (.inr rfl) (done_tmp ?_ fun n b hn h => by simp [Sg.add, show n ≠ s.next by omega, show n ≠ s.next + 1 by omega, h])
    try simp only [ev_hit, length_putv, hl, Nat.reduceLT]
  · have ba := few_le hfa
    refine vw_sc 0 [.pur (Bo (fewS a)), .pur (Bo (fewS b))] ?_
    simp only [bs, Nat.reduceAdd, ↓vopx, ↓vop, Nat.reduceBEq, thenV, flat, Nat.reduceLT, dLoad, vpart, gtmp, hl, wocs, ↓goc, ↓woc, ↓vopm0, ↓callC, ↓pick_ff, ↓pick_tf, calleeV, Tryd.ag25, Tryd.sz25, nns, hfa, hfb]
    repeat ((with_reducible refine And.intro ?_ ?_); · first | exact ⟨Tryd.is21, by simpa only [hfa] using few7_ a (by omega) (by omega)⟩ | exact ⟨Tryd.is21, by simpa only [hfb] using few7_ b (by omega) (by omega)⟩)
    refine hK5 _ _ ?_
    refine vw_cond_k fun A B hA hB => ?_
    simp only [condV, ev_hit, length_putv, Nat.reduceLT, true_implies, reduceCtorEq, false_implies, and_true, hl]
    refine hA ?_
    clear hA hB A B
    refine vw_seq_k fun K7 hK7 => ?_
    refine vw_sc 0 [] ?_
    simp only [bs, ↓vopx, ↓vop, thenV, flat, wocs, ↓goc, ↓woc, ↓vopm0]
    refine hK7 _ _ ?_
    refine vw_ret ?_
    refine hQ _ _ _ (.inr rfl) (done_tmp ?_ fun n b hn h => by simp [Sg.add, show n ≠ s.next by omega, show n ≠ s.next + 1 by omega, h])
    try simp only [ev_hit, length_putv, hl, Nat.reduceLT]
  · have ba := few_le hfa
    have bb := few_le hfb
    refine vw_sc 0 [.pur (Bo (fewS a)), .pur (Bo (fewS b))] ?_
    simp only [bs, Nat.reduceAdd, ↓vopx, ↓vop, Nat.reduceBEq, thenV, flat, Nat.reduceLT, dLoad, vpart, opII, gtmp, hl, h2, wocs, ↓goc, ↓woc, ↓vopm0, ↓callC, ↓pick_ff, ↓pick_tf, calleeV, Tryd.ag25, Tryd.sz25, nns, len_tInts, Tryd.underlying26, hfa, hfb, hlf]
    repeat ((with_reducible refine And.intro ?_ ?_); · first | exact ⟨Tryd.is21, by simpa only [hfa] using few7_ a (by omega) (by omega)⟩ | exact ⟨Tryd.is21, by simpa only [hfb] using few7_ b (by omega) (by omega)⟩)
    refine hK5 _ _ ?_
    refine vw_cond_k fun A B hA hB => ?_
    simp only [condV, ev_hit, length_putv, Nat.reduceLT, true_implies, reduceCtorEq, false_implies, and_true, hl]
    refine hA ?_
    clear hA hB A B
    refine vw_seq_k fun K8 hK8 => ?_
    refine vw_sc 0 [] ?_
    simp only [bs, ↓vopx, ↓vop, thenV, flat, wocs, ↓goc, ↓woc, ↓vopm0]
    refine hK8 _ _ ?_
    refine vw_ret ?_
    refine hQ _ _ _ (.inr rfl) (done_tmp ?_ fun n b hn h => by simp [Sg.add, show n ≠ s.next by omega, show n ≠ s.next + 1 by omega, h])
    try simp only [ev_hit, length_putv, hl, Nat.reduceLT]
  · have ba := few_le hfa
    have bb := few_le hfb
    refine vw_sc 0 [.pur (Bo (fewS a)), .pur (Bo (fewS b))] ?_
    simp only [bs, Nat.reduceAdd, ↓vopx, ↓vop, Nat.reduceBEq, thenV, flat, Nat.reduceLT, dLoad, vpart, opII, gtmp, hl, h2, wocs, ↓goc, ↓woc, ↓vopm0, ↓callC, ↓pick_ff, ↓pick_tf, calleeV, Tryd.ag22, Tryd.ag25, Tryd.fd25_0, Tryd.sz22, Tryd.sz25, Tryd.un22, nns, len_tInts, len_tStrs, Tryd.underlying26, hfa, hfb, hlf, hs]
    repeat ((with_reducible refine And.intro ?_ ?_); · first | exact ⟨by omega, by omega⟩ | exact ⟨Tryd.is21, by simpa only [hfa] using few7_ a (by omega) (by omega)⟩ | exact ⟨Tryd.is21, by simpa only [hfb] using few7_ b (by omega) (by omega)⟩)
    refine hK5 _ _ ?_
    refine vw_cond_k fun A B hA hB => ?_
    simp only [condV, ev_hit, length_putv, Nat.reduceLT, true_implies, reduceCtorEq, false_implies, and_true, hl]
    refine hA ?_
    clear hA hB A B
    refine vw_seq_k fun K9 hK9 => ?_
    refine vw_sc 0 [] ?_
    simp only [bs, ↓vopx, ↓vop, thenV, flat, wocs, ↓goc, ↓woc, ↓vopm0]
    refine hK9 _ _ ?_
    refine vw_ret ?_
    refine hQ _ _ _ (.inr rfl) (done_tmp ?_ fun n b hn h => by simp [Sg.add, show n ≠ s.next by omega, show n ≠ s.next + 1 by omega, h])
    try simp only [ev_hit, length_putv, hl, Nat.reduceLT]
  · have ba := few_le hfa
    have bb := few_le hfb
    refine vw_sc 0 [.pur (Bo (fewS a)), .pur (Bo (fewS b)), .pur (Bo (arrS a b f))] ?_
    simp only [bs, Nat.reduceAdd, ↓vopx, ↓vop, Nat.reduceBEq, thenV, flat, Nat.reduceLT, dLoad, vpart, opII, gtmp, hl, h2, wocs, ↓goc, ↓woc, ↓vopm0, ↓callC, ↓pick_ff, calleeV, Tryd.ag22, Tryd.ag25, Tryd.fd25_0, Tryd.sz22, Tryd.sz25, Tryd.un22, nns, len_tInts, len_tStrs, Tryd.underlying26, hfa, hfb, hlf, hs, hr]
    repeat ((with_reducible refine And.intro ?_ ?_); · first | exact ⟨by omega, by omega⟩ | exact ⟨Tryd.is21, by simpa only [hfa] using few7_ a (by omega) (by omega)⟩ | exact ⟨Tryd.is21, by simpa only [hfb] using few7_ b (by omega) (by omega)⟩ | exact ⟨Tryd.is34, by simpa only [hr] using arrow_ a b f (by omega) (by omega) (by omega) (by omega) (by omega)⟩)
    refine hK5 _ _ ?_
    refine vw_cond_k fun A B hA hB => ?_
    simp only [condV, ev_hit, length_putv, Nat.reduceLT, true_implies, reduceCtorEq, false_implies, and_true, hl]
    refine hA ?_
    clear hA hB A B
    refine vw_seq_k fun K10 hK10 => ?_
    refine vw_sc 0 [] ?_
    simp only [bs, ↓vopx, ↓vop, thenV, flat, wocs, ↓goc, ↓woc, ↓vopm0]
    refine hK10 _ _ ?_
    refine vw_ret ?_
    refine hQ _ _ _ (.inr rfl) (done_tmp ?_ fun n b hn h => by simp [Sg.add, show n ≠ s.next by omega, show n ≠ s.next + 1 by omega, h])
    try simp only [ev_hit, length_putv, hl, Nat.reduceLT]
  · have ba := few_le hfa
    have bb := few_le hfb
    refine vw_sc 0 [.pur (Bo (fewS a)), .pur (Bo (fewS b)), .pur (Bo (arrS a b f))] ?_
    simp only [bs, Nat.reduceAdd, ↓vopx, ↓vop, Nat.reduceBEq, thenV, flat, Nat.reduceLT, dLoad, vpart, opII, gtmp, hl, h2, wocs, ↓goc, ↓woc, ↓vopm0, ↓callC, ↓pick_ff, calleeV, Tryd.ag22, Tryd.ag25, Tryd.fd25_0, Tryd.sz22, Tryd.sz25, Tryd.un22, nns, len_tInts, len_tStrs, Tryd.underlying26, hfa, hfb, hlf, hs, hr]
    repeat ((with_reducible refine And.intro ?_ ?_); · first | exact ⟨by omega, by omega⟩ | exact ⟨Tryd.is21, by simpa only [hfa] using few7_ a (by omega) (by omega)⟩ | exact ⟨Tryd.is21, by simpa only [hfb] using few7_ b (by omega) (by omega)⟩ | exact ⟨Tryd.is34, by simpa only [hr] using arrow_ a b f (by omega) (by omega) (by omega) (by omega) (by omega)⟩)
    refine hK5 _ _ ?_
    refine vw_cond_k fun A B hA hB => ?_
    simp only [condV, ev_hit, length_putv, Nat.reduceLT, true_implies, reduceCtorEq, false_implies, true_and, hl]
    refine hB ?_
    clear hA hB A B
    refine vw_skip ?_
    refine hK4 _ _ ?_
    refine vw_seq_k fun K11 hK11 => ?_
    refine vw_en fun eqa hE => ?_
    have hlqa : eqa.length = 131 := by rw [hE]; simp only [length_putv, hl]
    have qa_2 : ev eqa (.tmp 2) = .t (tInts f) := by rw [hE]; simp only [ev_miss, Nat.reduceBEq, h2]
    have qa_3 : ev eqa (.tmp 3) = .ptr (s.next) 0 := by rw [hE]; simp only [ev_hit, ev_miss, Nat.reduceBEq, hl, Nat.reduceLT]
    have qa_4 : ev eqa (.tmp 4) = .ptr (s.next + 1) 0 := by rw [hE]; simp only [ev_hit, ev_miss, Nat.reduceBEq, length_putv, hl, Nat.reduceLT]
    clear hE
    refine vw_st fun sqa hS => ?_
    have qaB0 : sqa.m (s.next) = some (.box 25 [.t (tStrs a.labels), .t (tPairs a.pairs)]) := by rw [hS]; simp only [m_add, n_add, nns, if_true, if_false, ]
    have qaB1 : sqa.m (s.next + 1) = some (.box 25 [.t (tStrs b.labels), .t (tPairs b.pairs)]) := by rw [hS]; simp only [m_add, n_add, nns, if_true, if_false, ]
    have hnqa : sqa.next = s.next + 1 + 1 := by rw [hS]; simp only [n_add, ]
    have hkqa : ∀ j, j < s.next → sqa.m j = s.m j := fun j hj => by have z0 : ¬ j = s.next := (by omega); have z1 : ¬ j = s.next + 1 := (by omega); rw [hS]; simp only [m_add, n_add, z0, z1, if_false]
    clear hS
    have haO := (arrS_iff.1 hr).1
    have hbO := (arrS_iff.1 hr).2.1
    have ha40 := haO.le
    have hb40 := hbO.le
    have hab : a.labels.length + b.labels.length ≤ 40 := by omega
    have hfl := allY_length (arrS_iff.1 hr).2.2.1
    have hia := idS_len ha40
    have hib := idS_len hb40
    refine vw_chain Tryd.mixed 18 [2, 2, 2, 0, 0, 2, 0, 0, 0, 0, 0, 0, 0, 0, 3, 5, 0, 0] [.pur (.t (tInts (idS (a.labels.length : Int)))), .pur (.tup [vObj b, .t (tInts (idS (b.labels.length : Int))), .t (tInts f), I 0])] [] 0 (by decide +kernel) (by simp [hlqa]) rfl ?_
    simp only [bs, Nat.reduceAdd, ↓vopx, ↓vop, Nat.reduceBEq, thenV, Nat.reduceLT, V.cells, dLoad, vpart, hlqa, qa_2, qa_3, qa_4, qaB0, qaB1, hnqa, wocs, ↓goc, ↓woc, ↓vopm0, calleeV, chn, ↓goq, ↓woq, ↓callQ, List.zip_cons_cons, List.zip_nil_right, Tryd.ag22, Tryd.ag25, Tryd.fd25_0, Tryd.sz22, Tryd.sz25, Tryd.un22, Tryd.zv25, nns, len_tStrs]
    repeat ((with_reducible refine And.intro ?_ ?_); · first | exact ⟨Tryd.is35, identity_ _⟩ | exact ⟨Tryd.is22, by have := push_ a b a f (idS (a.labels.length : Int)) (by omega) (by omega) (by omega) (by omega) (by omega) (by omega) (by omega) (by omega); rw [pushS_eq, over_all hr hab] at this; exact this⟩ | (repeat' first | exact Keep.refl _ | refine Keep.add ?_ ?_ _ | refine Keep.set ?_ ?_ _ | exact Nat.le_refl _ | (simp only [Sg.add, Sg.set, Sg.del]; omega)))
    refine hK11 _ _ ?_
    refine vw_seq_k fun K12 hK12 => ?_
    refine vw_en fun eqb hE => ?_
    have hlqb : eqb.length = 131 := by rw [hE]; simp only [length_putv, hlqa]
    have qb_2 : ev eqb (.tmp 2) = .t (tInts f) := by rw [hE]; simp only [ev_miss, Nat.reduceBEq, qa_2]
    have qb_3 : ev eqb (.tmp 3) = .ptr (s.next) 0 := by rw [hE]; simp only [ev_miss, Nat.reduceBEq, qa_3]
    have qb_4 : ev eqb (.tmp 4) = .ptr (s.next + 1) 0 := by rw [hE]; simp only [ev_miss, Nat.reduceBEq, qa_4]
    have qb_7 : ev eqb (.tmp 7) = .ptr (s.next + 1 + 1) 0 := by rw [hE]; simp only [ev_hit, ev_miss, Nat.reduceBEq, length_putv, hlqa, Nat.reduceLT]
    have qb_8 : ev eqb (.tmp 8) = .t (tInts (idS (b.labels.length : Int))) := by rw [hE]; simp only [ev_hit, ev_miss, Nat.reduceBEq, length_putv, hlqa, Nat.reduceLT]
    have qb_9 : ev eqb (.tmp 9) = .t (tInts f) := by rw [hE]; simp only [ev_hit, ev_miss, Nat.reduceBEq, length_putv, hlqa, Nat.reduceLT]
    have qb_10 : ev eqb (.tmp 10) = I 0 := by rw [hE]; simp only [ev_hit, length_putv, hlqa, Nat.reduceLT]
    clear hE
    refine vw_st fun sqb hS => ?_
    have qbB0 : sqb.m (s.next) = some (.box 25 [.t (tStrs a.labels), .t (tPairs a.pairs)]) := by rw [hS]; simp only [m_set, m_add, nns, if_false, qaB0, hnqa]
    have qbB1 : sqb.m (s.next + 1) = some (.box 25 [.t (tStrs b.labels), .t (tPairs b.pairs)]) := by rw [hS]; simp only [m_set, m_add, nns, if_false, qaB1, hnqa]
    have qbB2 : sqb.m (s.next + 1 + 1) = some (.box 25 [.t (tStrs b.labels), .t (tPairs b.pairs)]) := by rw [hS]; simp only [m_set, m_add, if_true, hnqa]
    have hnqb : sqb.next = s.next + 1 + 1 + 1 := by rw [hS]; simp only [n_add, n_set, hnqa]
    have hkqb : ∀ j, j < s.next → sqb.m j = s.m j := fun j hj => by have z0 : ¬ j = s.next := (by omega); have z1 : ¬ j = s.next + 1 := (by omega); have z2 : ¬ j = s.next + 1 + 1 := (by omega); rw [hS]; simp only [m_set, m_add, hnqa, z2, if_false, hkqa j hj]
    clear hS
    refine vw_sc 0 [.pur (.tup [vObj (besideS a b), .t (tInts (legT a.labels.length 0)), .t (tInts (legT b.labels.length a.labels.length)), I 0])] ?_
    simp only [bs, Nat.reduceAdd, ↓vopx, ↓vop, Nat.reduceBEq, thenV, Nat.reduceLT, V.cells, dLoad, vpart, hlqb, qb_3, qb_4, qbB0, qbB1, hnqb, wocs, ↓goc, ↓woc, ↓vopm0, ↓callC, calleeV, Tryd.ag25, Tryd.sz25, Tryd.zv25]
    repeat ((with_reducible refine And.intro ?_ ?_); · exact ⟨Tryd.is26, by have := sum_ a b (by omega) (by omega) (by omega) (by omega); rw [sum_ok haO hbO hab] at this; exact this⟩)
    refine hK12 _ _ ?_
    refine vw_seq_k fun K13 hK13 => ?_
    refine vw_en fun eqc hE => ?_
    have hlqc : eqc.length = 131 := by rw [hE]; simp only [length_putv, hlqb]
    have qc_2 : ev eqc (.tmp 2) = .t (tInts f) := by rw [hE]; simp only [ev_miss, Nat.reduceBEq, qb_2]
    have qc_3 : ev eqc (.tmp 3) = .ptr (s.next) 0 := by rw [hE]; simp only [ev_miss, Nat.reduceBEq, qb_3]
    have qc_4 : ev eqc (.tmp 4) = .ptr (s.next + 1) 0 := by rw [hE]; simp only [ev_miss, Nat.reduceBEq, qb_4]
    have qc_7 : ev eqc (.tmp 7) = .ptr (s.next + 1 + 1) 0 := by rw [hE]; simp only [ev_miss, Nat.reduceBEq, qb_7]
    have qc_8 : ev eqc (.tmp 8) = .t (tInts (idS (b.labels.length : Int))) := by rw [hE]; simp only [ev_miss, Nat.reduceBEq, qb_8]
    have qc_9 : ev eqc (.tmp 9) = .t (tInts f) := by rw [hE]; simp only [ev_miss, Nat.reduceBEq, qb_9]
    have qc_10 : ev eqc (.tmp 10) = I 0 := by rw [hE]; simp only [ev_miss, Nat.reduceBEq, qb_10]
    have qc_11 : ev eqc (.tmp 11) = .ptr (s.next + 1 + 1 + 1) 0 := by rw [hE]; simp only [ev_hit, ev_miss, Nat.reduceBEq, length_putv, hlqb, Nat.reduceLT]
    have qc_12 : ev eqc (.tmp 12) = .t (tInts (legT a.labels.length 0)) := by rw [hE]; simp only [ev_hit, ev_miss, Nat.reduceBEq, length_putv, hlqb, Nat.reduceLT]
    have qc_13 : ev eqc (.tmp 13) = .t (tInts (legT b.labels.length a.labels.length)) := by rw [hE]; simp only [ev_hit, ev_miss, Nat.reduceBEq, length_putv, hlqb, Nat.reduceLT]
    have qc_14 : ev eqc (.tmp 14) = I 0 := by rw [hE]; simp only [ev_hit, length_putv, hlqb, Nat.reduceLT]
    clear hE
    refine vw_st fun sqc hS => ?_
    have qcB0 : sqc.m (s.next) = some (.box 25 [.t (tStrs a.labels), .t (tPairs a.pairs)]) := by rw [hS]; simp only [m_set, m_add, nns, if_false, qbB0, hnqb]
    have qcB1 : sqc.m (s.next + 1) = some (.box 25 [.t (tStrs b.labels), .t (tPairs b.pairs)]) := by rw [hS]; simp only [m_set, m_add, nns, if_false, qbB1, hnqb]
    have qcB2 : sqc.m (s.next + 1 + 1) = some (.box 25 [.t (tStrs b.labels), .t (tPairs b.pairs)]) := by rw [hS]; simp only [m_set, m_add, nns, if_false, qbB2, hnqb]
    have qcB3 : sqc.m (s.next + 1 + 1 + 1) = some (.box 25 [.t (tStrs (besideS a b).labels), .t (tPairs (besideS a b).pairs)]) := by rw [hS]; simp only [m_set, m_add, if_true, hnqb]
    have hnqc : sqc.next = s.next + 1 + 1 + 1 + 1 := by rw [hS]; simp only [n_add, n_set, hnqb]
    have hkqc : ∀ j, j < s.next → sqc.m j = s.m j := fun j hj => by have z0 : ¬ j = s.next := (by omega); have z1 : ¬ j = s.next + 1 := (by omega); have z2 : ¬ j = s.next + 1 + 1 := (by omega); have z3 : ¬ j = s.next + 1 + 1 + 1 := (by omega); rw [hS]; simp only [m_set, m_add, hnqb, z3, if_false, hkqb j hj]
    clear hS
    refine vw_cut 14 rfl ?_
    refine vl_chunk 0 0 1 13 [] [] (by decide +kernel) (by decide) fun ops' KC hgs hKC => ?_
    simp only [bs, vparts, gfill, ↓vopx, wocs, ↓goc, ↓woc, ↓vopm0, Tryd.st25]
    refine hKC _ _ ?_
    clear hgs hKC KC ops'
    refine vl_env fun e7_0 hE => ?_
    have hl7_0 : e7_0.length = 131 := by rw [hE]; simp only [length_putv, hlqc]
    have x1_2 : ev e7_0 (.tmp 2) = .t (tInts f) := by rw [hE]; simp only [ev_miss, Nat.reduceBEq, qc_2]
    have x1_3 : ev e7_0 (.tmp 3) = .ptr (s.next) 0 := by rw [hE]; simp only [ev_miss, Nat.reduceBEq, qc_3]
    have x1_4 : ev e7_0 (.tmp 4) = .ptr (s.next + 1) 0 := by rw [hE]; simp only [ev_miss, Nat.reduceBEq, qc_4]
    have x1_7 : ev e7_0 (.tmp 7) = .ptr (s.next + 1 + 1) 0 := by rw [hE]; simp only [ev_miss, Nat.reduceBEq, qc_7]
    have x1_8 : ev e7_0 (.tmp 8) = .t (tInts (idS (b.labels.length : Int))) := by rw [hE]; simp only [ev_miss, Nat.reduceBEq, qc_8]
    have x1_9 : ev e7_0 (.tmp 9) = .t (tInts f) := by rw [hE]; simp only [ev_miss, Nat.reduceBEq, qc_9]
    have x1_10 : ev e7_0 (.tmp 10) = I 0 := by rw [hE]; simp only [ev_miss, Nat.reduceBEq, qc_10]
    have x1_11 : ev e7_0 (.tmp 11) = .ptr (s.next + 1 + 1 + 1) 0 := by rw [hE]; simp only [ev_miss, Nat.reduceBEq, qc_11]
    have x1_12 : ev e7_0 (.tmp 12) = .t (tInts (legT a.labels.length 0)) := by rw [hE]; simp only [ev_miss, Nat.reduceBEq, qc_12]
    have x1_13 : ev e7_0 (.tmp 13) = .t (tInts (legT b.labels.length a.labels.length)) := by rw [hE]; simp only [ev_miss, Nat.reduceBEq, qc_13]
    have x1_14 : ev e7_0 (.tmp 14) = I 0 := by rw [hE]; simp only [ev_miss, Nat.reduceBEq, qc_14]
    have x1_74 : ev e7_0 (.tmp 74) = .agg [.t (.v (.slice none 0 0)), .t (.v (.slice none 0 0))] := by rw [hE]; simp only [ev_hit, hlqc, Nat.reduceLT]
    clear hE
    refine vl_chunk 0 1 13 0 [] [.pur (.tup [vObj (besideS a b), .t (tInts (legT a.labels.length 0)), .t (tInts (legT b.labels.length a.labels.length)), I 0])] (by decide +kernel) (by decide) fun ops' KC hgs hKC => ?_
    simp only [bs, Nat.reduceAdd, ↓vopx, ↓vop, Nat.reduceBEq, flat, Nat.reduceLT, V.cells, dLoad, vpart, hl7_0, x1_3, x1_4, x1_74, qcB0, qcB1, hnqc, wocs, ↓goc, ↓woc, ↓vopm0, ↓callC, calleeV, Tryd.ag25, Tryd.sz25, Tryd.zv25]
    repeat ((with_reducible refine And.intro ?_ ?_); · exact ⟨Tryd.is22, push_nil a b haO hbO hab (by omega) (by omega) (by omega) (by omega)⟩)
    refine hKC _ _ ?_
    clear hgs hKC KC ops'
    refine vl_nil ?_
    try simp only [thenV]
    refine hK13 _ _ ?_
    refine vw_seq_k fun K14 hK14 => ?_
    refine vw_en fun eqd hE => ?_
    have hlqd : eqd.length = 131 := by rw [hE]; simp only [length_putv, hl7_0]
    have qd_2 : ev eqd (.tmp 2) = .t (tInts f) := by rw [hE]; simp only [ev_miss, Nat.reduceBEq, x1_2]
    have qd_3 : ev eqd (.tmp 3) = .ptr (s.next) 0 := by rw [hE]; simp only [ev_miss, Nat.reduceBEq, x1_3]
    have qd_4 : ev eqd (.tmp 4) = .ptr (s.next + 1) 0 := by rw [hE]; simp only [ev_miss, Nat.reduceBEq, x1_4]
    have qd_7 : ev eqd (.tmp 7) = .ptr (s.next + 1 + 1) 0 := by rw [hE]; simp only [ev_miss, Nat.reduceBEq, x1_7]
    have qd_8 : ev eqd (.tmp 8) = .t (tInts (idS (b.labels.length : Int))) := by rw [hE]; simp only [ev_miss, Nat.reduceBEq, x1_8]
    have qd_9 : ev eqd (.tmp 9) = .t (tInts f) := by rw [hE]; simp only [ev_miss, Nat.reduceBEq, x1_9]
    have qd_10 : ev eqd (.tmp 10) = I 0 := by rw [hE]; simp only [ev_miss, Nat.reduceBEq, x1_10]
    have qd_11 : ev eqd (.tmp 11) = .ptr (s.next + 1 + 1 + 1) 0 := by rw [hE]; simp only [ev_miss, Nat.reduceBEq, x1_11]
    have qd_12 : ev eqd (.tmp 12) = .t (tInts (legT a.labels.length 0)) := by rw [hE]; simp only [ev_miss, Nat.reduceBEq, x1_12]
    have qd_13 : ev eqd (.tmp 13) = .t (tInts (legT b.labels.length a.labels.length)) := by rw [hE]; simp only [ev_miss, Nat.reduceBEq, x1_13]
    have qd_14 : ev eqd (.tmp 14) = I 0 := by rw [hE]; simp only [ev_miss, Nat.reduceBEq, x1_14]
    have qd_15 : ev eqd (.tmp 15) = .ptr (s.next + 1 + 1 + 1 + 1) 0 := by rw [hE]; simp only [ev_hit, ev_miss, Nat.reduceBEq, length_putv, hl7_0, Nat.reduceLT]
    have qd_16 : ev eqd (.tmp 16) = .t (tInts (legT a.labels.length 0)) := by rw [hE]; simp only [ev_hit, ev_miss, Nat.reduceBEq, length_putv, hl7_0, Nat.reduceLT]
    have qd_17 : ev eqd (.tmp 17) = .t (tInts (legT b.labels.length a.labels.length)) := by rw [hE]; simp only [ev_hit, ev_miss, Nat.reduceBEq, length_putv, hl7_0, Nat.reduceLT]
    have qd_18 : ev eqd (.tmp 18) = I 0 := by rw [hE]; simp only [ev_hit, length_putv, hl7_0, Nat.reduceLT]
    clear hE
    refine vw_st fun sqd hS => ?_
    have qdB0 : sqd.m (s.next) = some (.box 25 [.t (tStrs a.labels), .t (tPairs a.pairs)]) := by rw [hS]; simp only [m_set, m_add, nns, if_false, qcB0, hnqc]
    have qdB1 : sqd.m (s.next + 1) = some (.box 25 [.t (tStrs b.labels), .t (tPairs b.pairs)]) := by rw [hS]; simp only [m_set, m_add, nns, if_false, qcB1, hnqc]
    have qdB2 : sqd.m (s.next + 1 + 1) = some (.box 25 [.t (tStrs b.labels), .t (tPairs b.pairs)]) := by rw [hS]; simp only [m_set, m_add, nns, if_false, qcB2, hnqc]
    have qdB3 : sqd.m (s.next + 1 + 1 + 1) = some (.box 25 [.t (tStrs (besideS a b).labels), .t (tPairs (besideS a b).pairs)]) := by rw [hS]; simp only [m_set, m_add, nns, if_false, qcB3, hnqc]
    have qdB4 : sqd.m (s.next + 1 + 1 + 1 + 1) = some (.box 25 [.t (tStrs (besideS a b).labels), .t (tPairs (besideS a b).pairs)]) := by rw [hS]; simp only [m_set, m_add, if_true, hnqc]
    have hnqd : sqd.next = s.next + 1 + 1 + 1 + 1 + 1 := by rw [hS]; simp only [n_add, n_set, hnqc]
    have hkqd : ∀ j, j < s.next → sqd.m j = s.m j := fun j hj => by have z0 : ¬ j = s.next := (by omega); have z1 : ¬ j = s.next + 1 := (by omega); have z2 : ¬ j = s.next + 1 + 1 := (by omega); have z3 : ¬ j = s.next + 1 + 1 + 1 := (by omega); have z4 : ¬ j = s.next + 1 + 1 + 1 + 1 := (by omega); rw [hS]; simp only [m_set, m_add, hnqc, z4, if_false, hkqc j hj]
    clear hS
    have hbl : (besideS a b).labels.length = a.labels.length + b.labels.length := by simp [besideS]
    have hbp : (besideS a b).pairs.length = a.pairs.length + b.pairs.length := by simp [besideS]
    have hl1 := legT_length a.labels.length 0
    have hl2 := legT_length b.labels.length a.labels.length
    refine vw_phase Tryd.mixed ?_
    refine phase_chain 0 15 16 [0, 0, 0, 0, 0, 0, 0, 0, 0, 0, 0, 1, 1, 0, 0] [.pur (Bo true)] [] 0 (by decide +kernel) (by simp [hlqd]) rfl ?_
    simp only [bs, Nat.reduceAdd, ↓vopx, ↓vop, Nat.reduceBEq, flat, Nat.reduceLT, dLoad, vpart, opII, gtmp, hlqd, qd_10, qd_11, qd_14, qd_15, qd_18, qdB3, qdB4, Nat.reduceSub, wocs, ↓goc, ↓woc, ↓vopm0, ↓vopm1, ↓pick_tt, calleeV, chn, ↓goq, ↓woq, ↓callQ, List.zip_cons_cons, List.zip_nil_right, Tryd.ag25, Tryd.sz25, beq_self_eq_true]
    repeat ((with_reducible refine And.intro ?_ ?_); · exact ⟨Tryd.is24, same_self (besideS a b) (by omega) (by omega)⟩)
    refine phase_env fun e8_0 hE => ?_
    have hl8_0 : e8_0.length = 131 := by rw [hE]; simp only [length_putv, hlqd]
    have r1_2 : ev e8_0 (.tmp 2) = .t (tInts f) := by rw [hE]; simp only [ev_miss, Nat.reduceBEq, qd_2]
    have r1_4 : ev e8_0 (.tmp 4) = .ptr (s.next + 1) 0 := by rw [hE]; simp only [ev_miss, Nat.reduceBEq, qd_4]
    have r1_7 : ev e8_0 (.tmp 7) = .ptr (s.next + 1 + 1) 0 := by rw [hE]; simp only [ev_miss, Nat.reduceBEq, qd_7]
    have r1_8 : ev e8_0 (.tmp 8) = .t (tInts (idS (b.labels.length : Int))) := by rw [hE]; simp only [ev_miss, Nat.reduceBEq, qd_8]
    have r1_9 : ev e8_0 (.tmp 9) = .t (tInts f) := by rw [hE]; simp only [ev_miss, Nat.reduceBEq, qd_9]
    have r1_11 : ev e8_0 (.tmp 11) = .ptr (s.next + 1 + 1 + 1) 0 := by rw [hE]; simp only [ev_miss, Nat.reduceBEq, qd_11]
    have r1_12 : ev e8_0 (.tmp 12) = .t (tInts (legT a.labels.length 0)) := by rw [hE]; simp only [ev_miss, Nat.reduceBEq, qd_12]
    have r1_13 : ev e8_0 (.tmp 13) = .t (tInts (legT b.labels.length a.labels.length)) := by rw [hE]; simp only [ev_miss, Nat.reduceBEq, qd_13]
    have r1_15 : ev e8_0 (.tmp 15) = .ptr (s.next + 1 + 1 + 1 + 1) 0 := by rw [hE]; simp only [ev_miss, Nat.reduceBEq, qd_15]
    have r1_16 : ev e8_0 (.tmp 16) = .t (tInts (legT a.labels.length 0)) := by rw [hE]; simp only [ev_miss, Nat.reduceBEq, qd_16]
    have r1_17 : ev e8_0 (.tmp 17) = .t (tInts (legT b.labels.length a.labels.length)) := by rw [hE]; simp only [ev_miss, Nat.reduceBEq, qd_17]
    have r1_g : ev e8_0 (.tmp 97) = Bo true := by rw [hE]; simp only [ev_hit, length_putv, hlqd, Nat.reduceLT]
    clear hE
    refine phase_chain 16 25 26 [0, 0, 0, 0, 0, 0, 0, 0, 0] [.pur (Bo true), .pur (Bo true)] [] 0 (by decide +kernel) (by simp [hl8_0]) rfl ?_
    simp only [bs, ↓vopx, ↓vop, Nat.reduceBEq, flat, Nat.reduceLT, gtmp, hl8_0, r1_12, r1_13, r1_16, r1_17, r1_g, Nat.reduceSub, wocs, ↓goc, ↓woc, ↓vopm0, ↓pick_tt, calleeV, chn, ↓goq, ↓woq, ↓callQ, List.zip_cons_cons, List.zip_nil_right]
    repeat ((with_reducible refine And.intro ?_ ?_); · first | exact ⟨Tryd.is33, by have := arrowSame_ (legT a.labels.length 0) (legT a.labels.length 0) (by omega) (by omega); rw [beq_self_eq_true] at this; exact this⟩ | exact ⟨Tryd.is33, by have := arrowSame_ (legT b.labels.length a.labels.length) (legT b.labels.length a.labels.length) (by omega) (by omega); rw [beq_self_eq_true] at this; exact this⟩)
    refine phase_env fun e8_16 hE => ?_
    have hl8_16 : e8_16.length = 131 := by rw [hE]; simp only [length_putv, hl8_0]
    have r2_2 : ev e8_16 (.tmp 2) = .t (tInts f) := by rw [hE]; simp only [ev_miss, Nat.reduceBEq, r1_2]
    have r2_4 : ev e8_16 (.tmp 4) = .ptr (s.next + 1) 0 := by rw [hE]; simp only [ev_miss, Nat.reduceBEq, r1_4]
    have r2_7 : ev e8_16 (.tmp 7) = .ptr (s.next + 1 + 1) 0 := by rw [hE]; simp only [ev_miss, Nat.reduceBEq, r1_7]
    have r2_8 : ev e8_16 (.tmp 8) = .t (tInts (idS (b.labels.length : Int))) := by rw [hE]; simp only [ev_miss, Nat.reduceBEq, r1_8]
    have r2_9 : ev e8_16 (.tmp 9) = .t (tInts f) := by rw [hE]; simp only [ev_miss, Nat.reduceBEq, r1_9]
    have r2_11 : ev e8_16 (.tmp 11) = .ptr (s.next + 1 + 1 + 1) 0 := by rw [hE]; simp only [ev_miss, Nat.reduceBEq, r1_11]
    have r2_12 : ev e8_16 (.tmp 12) = .t (tInts (legT a.labels.length 0)) := by rw [hE]; simp only [ev_miss, Nat.reduceBEq, r1_12]
    have r2_13 : ev e8_16 (.tmp 13) = .t (tInts (legT b.labels.length a.labels.length)) := by rw [hE]; simp only [ev_miss, Nat.reduceBEq, r1_13]
    have r2_15 : ev e8_16 (.tmp 15) = .ptr (s.next + 1 + 1 + 1 + 1) 0 := by rw [hE]; simp only [ev_miss, Nat.reduceBEq, r1_15]
    have r2_16 : ev e8_16 (.tmp 16) = .t (tInts (legT a.labels.length 0)) := by rw [hE]; simp only [ev_miss, Nat.reduceBEq, r1_16]
    have r2_17 : ev e8_16 (.tmp 17) = .t (tInts (legT b.labels.length a.labels.length)) := by rw [hE]; simp only [ev_miss, Nat.reduceBEq, r1_17]
    have r2_g : ev e8_16 (.tmp 107) = Bo true := by rw [hE]; simp only [ev_hit, length_putv, hl8_0, Nat.reduceLT]
    clear hE
    refine phase_chain 26 34 35 [0, 1, 0, 0, 1, 0, 0, 0] [] [] 0 (by decide +kernel) (by simp [hl8_16]) rfl ?_
    simp only [bs, ↓vopx, ↓vop, Nat.reduceBEq, flat, Nat.reduceLT, dLoad, vpart, opII, gtmp, hl8_16, r2_4, r2_7, r2_g, Nat.reduceSub, wocs, ↓goc, ↓woc, ↓vopm0, ↓vopm1, ↓pick_tt, chn, ↓goq, ↓woq, List.zip_cons_cons, List.zip_nil_right, Tryd.ag22, Tryd.fd25_0, Tryd.sz22, Tryd.un22, nns, len_tStrs, beq_self_eq_true, qdB1, qdB2]
    refine phase_env fun e8_26 hE => ?_
    have hl8_26 : e8_26.length = 131 := by rw [hE]; simp only [length_putv, hl8_16]
    have r3_2 : ev e8_26 (.tmp 2) = .t (tInts f) := by rw [hE]; simp only [ev_miss, Nat.reduceBEq, r2_2]
    have r3_4 : ev e8_26 (.tmp 4) = .ptr (s.next + 1) 0 := by rw [hE]; simp only [ev_miss, Nat.reduceBEq, r2_4]
    have r3_7 : ev e8_26 (.tmp 7) = .ptr (s.next + 1 + 1) 0 := by rw [hE]; simp only [ev_miss, Nat.reduceBEq, r2_7]
    have r3_8 : ev e8_26 (.tmp 8) = .t (tInts (idS (b.labels.length : Int))) := by rw [hE]; simp only [ev_miss, Nat.reduceBEq, r2_8]
    have r3_9 : ev e8_26 (.tmp 9) = .t (tInts f) := by rw [hE]; simp only [ev_miss, Nat.reduceBEq, r2_9]
    have r3_11 : ev e8_26 (.tmp 11) = .ptr (s.next + 1 + 1 + 1) 0 := by rw [hE]; simp only [ev_miss, Nat.reduceBEq, r2_11]
    have r3_12 : ev e8_26 (.tmp 12) = .t (tInts (legT a.labels.length 0)) := by rw [hE]; simp only [ev_miss, Nat.reduceBEq, r2_12]
    have r3_13 : ev e8_26 (.tmp 13) = .t (tInts (legT b.labels.length a.labels.length)) := by rw [hE]; simp only [ev_miss, Nat.reduceBEq, r2_13]
    have r3_15 : ev e8_26 (.tmp 15) = .ptr (s.next + 1 + 1 + 1 + 1) 0 := by rw [hE]; simp only [ev_miss, Nat.reduceBEq, r2_15]
    have r3_16 : ev e8_26 (.tmp 16) = .t (tInts (legT a.labels.length 0)) := by rw [hE]; simp only [ev_miss, Nat.reduceBEq, r2_16]
    have r3_17 : ev e8_26 (.tmp 17) = .t (tInts (legT b.labels.length a.labels.length)) := by rw [hE]; simp only [ev_miss, Nat.reduceBEq, r2_17]
    have r3_g : ev e8_26 (.tmp 116) = Bo true := by rw [hE]; simp only [ev_hit, length_putv, hl8_16, Nat.reduceLT]
    clear hE
    refine phase_chain 35 42 43 [1, 1, 0, 0, 0, 0, 0] [.pur (.t (tInts (idS (b.labels.length : Int)))), .pur (Bo true)] [] 0 (by decide +kernel) (by simp [hl8_26]) rfl ?_
    simp only [bs, Nat.reduceAdd, ↓vopx, ↓vop, Nat.reduceBEq, flat, Nat.reduceLT, dLoad, vpart, gtmp, hl8_26, r3_4, r3_7, r3_8, r3_g, Nat.reduceSub, wocs, ↓goc, ↓woc, ↓vopm0, ↓vopm1, ↓pick_tt, calleeV, chn, ↓goq, ↓woq, ↓callQ, List.zip_cons_cons, List.zip_nil_right, Tryd.ag25, Tryd.sz25, qdB1, qdB2]
    repeat ((with_reducible refine And.intro ?_ ?_); · first | exact ⟨Tryd.is37, inverseId_ b.labels.length hb40⟩ | exact ⟨Tryd.is36, inv_id hbO (by omega)⟩)
    refine phase_env fun e8_35 hE => ?_
    have hl8_35 : e8_35.length = 131 := by rw [hE]; simp only [length_putv, hl8_26]
    have r4_2 : ev e8_35 (.tmp 2) = .t (tInts f) := by rw [hE]; simp only [ev_miss, Nat.reduceBEq, r3_2]
    have r4_4 : ev e8_35 (.tmp 4) = .ptr (s.next + 1) 0 := by rw [hE]; simp only [ev_miss, Nat.reduceBEq, r3_4]
    have r4_7 : ev e8_35 (.tmp 7) = .ptr (s.next + 1 + 1) 0 := by rw [hE]; simp only [ev_miss, Nat.reduceBEq, r3_7]
    have r4_8 : ev e8_35 (.tmp 8) = .t (tInts (idS (b.labels.length : Int))) := by rw [hE]; simp only [ev_miss, Nat.reduceBEq, r3_8]
    have r4_9 : ev e8_35 (.tmp 9) = .t (tInts f) := by rw [hE]; simp only [ev_miss, Nat.reduceBEq, r3_9]
    have r4_11 : ev e8_35 (.tmp 11) = .ptr (s.next + 1 + 1 + 1) 0 := by rw [hE]; simp only [ev_miss, Nat.reduceBEq, r3_11]
    have r4_12 : ev e8_35 (.tmp 12) = .t (tInts (legT a.labels.length 0)) := by rw [hE]; simp only [ev_miss, Nat.reduceBEq, r3_12]
    have r4_13 : ev e8_35 (.tmp 13) = .t (tInts (legT b.labels.length a.labels.length)) := by rw [hE]; simp only [ev_miss, Nat.reduceBEq, r3_13]
    have r4_15 : ev e8_35 (.tmp 15) = .ptr (s.next + 1 + 1 + 1 + 1) 0 := by rw [hE]; simp only [ev_miss, Nat.reduceBEq, r3_15]
    have r4_16 : ev e8_35 (.tmp 16) = .t (tInts (legT a.labels.length 0)) := by rw [hE]; simp only [ev_miss, Nat.reduceBEq, r3_16]
    have r4_17 : ev e8_35 (.tmp 17) = .t (tInts (legT b.labels.length a.labels.length)) := by rw [hE]; simp only [ev_miss, Nat.reduceBEq, r3_17]
    have r4_g : ev e8_35 (.tmp 124) = Bo true := by rw [hE]; simp only [ev_hit, length_putv, hl8_26, Nat.reduceLT]
    clear hE
    refine phase_chain 43 49 50 [0, 0, 0, 0, 0, 0] [.pur (.t (tInts f)), .pur (Bo true)] [] 0 (by decide +kernel) (by simp [hl8_35]) rfl ?_
    simp only [bs, ↓vopx, ↓vop, Nat.reduceBEq, flat, Nat.reduceLT, gtmp, hl8_35, r4_2, r4_8, r4_9, r4_g, Nat.reduceSub, wocs, ↓goc, ↓woc, ↓vopm0, ↓pick_tt, calleeV, chn, ↓goq, ↓woq, ↓callQ, List.zip_cons_cons, List.zip_nil_right]
    repeat ((with_reducible refine And.intro ?_ ?_); · first | exact ⟨Tryd.is38, by have := behind_ f (idS (b.labels.length : Int)) (by omega) (by omega); rw [then_id_right hb40 (map_all (arrS_iff.1 hr).2.2.1)] at this; exact this⟩ | exact ⟨Tryd.is33, by have := arrowSame_ f f (by omega) (by omega); rw [beq_self_eq_true] at this; exact this⟩)
    refine phase_end ?_
    try simp only [thenV]
    refine hK14 _ _ ?_
    refine vw_ret ?_
    refine hQ _ _ _ (.inr rfl) (done_tmp ?_ fun n b hn h => (hkqd n hn).trans h)
    try simp only [ev_hit, length_putv, hl8_35, Nat.reduceLT]

end Go.Proofs

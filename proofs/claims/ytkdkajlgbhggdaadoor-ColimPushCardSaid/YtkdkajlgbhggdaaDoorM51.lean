/- Lemmas on the way to the statement of this claim; no conditions. -/
import Derived.Test.YtkdkajlgbhggdaaDoorM50
open Go Go.V
namespace Go.Proofs
theorem pc_val {a b c : Ob} {f g : List Int} {q : Ob} {i j : List Int} (hR : pushR a b c f g = (q, i, j, 0)) (hl : a.labels.length + b.labels.length + c.labels.length ≤ 40) :
    ∃ k, colS (pcD a b c f g) = (q, [i, j, k], 0) ∧ q.labels.length ≤ 40 ∧ q.pairs.length ≤ 1600 ∧ i.length ≤ 40 ∧ j.length ≤ 40 := by
  obtain ⟨e1, e2, e3, e4, hf, hg, _⟩ := push_pl hR
  obtain ⟨c1, c2, c3⟩ := push_col hf hg hl
  have ei : (puPl b c f g).take b.labels.length = i := by rw [← e1, ← e2]; exact List.take_left
  have ej : (puPl b c f g).drop b.labels.length = j := by rw [← e1, ← e2]; exact List.drop_left
  have hD := pc_ok hf hg
  have h40 : bsB (pcD a b c f g).nodes (pcD a b c f g).nodes.length ≤ 40 := by have := (pc_B (a := a) (b := b) (c := c)).2.2.2; show bsB [b, c, a] 3 ≤ 40; omega
  rcases col_cases (pcD a b c f g) with ⟨e, he, h⟩ | ⟨h, _, _⟩
  · exfalso
    have h1 : bigD (pcD a b c f g) = false := by
      have hs := sumT_bs (pcD a b c f g).nodes _ (Nat.le_refl _)
      simp only [bigD, largeS, hs]
      simp; exact h40
    unfold colS at h
    rw [if_neg (by rw [h1]; simp), if_neg (by rw [dia_iff.2 hD]; simp)] at h
    have := congrArg (fun r => r.2.2) h
    simp at this
    exact he this.symm
  · have hcl : (colLegs (pcD a b c f g)).length = 3 := colLegs_len
    rw [ei] at c2
    rw [ej] at c3
    obtain ⟨k, hk⟩ : ∃ k, colLegs (pcD a b c f g) = [i, j, k] := by
      match hL : colLegs (pcD a b c f g), hcl with
      | [x, y, z], _ => rw [hL] at c2 c3; simp at c2 c3; subst c2; subst c3; exact ⟨z, rfl⟩
    obtain ⟨q1, q2⟩ := bs_prs40 hD h40
    rw [c1, ← e4] at q1 q2
    have hb := (arrS_iff.1 hf).2.1.le
    have hc := (arrS_iff.1 hg).2.1.le
    exact ⟨k, by rw [h, hk]; rw [show colOb (pcD a b c f g) = q from by rw [c1, ← e4]], q1, q2, by omega, by omega⟩
theorem pc_call {a b c : Ob} {f g : List Int} {q : Ob} {i j k : List Int} (h : colS (pcD a b c f g) = (q, [i, j, k], 0)) (ha1 : a.labels.length ≤ 50) (ha2 : a.pairs.length ≤ 200) (hb1 : b.labels.length ≤ 50) (hb2 : b.pairs.length ≤ 200) (hc1 : c.labels.length ≤ 50) (hc2 : c.pairs.length ≤ 200) (hf : f.length ≤ 60) (hg : g.length ≤ 60) :
    PCall Tryd.prog 50 [vDia (pcD a b c f g)] (.tup [vObj q, .t (tMat [i, j, k]), I 0]) := by
  have mem : ∀ o ∈ (pcD a b c f g).nodes, o.labels.length ≤ 50 ∧ o.pairs.length ≤ 200 := fun o ho => by
    simp only [List.mem_cons, List.not_mem_nil, or_false] at ho
    rcases ho with rfl | rfl | rfl <;> exact ⟨by assumption, by assumption⟩
  have := colOf_ (pcD a b c f g) ⟨by simp, by simp, fun o ho => by have := mem o ho; omega, fun o ho => by have := mem o ho; omega, fun x hx => by
    simp only [List.mem_cons, List.not_mem_nil, or_false] at hx
    rcases hx with rfl | rfl <;> simp only <;> omega⟩ (fun o ho => by have := mem o ho; omega)
  rw [h] at this
  exact this
theorem s6d {α : Type} (a b c d e f x y z : α) : setAll [a, b, c, d, e, f] 0 [x, y, z] = [x, y, z, d, e, f] := rfl
theorem s6e {α : Type} (a b c d e f x y z : α) : setAll [a, b, c, d, e, f] 3 [x, y, z] = [a, b, c, x, y, z] := rfl
set_option maxRecDepth 20000 in
set_option maxHeartbeats 8000000 in
theorem lawColPush_ (a b c : Ob) (f g : List Int) (ha1 : a.labels.length ≤ 9223372036854775807) (ha2 : a.pairs.length ≤ 9223372036854775807) (hb1 : b.labels.length ≤ 9223372036854775807) (hb2 : b.pairs.length ≤ 9223372036854775807) (hc1 : c.labels.length ≤ 9223372036854775807) (hc2 : c.pairs.length ≤ 9223372036854775807) : PCall Tryd.prog 13 [vObj a, vObj b, vObj c, .t (tInts f), .t (tInts g)] (Bo true) := by
  refine pcall_of_body Tryd.func13 rfl fun s Q hQ => ?_
  obtain ⟨e, he, hl, h0, h1, h2, h3, h4⟩ : ∃ e : Env, ([vObj a, vObj b, vObj c, .t (tInts f), .t (tInts g)] ++ List.replicate (Tryd.f13.ntmps - ([vObj a, vObj b, vObj c, .t (tInts f), .t (tInts g)] : List V).length) .junk) = e ∧ e.length = 111 ∧ ev e (.tmp 0) = vObj a ∧ ev e (.tmp 1) = vObj b ∧ ev e (.tmp 2) = vObj c ∧ ev e (.tmp 3) = .t (tInts f) ∧ ev e (.tmp 4) = .t (tInts g) := ⟨_, rfl, rfl, rfl, rfl, rfl, rfl, rfl⟩
  rw [he]
  clear he
  refine vsk fun K1 hK1 => ?_
  refine vw_sc 0 [] ?_
  simp only [bs, ↓vopx, ↓vop, Nat.reduceBEq, thenV, flat, V.cells, h0, h1, h2, wocs, ↓goc, ↓woc, ↓vopm0]
  refine hK1 _ _ ?_
  refine vsk fun K2 hK2 => ?_
  refine vsk fun K3 hK3 => ?_
  refine vw_sc 0 [.pur (Bo true)] ?_
  simp only [bs, ↓vopx, ↓vop, thenV, Nat.reduceLT, hl, wocs, ↓goc, ↓woc, ↓vopm0, ↓callC, calleeV]
  repeat ((with_reducible refine And.intro ?_ ?_); · exact ⟨Tryd.is45, known9_⟩)
  refine hK3 _ _ ?_
  refine vck fun A B hA hB => ?_
  simp only [condV, ev_hit, lpv, Nat.reduceLT, true_implies, reduceCtorEq, false_implies, true_and, hl]
  refine hB ?_
  clear hA hB A B
  refine vw_skip ?_
  refine hK2 _ _ ?_
  refine vsk fun K4 hK4 => ?_
  refine vsk fun K5 hK5 => ?_
  rcases (show fewS a = false ∨ (fewS a = true ∧ (fewS b = false ∨ (fewS b = true ∧ (fewS c = false ∨ (fewS c = true ∧ ((f.length : Int) > 60 ∨ (¬ (f.length : Int) > 60 ∧ ((g.length : Int) > 60 ∨ ¬ (g.length : Int) > 60)))))))) by cases (fewS a) <;> cases (fewS b) <;> cases (fewS c) <;> simp <;> omega) with hfa | ⟨hfa, hfb | ⟨hfb, hfc | ⟨hfc, hlf | ⟨hlf, hlg | hlg⟩⟩⟩⟩
  · refine vw_sc 0 [.pur (Bo (fewS a))] ?_
    simp only [bs, Nat.reduceAdd, ↓vopx, ↓vop, Nat.reduceBEq, thenV, flat, Nat.reduceLT, dLoad, vpart, gtmp, hl, wocs, ↓goc, ↓woc, ↓vopm0, ↓callC, ↓pick_tf, calleeV, Tryd.ag25, Tryd.sz25, nns, hfa]
    repeat ((with_reducible refine And.intro ?_ ?_); · exact ⟨Tryd.is47, by simpa only [hfa] using few9_ a (by omega) (by omega)⟩)
    refine hK5 _ _ ?_
    refine vck fun A B hA hB => ?_
    simp only [condV, ev_hit, lpv, Nat.reduceLT, true_implies, reduceCtorEq, false_implies, and_true, hl]
    refine hA ?_
    clear hA hB A B
    refine vsk fun K6 hK6 => ?_
    refine vw_sc 0 [] ?_
    simp only [bs, ↓vopx, ↓vop, thenV, flat, wocs, ↓goc, ↓woc, ↓vopm0]
    refine hK6 _ _ ?_
    refine vw_ret ?_
    refine hQ _ _ _ (.inr rfl) (done_tmp ?_ fun n b hn h => by simp [Sg.add, show n ≠ s.next by omega, show n ≠ s.next + 1 by omega, show n ≠ s.next + 1 + 1 by omega, h])
    try simp only [ev_hit, lpv, hl, Nat.reduceLT]
  · have ba := few_le hfa
    refine vw_sc 0 [.pur (Bo (fewS a)), .pur (Bo (fewS b))] ?_
    simp only [bs, Nat.reduceAdd, ↓vopx, ↓vop, Nat.reduceBEq, thenV, flat, Nat.reduceLT, dLoad, vpart, gtmp, hl, wocs, ↓goc, ↓woc, ↓vopm0, ↓callC, ↓pick_ff, ↓pick_tf, calleeV, Tryd.ag25, Tryd.sz25, nns, hfa, hfb]
    repeat ((with_reducible refine And.intro ?_ ?_); · first | exact ⟨Tryd.is47, by simpa only [hfa] using few9_ a (by omega) (by omega)⟩ | exact ⟨Tryd.is47, by simpa only [hfb] using few9_ b (by omega) (by omega)⟩)
    refine hK5 _ _ ?_
    refine vck fun A B hA hB => ?_
    simp only [condV, ev_hit, lpv, Nat.reduceLT, true_implies, reduceCtorEq, false_implies, and_true, hl]
    refine hA ?_
    clear hA hB A B
    refine vsk fun K7 hK7 => ?_
    refine vw_sc 0 [] ?_
    simp only [bs, ↓vopx, ↓vop, thenV, flat, wocs, ↓goc, ↓woc, ↓vopm0]
    refine hK7 _ _ ?_
    refine vw_ret ?_
    refine hQ _ _ _ (.inr rfl) (done_tmp ?_ fun n b hn h => by simp [Sg.add, show n ≠ s.next by omega, show n ≠ s.next + 1 by omega, show n ≠ s.next + 1 + 1 by omega, h])
    try simp only [ev_hit, lpv, hl, Nat.reduceLT]
  · have ba := few_le hfa
    have bb := few_le hfb
    refine vw_sc 0 [.pur (Bo (fewS a)), .pur (Bo (fewS b)), .pur (Bo (fewS c))] ?_
    simp only [bs, Nat.reduceAdd, ↓vopx, ↓vop, Nat.reduceBEq, thenV, flat, Nat.reduceLT, dLoad, vpart, gtmp, hl, wocs, ↓goc, ↓woc, ↓vopm0, ↓callC, ↓pick_ff, ↓pick_tf, calleeV, Tryd.ag25, Tryd.sz25, nns, hfa, hfb, hfc]
    repeat ((with_reducible refine And.intro ?_ ?_); · first | exact ⟨Tryd.is47, by simpa only [hfa] using few9_ a (by omega) (by omega)⟩ | exact ⟨Tryd.is47, by simpa only [hfb] using few9_ b (by omega) (by omega)⟩ | exact ⟨Tryd.is47, by simpa only [hfc] using few9_ c (by omega) (by omega)⟩)
    refine hK5 _ _ ?_
    refine vck fun A B hA hB => ?_
    simp only [condV, ev_hit, lpv, Nat.reduceLT, true_implies, reduceCtorEq, false_implies, and_true, hl]
    refine hA ?_
    clear hA hB A B
    refine vsk fun K8 hK8 => ?_
    refine vw_sc 0 [] ?_
    simp only [bs, ↓vopx, ↓vop, thenV, flat, wocs, ↓goc, ↓woc, ↓vopm0]
    refine hK8 _ _ ?_
    refine vw_ret ?_
    refine hQ _ _ _ (.inr rfl) (done_tmp ?_ fun n b hn h => by simp [Sg.add, show n ≠ s.next by omega, show n ≠ s.next + 1 by omega, show n ≠ s.next + 1 + 1 by omega, h])
    try simp only [ev_hit, lpv, hl, Nat.reduceLT]
  · have ba := few_le hfa
    have bb := few_le hfb
    have bc := few_le hfc
    refine vw_sc 0 [.pur (Bo (fewS a)), .pur (Bo (fewS b)), .pur (Bo (fewS c))] ?_
    simp only [bs, Nat.reduceAdd, ↓vopx, ↓vop, Nat.reduceBEq, thenV, flat, Nat.reduceLT, dLoad, vpart, opII, gtmp, hl, h3, wocs, ↓goc, ↓woc, ↓vopm0, ↓callC, ↓pick_ff, ↓pick_tf, calleeV, Tryd.ag25, Tryd.sz25, nns, len_tInts, Tryd.underlying26, hfa, hfb, hfc, hlf]
    repeat ((with_reducible refine And.intro ?_ ?_); · first | exact ⟨Tryd.is47, by simpa only [hfa] using few9_ a (by omega) (by omega)⟩ | exact ⟨Tryd.is47, by simpa only [hfb] using few9_ b (by omega) (by omega)⟩ | exact ⟨Tryd.is47, by simpa only [hfc] using few9_ c (by omega) (by omega)⟩)
    refine hK5 _ _ ?_
    refine vck fun A B hA hB => ?_
    simp only [condV, ev_hit, lpv, Nat.reduceLT, true_implies, reduceCtorEq, false_implies, and_true, hl]
    refine hA ?_
    clear hA hB A B
    refine vsk fun K9 hK9 => ?_
    refine vw_sc 0 [] ?_
    simp only [bs, ↓vopx, ↓vop, thenV, flat, wocs, ↓goc, ↓woc, ↓vopm0]
    refine hK9 _ _ ?_
    refine vw_ret ?_
    refine hQ _ _ _ (.inr rfl) (done_tmp ?_ fun n b hn h => by simp [Sg.add, show n ≠ s.next by omega, show n ≠ s.next + 1 by omega, show n ≠ s.next + 1 + 1 by omega, h])
    try simp only [ev_hit, lpv, hl, Nat.reduceLT]
  · have ba := few_le hfa
    have bb := few_le hfb
    have bc := few_le hfc
    refine vw_sc 0 [.pur (Bo (fewS a)), .pur (Bo (fewS b)), .pur (Bo (fewS c))] ?_
    simp only [bs, Nat.reduceAdd, ↓vopx, ↓vop, Nat.reduceBEq, thenV, flat, Nat.reduceLT, dLoad, vpart, opII, gtmp, hl, h3, h4, wocs, ↓goc, ↓woc, ↓vopm0, ↓callC, ↓pick_ff, calleeV, Tryd.ag25, Tryd.sz25, nns, len_tInts, Tryd.underlying26, hfa, hfb, hfc, hlf, hlg]
    repeat ((with_reducible refine And.intro ?_ ?_); · first | exact ⟨Tryd.is47, by simpa only [hfa] using few9_ a (by omega) (by omega)⟩ | exact ⟨Tryd.is47, by simpa only [hfb] using few9_ b (by omega) (by omega)⟩ | exact ⟨Tryd.is47, by simpa only [hfc] using few9_ c (by omega) (by omega)⟩)
    refine hK5 _ _ ?_
    refine vck fun A B hA hB => ?_
    simp only [condV, ev_hit, lpv, Nat.reduceLT, true_implies, reduceCtorEq, false_implies, and_true, hl]
    refine hA ?_
    clear hA hB A B
    refine vsk fun K10 hK10 => ?_
    refine vw_sc 0 [] ?_
    simp only [bs, ↓vopx, ↓vop, thenV, flat, wocs, ↓goc, ↓woc, ↓vopm0]
    refine hK10 _ _ ?_
    refine vw_ret ?_
    refine hQ _ _ _ (.inr rfl) (done_tmp ?_ fun n b hn h => by simp [Sg.add, show n ≠ s.next by omega, show n ≠ s.next + 1 by omega, show n ≠ s.next + 1 + 1 by omega, h])
    try simp only [ev_hit, lpv, hl, Nat.reduceLT]
  · have ba := few_le hfa
    have bb := few_le hfb
    have bc := few_le hfc
    refine vw_sc 0 [.pur (Bo (fewS a)), .pur (Bo (fewS b)), .pur (Bo (fewS c))] ?_
    simp only [bs, Nat.reduceAdd, ↓vopx, ↓vop, Nat.reduceBEq, thenV, flat, Nat.reduceLT, dLoad, vpart, opII, gtmp, hl, h3, h4, wocs, ↓goc, ↓woc, ↓vopm0, ↓callC, ↓pick_ff, calleeV, Tryd.ag25, Tryd.sz25, nns, len_tInts, Tryd.underlying26, hfa, hfb, hfc, hlf, hlg]
    repeat ((with_reducible refine And.intro ?_ ?_); · first | exact ⟨Tryd.is47, by simpa only [hfa] using few9_ a (by omega) (by omega)⟩ | exact ⟨Tryd.is47, by simpa only [hfb] using few9_ b (by omega) (by omega)⟩ | exact ⟨Tryd.is47, by simpa only [hfc] using few9_ c (by omega) (by omega)⟩)
    refine hK5 _ _ ?_
    refine vck fun A B hA hB => ?_
    simp only [condV, ev_hit, lpv, Nat.reduceLT, true_implies, reduceCtorEq, false_implies, true_and, hl]
    refine hB ?_
    clear hA hB A B
    refine vw_skip ?_
    refine hK4 _ _ ?_
    refine vsk fun K11 hK11 => ?_
    refine vw_en fun eqa hE => ?_
    have hlqa : eqa.length = 111 := by rw [hE]; simp only [lpv, hl]
    have qa_3 : ev eqa (.tmp 3) = .t (tInts f) := by rw [hE]; simp only [ev_miss, Nat.reduceBEq, h3]
    have qa_4 : ev eqa (.tmp 4) = .t (tInts g) := by rw [hE]; simp only [ev_miss, Nat.reduceBEq, h4]
    have qa_5 : ev eqa (.tmp 5) = .ptr (s.next) 0 := by rw [hE]; simp only [ev_hit, ev_miss, Nat.reduceBEq, hl, Nat.reduceLT]
    have qa_6 : ev eqa (.tmp 6) = .ptr (s.next + 1) 0 := by rw [hE]; simp only [ev_hit, ev_miss, Nat.reduceBEq, lpv, hl, Nat.reduceLT]
    have qa_7 : ev eqa (.tmp 7) = .ptr (s.next + 1 + 1) 0 := by rw [hE]; simp only [ev_hit, ev_miss, Nat.reduceBEq, lpv, hl, Nat.reduceLT]
    clear hE
    refine vw_st fun sqa hS => ?_
    have qaB0 : sqa.m (s.next) = some (.box 25 [.t (tStrs a.labels), .t (tPairs a.pairs)]) := by rw [hS]; simp only [m_add, n_add, nns, if_true, if_false, ]
    have qaB1 : sqa.m (s.next + 1) = some (.box 25 [.t (tStrs b.labels), .t (tPairs b.pairs)]) := by rw [hS]; simp only [m_add, n_add, nns, if_true, if_false, ]
    have qaB2 : sqa.m (s.next + 1 + 1) = some (.box 25 [.t (tStrs c.labels), .t (tPairs c.pairs)]) := by rw [hS]; simp only [m_add, n_add, nns, if_true, if_false, ]
    have hnqa : sqa.next = s.next + 1 + 1 + 1 := by rw [hS]; simp only [n_add, ]
    have hkqa : ∀ j, j < s.next → sqa.m j = s.m j := fun j hj => by have z0 : ¬ j = s.next := (by omega); have z1 : ¬ j = s.next + 1 := (by omega); have z2 : ¬ j = s.next + 1 + 1 := (by omega); rw [hS]; simp only [m_add, n_add, z0, z1, z2, if_false]
    clear hS
    obtain ⟨q, ii, jj, ec, hR⟩ : ∃ q ii jj ec, pushR a b c f g = (q, ii, jj, ec) := ⟨_, _, _, _, rfl⟩
    have hcs := push_cases a b c f g
    rw [hR] at hcs
    refine vw_sc 0 [.pur (.tup [vObj q, .t (tInts ii), .t (tInts jj), I ec])] ?_
    simp only [bs, Nat.reduceAdd, ↓vopx, ↓vop, Nat.reduceBEq, thenV, Nat.reduceLT, V.cells, dLoad, vpart, hlqa, qa_3, qa_4, qa_5, qa_6, qa_7, qaB0, qaB1, qaB2, hnqa, wocs, ↓goc, ↓woc, ↓vopm0, ↓callC, calleeV, Tryd.ag25, Tryd.sz25, Tryd.zv25]
    repeat ((with_reducible refine And.intro ?_ ?_); · exact ⟨Tryd.is23, by have := refPush_ a b c f g (by omega) (by omega) (by omega) (by omega) (by omega) (by omega) (by omega) (by omega); rw [hR, vsum_mk'] at this; exact this⟩)
    refine hK11 _ _ ?_
    refine vsk fun K12 hK12 => ?_
    refine vsk fun K13 hK13 => ?_
    refine vw_en fun eqb hE => ?_
    have hlqb : eqb.length = 111 := by rw [hE]; simp only [lpv, hlqa]
    have qb_3 : ev eqb (.tmp 3) = .t (tInts f) := by rw [hE]; simp only [ev_miss, Nat.reduceBEq, qa_3]
    have qb_4 : ev eqb (.tmp 4) = .t (tInts g) := by rw [hE]; simp only [ev_miss, Nat.reduceBEq, qa_4]
    have qb_5 : ev eqb (.tmp 5) = .ptr (s.next) 0 := by rw [hE]; simp only [ev_miss, Nat.reduceBEq, qa_5]
    have qb_6 : ev eqb (.tmp 6) = .ptr (s.next + 1) 0 := by rw [hE]; simp only [ev_miss, Nat.reduceBEq, qa_6]
    have qb_7 : ev eqb (.tmp 7) = .ptr (s.next + 1 + 1) 0 := by rw [hE]; simp only [ev_miss, Nat.reduceBEq, qa_7]
    have qb_11 : ev eqb (.tmp 11) = .ptr (s.next + 1 + 1 + 1) 0 := by rw [hE]; simp only [ev_hit, ev_miss, Nat.reduceBEq, lpv, hlqa, Nat.reduceLT]
    have qb_12 : ev eqb (.tmp 12) = .t (tInts ii) := by rw [hE]; simp only [ev_hit, ev_miss, Nat.reduceBEq, lpv, hlqa, Nat.reduceLT]
    have qb_13 : ev eqb (.tmp 13) = .t (tInts jj) := by rw [hE]; simp only [ev_hit, ev_miss, Nat.reduceBEq, lpv, hlqa, Nat.reduceLT]
    have qb_14 : ev eqb (.tmp 14) = I ec := by rw [hE]; simp only [ev_hit, lpv, hlqa, Nat.reduceLT]
    clear hE
    refine vw_st fun sqb hS => ?_
    have qbB0 : sqb.m (s.next) = some (.box 25 [.t (tStrs a.labels), .t (tPairs a.pairs)]) := by rw [hS]; simp only [m_set, m_add, nns, if_false, qaB0, hnqa]
    have qbB1 : sqb.m (s.next + 1) = some (.box 25 [.t (tStrs b.labels), .t (tPairs b.pairs)]) := by rw [hS]; simp only [m_set, m_add, nns, if_false, qaB1, hnqa]
    have qbB2 : sqb.m (s.next + 1 + 1) = some (.box 25 [.t (tStrs c.labels), .t (tPairs c.pairs)]) := by rw [hS]; simp only [m_set, m_add, nns, if_false, qaB2, hnqa]
    have qbB3 : sqb.m (s.next + 1 + 1 + 1) = some (.box 25 [.t (tStrs q.labels), .t (tPairs q.pairs)]) := by rw [hS]; simp only [m_set, m_add, if_true, hnqa]
    have hnqb : sqb.next = s.next + 1 + 1 + 1 + 1 := by rw [hS]; simp only [n_add, n_set, hnqa]
    have hkqb : ∀ j, j < s.next → sqb.m j = s.m j := fun j hj => by have z0 : ¬ j = s.next := (by omega); have z1 : ¬ j = s.next + 1 := (by omega); have z2 : ¬ j = s.next + 1 + 1 := (by omega); have z3 : ¬ j = s.next + 1 + 1 + 1 := (by omega); rw [hS]; simp only [m_set, m_add, hnqa, z3, if_false, hkqa j hj]
    clear hS
    rcases (show (ec ≠ 0) ∨ (ec = 0 ∧ (a.labels.length : Int) + b.labels.length + c.labels.length > 40) ∨ (ec = 0 ∧ ¬ (a.labels.length : Int) + b.labels.length + c.labels.length > 40) by omega) with he0 | ⟨rfl, hs⟩ | ⟨rfl, hs⟩
    · have hbn : (ec != 0) = true := by simpa using he0
      refine vw_sc 0 [] ?_
      simp only [bs, ↓vopx, ↓vop, Nat.reduceBEq, thenV, flat, Nat.reduceLT, opII, gtmp, hlqb, qb_14, wocs, ↓goc, ↓woc, ↓vopm0, ↓pick_tf, hbn]
      refine hK13 _ _ ?_
      refine vck fun A B hA hB => ?_
      simp only [condV, ev_hit, lpv, Nat.reduceLT, true_implies, reduceCtorEq, false_implies, and_true, hlqb]
      refine hA ?_
      clear hA hB A B
      refine vsk fun K14 hK14 => ?_
      refine vw_sc 0 [] ?_
      simp only [bs, ↓vopx, ↓vop, thenV, flat, wocs, ↓goc, ↓woc, ↓vopm0]
      refine hK14 _ _ ?_
      refine vw_ret ?_
      refine hQ _ _ _ (.inr rfl) (done_tmp ?_ fun n b hn h => (hkqb n hn).trans h)
      try simp only [ev_hit, lpv, hlqb, Nat.reduceLT]
    · refine vw_sc 0 [] ?_
      simp only [bs, ↓vopx, ↓vop, Nat.reduceBEq, thenV, flat, Nat.reduceLT, dLoad, vpart, opII, gtmp, hlqb, qb_5, qb_6, qb_7, qb_14, qbB0, qbB1, qbB2, wocs, ↓goc, ↓woc, ↓vopm0, ↓pick_ff, Tryd.ag22, Tryd.fd25_0, Tryd.sz22, Tryd.un22, nns, len_tStrs, hs, bne_self_eq_false]
      repeat ((with_reducible refine And.intro ?_ ?_); · exact ⟨by omega, by omega⟩)
      refine hK13 _ _ ?_
      refine vck fun A B hA hB => ?_
      simp only [condV, ev_hit, lpv, Nat.reduceLT, true_implies, reduceCtorEq, false_implies, and_true, hlqb]
      refine hA ?_
      clear hA hB A B
      refine vsk fun K15 hK15 => ?_
      refine vw_sc 0 [] ?_
      simp only [bs, ↓vopx, ↓vop, thenV, flat, wocs, ↓goc, ↓woc, ↓vopm0]
      refine hK15 _ _ ?_
      refine vw_ret ?_
      refine hQ _ _ _ (.inr rfl) (done_tmp ?_ fun n b hn h => (hkqb n hn).trans h)
      try simp only [ev_hit, lpv, hlqb, Nat.reduceLT]
    · refine vw_sc 0 [] ?_
      simp only [bs, ↓vopx, ↓vop, Nat.reduceBEq, thenV, flat, Nat.reduceLT, dLoad, vpart, opII, gtmp, hlqb, qb_5, qb_6, qb_7, qb_14, qbB0, qbB1, qbB2, wocs, ↓goc, ↓woc, ↓vopm0, ↓pick_ff, Tryd.ag22, Tryd.fd25_0, Tryd.sz22, Tryd.un22, nns, len_tStrs, hs, bne_self_eq_false]
      repeat ((with_reducible refine And.intro ?_ ?_); · exact ⟨by omega, by omega⟩)
      refine hK13 _ _ ?_
      refine vck fun A B hA hB => ?_
      simp only [condV, ev_hit, lpv, Nat.reduceLT, true_implies, reduceCtorEq, false_implies, true_and, hlqb]
      refine hB ?_
      clear hA hB A B
      refine vw_skip ?_
      refine hK12 _ _ ?_
      refine vsk fun K16 hK16 => ?_
      obtain ⟨kk, hcv, v1, v2, v3, v4⟩ := pc_val hR (by omega)
      refine vw_cut 19 rfl ?_
      refine vl_chunk 1 0 4 15 [] [] (by decide +kernel) (by decide) fun ops' KC hgs hKC => ?_
      simp only [bs, Nat.reduceLeDiff, Nat.reduceAdd, vparts, gfill, repl, Sg.frzP, ↓vopx, ↓vop, Nat.reduceBEq, Nat.reduceLT, V.cells, dLoad, vpart, Sg.frzL, Sg.frz1, hlqb, qb_5, qb_6, qb_7, qbB0, qbB1, qbB2, hnqb, wocs, ↓goc, ↓woc, ↓vopm1, Tryd.ag25, Tryd.sl59, Tryd.sz25, s6a, s6b, s6c, Nat.reduceMul, Nat.one_mul]
      refine hKC _ _ ?_
      clear hgs hKC KC ops'
      refine vl_env fun e8_0 hE => ?_
      have hl8_0 : e8_0.length = 111 := by rw [hE]; simp only [lpv, hlqb]
      have x13 : ev e8_0 (.tmp 3) = .t (tInts f) := by rw [hE]; simp only [ev_miss, Nat.reduceBEq, qb_3]
      have x14 : ev e8_0 (.tmp 4) = .t (tInts g) := by rw [hE]; simp only [ev_miss, Nat.reduceBEq, qb_4]
      have x111 : ev e8_0 (.tmp 11) = .ptr (s.next + 1 + 1 + 1) 0 := by rw [hE]; simp only [ev_miss, Nat.reduceBEq, qb_11]
      have x112 : ev e8_0 (.tmp 12) = .t (tInts ii) := by rw [hE]; simp only [ev_miss, Nat.reduceBEq, qb_12]
      have x113 : ev e8_0 (.tmp 13) = .t (tInts jj) := by rw [hE]; simp only [ev_miss, Nat.reduceBEq, qb_13]
      have x1_74 : ev e8_0 (.tmp 74) = .t (.sl 2 [tStrs b.labels, tPairs b.pairs, tStrs c.labels, tPairs c.pairs, tStrs a.labels, tPairs a.pairs]) := by rw [hE]; simp only [ev_hit, lpv, hlqb, Nat.reduceLT]
      clear hE
      refine vl_chunk 1 4 5 10 [] [] (by decide +kernel) (by decide) fun ops' KC hgs hKC => ?_
      simp only [bs, Nat.reduceLeDiff, Nat.reduceAdd, vparts, gfill, repl, Sg.frzP, ↓vopx, ↓vop, Nat.reduceBEq, flat, Nat.reduceLT, V.cells, Sg.frzL, Sg.frz1, hl8_0, x13, x14, hnqb, wocs, ↓goc, ↓woc, ↓vopm1, Tryd.sl60, Tryd.st72, s6d, s6e, Nat.reduceMul, Nat.one_mul]
      refine hKC _ _ ?_
      clear hgs hKC KC ops'
      refine vl_env fun e8_1 hE => ?_
      have hl8_1 : e8_1.length = 111 := by rw [hE]; simp only [lpv, hl8_0]
      have x211 : ev e8_1 (.tmp 11) = .ptr (s.next + 1 + 1 + 1) 0 := by rw [hE]; simp only [ev_miss, Nat.reduceBEq, x111]
      have x212 : ev e8_1 (.tmp 12) = .t (tInts ii) := by rw [hE]; simp only [ev_miss, Nat.reduceBEq, x112]
      have x213 : ev e8_1 (.tmp 13) = .t (tInts jj) := by rw [hE]; simp only [ev_miss, Nat.reduceBEq, x113]
      have x2_74 : ev e8_1 (.tmp 74) = .t (.sl 2 [tStrs b.labels, tPairs b.pairs, tStrs c.labels, tPairs c.pairs, tStrs a.labels, tPairs a.pairs]) := by rw [hE]; simp only [ev_miss, Nat.reduceBEq, x1_74]
      have x2_79 : ev e8_1 (.tmp 79) = .t (.sl 3 [.v (.int .i64 2), .v (.int .i64 0), tInts f, .v (.int .i64 2), .v (.int .i64 1), tInts g]) := by rw [hE]; simp only [ev_hit, lpv, hl8_0, Nat.reduceLT]
      clear hE
      refine vl_chunk 1 9 1 9 [] [] (by decide +kernel) (by decide) fun ops' KC hgs hKC => ?_
      simp only [bs, Nat.reduceLeDiff, Nat.reduceAdd, vparts, gfill, ↓vopx, V.cells, x2_74, x2_79, wocs, ↓goc, ↓woc, ↓vopm1, Tryd.st62]
      refine hKC _ _ ?_
      clear hgs hKC KC ops'
      refine vl_env fun e8_2 hE => ?_
      have hl8_2 : e8_2.length = 111 := by rw [hE]; simp only [lpv, hl8_1]
      have x311 : ev e8_2 (.tmp 11) = .ptr (s.next + 1 + 1 + 1) 0 := by rw [hE]; simp only [ev_miss, Nat.reduceBEq, x211]
      have x312 : ev e8_2 (.tmp 12) = .t (tInts ii) := by rw [hE]; simp only [ev_miss, Nat.reduceBEq, x212]
      have x313 : ev e8_2 (.tmp 13) = .t (tInts jj) := by rw [hE]; simp only [ev_miss, Nat.reduceBEq, x213]
      have x3_80 : ev e8_2 (.tmp 80) = .agg [.t (.sl 2 [tStrs b.labels, tPairs b.pairs, tStrs c.labels, tPairs c.pairs, tStrs a.labels, tPairs a.pairs]), .t (.sl 3 [.v (.int .i64 2), .v (.int .i64 0), tInts f, .v (.int .i64 2), .v (.int .i64 1), tInts g])] := by rw [hE]; simp only [ev_hit, hl8_1, Nat.reduceLT]
      clear hE
      refine vl_chunk 1 10 9 0 [] [.pur (.tup [vObj q, .t (.sl 1 [tInts ii, tInts jj, tInts kk]), I 0])] (by decide +kernel) (by decide) fun ops' KC hgs hKC => ?_
      simp only [bs, Nat.reduceAdd, ↓vopx, ↓vop, Nat.reduceBEq, Nat.reduceLT, V.cells, hl8_2, x3_80, hnqb, wocs, ↓goc, ↓woc, ↓vopm1, ↓callC, calleeV, Tryd.sz25, Tryd.zv25]
      repeat ((with_reducible refine And.intro ?_ ?_); · exact ⟨Tryd.is50, pc_call hcv (by omega) (by omega) (by omega) (by omega) (by omega) (by omega) (by omega) (by omega)⟩)
      refine hKC _ _ ?_
      clear hgs hKC KC ops'
      refine vl_nil ?_
      try simp only [thenV]
      refine hK16 _ _ ?_
      refine vsk fun K17 hK17 => ?_
      refine vw_en fun eqc hE => ?_
      have hlqc : eqc.length = 111 := by rw [hE]; simp only [lpv, hl8_2]
      have qc_11 : ev eqc (.tmp 11) = .ptr (s.next + 1 + 1 + 1) 0 := by rw [hE]; simp only [ev_miss, Nat.reduceBEq, x311]
      have qc_12 : ev eqc (.tmp 12) = .t (tInts ii) := by rw [hE]; simp only [ev_miss, Nat.reduceBEq, x312]
      have qc_13 : ev eqc (.tmp 13) = .t (tInts jj) := by rw [hE]; simp only [ev_miss, Nat.reduceBEq, x313]
      have qc_15 : ev eqc (.tmp 15) = .ptr (s.next + 1 + 1 + 1 + 1) 0 := by rw [hE]; simp only [ev_hit, ev_miss, Nat.reduceBEq, lpv, hl8_2, Nat.reduceLT]
      have qc_16 : ev eqc (.tmp 16) = .t (.sl 1 [tInts ii, tInts jj, tInts kk]) := by rw [hE]; simp only [ev_hit, ev_miss, Nat.reduceBEq, lpv, hl8_2, Nat.reduceLT]
      have qc_17 : ev eqc (.tmp 17) = I 0 := by rw [hE]; simp only [ev_hit, lpv, hl8_2, Nat.reduceLT]
      clear hE
      refine vw_st fun sqc hS => ?_
      have qcB0 : sqc.m (s.next) = some (.box 25 [.t (tStrs a.labels), .t (tPairs a.pairs)]) := by rw [hS]; simp only [m_set, m_add, nns, if_false, qbB0, hnqb]
      have qcB1 : sqc.m (s.next + 1) = some (.box 25 [.t (tStrs b.labels), .t (tPairs b.pairs)]) := by rw [hS]; simp only [m_set, m_add, nns, if_false, qbB1, hnqb]
      have qcB2 : sqc.m (s.next + 1 + 1) = some (.box 25 [.t (tStrs c.labels), .t (tPairs c.pairs)]) := by rw [hS]; simp only [m_set, m_add, nns, if_false, qbB2, hnqb]
      have qcB3 : sqc.m (s.next + 1 + 1 + 1) = some (.box 25 [.t (tStrs q.labels), .t (tPairs q.pairs)]) := by rw [hS]; simp only [m_set, m_add, nns, if_false, qbB3, hnqb]
      have qcB4 : sqc.m (s.next + 1 + 1 + 1 + 1) = some (.box 25 [.t (tStrs q.labels), .t (tPairs q.pairs)]) := by rw [hS]; simp only [m_set, m_add, if_true, hnqb]
      have hnqc : sqc.next = s.next + 1 + 1 + 1 + 1 + 1 := by rw [hS]; simp only [n_add, n_set, hnqb]
      have hkqc : ∀ j, j < s.next → sqc.m j = s.m j := fun j hj => by have z0 : ¬ j = s.next := (by omega); have z1 : ¬ j = s.next + 1 := (by omega); have z2 : ¬ j = s.next + 1 + 1 := (by omega); have z3 : ¬ j = s.next + 1 + 1 + 1 := (by omega); have z4 : ¬ j = s.next + 1 + 1 + 1 + 1 := (by omega); rw [hS]; simp only [m_set, m_add, hnqb, z4, if_false, hkqb j hj]
      clear hS
      refine vw_cut 27 rfl ?_
      refine vl_chunk 0 0 8 19 [(2, 87)] [.pur (Bo true)] (by decide +kernel) (by decide) fun ops' KC hgs hKC => ?_
      have g2_ : gtmp ops' 2 = some 87 := hgs (2, 87) (by simp)
      simp only [bs, Nat.reduceAdd, ↓vopx, ↓vop, Nat.reduceBEq, flat, Nat.reduceLT, dLoad, vpart, opII, hlqc, qc_11, qc_15, qc_17, qcB3, qcB4, g2_, wocs, ↓goc, ↓woc, ↓vopm0, ↓callC, ↓pick_tt, calleeV, Tryd.ag25, Tryd.sz25, beq_self_eq_true, Nat.reduceAdd]
      repeat ((with_reducible refine And.intro ?_ ?_); · exact ⟨Tryd.is24, same_self q (by omega) (by omega)⟩)
      refine hKC _ _ ?_
      clear g2_
      clear hgs hKC KC ops'
      refine vl_env fun e9_0 hE => ?_
      have hl9_0 : e9_0.length = 111 := by rw [hE]; simp only [lpv, hlqc]
      have s1_11 : ev e9_0 (.tmp 11) = .ptr (s.next + 1 + 1 + 1) 0 := by rw [hE]; simp only [ev_miss, Nat.reduceBEq, qc_11]
      have s1_12 : ev e9_0 (.tmp 12) = .t (tInts ii) := by rw [hE]; simp only [ev_miss, Nat.reduceBEq, qc_12]
      have s1_13 : ev e9_0 (.tmp 13) = .t (tInts jj) := by rw [hE]; simp only [ev_miss, Nat.reduceBEq, qc_13]
      have s1_15 : ev e9_0 (.tmp 15) = .ptr (s.next + 1 + 1 + 1 + 1) 0 := by rw [hE]; simp only [ev_miss, Nat.reduceBEq, qc_15]
      have s1_16 : ev e9_0 (.tmp 16) = .t (.sl 1 [tInts ii, tInts jj, tInts kk]) := by rw [hE]; simp only [ev_miss, Nat.reduceBEq, qc_16]
      have s1_g : ev e9_0 (.tmp 92) = Bo true := by rw [hE]; simp only [ev_hit, lpv, hlqc, Nat.reduceLT]
      clear hE
      refine vl_chunk 0 8 5 14 [(7, 92)] [] (by decide +kernel) (by decide) fun ops' KC hgs hKC => ?_
      have g7_ : gtmp ops' 7 = some 92 := hgs (7, 92) (by simp)
      simp only [bs, Nat.reduceAdd, ↓vopx, ↓vop, Nat.reduceBEq, flat, Nat.reduceLT, opII, hl9_0, s1_16, s1_g, g7_, wocs, ↓goc, ↓woc, ↓vopm0, ↓pick_tt, Tryd.underlying63, beq_self_eq_true, vlen_s1', nd3', Nat.reduceAdd]
      refine hKC _ _ ?_
      clear g7_
      clear hgs hKC KC ops'
      refine vl_env fun e9_1 hE => ?_
      have hl9_1 : e9_1.length = 111 := by rw [hE]; simp only [lpv, hl9_0]
      have s2_11 : ev e9_1 (.tmp 11) = .ptr (s.next + 1 + 1 + 1) 0 := by rw [hE]; simp only [ev_miss, Nat.reduceBEq, s1_11]
      have s2_12 : ev e9_1 (.tmp 12) = .t (tInts ii) := by rw [hE]; simp only [ev_miss, Nat.reduceBEq, s1_12]
      have s2_13 : ev e9_1 (.tmp 13) = .t (tInts jj) := by rw [hE]; simp only [ev_miss, Nat.reduceBEq, s1_13]
      have s2_15 : ev e9_1 (.tmp 15) = .ptr (s.next + 1 + 1 + 1 + 1) 0 := by rw [hE]; simp only [ev_miss, Nat.reduceBEq, s1_15]
      have s2_16 : ev e9_1 (.tmp 16) = .t (.sl 1 [tInts ii, tInts jj, tInts kk]) := by rw [hE]; simp only [ev_miss, Nat.reduceBEq, s1_16]
      have s2_g : ev e9_1 (.tmp 97) = Bo true := by rw [hE]; simp only [ev_hit, lpv, hl9_0, Nat.reduceLT]
      clear hE
      refine vl_chunk 0 13 7 7 [(12, 97)] [.pur (Bo true)] (by decide +kernel) (by decide) fun ops' KC hgs hKC => ?_
      have g12_ : gtmp ops' 12 = some 97 := hgs (12, 97) (by simp)
      simp only [bs, Nat.reduceAdd, ↓vopx, ↓vop, Nat.reduceBEq, flat, Nat.reduceLT, dLoad, vpart, hl9_1, s2_12, s2_16, s2_g, g12_, wocs, ↓goc, ↓woc, ↓vopm0, ↓callC, ↓pick_tt, calleeV, Tryd.ag26, Tryd.sz26, Tryd.un63, Int.toNat_zero, Nat.reduceAdd]
      repeat ((with_reducible refine And.intro ?_ ?_); · first | omega | exact ⟨Tryd.is33, by have := arrowSame_ ii ii (by omega) (by omega); rw [beq_self_eq_true] at this; exact this⟩)
      refine hKC _ _ ?_
      clear g12_
      clear hgs hKC KC ops'
      refine vl_env fun e9_2 hE => ?_
      have hl9_2 : e9_2.length = 111 := by rw [hE]; simp only [lpv, hl9_1]
      have s3_11 : ev e9_2 (.tmp 11) = .ptr (s.next + 1 + 1 + 1) 0 := by rw [hE]; simp only [ev_miss, Nat.reduceBEq, s2_11]
      have s3_12 : ev e9_2 (.tmp 12) = .t (tInts ii) := by rw [hE]; simp only [ev_miss, Nat.reduceBEq, s2_12]
      have s3_13 : ev e9_2 (.tmp 13) = .t (tInts jj) := by rw [hE]; simp only [ev_miss, Nat.reduceBEq, s2_13]
      have s3_15 : ev e9_2 (.tmp 15) = .ptr (s.next + 1 + 1 + 1 + 1) 0 := by rw [hE]; simp only [ev_miss, Nat.reduceBEq, s2_15]
      have s3_16 : ev e9_2 (.tmp 16) = .t (.sl 1 [tInts ii, tInts jj, tInts kk]) := by rw [hE]; simp only [ev_miss, Nat.reduceBEq, s2_16]
      have s3_g : ev e9_2 (.tmp 104) = Bo true := by rw [hE]; simp only [ev_hit, lpv, hl9_1, Nat.reduceLT]
      clear hE
      refine vl_chunk 0 20 7 0 [(19, 104)] [.pur (Bo true)] (by decide +kernel) (by decide) fun ops' KC hgs hKC => ?_
      have g19_ : gtmp ops' 19 = some 104 := hgs (19, 104) (by simp)
      simp only [bs, Nat.reduceAdd, ↓vopx, ↓vop, Nat.reduceBEq, flat, Nat.reduceLT, dLoad, vpart, hl9_2, s3_13, s3_16, s3_g, g19_, wocs, ↓goc, ↓woc, ↓vopm0, ↓callC, ↓pick_tt, calleeV, Tryd.ag26, Tryd.sz26, Tryd.un63, Int.toNat_one, Nat.reduceAdd]
      repeat ((with_reducible refine And.intro ?_ ?_); · first | omega | exact ⟨Tryd.is33, by have := arrowSame_ jj jj (by omega) (by omega); rw [beq_self_eq_true] at this; exact this⟩)
      refine hKC _ _ ?_
      clear g19_
      clear hgs hKC KC ops'
      refine vl_nil ?_
      try simp only [thenV]
      refine hK17 _ _ ?_
      refine vw_ret ?_
      refine hQ _ _ _ (.inr rfl) (done_tmp ?_ fun n b hn h => (hkqc n hn).trans h)
      try simp only [ev_hit, lpv, hl9_2, Nat.reduceLT]
end Go.Proofs

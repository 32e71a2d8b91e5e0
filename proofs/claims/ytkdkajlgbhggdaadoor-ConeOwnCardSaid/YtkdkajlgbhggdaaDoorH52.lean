/- Steps on the way to the statement that the last text of this claim proves: an abstract machine over the code, proved sound, and what the functions come to over it. No condition of their own. -/
import Derived.Test.YtkdkajlgbhggdaaDoorH34
import Derived.Test.YtkdkajlgbhggdaaDoorH44
import Derived.Test.YtkdkajlgbhggdaaDoorH50
open Go Go.V
namespace Go.Proofs

theorem co_of_sq {a b c : Ob} {f g : List Int} {q : Ob} {i j hh : List Int} (hf : arrS a b f = true) (hg : arrS a c g = true) (hS : SqS b c f g q i j hh) : coS a b c f g q i j = true := by
  simp only [coS, Bool.and_eq_true, beq_iff_eq]
  exact ⟨hf, hg, hS.a1, hS.a2, by rw [hS.t1, hS.t2]⟩
/-- only what moves nothing comes to both legs behind themselves -/
theorem own_id {a b c : Ob} {f g : List Int} {q : Ob} {i j hh : List Int} (hR : pushR a b c f g = (q, i, j, 0)) (hS : SqS b c f g q i j hh) : outS q.labels.length [i, j] [i, j] = idS (q.labels.length : Int) := by
  obtain ⟨_, _, _, _, hf, hg, _⟩ := push_pl hR
  have hM := med_of hR hS (co_of_sq hf hg hS)
  have hq := (arrS_iff.1 hS.a1).2.1
  have := hM.un (idS q.labels.length) (id_arr hq)
  rw [then_id_right hq.le (map_all (arrS_iff.1 hS.a1).2.2.1), then_id_right hq.le (map_all (arrS_iff.1 hS.a2).2.2.1)] at this
  simp only [beq_self_eq_true, Bool.and_self] at this
  exact (beq_iff_eq.1 this.symm).symm
end Go.Proofs

open Go Go.V
namespace Go.Proofs
theorem own_med {a b c : Ob} {f g : List Int} {q : Ob} {i j hh : List Int} (hR : pushR a b c f g = (q, i, j, 0)) (hS : SqS b c f g q i j hh) : medS a b c f g q i j = (idS (q.labels.length : Int), 0) := by
  obtain ⟨_, _, _, _, hf, hg, _⟩ := push_pl hR
  have hq := (arrS_iff.1 hS.a1).2.1.le
  unfold medS
  rw [hR]
  simp only
  rw [if_neg (by simp), if_neg (by omega), if_neg (by rw [co_of_sq hf hg hS]; simp), own_id hR hS]
theorem bad_med {a b c : Ob} {f g : List Int} {q : Ob} {i j hh bad : List Int} (hR : pushR a b c f g = (q, i, j, 0)) (hS : SqS b c f g q i j hh) (hb : (-1 : Int) ∈ bad) : medS a b c f g q i bad = ([], 12) := by
  have hq := (arrS_iff.1 hS.a1).2.1.le
  unfold medS
  rw [hR]
  simp only
  rw [if_neg (by simp), if_neg (by omega), if_pos]
  cases h : coS a b c f g q i bad with
  | false => rfl
  | true =>
    have := map_all (arrS_iff.1 (co_iff h).2.2.2.1).2.2.1 _ hb
    omega
theorem no_med {a b c : Ob} {f g : List Int} {q : Ob} {i j : List Int} {e : Int} (he : e ≠ 0) (hR : pushR a b c f g = (q, i, j, e)) (d : Ob) (h k : List Int) : medS a b c f g d h k = ([], e) := by
  unfold medS; rw [hR]; exact if_pos he

set_option maxRecDepth 20000 in
set_option maxHeartbeats 8000000 in
theorem lawOwn_ (a b c : Ob) (f g : List Int) (ha1 : a.labels.length ≤ 9223372036854775807) (ha2 : a.pairs.length ≤ 9223372036854775807) (hb1 : b.labels.length ≤ 9223372036854775807) (hb2 : b.pairs.length ≤ 9223372036854775807) (hc1 : c.labels.length ≤ 9223372036854775807) (hc2 : c.pairs.length ≤ 9223372036854775807) : PCall Tryd.prog 11 [vObj a, vObj b, vObj c, .t (tInts f), .t (tInts g)] (Bo true) := by
  refine pcall_of_body Tryd.func11 rfl fun s Q hQ => ?_
  obtain ⟨e, he, hl, h0, h1, h2, h3, h4⟩ : ∃ e : Env, ([vObj a, vObj b, vObj c, .t (tInts f), .t (tInts g)] ++ List.replicate (Tryd.f11.ntmps - ([vObj a, vObj b, vObj c, .t (tInts f), .t (tInts g)] : List V).length) .junk) = e ∧ e.length = 129 ∧ ev e (.tmp 0) = vObj a ∧ ev e (.tmp 1) = vObj b ∧ ev e (.tmp 2) = vObj c ∧ ev e (.tmp 3) = .t (tInts f) ∧ ev e (.tmp 4) = .t (tInts g) := ⟨_, rfl, rfl, rfl, rfl, rfl, rfl, rfl⟩
  rw [he]
  clear he
  refine vw_seq_k fun K1 hK1 => ?_
  refine vw_sc 0 [] ?_
  simp only [bs, ↓vopx, ↓vop, Nat.reduceBEq, thenV, flat, V.cells, h0, h1, h2, wocs, ↓goc, ↓woc, ↓vopm0]
  refine hK1 _ _ ?_
  refine vw_seq_k fun K2 hK2 => ?_
  refine vw_seq_k fun K3 hK3 => ?_
  refine vw_sc 0 [.pur (Bo true)] ?_
  simp only [bs, ↓vopx, ↓vop, thenV, Nat.reduceLT, hl, wocs, ↓goc, ↓woc, ↓vopm0, ↓callC, calleeV]
  repeat ((with_reducible refine And.intro ?_ ?_); · exact ⟨Tryd.is39, known8_⟩)
  refine hK3 _ _ ?_
  refine vw_cond_k fun A B hA hB => ?_
  simp only [condV, ev_hit, length_putv, Nat.reduceLT, true_implies, reduceCtorEq, false_implies, true_and, hl]
  refine hB ?_
  clear hA hB A B
  refine vw_skip ?_
  refine hK2 _ _ ?_
  refine vw_seq_k fun K4 hK4 => ?_
  refine vw_seq_k fun K5 hK5 => ?_
  rcases (show fewS a = false ∨ (fewS a = true ∧ (fewS b = false ∨ (fewS b = true ∧ (fewS c = false ∨ (fewS c = true ∧ ((f.length : Int) > 60 ∨ (¬ (f.length : Int) > 60 ∧ ((g.length : Int) > 60 ∨ ¬ (g.length : Int) > 60)))))))) by cases (fewS a) <;> cases (fewS b) <;> cases (fewS c) <;> simp <;> omega) with hfa | ⟨hfa, hfb | ⟨hfb, hfc | ⟨hfc, hlf | ⟨hlf, hlg | hlg⟩⟩⟩⟩
  · refine vw_sc 0 [.pur (Bo (fewS a))] ?_
    simp only [bs, Nat.reduceAdd, ↓vopx, ↓vop, Nat.reduceBEq, thenV, flat, Nat.reduceLT, dLoad, vpart, gtmp, hl, wocs, ↓goc, ↓woc, ↓vopm0, ↓callC, ↓pick_tf, calleeV, Tryd.ag25, Tryd.sz25, nns, hfa]
    repeat ((with_reducible refine And.intro ?_ ?_); · exact ⟨Tryd.is40, by simpa only [hfa] using few8_ a (by omega) (by omega)⟩)
    refine hK5 _ _ ?_
    refine vw_cond_k fun A B hA hB => ?_
    simp only [condV, ev_hit, length_putv, Nat.reduceLT, true_implies, reduceCtorEq, false_implies, and_true, hl]
    refine hA ?_
    clear hA hB A B
    refine vw_seq_k fun K6 hK6 => ?_
    refine vw_sc 0 [] ?_
    simp only [bs, ↓vopx, ↓vop, thenV, flat, wocs, ↓goc, ↓woc, ↓vopm0]
    refine hK6 _ _ ?_
    refine vw_ret ?_
    refine hQ _ _ _ (.inr rfl) (done_tmp ?_ fun n b hn h => by simp [Sg.add, show n ≠ s.next by omega, show n ≠ s.next + 1 by omega, show n ≠ s.next + 1 + 1 by omega, h])
    try simp only [ev_hit, length_putv, hl, Nat.reduceLT]
  · have ba := few_le hfa
    refine vw_sc 0 [.pur (Bo (fewS a)), .pur (Bo (fewS b))] ?_
    simp only [bs, Nat.reduceAdd, ↓vopx, ↓vop, Nat.reduceBEq, thenV, flat, Nat.reduceLT, dLoad, vpart, gtmp, hl, wocs, ↓goc, ↓woc, ↓vopm0, ↓callC, ↓pick_ff, ↓pick_tf, calleeV, Tryd.ag25, Tryd.sz25, nns, hfa, hfb]
    repeat ((with_reducible refine And.intro ?_ ?_); · first | exact ⟨Tryd.is40, by simpa only [hfa] using few8_ a (by omega) (by omega)⟩ | exact ⟨Tryd.is40, by simpa only [hfb] using few8_ b (by omega) (by omega)⟩)
    refine hK5 _ _ ?_
    refine vw_cond_k fun A B hA hB => ?_
    simp only [condV, ev_hit, length_putv, Nat.reduceLT, true_implies, reduceCtorEq, false_implies, and_true, hl]
    refine hA ?_
    clear hA hB A B
    refine vw_seq_k fun K7 hK7 => ?_
    refine vw_sc 0 [] ?_
    simp only [bs, ↓vopx, ↓vop, thenV, flat, wocs, ↓goc, ↓woc, ↓vopm0]
    refine hK7 _ _ ?_
    refine vw_ret ?_
    refine hQ _ _ _ (.inr rfl) (done_tmp ?_ fun n b hn h => by simp [Sg.add, show n ≠ s.next by omega, show n ≠ s.next + 1 by omega, show n ≠ s.next + 1 + 1 by omega, h])
    try simp only [ev_hit, length_putv, hl, Nat.reduceLT]
  · have ba := few_le hfa
    have bb := few_le hfb
    refine vw_sc 0 [.pur (Bo (fewS a)), .pur (Bo (fewS b)), .pur (Bo (fewS c))] ?_
    simp only [bs, Nat.reduceAdd, ↓vopx, ↓vop, Nat.reduceBEq, thenV, flat, Nat.reduceLT, dLoad, vpart, gtmp, hl, wocs, ↓goc, ↓woc, ↓vopm0, ↓callC, ↓pick_ff, ↓pick_tf, calleeV, Tryd.ag25, Tryd.sz25, nns, hfa, hfb, hfc]
    repeat ((with_reducible refine And.intro ?_ ?_); · first | exact ⟨Tryd.is40, by simpa only [hfa] using few8_ a (by omega) (by omega)⟩ | exact ⟨Tryd.is40, by simpa only [hfb] using few8_ b (by omega) (by omega)⟩ | exact ⟨Tryd.is40, by simpa only [hfc] using few8_ c (by omega) (by omega)⟩)
    refine hK5 _ _ ?_
    refine vw_cond_k fun A B hA hB => ?_
    simp only [condV, ev_hit, length_putv, Nat.reduceLT, true_implies, reduceCtorEq, false_implies, and_true, hl]
    refine hA ?_
    clear hA hB A B
    refine vw_seq_k fun K8 hK8 => ?_
    refine vw_sc 0 [] ?_
    simp only [bs, ↓vopx, ↓vop, thenV, flat, wocs, ↓goc, ↓woc, ↓vopm0]
    refine hK8 _ _ ?_
    refine vw_ret ?_
    refine hQ _ _ _ (.inr rfl) (done_tmp ?_ fun n b hn h => by simp [Sg.add, show n ≠ s.next by omega, show n ≠ s.next + 1 by omega, show n ≠ s.next + 1 + 1 by omega, h])
    try simp only [ev_hit, length_putv, hl, Nat.reduceLT]
  · have ba := few_le hfa
    have bb := few_le hfb
    have bc := few_le hfc
    refine vw_sc 0 [.pur (Bo (fewS a)), .pur (Bo (fewS b)), .pur (Bo (fewS c))] ?_
    simp only [bs, Nat.reduceAdd, ↓vopx, ↓vop, Nat.reduceBEq, thenV, flat, Nat.reduceLT, dLoad, vpart, opII, gtmp, hl, h3, wocs, ↓goc, ↓woc, ↓vopm0, ↓callC, ↓pick_ff, ↓pick_tf, calleeV, Tryd.ag25, Tryd.sz25, nns, len_tInts, Tryd.underlying26, hfa, hfb, hfc, hlf]
    repeat ((with_reducible refine And.intro ?_ ?_); · first | exact ⟨Tryd.is40, by simpa only [hfa] using few8_ a (by omega) (by omega)⟩ | exact ⟨Tryd.is40, by simpa only [hfb] using few8_ b (by omega) (by omega)⟩ | exact ⟨Tryd.is40, by simpa only [hfc] using few8_ c (by omega) (by omega)⟩)
    refine hK5 _ _ ?_
    refine vw_cond_k fun A B hA hB => ?_
    simp only [condV, ev_hit, length_putv, Nat.reduceLT, true_implies, reduceCtorEq, false_implies, and_true, hl]
    refine hA ?_
    clear hA hB A B
    refine vw_seq_k fun K9 hK9 => ?_
    refine vw_sc 0 [] ?_
    simp only [bs, ↓vopx, ↓vop, thenV, flat, wocs, ↓goc, ↓woc, ↓vopm0]
    refine hK9 _ _ ?_
    refine vw_ret ?_
    refine hQ _ _ _ (.inr rfl) (done_tmp ?_ fun n b hn h => by simp [Sg.add, show n ≠ s.next by omega, show n ≠ s.next + 1 by omega, show n ≠ s.next + 1 + 1 by omega, h])
    try simp only [ev_hit, length_putv, hl, Nat.reduceLT]
  · have ba := few_le hfa
    have bb := few_le hfb
    have bc := few_le hfc
    refine vw_sc 0 [.pur (Bo (fewS a)), .pur (Bo (fewS b)), .pur (Bo (fewS c))] ?_
    simp only [bs, Nat.reduceAdd, ↓vopx, ↓vop, Nat.reduceBEq, thenV, flat, Nat.reduceLT, dLoad, vpart, opII, gtmp, hl, h3, h4, wocs, ↓goc, ↓woc, ↓vopm0, ↓callC, ↓pick_ff, calleeV, Tryd.ag25, Tryd.sz25, nns, len_tInts, Tryd.underlying26, hfa, hfb, hfc, hlf, hlg]
    repeat ((with_reducible refine And.intro ?_ ?_); · first | exact ⟨Tryd.is40, by simpa only [hfa] using few8_ a (by omega) (by omega)⟩ | exact ⟨Tryd.is40, by simpa only [hfb] using few8_ b (by omega) (by omega)⟩ | exact ⟨Tryd.is40, by simpa only [hfc] using few8_ c (by omega) (by omega)⟩)
    refine hK5 _ _ ?_
    refine vw_cond_k fun A B hA hB => ?_
    simp only [condV, ev_hit, length_putv, Nat.reduceLT, true_implies, reduceCtorEq, false_implies, and_true, hl]
    refine hA ?_
    clear hA hB A B
    refine vw_seq_k fun K10 hK10 => ?_
    refine vw_sc 0 [] ?_
    simp only [bs, ↓vopx, ↓vop, thenV, flat, wocs, ↓goc, ↓woc, ↓vopm0]
    refine hK10 _ _ ?_
    refine vw_ret ?_
    refine hQ _ _ _ (.inr rfl) (done_tmp ?_ fun n b hn h => by simp [Sg.add, show n ≠ s.next by omega, show n ≠ s.next + 1 by omega, show n ≠ s.next + 1 + 1 by omega, h])
    try simp only [ev_hit, length_putv, hl, Nat.reduceLT]
  · have ba := few_le hfa
    have bb := few_le hfb
    have bc := few_le hfc
    refine vw_sc 0 [.pur (Bo (fewS a)), .pur (Bo (fewS b)), .pur (Bo (fewS c))] ?_
    simp only [bs, Nat.reduceAdd, ↓vopx, ↓vop, Nat.reduceBEq, thenV, flat, Nat.reduceLT, dLoad, vpart, opII, gtmp, hl, h3, h4, wocs, ↓goc, ↓woc, ↓vopm0, ↓callC, ↓pick_ff, calleeV, Tryd.ag25, Tryd.sz25, nns, len_tInts, Tryd.underlying26, hfa, hfb, hfc, hlf, hlg]
    repeat ((with_reducible refine And.intro ?_ ?_); · first | exact ⟨Tryd.is40, by simpa only [hfa] using few8_ a (by omega) (by omega)⟩ | exact ⟨Tryd.is40, by simpa only [hfb] using few8_ b (by omega) (by omega)⟩ | exact ⟨Tryd.is40, by simpa only [hfc] using few8_ c (by omega) (by omega)⟩)
    refine hK5 _ _ ?_
    refine vw_cond_k fun A B hA hB => ?_
    simp only [condV, ev_hit, length_putv, Nat.reduceLT, true_implies, reduceCtorEq, false_implies, true_and, hl]
    refine hB ?_
    clear hA hB A B
    refine vw_skip ?_
    refine hK4 _ _ ?_
    refine vw_seq_k fun K11 hK11 => ?_
    refine vw_en fun eqa hE => ?_
    have hlqa : eqa.length = 129 := by rw [hE]; simp only [length_putv, hl]
    have qa_3 : ev eqa (.tmp 3) = .t (tInts f) := by rw [hE]; simp only [ev_miss, Nat.reduceBEq, h3]
    have qa_4 : ev eqa (.tmp 4) = .t (tInts g) := by rw [hE]; simp only [ev_miss, Nat.reduceBEq, h4]
    have qa_5 : ev eqa (.tmp 5) = .ptr (s.next) 0 := by rw [hE]; simp only [ev_hit, ev_miss, Nat.reduceBEq, hl, Nat.reduceLT]
    have qa_6 : ev eqa (.tmp 6) = .ptr (s.next + 1) 0 := by rw [hE]; simp only [ev_hit, ev_miss, Nat.reduceBEq, length_putv, hl, Nat.reduceLT]
    have qa_7 : ev eqa (.tmp 7) = .ptr (s.next + 1 + 1) 0 := by rw [hE]; simp only [ev_hit, ev_miss, Nat.reduceBEq, length_putv, hl, Nat.reduceLT]
    clear hE
    refine vw_st fun sqa hS => ?_
    have qaB0 : sqa.m (s.next) = some (.box 25 [.t (tStrs a.labels), .t (tPairs a.pairs)]) := by rw [hS]; simp only [m_add, n_add, nns, if_true, if_false, ]
    have qaB1 : sqa.m (s.next + 1) = some (.box 25 [.t (tStrs b.labels), .t (tPairs b.pairs)]) := by rw [hS]; simp only [m_add, n_add, nns, if_true, if_false, ]
    have qaB2 : sqa.m (s.next + 1 + 1) = some (.box 25 [.t (tStrs c.labels), .t (tPairs c.pairs)]) := by rw [hS]; simp only [m_add, n_add, nns, if_true, if_false, ]
    have hnqa : sqa.next = s.next + 1 + 1 + 1 := by rw [hS]; simp only [n_add, ]
    have hkqa : ∀ j, j < s.next → sqa.m j = s.m j := fun j hj => by have z0 : ¬ j = s.next := (by omega); have z1 : ¬ j = s.next + 1 := (by omega); have z2 : ¬ j = s.next + 1 + 1 := (by omega); rw [hS]; simp only [m_add, n_add, z0, z1, z2, if_false]
    clear hS
    obtain ⟨u1, u2, u3, u4⟩ := pushR_lim a b c f g (by omega)
    obtain ⟨q, i, j, ec, hR⟩ : ∃ q i j ec, pushR a b c f g = (q, i, j, ec) := ⟨_, _, _, _, rfl⟩
    have hcs := push_cases a b c f g
    have hR0 := hR
    rw [hR] at hcs u1 u2 u3 u4
    simp only at u1 u2 u3 u4
    refine vw_sc 0 [.pur (.tup [vObj q, .t (tInts i), .t (tInts j), I ec])] ?_
    simp only [bs, Nat.reduceAdd, ↓vopx, ↓vop, Nat.reduceBEq, thenV, Nat.reduceLT, V.cells, dLoad, vpart, hlqa, qa_3, qa_4, qa_5, qa_6, qa_7, qaB0, qaB1, qaB2, hnqa, wocs, ↓goc, ↓woc, ↓vopm0, ↓callC, calleeV, Tryd.ag25, Tryd.sz25, Tryd.zv25]
    repeat ((with_reducible refine And.intro ?_ ?_); · exact ⟨Tryd.is23, by have := refPush_ a b c f g (by omega) (by omega) (by omega) (by omega) (by omega) (by omega) (by omega) (by omega); rw [hR, vsum_mk'] at this; exact this⟩)
    refine hK11 _ _ ?_
    refine vw_seq_k fun K12 hK12 => ?_
    refine vw_seq_k fun K13 hK13 => ?_
    refine vw_en fun eqb hE => ?_
    have hlqb : eqb.length = 129 := by rw [hE]; simp only [length_putv, hlqa]
    have qb_3 : ev eqb (.tmp 3) = .t (tInts f) := by rw [hE]; simp only [ev_miss, Nat.reduceBEq, qa_3]
    have qb_4 : ev eqb (.tmp 4) = .t (tInts g) := by rw [hE]; simp only [ev_miss, Nat.reduceBEq, qa_4]
    have qb_5 : ev eqb (.tmp 5) = .ptr (s.next) 0 := by rw [hE]; simp only [ev_miss, Nat.reduceBEq, qa_5]
    have qb_6 : ev eqb (.tmp 6) = .ptr (s.next + 1) 0 := by rw [hE]; simp only [ev_miss, Nat.reduceBEq, qa_6]
    have qb_7 : ev eqb (.tmp 7) = .ptr (s.next + 1 + 1) 0 := by rw [hE]; simp only [ev_miss, Nat.reduceBEq, qa_7]
    have qb_11 : ev eqb (.tmp 11) = .ptr (s.next + 1 + 1 + 1) 0 := by rw [hE]; simp only [ev_hit, ev_miss, Nat.reduceBEq, length_putv, hlqa, Nat.reduceLT]
    have qb_12 : ev eqb (.tmp 12) = .t (tInts i) := by rw [hE]; simp only [ev_hit, ev_miss, Nat.reduceBEq, length_putv, hlqa, Nat.reduceLT]
    have qb_13 : ev eqb (.tmp 13) = .t (tInts j) := by rw [hE]; simp only [ev_hit, ev_miss, Nat.reduceBEq, length_putv, hlqa, Nat.reduceLT]
    have qb_14 : ev eqb (.tmp 14) = I ec := by rw [hE]; simp only [ev_hit, length_putv, hlqa, Nat.reduceLT]
    clear hE
    refine vw_st fun sqb hS => ?_
    have qbB0 : sqb.m (s.next) = some (.box 25 [.t (tStrs a.labels), .t (tPairs a.pairs)]) := by rw [hS]; simp only [m_set, m_add, nns, if_false, qaB0, hnqa]
    have qbB1 : sqb.m (s.next + 1) = some (.box 25 [.t (tStrs b.labels), .t (tPairs b.pairs)]) := by rw [hS]; simp only [m_set, m_add, nns, if_false, qaB1, hnqa]
    have qbB2 : sqb.m (s.next + 1 + 1) = some (.box 25 [.t (tStrs c.labels), .t (tPairs c.pairs)]) := by rw [hS]; simp only [m_set, m_add, nns, if_false, qaB2, hnqa]
    have qbB3 : sqb.m (s.next + 1 + 1 + 1) = some (.box 25 [.t (tStrs q.labels), .t (tPairs q.pairs)]) := by rw [hS]; simp only [m_set, m_add, if_true, hnqa]
    have hnqb : sqb.next = s.next + 1 + 1 + 1 + 1 := by rw [hS]; simp only [n_add, n_set, hnqa]
    have hkqb : ∀ j, j < s.next → sqb.m j = s.m j := fun j hj => by have z0 : ¬ j = s.next := (by omega); have z1 : ¬ j = s.next + 1 := (by omega); have z2 : ¬ j = s.next + 1 + 1 := (by omega); have z3 : ¬ j = s.next + 1 + 1 + 1 := (by omega); rw [hS]; simp only [m_set, m_add, hnqa, z3, if_false, hkqa j hj]
    clear hS
    rcases hcs with ⟨e9, he0, hcs⟩ | ⟨q0, i0, j0, hh9, hcs, hS, hrf, hrg⟩
    · have hec : ec = e9 := by simp only [Prod.mk.injEq] at hcs; exact hcs.2.2.2
      rw [← hec] at he0
      refine vw_sc 0 [] ?_
      simp only [bs, ↓vopx, ↓vop, thenV, flat, Nat.reduceLT, opII, hlqb, qb_14, wocs, ↓goc, ↓woc, ↓vopm0]
      refine hK13 _ _ ?_
      refine vw_cond_k fun A B hA hB => ?_
      simp only [condV, ev_hit, length_putv, Nat.reduceLT, bne_iff_ne, bne_eq_false_iff_eq, ne_eq, true_implies, false_implies, and_true, hlqb, he0, not_false_eq_true]
      refine hA ?_
      clear hA hB A B
      refine vw_seq_k fun K14 hK14 => ?_
      refine vw_sc 0 [.pur (.tup [.t (tInts []), I ec])] ?_
      simp only [bs, Nat.reduceAdd, ↓vopx, ↓vop, Nat.reduceBEq, thenV, Nat.reduceLT, dLoad, vpart, hlqb, qb_3, qb_4, qb_5, qb_6, qb_7, qb_11, qb_12, qb_13, qbB0, qbB1, qbB2, qbB3, wocs, ↓goc, ↓woc, ↓vopm0, ↓callC, calleeV, Tryd.ag25, Tryd.sz25]
      repeat ((with_reducible refine And.intro ?_ ?_); · exact ⟨Tryd.is41, by have := mediate_ a b c f g q i j (by omega) (by omega) (by omega) (by omega) (by omega) (by omega) (by omega) (by omega) (by omega) (by omega) (by omega) (by omega); rw [no_med he0 hR0] at this; exact this⟩)
      refine hK14 _ _ ?_
      refine vw_seq_k fun K15 hK15 => ?_
      refine vw_en fun eqc hE => ?_
      have hlqc : eqc.length = 129 := by rw [hE]; simp only [length_putv, hlqb]
      have qc_14 : ev eqc (.tmp 14) = I ec := by rw [hE]; simp only [ev_miss, Nat.reduceBEq, qb_14]
      have qc_16 : ev eqc (.tmp 16) = I ec := by rw [hE]; simp only [ev_hit, length_putv, hlqb, Nat.reduceLT]
      clear hE
      refine vw_st fun sqc hS => ?_
      have hnqc : sqc.next = s.next + 1 + 1 + 1 + 1 := by rw [hS]; simp only [hnqb]
      have hkqc : ∀ j, j < s.next → sqc.m j = s.m j := fun j hj => by have z0 : ¬ j = s.next := (by omega); have z1 : ¬ j = s.next + 1 := (by omega); have z2 : ¬ j = s.next + 1 + 1 := (by omega); have z3 : ¬ j = s.next + 1 + 1 + 1 := (by omega); rw [hS]; simp only [hkqb j hj]
      clear hS
      refine vw_sc 0 [] ?_
      simp only [bs, ↓vopx, ↓vop, Nat.reduceBEq, thenV, Nat.reduceLT, opII, hlqc, qc_14, qc_16, wocs, ↓goc, ↓woc, ↓vopm0, beq_self_eq_true]
      refine hK15 _ _ ?_
      refine vw_ret ?_
      refine hQ _ _ _ (.inr rfl) (done_tmp ?_ fun n b hn h => (hkqc n hn).trans h)
      try simp only [ev_hit, length_putv, hlqc, Nat.reduceLT]
    · obtain ⟨rfl, rfl, rfl, rfl⟩ : q = q0 ∧ i = i0 ∧ j = j0 ∧ ec = 0 := by simpa only [Prod.mk.injEq] using hcs
      refine vw_sc 0 [] ?_
      simp only [bs, ↓vopx, ↓vop, thenV, flat, Nat.reduceLT, opII, hlqb, qb_14, wocs, ↓goc, ↓woc, ↓vopm0]
      refine hK13 _ _ ?_
      refine vw_cond_k fun A B hA hB => ?_
      simp only [condV, ev_hit, length_putv, Nat.reduceLT, bne_iff_ne, bne_eq_false_iff_eq, ne_eq, true_implies, false_implies, true_and, hlqb, not_true_eq_false]
      refine hB ?_
      clear hA hB A B
      refine vw_skip ?_
      refine hK12 _ _ ?_
      refine vw_seq_k fun K16 hK16 => ?_
      have hq40 := (arrS_iff.1 hS.a1).2.1.le
      have hqO := (arrS_iff.1 hS.a1).2.1
      have hidl := idS_len hq40
      refine vw_sc 0 [.pur (.tup [.t (tInts (idS (q.labels.length : Int))), I 0])] ?_
      simp only [bs, Nat.reduceAdd, ↓vopx, ↓vop, Nat.reduceBEq, thenV, Nat.reduceLT, dLoad, vpart, hlqb, qb_3, qb_4, qb_5, qb_6, qb_7, qb_11, qb_12, qb_13, qbB0, qbB1, qbB2, qbB3, wocs, ↓goc, ↓woc, ↓vopm0, ↓callC, calleeV, Tryd.ag25, Tryd.sz25]
      repeat ((with_reducible refine And.intro ?_ ?_); · exact ⟨Tryd.is41, by have := mediate_ a b c f g q i j (by omega) (by omega) (by omega) (by omega) (by omega) (by omega) (by omega) (by omega) (by omega) (by omega) (by omega) (by omega); rw [own_med hR0 hS] at this; exact this⟩)
      refine hK16 _ _ ?_
      refine vw_seq_k fun K17 hK17 => ?_
      refine vw_sc 0 [] ?_
      simp only [bs, dstT, srcT, ↓vopx, ↓vop, Nat.reduceBEq, thenV, flat, Nat.reduceLT, hlqb, qb_13, hnqb, wocs, ↓goc, ↓woc, ↓vopm0, Tryd.sl26, Nat.div_one]
      repeat ((with_reducible refine And.intro ?_ ?_); · omega)
      refine hK17 _ _ ?_
      refine vw_seq_k fun K18 hK18 => ?_
      refine vw_seq_k fun K19 hK19 => ?_
      refine vw_en fun eqd hE => ?_
      have hlqd : eqd.length = 129 := by rw [hE]; simp only [length_putv, hlqb]
      have qd_3 : ev eqd (.tmp 3) = .t (tInts f) := by rw [hE]; simp only [ev_miss, Nat.reduceBEq, qb_3]
      have qd_4 : ev eqd (.tmp 4) = .t (tInts g) := by rw [hE]; simp only [ev_miss, Nat.reduceBEq, qb_4]
      have qd_5 : ev eqd (.tmp 5) = .ptr (s.next) 0 := by rw [hE]; simp only [ev_miss, Nat.reduceBEq, qb_5]
      have qd_6 : ev eqd (.tmp 6) = .ptr (s.next + 1) 0 := by rw [hE]; simp only [ev_miss, Nat.reduceBEq, qb_6]
      have qd_7 : ev eqd (.tmp 7) = .ptr (s.next + 1 + 1) 0 := by rw [hE]; simp only [ev_miss, Nat.reduceBEq, qb_7]
      have qd_11 : ev eqd (.tmp 11) = .ptr (s.next + 1 + 1 + 1) 0 := by rw [hE]; simp only [ev_miss, Nat.reduceBEq, qb_11]
      have qd_12 : ev eqd (.tmp 12) = .t (tInts i) := by rw [hE]; simp only [ev_miss, Nat.reduceBEq, qb_12]
      have qd_13 : ev eqd (.tmp 13) = .t (tInts j) := by rw [hE]; simp only [ev_miss, Nat.reduceBEq, qb_13]
      have qd_17 : ev eqd (.tmp 17) = .t (tInts (idS (q.labels.length : Int))) := by rw [hE]; simp only [ev_hit, ev_miss, Nat.reduceBEq, length_putv, hlqb, Nat.reduceLT]
      have qd_18 : ev eqd (.tmp 18) = I 0 := by rw [hE]; simp only [ev_hit, ev_miss, Nat.reduceBEq, length_putv, hlqb, Nat.reduceLT]
      have qd_19 : ev eqd (.tmp 19) = .loc (s.next + 1 + 1 + 1 + 1) 0 j.length := by rw [hE]; simp only [ev_hit, length_putv, hlqb, Nat.reduceLT]
      clear hE
      refine vw_st fun sqd hS => ?_
      have qdB0 : sqd.m (s.next) = some (.box 25 [.t (tStrs a.labels), .t (tPairs a.pairs)]) := by rw [hS]; simp only [m_add, nns, if_false, qbB0, hnqb]
      have qdB1 : sqd.m (s.next + 1) = some (.box 25 [.t (tStrs b.labels), .t (tPairs b.pairs)]) := by rw [hS]; simp only [m_add, nns, if_false, qbB1, hnqb]
      have qdB2 : sqd.m (s.next + 1 + 1) = some (.box 25 [.t (tStrs c.labels), .t (tPairs c.pairs)]) := by rw [hS]; simp only [m_add, nns, if_false, qbB2, hnqb]
      have qdB3 : sqd.m (s.next + 1 + 1 + 1) = some (.box 25 [.t (tStrs q.labels), .t (tPairs q.pairs)]) := by rw [hS]; simp only [m_add, nns, if_false, qbB3, hnqb]
      have qdM : sqd.m (s.next + 1 + 1 + 1 + 1) = some (.arr 1 3 (j.map TI)) := by rw [hS]; simp only [m_add, if_true, hnqb]
      have hnqd : sqd.next = s.next + 1 + 1 + 1 + 1 + 1 := by rw [hS]; simp only [n_add, hnqb]
      have hkqd : ∀ j, j < s.next → sqd.m j = s.m j := fun j hj => by have z0 : ¬ j = s.next := (by omega); have z1 : ¬ j = s.next + 1 := (by omega); have z2 : ¬ j = s.next + 1 + 1 := (by omega); have z3 : ¬ j = s.next + 1 + 1 + 1 := (by omega); have z4 : ¬ j = s.next + 1 + 1 + 1 + 1 := (by omega); rw [hS]; simp only [m_add, hnqb, z4, if_false, hkqb j hj]
      clear hS
      rcases (show j.length = 0 ∨ 0 < j.length by omega) with hj | hj
      · have hq : decide ((j.length : Int) > 0) = false := decide_eq_false (by omega)
        obtain ⟨bad, hbad⟩ : ∃ bad, bad = j := ⟨_, rfl⟩
        refine vw_sc 0 [] ?_
        simp only [bs, ↓vopx, ↓vop, thenV, flat, Nat.reduceLT, opII, hlqd, qd_19, wocs, ↓goc, ↓woc, ↓vopm0, Tryd.underlying26, hq]
        refine hK19 _ _ ?_
        refine vw_cond_k fun A B hA hB => ?_
        simp only [condV, ev_hit, length_putv, Nat.reduceLT, true_implies, reduceCtorEq, false_implies, true_and, hlqd]
        refine hB ?_
        clear hA hB A B
        refine vw_skip ?_
        refine hK18 _ _ ?_
        refine vw_seq_k fun K20 hK20 => ?_
        have hbl : bad.length = j.length := by subst hbad; simp
        refine vw_st2 fun sx hSx => ?_
        have hbm : sx.m (s.next + 1 + 1 + 1 + 1) = some (.arr 1 3 (bad.map TI)) := by
          rw [hSx, hbad]
          first
            | exact qdM
            | (rw [m_set, if_pos rfl]; rw [show (T.v (Value.int .i64 (-1))) = TI (-1) from rfl, setAll_TI2 _ hj])
        have hbk : ∀ x, x ≠ s.next + 1 + 1 + 1 + 1 → sx.m x = sqd.m x := by
          intro x hx
          subst hSx
          first
            | rfl
            | exact (by rw [m_set, if_neg hx])
        have hbn : sx.next = sqd.next := by subst hSx; rfl
        clear hSx
        have hx0 : sx.m (s.next) = some (.box 25 [.t (tStrs a.labels), .t (tPairs a.pairs)]) := by rw [hbk _ (by omega)]; exact qdB0
        have hx1 : sx.m (s.next + 1) = some (.box 25 [.t (tStrs b.labels), .t (tPairs b.pairs)]) := by rw [hbk _ (by omega)]; exact qdB1
        have hx2 : sx.m (s.next + 1 + 1) = some (.box 25 [.t (tStrs c.labels), .t (tPairs c.pairs)]) := by rw [hbk _ (by omega)]; exact qdB2
        have hx3 : sx.m (s.next + 1 + 1 + 1) = some (.box 25 [.t (tStrs q.labels), .t (tPairs q.pairs)]) := by rw [hbk _ (by omega)]; exact qdB3
        have hkx : ∀ x, x < s.next → sx.m x = s.m x := fun x hx => by rw [hbk x (by omega)]; exact hkqd x hx
        refine VW.freeze 19 (n := s.next + 1 + 1 + 1 + 1) (len := j.length) (k := 1) (el := 3) (cs := bad.map TI) ?_ hbm (by rw [List.length_map, hbl, Nat.mul_one]) ?_
        · simp only [ev_miss, Nat.reduceBEq, qd_19]
        change VW _ _ _ (putv _ (some 19) (.t (tInts bad))) _
        refine vw_en fun eqf hE => ?_
        have hlqf : eqf.length = 129 := by rw [hE]; simp only [length_putv, hlqd]
        have qf_3 : ev eqf (.tmp 3) = .t (tInts f) := by rw [hE]; simp only [ev_miss, Nat.reduceBEq, qd_3]
        have qf_4 : ev eqf (.tmp 4) = .t (tInts g) := by rw [hE]; simp only [ev_miss, Nat.reduceBEq, qd_4]
        have qf_5 : ev eqf (.tmp 5) = .ptr (s.next) 0 := by rw [hE]; simp only [ev_miss, Nat.reduceBEq, qd_5]
        have qf_6 : ev eqf (.tmp 6) = .ptr (s.next + 1) 0 := by rw [hE]; simp only [ev_miss, Nat.reduceBEq, qd_6]
        have qf_7 : ev eqf (.tmp 7) = .ptr (s.next + 1 + 1) 0 := by rw [hE]; simp only [ev_miss, Nat.reduceBEq, qd_7]
        have qf_11 : ev eqf (.tmp 11) = .ptr (s.next + 1 + 1 + 1) 0 := by rw [hE]; simp only [ev_miss, Nat.reduceBEq, qd_11]
        have qf_12 : ev eqf (.tmp 12) = .t (tInts i) := by rw [hE]; simp only [ev_miss, Nat.reduceBEq, qd_12]
        have qf_13 : ev eqf (.tmp 13) = .t (tInts j) := by rw [hE]; simp only [ev_miss, Nat.reduceBEq, qd_13]
        have qf_17 : ev eqf (.tmp 17) = .t (tInts (idS (q.labels.length : Int))) := by rw [hE]; simp only [ev_miss, Nat.reduceBEq, qd_17]
        have qf_18 : ev eqf (.tmp 18) = I 0 := by rw [hE]; simp only [ev_miss, Nat.reduceBEq, qd_18]
        have qf_19 : ev eqf (.tmp 19) = .t (tInts bad) := by rw [hE]; simp only [ev_hit, length_putv, hlqd, Nat.reduceLT]
        clear hE
        refine vw_st fun sqf hS => ?_
        have qfB0 : sqf.m (s.next) = some (.box 25 [.t (tStrs a.labels), .t (tPairs a.pairs)]) := by rw [hS]; simp only [m_del, nns, if_false, hx0]
        have qfB1 : sqf.m (s.next + 1) = some (.box 25 [.t (tStrs b.labels), .t (tPairs b.pairs)]) := by rw [hS]; simp only [m_del, nns, if_false, hx1]
        have qfB2 : sqf.m (s.next + 1 + 1) = some (.box 25 [.t (tStrs c.labels), .t (tPairs c.pairs)]) := by rw [hS]; simp only [m_del, nns, if_false, hx2]
        have qfB3 : sqf.m (s.next + 1 + 1 + 1) = some (.box 25 [.t (tStrs q.labels), .t (tPairs q.pairs)]) := by rw [hS]; simp only [m_del, nns, if_false, hx3]
        have hnqf : sqf.next = s.next + 1 + 1 + 1 + 1 + 1 := by rw [hS]; simp only [n_del, hbn, hnqd]
        have hkqf : ∀ j, j < s.next → sqf.m j = s.m j := fun j hj => by have z0 : ¬ j = s.next := (by omega); have z1 : ¬ j = s.next + 1 := (by omega); have z2 : ¬ j = s.next + 1 + 1 := (by omega); have z3 : ¬ j = s.next + 1 + 1 + 1 := (by omega); have z4 : ¬ j = s.next + 1 + 1 + 1 + 1 := (by omega); rw [hS]; simp only [m_del, z4, if_false, hkx j hj]
        clear hS
        obtain ⟨wz, ez, hmz⟩ : ∃ wz ez, medS a b c f g q i bad = (wz, ez) := ⟨_, _, rfl⟩
        refine vw_sc 0 [.pur (.tup [.t (tInts wz), I ez])] ?_
        simp only [bs, Nat.reduceAdd, ↓vopx, ↓vop, Nat.reduceBEq, thenV, Nat.reduceLT, dLoad, vpart, hlqf, qf_3, qf_4, qf_5, qf_6, qf_7, qf_11, qf_12, qf_19, qfB0, qfB1, qfB2, qfB3, wocs, ↓goc, ↓woc, ↓vopm0, ↓callC, calleeV, Tryd.ag25, Tryd.sz25]
        repeat ((with_reducible refine And.intro ?_ ?_); · exact ⟨Tryd.is41, by have := mediate_ a b c f g q i bad (by omega) (by omega) (by omega) (by omega) (by omega) (by omega) (by omega) (by omega) (by omega) (by omega) (by omega) (by omega); rw [hmz] at this; exact this⟩)
        refine hK20 _ _ ?_
        refine vw_seq_k fun K21 hK21 => ?_
        refine vw_en fun eqg hE => ?_
        have hlqg : eqg.length = 129 := by rw [hE]; simp only [length_putv, hlqf]
        have qg_11 : ev eqg (.tmp 11) = .ptr (s.next + 1 + 1 + 1) 0 := by rw [hE]; simp only [ev_miss, Nat.reduceBEq, qf_11]
        have qg_13 : ev eqg (.tmp 13) = .t (tInts j) := by rw [hE]; simp only [ev_miss, Nat.reduceBEq, qf_13]
        have qg_17 : ev eqg (.tmp 17) = .t (tInts (idS (q.labels.length : Int))) := by rw [hE]; simp only [ev_miss, Nat.reduceBEq, qf_17]
        have qg_18 : ev eqg (.tmp 18) = I 0 := by rw [hE]; simp only [ev_miss, Nat.reduceBEq, qf_18]
        have qg_21 : ev eqg (.tmp 21) = I ez := by rw [hE]; simp only [ev_hit, length_putv, hlqf, Nat.reduceLT]
        clear hE
        refine vw_st fun sqg hS => ?_
        have qgB0 : sqg.m (s.next) = some (.box 25 [.t (tStrs a.labels), .t (tPairs a.pairs)]) := by rw [hS]; simp only [qfB0]
        have qgB1 : sqg.m (s.next + 1) = some (.box 25 [.t (tStrs b.labels), .t (tPairs b.pairs)]) := by rw [hS]; simp only [qfB1]
        have qgB2 : sqg.m (s.next + 1 + 1) = some (.box 25 [.t (tStrs c.labels), .t (tPairs c.pairs)]) := by rw [hS]; simp only [qfB2]
        have qgB3 : sqg.m (s.next + 1 + 1 + 1) = some (.box 25 [.t (tStrs q.labels), .t (tPairs q.pairs)]) := by rw [hS]; simp only [qfB3]
        have hnqg : sqg.next = s.next + 1 + 1 + 1 + 1 + 1 := by rw [hS]; simp only [hnqf]
        have hkqg : ∀ j, j < s.next → sqg.m j = s.m j := fun j hj => by have z0 : ¬ j = s.next := (by omega); have z1 : ¬ j = s.next + 1 := (by omega); have z2 : ¬ j = s.next + 1 + 1 := (by omega); have z3 : ¬ j = s.next + 1 + 1 + 1 := (by omega); have z4 : ¬ j = s.next + 1 + 1 + 1 + 1 := (by omega); rw [hS]; simp only [hkqf j hj]
        clear hS
        rcases (show j.length = 0 ∨ 0 < j.length by omega) with hj2 | hj2
        · have hb1 : ((j.length : Int) == 0) = true := by simp [hj2]
          refine vw_sc 0 [.pur (.t (tInts (idS (q.labels.length : Int)))), .pur (Bo true), .pur (Bo true)] ?_
          simp only [bs, Nat.reduceAdd, ↓vopx, ↓vop, Nat.reduceBEq, thenV, flat, Nat.reduceLT, dLoad, vpart, opII, gtmp, hlqg, qg_11, qg_13, qg_17, qg_18, qgB3, wocs, ↓goc, ↓woc, ↓vopm0, ↓callC, ↓pick_tt, ↓pick_tf, calleeV, Tryd.ag22, Tryd.ag25, Tryd.fd25_0, Tryd.sz22, Tryd.sz25, Tryd.un22, nns, len_tInts, len_tStrs, Tryd.underlying26, hb1, beq_self_eq_true]
          repeat ((with_reducible refine And.intro ?_ ?_); · first | exact ⟨Tryd.is35, identity_ _⟩ | exact ⟨Tryd.is33, by have := arrowSame_ (idS (q.labels.length : Int)) (idS (q.labels.length : Int)) (by omega) (by omega); rw [beq_self_eq_true] at this; exact this⟩ | exact ⟨Tryd.is31, by have := refIsOb_ q (by omega) (by omega); rw [checkS_zero.2 hqO] at this; exact this⟩)
          refine hK21 _ _ ?_
          refine vw_ret ?_
          refine hQ _ _ _ (.inr rfl) (done_tmp ?_ fun n b hn h => (hkqg n hn).trans h)
          try simp only [ev_hit, length_putv, hlqg, Nat.reduceLT]
        · have hb1 : ((j.length : Int) == 0) = false := beq_eq_false_iff_ne.2 (by omega)
          have h1 : (-1 : Int) ∈ bad := by
            rw [hbad]
            first
              | (exfalso; omega)
              | exact List.mem_of_getElem? (i := 0) (by rw [List.getElem?_set_self hj2])
          have hez : ez = 12 := by have := bad_med hR0 hS h1; rw [hmz] at this; simp only [Prod.mk.injEq] at this; exact this.2
          refine vw_sc 0 [.pur (.t (tInts (idS (q.labels.length : Int)))), .pur (Bo true), .pur (Bo true)] ?_
          simp only [bs, Nat.reduceAdd, ↓vopx, ↓vop, Nat.reduceBEq, thenV, flat, Nat.reduceLT, dLoad, vpart, opII, gtmp, hlqg, qg_11, qg_13, qg_17, qg_18, qg_21, qgB3, wocs, ↓goc, ↓woc, ↓vopm0, ↓callC, ↓pick_tt, ↓pick_ff, calleeV, Tryd.ag22, Tryd.ag25, Tryd.fd25_0, Tryd.sz22, Tryd.sz25, Tryd.un22, nns, len_tInts, len_tStrs, Tryd.underlying26, hb1, hez, beq_self_eq_true]
          repeat ((with_reducible refine And.intro ?_ ?_); · omega)
          refine hK21 _ _ ?_
          refine vw_ret ?_
          refine hQ _ _ _ (.inr rfl) (done_tmp ?_ fun n b hn h => (hkqg n hn).trans h)
          try simp only [ev_hit, length_putv, hlqg, Nat.reduceLT]
      · have hq : decide ((j.length : Int) > 0) = true := decide_eq_true (by omega)
        obtain ⟨bad, hbad⟩ : ∃ bad, bad = j.set 0 (-1) := ⟨_, rfl⟩
        refine vw_sc 0 [] ?_
        simp only [bs, ↓vopx, ↓vop, thenV, flat, Nat.reduceLT, opII, hlqd, qd_19, wocs, ↓goc, ↓woc, ↓vopm0, Tryd.underlying26, hq]
        refine hK19 _ _ ?_
        refine vw_cond_k fun A B hA hB => ?_
        simp only [condV, ev_hit, length_putv, Nat.reduceLT, true_implies, reduceCtorEq, false_implies, and_true, hlqd]
        refine hA ?_
        clear hA hB A B
        refine vw_sc 0 [] ?_
        simp only [bs, ↓vopx, ↓vop, Nat.reduceBEq, thenV, flat, Nat.reduceLT, V.cells, Sg.frzL, Sg.frz1, hlqd, qd_19, qdM, wocs, ↓goc, ↓woc, ↓vopm0, Tryd.sz3, Tryd.un26, Int.toNat_zero]
        repeat ((with_reducible refine And.intro ?_ ?_); · omega)
        refine hK18 _ _ ?_
        refine vw_seq_k fun K22 hK22 => ?_
        have hbl : bad.length = j.length := by subst hbad; simp
        refine vw_st2 fun sx hSx => ?_
        have hbm : sx.m (s.next + 1 + 1 + 1 + 1) = some (.arr 1 3 (bad.map TI)) := by
          rw [hSx, hbad]
          first
            | exact qdM
            | (rw [m_set, if_pos rfl]; rw [show (T.v (Value.int .i64 (-1))) = TI (-1) from rfl, setAll_TI2 _ hj])
        have hbk : ∀ x, x ≠ s.next + 1 + 1 + 1 + 1 → sx.m x = sqd.m x := by
          intro x hx
          subst hSx
          first
            | rfl
            | exact (by rw [m_set, if_neg hx])
        have hbn : sx.next = sqd.next := by subst hSx; rfl
        clear hSx
        have hx0 : sx.m (s.next) = some (.box 25 [.t (tStrs a.labels), .t (tPairs a.pairs)]) := by rw [hbk _ (by omega)]; exact qdB0
        have hx1 : sx.m (s.next + 1) = some (.box 25 [.t (tStrs b.labels), .t (tPairs b.pairs)]) := by rw [hbk _ (by omega)]; exact qdB1
        have hx2 : sx.m (s.next + 1 + 1) = some (.box 25 [.t (tStrs c.labels), .t (tPairs c.pairs)]) := by rw [hbk _ (by omega)]; exact qdB2
        have hx3 : sx.m (s.next + 1 + 1 + 1) = some (.box 25 [.t (tStrs q.labels), .t (tPairs q.pairs)]) := by rw [hbk _ (by omega)]; exact qdB3
        have hkx : ∀ x, x < s.next → sx.m x = s.m x := fun x hx => by rw [hbk x (by omega)]; exact hkqd x hx
        refine VW.freeze 19 (n := s.next + 1 + 1 + 1 + 1) (len := j.length) (k := 1) (el := 3) (cs := bad.map TI) ?_ hbm (by rw [List.length_map, hbl, Nat.mul_one]) ?_
        · simp only [ev_miss, Nat.reduceBEq, qd_19]
        change VW _ _ _ (putv _ (some 19) (.t (tInts bad))) _
        refine vw_en fun eqf hE => ?_
        have hlqf : eqf.length = 129 := by rw [hE]; simp only [length_putv, hlqd]
        have qf_3 : ev eqf (.tmp 3) = .t (tInts f) := by rw [hE]; simp only [ev_miss, Nat.reduceBEq, qd_3]
        have qf_4 : ev eqf (.tmp 4) = .t (tInts g) := by rw [hE]; simp only [ev_miss, Nat.reduceBEq, qd_4]
        have qf_5 : ev eqf (.tmp 5) = .ptr (s.next) 0 := by rw [hE]; simp only [ev_miss, Nat.reduceBEq, qd_5]
        have qf_6 : ev eqf (.tmp 6) = .ptr (s.next + 1) 0 := by rw [hE]; simp only [ev_miss, Nat.reduceBEq, qd_6]
        have qf_7 : ev eqf (.tmp 7) = .ptr (s.next + 1 + 1) 0 := by rw [hE]; simp only [ev_miss, Nat.reduceBEq, qd_7]
        have qf_11 : ev eqf (.tmp 11) = .ptr (s.next + 1 + 1 + 1) 0 := by rw [hE]; simp only [ev_miss, Nat.reduceBEq, qd_11]
        have qf_12 : ev eqf (.tmp 12) = .t (tInts i) := by rw [hE]; simp only [ev_miss, Nat.reduceBEq, qd_12]
        have qf_13 : ev eqf (.tmp 13) = .t (tInts j) := by rw [hE]; simp only [ev_miss, Nat.reduceBEq, qd_13]
        have qf_17 : ev eqf (.tmp 17) = .t (tInts (idS (q.labels.length : Int))) := by rw [hE]; simp only [ev_miss, Nat.reduceBEq, qd_17]
        have qf_18 : ev eqf (.tmp 18) = I 0 := by rw [hE]; simp only [ev_miss, Nat.reduceBEq, qd_18]
        have qf_19 : ev eqf (.tmp 19) = .t (tInts bad) := by rw [hE]; simp only [ev_hit, length_putv, hlqd, Nat.reduceLT]
        clear hE
        refine vw_st fun sqf hS => ?_
        have qfB0 : sqf.m (s.next) = some (.box 25 [.t (tStrs a.labels), .t (tPairs a.pairs)]) := by rw [hS]; simp only [m_del, nns, if_false, hx0]
        have qfB1 : sqf.m (s.next + 1) = some (.box 25 [.t (tStrs b.labels), .t (tPairs b.pairs)]) := by rw [hS]; simp only [m_del, nns, if_false, hx1]
        have qfB2 : sqf.m (s.next + 1 + 1) = some (.box 25 [.t (tStrs c.labels), .t (tPairs c.pairs)]) := by rw [hS]; simp only [m_del, nns, if_false, hx2]
        have qfB3 : sqf.m (s.next + 1 + 1 + 1) = some (.box 25 [.t (tStrs q.labels), .t (tPairs q.pairs)]) := by rw [hS]; simp only [m_del, nns, if_false, hx3]
        have hnqf : sqf.next = s.next + 1 + 1 + 1 + 1 + 1 := by rw [hS]; simp only [n_del, hbn, hnqd]
        have hkqf : ∀ j, j < s.next → sqf.m j = s.m j := fun j hj => by have z0 : ¬ j = s.next := (by omega); have z1 : ¬ j = s.next + 1 := (by omega); have z2 : ¬ j = s.next + 1 + 1 := (by omega); have z3 : ¬ j = s.next + 1 + 1 + 1 := (by omega); have z4 : ¬ j = s.next + 1 + 1 + 1 + 1 := (by omega); rw [hS]; simp only [m_del, z4, if_false, hkx j hj]
        clear hS
        obtain ⟨wz, ez, hmz⟩ : ∃ wz ez, medS a b c f g q i bad = (wz, ez) := ⟨_, _, rfl⟩
        refine vw_sc 0 [.pur (.tup [.t (tInts wz), I ez])] ?_
        simp only [bs, Nat.reduceAdd, ↓vopx, ↓vop, Nat.reduceBEq, thenV, Nat.reduceLT, dLoad, vpart, hlqf, qf_3, qf_4, qf_5, qf_6, qf_7, qf_11, qf_12, qf_19, qfB0, qfB1, qfB2, qfB3, wocs, ↓goc, ↓woc, ↓vopm0, ↓callC, calleeV, Tryd.ag25, Tryd.sz25]
        repeat ((with_reducible refine And.intro ?_ ?_); · exact ⟨Tryd.is41, by have := mediate_ a b c f g q i bad (by omega) (by omega) (by omega) (by omega) (by omega) (by omega) (by omega) (by omega) (by omega) (by omega) (by omega) (by omega); rw [hmz] at this; exact this⟩)
        refine hK22 _ _ ?_
        refine vw_seq_k fun K23 hK23 => ?_
        refine vw_en fun eqg hE => ?_
        have hlqg : eqg.length = 129 := by rw [hE]; simp only [length_putv, hlqf]
        have qg_11 : ev eqg (.tmp 11) = .ptr (s.next + 1 + 1 + 1) 0 := by rw [hE]; simp only [ev_miss, Nat.reduceBEq, qf_11]
        have qg_13 : ev eqg (.tmp 13) = .t (tInts j) := by rw [hE]; simp only [ev_miss, Nat.reduceBEq, qf_13]
        have qg_17 : ev eqg (.tmp 17) = .t (tInts (idS (q.labels.length : Int))) := by rw [hE]; simp only [ev_miss, Nat.reduceBEq, qf_17]
        have qg_18 : ev eqg (.tmp 18) = I 0 := by rw [hE]; simp only [ev_miss, Nat.reduceBEq, qf_18]
        have qg_21 : ev eqg (.tmp 21) = I ez := by rw [hE]; simp only [ev_hit, length_putv, hlqf, Nat.reduceLT]
        clear hE
        refine vw_st fun sqg hS => ?_
        have qgB0 : sqg.m (s.next) = some (.box 25 [.t (tStrs a.labels), .t (tPairs a.pairs)]) := by rw [hS]; simp only [qfB0]
        have qgB1 : sqg.m (s.next + 1) = some (.box 25 [.t (tStrs b.labels), .t (tPairs b.pairs)]) := by rw [hS]; simp only [qfB1]
        have qgB2 : sqg.m (s.next + 1 + 1) = some (.box 25 [.t (tStrs c.labels), .t (tPairs c.pairs)]) := by rw [hS]; simp only [qfB2]
        have qgB3 : sqg.m (s.next + 1 + 1 + 1) = some (.box 25 [.t (tStrs q.labels), .t (tPairs q.pairs)]) := by rw [hS]; simp only [qfB3]
        have hnqg : sqg.next = s.next + 1 + 1 + 1 + 1 + 1 := by rw [hS]; simp only [hnqf]
        have hkqg : ∀ j, j < s.next → sqg.m j = s.m j := fun j hj => by have z0 : ¬ j = s.next := (by omega); have z1 : ¬ j = s.next + 1 := (by omega); have z2 : ¬ j = s.next + 1 + 1 := (by omega); have z3 : ¬ j = s.next + 1 + 1 + 1 := (by omega); have z4 : ¬ j = s.next + 1 + 1 + 1 + 1 := (by omega); rw [hS]; simp only [hkqf j hj]
        clear hS
        rcases (show j.length = 0 ∨ 0 < j.length by omega) with hj2 | hj2
        · have hb1 : ((j.length : Int) == 0) = true := by simp [hj2]
          refine vw_sc 0 [.pur (.t (tInts (idS (q.labels.length : Int)))), .pur (Bo true), .pur (Bo true)] ?_
          simp only [bs, Nat.reduceAdd, ↓vopx, ↓vop, Nat.reduceBEq, thenV, flat, Nat.reduceLT, dLoad, vpart, opII, gtmp, hlqg, qg_11, qg_13, qg_17, qg_18, qgB3, wocs, ↓goc, ↓woc, ↓vopm0, ↓callC, ↓pick_tt, ↓pick_tf, calleeV, Tryd.ag22, Tryd.ag25, Tryd.fd25_0, Tryd.sz22, Tryd.sz25, Tryd.un22, nns, len_tInts, len_tStrs, Tryd.underlying26, hb1, beq_self_eq_true]
          repeat ((with_reducible refine And.intro ?_ ?_); · omega)
          refine hK23 _ _ ?_
          refine vw_ret ?_
          refine hQ _ _ _ (.inr rfl) (done_tmp ?_ fun n b hn h => (hkqg n hn).trans h)
          try simp only [ev_hit, length_putv, hlqg, Nat.reduceLT]
        · have hb1 : ((j.length : Int) == 0) = false := beq_eq_false_iff_ne.2 (by omega)
          have h1 : (-1 : Int) ∈ bad := by
            rw [hbad]
            first
              | (exfalso; omega)
              | exact List.mem_of_getElem? (i := 0) (by rw [List.getElem?_set_self hj2])
          have hez : ez = 12 := by have := bad_med hR0 hS h1; rw [hmz] at this; simp only [Prod.mk.injEq] at this; exact this.2
          refine vw_sc 0 [.pur (.t (tInts (idS (q.labels.length : Int)))), .pur (Bo true), .pur (Bo true)] ?_
          simp only [bs, Nat.reduceAdd, ↓vopx, ↓vop, Nat.reduceBEq, thenV, flat, Nat.reduceLT, dLoad, vpart, opII, gtmp, hlqg, qg_11, qg_13, qg_17, qg_18, qg_21, qgB3, wocs, ↓goc, ↓woc, ↓vopm0, ↓callC, ↓pick_tt, ↓pick_ff, calleeV, Tryd.ag22, Tryd.ag25, Tryd.fd25_0, Tryd.sz22, Tryd.sz25, Tryd.un22, nns, len_tInts, len_tStrs, Tryd.underlying26, hb1, hez, beq_self_eq_true]
          repeat ((with_reducible refine And.intro ?_ ?_); · first | exact ⟨Tryd.is35, identity_ _⟩ | exact ⟨Tryd.is33, by have := arrowSame_ (idS (q.labels.length : Int)) (idS (q.labels.length : Int)) (by omega) (by omega); rw [beq_self_eq_true] at this; exact this⟩ | exact ⟨Tryd.is31, by have := refIsOb_ q (by omega) (by omega); rw [checkS_zero.2 hqO] at this; exact this⟩)
          refine hK23 _ _ ?_
          refine vw_ret ?_
          refine hQ _ _ _ (.inr rfl) (done_tmp ?_ fun n b hn h => (hkqg n hn).trans h)
          try simp only [ev_hit, length_putv, hlqg, Nat.reduceLT]

end Go.Proofs

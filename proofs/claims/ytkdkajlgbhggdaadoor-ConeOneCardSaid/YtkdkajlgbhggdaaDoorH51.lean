/- Steps on the way to the statement that the last text of this claim proves: an abstract machine over the code, proved sound, and what the functions come to over it. No condition of their own. -/
import Derived.Test.YtkdkajlgbhggdaaDoorH34
import Derived.Test.YtkdkajlgbhggdaaDoorH44
import Derived.Test.YtkdkajlgbhggdaaDoorH50
open Go Go.V
namespace Go.Proofs

theorem far_bb (x y : Operand) (b : Bool) : opFar .eql (Bo b) (Bo b) Tryd.prog 4 x y (.bool true) := .inl ⟨.bool b, .bool b, rfl, rfl, by
  unfold vbin eqGuard Go.binOp
  cases b
  · simp only []; kernel_rfl
  · simp only []; kernel_rfl⟩

end Go.Proofs

open Go Go.V
namespace Go.Proofs
theorem med_cases (a b c : Ob) (f g : List Int) (d : Ob) (h k : List Int) : (∃ e : Int, e ≠ 0 ∧ medS a b c f g d h k = ([], e)) ∨ ∃ q i j hh u, medS a b c f g d h k = (u, 0) ∧ pushR a b c f g = (q, i, j, 0) ∧ SqS b c f g q i j hh ∧ MedS q i j d h k u := by
  rcases push_cases a b c f g with ⟨e, he, hR⟩ | ⟨q, i, j, hh, hR, hS, _, _⟩
  · left; refine ⟨e, he, ?_⟩; unfold medS; rw [hR]; exact if_pos he
  · by_cases hd : 40 < d.labels.length
    · left; refine ⟨11, by decide, ?_⟩; unfold medS; rw [hR, if_neg (by simp), if_pos hd]
    · by_cases hc : coS a b c f g d h k = false
      · left; refine ⟨12, by decide, ?_⟩; unfold medS; rw [hR, if_neg (by simp), if_neg hd, if_pos hc]
      · right
        have hc' : coS a b c f g d h k = true := by simpa using hc
        exact ⟨q, i, j, hh, _, by unfold medS; rw [hR, if_neg (by simp), if_neg hd, if_neg hc], hR, hS, med_of hR hS hc'⟩
theorem nc0' : ((0 : Nat) : Int) = 0 := rfl

set_option maxRecDepth 20000 in
set_option maxHeartbeats 8000000 in
theorem lawOne_ (a b c : Ob) (f g : List Int) (d : Ob) (h k o : List Int) (ha1 : a.labels.length ≤ 9223372036854775807) (ha2 : a.pairs.length ≤ 9223372036854775807) (hb1 : b.labels.length ≤ 9223372036854775807) (hb2 : b.pairs.length ≤ 9223372036854775807) (hc1 : c.labels.length ≤ 9223372036854775807) (hc2 : c.pairs.length ≤ 9223372036854775807) (hd1 : d.labels.length ≤ 9223372036854775807) (hd2 : d.pairs.length ≤ 9223372036854775807) : PCall Tryd.prog 10 [vObj a, vObj b, vObj c, .t (tInts f), .t (tInts g), vObj d, .t (tInts h), .t (tInts k), .t (tInts o)] (Bo true) := by
  refine pcall_of_body Tryd.func10 rfl fun s Q hQ => ?_
  obtain ⟨e, he, hl, h0, h1, h2, h3, h4, h5, h6, h7, h8⟩ : ∃ e : Env, ([vObj a, vObj b, vObj c, .t (tInts f), .t (tInts g), vObj d, .t (tInts h), .t (tInts k), .t (tInts o)] ++ List.replicate (Tryd.f10.ntmps - ([vObj a, vObj b, vObj c, .t (tInts f), .t (tInts g), vObj d, .t (tInts h), .t (tInts k), .t (tInts o)] : List V).length) .junk) = e ∧ e.length = 176 ∧ ev e (.tmp 0) = vObj a ∧ ev e (.tmp 1) = vObj b ∧ ev e (.tmp 2) = vObj c ∧ ev e (.tmp 3) = .t (tInts f) ∧ ev e (.tmp 4) = .t (tInts g) ∧ ev e (.tmp 5) = vObj d ∧ ev e (.tmp 6) = .t (tInts h) ∧ ev e (.tmp 7) = .t (tInts k) ∧ ev e (.tmp 8) = .t (tInts o) := ⟨_, rfl, rfl, rfl, rfl, rfl, rfl, rfl, rfl, rfl, rfl, rfl⟩
  rw [he]
  clear he
  refine vw_seq_k fun K1 hK1 => ?_
  refine vw_sc 0 [] ?_
  simp only [bs, ↓vopx, ↓vop, Nat.reduceBEq, thenV, flat, V.cells, h0, h1, h2, h5, wocs, ↓goc, ↓woc, ↓vopm0]
  refine hK1 _ _ ?_
  refine vw_seq_k fun K2 hK2 => ?_
  refine vw_seq_k fun K3 hK3 => ?_
  refine vw_sc 0 [.pur (Bo true)] ?_
  simp only [bs, ↓vopx, ↓vop, thenV, Nat.reduceLT, hl, wocs, ↓goc, ↓woc, ↓vopm0, ↓callC, calleeV]
  repeat ((with_reducible refine And.intro ?_ ?_); · exact ⟨Tryd.is39, known8_⟩)
  refine hK3 _ _ ?_
  refine vw_cond_k fun A B hA hB => ?_
  simp only [condV, ev_hit, length_putv, Nat.reduceLT, true_implies, reduceCtorEq, false_implies, true_and, hl]
  refine hB ?_
  clear hA hB A B
  refine vw_skip ?_
  refine hK2 _ _ ?_
  refine vw_seq_k fun K4 hK4 => ?_
  refine vw_seq_k fun K5 hK5 => ?_
  rcases (show fewS a = false ∨ (fewS a = true ∧ (fewS b = false ∨ (fewS b = true ∧ (fewS c = false ∨ (fewS c = true ∧ (fewS d = false ∨ (fewS d = true ∧ ((f.length : Int) > 60 ∨ (¬ (f.length : Int) > 60 ∧ ((g.length : Int) > 60 ∨ (¬ (g.length : Int) > 60 ∧ ((h.length : Int) > 60 ∨ (¬ (h.length : Int) > 60 ∧ ((k.length : Int) > 60 ∨ (¬ (k.length : Int) > 60 ∧ ((o.length : Int) > 60 ∨ ¬ (o.length : Int) > 60)))))))))))))))) by cases (fewS a) <;> cases (fewS b) <;> cases (fewS c) <;> cases (fewS d) <;> simp <;> omega) with hfa | ⟨hfa, hfb | ⟨hfb, hfc | ⟨hfc, hfd | ⟨hfd, hlf | ⟨hlf, hlg | ⟨hlg, hlh | ⟨hlh, hlk | ⟨hlk, hlo | hlo⟩⟩⟩⟩⟩⟩⟩⟩
  · refine vw_sc 0 [.pur (Bo (fewS a))] ?_
    simp only [bs, Nat.reduceAdd, ↓vopx, ↓vop, Nat.reduceBEq, thenV, flat, Nat.reduceLT, dLoad, vpart, gtmp, hl, wocs, ↓goc, ↓woc, ↓vopm0, ↓callC, ↓pick_tf, calleeV, Tryd.ag25, Tryd.sz25, nns, hfa]
    repeat ((with_reducible refine And.intro ?_ ?_); · exact ⟨Tryd.is40, by simpa only [hfa] using few8_ a (by omega) (by omega)⟩)
    refine hK5 _ _ ?_
    refine vw_cond_k fun A B hA hB => ?_
    simp only [condV, ev_hit, length_putv, Nat.reduceLT, true_implies, reduceCtorEq, false_implies, and_true, hl]
    refine hA ?_
    clear hA hB A B
    refine vw_seq_k fun K6 hK6 => ?_
    refine vw_sc 0 [] ?_
    simp only [bs, ↓vopx, ↓vop, thenV, flat, wocs, ↓goc, ↓woc, ↓vopm0]
    refine hK6 _ _ ?_
    refine vw_ret ?_
    refine hQ _ _ _ (.inr rfl) (done_tmp ?_ fun n b hn h => by simp [Sg.add, show n ≠ s.next by omega, show n ≠ s.next + 1 by omega, show n ≠ s.next + 1 + 1 by omega, show n ≠ s.next + 1 + 1 + 1 by omega, h])
    try simp only [ev_hit, length_putv, hl, Nat.reduceLT]
  · have ba := few_le hfa
    refine vw_sc 0 [.pur (Bo (fewS a)), .pur (Bo (fewS b))] ?_
    simp only [bs, Nat.reduceAdd, ↓vopx, ↓vop, Nat.reduceBEq, thenV, flat, Nat.reduceLT, dLoad, vpart, gtmp, hl, wocs, ↓goc, ↓woc, ↓vopm0, ↓callC, ↓pick_ff, ↓pick_tf, calleeV, Tryd.ag25, Tryd.sz25, nns, hfa, hfb]
    repeat ((with_reducible refine And.intro ?_ ?_); · first | exact ⟨Tryd.is40, by simpa only [hfa] using few8_ a (by omega) (by omega)⟩ | exact ⟨Tryd.is40, by simpa only [hfb] using few8_ b (by omega) (by omega)⟩)
    refine hK5 _ _ ?_
    refine vw_cond_k fun A B hA hB => ?_
    simp only [condV, ev_hit, length_putv, Nat.reduceLT, true_implies, reduceCtorEq, false_implies, and_true, hl]
    refine hA ?_
    clear hA hB A B
    refine vw_seq_k fun K7 hK7 => ?_
    refine vw_sc 0 [] ?_
    simp only [bs, ↓vopx, ↓vop, thenV, flat, wocs, ↓goc, ↓woc, ↓vopm0]
    refine hK7 _ _ ?_
    refine vw_ret ?_
    refine hQ _ _ _ (.inr rfl) (done_tmp ?_ fun n b hn h => by simp [Sg.add, show n ≠ s.next by omega, show n ≠ s.next + 1 by omega, show n ≠ s.next + 1 + 1 by omega, show n ≠ s.next + 1 + 1 + 1 by omega, h])
    try simp only [ev_hit, length_putv, hl, Nat.reduceLT]
  · have ba := few_le hfa
    have bb := few_le hfb
    refine vw_sc 0 [.pur (Bo (fewS a)), .pur (Bo (fewS b)), .pur (Bo (fewS c))] ?_
    simp only [bs, Nat.reduceAdd, ↓vopx, ↓vop, Nat.reduceBEq, thenV, flat, Nat.reduceLT, dLoad, vpart, gtmp, hl, wocs, ↓goc, ↓woc, ↓vopm0, ↓callC, ↓pick_ff, ↓pick_tf, calleeV, Tryd.ag25, Tryd.sz25, nns, hfa, hfb, hfc]
    repeat ((with_reducible refine And.intro ?_ ?_); · first | exact ⟨Tryd.is40, by simpa only [hfa] using few8_ a (by omega) (by omega)⟩ | exact ⟨Tryd.is40, by simpa only [hfb] using few8_ b (by omega) (by omega)⟩ | exact ⟨Tryd.is40, by simpa only [hfc] using few8_ c (by omega) (by omega)⟩)
    refine hK5 _ _ ?_
    refine vw_cond_k fun A B hA hB => ?_
    simp only [condV, ev_hit, length_putv, Nat.reduceLT, true_implies, reduceCtorEq, false_implies, and_true, hl]
    refine hA ?_
    clear hA hB A B
    refine vw_seq_k fun K8 hK8 => ?_
    refine vw_sc 0 [] ?_
    simp only [bs, ↓vopx, ↓vop, thenV, flat, wocs, ↓goc, ↓woc, ↓vopm0]
    refine hK8 _ _ ?_
    refine vw_ret ?_
    refine hQ _ _ _ (.inr rfl) (done_tmp ?_ fun n b hn h => by simp [Sg.add, show n ≠ s.next by omega, show n ≠ s.next + 1 by omega, show n ≠ s.next + 1 + 1 by omega, show n ≠ s.next + 1 + 1 + 1 by omega, h])
    try simp only [ev_hit, length_putv, hl, Nat.reduceLT]
  · have ba := few_le hfa
    have bb := few_le hfb
    have bc := few_le hfc
    refine vw_sc 0 [.pur (Bo (fewS a)), .pur (Bo (fewS b)), .pur (Bo (fewS c)), .pur (Bo (fewS d))] ?_
    simp only [bs, Nat.reduceAdd, ↓vopx, ↓vop, Nat.reduceBEq, thenV, flat, Nat.reduceLT, dLoad, vpart, gtmp, hl, wocs, ↓goc, ↓woc, ↓vopm0, ↓callC, ↓pick_ff, ↓pick_tf, calleeV, Tryd.ag25, Tryd.sz25, nns, hfa, hfb, hfc, hfd]
    repeat ((with_reducible refine And.intro ?_ ?_); · first | exact ⟨Tryd.is40, by simpa only [hfa] using few8_ a (by omega) (by omega)⟩ | exact ⟨Tryd.is40, by simpa only [hfb] using few8_ b (by omega) (by omega)⟩ | exact ⟨Tryd.is40, by simpa only [hfc] using few8_ c (by omega) (by omega)⟩ | exact ⟨Tryd.is40, by simpa only [hfd] using few8_ d (by omega) (by omega)⟩)
    refine hK5 _ _ ?_
    refine vw_cond_k fun A B hA hB => ?_
    simp only [condV, ev_hit, length_putv, Nat.reduceLT, true_implies, reduceCtorEq, false_implies, and_true, hl]
    refine hA ?_
    clear hA hB A B
    refine vw_seq_k fun K9 hK9 => ?_
    refine vw_sc 0 [] ?_
    simp only [bs, ↓vopx, ↓vop, thenV, flat, wocs, ↓goc, ↓woc, ↓vopm0]
    refine hK9 _ _ ?_
    refine vw_ret ?_
    refine hQ _ _ _ (.inr rfl) (done_tmp ?_ fun n b hn h => by simp [Sg.add, show n ≠ s.next by omega, show n ≠ s.next + 1 by omega, show n ≠ s.next + 1 + 1 by omega, show n ≠ s.next + 1 + 1 + 1 by omega, h])
    try simp only [ev_hit, length_putv, hl, Nat.reduceLT]
  · have ba := few_le hfa
    have bb := few_le hfb
    have bc := few_le hfc
    have bd := few_le hfd
    refine vw_sc 0 [.pur (Bo (fewS a)), .pur (Bo (fewS b)), .pur (Bo (fewS c)), .pur (Bo (fewS d))] ?_
    simp only [bs, Nat.reduceAdd, ↓vopx, ↓vop, Nat.reduceBEq, thenV, flat, Nat.reduceLT, dLoad, vpart, opII, gtmp, hl, h3, wocs, ↓goc, ↓woc, ↓vopm0, ↓callC, ↓pick_ff, ↓pick_tf, calleeV, Tryd.ag25, Tryd.sz25, nns, len_tInts, Tryd.underlying26, hfa, hfb, hfc, hfd, hlf]
    repeat ((with_reducible refine And.intro ?_ ?_); · first | exact ⟨Tryd.is40, by simpa only [hfa] using few8_ a (by omega) (by omega)⟩ | exact ⟨Tryd.is40, by simpa only [hfb] using few8_ b (by omega) (by omega)⟩ | exact ⟨Tryd.is40, by simpa only [hfc] using few8_ c (by omega) (by omega)⟩ | exact ⟨Tryd.is40, by simpa only [hfd] using few8_ d (by omega) (by omega)⟩)
    refine hK5 _ _ ?_
    refine vw_cond_k fun A B hA hB => ?_
    simp only [condV, ev_hit, length_putv, Nat.reduceLT, true_implies, reduceCtorEq, false_implies, and_true, hl]
    refine hA ?_
    clear hA hB A B
    refine vw_seq_k fun K10 hK10 => ?_
    refine vw_sc 0 [] ?_
    simp only [bs, ↓vopx, ↓vop, thenV, flat, wocs, ↓goc, ↓woc, ↓vopm0]
    refine hK10 _ _ ?_
    refine vw_ret ?_
    refine hQ _ _ _ (.inr rfl) (done_tmp ?_ fun n b hn h => by simp [Sg.add, show n ≠ s.next by omega, show n ≠ s.next + 1 by omega, show n ≠ s.next + 1 + 1 by omega, show n ≠ s.next + 1 + 1 + 1 by omega, h])
    try simp only [ev_hit, length_putv, hl, Nat.reduceLT]
  · have ba := few_le hfa
    have bb := few_le hfb
    have bc := few_le hfc
    have bd := few_le hfd
    refine vw_sc 0 [.pur (Bo (fewS a)), .pur (Bo (fewS b)), .pur (Bo (fewS c)), .pur (Bo (fewS d))] ?_
    simp only [bs, Nat.reduceAdd, ↓vopx, ↓vop, Nat.reduceBEq, thenV, flat, Nat.reduceLT, dLoad, vpart, opII, gtmp, hl, h3, h4, wocs, ↓goc, ↓woc, ↓vopm0, ↓callC, ↓pick_ff, ↓pick_tf, calleeV, Tryd.ag25, Tryd.sz25, nns, len_tInts, Tryd.underlying26, hfa, hfb, hfc, hfd, hlf, hlg]
    repeat ((with_reducible refine And.intro ?_ ?_); · first | exact ⟨Tryd.is40, by simpa only [hfa] using few8_ a (by omega) (by omega)⟩ | exact ⟨Tryd.is40, by simpa only [hfb] using few8_ b (by omega) (by omega)⟩ | exact ⟨Tryd.is40, by simpa only [hfc] using few8_ c (by omega) (by omega)⟩ | exact ⟨Tryd.is40, by simpa only [hfd] using few8_ d (by omega) (by omega)⟩)
    refine hK5 _ _ ?_
    refine vw_cond_k fun A B hA hB => ?_
    simp only [condV, ev_hit, length_putv, Nat.reduceLT, true_implies, reduceCtorEq, false_implies, and_true, hl]
    refine hA ?_
    clear hA hB A B
    refine vw_seq_k fun K11 hK11 => ?_
    refine vw_sc 0 [] ?_
    simp only [bs, ↓vopx, ↓vop, thenV, flat, wocs, ↓goc, ↓woc, ↓vopm0]
    refine hK11 _ _ ?_
    refine vw_ret ?_
    refine hQ _ _ _ (.inr rfl) (done_tmp ?_ fun n b hn h => by simp [Sg.add, show n ≠ s.next by omega, show n ≠ s.next + 1 by omega, show n ≠ s.next + 1 + 1 by omega, show n ≠ s.next + 1 + 1 + 1 by omega, h])
    try simp only [ev_hit, length_putv, hl, Nat.reduceLT]
  · have ba := few_le hfa
    have bb := few_le hfb
    have bc := few_le hfc
    have bd := few_le hfd
    refine vw_sc 0 [.pur (Bo (fewS a)), .pur (Bo (fewS b)), .pur (Bo (fewS c)), .pur (Bo (fewS d))] ?_
    simp only [bs, Nat.reduceAdd, ↓vopx, ↓vop, Nat.reduceBEq, thenV, flat, Nat.reduceLT, dLoad, vpart, opII, gtmp, hl, h3, h4, h6, wocs, ↓goc, ↓woc, ↓vopm0, ↓callC, ↓pick_ff, ↓pick_tf, calleeV, Tryd.ag25, Tryd.sz25, nns, len_tInts, Tryd.underlying26, hfa, hfb, hfc, hfd, hlf, hlg, hlh]
    repeat ((with_reducible refine And.intro ?_ ?_); · first | exact ⟨Tryd.is40, by simpa only [hfa] using few8_ a (by omega) (by omega)⟩ | exact ⟨Tryd.is40, by simpa only [hfb] using few8_ b (by omega) (by omega)⟩ | exact ⟨Tryd.is40, by simpa only [hfc] using few8_ c (by omega) (by omega)⟩ | exact ⟨Tryd.is40, by simpa only [hfd] using few8_ d (by omega) (by omega)⟩)
    refine hK5 _ _ ?_
    refine vw_cond_k fun A B hA hB => ?_
    simp only [condV, ev_hit, length_putv, Nat.reduceLT, true_implies, reduceCtorEq, false_implies, and_true, hl]
    refine hA ?_
    clear hA hB A B
    refine vw_seq_k fun K12 hK12 => ?_
    refine vw_sc 0 [] ?_
    simp only [bs, ↓vopx, ↓vop, thenV, flat, wocs, ↓goc, ↓woc, ↓vopm0]
    refine hK12 _ _ ?_
    refine vw_ret ?_
    refine hQ _ _ _ (.inr rfl) (done_tmp ?_ fun n b hn h => by simp [Sg.add, show n ≠ s.next by omega, show n ≠ s.next + 1 by omega, show n ≠ s.next + 1 + 1 by omega, show n ≠ s.next + 1 + 1 + 1 by omega, h])
    try simp only [ev_hit, length_putv, hl, Nat.reduceLT]
  · have ba := few_le hfa
    have bb := few_le hfb
    have bc := few_le hfc
    have bd := few_le hfd
    refine vw_sc 0 [.pur (Bo (fewS a)), .pur (Bo (fewS b)), .pur (Bo (fewS c)), .pur (Bo (fewS d))] ?_
    simp only [bs, Nat.reduceAdd, ↓vopx, ↓vop, Nat.reduceBEq, thenV, flat, Nat.reduceLT, dLoad, vpart, opII, gtmp, hl, h3, h4, h6, h7, wocs, ↓goc, ↓woc, ↓vopm0, ↓callC, ↓pick_ff, ↓pick_tf, calleeV, Tryd.ag25, Tryd.sz25, nns, len_tInts, Tryd.underlying26, hfa, hfb, hfc, hfd, hlf, hlg, hlh, hlk]
    repeat ((with_reducible refine And.intro ?_ ?_); · first | exact ⟨Tryd.is40, by simpa only [hfa] using few8_ a (by omega) (by omega)⟩ | exact ⟨Tryd.is40, by simpa only [hfb] using few8_ b (by omega) (by omega)⟩ | exact ⟨Tryd.is40, by simpa only [hfc] using few8_ c (by omega) (by omega)⟩ | exact ⟨Tryd.is40, by simpa only [hfd] using few8_ d (by omega) (by omega)⟩)
    refine hK5 _ _ ?_
    refine vw_cond_k fun A B hA hB => ?_
    simp only [condV, ev_hit, length_putv, Nat.reduceLT, true_implies, reduceCtorEq, false_implies, and_true, hl]
    refine hA ?_
    clear hA hB A B
    refine vw_seq_k fun K13 hK13 => ?_
    refine vw_sc 0 [] ?_
    simp only [bs, ↓vopx, ↓vop, thenV, flat, wocs, ↓goc, ↓woc, ↓vopm0]
    refine hK13 _ _ ?_
    refine vw_ret ?_
    refine hQ _ _ _ (.inr rfl) (done_tmp ?_ fun n b hn h => by simp [Sg.add, show n ≠ s.next by omega, show n ≠ s.next + 1 by omega, show n ≠ s.next + 1 + 1 by omega, show n ≠ s.next + 1 + 1 + 1 by omega, h])
    try simp only [ev_hit, length_putv, hl, Nat.reduceLT]
  · have ba := few_le hfa
    have bb := few_le hfb
    have bc := few_le hfc
    have bd := few_le hfd
    refine vw_sc 0 [.pur (Bo (fewS a)), .pur (Bo (fewS b)), .pur (Bo (fewS c)), .pur (Bo (fewS d))] ?_
    simp only [bs, Nat.reduceAdd, ↓vopx, ↓vop, Nat.reduceBEq, thenV, flat, Nat.reduceLT, dLoad, vpart, opII, gtmp, hl, h3, h4, h6, h7, h8, wocs, ↓goc, ↓woc, ↓vopm0, ↓callC, ↓pick_ff, calleeV, Tryd.ag25, Tryd.sz25, nns, len_tInts, Tryd.underlying26, hfa, hfb, hfc, hfd, hlf, hlg, hlh, hlk, hlo]
    repeat ((with_reducible refine And.intro ?_ ?_); · first | exact ⟨Tryd.is40, by simpa only [hfa] using few8_ a (by omega) (by omega)⟩ | exact ⟨Tryd.is40, by simpa only [hfb] using few8_ b (by omega) (by omega)⟩ | exact ⟨Tryd.is40, by simpa only [hfc] using few8_ c (by omega) (by omega)⟩ | exact ⟨Tryd.is40, by simpa only [hfd] using few8_ d (by omega) (by omega)⟩)
    refine hK5 _ _ ?_
    refine vw_cond_k fun A B hA hB => ?_
    simp only [condV, ev_hit, length_putv, Nat.reduceLT, true_implies, reduceCtorEq, false_implies, and_true, hl]
    refine hA ?_
    clear hA hB A B
    refine vw_seq_k fun K14 hK14 => ?_
    refine vw_sc 0 [] ?_
    simp only [bs, ↓vopx, ↓vop, thenV, flat, wocs, ↓goc, ↓woc, ↓vopm0]
    refine hK14 _ _ ?_
    refine vw_ret ?_
    refine hQ _ _ _ (.inr rfl) (done_tmp ?_ fun n b hn h => by simp [Sg.add, show n ≠ s.next by omega, show n ≠ s.next + 1 by omega, show n ≠ s.next + 1 + 1 by omega, show n ≠ s.next + 1 + 1 + 1 by omega, h])
    try simp only [ev_hit, length_putv, hl, Nat.reduceLT]
  · have ba := few_le hfa
    have bb := few_le hfb
    have bc := few_le hfc
    have bd := few_le hfd
    refine vw_sc 0 [.pur (Bo (fewS a)), .pur (Bo (fewS b)), .pur (Bo (fewS c)), .pur (Bo (fewS d))] ?_
    simp only [bs, Nat.reduceAdd, ↓vopx, ↓vop, Nat.reduceBEq, thenV, flat, Nat.reduceLT, dLoad, vpart, opII, gtmp, hl, h3, h4, h6, h7, h8, wocs, ↓goc, ↓woc, ↓vopm0, ↓callC, ↓pick_ff, calleeV, Tryd.ag25, Tryd.sz25, nns, len_tInts, Tryd.underlying26, hfa, hfb, hfc, hfd, hlf, hlg, hlh, hlk, hlo]
    repeat ((with_reducible refine And.intro ?_ ?_); · first | exact ⟨Tryd.is40, by simpa only [hfa] using few8_ a (by omega) (by omega)⟩ | exact ⟨Tryd.is40, by simpa only [hfb] using few8_ b (by omega) (by omega)⟩ | exact ⟨Tryd.is40, by simpa only [hfc] using few8_ c (by omega) (by omega)⟩ | exact ⟨Tryd.is40, by simpa only [hfd] using few8_ d (by omega) (by omega)⟩)
    refine hK5 _ _ ?_
    refine vw_cond_k fun A B hA hB => ?_
    simp only [condV, ev_hit, length_putv, Nat.reduceLT, true_implies, reduceCtorEq, false_implies, true_and, hl]
    refine hB ?_
    clear hA hB A B
    refine vw_skip ?_
    refine hK4 _ _ ?_
    refine vw_seq_k fun K15 hK15 => ?_
    refine vw_en fun eqa hE => ?_
    have hlqa : eqa.length = 176 := by rw [hE]; simp only [length_putv, hl]
    have qa_3 : ev eqa (.tmp 3) = .t (tInts f) := by rw [hE]; simp only [ev_miss, Nat.reduceBEq, h3]
    have qa_4 : ev eqa (.tmp 4) = .t (tInts g) := by rw [hE]; simp only [ev_miss, Nat.reduceBEq, h4]
    have qa_6 : ev eqa (.tmp 6) = .t (tInts h) := by rw [hE]; simp only [ev_miss, Nat.reduceBEq, h6]
    have qa_7 : ev eqa (.tmp 7) = .t (tInts k) := by rw [hE]; simp only [ev_miss, Nat.reduceBEq, h7]
    have qa_8 : ev eqa (.tmp 8) = .t (tInts o) := by rw [hE]; simp only [ev_miss, Nat.reduceBEq, h8]
    have qa_9 : ev eqa (.tmp 9) = .ptr (s.next) 0 := by rw [hE]; simp only [ev_hit, ev_miss, Nat.reduceBEq, hl, Nat.reduceLT]
    have qa_10 : ev eqa (.tmp 10) = .ptr (s.next + 1) 0 := by rw [hE]; simp only [ev_hit, ev_miss, Nat.reduceBEq, length_putv, hl, Nat.reduceLT]
    have qa_11 : ev eqa (.tmp 11) = .ptr (s.next + 1 + 1) 0 := by rw [hE]; simp only [ev_hit, ev_miss, Nat.reduceBEq, length_putv, hl, Nat.reduceLT]
    have qa_14 : ev eqa (.tmp 14) = .ptr (s.next + 1 + 1 + 1) 0 := by rw [hE]; simp only [ev_hit, ev_miss, Nat.reduceBEq, length_putv, hl, Nat.reduceLT]
    clear hE
    refine vw_st fun sqa hS => ?_
    have qaB0 : sqa.m (s.next) = some (.box 25 [.t (tStrs a.labels), .t (tPairs a.pairs)]) := by rw [hS]; simp only [m_add, n_add, nns, if_true, if_false, ]
    have qaB1 : sqa.m (s.next + 1) = some (.box 25 [.t (tStrs b.labels), .t (tPairs b.pairs)]) := by rw [hS]; simp only [m_add, n_add, nns, if_true, if_false, ]
    have qaB2 : sqa.m (s.next + 1 + 1) = some (.box 25 [.t (tStrs c.labels), .t (tPairs c.pairs)]) := by rw [hS]; simp only [m_add, n_add, nns, if_true, if_false, ]
    have qaB3 : sqa.m (s.next + 1 + 1 + 1) = some (.box 25 [.t (tStrs d.labels), .t (tPairs d.pairs)]) := by rw [hS]; simp only [m_add, n_add, nns, if_true, if_false, ]
    have hnqa : sqa.next = s.next + 1 + 1 + 1 + 1 := by rw [hS]; simp only [n_add, ]
    have hkqa : ∀ j, j < s.next → sqa.m j = s.m j := fun j hj => by have z0 : ¬ j = s.next := (by omega); have z1 : ¬ j = s.next + 1 := (by omega); have z2 : ¬ j = s.next + 1 + 1 := (by omega); have z3 : ¬ j = s.next + 1 + 1 + 1 := (by omega); rw [hS]; simp only [m_add, n_add, z0, z1, z2, z3, if_false]
    clear hS
    obtain ⟨u, ec, hm⟩ : ∃ u ec, medS a b c f g d h k = (u, ec) := ⟨_, _, rfl⟩
    have hcs := med_cases a b c f g d h k
    obtain ⟨v1, v2, v3, v4⟩ := pushR_lim a b c f g (by omega)
    rw [hm] at hcs
    refine vw_sc 0 [.pur (.tup [.t (tInts u), I ec])] ?_
    simp only [bs, Nat.reduceAdd, ↓vopx, ↓vop, Nat.reduceBEq, thenV, Nat.reduceLT, dLoad, vpart, hlqa, qa_3, qa_4, qa_6, qa_7, qa_9, qa_10, qa_11, qa_14, qaB0, qaB1, qaB2, qaB3, wocs, ↓goc, ↓woc, ↓vopm0, ↓callC, calleeV, Tryd.ag25, Tryd.sz25]
    repeat ((with_reducible refine And.intro ?_ ?_); · exact ⟨Tryd.is41, by have := mediate_ a b c f g d h k (by omega) (by omega) (by omega) (by omega) (by omega) (by omega) (by omega) (by omega) (by omega) (by omega) (by omega) (by omega); rw [hm] at this; exact this⟩)
    refine hK15 _ _ ?_
    refine vw_seq_k fun K16 hK16 => ?_
    refine vw_seq_k fun K17 hK17 => ?_
    refine vw_en fun eqb hE => ?_
    have hlqb : eqb.length = 176 := by rw [hE]; simp only [length_putv, hlqa]
    have qb_3 : ev eqb (.tmp 3) = .t (tInts f) := by rw [hE]; simp only [ev_miss, Nat.reduceBEq, qa_3]
    have qb_4 : ev eqb (.tmp 4) = .t (tInts g) := by rw [hE]; simp only [ev_miss, Nat.reduceBEq, qa_4]
    have qb_6 : ev eqb (.tmp 6) = .t (tInts h) := by rw [hE]; simp only [ev_miss, Nat.reduceBEq, qa_6]
    have qb_7 : ev eqb (.tmp 7) = .t (tInts k) := by rw [hE]; simp only [ev_miss, Nat.reduceBEq, qa_7]
    have qb_8 : ev eqb (.tmp 8) = .t (tInts o) := by rw [hE]; simp only [ev_miss, Nat.reduceBEq, qa_8]
    have qb_9 : ev eqb (.tmp 9) = .ptr (s.next) 0 := by rw [hE]; simp only [ev_miss, Nat.reduceBEq, qa_9]
    have qb_10 : ev eqb (.tmp 10) = .ptr (s.next + 1) 0 := by rw [hE]; simp only [ev_miss, Nat.reduceBEq, qa_10]
    have qb_11 : ev eqb (.tmp 11) = .ptr (s.next + 1 + 1) 0 := by rw [hE]; simp only [ev_miss, Nat.reduceBEq, qa_11]
    have qb_14 : ev eqb (.tmp 14) = .ptr (s.next + 1 + 1 + 1) 0 := by rw [hE]; simp only [ev_miss, Nat.reduceBEq, qa_14]
    have qb_19 : ev eqb (.tmp 19) = .t (tInts u) := by rw [hE]; simp only [ev_hit, ev_miss, Nat.reduceBEq, length_putv, hlqa, Nat.reduceLT]
    have qb_20 : ev eqb (.tmp 20) = I ec := by rw [hE]; simp only [ev_hit, length_putv, hlqa, Nat.reduceLT]
    clear hE
    refine vw_st fun sqb hS => ?_
    have qbB0 : sqb.m (s.next) = some (.box 25 [.t (tStrs a.labels), .t (tPairs a.pairs)]) := by rw [hS]; simp only [qaB0]
    have qbB1 : sqb.m (s.next + 1) = some (.box 25 [.t (tStrs b.labels), .t (tPairs b.pairs)]) := by rw [hS]; simp only [qaB1]
    have qbB2 : sqb.m (s.next + 1 + 1) = some (.box 25 [.t (tStrs c.labels), .t (tPairs c.pairs)]) := by rw [hS]; simp only [qaB2]
    have qbB3 : sqb.m (s.next + 1 + 1 + 1) = some (.box 25 [.t (tStrs d.labels), .t (tPairs d.pairs)]) := by rw [hS]; simp only [qaB3]
    have hnqb : sqb.next = s.next + 1 + 1 + 1 + 1 := by rw [hS]; simp only [hnqa]
    have hkqb : ∀ j, j < s.next → sqb.m j = s.m j := fun j hj => by have z0 : ¬ j = s.next := (by omega); have z1 : ¬ j = s.next + 1 := (by omega); have z2 : ¬ j = s.next + 1 + 1 := (by omega); have z3 : ¬ j = s.next + 1 + 1 + 1 := (by omega); rw [hS]; simp only [hkqa j hj]
    clear hS
    rcases hcs with ⟨e, he0, hcs⟩ | ⟨q, i, j, hh, u0, hcs, hR, hS, hM⟩
    · obtain ⟨rfl, rfl⟩ : u = [] ∧ ec = e := by simpa only [Prod.mk.injEq] using hcs
      refine vw_sc 0 [] ?_
      simp only [bs, ↓vopx, ↓vop, thenV, flat, Nat.reduceLT, opII, hlqb, qb_20, wocs, ↓goc, ↓woc, ↓vopm0]
      refine hK17 _ _ ?_
      refine vw_cond_k fun A B hA hB => ?_
      simp only [condV, ev_hit, length_putv, Nat.reduceLT, bne_iff_ne, bne_eq_false_iff_eq, ne_eq, true_implies, false_implies, and_true, hlqb, he0, not_false_eq_true]
      refine hA ?_
      clear hA hB A B
      refine vw_seq_k fun K18 hK18 => ?_
      refine vw_sc 0 [] ?_
      simp only [bs, ↓vopx, ↓vop, Nat.reduceBEq, thenV, flat, Nat.reduceLT, opII, hlqb, qb_19, wocs, ↓goc, ↓woc, ↓vopm0, len_tInts, Tryd.underlying26, nc0', beq_self_eq_true]
      refine hK18 _ _ ?_
      refine vw_ret ?_
      refine hQ _ _ _ (.inr rfl) (done_tmp ?_ fun n b hn h => (hkqb n hn).trans h)
      try simp only [ev_hit, length_putv, hlqb, Nat.reduceLT]
    · obtain ⟨rfl, rfl⟩ : u = u0 ∧ ec = 0 := by simpa only [Prod.mk.injEq] using hcs
      refine vw_sc 0 [] ?_
      simp only [bs, ↓vopx, ↓vop, thenV, flat, Nat.reduceLT, opII, hlqb, qb_20, wocs, ↓goc, ↓woc, ↓vopm0]
      refine hK17 _ _ ?_
      refine vw_cond_k fun A B hA hB => ?_
      simp only [condV, ev_hit, length_putv, Nat.reduceLT, bne_iff_ne, bne_eq_false_iff_eq, ne_eq, true_implies, false_implies, true_and, hlqb, not_true_eq_false]
      refine hB ?_
      clear hA hB A B
      refine vw_skip ?_
      refine hK16 _ _ ?_
      refine vw_seq_k fun K19 hK19 => ?_
      rw [hR] at v1 v2 v3 v4
      simp only at v1 v2 v3 v4
      have hul := allY_length (arrS_iff.1 hM.ar).2.2.1
      refine vw_sc 0 [.pur (.tup [vObj q, .t (tInts i), .t (tInts j), I 0])] ?_
      simp only [bs, Nat.reduceAdd, ↓vopx, ↓vop, Nat.reduceBEq, thenV, Nat.reduceLT, V.cells, dLoad, vpart, hlqb, qb_3, qb_4, qb_9, qb_10, qb_11, qbB0, qbB1, qbB2, hnqb, wocs, ↓goc, ↓woc, ↓vopm0, ↓callC, calleeV, Tryd.ag25, Tryd.sz25, Tryd.zv25]
      repeat ((with_reducible refine And.intro ?_ ?_); · exact ⟨Tryd.is23, by have := refPush_ a b c f g (by omega) (by omega) (by omega) (by omega) (by omega) (by omega) (by omega) (by omega); rw [hR, vsum_mk'] at this; exact this⟩)
      refine hK19 _ _ ?_
      refine vw_seq_k fun K20 hK20 => ?_
      refine vw_en fun eqc hE => ?_
      have hlqc : eqc.length = 176 := by rw [hE]; simp only [length_putv, hlqb]
      have qc_6 : ev eqc (.tmp 6) = .t (tInts h) := by rw [hE]; simp only [ev_miss, Nat.reduceBEq, qb_6]
      have qc_7 : ev eqc (.tmp 7) = .t (tInts k) := by rw [hE]; simp only [ev_miss, Nat.reduceBEq, qb_7]
      have qc_8 : ev eqc (.tmp 8) = .t (tInts o) := by rw [hE]; simp only [ev_miss, Nat.reduceBEq, qb_8]
      have qc_14 : ev eqc (.tmp 14) = .ptr (s.next + 1 + 1 + 1) 0 := by rw [hE]; simp only [ev_miss, Nat.reduceBEq, qb_14]
      have qc_19 : ev eqc (.tmp 19) = .t (tInts u) := by rw [hE]; simp only [ev_miss, Nat.reduceBEq, qb_19]
      have qc_21 : ev eqc (.tmp 21) = .ptr (s.next + 1 + 1 + 1 + 1) 0 := by rw [hE]; simp only [ev_hit, ev_miss, Nat.reduceBEq, length_putv, hlqb, Nat.reduceLT]
      have qc_22 : ev eqc (.tmp 22) = .t (tInts i) := by rw [hE]; simp only [ev_hit, ev_miss, Nat.reduceBEq, length_putv, hlqb, Nat.reduceLT]
      have qc_23 : ev eqc (.tmp 23) = .t (tInts j) := by rw [hE]; simp only [ev_hit, ev_miss, Nat.reduceBEq, length_putv, hlqb, Nat.reduceLT]
      have qc_24 : ev eqc (.tmp 24) = I 0 := by rw [hE]; simp only [ev_hit, length_putv, hlqb, Nat.reduceLT]
      clear hE
      refine vw_st fun sqc hS => ?_
      have qcB0 : sqc.m (s.next) = some (.box 25 [.t (tStrs a.labels), .t (tPairs a.pairs)]) := by rw [hS]; simp only [m_set, m_add, nns, if_false, qbB0, hnqb]
      have qcB1 : sqc.m (s.next + 1) = some (.box 25 [.t (tStrs b.labels), .t (tPairs b.pairs)]) := by rw [hS]; simp only [m_set, m_add, nns, if_false, qbB1, hnqb]
      have qcB2 : sqc.m (s.next + 1 + 1) = some (.box 25 [.t (tStrs c.labels), .t (tPairs c.pairs)]) := by rw [hS]; simp only [m_set, m_add, nns, if_false, qbB2, hnqb]
      have qcB3 : sqc.m (s.next + 1 + 1 + 1) = some (.box 25 [.t (tStrs d.labels), .t (tPairs d.pairs)]) := by rw [hS]; simp only [m_set, m_add, nns, if_false, qbB3, hnqb]
      have qcB4 : sqc.m (s.next + 1 + 1 + 1 + 1) = some (.box 25 [.t (tStrs q.labels), .t (tPairs q.pairs)]) := by rw [hS]; simp only [m_set, m_add, if_true, hnqb]
      have hnqc : sqc.next = s.next + 1 + 1 + 1 + 1 + 1 := by rw [hS]; simp only [n_add, n_set, hnqb]
      have hkqc : ∀ j, j < s.next → sqc.m j = s.m j := fun j hj => by have z0 : ¬ j = s.next := (by omega); have z1 : ¬ j = s.next + 1 := (by omega); have z2 : ¬ j = s.next + 1 + 1 := (by omega); have z3 : ¬ j = s.next + 1 + 1 + 1 := (by omega); have z4 : ¬ j = s.next + 1 + 1 + 1 + 1 := (by omega); rw [hS]; simp only [m_set, m_add, hnqb, z4, if_false, hkqb j hj]
      clear hS
      refine vw_sc 0 [.pur (.tup [.t (tInts h), Bo true])] ?_
      simp only [bs, ↓vopx, ↓vop, Nat.reduceBEq, thenV, Nat.reduceLT, hlqc, qc_19, qc_22, wocs, ↓goc, ↓woc, ↓vopm0, ↓callC, calleeV]
      repeat ((with_reducible refine And.intro ?_ ?_); · exact ⟨Tryd.is32, by have := then_ i u (by omega) (by omega); rw [hM.t1] at this; exact this⟩)
      refine hK20 _ _ ?_
      refine vw_seq_k fun K21 hK21 => ?_
      refine vw_sc 0 [.pur (.tup [.t (tInts k), Bo true])] ?_
      simp only [bs, ↓vopx, ↓vop, Nat.reduceBEq, thenV, Nat.reduceLT, hlqc, qc_19, qc_23, wocs, ↓goc, ↓woc, ↓vopm0, ↓callC, calleeV]
      repeat ((with_reducible refine And.intro ?_ ?_); · exact ⟨Tryd.is32, by have := then_ j u (by omega) (by omega); rw [hM.t2] at this; exact this⟩)
      refine hK21 _ _ ?_
      refine vw_seq_k fun K22 hK22 => ?_
      refine vw_seq_k fun K23 hK23 => ?_
      refine vw_en fun eqd hE => ?_
      have hlqd : eqd.length = 176 := by rw [hE]; simp only [length_putv, hlqc]
      have qd_6 : ev eqd (.tmp 6) = .t (tInts h) := by rw [hE]; simp only [ev_miss, Nat.reduceBEq, qc_6]
      have qd_7 : ev eqd (.tmp 7) = .t (tInts k) := by rw [hE]; simp only [ev_miss, Nat.reduceBEq, qc_7]
      have qd_8 : ev eqd (.tmp 8) = .t (tInts o) := by rw [hE]; simp only [ev_miss, Nat.reduceBEq, qc_8]
      have qd_14 : ev eqd (.tmp 14) = .ptr (s.next + 1 + 1 + 1) 0 := by rw [hE]; simp only [ev_miss, Nat.reduceBEq, qc_14]
      have qd_19 : ev eqd (.tmp 19) = .t (tInts u) := by rw [hE]; simp only [ev_miss, Nat.reduceBEq, qc_19]
      have qd_21 : ev eqd (.tmp 21) = .ptr (s.next + 1 + 1 + 1 + 1) 0 := by rw [hE]; simp only [ev_miss, Nat.reduceBEq, qc_21]
      have qd_22 : ev eqd (.tmp 22) = .t (tInts i) := by rw [hE]; simp only [ev_miss, Nat.reduceBEq, qc_22]
      have qd_23 : ev eqd (.tmp 23) = .t (tInts j) := by rw [hE]; simp only [ev_miss, Nat.reduceBEq, qc_23]
      have qd_24 : ev eqd (.tmp 24) = I 0 := by rw [hE]; simp only [ev_miss, Nat.reduceBEq, qc_24]
      have qd_25 : ev eqd (.tmp 25) = .t (tInts h) := by rw [hE]; simp only [ev_hit, ev_miss, Nat.reduceBEq, length_putv, hlqc, Nat.reduceLT]
      have qd_26 : ev eqd (.tmp 26) = Bo true := by rw [hE]; simp only [ev_hit, ev_miss, Nat.reduceBEq, length_putv, hlqc, Nat.reduceLT]
      have qd_27 : ev eqd (.tmp 27) = .t (tInts k) := by rw [hE]; simp only [ev_hit, ev_miss, Nat.reduceBEq, length_putv, hlqc, Nat.reduceLT]
      have qd_28 : ev eqd (.tmp 28) = Bo true := by rw [hE]; simp only [ev_hit, length_putv, hlqc, Nat.reduceLT]
      clear hE
      refine vw_st fun sqd hS => ?_
      have qdB0 : sqd.m (s.next) = some (.box 25 [.t (tStrs a.labels), .t (tPairs a.pairs)]) := by rw [hS]; simp only [qcB0]
      have qdB1 : sqd.m (s.next + 1) = some (.box 25 [.t (tStrs b.labels), .t (tPairs b.pairs)]) := by rw [hS]; simp only [qcB1]
      have qdB2 : sqd.m (s.next + 1 + 1) = some (.box 25 [.t (tStrs c.labels), .t (tPairs c.pairs)]) := by rw [hS]; simp only [qcB2]
      have qdB3 : sqd.m (s.next + 1 + 1 + 1) = some (.box 25 [.t (tStrs d.labels), .t (tPairs d.pairs)]) := by rw [hS]; simp only [qcB3]
      have qdB4 : sqd.m (s.next + 1 + 1 + 1 + 1) = some (.box 25 [.t (tStrs q.labels), .t (tPairs q.pairs)]) := by rw [hS]; simp only [qcB4]
      have hnqd : sqd.next = s.next + 1 + 1 + 1 + 1 + 1 := by rw [hS]; simp only [hnqc]
      have hkqd : ∀ j, j < s.next → sqd.m j = s.m j := fun j hj => by have z0 : ¬ j = s.next := (by omega); have z1 : ¬ j = s.next + 1 := (by omega); have z2 : ¬ j = s.next + 1 + 1 := (by omega); have z3 : ¬ j = s.next + 1 + 1 + 1 := (by omega); have z4 : ¬ j = s.next + 1 + 1 + 1 + 1 := (by omega); rw [hS]; simp only [hkqc j hj]
      clear hS
      refine vw_sc 0 [.pur (Bo true), .pur (Bo (true)), .pur (Bo (true))] ?_
      simp only [bs, Nat.reduceAdd, ↓vopx, ↓vop, Nat.reduceBEq, thenV, flat, Nat.reduceLT, dLoad, vpart, opII, gtmp, hlqd, qd_6, qd_7, qd_14, qd_19, qd_21, qd_24, qd_25, qd_26, qd_27, qd_28, qdB3, qdB4, wocs, ↓goc, ↓woc, ↓vopm0, ↓callC, ↓pick_ff, calleeV, Tryd.ag25, Tryd.sz25, bne_self_eq_false]
      repeat ((with_reducible refine And.intro ?_ ?_); · first | exact ⟨Tryd.is34, by have := arrow_ q d u (by omega) (by omega) (by omega) (by omega) (by omega); rw [hM.ar] at this; exact this⟩ | exact ⟨Tryd.is33, by have := arrowSame_ h h (by omega) (by omega); rw [beq_self_eq_true] at this; exact this⟩ | exact ⟨Tryd.is33, by have := arrowSame_ k k (by omega) (by omega); rw [beq_self_eq_true] at this; exact this⟩)
      refine hK23 _ _ ?_
      refine vw_cond_k fun A B hA hB => ?_
      simp only [condV, ev_hit, length_putv, Nat.reduceLT, true_implies, reduceCtorEq, false_implies, true_and, hlqd]
      refine hB ?_
      clear hA hB A B
      refine vw_skip ?_
      refine hK22 _ _ ?_
      refine vw_seq_k fun K24 hK24 => ?_
      refine vw_seq_k fun K25 hK25 => ?_
      rcases (show arrS q d o = false ∨ arrS q d o = true by cases arrS q d o <;> simp) with ho | ho
      · refine vw_sc 0 [.pur (Bo (arrS q d o))] ?_
        simp only [bs, Nat.reduceAdd, ↓vopx, ↓vop, Nat.reduceBEq, thenV, Nat.reduceLT, dLoad, vpart, hlqd, qd_8, qd_14, qd_21, qdB3, qdB4, wocs, ↓goc, ↓woc, ↓vopm0, ↓callC, calleeV, Tryd.ag25, Tryd.sz25, ho]
        repeat ((with_reducible refine And.intro ?_ ?_); · exact ⟨Tryd.is34, by simpa only [ho] using arrow_ q d o (by omega) (by omega) (by omega) (by omega) (by omega)⟩)
        refine hK25 _ _ ?_
        refine vw_cond_k fun A B hA hB => ?_
        simp only [condV, ev_hit, length_putv, Nat.reduceLT, true_implies, reduceCtorEq, false_implies, and_true, hlqd]
        refine hA ?_
        clear hA hB A B
        refine vw_seq_k fun K26 hK26 => ?_
        refine vw_sc 0 [] ?_
        simp only [bs, ↓vopx, ↓vop, thenV, flat, wocs, ↓goc, ↓woc, ↓vopm0]
        refine hK26 _ _ ?_
        refine vw_ret ?_
        refine hQ _ _ _ (.inr rfl) (done_tmp ?_ fun n b hn h => (hkqd n hn).trans h)
        try simp only [ev_hit, length_putv, hlqd, Nat.reduceLT]
      · refine vw_sc 0 [.pur (Bo (arrS q d o))] ?_
        simp only [bs, Nat.reduceAdd, ↓vopx, ↓vop, Nat.reduceBEq, thenV, Nat.reduceLT, dLoad, vpart, hlqd, qd_8, qd_14, qd_21, qdB3, qdB4, wocs, ↓goc, ↓woc, ↓vopm0, ↓callC, calleeV, Tryd.ag25, Tryd.sz25, ho]
        repeat ((with_reducible refine And.intro ?_ ?_); · exact ⟨Tryd.is34, by simpa only [ho] using arrow_ q d o (by omega) (by omega) (by omega) (by omega) (by omega)⟩)
        refine hK25 _ _ ?_
        refine vw_cond_k fun A B hA hB => ?_
        simp only [condV, ev_hit, length_putv, Nat.reduceLT, true_implies, reduceCtorEq, false_implies, true_and, hlqd]
        refine hB ?_
        clear hA hB A B
        refine vw_skip ?_
        refine hK24 _ _ ?_
        refine vw_seq_k fun K27 hK27 => ?_
        refine vw_sc 0 [.pur (.tup [.t (tInts (thenS i o).1), Bo (thenS i o).2])] ?_
        simp only [bs, ↓vopx, ↓vop, Nat.reduceBEq, thenV, Nat.reduceLT, hlqd, qd_8, qd_22, wocs, ↓goc, ↓woc, ↓vopm0, ↓callC, calleeV]
        repeat ((with_reducible refine And.intro ?_ ?_); · exact ⟨Tryd.is32, then_ i o (by omega) (by omega)⟩)
        refine hK27 _ _ ?_
        refine vw_seq_k fun K28 hK28 => ?_
        refine vw_sc 0 [.pur (.tup [.t (tInts (thenS j o).1), Bo (thenS j o).2])] ?_
        simp only [bs, ↓vopx, ↓vop, Nat.reduceBEq, thenV, Nat.reduceLT, hlqd, qd_8, qd_23, wocs, ↓goc, ↓woc, ↓vopm0, ↓callC, calleeV]
        repeat ((with_reducible refine And.intro ?_ ?_); · exact ⟨Tryd.is32, then_ j o (by omega) (by omega)⟩)
        refine hK28 _ _ ?_
        refine vw_seq_k fun K29 hK29 => ?_
        have hun := hM.un o ho
        have q1 := thenS_le1 i o
        have q2 := thenS_le1 j o
        rcases (show ((thenS i o).1 == h) = false ∨ ((thenS i o).1 == h) = true by cases ((thenS i o).1 == h) <;> simp) with hA | hA
        · rw [hA, Bool.false_and] at hun
          refine vw_sc 0 [.pur (Bo (false)), .pur (Bo (false)), .far (.bool true)] ?_
          simp only [bs, ↓vopx, ↓vop, Nat.reduceBEq, thenV, flat, Nat.reduceLT, gtmp, hlqd, qd_6, qd_8, qd_19, wocs, ↓goc, ↓woc, ↓vopm0, ↓callC, ↓pick_ft, calleeV, ↓farC]
          repeat ((with_reducible refine And.intro ?_ ?_); · first | exact ⟨Tryd.is33, by have := arrowSame_ (thenS i o).1 h (by omega) (by omega); rw [hA] at this; exact this⟩ | exact ⟨Tryd.is33, by have := arrowSame_ o u (by omega) (by omega); rw [← hun] at this; exact this⟩ | exact far_bb _ _ _)
          refine hK29 _ _ ?_
          refine vw_ret ?_
          refine hQ _ _ _ (.inr rfl) (done_tmp ?_ fun n b hn h => (hkqd n hn).trans h)
          try simp only [ev_hit, length_putv, hlqd, Nat.reduceLT]
        · rw [hA, Bool.true_and] at hun
          refine vw_sc 0 [.pur (Bo (true)), .pur (Bo ((thenS j o).1 == k)), .pur (Bo ((thenS j o).1 == k)), .far (.bool true)] ?_
          simp only [bs, ↓vopx, ↓vop, Nat.reduceBEq, thenV, flat, Nat.reduceLT, gtmp, hlqd, qd_6, qd_7, qd_8, qd_19, wocs, ↓goc, ↓woc, ↓vopm0, ↓callC, ↓pick_tt, calleeV, ↓farC]
          repeat ((with_reducible refine And.intro ?_ ?_); · first | exact ⟨Tryd.is33, by have := arrowSame_ (thenS i o).1 h (by omega) (by omega); rw [hA] at this; exact this⟩ | exact ⟨Tryd.is33, by have := arrowSame_ (thenS j o).1 k (by omega) (by omega); exact this⟩ | exact ⟨Tryd.is33, by have := arrowSame_ o u (by omega) (by omega); rw [← hun] at this; exact this⟩ | exact far_bb _ _ _)
          refine hK29 _ _ ?_
          refine vw_ret ?_
          refine hQ _ _ _ (.inr rfl) (done_tmp ?_ fun n b hn h => (hkqd n hn).trans h)
          try simp only [ev_hit, length_putv, hlqd, Nat.reduceLT]

end Go.Proofs

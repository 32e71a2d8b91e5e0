/- Lemmas on the way to the statement of this claim; no conditions. -/
import Derived.Shelf.Sort.AssemblyIn
import Derived.Shelf.Slices.In.SortNone
import Derived.Test.YtkdkajlgbhggdaaDoorN28
import Derived.Test.YtkdkajlgbhggdaaDoorN33
import Derived.Test.YtkdkajlgbhggdaaDoorN34
import Derived.Test.YtkdkajlgbhggdaaDoorN36
import Derived.Test.YtkdkajlgbhggdaaDoorN37
import Derived.Test.YtkdkajlgbhggdaaDoorN38
import Derived.Test.YtkdkajlgbhggdaaDoorN40
import Derived.Test.YtkdkajlgbhggdaaDoorN42
import Derived.Test.YtkdkajlgbhggdaaDoorN45
import Derived.Test.YtkdkajlgbhggdaaDoorN46
open Go Go.V
namespace Go.Proofs
theorem thenS_le (f g : List Int) : (thenS f g).1.length ≤ f.length := by
  unfold thenS; split <;> simp
end Go.Proofs

open Go Go.V
namespace Go.Proofs
theorem legT_length (n base : Nat) : (legT n base).length = n := by simp [legT]
abbrev pushE (a b c : Ob) (f g : List Int) : Ob × List Int × Int := eqS a (besideS b c) (thenS f (legT b.labels.length 0)).1 (thenS g (legT c.labels.length b.labels.length)).1
def pushS (a b c : Ob) (f g : List Int) : Ob × List Int × List Int × Int :=
  if largeS [a] = true ∨ largeS [b, c] = true then (⟨[], []⟩, [], [], 11) else if arrS a b f = true ∧ arrS a c g = true then
    (if (pushE a b c f g).2.2 = 0 then ((pushE a b c f g).1, (thenS (legT b.labels.length 0) (pushE a b c f g).2.1).1, (thenS (legT c.labels.length b.labels.length) (pushE a b c f g).2.1).1, 0) else (⟨[], []⟩, [], [], (pushE a b c f g).2.2))
  else (⟨[], []⟩, [], [], 10)
end Go.Proofs

open Go Go.V
namespace Go.Proofs
theorem few_le {o : Ob} (h : fewS o = true) : o.labels.length ≤ 50 ∧ o.pairs.length ≤ 200 := by
  unfold fewS at h
  simp only [Bool.and_eq_true, decide_eq_true_eq] at h
  exact ⟨h.1.2, h.2⟩
end Go.Proofs

open Go Go.V
namespace Go.Proofs
def fillN (n i : Nat) : List Int := List.replicate i (-1) ++ List.replicate (n - i) 0
theorem fillN_len {n i : Nat} (h : i ≤ n) : (fillN n i).length = n := by simp [fillN]; omega
theorem fillN_set {n i : Nat} (h : i < n) : (fillN n i).set i (-1) = fillN n (i + 1) := by
  unfold fillN
  rw [List.set_append_right _ _ (by simp), List.length_replicate, Nat.sub_self, show n - i = (n - (i + 1)) + 1 by omega, List.replicate_succ, List.set_cons_zero, List.replicate_succ', List.append_assoc]; rfl
theorem fillN_zero (n : Nat) : repl [TI 0] n = (fillN n 0).map TI := by
  rw [repl_one]; simp [fillN]
theorem fillN_full (n : Nat) : fillN n n = List.replicate n (-1) := by simp [fillN]
def putL (o l w : List Int) : Nat → List Int
  | 0 => o
  | x + 1 => (putL o l w x).set (l.getD x 0).toNat (w.getD x 0)
theorem putL_len (o l w : List Int) : ∀ x, (putL o l w x).length = o.length
  | 0 => rfl
  | x + 1 => by simp [putL, putL_len o l w x]
theorem putL_succ {o l w : List Int} {x : Nat} {y z : Int} (hy : l[x]? = some y) (hz : w[x]? = some z) : putL o l w (x + 1) = (putL o l w x).set y.toNat z := by
  show (putL o l w x).set (l.getD x 0).toNat (w.getD x 0) = _
  rw [getD_of hy, getD_of hz]
def outK (n : Nat) (legs ways : List (List Int)) : Nat → List Int
  | 0 => List.replicate n (-1)
  | i + 1 => if (legs.getD i []).length = (ways.getD i []).length then putL (outK n legs ways i) (legs.getD i []) (ways.getD i []) (legs.getD i []).length else outK n legs ways i
theorem outK_len (n : Nat) (legs ways : List (List Int)) : ∀ i, (outK n legs ways i).length = n
  | 0 => by simp [outK]
  | i + 1 => by unfold outK; split <;> simp [putL_len, outK_len n legs ways i]
theorem outK_skip {n : Nat} {legs ways : List (List Int)} {i : Nat} {l w : List Int} (hl : legs[i]? = some l) (hw : ways[i]? = some w) (h : l.length ≠ w.length) : outK n legs ways (i + 1) = outK n legs ways i := by
  show (if (legs.getD i []).length = (ways.getD i []).length then _ else _) = _
  rw [List.getD_eq_getElem?_getD, List.getD_eq_getElem?_getD, hl, hw]
  exact if_neg h
theorem outK_put {n : Nat} {legs ways : List (List Int)} {i : Nat} {l w : List Int} (hl : legs[i]? = some l) (hw : ways[i]? = some w) (h : l.length = w.length) : outK n legs ways (i + 1) = putL (outK n legs ways i) l w l.length := by
  show (if (legs.getD i []).length = (ways.getD i []).length then putL _ (legs.getD i []) (ways.getD i []) (legs.getD i []).length else _) = _
  rw [List.getD_eq_getElem?_getD, List.getD_eq_getElem?_getD, hl, hw]
  exact if_pos h
def outS (n : Nat) (legs ways : List (List Int)) : List Int := outK n legs ways legs.length
theorem mneg (z : Int) : (T.v (Value.int .i64 z)) = TI z := rfl
set_option maxRecDepth 20000 in
set_option maxHeartbeats 4000000 in
theorem out_ (n : Nat) (hn : n ≤ 1000) (legs ways : List (List Int)) (hlw : legs.length ≤ ways.length) (hll : legs.length ≤ 1000) (hsz : ∀ l ∈ legs, l.length ≤ 1000) (hin : ∀ l ∈ legs, ∀ y ∈ l, 0 ≤ y ∧ y < (n : Int)) : PCall Tryd.prog 81 [I n, .t (tMat legs), .t (tMat ways)] (.t (tInts (outS n legs ways))) := by
  refine pcall_of_body Tryd.func81 rfl fun s Q hQ => ?_
  obtain ⟨e, he, hl, h0, h1, h2⟩ : ∃ e : Env, ([I n, .t (tMat legs), .t (tMat ways)] ++ List.replicate (Tryd.f81.ntmps - ([I n, .t (tMat legs), .t (tMat ways)] : List V).length) .junk) = e ∧ e.length = 59 ∧ ev e (.tmp 0) = I n ∧ ev e (.tmp 1) = .t (tMat legs) ∧ ev e (.tmp 2) = .t (tMat ways) := ⟨_, rfl, rfl, rfl, rfl, rfl⟩
  rw [he]
  clear he
  refine vsk fun K1 hK1 => ?_
  refine vw_sc 0 [] ?_
  simp only [bs, ↓vopx, ↓vop, thenV, flat, wocs, ↓goc, ↓woc, ↓vopm0]
  refine hK1 _ _ ?_
  refine vw_scope ?_
  refine vsk fun K2 hK2 => ?_
  refine vw_sc 0 [] ?_
  simp only [bs, ↓vopx, ↓vop, Nat.reduceBEq, thenV, Nat.reduceLT, hl, h0, wocs, ↓goc, ↓woc, ↓vopm0, Tryd.sl26, fillN_zero]
  repeat ((with_reducible refine And.intro ?_ ?_); · omega)
  refine hK2 _ _ ?_
  refine vsk fun K3 hK3 => ?_
  refine vsk fun K4 hK4 => ?_
  refine vw_sc 0 [] ?_
  simp only [bs, ↓vopx, ↓vop, thenV, flat, Nat.reduceLT, hl, wocs, ↓goc, ↓woc, ↓vopm0]
  refine hK4 _ _ ?_
  refine vw_block ?_
  refine vw_loop (fun mm e' s' => ∃ i : Nat, mm = n - i ∧ i ≤ n ∧ e'.length = 59 ∧ ev e' (.tmp 1) = .t (tMat legs) ∧ ev e' (.tmp 2) = .t (tMat ways) ∧ ev e' (.tmp 7) = .loc s.next 0 n ∧ ev e' (.tmp 16) = I n ∧ ev e' (.tmp 17) = I i ∧ True ∧ s'.m s.next = some (.arr 1 3 ((fillN n i).map TI)) ∧ ∀ j, j < s.next → s'.m j = s.m j) (⟨0, rfl, Nat.zero_le _, ?_⟩) ?_
  · try simp only [ev_hit, ev_miss, Nat.reduceBEq, lpv, hl, h1, h2, Nat.reduceLT, true_and]
    repeat ((with_reducible refine And.intro ?_ ?_); · trivial)
    exact ⟨add_self _ _, fun j hj => by rw [m_add, if_neg (by omega)]⟩
  rintro mm e s1 ⟨i, rfl, hle_i, hl, k1, k2, k7, k16, h_i, hst, ⟨hM, hSm⟩⟩
  refine vsk fun K5 hK5 => ?_
  refine vw_sc 0 [] ?_
  simp only [thenV, opII, k16, h_i, wocs, ↓goc, ↓woc]
  refine hK5 _ _ ?_
  refine vsk fun K6 hK6 => ?_
  refine vck fun A B hA hB => ?_
  simp only [condV, ev_hit, Nat.reduceLT, decide_eq_true_eq, decide_eq_false_iff_not, hl]
  refine ⟨fun hc18 => hA ?_, fun hc18 => hB ?_⟩
  · clear hA hB A B
    refine vw_skip ?_
    refine hK6 _ _ ?_
    refine vsk fun K7 hK7 => ?_
    refine vw_block ?_
    refine vsk fun K8 hK8 => ?_
    refine vw_sc 0 [] ?_
    simp only [bs, ↓vopx, ↓vop, Nat.reduceBEq, thenV, Nat.reduceLT, hl, h_i, wocs, ↓goc, ↓woc, ↓vopm0]
    refine hK8 _ _ ?_
    have hfl := fillN_len hle_i
    have hin1 : i < n := by omega
    refine vw_sc 0 [] ?_
    simp only [bs, ↓vopx, ↓vop, Nat.reduceBEq, thenV, blockV, flat, Nat.reduceLT, V.cells, Sg.frzL, Sg.frz1, hl, k7, wocs, ↓goc, ↓woc, ↓vopm0, Tryd.sz3, Tryd.un26, hM, hfl]
    repeat ((with_reducible refine And.intro ?_ ?_); · first | (with_reducible assumption) | omega)
    refine hK7 _ _ ?_
    refine vw_sc 0 [] ?_
    simp only [bs, ↓vopx, ↓vop, Nat.reduceBEq, thenV, flat, Nat.reduceLT, opII, hl, k1, k2, k7, k16, h_i, wocs, ↓goc, ↓woc, ↓vopm0, tMat]
    repeat ((with_reducible refine And.intro ?_ ?_); · exact ⟨by omega, by omega⟩)
    refine ⟨n - (i + 1), by omega, i + 1, rfl, by omega, ?_⟩
    try simp only [ev_hit, ev_miss, Nat.reduceBEq, lpv, hl, k1, k2, k7, k16, h_i, if_true, if_false, Nat.reduceEqDiff, Nat.reduceLT, true_and, and_true]
    repeat ((with_reducible refine And.intro ?_ ?_); · trivial)
    exact ⟨by rw [mneg, setAll_TI2 _ (by omega), fillN_set hin1], fun j hj => by rw [if_neg (by omega)]; exact hSm j hj⟩
  · clear hA hB A B
    refine vw_exit ?_
    simp only [thenV, blockV, noGoto, if_true]
    refine hK3 _ _ ?_
    refine vsk fun K9 hK9 => ?_
    refine vw_label ?_
    try simp only [thenV]
    refine hK9 _ _ ?_
    refine vsk fun K10 hK10 => ?_
    refine vsk fun K11 hK11 => ?_
    refine vw_sc 0 [] ?_
    simp only [bs, ↓vopx, ↓vop, Nat.reduceBEq, thenV, flat, Nat.reduceLT, hl, k1, wocs, ↓goc, ↓woc, ↓vopm0, len_tMat, tMat]
    refine hK11 _ _ ?_
    refine vw_block ?_
    refine vw_loop (fun mm e' s' => ∃ i2 : Nat, mm = legs.length - i2 ∧ i2 ≤ legs.length ∧ e'.length = 59 ∧ ev e' (.tmp 2) = .t (tMat ways) ∧ ev e' (.tmp 7) = .loc s.next 0 n ∧ ev e' (.tmp 24) = .t (tMat legs) ∧ ev e' (.tmp 25) = I legs.length ∧ ev e' (.tmp 26) = I i2 ∧ True ∧ s'.m s.next = some (.arr 1 3 ((outK n legs ways i2).map TI)) ∧ ∀ j, j < s.next → s'.m j = s.m j) (⟨0, rfl, Nat.zero_le _, ?_⟩) ?_
    · try simp only [ev_hit, ev_miss, Nat.reduceBEq, lpv, hl, k2, k7, Nat.reduceLT, true_and]
      repeat ((with_reducible refine And.intro ?_ ?_); · trivial)
      have hiN : i = n := by omega
      subst hiN
      rw [fillN_full] at hM
      exact ⟨hM, hSm⟩
    rintro mm e s1 ⟨i2, rfl, hle_i2, hl, m2, m7, m24, m25, h_i2, hst, ⟨hM, hSm⟩⟩
    refine vsk fun K12 hK12 => ?_
    refine vw_sc 0 [] ?_
    simp only [thenV, opII, m25, h_i2, wocs, ↓goc, ↓woc]
    refine hK12 _ _ ?_
    refine vsk fun K13 hK13 => ?_
    refine vck fun A B hA hB => ?_
    simp only [condV, ev_hit, Nat.reduceLT, decide_eq_true_eq, decide_eq_false_iff_not, hl]
    refine ⟨fun hc27 => hA ?_, fun hc27 => hB ?_⟩
    · clear hA hB A B
      refine vw_skip ?_
      refine hK13 _ _ ?_
      refine vsk fun K14 hK14 => ?_
      refine vw_block ?_
      refine vsk fun K15 hK15 => ?_
      obtain ⟨l, hl9⟩ : ∃ l, legs[i2]? = some l := ⟨_, List.getElem?_eq_getElem (by omega)⟩
      obtain ⟨w, hw9⟩ : ∃ w, ways[i2]? = some w := ⟨_, List.getElem?_eq_getElem (by omega)⟩
      have hls := hsz l (List.mem_of_getElem? hl9)
      have hi2 : i2 < legs.length := by omega
      have hi3 : i2 < ways.length := by omega
      refine vw_sc 0 [] ?_
      simp only [bs, ↓vopx, ↓vop, Nat.reduceBEq, thenV, Nat.reduceLT, dLoad, vpart, hl, m24, h_i2, wocs, ↓goc, ↓woc, ↓vopm0, Tryd.ag26, Tryd.sz26, Tryd.un63, tMat, hl9]
      repeat ((with_reducible refine And.intro ?_ ?_); · (with_reducible assumption))
      refine hK15 _ _ ?_
      refine vsk fun K16 hK16 => ?_
      refine vsk fun K17 hK17 => ?_
      refine vw_sc 0 [] ?_
      simp only [bs, ↓vopx, ↓vop, Nat.reduceBEq, thenV, Nat.reduceLT, dLoad, vpart, opII, hl, m2, wocs, ↓goc, ↓woc, ↓vopm0, Tryd.ag26, Tryd.sz26, Tryd.un26, Tryd.un63, len_tInts, tMat, hw9]
      repeat ((with_reducible refine And.intro ?_ ?_); · (with_reducible assumption))
      refine hK17 _ _ ?_
      refine vck fun A B hA hB => ?_
      simp only [condV, ev_hit, lpv, Nat.reduceLT, bne_iff_ne, bne_eq_false_iff_eq, ne_eq, hl]
      refine ⟨fun hc38 => hA ?_, fun hc38 => hB ?_⟩
      · clear hA hB A B
        refine vw_exit ?_
        simp only [thenV, blockV, noGoto, if_true, if_false, Nat.reduceEqDiff]
        refine hK14 _ _ ?_
        refine vw_sc 0 [] ?_
        simp only [bs, ↓vopx, ↓vop, Nat.reduceBEq, thenV, flat, Nat.reduceLT, opII, hl, m2, m7, m24, m25, h_i2, wocs, ↓goc, ↓woc, ↓vopm0, tMat]
        repeat ((with_reducible refine And.intro ?_ ?_); · exact ⟨by omega, by omega⟩)
        refine ⟨legs.length - (i2 + 1), by omega, i2 + 1, rfl, by omega, ?_⟩
        try simp only [ev_hit, ev_miss, Nat.reduceBEq, lpv, hl, m2, m7, m24, m25, h_i2, if_true, if_false, Nat.reduceEqDiff, Nat.reduceLT, true_and, and_true]
        repeat ((with_reducible refine And.intro ?_ ?_); · trivial)
        first
          | exact ⟨by rw [outK_skip hl9 hw9 (by omega)]; exact hM, hSm⟩
          | exact ⟨by rw [outK_put hl9 hw9 (by omega), show l.length = j from by omega]; exact hM, hSm⟩
      · clear hA hB A B
        refine vw_skip ?_
        refine hK16 _ _ ?_
        refine vsk fun K18 hK18 => ?_
        refine vw_sc 0 [] ?_
        simp only [bs, ↓vopx, ↓vop, Nat.reduceBEq, thenV, flat, Nat.reduceLT, hl, wocs, ↓goc, ↓woc, ↓vopm0, len_tInts]
        refine hK18 _ _ ?_
        refine vw_block ?_
        refine vw_loop (fun mm e' s' => ∃ j : Nat, mm = l.length - j ∧ j ≤ l.length ∧ e'.length = 59 ∧ ev e' (.tmp 2) = .t (tMat ways) ∧ ev e' (.tmp 7) = .loc s.next 0 n ∧ ev e' (.tmp 9) = I i2 ∧ ev e' (.tmp 24) = .t (tMat legs) ∧ ev e' (.tmp 25) = I legs.length ∧ ev e' (.tmp 26) = I i2 ∧ ev e' (.tmp 39) = .t (tInts l) ∧ ev e' (.tmp 40) = I l.length ∧ ev e' (.tmp 41) = I j ∧ True ∧ s'.m s.next = some (.arr 1 3 ((putL (outK n legs ways i2) l w j).map TI)) ∧ ∀ j, j < s.next → s'.m j = s.m j) (⟨0, rfl, Nat.zero_le _, ?_⟩) ?_
        · try simp only [ev_hit, ev_miss, Nat.reduceBEq, lpv, hl, m2, m7, m24, m25, Nat.reduceLT, true_and]
          repeat ((with_reducible refine And.intro ?_ ?_); · trivial)
          exact hSm
        rintro mm e s1 ⟨j, rfl, hle_j, hl, p2, p7, p9, p24, p25, p26, p39, p40, h_j, hst, ⟨hM, hSm⟩⟩
        refine vsk fun K19 hK19 => ?_
        refine vw_sc 0 [] ?_
        simp only [thenV, opII, p40, h_j, wocs, ↓goc, ↓woc]
        refine hK19 _ _ ?_
        refine vsk fun K20 hK20 => ?_
        refine vck fun A B hA hB => ?_
        simp only [condV, ev_hit, Nat.reduceLT, decide_eq_true_eq, decide_eq_false_iff_not, hl]
        refine ⟨fun hc42 => hA ?_, fun hc42 => hB ?_⟩
        · clear hA hB A B
          refine vw_skip ?_
          refine hK20 _ _ ?_
          refine vsk fun K21 hK21 => ?_
          refine vw_block ?_
          refine vsk fun K22 hK22 => ?_
          obtain ⟨y, hy⟩ : ∃ y, l[j]? = some y := ⟨_, List.getElem?_eq_getElem (by omega)⟩
          obtain ⟨z, hz⟩ : ∃ z, w[j]? = some z := ⟨_, List.getElem?_eq_getElem (by omega)⟩
          have hjl : j < l.length := by omega
          have hjw : j < w.length := by omega
          have hyb := hin l (List.mem_of_getElem? hl9) y (List.mem_of_getElem? hy)
          refine vw_sc 0 [] ?_
          simp only [bs, ↓vopx, ↓vop, Nat.reduceBEq, thenV, Nat.reduceLT, dLoad, vpart, hl, p39, h_j, wocs, ↓goc, ↓woc, ↓vopm0, Tryd.ag3, Tryd.sz3, Tryd.un26, hy]
          repeat ((with_reducible refine And.intro ?_ ?_); · (with_reducible assumption))
          refine hK22 _ _ ?_
          have hpl := putL_len (outK n legs ways i2) l w j
          have hol := outK_len n legs ways i2
          refine vw_sc 0 [] ?_
          simp only [bs, ↓vopx, ↓vop, Nat.reduceBEq, thenV, blockV, Nat.reduceLT, V.cells, dLoad, vpart, Sg.frzL, Sg.frz1, hl, p2, p7, p9, wocs, ↓goc, ↓woc, ↓vopm0, Tryd.ag26, Tryd.ag3, Tryd.sz26, Tryd.sz3, Tryd.un26, Tryd.un63, tMat, hM, hz, hw9, hpl, hol]
          repeat ((with_reducible refine And.intro ?_ ?_); · first | (with_reducible assumption) | omega)
          refine hK21 _ _ ?_
          refine vw_sc 0 [] ?_
          simp only [bs, ↓vopx, ↓vop, Nat.reduceBEq, thenV, flat, Nat.reduceLT, opII, hl, p2, p7, p9, p24, p25, p26, p39, p40, h_j, wocs, ↓goc, ↓woc, ↓vopm0, tMat]
          repeat ((with_reducible refine And.intro ?_ ?_); · exact ⟨by omega, by omega⟩)
          refine ⟨l.length - (j + 1), by omega, j + 1, rfl, by omega, ?_⟩
          try simp only [ev_hit, ev_miss, Nat.reduceBEq, lpv, hl, p2, p7, p9, p24, p25, p26, p39, p40, h_j, if_true, if_false, Nat.reduceEqDiff, Nat.reduceLT, true_and, and_true]
          repeat ((with_reducible refine And.intro ?_ ?_); · trivial)
          exact ⟨by rw [setAll_TI2 _ (by rw [hpl, hol]; omega), putL_succ hy hz], fun j hj => by rw [if_neg (by omega)]; exact hSm j hj⟩
        · clear hA hB A B
          refine vw_exit ?_
          simp only [thenV, blockV, noGoto, if_true, if_false, Nat.reduceEqDiff]
          refine hK14 _ _ ?_
          refine vw_sc 0 [] ?_
          simp only [bs, ↓vopx, ↓vop, Nat.reduceBEq, thenV, flat, Nat.reduceLT, opII, hl, p2, p7, p24, p25, p26, wocs, ↓goc, ↓woc, ↓vopm0, tMat]
          repeat ((with_reducible refine And.intro ?_ ?_); · exact ⟨by omega, by omega⟩)
          refine ⟨legs.length - (i2 + 1), by omega, i2 + 1, rfl, by omega, ?_⟩
          try simp only [ev_hit, ev_miss, Nat.reduceBEq, lpv, hl, m2, m7, m24, m25, h_i2, if_true, if_false, Nat.reduceEqDiff, Nat.reduceLT, true_and, and_true]
          repeat ((with_reducible refine And.intro ?_ ?_); · trivial)
          first
            | exact ⟨by rw [outK_skip hl9 hw9 (by omega)]; exact hM, hSm⟩
            | exact ⟨by rw [outK_put hl9 hw9 (by omega), show l.length = j from by omega]; exact hM, hSm⟩
    · clear hA hB A B
      refine vw_exit ?_
      simp only [thenV, blockV, noGoto, if_true]
      refine hK10 _ _ ?_
      refine vsk fun K23 hK23 => ?_
      refine vw_sc 0 [] ?_
      simp only [bs, ↓vopx, ↓vop, Nat.reduceBEq, thenV, Nat.reduceLT, hl, m7, wocs, ↓goc, ↓woc, ↓vopm0]
      refine hK23 _ _ ?_
      refine vw_ret ?_
      have hiL : i2 = legs.length := by omega
      subst hiL
      refine hQ _ _ _ (.inr rfl) (done_loc (n := s.next) (len := n) ?_ hM ?_ (Nat.le_refl _) fun m b hl h => (hSm m hl).trans h)
      · simp only [ev_hit, lpv, hl, Nat.reduceLT]
      · show ((outS n legs ways).map TI).length = n * 1; rw [List.length_map, show outS n legs ways = outK n legs ways legs.length from rfl, outK_len, Nat.mul_one]
end Go.Proofs

open Go Go.V
namespace Go.Proofs
structure LaI (s : Sg) (o : Ob) (L : List Int) (i m7 : Nat) (s' : Sg) : Prop where
  b2 : s'.m s.next = some (.box 25 [.t (tStrs o.labels), .t (tPairs o.pairs)])
  b4 : s'.m (s.next + 1) = some (.box 25 [.t (.v (.slice none 0 0)), .t (.v (.slice none 0 0))])
  a7 : s'.m m7 = some (.arr 1 9 ((glLab o L i).map TS))
  same : ∀ j, j < s.next → s'.m j = s.m j
  lo : s.next + 2 ≤ m7
  hi : m7 < s'.next
theorem glLab_old {o : Ob} {L : List Int} {i : Nat} {z : Int} (hz : L[i]? = some z) (h : z ≠ (glLab o L i).length) : glLab o L (i + 1) = glLab o L i := by
  have hg := getD_of hz
  unfold glLab at h ⊢
  rw [List.length_map] at h
  show List.map _ (if L.getD i 0 = (fstL L i).length then fstL L i ++ [i] else fstL L i) = _
  rw [hg, if_neg h]
theorem glLab_new {o : Ob} {L : List Int} {i : Nat} {z : Int} {lb : ByteArray} (hz : L[i]? = some z) (h : z = (glLab o L i).length) (hl : o.labels[i]? = some lb) : glLab o L (i + 1) = glLab o L i ++ [lb] := by
  have hg := getD_of hz
  unfold glLab at h ⊢
  rw [List.length_map] at h
  show List.map _ (if L.getD i 0 = (fstL L i).length then fstL L i ++ [i] else fstL L i) = _
  rw [hg, if_pos h]
  simp [List.getD_eq_getElem?_getD, hl]
theorem LaI.old {s : Sg} {o : Ob} {L : List Int} {i m7 : Nat} {s' : Sg} (h : LaI s o L i m7 s') {z : Int} (hz : L[i]? = some z) (hn : z ≠ (glLab o L i).length) : ∃ m, V.loc m7 0 (glLab o L i).length = .loc m 0 (glLab o L (i + 1)).length ∧ LaI s o L (i + 1) m s' := by
  refine ⟨m7, ?_, ?_⟩
  · rw [glLab_old hz hn]
  · obtain ⟨h1, h2, h3, h4, h5, h6⟩ := h
    exact ⟨h1, h2, by rw [glLab_old hz hn]; exact h3, h4, h5, h6⟩
theorem LaI.new {s : Sg} {o : Ob} {L : List Int} {i m7 : Nat} {s' : Sg} (h : LaI s o L i m7 s') {z : Int} {lb : ByteArray} (hz : L[i]? = some z) (hn : z = (glLab o L i).length) (hl : o.labels[i]? = some lb) (B : Blk) : ∃ m, V.loc (s'.next + 1) 0 ((glLab o L i).length + 1) = .loc m 0 (glLab o L (i + 1)).length ∧ LaI s o L (i + 1) m (((s'.add B).del m7).add (.arr 1 9 ((glLab o L i).map TS ++ [TS lb]))) := by
  have hlo := h.lo
  have hhi := h.hi
  have hfr : ∀ x, x < s'.next → x ≠ m7 → (((s'.add B).del m7).add (.arr 1 9 ((glLab o L i).map TS ++ [TS lb]))).m x = s'.m x := fun x h1 h2 => by
    rw [m_add, if_neg (by simp only [n_del, n_add]; omega), m_del, if_neg h2, m_add, if_neg (by omega)]
  refine ⟨s'.next + 1, ?_, ?_, ?_, ?_, fun j hj => ?_, by omega, by simp only [n_del, n_add]; omega⟩
  · rw [glLab_new hz hn hl, List.length_append]; rfl
  · rw [hfr _ (by omega) (by omega)]; exact h.b2
  · rw [hfr _ (by omega) (by omega)]; exact h.b4
  · rw [m_add, if_pos (by simp only [n_del, n_add]), glLab_new hz hn hl, List.map_append]; rfl
  · rw [hfr _ (by omega) (by omega)]; exact h.same j hj
end Go.Proofs

open Go Go.V
namespace Go.Proofs
structure BdI (s : Sg) (b c : Ob) (n6 k m : Nat) (s' : Sg) : Prop where
  b3 : s'.m (s.next + 1) = some (.box 25 [.t (tStrs c.labels), .t (tPairs c.pairs)])
  b4 : s'.m (s.next + 1 + 1) = some (.box 25 [.t (.v (.slice none 0 0)), .t (.v (.slice none 0 0))])
  b6 : s'.m n6 = some (.box 25 [.t (tStrs (b.labels ++ c.labels)), .loc m 0 (b.pairs.length + k)])
  am : s'.m m = some (.arr 2 84 ((b.pairs ++ (c.pairs.take k).map (shP b.labels.length)).flatMap pcells))
  same : ∀ j, j < s.next → s'.m j = s.m j
  l6 : s.next + 3 ≤ n6 ∧ n6 < s'.next
  lm : s.next + 3 ≤ m ∧ m < s'.next
  d : n6 ≠ m
theorem BdI.push {s : Sg} {b c : Ob} {n6 i m : Nat} {s1 : Sg} (h : BdI s b c n6 i m s1) {p : Int × Int} (hp : c.pairs[i]? = some p) (B : Blk) : BdI s b c n6 (i + 1) (s1.next + 1)
    ((((s1.add B).del m).add (.arr 2 84 ((b.pairs ++ (c.pairs.take i).map (shP b.labels.length)).flatMap pcells ++ [TI (p.1 + b.labels.length), TI (p.2 + b.labels.length)]))).set n6 (.box 25 [.t (tStrs (b.labels ++ c.labels)), .loc (s1.next + 1) 0 (b.pairs.length + i + 1)])) := by
  obtain ⟨h3, h4, h6, ha, hs, ⟨l6, l6'⟩, ⟨lm, lm'⟩, hd⟩ := h
  have hfr : ∀ x, x < s1.next → x ≠ m → x ≠ n6 → ((((s1.add B).del m).add (.arr 2 84 ((b.pairs ++ (c.pairs.take i).map (shP b.labels.length)).flatMap pcells ++ [TI (p.1 + b.labels.length), TI (p.2 + b.labels.length)]))).set n6 (.box 25 [.t (tStrs (b.labels ++ c.labels)), .loc (s1.next + 1) 0 (b.pairs.length + i + 1)])).m x = s1.m x := fun x h1 h2 h5 => by
    rw [m_set, if_neg h5, m_add, if_neg (by simp only [n_del, n_add]; omega), m_del, if_neg h2, m_add, if_neg (by omega)]
  refine ⟨by rw [hfr _ (by omega) (by omega) (by omega)]; exact h3, by rw [hfr _ (by omega) (by omega) (by omega)]; exact h4, by rw [m_set, if_pos rfl]; rfl, ?_, fun j hj => by rw [hfr _ (by omega) (by omega) (by omega)]; exact hs j hj, ⟨l6, by simp only [n_set, n_add, n_del]; omega⟩, ⟨by omega, by simp only [n_set, n_add, n_del]; omega⟩, by omega⟩
  rw [m_set, if_neg (by omega), m_add, if_pos (by simp only [n_del, n_add]), List.take_add_one, hp]
  simp [shP, pcells]
end Go.Proofs

open Go Go.V
namespace Go.Proofs
theorem legT_get {n base i : Nat} (h : i < n) : (legT n base)[i]? = some ((base + i : Nat) : Int) := by simp [legT, h]
end Go.Proofs

open Go Go.V
namespace Go.Proofs
theorem allZ_refl {α : Type} {p : α → α → Bool} (h : ∀ a, p a a = true) : ∀ l : List α, allZ p l l = true
  | [] => rfl
  | a :: l => by simp [allZ, h a, allZ_refl h l]
theorem sameS_refl (a : Ob) : sameS a a = true := by
  unfold sameS
  rw [allZ_refl (fun x => by simp [seqB]), allZ_refl (fun x => by simp [peqB])]
  rfl
theorem same_self (a : Ob) (ha : a.labels.length < 1000000000) (ha2 : a.pairs.length < 1000000000) : PCall Tryd.prog 24 [vObj a, vObj a] (Bo true) := by
  have := same_ a a ha ha2 ha ha2
  rw [sameS_refl] at this
  exact this
end Go.Proofs

open Go Go.V
namespace Go.Proofs
def RepOK (R : List Int) : Prop := ∀ (i : Nat) (z : Int), R[i]? = some z → (0 ≤ z ∧ z ≤ i) ∧ R[z.toNat]? = some z
theorem RepOK.wf {R : List Int} (h : RepOK R) : wfU R := fun i z hz => (h i z hz).1
theorem RepOK.range (n : Nat) : RepOK (rangeI n) := fun i z hz => by
  have hi : i < n := by have := (List.getElem?_eq_some_iff.1 hz).1; rwa [rangeI_length] at this
  rw [rangeI_get hi] at hz
  cases hz
  exact ⟨by omega, by simpa using rangeI_get hi⟩
theorem RepOK.join {R : List Int} (h : RepOK R) {a b : Nat} {x y : Int} (hx : R[a]? = some x) (hy : R[b]? = some y) : RepOK (joinL R a b) := by
  obtain ⟨x1, x2⟩ := h a x hx
  obtain ⟨y1, y2⟩ := h b y hy
  intro i z hz
  unfold joinL at hz ⊢
  rw [getD_of hx, getD_of hy] at hz ⊢
  rw [List.getElem?_map] at hz
  obtain ⟨w, hw, rfl⟩ := Option.map_eq_some_iff.1 hz
  obtain ⟨w1, w2⟩ := h i w hw
  have hN : R[(min x y).toNat]? = some (min x y) := by
    rcases Int.le_total x y with hle | hle
    · rw [show min x y = x by omega]; exact x2
    · rw [show min x y = y by omega]; exact y2
  by_cases hm : w = max x y
  · rw [if_pos hm]
    refine ⟨by omega, ?_⟩
    rw [List.getElem?_map, hN]
    simp only [Option.map_some]
    split <;> simp
  · rw [if_neg hm]
    refine ⟨w1, ?_⟩
    rw [List.getElem?_map, w2]
    simp only [Option.map_some, if_neg hm]
theorem joins_ok (n : Nat) (f g : List Int) (hf : ∀ y ∈ f, 0 ≤ y ∧ y < n) (hg : ∀ y ∈ g, 0 ≤ y ∧ y < n) : ∀ k, k ≤ f.length → k ≤ g.length → RepOK (joinsL (rangeI n) f g k) ∧ (joinsL (rangeI n) f g k).length = n
  | 0, _, _ => ⟨RepOK.range n, rangeI_length n⟩
  | k + 1, h1, h2 => by
    obtain ⟨ih, il⟩ := joins_ok n f g hf hg k (by omega) (by omega)
    obtain ⟨y, hy⟩ : ∃ y, f[k]? = some y := ⟨_, List.getElem?_eq_getElem (by omega)⟩
    obtain ⟨z, hz⟩ : ∃ z, g[k]? = some z := ⟨_, List.getElem?_eq_getElem (by omega)⟩
    have by_ := hf y (List.mem_of_getElem? hy)
    have bz := hg z (List.mem_of_getElem? hz)
    rw [joinsL_succ hy hz]
    refine ⟨ih.join (List.getElem?_eq_getElem (by omega)) (List.getElem?_eq_getElem (by omega)), by rw [joinL_length]; exact il⟩
theorem joins_inv {β : Type} (n : Nat) (f g : List Int) (hf : ∀ y ∈ f, 0 ≤ y ∧ y < n) (hg : ∀ y ∈ g, 0 ≤ y ∧ y < n) (h : Nat → β) : ∀ k, k ≤ f.length → k ≤ g.length → (∀ (i : Nat) (y z : Int), i < k → f[i]? = some y → g[i]? = some z → h y.toNat = h z.toNat) →
    ∀ (j : Nat) (r : Int), (joinsL (rangeI n) f g k)[j]? = some r → h r.toNat = h j
  | 0, _, _, _, j, r, hr => by
    have hj : j < n := by have := (List.getElem?_eq_some_iff.1 hr).1; rwa [show joinsL (rangeI n) f g 0 = rangeI n from rfl, rangeI_length] at this
    rw [show joinsL (rangeI n) f g 0 = rangeI n from rfl, rangeI_get hj] at hr
    cases hr; simp
  | k + 1, h1, h2, he, j, r, hr => by
    have ih := joins_inv n f g hf hg h k (by omega) (by omega) (fun i y z hi => he i y z (by omega))
    obtain ⟨hok, il⟩ := joins_ok n f g hf hg k (by omega) (by omega)
    obtain ⟨y, hy⟩ : ∃ y, f[k]? = some y := ⟨_, List.getElem?_eq_getElem (by omega)⟩
    obtain ⟨z, hz⟩ : ∃ z, g[k]? = some z := ⟨_, List.getElem?_eq_getElem (by omega)⟩
    have by_ := hf y (List.mem_of_getElem? hy)
    have bz := hg z (List.mem_of_getElem? hz)
    obtain ⟨a, ha⟩ : ∃ a, (joinsL (rangeI n) f g k)[y.toNat]? = some a := ⟨_, List.getElem?_eq_getElem (by omega)⟩
    obtain ⟨b, hb⟩ : ∃ b, (joinsL (rangeI n) f g k)[z.toNat]? = some b := ⟨_, List.getElem?_eq_getElem (by omega)⟩
    rw [joinsL_succ hy hz] at hr
    unfold joinL at hr
    rw [getD_of ha, getD_of hb, List.getElem?_map] at hr
    obtain ⟨w, hw, rfl⟩ := Option.map_eq_some_iff.1 hr
    have e1 := ih _ _ ha
    have e2 := ih _ _ hb
    have e3 := he k y z (by omega) hy hz
    have e4 := ih _ _ hw
    split
    · rename_i hm
      rw [← e4, hm]
      rcases Int.le_total a b with hle | hle
      · rw [show min a b = a by omega, show max a b = b by omega, e1, e2, e3]
      · rw [show min a b = b by omega, show max a b = a by omega, e1, e2, e3]
    · exact e4
theorem joins_eq (n : Nat) (f g : List Int) (hf : ∀ y ∈ f, 0 ≤ y ∧ y < n) (hg : ∀ y ∈ g, 0 ≤ y ∧ y < n) : ∀ k, k ≤ f.length → k ≤ g.length → ∀ (i : Nat) (y z : Int), i < k → f[i]? = some y → g[i]? = some z → (joinsL (rangeI n) f g k)[y.toNat]? = (joinsL (rangeI n) f g k)[z.toNat]?
  | 0, _, _, i, y, z, hi, _, _ => by omega
  | k + 1, h1, h2, i, y, z, hi, hy, hz => by
    obtain ⟨hok, il⟩ := joins_ok n f g hf hg k (by omega) (by omega)
    obtain ⟨y', hy'⟩ : ∃ y, f[k]? = some y := ⟨_, List.getElem?_eq_getElem (by omega)⟩
    obtain ⟨z', hz'⟩ : ∃ z, g[k]? = some z := ⟨_, List.getElem?_eq_getElem (by omega)⟩
    rw [joinsL_succ hy' hz']
    unfold joinL
    rw [List.getElem?_map, List.getElem?_map]
    by_cases hik : i = k
    · subst hik
      rw [hy] at hy'; cases hy'
      rw [hz] at hz'; cases hz'
      have by_ := hf y (List.mem_of_getElem? hy)
      have bz := hg z (List.mem_of_getElem? hz)
      obtain ⟨a, ha⟩ : ∃ a, (joinsL (rangeI n) f g i)[y.toNat]? = some a := ⟨_, List.getElem?_eq_getElem (by omega)⟩
      obtain ⟨b, hb⟩ : ∃ b, (joinsL (rangeI n) f g i)[z.toNat]? = some b := ⟨_, List.getElem?_eq_getElem (by omega)⟩
      rw [getD_of ha, getD_of hb, ha, hb]
      simp only [Option.map_some, Option.some.injEq]
      rcases Int.le_total a b with hle | hle
      · rw [show min a b = a by omega, show max a b = b by omega]; (split <;> split) <;> simp_all
      · rw [show min a b = b by omega, show max a b = a by omega]; (split <;> split) <;> simp_all
    · rw [joins_eq n f g hf hg k (by omega) (by omega) i y z (by omega) hy hz]
theorem placesL_len (R : List Int) : (placesL R).length = R.length := plS_length R _
theorem pl_step (R : List Int) {i : Nat} (h : i < R.length) : (placesL R)[i]? = some (if R.getD i 0 = i then ((plS R i).2 : Int) else (plS R i).1.getD (R.getD i 0).toNat 0) := by
  have h1 : (plS R (i + 1)).1 = (plS R i).1 ++ [if R.getD i 0 = i then ((plS R i).2 : Int) else (plS R i).1.getD (R.getD i 0).toNat 0] := by
    show (if R.getD i 0 = i then _ else _ : List Int × Nat).1 = _
    split <;> rfl
  have h2 : (placesL R)[i]? = (plS R (i + 1)).1[i]? := by
    rw [← plS_take R (i + 1) R.length h, List.getElem?_take, if_pos (by omega)]; rfl
  rw [h2, h1, List.getElem?_append_right (by rw [plS_length]; omega), plS_length, Nat.sub_self]; rfl
theorem pl_rep {R : List Int} (h : RepOK R) {i : Nat} {z : Int} (hz : R[i]? = some z) : (placesL R)[i]? = (placesL R)[z.toNat]? := by
  have hi := (List.getElem?_eq_some_iff.1 hz).1
  obtain ⟨h1, h2⟩ := h i z hz
  by_cases hr : z = i
  · subst hr; simp
  · rw [pl_step R hi, getD_of hz, if_neg hr]
    have : (plS R i).1.getD z.toNat 0 = (placesL R).getD z.toNat 0 := by
      rw [← plS_take R i R.length (by omega), List.getD_eq_getElem?_getD, List.getElem?_take, if_pos (by omega), List.getD_eq_getElem?_getD]; rfl
    rw [this, List.getD_eq_getElem?_getD, List.getElem?_eq_getElem (by rw [placesL_len]; omega)]; rfl
theorem pl_root {R : List Int} (h : RepOK R) {i : Nat} (hz : R[i]? = some (i : Int)) : (placesL R)[i]? = some ((fstL (placesL R) i).length : Int) := by
  have hi := (List.getElem?_eq_some_iff.1 hz).1
  rw [pl_step R hi, getD_of hz, if_pos rfl, (plS_fst h.wf i (by omega)).1]
theorem fst_step (L : List Int) (i : Nat) : fstL L (i + 1) = if L.getD i 0 = (fstL L i).length then fstL L i ++ [i] else fstL L i := rfl
theorem fst_keep (L : List Int) {i j : Nat} (h : i ≤ j) {k x : Nat} (hx : (fstL L i)[k]? = some x) : (fstL L j)[k]? = some x := by
  induction h with
  | refl => exact hx
  | step _ ih =>
    rw [fst_step]
    split
    · rw [List.getElem?_append_left (List.getElem?_eq_some_iff.1 ih).1]; exact ih
    · exact ih
theorem fst_root {R : List Int} (h : RepOK R) {i : Nat} (hz : R[i]? = some (i : Int)) : (fstL (placesL R) R.length)[(fstL (placesL R) i).length]? = some i := by
  have hi := (List.getElem?_eq_some_iff.1 hz).1
  refine fst_keep _ (show i + 1 ≤ R.length from hi) ?_
  rw [fst_step, getD_of (pl_root h hz), if_pos rfl, List.getElem?_append_right (Nat.le_refl _), Nat.sub_self]; rfl
theorem fst_at {R : List Int} (h : RepOK R) {i : Nat} {z : Int} (hz : R[i]? = some z) : ∃ k : Nat, (placesL R)[i]? = some (k : Int) ∧ (fstL (placesL R) R.length)[k]? = some z.toNat := by
  obtain ⟨h1, h2⟩ := h i z hz
  have hz0 : R[z.toNat]? = some (z.toNat : Int) := by rw [h2]; congr 1; omega
  exact ⟨_, by rw [pl_rep h hz]; exact pl_root h hz0, fst_root h hz0⟩
theorem glLab_len (o : Ob) (L : List Int) : (glLab o L L.length).length = glN L := by simp [glLab, glN]
theorem glMx_within {o : Ob} {L : List Int} (ho : IsOb o) (hl : L.length = o.labels.length) (hok : PlOK L) : Within (glN L) (glMx o L) := by
  intro x y h
  simp only [glMx, List.any_eq_true, Bool.and_eq_true, beq_iff_eq] at h
  obtain ⟨p, hp, rfl, rfl⟩ := h
  have hin := inB_iff.1 ((List.all_eq_true.1 ho.inb) p hp)
  obtain ⟨u, hu⟩ : ∃ u, L[p.1.toNat]? = some u := ⟨_, List.getElem?_eq_getElem (by omega)⟩
  obtain ⟨v, hv⟩ : ∃ v, L[p.2.toNat]? = some v := ⟨_, List.getElem?_eq_getElem (by omega)⟩
  have a := hok.lt hu
  have b := hok.lt hv
  unfold atN
  rw [getD_of hu, getD_of hv]
  omega
theorem glued_ob {o : Ob} {L : List Int} (ho : IsOb o) (hl : L.length = o.labels.length) (hok : PlOK L) : IsOb (gluedS o L) := by
  have hle := ho.le
  have hn := glLab_len o L
  have hw := glMx_within ho hl hok
  unfold gluedS
  rw [← hn] at hw ⊢
  refine ob_of_clo (by have := fst_le L L.length; rw [hn]; unfold glN; omega) ?_ hw
  rw [List.all_eq_true]
  intro b hb
  unfold glLab at hb
  obtain ⟨r, hr, rfl⟩ := List.mem_map.1 hb
  have hrl := fst_mem L L.length r hr
  have : o.labels.getD r ByteArray.empty ∈ o.labels := by
    rw [List.getD_eq_getElem?_getD, List.getElem?_eq_getElem (by omega)]; exact List.getElem_mem _
  exact (List.all_eq_true.1 ho.sz) _ this
theorem glued_arr {o : Ob} {R : List Int} (ho : IsOb o) (h : RepOK R) (hl : R.length = o.labels.length)
    (hlab : ∀ (j : Nat) (r : Int), R[j]? = some r → (o.labels.getD r.toNat ByteArray.empty).toList = (o.labels.getD j ByteArray.empty).toList) : arrS o (gluedS o (placesL R)) (placesL R) = true := by
  have hpl := placesL_len R
  have hok := places_ok h.wf
  have hq := glued_ob ho (by rw [hpl]; exact hl) hok
  refine arr_of ho hq (by rw [hpl]; exact hl) (fun i y la hy hla => ?_) fun x y hm => ?_
  · have hi := (List.getElem?_eq_some_iff.1 hla).1
    obtain ⟨z, hz⟩ : ∃ z, R[i]? = some z := ⟨_, List.getElem?_eq_getElem (by omega)⟩
    obtain ⟨k, hk, hf⟩ := fst_at h hz
    rw [hk] at hy; cases hy
    have hbd := hok.lt hk
    have hqk : (gluedS o (placesL R)).labels[k]? = some (o.labels.getD z.toNat ByteArray.empty) := by
      show (glLab o (placesL R) (placesL R).length)[k]? = _
      unfold glLab
      rw [hpl, List.getElem?_map, hf]; rfl
    refine ⟨o.labels.getD z.toNat ByteArray.empty, ⟨by omega, ?_⟩, by rw [Int.toNat_natCast]; exact hqk, ?_⟩
    · show (k : Int) < ((glLab o (placesL R) (placesL R).length).length : Nat)
      rw [glLab_len]; omega
    · rw [hlab i z hz, List.getD_eq_getElem?_getD, hla]; rfl
  · have hwx := ho.within x y hm
    obtain ⟨u, hu⟩ : ∃ u, (placesL R)[x]? = some u := ⟨_, List.getElem?_eq_getElem (by omega)⟩
    obtain ⟨v, hv⟩ : ∃ v, (placesL R)[y]? = some v := ⟨_, List.getElem?_eq_getElem (by omega)⟩
    have hu0 := hok.lt hu
    have hv0 := hok.lt hv
    refine ⟨u.toNat, v.toNat, by rw [hu]; congr 1; omega, by rw [hv]; congr 1; omega, ?_⟩
    show mxOf (pairsOf (glN (placesL R)) (cloK (glMx o (placesL R)) (glN (placesL R)))) u.toNat v.toNat = true
    rw [mxOf_pairsOf (cloK_within (glMx_within ho (by rw [hpl]; exact hl) hok) _)]
    refine cloK_le ?_ _
    obtain ⟨p, hp, h1, h2⟩ := mxOf_iff.1 hm
    simp only [glMx, List.any_eq_true, Bool.and_eq_true, beq_iff_eq]
    refine ⟨p, hp, ?_, ?_⟩
    · unfold atN; rw [h1, getD_of hu]
    · unfold atN; rw [h2, getD_of hv]
end Go.Proofs

open Go Go.V
namespace Go.Proofs
theorem lab_at {a b : Ob} {f : List Int} (h : arrS a b f = true) {k : Nat} {y : Int} (hy : f[k]? = some y) : (b.labels.getD y.toNat ByteArray.empty).toList = (a.labels.getD k ByteArray.empty).toList := by
  obtain ⟨_, _, hmap, _⟩ := arrS_iff.1 h
  have hl := allY_length hmap
  have hk := (List.getElem?_eq_some_iff.1 hy).1
  obtain ⟨lb, k1, k2, k3⟩ := mapOK_iff.1 (allY_at hmap hy (List.getElem?_eq_getElem (show k < a.labels.length by omega)))
  rw [List.getD_eq_getElem?_getD, k2, List.getD_eq_getElem?_getD, List.getElem?_eq_getElem (show k < a.labels.length by omega)]
  exact k3.symm
end Go.Proofs

open Go Go.V
namespace Go.Proofs
def vMed (r : List Int × Int) : V := .tup [.t (tInts r.1), I r.2]
end Go.Proofs

open Go Go.V
namespace Go.Proofs
def gPl (n : Nat) (F G : List Int) : List Int := placesL (joinsL (rangeI n) F G F.length)
structure GlOK (o : Ob) (F G : List Int) : Prop where
  ob : IsOb o
  bF : ∀ y ∈ F, 0 ≤ y ∧ y < ((o.labels.length : Nat) : Int)
  bG : ∀ y ∈ G, 0 ≤ y ∧ y < ((o.labels.length : Nat) : Int)
  ln : F.length = G.length
  lab : ∀ (k : Nat) (y z : Int), F[k]? = some y → G[k]? = some z → (o.labels.getD y.toNat ByteArray.empty).toList = (o.labels.getD z.toNat ByteArray.empty).toList
section
variable {o : Ob} {F G : List Int}
theorem GlOK.rep (h : GlOK o F G) : RepOK (joinsL (rangeI o.labels.length) F G F.length) ∧ (joinsL (rangeI o.labels.length) F G F.length).length = o.labels.length :=
  joins_ok _ F G h.bF h.bG F.length (Nat.le_refl _) (by have := h.ln; omega)
theorem GlOK.len (h : GlOK o F G) : (gPl o.labels.length F G).length = o.labels.length := by
  unfold gPl; rw [placesL_len]; exact h.rep.2
theorem GlOK.ok (h : GlOK o F G) : PlOK (gPl o.labels.length F G) := places_ok h.rep.1.wf
theorem GlOK.arr (h : GlOK o F G) : arrS o (gluedS o (gPl o.labels.length F G)) (gPl o.labels.length F G) = true := by
  obtain ⟨hok, hRl⟩ := h.rep
  exact glued_arr h.ob hok hRl (joins_inv _ F G h.bF h.bG (fun j => (o.labels.getD j ByteArray.empty).toList) F.length (Nat.le_refl _) (by have := h.ln; omega) (fun i y z _ hy hz => h.lab i y z hy hz))
theorem GlOK.eq (h : GlOK o F G) {k : Nat} {y z : Int} (hy : F[k]? = some y) (hz : G[k]? = some z) : (gPl o.labels.length F G)[y.toNat]? = (gPl o.labels.length F G)[z.toNat]? := by
  obtain ⟨hok, hRl⟩ := h.rep
  have hk := (List.getElem?_eq_some_iff.1 hy).1
  have b1 := h.bF y (List.mem_of_getElem? hy)
  have e0 := joins_eq _ F G h.bF h.bG F.length (Nat.le_refl _) (by have := h.ln; omega) k y z hk hy hz
  obtain ⟨r, hr⟩ : ∃ r, (joinsL (rangeI o.labels.length) F G F.length)[y.toNat]? = some r := ⟨_, List.getElem?_eq_getElem (by omega)⟩
  exact (pl_rep hok hr).trans (pl_rep hok (e0 ▸ hr)).symm
end
def bsB (l : List Ob) (k : Nat) : Nat := (labsT l k).length
theorem bsB_succ {l : List Ob} {k : Nat} {o : Ob} (h : l[k]? = some o) : bsB l (k + 1) = bsB l k + o.labels.length := by
  unfold bsB; rw [labsT_succ h, List.length_append]
theorem labsT_out {l : List Ob} {k : Nat} (h : l[k]? = none) : labsT l (k + 1) = labsT l k := by
  unfold labsT; rw [List.take_add_one, h]; simp
theorem bsB_mono (l : List Ob) {j k : Nat} (h : j ≤ k) : bsB l j ≤ bsB l k := by
  induction h with
  | refl => exact Nat.le_refl _
  | step _ ih =>
    rename_i m _
    cases hm : l[m]? with
    | none => unfold bsB at ih ⊢; rw [labsT_out hm]; exact ih
    | some o => rw [bsB_succ hm]; omega
theorem bsB_lt {l : List Ob} {j k : Nat} {o : Ob} (h : l[j]? = some o) (hk : j < k) : bsB l j + o.labels.length ≤ bsB l k := by
  rw [← bsB_succ h]; exact bsB_mono l hk
theorem labs_keep {l : List Ob} {j k : Nat} (h : j ≤ k) {x : Nat} {b : ByteArray} (hx : (labsT l j)[x]? = some b) : (labsT l k)[x]? = some b := by
  induction h with
  | refl => exact hx
  | step _ ih =>
    rename_i m _
    cases hm : l[m]? with
    | none => rw [labsT_out hm]; exact ih
    | some o => rw [labsT_succ hm, List.getElem?_append_left (List.getElem?_eq_some_iff.1 ih).1]; exact ih
theorem labs_at {l : List Ob} {j k : Nat} {o : Ob} (h : l[j]? = some o) (hk : j < k) {x : Nat} {b : ByteArray} (hx : o.labels[x]? = some b) : (labsT l k)[bsB l j + x]? = some b := by
  refine labs_keep (show j + 1 ≤ k from hk) ?_
  rw [labsT_succ h, List.getElem?_append_right (by unfold bsB; omega), show bsB l j + x - (labsT l j).length = x by unfold bsB; omega]; exact hx
theorem bs_mx {l : List Ob} (hI : ∀ o ∈ l, IsOb o) : ∀ k, k ≤ l.length → ∀ x y, mxOf (prsT l k) x y = true ↔ ∃ (j : Nat) (o : Ob) (u v : Nat), j < k ∧ l[j]? = some o ∧ x = bsB l j + u ∧ y = bsB l j + v ∧ mxOf o.pairs u v = true
  | 0, _, x, y => by
    constructor
    · intro h; simp [prsT, mxOf] at h
    · rintro ⟨j, _, _, _, h, _⟩; omega
  | k + 1, hk, x, y => by
    obtain ⟨o, ho⟩ : ∃ o, l[k]? = some o := ⟨_, List.getElem?_eq_getElem hk⟩
    have hio := hI o (List.mem_of_getElem? ho)
    rw [prsT_succ ho, mxOf_app, bs_mx hI k (by omega), mxOf_sh hio.nonneg]
    constructor
    · rintro (⟨j, o', u, v, h1, h2⟩ | ⟨u, v, h1, h2, h3⟩)
      · exact ⟨j, o', u, v, by omega, h2⟩
      · exact ⟨k, o, u, v, by omega, ho, by unfold bsB; omega, by unfold bsB; omega, h3⟩
    · rintro ⟨j, o', u, v, h1, h2, h3, h4, h5⟩
      by_cases hj : j < k
      · exact .inl ⟨j, o', u, v, hj, h2, h3, h4, h5⟩
      · have : j = k := by omega
        subst this
        rw [ho] at h2; cases h2
        exact .inr ⟨u, v, by unfold bsB at h3; omega, by unfold bsB at h4; omega, h5⟩
theorem bs_step {l : List Ob} {k : Nat} {o : Ob} (h : l[k]? = some o) : (⟨labsT l (k + 1), prsT l (k + 1)⟩ : Ob) = besideS ⟨labsT l k, prsT l k⟩ o := by
  rw [labsT_succ h, prsT_succ h]; rfl
theorem bs_ob {l : List Ob} (hI : ∀ o ∈ l, IsOb o) (hl : bsB l l.length ≤ 40) : ∀ k, k ≤ l.length → IsOb ⟨labsT l k, prsT l k⟩
  | 0, _ => by
    have := ob_of_clo (ls := []) (M := fun _ _ => false) (by simp) (by simp) (fun _ _ h => by cases h)
    simpa [labsT, prsT, pairsOf] using this
  | k + 1, hk => by
    obtain ⟨o, ho⟩ : ∃ o, l[k]? = some o := ⟨_, List.getElem?_eq_getElem hk⟩
    have h1 := bsB_lt ho hk
    rw [bs_step ho]
    exact beside_ob (bs_ob hI hl k (by omega)) (hI o (List.mem_of_getElem? ho)) (by unfold bsB at h1 hl; simp only; omega)
end Go.Proofs

open Go Go.V
namespace Go.Proofs
structure Ar where
  fr : Int
  to : Int
  mp : List Int
structure Dia where
  nodes : List Ob
  arrs : List Ar
def noOb : Ob := ⟨[], []⟩
def nodeAt (d : Dia) (z : Int) : Ob := d.nodes.getD z.toNat noOb
def thereS (d : Dia) (z : Int) : Bool := decide (0 ≤ z) && decide (z < (d.nodes.length : Int))
def arOK (d : Dia) (x : Ar) : Bool := thereS d x.fr && (thereS d x.to && arrS (nodeAt d x.fr) (nodeAt d x.to) x.mp)
def diaS (d : Dia) : Bool := decide (d.nodes.length ≤ 6) && (decide (d.arrs.length ≤ 8) && ((d.nodes.all fun o => checkS o == 0) && d.arrs.all (arOK d)))
def bigD (d : Dia) : Bool := decide (6 < d.nodes.length) || (decide (8 < d.arrs.length) || largeS d.nodes)
def colF (d : Dia) : Nat → List Int
  | 0 => []
  | k + 1 => colF d k ++ (match d.arrs[k]? with | some x => legT x.mp.length (bsB d.nodes x.fr.toNat) | none => [])
def colG (d : Dia) : Nat → List Int
  | 0 => []
  | k + 1 => colG d k ++ (match d.arrs[k]? with | some x => x.mp.map (fun w => ((bsB d.nodes x.to.toNat : Nat) : Int) + w) | none => [])
def colPl (d : Dia) : List Int := gPl (bsB d.nodes d.nodes.length) (colF d d.arrs.length) (colG d d.arrs.length)
def colLegs (d : Dia) : List (List Int) := (legsT d.nodes d.nodes.length).map fun g => (thenS g (colPl d)).1
def colS (d : Dia) : Ob × List (List Int) × Int := if bigD d = true then (noOb, [], 11) else if diaS d = false then (noOb, [], 10) else (gluedS (bsS d.nodes) (colPl d), colLegs d, 0)
def alS (d : Dia) (legs : List (List Int)) (x : Ar) : Bool := (thenS x.mp (legs.getD x.to.toNat [])).2 && ((thenS x.mp (legs.getD x.to.toNat [])).1 == legs.getD x.fr.toNat [])
def legsS (d : Dia) (t : Ob) (legs : List (List Int)) : Bool := diaS d && ((checkS t == 0) && (decide (legs.length = d.nodes.length) && (((List.range d.nodes.length).all fun k => arrS (d.nodes.getD k noOb) t (legs.getD k [])) && d.arrs.all (alS d legs))))
def medD (d : Dia) (t : Ob) (legs : List (List Int)) : List Int × Int :=
  if (colS d).2.2 ≠ 0 then ([], (colS d).2.2) else if 40 < t.labels.length then ([], 11) else if legsS d t legs = false then ([], 12) else (outS (colS d).1.labels.length (colS d).2.1 legs, 0)
theorem check_iff {o : Ob} : (checkS o == 0) = true ↔ IsOb o := by
  constructor
  · intro h
    by_cases ha : arrS ⟨[], []⟩ o [] = true
    · exact (arrS_iff.1 ha).2.1
    · exfalso; apply ha
      simp only [arrS, h, Bool.and_eq_true]
      exact ⟨by decide, trivial, by simp [allY]⟩
  · intro h
    have := id_arr h
    simp only [arrS, Bool.and_eq_true] at this
    exact this.1
theorem sumT_bs (l : List Ob) : ∀ k, k ≤ l.length → sumT l k = bsB l k
  | 0, _ => rfl
  | k + 1, hk => by
    obtain ⟨o, ho⟩ : ∃ o, l[k]? = some o := ⟨_, List.getElem?_eq_getElem hk⟩
    rw [bsB_succ ho, ← sumT_bs l k (by omega), sumT_succ ho]
structure DiaOK (d : Dia) : Prop where
  n : d.nodes.length ≤ 6
  m : d.arrs.length ≤ 8
  ob : ∀ o ∈ d.nodes, IsOb o
  ar : ∀ x ∈ d.arrs, ∃ a b, 0 ≤ x.fr ∧ d.nodes[x.fr.toNat]? = some a ∧ 0 ≤ x.to ∧ d.nodes[x.to.toNat]? = some b ∧ arrS a b x.mp = true
theorem there_iff {d : Dia} {z : Int} : thereS d z = true ↔ 0 ≤ z ∧ z < (d.nodes.length : Int) := by simp [thereS]
theorem nodeAt_of {d : Dia} {z : Int} {o : Ob} (h : d.nodes[z.toNat]? = some o) : nodeAt d z = o := by unfold nodeAt; rw [List.getD_eq_getElem?_getD, h]; rfl
theorem dia_iff {d : Dia} : diaS d = true ↔ DiaOK d := by
  simp only [diaS, Bool.and_eq_true, decide_eq_true_eq, List.all_eq_true, check_iff, arOK, there_iff]
  constructor
  · rintro ⟨h1, h2, h3, h4⟩
    refine ⟨h1, h2, h3, fun x hx => ?_⟩
    obtain ⟨⟨f0, f1⟩, ⟨t0, t1⟩, ha⟩ := h4 x hx
    obtain ⟨a, hA⟩ : ∃ a, d.nodes[x.fr.toNat]? = some a := ⟨_, List.getElem?_eq_getElem (by omega)⟩
    obtain ⟨b, hB⟩ : ∃ b, d.nodes[x.to.toNat]? = some b := ⟨_, List.getElem?_eq_getElem (by omega)⟩
    rw [nodeAt_of hA, nodeAt_of hB] at ha
    exact ⟨a, b, f0, hA, t0, hB, ha⟩
  · rintro ⟨h1, h2, h3, h4⟩
    refine ⟨h1, h2, h3, fun x hx => ?_⟩
    obtain ⟨a, b, f0, hA, t0, hB, ha⟩ := h4 x hx
    rw [nodeAt_of hA, nodeAt_of hB]
    have f1 := (List.getElem?_eq_some_iff.1 hA).1
    have t1 := (List.getElem?_eq_some_iff.1 hB).1
    exact ⟨⟨f0, by omega⟩, ⟨t0, by omega⟩, ha⟩
theorem colF_succ {d : Dia} {k : Nat} {x : Ar} (h : d.arrs[k]? = some x) : colF d (k + 1) = colF d k ++ legT x.mp.length (bsB d.nodes x.fr.toNat) := by simp only [colF, h]
theorem colG_succ {d : Dia} {k : Nat} {x : Ar} (h : d.arrs[k]? = some x) : colG d (k + 1) = colG d k ++ x.mp.map (fun w => ((bsB d.nodes x.to.toNat : Nat) : Int) + w) := by simp only [colG, h]
theorem legT_len (n b : Nat) : (legT n b).length = n := by simp [legT]
theorem legT_at {n b i : Nat} (h : i < n) : (legT n b)[i]? = some (((b + i : Nat)) : Int) := by simp [legT, h]
theorem col_len (d : Dia) : ∀ k, k ≤ d.arrs.length → (colF d k).length = (colG d k).length
  | 0, _ => rfl
  | k + 1, h => by
    obtain ⟨x, hx⟩ : ∃ x, d.arrs[k]? = some x := ⟨_, List.getElem?_eq_getElem h⟩
    rw [colF_succ hx, colG_succ hx, List.length_append, List.length_append, col_len d k (by omega), legT_len, List.length_map]
theorem col_of (d : Dia) : ∀ k, k ≤ d.arrs.length → ∀ (i : Nat) (y z : Int), (colF d k)[i]? = some y → (colG d k)[i]? = some z → ∃ x ∈ d.arrs, ∃ (t : Nat) (w : Int), x.mp[t]? = some w ∧ y = ((bsB d.nodes x.fr.toNat + t : Nat) : Int) ∧ z = ((bsB d.nodes x.to.toNat : Nat) : Int) + w
  | 0, _, i, y, z, hy, _ => by simp [colF] at hy
  | k + 1, h, i, y, z, hy, hz => by
    obtain ⟨x, hx⟩ : ∃ x, d.arrs[k]? = some x := ⟨_, List.getElem?_eq_getElem h⟩
    have hl := col_len d k (by omega)
    rw [colF_succ hx] at hy
    rw [colG_succ hx] at hz
    by_cases hi : i < (colF d k).length
    · rw [List.getElem?_append_left hi] at hy
      rw [List.getElem?_append_left (by omega)] at hz
      exact col_of d k (by omega) i y z hy hz
    · rw [List.getElem?_append_right (by omega)] at hy
      rw [List.getElem?_append_right (by omega), ← hl, List.getElem?_map] at hz
      obtain ⟨w, hw, rfl⟩ := Option.map_eq_some_iff.1 hz
      have ht := (List.getElem?_eq_some_iff.1 hw).1
      rw [legT_at ht] at hy; cases hy
      exact ⟨x, List.mem_of_getElem? hx, _, w, hw, rfl, rfl⟩
theorem col_keep (d : Dia) {j k : Nat} (h : j ≤ k) (hk : k ≤ d.arrs.length) {i : Nat} {y z : Int} (hy : (colF d j)[i]? = some y) (hz : (colG d j)[i]? = some z) : (colF d k)[i]? = some y ∧ (colG d k)[i]? = some z := by
  induction h with
  | refl => exact ⟨hy, hz⟩
  | step _ ih =>
    rename_i m _
    obtain ⟨h1, h2⟩ := ih (by omega)
    obtain ⟨x, hx⟩ : ∃ x, d.arrs[m]? = some x := ⟨_, List.getElem?_eq_getElem hk⟩
    rw [colF_succ hx, colG_succ hx, List.getElem?_append_left (List.getElem?_eq_some_iff.1 h1).1, List.getElem?_append_left (List.getElem?_eq_some_iff.1 h2).1]
    exact ⟨h1, h2⟩
theorem col_pos {d : Dia} {k : Nat} {x : Ar} (hk : d.arrs[k]? = some x) {t : Nat} {w : Int} (hw : x.mp[t]? = some w) : (colF d d.arrs.length)[(colF d k).length + t]? = some ((bsB d.nodes x.fr.toNat + t : Nat) : Int) ∧ (colG d d.arrs.length)[(colF d k).length + t]? = some (((bsB d.nodes x.to.toNat : Nat) : Int) + w) := by
  have hkl := (List.getElem?_eq_some_iff.1 hk).1
  have hl := col_len d k (by omega)
  have ht := (List.getElem?_eq_some_iff.1 hw).1
  refine col_keep d (show k + 1 ≤ d.arrs.length from hkl) (Nat.le_refl _) ?_ ?_
  · rw [colF_succ hk, List.getElem?_append_right (by omega), show (colF d k).length + t - (colF d k).length = t by omega, legT_at ht]
  · rw [colG_succ hk, List.getElem?_append_right (by omega), show (colF d k).length + t - (colG d k).length = t by omega, List.getElem?_map, hw]; rfl
theorem col_at (d : Dia) {x : Ar} (hx : x ∈ d.arrs) {t : Nat} {w : Int} (hw : x.mp[t]? = some w) : ∃ i : Nat, (colF d d.arrs.length)[i]? = some ((bsB d.nodes x.fr.toNat + t : Nat) : Int) ∧ (colG d d.arrs.length)[i]? = some (((bsB d.nodes x.to.toNat : Nat) : Int) + w) := by
  obtain ⟨k, hk⟩ := List.getElem?_of_mem hx
  exact ⟨_, col_pos hk hw⟩
theorem bsS_lab (l : List Ob) : (bsS l).labels.length = bsB l l.length := rfl
theorem bs_lab {l : List Ob} {k : Nat} {o : Ob} (h : l[k]? = some o) {x : Nat} (hx : x < o.labels.length) : (bsS l).labels.getD (bsB l k + x) ByteArray.empty = o.labels.getD x ByteArray.empty := by
  have := labs_at h (List.getElem?_eq_some_iff.1 h).1 (List.getElem?_eq_getElem hx)
  rw [List.getD_eq_getElem?_getD, List.getD_eq_getElem?_getD, List.getElem?_eq_getElem hx]
  exact congrArg (fun o => Option.getD o _) this
variable {d : Dia}
theorem DiaOK.gl (h : DiaOK d) (hl : bsB d.nodes d.nodes.length ≤ 40) : GlOK (bsS d.nodes) (colF d d.arrs.length) (colG d d.arrs.length) := by
  have key : ∀ (i : Nat) (y z : Int), (colF d d.arrs.length)[i]? = some y → (colG d d.arrs.length)[i]? = some z → (0 ≤ y ∧ y < ((bsB d.nodes d.nodes.length : Nat) : Int)) ∧ (0 ≤ z ∧ z < ((bsB d.nodes d.nodes.length : Nat) : Int)) ∧ ((bsS d.nodes).labels.getD y.toNat ByteArray.empty).toList = ((bsS d.nodes).labels.getD z.toNat ByteArray.empty).toList := fun i y z hy hz => by
    obtain ⟨x, hx, t, w, hw, rfl, rfl⟩ := col_of d _ (Nat.le_refl _) i y z hy hz
    obtain ⟨a, b, f0, hA, t0, hB, ha⟩ := h.ar x hx
    have ma := (arrS_iff.1 ha).2.2.1
    have la := allY_length ma
    have bw := map_all ma w (List.mem_of_getElem? hw)
    have ht := (List.getElem?_eq_some_iff.1 hw).1
    have e1 := bsB_lt hA (List.getElem?_eq_some_iff.1 hA).1
    have e2 := bsB_lt hB (List.getElem?_eq_some_iff.1 hB).1
    refine ⟨⟨by omega, by omega⟩, ⟨by omega, by omega⟩, ?_⟩
    rw [Int.toNat_natCast, show (((bsB d.nodes x.to.toNat : Nat) : Int) + w).toNat = bsB d.nodes x.to.toNat + w.toNat by omega, bs_lab hA (by omega), bs_lab hB (by omega)]
    exact (lab_at ha hw).symm
  have hln := col_len d _ (Nat.le_refl _)
  refine ⟨bs_ob h.ob hl _ (Nat.le_refl _), fun y hy => ?_, fun z hz => ?_, hln, fun k y z hy hz => (key k y z hy hz).2.2⟩
  · obtain ⟨i, hi⟩ := List.getElem?_of_mem hy
    have := (List.getElem?_eq_some_iff.1 hi).1
    obtain ⟨z, hz⟩ : ∃ z, (colG d d.arrs.length)[i]? = some z := ⟨_, List.getElem?_eq_getElem (by omega)⟩
    exact (key i y z hi hz).1
  · obtain ⟨i, hi⟩ := List.getElem?_of_mem hz
    have := (List.getElem?_eq_some_iff.1 hi).1
    obtain ⟨y, hy⟩ : ∃ y, (colF d d.arrs.length)[i]? = some y := ⟨_, List.getElem?_eq_getElem (by omega)⟩
    exact (key i y z hy hi).2.1
theorem legs_at {l : List Ob} : ∀ n, n ≤ l.length → ∀ {k : Nat} {o : Ob}, k < n → l[k]? = some o → (legsT l n)[k]? = some (legT o.labels.length (bsB l k))
  | 0, _, k, o, h, _ => by omega
  | n + 1, hn, k, o, h, ho => by
    obtain ⟨p, hp⟩ : ∃ p, l[n]? = some p := ⟨_, List.getElem?_eq_getElem hn⟩
    have hll := legsT_length l n (by omega)
    rw [legsT_succ hp]
    by_cases hk : k < n
    · rw [List.getElem?_append_left (by omega)]; exact legs_at n (by omega) hk ho
    · have : k = n := by omega
      subst this
      rw [ho] at hp; cases hp
      rw [List.getElem?_append_right (by omega), hll, Nat.sub_self]; rfl
theorem colLegs_len : (colLegs d).length = d.nodes.length := by unfold colLegs; rw [List.length_map, legsT_length _ _ (Nat.le_refl _)]
theorem DiaOK.leg (h : DiaOK d) (hl : bsB d.nodes d.nodes.length ≤ 40) {k : Nat} {o : Ob} (ho : d.nodes[k]? = some o) :
    ∃ g, (colLegs d)[k]? = some g ∧ g.length = o.labels.length ∧ thenS (legT o.labels.length (bsB d.nodes k)) (colPl d) = (g, true) ∧ ∀ x, x < o.labels.length → g[x]? = (colPl d)[bsB d.nodes k + x]? := by
  have hk := (List.getElem?_eq_some_iff.1 ho).1
  have e1 := bsB_lt ho hk
  have hpl : (colPl d).length = bsB d.nodes d.nodes.length := (h.gl hl).len
  have ht : thenS (legT o.labels.length (bsB d.nodes k)) (colPl d) = ((legT o.labels.length (bsB d.nodes k)).map fun y => (colPl d).getD y.toNat 0, true) := thenS_ok fun y hy => by
    obtain ⟨i, hi⟩ := List.getElem?_of_mem hy
    have hil := (List.getElem?_eq_some_iff.1 hi).1
    rw [legT_len] at hil
    rw [legT_at hil] at hi; cases hi
    exact ⟨by omega, by omega⟩
  refine ⟨(thenS (legT o.labels.length (bsB d.nodes k)) (colPl d)).1, by unfold colLegs; rw [List.getElem?_map, legs_at _ (Nat.le_refl _) hk ho]; rfl, ?_, ?_, fun x hx => ?_⟩
  · rw [ht]; simp [legT]
  · rw [ht]
  · rw [ht, List.getElem?_map, legT_at hx]
    simp only [Option.map_some, Int.toNat_natCast, List.getD_eq_getElem?_getD]
    rw [List.getElem?_eq_getElem (show bsB d.nodes k + x < (colPl d).length by omega)]; rfl
end Go.Proofs

open Go Go.V
namespace Go.Proofs
abbrev acells (x : Ar) : List T := [TI x.fr, TI x.to, tInts x.mp]
abbrev tArs (l : List Ar) : T := .sl 3 (l.flatMap acells)
abbrev vDia (d : Dia) : V := .agg [.t (tObjs d.nodes), .t (tArs d.arrs)]
theorem flatA_length (l : List Ar) : (l.flatMap acells).length = l.length * 3 := by
  induction l with
  | nil => rfl
  | cons a l ih => simp only [List.flatMap_cons, List.length_append, ih, List.length_cons, List.length_nil]; omega
theorem len_tArs (l : List Ar) : vlen (.t (tArs l)) = some l.length := by
  simp only [vlen, flatA_length]; congr 1; omega
theorem dropA {l : List Ar} {i : Nat} {x : Ar} (h : l[i]? = some x) : (((l.flatMap acells).map V.t).drop (i * 3)).take 3 = [.t (TI x.fr), .t (TI x.to), .t (tInts x.mp)] := by
  induction l generalizing i with
  | nil => simp at h
  | cons a l ih =>
    cases i with
    | zero => simp at h; subst h; simp
    | succ i =>
      have := ih (i := i) (by simpa using h)
      rw [show (i + 1) * 3 = i * 3 + 3 by omega]
      simpa using this
structure DiaLim (d : Dia) : Prop where
  n : d.nodes.length < 1000000
  m : d.arrs.length < 1000000
  o1 : ∀ o ∈ d.nodes, o.labels.length < 1000000
  o2 : ∀ o ∈ d.nodes, o.pairs.length < 1000000
  a : ∀ x ∈ d.arrs, x.mp.length < 1000000
structure DiI (s : Sg) (d : Dia) (s' : Sg) : Prop where
  b : s'.m s.next = some (.box 62 [.t (tObjs d.nodes), .t (tArs d.arrs)])
  same : ∀ j, j < s.next → s'.m j = s.m j
  nx : s.next < s'.next
theorem DiI.init (s : Sg) (d : Dia) : DiI s d (s.add (.box 62 [.t (tObjs d.nodes), .t (tArs d.arrs)])) :=
  ⟨by rw [m_add, if_pos rfl], fun j hj => by rw [m_add, if_neg (by omega)], by rw [n_add]; omega⟩
theorem DiI.add {s : Sg} {d : Dia} {s' : Sg} (h : DiI s d s') (B : Blk) : DiI s d (s'.add B) :=
  ⟨by rw [m_add, if_neg (by have := h.nx; omega)]; exact h.b, fun j hj => by rw [m_add, if_neg (by have := h.nx; omega)]; exact h.same j hj, by rw [n_add]; have := h.nx; omega⟩
theorem DiI.set {s : Sg} {d : Dia} {s' : Sg} (h : DiI s d s') {x : Nat} (hx : s.next < x) (B : Blk) : DiI s d (s'.set x B) :=
  ⟨by rw [m_set, if_neg (by omega)]; exact h.b, fun j hj => by rw [m_set, if_neg (by omega)]; exact h.same j hj, h.nx⟩
theorem dia_n {d : Dia} (h : (d.nodes.length : Int) > 6) : diaS d = false := by
  have : ¬ d.nodes.length ≤ 6 := by omega
  simp [diaS, this]
theorem dia_m {d : Dia} (h : (d.arrs.length : Int) > 8) : diaS d = false := by
  have : ¬ d.arrs.length ≤ 8 := by omega
  simp [diaS, this]
theorem big_n {d : Dia} (h : (d.nodes.length : Int) > 6) : bigD d = true := by
  have : 6 < d.nodes.length := by omega
  simp [bigD, this]
theorem big_m {d : Dia} (h : (d.arrs.length : Int) > 8) : bigD d = true := by
  have : 8 < d.arrs.length := by omega
  simp [bigD, this]
theorem big_of {d : Dia} (h1 : ¬ (d.nodes.length : Int) > 6) (h2 : ¬ (d.arrs.length : Int) > 8) : bigD d = largeS d.nodes := by
  have h3 : ¬ 6 < d.nodes.length := by omega
  have h4 : ¬ 8 < d.arrs.length := by omega
  simp [bigD, h3, h4]
theorem dia_o {d : Dia} {k : Nat} {o : Ob} (h : d.nodes[k]? = some o) (h2 : (checkS o == 0) = false) : diaS d = false := by
  have : (d.nodes.all fun o => checkS o == 0) = false := List.all_eq_false.2 ⟨o, List.mem_of_getElem? h, by rw [h2]; decide⟩
  simp [diaS, this]
theorem dia_a {d : Dia} {k : Nat} {x : Ar} (h : d.arrs[k]? = some x) (h2 : arOK d x = false) : diaS d = false := by
  have : (d.arrs.all (arOK d)) = false := List.all_eq_false.2 ⟨x, List.mem_of_getElem? h, by rw [h2]; decide⟩
  simp [diaS, this]
theorem dia_ok {d : Dia} (h1 : ¬ (d.nodes.length : Int) > 6) (h2 : ¬ (d.arrs.length : Int) > 8) (h3 : ∀ (j : Nat) (o : Ob), j < d.nodes.length → d.nodes[j]? = some o → (checkS o == 0) = true) (h4 : ∀ (j : Nat) (x : Ar), j < d.arrs.length → d.arrs[j]? = some x → arOK d x = true) : diaS d = true := by
  simp only [diaS, Bool.and_eq_true, decide_eq_true_eq, List.all_eq_true]
  refine ⟨by omega, by omega, fun o ho => ?_, fun x hx => ?_⟩
  · obtain ⟨j, hj⟩ := List.getElem?_of_mem ho
    exact h3 j o (List.getElem?_eq_some_iff.1 hj).1 hj
  · obtain ⟨j, hj⟩ := List.getElem?_of_mem hx
    exact h4 j x (List.getElem?_eq_some_iff.1 hj).1 hj
set_option maxRecDepth 20000 in
theorem there_ (d : Dia) (z : Int) (hn : d.nodes.length < 1000000000) : PCall Tryd.prog 108 [vDia d, I z] (Bo (thereS d z)) := by
  refine pcall_of_body Tryd.func108 rfl fun s Q hQ => ?_
  obtain ⟨e, he, hl, h0, h1⟩ : ∃ e : Env, ([vDia d, I z] ++ List.replicate (Tryd.f108.ntmps - ([vDia d, I z] : List V).length) .junk) = e ∧ e.length = 14 ∧ ev e (.tmp 0) = vDia d ∧ ev e (.tmp 1) = I z := ⟨_, rfl, rfl, rfl, rfl⟩
  rw [he]
  clear he
  refine vsk fun K1 hK1 => ?_
  refine vw_sc 0 [] ?_
  simp only [bs, ↓vopx, ↓vop, thenV, flat, V.cells, h0, wocs, ↓goc, ↓woc, ↓vopm0]
  refine hK1 _ _ ?_
  refine vsk fun K2 hK2 => ?_
  rcases Decidable.em (0 ≤ z) with ha | ha
  · refine vw_sc 0 [] ?_
    simp only [bs, ↓vopx, ↓vop, Nat.reduceBEq, thenV, flat, Nat.reduceLT, dLoad, vpart, opII, gtmp, hl, h1, wocs, ↓goc, ↓woc, ↓vopm0, ↓pick_tt, Tryd.ag59, Tryd.fd62_0, Tryd.sz59, Tryd.un59, len_tObjs, ha]
    refine hK2 _ _ ?_
    refine vw_ret ?_
    refine hQ _ _ _ (.inr rfl) (done_tmp ?_ fun n b hn h => by rw [m_add, if_neg (by omega)]; exact h)
    try simp only [ev_hit, lpv, hl, Nat.reduceLT]
    simp [thereS, ha]
  · refine vw_sc 0 [] ?_
    simp only [bs, ↓vopx, ↓vop, Nat.reduceBEq, thenV, flat, Nat.reduceLT, opII, gtmp, hl, h1, wocs, ↓goc, ↓woc, ↓vopm0, ↓pick_ft, ha]
    refine hK2 _ _ ?_
    refine vw_ret ?_
    refine hQ _ _ _ (.inr rfl) (done_tmp ?_ fun n b hn h => by rw [m_add, if_neg (by omega)]; exact h)
    try simp only [ev_hit, lpv, hl, Nat.reduceLT]
    simp [thereS, ha]
set_option maxRecDepth 20000 in
set_option maxHeartbeats 4000000 in
theorem isDia_ (d : Dia) (L : DiaLim d) : PCall Tryd.prog 82 [vDia d] (Bo (diaS d)) := by
  refine pcall_of_body Tryd.func82 rfl fun s Q hQ => ?_
  obtain ⟨e, he, hl, h0⟩ : ∃ e : Env, ([vDia d] ++ List.replicate (Tryd.f82.ntmps - ([vDia d] : List V).length) .junk) = e ∧ e.length = 66 ∧ ev e (.tmp 0) = vDia d := ⟨_, rfl, rfl, rfl⟩
  rw [he]
  clear he
  have Ln := L.n
  have Lm := L.m
  refine vsk fun K1 hK1 => ?_
  refine vw_sc 0 [] ?_
  simp only [bs, ↓vopx, ↓vop, thenV, flat, V.cells, h0, wocs, ↓goc, ↓woc, ↓vopm0]
  refine hK1 _ _ ?_
  refine vsk fun K2 hK2 => ?_
  refine vsk fun K3 hK3 => ?_
  rcases (show (d.nodes.length : Int) > 6 ∨ (¬ (d.nodes.length : Int) > 6 ∧ (d.arrs.length : Int) > 8) ∨ (¬ (d.nodes.length : Int) > 6 ∧ ¬ (d.arrs.length : Int) > 8) by omega) with h6 | ⟨h6, h8⟩ | ⟨h6, h8⟩
  · refine vw_sc 0 [] ?_
    simp only [bs, ↓vopx, ↓vop, Nat.reduceBEq, thenV, flat, Nat.reduceLT, dLoad, vpart, opII, gtmp, hl, wocs, ↓goc, ↓woc, ↓vopm0, ↓pick_tf, Tryd.ag59, Tryd.fd62_0, Tryd.sz59, Tryd.un59, len_tObjs, nns, h6]
    refine hK3 _ _ ?_
    refine vck fun A B hA hB => ?_
    simp only [condV, ev_hit, lpv, Nat.reduceLT, true_implies, reduceCtorEq, false_implies, and_true, hl]
    refine hA ?_
    clear hA hB A B
    refine vsk fun K4 hK4 => ?_
    refine vw_sc 0 [] ?_
    simp only [bs, ↓vopx, ↓vop, thenV, flat, wocs, ↓goc, ↓woc, ↓vopm0]
    refine hK4 _ _ ?_
    refine vw_ret ?_
    rw [show diaS d = false from dia_n h6] at hQ
    refine hQ _ _ _ (.inr rfl) (done_tmp ?_ fun n b hn h => by rw [m_add, if_neg (by omega)]; exact h)
    try simp only [ev_hit, lpv, hl, Nat.reduceLT]
  · refine vw_sc 0 [] ?_
    simp only [bs, ↓vopx, ↓vop, Nat.reduceBEq, thenV, flat, Nat.reduceLT, dLoad, vpart, opII, gtmp, hl, wocs, ↓goc, ↓woc, ↓vopm0, ↓pick_ff, Tryd.ag59, Tryd.ag60, Tryd.fd62_0, Tryd.fd62_1, Tryd.sz59, Tryd.sz60, Tryd.un59, Tryd.un60, len_tObjs, len_tArs, nns, h6, h8]
    refine hK3 _ _ ?_
    refine vck fun A B hA hB => ?_
    simp only [condV, ev_hit, lpv, Nat.reduceLT, true_implies, reduceCtorEq, false_implies, and_true, hl]
    refine hA ?_
    clear hA hB A B
    refine vsk fun K5 hK5 => ?_
    refine vw_sc 0 [] ?_
    simp only [bs, ↓vopx, ↓vop, thenV, flat, wocs, ↓goc, ↓woc, ↓vopm0]
    refine hK5 _ _ ?_
    refine vw_ret ?_
    rw [show diaS d = false from dia_m h8] at hQ
    refine hQ _ _ _ (.inr rfl) (done_tmp ?_ fun n b hn h => by rw [m_add, if_neg (by omega)]; exact h)
    try simp only [ev_hit, lpv, hl, Nat.reduceLT]
  · refine vw_sc 0 [] ?_
    simp only [bs, ↓vopx, ↓vop, Nat.reduceBEq, thenV, flat, Nat.reduceLT, dLoad, vpart, opII, gtmp, hl, wocs, ↓goc, ↓woc, ↓vopm0, ↓pick_ff, Tryd.ag59, Tryd.ag60, Tryd.fd62_0, Tryd.fd62_1, Tryd.sz59, Tryd.sz60, Tryd.un59, Tryd.un60, len_tObjs, len_tArs, nns, h6, h8]
    refine hK3 _ _ ?_
    refine vck fun A B hA hB => ?_
    simp only [condV, ev_hit, lpv, Nat.reduceLT, true_implies, reduceCtorEq, false_implies, true_and, hl]
    refine hB ?_
    clear hA hB A B
    refine vw_skip ?_
    refine hK2 _ _ ?_
    refine vsk fun K6 hK6 => ?_
    refine vsk fun K7 hK7 => ?_
    refine vw_sc 0 [] ?_
    simp only [bs, ↓vopx, ↓vop, Nat.reduceBEq, thenV, flat, Nat.reduceLT, dLoad, vpart, hl, wocs, ↓goc, ↓woc, ↓vopm0, Tryd.ag59, Tryd.fd62_0, Tryd.sz59, Tryd.un59, len_tObjs, nns]
    refine hK7 _ _ ?_
    refine vw_block ?_
    refine vw_loop (fun mm e' s' => ∃ k : Nat, mm = d.nodes.length - k ∧ k ≤ d.nodes.length ∧ e'.length = 66 ∧ ev e' (.tmp 1) = .ptr s.next 0 ∧ ev e' (.tmp 18) = .t (tObjs d.nodes) ∧ ev e' (.tmp 19) = I d.nodes.length ∧ ev e' (.tmp 20) = I k ∧ DiI s d s' ∧ ∀ (j : Nat) (o : Ob), j < k → d.nodes[j]? = some o → (checkS o == 0) = true) (⟨0, rfl, Nat.zero_le _, ?_⟩) ?_
    · try simp only [ev_hit, ev_miss, Nat.reduceBEq, lpv, hl, Nat.reduceLT, true_and]
      repeat ((with_reducible refine And.intro ?_ ?_); · trivial)
      exact ⟨DiI.init s d, fun j o hj _ => absurd hj (by omega)⟩
    rintro mm e s1 ⟨k, rfl, hle_k, hl, k1, k18, k19, h_k, hst, hal⟩
    refine vsk fun K8 hK8 => ?_
    refine vw_sc 0 [] ?_
    simp only [thenV, opII, k19, h_k, wocs, ↓goc, ↓woc]
    refine hK8 _ _ ?_
    refine vsk fun K9 hK9 => ?_
    refine vck fun A B hA hB => ?_
    simp only [condV, ev_hit, Nat.reduceLT, decide_eq_true_eq, decide_eq_false_iff_not, hl]
    refine ⟨fun hc21 => hA ?_, fun hc21 => hB ?_⟩
    · clear hA hB A B
      refine vw_skip ?_
      refine hK9 _ _ ?_
      refine vsk fun K10 hK10 => ?_
      refine vw_block ?_
      refine vsk fun K11 hK11 => ?_
      have hlt : k < d.nodes.length := by omega
      obtain ⟨o, ho⟩ : ∃ o, d.nodes[k]? = some o := ⟨_, List.getElem?_eq_getElem hlt⟩
      have g0 := dropO ho
      have hfl := flatO_length d.nodes
      have hi2 : k * 2 < d.nodes.length * 2 := by omega
      refine vw_sc 0 [] ?_
      simp only [bs, Nat.reduceAdd, ↓vopx, ↓vop, Nat.reduceBEq, thenV, Nat.reduceLT, V.cells, dLoad, vpart, hl, k18, h_k, wocs, ↓goc, ↓woc, ↓vopm0, Tryd.ag25, Tryd.sz25, Tryd.un59, Tryd.zv25, g0, hfl, hi2]
      refine hK11 _ _ ?_
      refine vsk fun K12 hK12 => ?_
      refine vw_env2 fun e2 sb hE2 hSb => ?_
      subst hE2
      have hIb : DiI s d sb := by rw [hSb]; exact (hst.add _).set hst.nx _
      have hbx : sb.m s1.next = some (.box 25 [.t (tStrs o.labels), .t (tPairs o.pairs)]) := by rw [hSb]; simp only [m_set, if_true]; try rfl
      clear hSb
      have o1 := L.o1 o (List.mem_of_getElem? ho)
      have o2 := L.o2 o (List.mem_of_getElem? ho)
      refine vw_sc 0 [.pur (Bo (checkS o == 0))] ?_
      simp only [bs, Nat.reduceAdd, ↓vopx, ↓vop, thenV, Nat.reduceLT, dLoad, vpart, hl, wocs, ↓goc, ↓woc, ↓vopm0, ↓callC, calleeV, Tryd.ag25, Tryd.sz25, hbx]
      repeat ((with_reducible refine And.intro ?_ ?_); · exact ⟨Tryd.is70, isOb_ o (by omega) (by omega)⟩)
      refine hK12 _ _ ?_
      refine vck fun A B hA hB => ?_
      simp only [condV, ev_hit, lpv, Nat.reduceLT, Bool.not_eq_true', Bool.not_eq_false', beq_iff_eq, beq_eq_false_iff_ne, ne_eq, hl]
      refine ⟨fun hc26 => hA ?_, fun hc26 => hB ?_⟩
      · clear hA hB A B
        refine vsk fun K13 hK13 => ?_
        refine vw_sc 0 [] ?_
        simp only [bs, ↓vopx, ↓vop, thenV, flat, wocs, ↓goc, ↓woc, ↓vopm0]
        refine hK13 _ _ ?_
        refine vw_ret ?_
        rw [show diaS d = false from dia_o ho (by simp [hc26])] at hQ
        refine hQ _ _ _ (.inr rfl) (done_tmp ?_ fun n b hn h => (hIb.same n hn).trans h)
        try simp only [ev_hit, lpv, hl, Nat.reduceLT]
      · clear hA hB A B
        refine vw_skip ?_
        refine hK10 _ _ ?_
        refine vw_sc 0 [] ?_
        simp only [bs, ↓vopx, ↓vop, Nat.reduceBEq, thenV, flat, Nat.reduceLT, opII, hl, k1, k18, k19, h_k, wocs, ↓goc, ↓woc, ↓vopm0]
        repeat ((with_reducible refine And.intro ?_ ?_); · exact ⟨by omega, by omega⟩)
        refine ⟨d.nodes.length - (k + 1), by omega, k + 1, rfl, by omega, ?_⟩
        try simp only [ev_hit, ev_miss, Nat.reduceBEq, lpv, hl, k1, k18, k19, h_k, if_true, if_false, Nat.reduceEqDiff, Nat.reduceLT, true_and, and_true]
        repeat ((with_reducible refine And.intro ?_ ?_); · trivial)
        intro j o2 hj ho2
        rcases Nat.lt_succ_iff_lt_or_eq.1 hj with h | h
        · exact hal j o2 h ho2
        · subst h; rw [ho] at ho2; cases ho2; simp [hc26]
    · clear hA hB A B
      have hka : k = d.nodes.length := by omega
      refine vw_exit ?_
      simp only [thenV, blockV, if_true]
      refine hK6 _ _ ?_
      refine vsk fun K14 hK14 => ?_
      refine vsk fun K15 hK15 => ?_
      have hb62 := hst.b
      refine vw_sc 0 [] ?_
      simp only [bs, ↓vopx, ↓vop, Nat.reduceBEq, thenV, flat, Nat.reduceLT, dLoad, vpart, hl, k1, wocs, ↓goc, ↓woc, ↓vopm0, Tryd.ag60, Tryd.fd62_1, Tryd.sz60, Tryd.un60, len_tArs, nns, hb62]
      refine hK15 _ _ ?_
      refine vw_block ?_
      refine vw_loop (fun mm e' s' => ∃ k : Nat, mm = d.arrs.length - k ∧ k ≤ d.arrs.length ∧ e'.length = 66 ∧ ev e' (.tmp 1) = .ptr s.next 0 ∧ ev e' (.tmp 29) = .t (tArs d.arrs) ∧ ev e' (.tmp 30) = I d.arrs.length ∧ ev e' (.tmp 31) = I k ∧ DiI s d s' ∧ ∀ (j : Nat) (x : Ar), j < k → d.arrs[j]? = some x → arOK d x = true) (⟨0, rfl, Nat.zero_le _, ?_⟩) ?_
      · try simp only [ev_hit, ev_miss, Nat.reduceBEq, lpv, hl, k1, Nat.reduceLT, true_and]
        repeat ((with_reducible refine And.intro ?_ ?_); · trivial)
        exact fun j x hj _ => absurd hj (by omega)
      rintro mm e s1 ⟨k, rfl, hle_k, hl, k1, k29, k30, h_k, hst, hal2⟩
      refine vsk fun K16 hK16 => ?_
      refine vw_sc 0 [] ?_
      simp only [thenV, opII, k30, h_k, wocs, ↓goc, ↓woc]
      refine hK16 _ _ ?_
      refine vsk fun K17 hK17 => ?_
      refine vck fun A B hA hB => ?_
      simp only [condV, ev_hit, Nat.reduceLT, decide_eq_true_eq, decide_eq_false_iff_not, hl]
      refine ⟨fun hc32 => hA ?_, fun hc32 => hB ?_⟩
      · clear hA hB A B
        refine vw_skip ?_
        refine hK17 _ _ ?_
        refine vsk fun K18 hK18 => ?_
        refine vw_block ?_
        refine vsk fun K19 hK19 => ?_
        have hlt : k < d.arrs.length := by omega
        obtain ⟨x, hx⟩ : ∃ x, d.arrs[k]? = some x := ⟨_, List.getElem?_eq_getElem hlt⟩
        have g0 := dropA hx
        have hfl := flatA_length d.arrs
        have hi2 : k * 3 < d.arrs.length * 3 := by omega
        refine vw_sc 0 [] ?_
        simp only [bs, Nat.reduceAdd, ↓vopx, ↓vop, Nat.reduceBEq, thenV, Nat.reduceLT, V.cells, dLoad, vpart, hl, k29, h_k, wocs, ↓goc, ↓woc, ↓vopm0, Tryd.ag72, Tryd.sz72, Tryd.un60, Tryd.zv72, g0, hfl, hi2]
        refine hK19 _ _ ?_
        refine vsk fun K20 hK20 => ?_
        refine vw_env2 fun e2 sb hE2 hSb => ?_
        subst hE2
        have hIb : DiI s d sb := by rw [hSb]; exact (hst.add _).set hst.nx _
        have hbx : sb.m s1.next = some (.box 72 [.t (TI x.fr), .t (TI x.to), .t (tInts x.mp)]) := by rw [hSb]; simp only [m_set, if_true]; try rfl
        clear hSb
        have hb62 := hIb.b
        have la := L.a x (List.mem_of_getElem? hx)
        rcases (show thereS d x.fr = false ∨ (thereS d x.fr = true ∧ thereS d x.to = false) ∨ (thereS d x.fr = true ∧ thereS d x.to = true) by cases thereS d x.fr <;> cases thereS d x.to <;> simp) with q1 | ⟨q1, q2⟩ | ⟨q1, q2⟩
        · refine vw_chain Tryd.mixed 27 [1, 0, 1, 0, 0, 0, 1, 0, 1, 0, 0, 0, 0, 0, 1, 0, 1, 1, 1, 0, 1, 0, 1, 1, 1, 0, 1] [.pur (Bo (thereS d x.fr))] [] 0 (by decide +kernel) (by simp [lpv, hl]) rfl ?_
          simp only [bs, Nat.reduceAdd, ↓vopx, ↓vop, Nat.reduceBEq, thenV, flat, Nat.reduceLT, dLoad, vpart, gtmp, hl, k1, wocs, ↓goc, ↓woc, ↓vopm0, ↓vopm1, ↓callC, ↓pick_tf, calleeV, chn, ↓goq, ↓woq, ↓callQ, List.zip_cons_cons, List.zip_nil_right, Tryd.ag3, Tryd.ag62, Tryd.fd72_0, Tryd.sz3, Tryd.sz62, nns, hbx, hb62, q1]
          repeat ((with_reducible refine And.intro ?_ ?_); · exact ⟨Tryd.is108, by simpa only [q1] using there_ d x.fr (by omega)⟩)
          refine hK20 _ _ ?_
          refine vck fun A B hA hB => ?_
          simp only [condV, ev_hit, lpv, Nat.reduceLT, true_implies, reduceCtorEq, false_implies, and_true, hl]
          refine hA ?_
          clear hA hB A B
          refine vsk fun K21 hK21 => ?_
          refine vw_sc 0 [] ?_
          simp only [bs, ↓vopx, ↓vop, thenV, flat, wocs, ↓goc, ↓woc, ↓vopm0]
          refine hK21 _ _ ?_
          refine vw_ret ?_
          rw [show diaS d = false from dia_a hx (by simp [arOK, q1])] at hQ
          refine hQ _ _ _ (.inr rfl) (done_tmp ?_ fun n b hn h => (hIb.same n hn).trans h)
          try simp only [ev_hit, lpv, hl, Nat.reduceLT]
        · refine vw_chain Tryd.mixed 27 [1, 0, 1, 0, 0, 0, 1, 0, 1, 0, 0, 0, 0, 0, 1, 0, 1, 1, 1, 0, 1, 0, 1, 1, 1, 0, 1] [.pur (Bo (thereS d x.fr)), .pur (Bo (thereS d x.to))] [] 0 (by decide +kernel) (by simp [lpv, hl]) rfl ?_
          simp only [bs, Nat.reduceAdd, ↓vopx, ↓vop, Nat.reduceBEq, thenV, flat, Nat.reduceLT, dLoad, vpart, gtmp, hl, k1, wocs, ↓goc, ↓woc, ↓vopm0, ↓vopm1, ↓callC, ↓pick_ff, ↓pick_tf, calleeV, chn, ↓goq, ↓woq, ↓callQ, List.zip_cons_cons, List.zip_nil_right, Tryd.ag3, Tryd.ag62, Tryd.fd72_0, Tryd.fd72_1, Tryd.sz3, Tryd.sz62, nns, hbx, hb62, q1, q2]
          repeat ((with_reducible refine And.intro ?_ ?_); · first | exact ⟨Tryd.is108, by simpa only [q1] using there_ d x.fr (by omega)⟩ | exact ⟨Tryd.is108, by simpa only [q2] using there_ d x.to (by omega)⟩)
          refine hK20 _ _ ?_
          refine vck fun A B hA hB => ?_
          simp only [condV, ev_hit, lpv, Nat.reduceLT, true_implies, reduceCtorEq, false_implies, and_true, hl]
          refine hA ?_
          clear hA hB A B
          refine vsk fun K22 hK22 => ?_
          refine vw_sc 0 [] ?_
          simp only [bs, ↓vopx, ↓vop, thenV, flat, wocs, ↓goc, ↓woc, ↓vopm0]
          refine hK22 _ _ ?_
          refine vw_ret ?_
          rw [show diaS d = false from dia_a hx (by simp [arOK, q2])] at hQ
          refine hQ _ _ _ (.inr rfl) (done_tmp ?_ fun n b hn h => (hIb.same n hn).trans h)
          try simp only [ev_hit, lpv, hl, Nat.reduceLT]
        · have i1 := there_iff.1 q1
          have i2 := there_iff.1 q2
          obtain ⟨a, hA⟩ : ∃ a, d.nodes[x.fr.toNat]? = some a := ⟨_, List.getElem?_eq_getElem (by omega)⟩
          obtain ⟨b, hB⟩ : ∃ b, d.nodes[x.to.toNat]? = some b := ⟨_, List.getElem?_eq_getElem (by omega)⟩
          have g1 := dropO hA
          have g2 := dropO hB
          have hfl := flatO_length d.nodes
          have j1 : x.fr.toNat * 2 < d.nodes.length * 2 := by omega
          have j2 : x.to.toNat * 2 < d.nodes.length * 2 := by omega
          have a1 := L.o1 a (List.mem_of_getElem? hA)
          have a2 := L.o2 a (List.mem_of_getElem? hA)
          have b1 := L.o1 b (List.mem_of_getElem? hB)
          have b2 := L.o2 b (List.mem_of_getElem? hB)
          have hok : arOK d x = arrS a b x.mp := by simp [arOK, q1, q2, nodeAt_of hA, nodeAt_of hB]
          refine vw_chain Tryd.mixed 27 [1, 0, 1, 0, 0, 0, 1, 0, 1, 0, 0, 0, 0, 0, 1, 0, 1, 1, 1, 0, 1, 0, 1, 1, 1, 0, 1] [.pur (Bo (thereS d x.fr)), .pur (Bo (thereS d x.to)), .pur (Bo (arrS a b x.mp))] [] 0 (by decide +kernel) (by simp [lpv, hl]) rfl ?_
          simp only [bs, Nat.reduceAdd, ↓vopx, ↓vop, Nat.reduceBEq, thenV, flat, Nat.reduceLT, dLoad, vpart, gtmp, hl, k1, wocs, ↓goc, ↓woc, ↓vopm0, ↓vopm1, ↓callC, ↓pick_ff, calleeV, chn, ↓goq, ↓woq, ↓callQ, List.zip_cons_cons, List.zip_nil_right, Tryd.ag25, Tryd.ag26, Tryd.ag3, Tryd.ag59, Tryd.ag62, Tryd.fd62_0, Tryd.fd72_0, Tryd.fd72_1, Tryd.fd72_2, Tryd.sz25, Tryd.sz26, Tryd.sz3, Tryd.sz59, Tryd.sz62, Tryd.un59, nns, hbx, hb62, q1, q2, g1, g2, hfl, j1, j2]
          repeat ((with_reducible refine And.intro ?_ ?_); · first | omega | exact ⟨Tryd.is108, by simpa only [q1] using there_ d x.fr (by omega)⟩ | exact ⟨Tryd.is108, by simpa only [q2] using there_ d x.to (by omega)⟩ | exact ⟨Tryd.is34, arrow_ a b x.mp (by omega) (by omega) (by omega) (by omega) (by omega)⟩)
          refine hK20 _ _ ?_
          refine vck fun A B hA hB => ?_
          simp only [condV, ev_hit, lpv, Nat.reduceLT, Bool.not_eq_true', Bool.not_eq_false', hl]
          refine ⟨fun hc64 => hA ?_, fun hc64 => hB ?_⟩
          · clear hA hB A B
            refine vsk fun K23 hK23 => ?_
            refine vw_sc 0 [] ?_
            simp only [bs, ↓vopx, ↓vop, thenV, flat, wocs, ↓goc, ↓woc, ↓vopm0]
            refine hK23 _ _ ?_
            refine vw_ret ?_
            rw [show diaS d = false from dia_a hx (by rw [hok]; exact hc64)] at hQ
            refine hQ _ _ _ (.inr rfl) (done_tmp ?_ fun n b hn h => (hIb.same n hn).trans h)
            try simp only [ev_hit, lpv, hl, Nat.reduceLT]
          · clear hA hB A B
            refine vw_skip ?_
            refine hK18 _ _ ?_
            refine vw_sc 0 [] ?_
            simp only [bs, ↓vopx, ↓vop, Nat.reduceBEq, thenV, flat, Nat.reduceLT, opII, hl, k1, k29, k30, h_k, wocs, ↓goc, ↓woc, ↓vopm0]
            repeat ((with_reducible refine And.intro ?_ ?_); · exact ⟨by omega, by omega⟩)
            refine ⟨d.arrs.length - (k + 1), by omega, k + 1, rfl, by omega, ?_⟩
            try simp only [ev_hit, ev_miss, Nat.reduceBEq, lpv, hl, k1, k29, k30, h_k, if_true, if_false, Nat.reduceEqDiff, Nat.reduceLT, true_and, and_true]
            repeat ((with_reducible refine And.intro ?_ ?_); · trivial)
            intro j x2 hj hx2
            rcases Nat.lt_succ_iff_lt_or_eq.1 hj with h | h
            · exact hal2 j x2 h hx2
            · subst h; rw [hx] at hx2; cases hx2; rw [hok]; exact hc64
      · clear hA hB A B
        have hkb : k = d.arrs.length := by omega
        refine vw_exit ?_
        simp only [thenV, blockV, if_true]
        refine hK14 _ _ ?_
        refine vsk fun K24 hK24 => ?_
        refine vw_sc 0 [] ?_
        simp only [bs, ↓vopx, ↓vop, thenV, flat, wocs, ↓goc, ↓woc, ↓vopm0]
        refine hK24 _ _ ?_
        refine vw_ret ?_
        rw [dia_ok h6 h8 (by rw [← hka]; exact hal) (by rw [← hkb]; exact hal2)] at hQ
        refine hQ _ _ _ (.inr rfl) (done_tmp ?_ fun n b hn h => (hst.same n hn).trans h)
        try simp only [ev_hit, lpv, hl, Nat.reduceLT]
set_option maxRecDepth 20000 in
set_option maxHeartbeats 4000000 in
theorem bigD_ (d : Dia) (L : DiaLim d) : PCall Tryd.prog 83 [vDia d] (Bo (bigD d)) := by
  refine pcall_of_body Tryd.func83 rfl fun s Q hQ => ?_
  obtain ⟨e, he, hl, h0⟩ : ∃ e : Env, ([vDia d] ++ List.replicate (Tryd.f83.ntmps - ([vDia d] : List V).length) .junk) = e ∧ e.length = 31 ∧ ev e (.tmp 0) = vDia d := ⟨_, rfl, rfl, rfl⟩
  rw [he]
  clear he
  have Ln := L.n
  have Lm := L.m
  refine vsk fun K1 hK1 => ?_
  refine vw_sc 0 [] ?_
  simp only [bs, ↓vopx, ↓vop, thenV, flat, V.cells, h0, wocs, ↓goc, ↓woc, ↓vopm0]
  refine hK1 _ _ ?_
  refine vw_scope ?_
  refine vsk fun K2 hK2 => ?_
  refine vsk fun K3 hK3 => ?_
  rcases (show (d.nodes.length : Int) > 6 ∨ (¬ (d.nodes.length : Int) > 6 ∧ (d.arrs.length : Int) > 8) ∨ (¬ (d.nodes.length : Int) > 6 ∧ ¬ (d.arrs.length : Int) > 8) by omega) with h6 | ⟨h6, h8⟩ | ⟨h6, h8⟩
  · refine vw_sc 0 [] ?_
    simp only [bs, ↓vopx, ↓vop, Nat.reduceBEq, thenV, flat, Nat.reduceLT, dLoad, vpart, opII, gtmp, hl, wocs, ↓goc, ↓woc, ↓vopm0, ↓pick_tf, Tryd.ag59, Tryd.fd62_0, Tryd.sz59, Tryd.un59, len_tObjs, nns, h6]
    refine hK3 _ _ ?_
    refine vck fun A B hA hB => ?_
    simp only [condV, ev_hit, lpv, Nat.reduceLT, true_implies, reduceCtorEq, false_implies, and_true, hl]
    refine hA ?_
    clear hA hB A B
    refine vsk fun K4 hK4 => ?_
    refine vw_sc 0 [] ?_
    simp only [bs, ↓vopx, ↓vop, thenV, flat, wocs, ↓goc, ↓woc, ↓vopm0]
    refine hK4 _ _ ?_
    refine vw_ret ?_
    change Q _ _ _
    rw [show bigD d = true from big_n h6] at hQ
    refine hQ _ _ _ (.inr rfl) (done_tmp ?_ fun n b hn h => by rw [m_add, if_neg (by omega)]; exact h)
    try simp only [ev_hit, lpv, hl, Nat.reduceLT]
  · refine vw_sc 0 [] ?_
    simp only [bs, ↓vopx, ↓vop, Nat.reduceBEq, thenV, flat, Nat.reduceLT, dLoad, vpart, opII, gtmp, hl, wocs, ↓goc, ↓woc, ↓vopm0, ↓pick_ff, Tryd.ag59, Tryd.ag60, Tryd.fd62_0, Tryd.fd62_1, Tryd.sz59, Tryd.sz60, Tryd.un59, Tryd.un60, len_tObjs, len_tArs, nns, h6, h8]
    refine hK3 _ _ ?_
    refine vck fun A B hA hB => ?_
    simp only [condV, ev_hit, lpv, Nat.reduceLT, true_implies, reduceCtorEq, false_implies, and_true, hl]
    refine hA ?_
    clear hA hB A B
    refine vsk fun K5 hK5 => ?_
    refine vw_sc 0 [] ?_
    simp only [bs, ↓vopx, ↓vop, thenV, flat, wocs, ↓goc, ↓woc, ↓vopm0]
    refine hK5 _ _ ?_
    refine vw_ret ?_
    change Q _ _ _
    rw [show bigD d = true from big_m h8] at hQ
    refine hQ _ _ _ (.inr rfl) (done_tmp ?_ fun n b hn h => by rw [m_add, if_neg (by omega)]; exact h)
    try simp only [ev_hit, lpv, hl, Nat.reduceLT]
  · refine vw_sc 0 [] ?_
    simp only [bs, ↓vopx, ↓vop, Nat.reduceBEq, thenV, flat, Nat.reduceLT, dLoad, vpart, opII, gtmp, hl, wocs, ↓goc, ↓woc, ↓vopm0, ↓pick_ff, Tryd.ag59, Tryd.ag60, Tryd.fd62_0, Tryd.fd62_1, Tryd.sz59, Tryd.sz60, Tryd.un59, Tryd.un60, len_tObjs, len_tArs, nns, h6, h8]
    refine hK3 _ _ ?_
    refine vck fun A B hA hB => ?_
    simp only [condV, ev_hit, lpv, Nat.reduceLT, true_implies, reduceCtorEq, false_implies, true_and, hl]
    refine hB ?_
    clear hA hB A B
    refine vw_skip ?_
    refine hK2 _ _ ?_
    refine vsk fun K6 hK6 => ?_
    refine vw_sc 0 [] ?_
    simp only [bs, ↓vopx, ↓vop, thenV, flat, wocs, ↓goc, ↓woc, ↓vopm0]
    refine hK6 _ _ ?_
    refine vsk fun K7 hK7 => ?_
    refine vw_label ?_
    try simp only [thenV]
    refine hK7 _ _ ?_
    refine vsk fun K8 hK8 => ?_
    refine vsk fun K9 hK9 => ?_
    refine vw_sc 0 [] ?_
    simp only [bs, ↓vopx, ↓vop, Nat.reduceBEq, thenV, flat, Nat.reduceLT, dLoad, vpart, hl, wocs, ↓goc, ↓woc, ↓vopm0, Tryd.ag59, Tryd.fd62_0, Tryd.sz59, Tryd.un59, len_tObjs, nns]
    refine hK9 _ _ ?_
    refine vw_block ?_
    refine vw_loop (fun mm e' s' => ∃ k : Nat, mm = d.nodes.length - k ∧ k ≤ d.nodes.length ∧ e'.length = 31 ∧ ev e' (.tmp 1) = .ptr s.next 0 ∧ ev e' (.tmp 3) = I (40 - (sumT d.nodes k : Int)) ∧ ev e' (.tmp 17) = .t (tObjs d.nodes) ∧ ev e' (.tmp 18) = I d.nodes.length ∧ ev e' (.tmp 19) = I k ∧ DiI s d s' ∧ sumT d.nodes k ≤ 40) (⟨0, rfl, Nat.zero_le _, ?_⟩) ?_
    · try simp only [ev_hit, ev_miss, Nat.reduceBEq, lpv, hl, Nat.reduceLT, true_and]
      repeat ((with_reducible refine And.intro ?_ ?_); · trivial)
      exact ⟨DiI.init s d, by simp [sumT]⟩
    rintro mm e s1 ⟨k, rfl, hle_k, hl, k1, k3, k17, k18, h_k, hst, hsk⟩
    refine vsk fun K10 hK10 => ?_
    refine vw_sc 0 [] ?_
    simp only [thenV, opII, k18, h_k, wocs, ↓goc, ↓woc]
    refine hK10 _ _ ?_
    refine vsk fun K11 hK11 => ?_
    refine vck fun A B hA hB => ?_
    simp only [condV, ev_hit, Nat.reduceLT, decide_eq_true_eq, decide_eq_false_iff_not, hl]
    refine ⟨fun hc20 => hA ?_, fun hc20 => hB ?_⟩
    · clear hA hB A B
      refine vw_skip ?_
      refine hK11 _ _ ?_
      refine vsk fun K12 hK12 => ?_
      refine vw_block ?_
      refine vsk fun K13 hK13 => ?_
      have hlt : k < d.nodes.length := by omega
      obtain ⟨o, ho⟩ : ∃ o, d.nodes[k]? = some o := ⟨_, List.getElem?_eq_getElem hlt⟩
      have g0 := dropO ho
      have hfl := flatO_length d.nodes
      have hi2 : k * 2 < d.nodes.length * 2 := by omega
      refine vw_sc 0 [] ?_
      simp only [bs, Nat.reduceAdd, ↓vopx, ↓vop, Nat.reduceBEq, thenV, Nat.reduceLT, V.cells, dLoad, vpart, hl, k17, h_k, wocs, ↓goc, ↓woc, ↓vopm0, Tryd.ag25, Tryd.sz25, Tryd.un59, Tryd.zv25, g0, hfl, hi2]
      refine hK13 _ _ ?_
      refine vsk fun K14 hK14 => ?_
      refine vsk fun K15 hK15 => ?_
      refine vw_env2 fun e2 sb hE2 hSb => ?_
      subst hE2
      have hIb : DiI s d sb := by rw [hSb]; exact (hst.add _).set hst.nx _
      have hbx : sb.m s1.next = some (.box 25 [.t (tStrs o.labels), .t (tPairs o.pairs)]) := by rw [hSb]; simp only [m_set, if_true]; try rfl
      clear hSb
      have o1 := L.o1 o (List.mem_of_getElem? ho)
      have hss := sumT_succ ho
      refine vw_sc 0 [] ?_
      simp only [bs, ↓vopx, ↓vop, Nat.reduceBEq, thenV, Nat.reduceLT, dLoad, vpart, opII, hl, k3, wocs, ↓goc, ↓woc, ↓vopm0, Tryd.ag22, Tryd.fd25_0, Tryd.sz22, Tryd.un22, len_tStrs, nns, hbx]
      repeat ((with_reducible refine And.intro ?_ ?_); · exact ⟨by omega, by omega⟩)
      refine hK15 _ _ ?_
      refine vsk fun K16 hK16 => ?_
      refine vw_sc 0 [] ?_
      simp only [bs, ↓vopx, ↓vop, thenV, flat, Nat.reduceLT, opII, hl, wocs, ↓goc, ↓woc, ↓vopm0]
      refine hK16 _ _ ?_
      refine vck fun A B hA hB => ?_
      simp only [condV, ev_hit, lpv, Nat.reduceLT, decide_eq_true_eq, decide_eq_false_iff_not, hl]
      refine ⟨fun hc29 => hA ?_, fun hc29 => hB ?_⟩
      · clear hA hB A B
        refine vw_exit ?_
        simp only [thenV, blockV, noGoto, if_true, if_false, reduceCtorEq]
        refine hK12 _ _ ?_
        refine vw_sc 0 [] ?_
        simp only [bs, ↓vopx, ↓vop, Nat.reduceBEq, thenV, flat, Nat.reduceLT, opII, hl, k1, k17, k18, h_k, wocs, ↓goc, ↓woc, ↓vopm0]
        repeat ((with_reducible refine And.intro ?_ ?_); · exact ⟨by omega, by omega⟩)
        refine ⟨d.nodes.length - (k + 1), by omega, k + 1, rfl, by omega, ?_⟩
        try simp only [ev_hit, ev_miss, Nat.reduceBEq, lpv, hl, k1, k3, k17, k18, h_k, if_true, if_false, Nat.reduceEqDiff, Nat.reduceLT, true_and, and_true]
        exact ⟨by rw [hss, show (40 - ((sumT d.nodes k : Nat) : Int) - (o.labels.length : Int)) = 40 - ((sumT d.nodes k + o.labels.length : Nat) : Int) by omega], by push_cast; rfl, hIb, by rw [hss]; omega⟩
      · clear hA hB A B
        refine vw_skip ?_
        refine hK14 _ _ ?_
        refine vsk fun K17 hK17 => ?_
        refine vw_sc 0 [] ?_
        simp only [bs, ↓vopx, ↓vop, thenV, flat, wocs, ↓goc, ↓woc, ↓vopm0]
        refine hK17 _ _ ?_
        refine vw_ret ?_
        change Q _ _ _
        rw [show bigD d = true from by rw [big_of h6 h8]; have := sumT_le d.nodes (k + 1); rw [hss] at this; unfold largeS; simp only [decide_eq_true_eq]; omega] at hQ
        refine hQ _ _ _ (.inr rfl) (done_tmp ?_ fun n b hn h => (hIb.same n hn).trans h)
        try simp only [ev_hit, lpv, hl, Nat.reduceLT]
    · clear hA hB A B
      have hka : k = d.nodes.length := by omega
      refine vw_exit ?_
      simp only [thenV, blockV, noGoto, if_true]
      refine hK8 _ _ ?_
      refine vsk fun K18 hK18 => ?_
      refine vw_sc 0 [] ?_
      simp only [bs, ↓vopx, ↓vop, thenV, flat, wocs, ↓goc, ↓woc, ↓vopm0]
      refine hK18 _ _ ?_
      refine vw_ret ?_
      change Q _ _ _
      rw [show bigD d = false from by rw [big_of h6 h8]; unfold largeS; rw [← hka]; simp only [decide_eq_false_iff_not]; omega] at hQ
      refine hQ _ _ _ (.inr rfl) (done_tmp ?_ fun n b hn h => (hst.same n hn).trans h)
      try simp only [ev_hit, lpv, hl, Nat.reduceLT]
end Go.Proofs

open Go Go.V
namespace Go.Proofs
def vCol (r : Ob × List (List Int) × Int) : V := .tup [vObj r.1, .t (tMat r.2.1), I r.2.2]
def mixL (d : Dia) (pl : List Int) (j : Nat) : List (List Int) := ((legsT d.nodes d.nodes.length).take j).map (fun g => (thenS g pl).1) ++ (legsT d.nodes d.nodes.length).drop j
theorem mixL_len (d : Dia) (pl : List Int) (j : Nat) : (mixL d pl j).length = d.nodes.length := by
  have := legsT_length d.nodes d.nodes.length (Nat.le_refl _)
  simp [mixL]; omega
theorem mixL_at {d : Dia} {pl : List Int} {j : Nat} {g : List Int} (h : (legsT d.nodes d.nodes.length)[j]? = some g) : (mixL d pl j)[j]? = some g := by
  have hl := (List.getElem?_eq_some_iff.1 h).1
  unfold mixL
  rw [List.getElem?_append_right (by simp; omega), List.length_map, List.length_take, Nat.min_eq_left (by omega), Nat.sub_self, List.getElem?_drop]; exact h
theorem mixL_set {d : Dia} {pl : List Int} {j : Nat} {g : List Int} (h : (legsT d.nodes d.nodes.length)[j]? = some g) : (mixL d pl j).set j (thenS g pl).1 = mixL d pl (j + 1) := by
  have hl := (List.getElem?_eq_some_iff.1 h).1
  unfold mixL
  rw [List.set_append_right _ _ (by simp; omega), List.length_map, List.length_take, Nat.min_eq_left (by omega), Nat.sub_self]
  rw [List.take_add_one, h, List.drop_eq_getElem_cons hl, List.set_cons_zero]
  simp
theorem mixL_end (d : Dia) (pl : List Int) : mixL d pl d.nodes.length = (legsT d.nodes d.nodes.length).map fun g => (thenS g pl).1 := by
  have := legsT_length d.nodes d.nodes.length (Nat.le_refl _)
  have h1 : (legsT d.nodes d.nodes.length).take d.nodes.length = legsT d.nodes d.nodes.length := List.take_of_length_le (by omega)
  have h2 : (legsT d.nodes d.nodes.length).drop d.nodes.length = [] := List.drop_eq_nil_of_le (by omega)
  simp only [mixL, h1, h2, List.append_nil]
theorem mixL_zero (d : Dia) (pl : List Int) : mixL d pl 0 = legsT d.nodes d.nodes.length := by simp [mixL]
theorem setAll_mat {l : List (List Int)} {i : Nat} (h : i < l.length) (g : List Int) : setAll (l.map tInts) i [tInts g] = (l.set i g).map tInts := by
  rw [show setAll (l.map tInts) i [tInts g] = (l.map tInts).set i (tInts g) from setAll_one _ _ _ (by simpa using h), List.map_set]
structure CoI (s sV : Sg) (d : Dia) (m p um : Nat) (k : Nat) (s' : Sg) : Prop where
  pr : ProR s' p um (joinsL (rangeI (bsB d.nodes d.nodes.length)) (colF d d.arrs.length) (colG d d.arrs.length) k)
  keep : Keep sV s'
  nx : sV.next ≤ s'.next
theorem CoI.step {s sV : Sg} {d : Dia} {m p um k : Nat} {s1 s2 : Sg} (h : CoI s sV d m p um k s1) (hk : Keep s1 s2) (hn : s1.next ≤ s2.next) : CoI s sV d m p um k s2 :=
  ⟨h.pr.keep hk hn, h.keep.trans h.nx hk, Nat.le_trans h.nx hn⟩
theorem col_le {d : Dia} (h : bigD d = false) : bsB d.nodes d.nodes.length ≤ 40 := by
  simp only [bigD, Bool.or_eq_false_iff, largeS, decide_eq_false_iff_not, sumT_bs _ _ (Nat.le_refl _)] at h
  omega
theorem bs_prs {l : List Ob} (h : BsOK l) : (bsS l).pairs.length ≤ 10000 := by
  have h1 := h.prs l.length
  have h2 := h.n
  show (prsT l l.length).length ≤ _
  omega
set_option maxRecDepth 20000 in
set_option maxHeartbeats 8000000 in
theorem colOf_ (d : Dia) (L : DiaLim d) (hp2 : ∀ o ∈ d.nodes, o.pairs.length ≤ 1000) : PCall Tryd.prog 50 [vDia d] (vCol (colS d)) := by
  refine pcall_of_body Tryd.func50 rfl fun s Q hQ => ?_
  obtain ⟨e, he, hl, h0⟩ : ∃ e : Env, ([vDia d] ++ List.replicate (Tryd.f50.ntmps - ([vDia d] : List V).length) .junk) = e ∧ e.length = 95 ∧ ev e (.tmp 0) = vDia d := ⟨_, rfl, rfl, rfl⟩
  rw [he]
  clear he
  have Ln := L.n
  have Lm := L.m
  refine vsk fun K1 hK1 => ?_
  refine vw_sc 0 [] ?_
  simp only [bs, ↓vopx, ↓vop, thenV, flat, V.cells, h0, wocs, ↓goc, ↓woc, ↓vopm0, Tryd.zv25]
  refine hK1 _ _ ?_
  refine vsk fun K2 hK2 => ?_
  refine vw_block ?_
  refine vsk fun K3 hK3 => ?_
  refine vw_st fun sN hSN => ?_
  have hn62 : sN.m s.next = some (.box 62 [.t (tObjs d.nodes), .t (tArs d.arrs)]) := by rw [hSN, m_add, if_neg (by simp only [n_add]; omega), m_add, if_pos rfl]
  have hn2 : sN.m (s.next + 1) = some (.box 25 [.t (.v (.slice none 0 0)), .t (.v (.slice none 0 0))]) := by rw [hSN, m_add, if_pos (by simp only [n_add])]
  have hnn : sN.next = s.next + 2 := by rw [hSN]; rfl
  have hnk : ∀ j, j < s.next → sN.m j = s.m j := fun j hj => by rw [hSN, m_add, if_neg (by simp only [n_add]; omega), m_add, if_neg (by omega)]
  clear hSN
  rcases (show bigD d = true ∨ bigD d = false by cases bigD d <;> simp) with kb | kb
  · refine vw_sc 0 [.pur (Bo (bigD d))] ?_
    simp only [bs, Nat.reduceAdd, ↓vopx, ↓vop, Nat.reduceBEq, thenV, Nat.reduceLT, dLoad, vpart, hl, wocs, ↓goc, ↓woc, ↓vopm0, ↓callC, calleeV, Tryd.ag62, Tryd.sz62, hn62, kb]
    repeat ((with_reducible refine And.intro ?_ ?_); · exact ⟨Tryd.is83, by simpa only [kb] using bigD_ d L⟩)
    refine hK3 _ _ ?_
    refine vck fun A B hA hB => ?_
    simp only [condV, ev_hit, lpv, Nat.reduceLT, true_implies, reduceCtorEq, false_implies, and_true, hl]
    refine hA ?_
    clear hA hB A B
    refine vsk fun K4 hK4 => ?_
    refine vw_sc 0 [] ?_
    simp only [bs, Nat.reduceAdd, vparts, gfill, ↓vopx, ↓vop, Nat.reduceBEq, thenV, flat, Nat.reduceLT, V.cells, hl, wocs, ↓goc, ↓woc, ↓vopm0, Tryd.st25, Tryd.sz25, hn2]
    refine hK4 _ _ ?_
    refine vw_ret ?_
    have hres : vCol (colS d) = pack [vObj ⟨[], []⟩, .t (tMat []), I 11] := by simp [colS, vCol, noOb, kb]; rfl
    rw [hres] at hQ
    refine hQ _ _ _ (.inr rfl) (done_wk (vs := [.agg [.t (.v (.slice none 0 0)), .t (.v (.slice none 0 0))], .t (.v (.slice none 0 0)), I 11]) (vs' := [vObj ⟨[], []⟩, .t (tMat []), I 11]) ?_ rfl (ewk_err3 _ _) (by simp [pack, nm, nm2, nm1, nm0]) ?_)
    · show vres Tryd.prog _ _ [.cell 2 25, .tmp 3, .tmp 4] = _
      simp only [vres_cell, vres_tmp, vres_nil, ev_hit, ev_miss, Nat.reduceBEq, lpv, hl, hn2, Tryd.sz25, Tryd.ag25, dLoad, m_set, vpart, if_true, Nat.reduceLT, List.drop_zero, List.take_succ_cons, List.take_zero, List.length_cons, List.length_nil, Nat.zero_add, Nat.reduceAdd]
      try rfl
    · exact fun n x hn h => by rw [m_set, if_neg (by omega), hnk n hn]; exact h
  · refine vw_sc 0 [.pur (Bo (bigD d))] ?_
    simp only [bs, Nat.reduceAdd, ↓vopx, ↓vop, Nat.reduceBEq, thenV, Nat.reduceLT, dLoad, vpart, hl, wocs, ↓goc, ↓woc, ↓vopm0, ↓callC, calleeV, Tryd.ag62, Tryd.sz62, hn62, kb]
    repeat ((with_reducible refine And.intro ?_ ?_); · exact ⟨Tryd.is83, by simpa only [kb] using bigD_ d L⟩)
    refine hK3 _ _ ?_
    refine vck fun A B hA hB => ?_
    simp only [condV, ev_hit, lpv, Nat.reduceLT, true_implies, reduceCtorEq, false_implies, true_and, hl]
    refine hB ?_
    clear hA hB A B
    refine vsk fun K5 hK5 => ?_
    rcases (show diaS d = false ∨ diaS d = true by cases diaS d <;> simp) with kd | kd
    · refine vw_sc 0 [.pur (Bo (diaS d))] ?_
      simp only [bs, Nat.reduceAdd, ↓vopx, ↓vop, Nat.reduceBEq, thenV, Nat.reduceLT, dLoad, vpart, hl, wocs, ↓goc, ↓woc, ↓vopm0, ↓callC, calleeV, Tryd.ag62, Tryd.sz62, hn62, kd]
      repeat ((with_reducible refine And.intro ?_ ?_); · exact ⟨Tryd.is82, by simpa only [kd] using isDia_ d L⟩)
      refine hK5 _ _ ?_
      refine vck fun A B hA hB => ?_
      simp only [condV, ev_hit, lpv, Nat.reduceLT, true_implies, reduceCtorEq, false_implies, and_true, hl]
      refine hA ?_
      clear hA hB A B
      refine vsk fun K6 hK6 => ?_
      refine vw_sc 0 [] ?_
      simp only [bs, Nat.reduceAdd, vparts, gfill, ↓vopx, ↓vop, Nat.reduceBEq, thenV, flat, Nat.reduceLT, V.cells, hl, wocs, ↓goc, ↓woc, ↓vopm0, Tryd.st25, Tryd.sz25, hn2]
      refine hK6 _ _ ?_
      refine vw_ret ?_
      have hres : vCol (colS d) = pack [vObj ⟨[], []⟩, .t (tMat []), I 10] := by simp [colS, vCol, noOb, kb, kd]; rfl
      rw [hres] at hQ
      refine hQ _ _ _ (.inr rfl) (done_wk (vs := [.agg [.t (.v (.slice none 0 0)), .t (.v (.slice none 0 0))], .t (.v (.slice none 0 0)), I 10]) (vs' := [vObj ⟨[], []⟩, .t (tMat []), I 10]) ?_ rfl (ewk_err3 _ _) (by simp [pack, nm, nm2, nm1, nm0]) ?_)
      · show vres Tryd.prog _ _ [.cell 2 25, .tmp 3, .tmp 4] = _
        simp only [vres_cell, vres_tmp, vres_nil, ev_hit, ev_miss, Nat.reduceBEq, lpv, hl, hn2, Tryd.sz25, Tryd.ag25, dLoad, m_set, vpart, if_true, Nat.reduceLT, List.drop_zero, List.take_succ_cons, List.take_zero, List.length_cons, List.length_nil, Nat.zero_add, Nat.reduceAdd]
        try rfl
      · exact fun n x hn h => by rw [m_set, if_neg (by omega), hnk n hn]; exact h
    · refine vw_sc 0 [.pur (Bo (diaS d))] ?_
      simp only [bs, Nat.reduceAdd, ↓vopx, ↓vop, Nat.reduceBEq, thenV, Nat.reduceLT, dLoad, vpart, hl, wocs, ↓goc, ↓woc, ↓vopm0, ↓callC, calleeV, Tryd.ag62, Tryd.sz62, hn62, kd]
      repeat ((with_reducible refine And.intro ?_ ?_); · exact ⟨Tryd.is82, by simpa only [kd] using isDia_ d L⟩)
      refine hK5 _ _ ?_
      refine vck fun A B hA hB => ?_
      simp only [condV, ev_hit, lpv, Nat.reduceLT, true_implies, reduceCtorEq, false_implies, true_and, hl]
      refine hB ?_
      clear hA hB A B
      refine vw_skip ?_
      refine hK2 _ _ ?_
      refine vsk fun K7 hK7 => ?_
      have hD := dia_iff.1 kd
      have hBs : BsOK d.nodes := ⟨by have := hD.n; omega, hD.ob, hp2⟩
      have h40 : bsB d.nodes d.nodes.length ≤ 40 := col_le kb
      have hgl := hD.gl h40
      have hll := legsT_length d.nodes d.nodes.length (Nat.le_refl _)
      refine vw_sc 0 [.stop] ?_
      simp only [bs, Nat.reduceAdd, ↓vopx, ↓vop, Nat.reduceBEq, thenV, Nat.reduceLT, V.cells, dLoad, vpart, hl, wocs, ↓goc, ↓woc, ↓vopm0, ↓callC, calleeV, Tryd.ag59, Tryd.fd62_0, Tryd.sz59, nns, hn62]
      refine ⟨Tryd.is65, (besideO_ sN d.nodes hBs).mono fun v sU hv => ?_⟩
      obtain ⟨m, rfl, hum, hml, hmu, huk⟩ := hv
      try simp only [bs, Nat.reduceAdd, Nat.reduceBEq, Nat.reduceLT, hl, Tryd.sz25, Tryd.zv25, Hold]
      refine hK7 _ _ ?_
      refine vsk fun K8 hK8 => ?_
      refine vw_st fun sV hSV => ?_
      have hv5 : sV.m sU.next = some (.box 25 [.t (tStrs (bsS d.nodes).labels), .t (tPairs (bsS d.nodes).pairs)]) := by rw [hSV, m_set, if_pos rfl]
      have hvs : ∀ j, j < sU.next → sV.m j = sU.m j := fun j hj => by rw [hSV, m_set, if_neg (by omega), m_add, if_neg (by omega)]
      have hvn : sV.next = sU.next + 1 := by rw [hSV]; rfl
      clear hSV
      have hvm : sV.m m = some (.arr 1 26 ((legsT d.nodes d.nodes.length).map tInts)) := by rw [hvs _ hmu]; exact hum
      have hv62 : sV.m s.next = some (.box 62 [.t (tObjs d.nodes), .t (tArs d.arrs)]) := by rw [hvs _ (by omega), huk _ (by omega)]; exact hn62
      have hv2 : sV.m (s.next + 1) = some (.box 25 [.t (.v (.slice none 0 0)), .t (.v (.slice none 0 0))]) := by rw [hvs _ (by omega), huk _ (by omega)]; exact hn2
      have hvk : ∀ j, j < s.next → sV.m j = s.m j := fun j hj => by rw [hvs _ (by omega), huk _ (by omega)]; exact hnk j hj
      have hbl := bsS_lab d.nodes
      refine vw_sc 0 [.stop] ?_
      simp only [bs, Nat.reduceAdd, ↓vopx, ↓vop, Nat.reduceBEq, thenV, Nat.reduceLT, dLoad, vpart, hl, wocs, ↓goc, ↓woc, ↓vopm0, ↓callC, calleeV, Tryd.ag22, Tryd.fd25_0, Tryd.sz22, Tryd.un22, len_tStrs, nns, hv5, hbl]
      refine ⟨Tryd.is72, (unNew_ sV (bsB d.nodes d.nodes.length) (by omega)).mono fun v sW hv => ?_⟩
      obtain ⟨p, um, rfl, hpr, hup, hum2, hkw, hwn⟩ := hv
      try simp only [bs, Nat.reduceLT, hl, Hold]
      refine hK8 _ _ ?_
      refine vsk fun K9 hK9 => ?_
      refine vsk fun K10 hK10 => ?_
      have hw62 := hkw _ _ (by omega) hv62
      refine vw_sc 0 [] ?_
      simp only [bs, ↓vopx, ↓vop, Nat.reduceBEq, thenV, flat, Nat.reduceLT, dLoad, vpart, hl, wocs, ↓goc, ↓woc, ↓vopm0, Tryd.ag60, Tryd.fd62_1, Tryd.sz60, Tryd.un60, len_tArs, nns, hw62]
      refine hK10 _ _ ?_
      refine vw_block ?_
      refine vw_loop (fun mm e' s' => ∃ k : Nat, mm = d.arrs.length - k ∧ k ≤ d.arrs.length ∧ e'.length = 95 ∧ ev e' (.tmp 1) = .ptr s.next 0 ∧ ev e' (.tmp 2) = .ptr (s.next + 1) 0 ∧ ev e' (.tmp 5) = .ptr sU.next 0 ∧ ev e' (.tmp 6) = .loc m 0 d.nodes.length ∧ ev e' (.tmp 7) = .ptr p 0 ∧ ev e' (.tmp 35) = .t (tArs d.arrs) ∧ ev e' (.tmp 36) = I d.arrs.length ∧ ev e' (.tmp 37) = I k ∧ True ∧ CoI s sV d m p um (colF d k).length s') (⟨0, rfl, Nat.zero_le _, ?_⟩) ?_
      · try simp only [ev_hit, ev_miss, Nat.reduceBEq, lpv, hl, Nat.reduceLT, true_and]
        repeat ((with_reducible refine And.intro ?_ ?_); · trivial)
        exact ⟨hpr, hkw, hwn⟩
      rintro mm e s1 ⟨k, rfl, hle_k, hl, k1, k2, k5, k6, k7, k35, k36, h_k, hst, hC⟩
      refine vsk fun K11 hK11 => ?_
      refine vw_sc 0 [] ?_
      simp only [thenV, opII, k36, h_k, wocs, ↓goc, ↓woc]
      refine hK11 _ _ ?_
      refine vsk fun K12 hK12 => ?_
      refine vck fun A B hA hB => ?_
      simp only [condV, ev_hit, Nat.reduceLT, decide_eq_true_eq, decide_eq_false_iff_not, hl]
      refine ⟨fun hc38 => hA ?_, fun hc38 => hB ?_⟩
      · clear hA hB A B
        refine vw_skip ?_
        refine hK12 _ _ ?_
        refine vsk fun K13 hK13 => ?_
        refine vw_block ?_
        refine vsk fun K14 hK14 => ?_
        have hlt : k < d.arrs.length := by omega
        obtain ⟨x, hx⟩ : ∃ x, d.arrs[k]? = some x := ⟨_, List.getElem?_eq_getElem hlt⟩
        have g0 := dropA hx
        have hfl := flatA_length d.arrs
        have hi2 : k * 3 < d.arrs.length * 3 := by omega
        obtain ⟨a, b, f0, hA, t0, hB, hab⟩ := hD.ar x (List.mem_of_getElem? hx)
        have hmp := allY_length (arrS_iff.1 hab).2.2.1
        have ha40 := (arrS_iff.1 hab).1.le
        refine vw_sc 0 [] ?_
        simp only [bs, Nat.reduceAdd, ↓vopx, ↓vop, Nat.reduceBEq, thenV, Nat.reduceLT, V.cells, dLoad, vpart, hl, k35, h_k, wocs, ↓goc, ↓woc, ↓vopm0, Tryd.ag72, Tryd.sz72, Tryd.un60, Tryd.zv72, g0, hfl, hi2]
        refine hK14 _ _ ?_
        refine vsk fun K15 hK15 => ?_
        refine vw_env2 fun e2 s9_ hE2 hSb => ?_
        subst hE2
        have hbx : s9_.m s1.next = some (.box 72 [.t (TI x.fr), .t (TI x.to), .t (tInts x.mp)]) := by rw [hSb]; simp only [m_set, if_true]; try rfl
        have hC9 : CoI s sV d m p um (colF d k).length s9_ := by rw [hSb]; exact hC.step (((Keep.refl _).add (Nat.le_refl _) _).set (Nat.le_refl _) _) (by simp only [n_set, n_add]; omega)
        have hb9 : s1.next < s9_.next := by rw [hSb]; simp only [n_set, n_add]; omega
        have hv9 : sV.next ≤ s1.next := hC.nx
        have hu9 : um < s1.next := hC.pr.elim fun l h => h.1.lm
        clear hSb
        obtain ⟨n9, hn9⟩ : ∃ n, n = s1.next := ⟨_, rfl⟩
        rw [← hn9] at hbx hb9 hv9 hu9
        refine vw_sc 0 [] ?_
        simp only [bs, ↓vopx, ↓vop, thenV, flat, Nat.reduceLT, dLoad, vpart, hl, wocs, ↓goc, ↓woc, ↓vopm0, Tryd.ag26, Tryd.fd72_2, Tryd.sz26, Tryd.un26, len_tInts, nns, hbx, ← hn9]
        refine hK15 _ _ ?_
        refine vw_block ?_
        refine vw_loop (fun mm e' s' => ∃ i : Nat, mm = x.mp.length - i ∧ i ≤ x.mp.length ∧ e'.length = 95 ∧ ev e' (.tmp 1) = .ptr s.next 0 ∧ ev e' (.tmp 2) = .ptr (s.next + 1) 0 ∧ ev e' (.tmp 5) = .ptr sU.next 0 ∧ ev e' (.tmp 6) = .loc m 0 d.nodes.length ∧ ev e' (.tmp 7) = .ptr p 0 ∧ ev e' (.tmp 35) = .t (tArs d.arrs) ∧ ev e' (.tmp 36) = I d.arrs.length ∧ ev e' (.tmp 9) = .ptr n9 0 ∧ ev e' (.tmp 37) = I k ∧ ev e' (.tmp 42) = .t (tInts x.mp) ∧ ev e' (.tmp 43) = I x.mp.length ∧ ev e' (.tmp 44) = I i ∧ True ∧ CoI s sV d m p um ((colF d k).length + i) s' ∧ s'.m n9 = some (.box 72 [.t (TI x.fr), .t (TI x.to), .t (tInts x.mp)]) ∧ n9 < s'.next) (⟨0, rfl, Nat.zero_le _, ?_⟩) ?_
        · try simp only [ev_hit, ev_miss, Nat.reduceBEq, lpv, hl, k1, k2, k5, k6, k7, k35, k36, h_k, Nat.reduceLT, true_and]
          repeat ((with_reducible refine And.intro ?_ ?_); · trivial)
          exact hb9
        rintro mm e s1 ⟨i, rfl, hle_i, hl, q1, q2, q5, q6, q7, q35, q36, q9, q37, q42, q43, h_i, hst, ⟨hC3, hb3, hn3⟩⟩
        refine vsk fun K16 hK16 => ?_
        refine vw_sc 0 [] ?_
        simp only [thenV, opII, q43, h_i, wocs, ↓goc, ↓woc]
        refine hK16 _ _ ?_
        refine vsk fun K17 hK17 => ?_
        refine vck fun A B hA hB => ?_
        simp only [condV, ev_hit, Nat.reduceLT, decide_eq_true_eq, decide_eq_false_iff_not, hl]
        refine ⟨fun hc45 => hA ?_, fun hc45 => hB ?_⟩
        · clear hA hB A B
          refine vw_skip ?_
          refine hK17 _ _ ?_
          refine vsk fun K18 hK18 => ?_
          refine vw_block ?_
          refine vsk fun K19 hK19 => ?_
          obtain ⟨w, hw⟩ : ∃ w, x.mp[i]? = some w := ⟨_, List.getElem?_eq_getElem (by omega)⟩
          refine vw_sc 0 [] ?_
          simp only [bs, ↓vopx, ↓vop, Nat.reduceBEq, thenV, Nat.reduceLT, dLoad, vpart, hl, q42, h_i, wocs, ↓goc, ↓woc, ↓vopm0, Tryd.ag3, Tryd.sz3, Tryd.un26, hw]
          repeat ((with_reducible refine And.intro ?_ ?_); · omega)
          refine hK19 _ _ ?_
          have hlA := (List.getElem?_eq_some_iff.1 hA).1
          have hlB := (List.getElem?_eq_some_iff.1 hB).1
          have hm3 := hC3.keep _ _ (by omega) hvm
          have hcp := col_pos hx hw
          have bw := map_all (arrS_iff.1 hab).2.2.1 w (List.mem_of_getElem? hw)
          have g1 := legs_at d.nodes.length (Nat.le_refl _) hlA hA
          have g2 := legs_at d.nodes.length (Nat.le_refl _) hlB hB
          have g3 : (legT a.labels.length (bsB d.nodes x.fr.toNat))[i]? = _ := legT_at (by omega)
          have g4 : (legT b.labels.length (bsB d.nodes x.to.toNat))[w.toNat]? = _ := legT_at (by omega)
          have l1 := legT_len a.labels.length (bsB d.nodes x.fr.toNat)
          have l2 := legT_len b.labels.length (bsB d.nodes x.to.toNat)
          have bA := bsB_lt hA hlA
          have bB := bsB_lt hB hlB
          have hRl := (joins_ok _ (colF d d.arrs.length) (colG d d.arrs.length) hgl.bF hgl.bG ((colF d k).length + i) (by have := (List.getElem?_eq_some_iff.1 hcp.1).1; omega) (by have := (List.getElem?_eq_some_iff.1 hcp.2).1; omega)).2
          rw [bsS_lab] at hRl
          refine vw_chain Tryd.mixed 17 [0, 0, 0, 1, 1, 1, 0, 1, 1, 0, 0, 1, 1, 1, 0, 1, 1] [] [.stop] 0 (by decide +kernel) (by simp [lpv, hl]) rfl ?_
          simp only [bs, Nat.reduceAdd, ↓vopx, ↓vop, Nat.reduceBEq, thenV, blockV, Nat.reduceLT, dLoad, vpart, hl, q6, q7, q9, wocs, ↓goc, ↓woc, ↓vopm1, ↓callC, calleeV, chn, ↓goq, ↓woq, List.zip_cons_cons, List.zip_nil_right, Tryd.ag26, Tryd.ag3, Tryd.fd72_0, Tryd.fd72_1, Tryd.sz26, Tryd.sz3, Tryd.un26, Tryd.un63, nns, hb3, hm3, g1, g2, g3, g4, l1, l2, Int.toNat_natCast]
          repeat (refine And.intro (by omega) ?_)
          refine ⟨Tryd.is73, (unJoin_ s1 p um _ hC3.pr (bsB d.nodes x.fr.toNat + i) (bsB d.nodes x.to.toNat + w.toNat) (by omega) (by omega)).mono fun v s2 hv => ?_⟩
          obtain ⟨⟨bb, rfl⟩, hj2, hbt⟩ := hv
          try simp only [bs, Nat.reduceBEq, Nat.reduceLT, hl, q6, q7, Hold]
          refine hK18 _ _ ?_
          refine vw_sc 0 [] ?_
          simp only [bs, ↓vopx, ↓vop, Nat.reduceBEq, thenV, flat, Nat.reduceLT, opII, hl, q1, q2, q5, q6, q7, q35, q36, q9, q37, q42, q43, h_i, wocs, ↓goc, ↓woc, ↓vopm0]
          repeat ((with_reducible refine And.intro ?_ ?_); · exact ⟨by omega, by omega⟩)
          refine ⟨x.mp.length - (i + 1), by omega, i + 1, rfl, by omega, ?_⟩
          try simp only [ev_hit, ev_miss, Nat.reduceBEq, lpv, hl, q1, q2, q5, q6, q7, q35, q36, q9, q37, q42, q43, h_i, if_true, if_false, Nat.reduceEqDiff, Nat.reduceLT, true_and, and_true]
          repeat ((with_reducible refine And.intro ?_ ?_); · trivial)
          refine ⟨⟨?_, hbt.keep hum2 hC3.keep hC3.nx, Nat.le_trans hC3.nx hbt.2⟩, ?_, by have := hbt.2; omega⟩
          · rw [show (colF d k).length + (i + 1) = (colF d k).length + i + 1 from rfl, joinsL_succ hcp.1 hcp.2, Int.toNat_natCast, show (((bsB d.nodes x.to.toNat : Nat) : Int) + w).toNat = bsB d.nodes x.to.toNat + w.toNat by omega]; exact hj2
          · rw [hbt.1 _ hn3 (by omega)]; exact hb3
        · clear hA hB A B
          have hie : i = x.mp.length := by omega
          refine vw_exit ?_
          simp only [thenV, blockV, if_true, if_false, Nat.reduceEqDiff]
          refine hK13 _ _ ?_
          refine vw_sc 0 [] ?_
          simp only [bs, ↓vopx, ↓vop, Nat.reduceBEq, thenV, flat, Nat.reduceLT, opII, hl, q1, q2, q5, q6, q7, q35, q36, q37, wocs, ↓goc, ↓woc, ↓vopm0]
          repeat ((with_reducible refine And.intro ?_ ?_); · exact ⟨by omega, by omega⟩)
          refine ⟨d.arrs.length - (k + 1), by omega, k + 1, rfl, by omega, ?_⟩
          try simp only [ev_hit, ev_miss, Nat.reduceBEq, lpv, hl, k1, k2, k5, k6, k7, k35, k36, h_k, if_true, if_false, Nat.reduceEqDiff, Nat.reduceLT, true_and, and_true]
          repeat ((with_reducible refine And.intro ?_ ?_); · trivial)
          rw [colF_succ hx, List.length_append, legT_len, ← hie]; exact hC3
      · clear hA hB A B
        have hka : k = d.arrs.length := by omega
        refine vw_exit ?_
        simp only [thenV, blockV, if_true]
        refine hK9 _ _ ?_
        refine vsk fun K20 hK20 => ?_
        have h5_ := hC.keep _ _ (by omega) hv5
        have hpl : ∀ q, q = d.arrs.length → placesL (joinsL (rangeI (bsB d.nodes d.nodes.length)) (colF d d.arrs.length) (colG d d.arrs.length) (colF d q).length) = (colPl d) := fun q hq => by subst hq; rfl
        have hRl := hgl.rep.2
        refine vw_sc 0 [.stop] ?_
        simp only [bs, Nat.reduceAdd, ↓vopx, ↓vop, Nat.reduceBEq, thenV, Nat.reduceLT, V.cells, dLoad, vpart, hl, k5, k7, wocs, ↓goc, ↓woc, ↓vopm0, ↓callC, calleeV, Tryd.ag25, Tryd.sz25, h5_]
        refine ⟨Tryd.is74, (folded_ s1 p um _ hC.pr (bsS d.nodes) hgl.ob (by have := bs_prs hBs; omega) (by rw [hka]; exact hRl)).mono fun v s8 hv => ?_⟩
        rw [hpl k hka] at hv
        obtain ⟨rfl, h8k, h8n⟩ := hv
        try simp only [bs, Nat.reduceAdd, Nat.reduceBEq, Nat.reduceLT, hl, k7, Tryd.sz25, Tryd.zv25, Hold]
        refine hK20 _ _ ?_
        refine vsk fun K21 hK21 => ?_
        refine vsk fun K22 hK22 => ?_
        refine vw_st fun sX hSX => ?_
        have hx12 : sX.m s8.next = some (.box 25 [.t (tStrs (gluedS (bsS d.nodes) (colPl d)).labels), .t (tPairs (gluedS (bsS d.nodes) (colPl d)).pairs)]) := by rw [hSX, m_set, if_pos rfl]
        have hxs : ∀ j, j < s8.next → sX.m j = s8.m j := fun j hj => by rw [hSX, m_set, if_neg (by omega), m_add, if_neg (by omega)]
        clear hSX
        have hnV := hC.nx
        have hxm : sX.m m = some (.arr 1 26 ((mixL d (colPl d) 0).map tInts)) := by rw [mixL_zero, hxs _ (by omega)]; exact h8k _ _ (by omega) (by omega) (hC.keep _ _ (by omega) hvm)
        have hx2 : sX.m (s.next + 1) = some (.box 25 [.t (.v (.slice none 0 0)), .t (.v (.slice none 0 0))]) := by rw [hxs _ (by omega)]; exact h8k _ _ (by omega) (by omega) (hC.keep _ _ (by omega) hv2)
        have hxk : ∀ j c, j < s.next → s.m j = some c → sX.m j = some c := fun j c hj hc => by rw [hxs _ (by omega)]; exact h8k _ _ (by omega) (by omega) (hC.keep _ _ (by omega) (by rw [hvk j hj]; exact hc))
        have hpll : ((colPl d)).length = bsB d.nodes d.nodes.length := hgl.len
        refine vw_sc 0 [] ?_
        simp only [bs, ↓vopx, ↓vop, Nat.reduceBEq, thenV, flat, Nat.reduceLT, hl, k6, wocs, ↓goc, ↓woc, ↓vopm0]
        refine hK22 _ _ ?_
        refine vw_block ?_
        refine vw_loop (fun mm e' s' => ∃ i5 : Nat, mm = d.nodes.length - i5 ∧ i5 ≤ d.nodes.length ∧ e'.length = 95 ∧ ev e' (.tmp 2) = .ptr (s.next + 1) 0 ∧ ev e' (.tmp 6) = .loc m 0 d.nodes.length ∧ ev e' (.tmp 12) = .ptr s8.next 0 ∧ ev e' (.tmp 13) = .t (tInts (colPl d)) ∧ ev e' (.tmp 76) = I d.nodes.length ∧ ev e' (.tmp 77) = I i5 ∧ True ∧ s'.m m = some (.arr 1 26 ((mixL d (colPl d) i5).map tInts)) ∧ (∀ j, j ≠ m → s'.m j = sX.m j) ∧ s'.next = sX.next) (⟨0, rfl, Nat.zero_le _, ?_⟩) ?_
        · try simp only [ev_hit, ev_miss, Nat.reduceBEq, lpv, hl, k2, k6, Nat.reduceLT, true_and, and_true]
          repeat ((with_reducible refine And.intro ?_ ?_); · trivial)
          exact fun _ _ => trivial
        rintro mm e s1 ⟨i5, rfl, hle_i5, hl, z2, z6, z12, z13, z76, h_i5, hst, ⟨hm5, hs5, hn5⟩⟩
        refine vsk fun K23 hK23 => ?_
        refine vw_sc 0 [] ?_
        simp only [thenV, opII, z76, h_i5, wocs, ↓goc, ↓woc]
        refine hK23 _ _ ?_
        refine vsk fun K24 hK24 => ?_
        refine vck fun A B hA hB => ?_
        simp only [condV, ev_hit, Nat.reduceLT, decide_eq_true_eq, decide_eq_false_iff_not, hl]
        refine ⟨fun hc78 => hA ?_, fun hc78 => hB ?_⟩
        · clear hA hB A B
          refine vw_skip ?_
          refine hK24 _ _ ?_
          refine vsk fun K25 hK25 => ?_
          refine vw_block ?_
          refine vsk fun K26 hK26 => ?_
          refine vw_sc 0 [] ?_
          simp only [bs, ↓vopx, ↓vop, Nat.reduceBEq, thenV, Nat.reduceLT, hl, h_i5, wocs, ↓goc, ↓woc, ↓vopm0]
          refine hK26 _ _ ?_
          have hlt : i5 < d.nodes.length := by omega
          obtain ⟨o, ho⟩ : ∃ o, d.nodes[i5]? = some o := ⟨_, List.getElem?_eq_getElem hlt⟩
          have g5 := legs_at d.nodes.length (Nat.le_refl _) hlt ho
          have g6 := mixL_at (pl := (colPl d)) g5
          have hml5 := mixL_len d (colPl d) i5
          have l5 := legT_len o.labels.length (bsB d.nodes i5)
          have o40 := (hD.ob o (List.mem_of_getElem? ho)).le
          refine vw_sc 0 [.pur (.tup [.t (tInts (thenS (legT o.labels.length (bsB d.nodes i5)) (colPl d)).1), Bo (thenS (legT o.labels.length (bsB d.nodes i5)) (colPl d)).2])] ?_
          simp only [bs, ↓vopx, ↓vop, Nat.reduceBEq, thenV, blockV, Nat.reduceLT, V.cells, dLoad, vpart, Sg.frzL, Sg.frz1, hl, z6, z13, wocs, ↓goc, ↓woc, ↓vopm0, ↓callC, calleeV, Tryd.ag26, Tryd.sz26, Tryd.un63, hm5, g6, hml5]
          repeat ((with_reducible refine And.intro ?_ ?_); · first | (with_reducible assumption) | omega | exact ⟨Tryd.is32, then_ _ _ (by omega) (by omega)⟩)
          refine hK25 _ _ ?_
          refine vw_sc 0 [] ?_
          simp only [bs, ↓vopx, ↓vop, Nat.reduceBEq, thenV, flat, Nat.reduceLT, opII, hl, z2, z6, z12, z13, z76, h_i5, wocs, ↓goc, ↓woc, ↓vopm0]
          repeat ((with_reducible refine And.intro ?_ ?_); · exact ⟨by omega, by omega⟩)
          refine ⟨d.nodes.length - (i5 + 1), by omega, i5 + 1, rfl, by omega, ?_⟩
          try simp only [ev_hit, ev_miss, Nat.reduceBEq, lpv, hl, z2, z6, z12, z13, z76, h_i5, if_true, if_false, Nat.reduceEqDiff, Nat.reduceLT, true_and, and_true]
          repeat ((with_reducible refine And.intro ?_ ?_); · trivial)
          rw [setAll_mat (by omega), mixL_set g5]
          exact ⟨rfl, fun j hj => by rw [if_neg hj]; exact hs5 j hj, hn5⟩
        · clear hA hB A B
          have hi5 : i5 = d.nodes.length := by omega
          refine vw_exit ?_
          simp only [thenV, blockV, if_true]
          refine hK21 _ _ ?_
          refine vsk fun K27 hK27 => ?_
          have hml5 := mixL_len d (colPl d) i5
          refine VW.freeze 6 (n := m) (len := d.nodes.length) (k := 1) (el := 26) (cs := (mixL d (colPl d) i5).map tInts) ?_ ?_ (by simp [hml5]) ?_
          · simp only [ev_miss, Nat.reduceBEq, z6]
          · exact hm5
          have z9 : ¬ s8.next = m := by omega
          have h12 : s1.m s8.next = _ := (hs5 _ z9).trans hx12
          have h2_ : s1.m (s.next + 1) = _ := (hs5 _ (by omega)).trans hx2
          have z8 : ¬ s.next + 1 = m := by omega
          refine vw_sc 0 [] ?_
          simp only [bs, Nat.reduceAdd, ↓vopx, ↓vop, Nat.reduceBEq, thenV, flat, Nat.reduceLT, V.cells, dLoad, vpart, hl, z2, z12, wocs, ↓goc, ↓woc, ↓vopm0, Tryd.ag25, Tryd.sz25, h12, h2_, z8, z9]
          refine hK27 _ _ ?_
          refine vw_ret ?_
          have hres : vCol (colS d) = pack [vObj (gluedS (bsS d.nodes) (colPl d)), .t (tMat (mixL d (colPl d) i5)), I 0] := by rw [hi5, mixL_end]; simp [colS, vCol, colLegs, kb, kd]; rfl
          rw [hres] at hQ
          refine hQ _ _ _ (.inr rfl) ?_
          refine done_flat (vs := [vObj (gluedS (bsS d.nodes) (colPl d)), .t (tMat (mixL d (colPl d) i5)), I 0]) ?_ rfl (by simp [pack, nm, nm2, nm1, nm0]) (fun n x hn h => by rw [m_set, if_neg (by omega), m_del, if_neg (by omega), hs5 _ (by omega)]; exact hxk n x hn h)
          show vres Tryd.prog _ _ [.cell 2 25, .tmp 3, .tmp 4] = _
          simp only [vres_cell, vres_tmp, vres_nil, ev_hit, ev_miss, Nat.reduceBEq, lpv, hl, z2, Tryd.sz25, Tryd.ag25, dLoad, m_set, vpart, if_true, Nat.reduceLT, List.drop_zero, List.take_succ_cons, List.take_zero, List.length_cons, List.length_nil, Nat.zero_add, Nat.reduceAdd]
end Go.Proofs

open Go Go.V
namespace Go.Proofs
theorem fAtL {l : List (List Int)} {k : Nat} {g : List Int} (h : l[k]? = some g) : l.getD k [] = g := by rw [List.getD_eq_getElem?_getD, h]; rfl
theorem fAtO {l : List Ob} {k : Nat} {g : Ob} (h : l[k]? = some g) : l.getD k noOb = g := by rw [List.getD_eq_getElem?_getD, h]; rfl
theorem lg_d {d : Dia} {t : Ob} {ls : List (List Int)} (h : diaS d = false) : legsS d t ls = false := by simp [legsS, h]
theorem lg_t {d : Dia} {t : Ob} {ls : List (List Int)} (h : (checkS t == 0) = false) : legsS d t ls = false := by
  unfold legsS; rw [h]; simp
theorem lg_n {d : Dia} {t : Ob} {ls : List (List Int)} (h : ¬ (ls.length : Int) = d.nodes.length) : legsS d t ls = false := by
  have : ¬ ls.length = d.nodes.length := by omega
  simp [legsS, this]
theorem lg_o {d : Dia} {t : Ob} {ls : List (List Int)} {k : Nat} {o : Ob} {g : List Int} (h1 : d.nodes[k]? = some o) (h2 : ls[k]? = some g) (h : arrS o t g = false) : legsS d t ls = false := by
  have : ((List.range d.nodes.length).all fun k => arrS (d.nodes.getD k noOb) t (ls.getD k [])) = false :=
    List.all_eq_false.2 ⟨k, List.mem_range.2 (List.getElem?_eq_some_iff.1 h1).1, by rw [fAtO h1, fAtL h2, h]; decide⟩
  unfold legsS; rw [this]; simp
theorem lg_a {d : Dia} {t : Ob} {ls : List (List Int)} {k : Nat} {x : Ar} (h1 : d.arrs[k]? = some x) (h : alS d ls x = false) : legsS d t ls = false := by
  have : (d.arrs.all (alS d ls)) = false := List.all_eq_false.2 ⟨x, List.mem_of_getElem? h1, by rw [h]; decide⟩
  simp [legsS, this]
theorem lg_ok {d : Dia} {t : Ob} {ls : List (List Int)} (h1 : diaS d = true) (h2 : (checkS t == 0) = true) (h3 : (ls.length : Int) = d.nodes.length) (h4 : ∀ (j : Nat) (o : Ob) (g : List Int), j < d.nodes.length → d.nodes[j]? = some o → ls[j]? = some g → arrS o t g = true) (h5 : ∀ (j : Nat) (x : Ar), j < d.arrs.length → d.arrs[j]? = some x → alS d ls x = true) : legsS d t ls = true := by
  have h3' : ls.length = d.nodes.length := by omega
  simp only [legsS, h1, h2, h3', decide_true, Bool.true_and, Bool.and_eq_true, List.all_eq_true, List.mem_range]
  refine ⟨fun k hk => ?_, fun x hx => ?_⟩
  · obtain ⟨o, ho⟩ : ∃ o, d.nodes[k]? = some o := ⟨_, List.getElem?_eq_getElem hk⟩
    obtain ⟨g, hg⟩ : ∃ g, ls[k]? = some g := ⟨_, List.getElem?_eq_getElem (by omega)⟩
    rw [fAtO ho, fAtL hg]; exact h4 k o g hk ho hg
  · obtain ⟨j, hj⟩ := List.getElem?_of_mem hx
    exact h5 j x (List.getElem?_eq_some_iff.1 hj).1 hj
theorem legs_iff {d : Dia} {t : Ob} {ls : List (List Int)} : legsS d t ls = true ↔ DiaOK d ∧ IsOb t ∧ ls.length = d.nodes.length ∧ (∀ (k : Nat) (o : Ob), d.nodes[k]? = some o → ∃ g, ls[k]? = some g ∧ arrS o t g = true) ∧
    ∀ x ∈ d.arrs, ∃ gf gt, ls[x.fr.toNat]? = some gf ∧ ls[x.to.toNat]? = some gt ∧ thenS x.mp gt = (gf, true) := by
  constructor
  · intro h
    simp only [legsS, Bool.and_eq_true, dia_iff, check_iff, decide_eq_true_eq, List.all_eq_true, List.mem_range] at h
    obtain ⟨h1, h2, h3, h4, h5⟩ := h
    refine ⟨h1, h2, h3, fun k o ho => ?_, fun x hx => ?_⟩
    · have hk := (List.getElem?_eq_some_iff.1 ho).1
      obtain ⟨g, hg⟩ : ∃ g, ls[k]? = some g := ⟨_, List.getElem?_eq_getElem (by omega)⟩
      have := h4 k hk
      rw [fAtO ho, fAtL hg] at this
      exact ⟨g, hg, this⟩
    · obtain ⟨a, b, f0, hA, t0, hB, _⟩ := h1.ar x hx
      have hlA := (List.getElem?_eq_some_iff.1 hA).1
      have hlB := (List.getElem?_eq_some_iff.1 hB).1
      obtain ⟨gf, hgf⟩ : ∃ g, ls[x.fr.toNat]? = some g := ⟨_, List.getElem?_eq_getElem (by omega)⟩
      obtain ⟨gt, hgt⟩ : ∃ g, ls[x.to.toNat]? = some g := ⟨_, List.getElem?_eq_getElem (by omega)⟩
      have := h5 x hx
      simp only [alS, fAtL hgf, fAtL hgt, Bool.and_eq_true, beq_iff_eq] at this
      exact ⟨gf, gt, hgf, hgt, Prod.ext this.2 this.1⟩
  · rintro ⟨h1, h2, h3, h4, h5⟩
    refine lg_ok (dia_iff.2 h1) (check_iff.2 h2) (by omega) (fun j o g _ ho hg => ?_) fun j x _ hx => ?_
    · obtain ⟨g', hg', ha⟩ := h4 j o ho
      rw [hg] at hg'; cases hg'; exact ha
    · obtain ⟨gf, gt, hgf, hgt, ht⟩ := h5 x (List.mem_of_getElem? hx)
      unfold alS; rw [fAtL hgf, fAtL hgt, ht]; simp
theorem col_le40 {d : Dia} (h : bigD d = false) : bsB d.nodes d.nodes.length ≤ 40 := by
  simp only [bigD, Bool.or_eq_false_iff, largeS, decide_eq_false_iff_not, sumT_bs _ _ (Nat.le_refl _)] at h
  omega
abbrev colOb (d : Dia) : Ob := gluedS (bsS d.nodes) (colPl d)
theorem col_cases (d : Dia) : (∃ e : Int, e ≠ 0 ∧ colS d = (noOb, [], e)) ∨ (colS d = (colOb d, colLegs d, 0) ∧ DiaOK d ∧ bsB d.nodes d.nodes.length ≤ 40) := by
  unfold colS
  by_cases h1 : bigD d = true
  · rw [if_pos h1]; exact .inl ⟨11, by decide, rfl⟩
  · rw [if_neg h1]
    by_cases h2 : diaS d = false
    · rw [if_pos h2]; exact .inl ⟨10, by decide, rfl⟩
    · rw [if_neg h2]
      exact .inr ⟨rfl, dia_iff.1 (by simpa using h2), col_le40 (by simpa using h1)⟩
theorem inc_arr {l : List Ob} (hI : ∀ o ∈ l, IsOb o) (hl : bsB l l.length ≤ 40) {k : Nat} {o : Ob} (ho : l[k]? = some o) : arrS o (bsS l) (legT o.labels.length (bsB l k)) = true := by
  have hk := (List.getElem?_eq_some_iff.1 ho).1
  have e1 := bsB_lt ho hk
  refine arr_of (hI o (List.mem_of_getElem? ho)) (bs_ob hI hl _ (Nat.le_refl _)) (legT_len _ _) (fun i y la hy hla => ?_) fun x y hm => ?_
  · have hi := (List.getElem?_eq_some_iff.1 hla).1
    rw [legT_at hi] at hy; cases hy
    have := labs_at ho hk hla
    refine ⟨la, ⟨by omega, ?_⟩, by rw [Int.toNat_natCast]; exact this, rfl⟩
    rw [bsS_lab]; omega
  · obtain ⟨b1, b2⟩ := (hI o (List.mem_of_getElem? ho)).within _ _ hm
    exact ⟨_, _, legT_at b1, legT_at b2, (bs_mx hI _ (Nat.le_refl _) _ _).2 ⟨k, o, x, y, hk, ho, rfl, rfl, hm⟩⟩
section
variable {d : Dia}
theorem DiaOK.legArr (h : DiaOK d) (hl : bsB d.nodes d.nodes.length ≤ 40) {k : Nat} {o : Ob} (ho : d.nodes[k]? = some o) : ∃ g, (colLegs d)[k]? = some g ∧ arrS o (colOb d) g = true := by
  obtain ⟨g, g1, g2, g3, g4⟩ := h.leg hl ho
  refine ⟨g, g1, ?_⟩
  have hpa : arrS (bsS d.nodes) (colOb d) (colPl d) = true := (h.gl hl).arr
  have hinc := inc_arr h.ob hl ho
  have hc := then_arr hinc hpa
  have hpl : (colPl d).length = bsB d.nodes d.nodes.length := (h.gl hl).len
  have ht := thenS_ok (f := legT o.labels.length (bsB d.nodes k)) (g := colPl d) (fun y hy => by have := map_all (arrS_iff.1 hinc).2.2.1 y hy; rw [bsS_lab] at this; omega)
  rw [ht] at g3
  rw [(Prod.mk.inj g3).1] at hc
  exact hc
theorem DiaOK.legs (h : DiaOK d) (hl : bsB d.nodes d.nodes.length ≤ 40) : legsS d (colOb d) (colLegs d) = true := by
  have hg := h.gl hl
  refine legs_iff.2 ⟨h, (arrS_iff.1 hg.arr).2.1, colLegs_len, fun k o ho => h.legArr hl ho, fun x hx => ?_⟩
  obtain ⟨a, b, f0, hA, t0, hB, ha⟩ := h.ar x hx
  obtain ⟨gf, f1, f2, _, f4⟩ := h.leg hl hA
  obtain ⟨gt, t1, t2, _, t4⟩ := h.leg hl hB
  have mm := (arrS_iff.1 ha).2.2.1
  have ml := allY_length mm
  refine ⟨gf, gt, f1, t1, ?_⟩
  rw [thenS_ok fun y hy => by have := map_all mm y hy; omega]
  congr 1
  apply List.ext_getElem?
  intro i
  rw [List.getElem?_map]
  by_cases hi : i < x.mp.length
  · obtain ⟨w, hw⟩ : ∃ w, x.mp[i]? = some w := ⟨_, List.getElem?_eq_getElem hi⟩
    have bw := map_all mm w (List.mem_of_getElem? hw)
    obtain ⟨j, j1, j2⟩ := col_at d hx hw
    have he : (colPl d)[_]? = (colPl d)[_]? := hg.eq j1 j2
    rw [Int.toNat_natCast, show (((bsB d.nodes x.to.toNat : Nat) : Int) + w).toNat = bsB d.nodes x.to.toNat + w.toNat by omega, ← f4 i (by omega), ← t4 w.toNat (by omega)] at he
    rw [hw, he, Option.map_some, List.getD_eq_getElem?_getD, List.getElem?_eq_getElem (show w.toNat < gt.length by omega)]; rfl
  · rw [List.getElem?_eq_none (by omega), List.getElem?_eq_none (by omega)]; rfl
end
end Go.Proofs

open Go Go.V
namespace Go.Proofs
structure DjI (s : Sg) (d : Dia) (t : Ob) (s' : Sg) : Prop where
  b : s'.m s.next = some (.box 62 [.t (tObjs d.nodes), .t (tArs d.arrs)])
  c : s'.m (s.next + 1) = some (.box 25 [.t (tStrs t.labels), .t (tPairs t.pairs)])
  same : ∀ j, j < s.next → s'.m j = s.m j
  nx : s.next + 1 < s'.next
theorem DjI.init (s : Sg) (d : Dia) (t : Ob) : DjI s d t ((s.add (.box 62 [.t (tObjs d.nodes), .t (tArs d.arrs)])).add (.box 25 [.t (tStrs t.labels), .t (tPairs t.pairs)])) :=
  ⟨by rw [m_add, if_neg (by simp only [n_add]; omega), m_add, if_pos rfl], by rw [m_add, if_pos (by simp only [n_add])], fun j hj => by rw [m_add, if_neg (by simp only [n_add]; omega), m_add, if_neg (by omega)], by simp only [n_add]; omega⟩
theorem DjI.add {s : Sg} {d : Dia} {t : Ob} {s' : Sg} (h : DjI s d t s') (B : Blk) : DjI s d t (s'.add B) :=
  ⟨by rw [m_add, if_neg (by have := h.nx; omega)]; exact h.b, by rw [m_add, if_neg (by have := h.nx; omega)]; exact h.c, fun j hj => by rw [m_add, if_neg (by have := h.nx; omega)]; exact h.same j hj, by rw [n_add]; have := h.nx; omega⟩
theorem DjI.set {s : Sg} {d : Dia} {t : Ob} {s' : Sg} (h : DjI s d t s') {x : Nat} (hx : s.next + 1 < x) (B : Blk) : DjI s d t (s'.set x B) :=
  ⟨by rw [m_set, if_neg (by omega)]; exact h.b, by rw [m_set, if_neg (by omega)]; exact h.c, fun j hj => by rw [m_set, if_neg (by omega)]; exact h.same j hj, h.nx⟩
theorem glq40 {d : Dia} (h : DiaOK d) (hl : bsB d.nodes d.nodes.length ≤ 40) : IsOb (colOb d) := (arrS_iff.1 (h.gl hl).arr).2.1
theorem out_cl {d : Dia} (h : DiaOK d) (hl : bsB d.nodes d.nodes.length ≤ 40) {ls : List (List Int)} (hn : ls.length = d.nodes.length) : PCall Tryd.prog 81 [I (colOb d).labels.length, .t (tMat (colLegs d)), .t (tMat ls)] (.t (tInts (outS (colOb d).labels.length (colLegs d) ls))) := by
  have h40 := (glq40 h hl).le
  have hn6 := h.n
  have hb : ∀ l ∈ colLegs d, l.length ≤ 40 ∧ ∀ y ∈ l, 0 ≤ y ∧ y < ((colOb d).labels.length : Int) := fun l hlm => by
    obtain ⟨k, hk⟩ := List.getElem?_of_mem hlm
    have hkl := (List.getElem?_eq_some_iff.1 hk).1
    rw [colLegs_len] at hkl
    obtain ⟨o, ho⟩ : ∃ o, d.nodes[k]? = some o := ⟨_, List.getElem?_eq_getElem hkl⟩
    obtain ⟨g, g1, g2⟩ := h.legArr hl ho
    rw [hk] at g1; cases g1
    have mm := (arrS_iff.1 g2).2.2.1
    have := allY_length mm
    have := (h.ob o (List.mem_of_getElem? ho)).le
    exact ⟨by omega, map_all mm⟩
  have hcl := colLegs_len (d := d)
  exact out_ _ (by omega) (colLegs d) ls (by omega) (by omega) (fun l hlm => by have := (hb l hlm).1; omega) (fun l hlm => (hb l hlm).2)
set_option maxRecDepth 20000 in
set_option maxHeartbeats 8000000 in
theorem legs_ (d : Dia) (L : DiaLim d) (t : Ob) (ls : List (List Int)) (ht1 : t.labels.length < 1000000) (ht2 : t.pairs.length < 1000000) (hl0 : ls.length < 1000000) (hls : ∀ g ∈ ls, g.length < 1000000) : PCall Tryd.prog 51 [vDia d, vObj t, .t (tMat ls)] (Bo (legsS d t ls)) := by
  refine pcall_of_body Tryd.func51 rfl fun s Q hQ => ?_
  obtain ⟨e, he, hl, h0, h1, h2⟩ : ∃ e : Env, ([vDia d, vObj t, .t (tMat ls)] ++ List.replicate (Tryd.f51.ntmps - ([vDia d, vObj t, .t (tMat ls)] : List V).length) .junk) = e ∧ e.length = 77 ∧ ev e (.tmp 0) = vDia d ∧ ev e (.tmp 1) = vObj t ∧ ev e (.tmp 2) = .t (tMat ls) := ⟨_, rfl, rfl, rfl, rfl, rfl⟩
  rw [he]
  clear he
  have Ln := L.n
  have Lm := L.m
  refine vsk fun K1 hK1 => ?_
  refine vw_sc 0 [] ?_
  simp only [bs, ↓vopx, ↓vop, Nat.reduceBEq, thenV, flat, V.cells, h0, h1, wocs, ↓goc, ↓woc, ↓vopm0]
  refine hK1 _ _ ?_
  refine vsk fun K2 hK2 => ?_
  refine vsk fun K3 hK3 => ?_
  rcases (show diaS d = false ∨ (diaS d = true ∧ (checkS t == 0) = false) ∨ (diaS d = true ∧ (checkS t == 0) = true ∧ ¬ (ls.length : Int) = d.nodes.length) ∨ (diaS d = true ∧ (checkS t == 0) = true ∧ (ls.length : Int) = d.nodes.length) by cases diaS d <;> cases (checkS t == 0) <;> simp <;> omega) with r1 | ⟨r1, r2⟩ | ⟨r1, r2, r3⟩ | ⟨r1, r2, r3⟩
  · refine vw_sc 0 [.pur (Bo (diaS d))] ?_
    simp only [bs, Nat.reduceAdd, ↓vopx, ↓vop, Nat.reduceBEq, thenV, flat, Nat.reduceLT, dLoad, vpart, gtmp, hl, wocs, ↓goc, ↓woc, ↓vopm0, ↓callC, ↓pick_tf, calleeV, Tryd.ag62, Tryd.sz62, nns, r1]
    repeat ((with_reducible refine And.intro ?_ ?_); · exact ⟨Tryd.is82, by simpa only [r1] using isDia_ d L⟩)
    refine hK3 _ _ ?_
    refine vck fun A B hA hB => ?_
    simp only [condV, ev_hit, lpv, Nat.reduceLT, true_implies, reduceCtorEq, false_implies, and_true, hl]
    refine hA ?_
    clear hA hB A B
    refine vsk fun K4 hK4 => ?_
    refine vw_sc 0 [] ?_
    simp only [bs, ↓vopx, ↓vop, thenV, flat, wocs, ↓goc, ↓woc, ↓vopm0]
    refine hK4 _ _ ?_
    refine vw_ret ?_
    rw [show legsS d t ls = false from lg_d r1] at hQ
    refine hQ _ _ _ (.inr rfl) (done_tmp ?_ fun n b hn h => by rw [m_add, if_neg (by simp only [n_add]; omega), m_add, if_neg (by omega)]; exact h)
    try simp only [ev_hit, lpv, hl, Nat.reduceLT]
  · refine vw_sc 0 [.pur (Bo (diaS d)), .pur (Bo (checkS t == 0))] ?_
    simp only [bs, Nat.reduceAdd, ↓vopx, ↓vop, Nat.reduceBEq, thenV, flat, Nat.reduceLT, dLoad, vpart, gtmp, hl, wocs, ↓goc, ↓woc, ↓vopm0, ↓callC, ↓pick_ff, ↓pick_tf, calleeV, Tryd.ag25, Tryd.ag62, Tryd.sz25, Tryd.sz62, nns, r1, r2]
    repeat ((with_reducible refine And.intro ?_ ?_); · first | exact ⟨Tryd.is82, by simpa only [r1] using isDia_ d L⟩ | exact ⟨Tryd.is70, by simpa only [r2] using isOb_ t (by omega) (by omega)⟩)
    refine hK3 _ _ ?_
    refine vck fun A B hA hB => ?_
    simp only [condV, ev_hit, lpv, Nat.reduceLT, true_implies, reduceCtorEq, false_implies, and_true, hl]
    refine hA ?_
    clear hA hB A B
    refine vsk fun K5 hK5 => ?_
    refine vw_sc 0 [] ?_
    simp only [bs, ↓vopx, ↓vop, thenV, flat, wocs, ↓goc, ↓woc, ↓vopm0]
    refine hK5 _ _ ?_
    refine vw_ret ?_
    rw [show legsS d t ls = false from lg_t r2] at hQ
    refine hQ _ _ _ (.inr rfl) (done_tmp ?_ fun n b hn h => by rw [m_add, if_neg (by simp only [n_add]; omega), m_add, if_neg (by omega)]; exact h)
    try simp only [ev_hit, lpv, hl, Nat.reduceLT]
  · refine vw_sc 0 [.pur (Bo (diaS d)), .pur (Bo (checkS t == 0))] ?_
    simp only [bs, Nat.reduceAdd, ↓vopx, ↓vop, Nat.reduceBEq, thenV, flat, Nat.reduceLT, dLoad, vpart, opII, gtmp, hl, h2, wocs, ↓goc, ↓woc, ↓vopm0, ↓callC, ↓pick_ff, calleeV, Tryd.ag25, Tryd.ag59, Tryd.ag62, Tryd.fd62_0, Tryd.sz25, Tryd.sz59, Tryd.sz62, Tryd.un59, len_tObjs, len_tMat, nns, r1, r2]
    repeat ((with_reducible refine And.intro ?_ ?_); · first | exact ⟨Tryd.is82, by simpa only [r1] using isDia_ d L⟩ | exact ⟨Tryd.is70, by simpa only [r2] using isOb_ t (by omega) (by omega)⟩)
    refine hK3 _ _ ?_
    refine vck fun A B hA hB => ?_
    simp only [condV, ev_hit, lpv, Nat.reduceLT, bne_iff_ne, bne_eq_false_iff_eq, ne_eq, true_implies, false_implies, and_true, hl, r3, not_false_eq_true, false_implies, true_implies, and_true]
    refine hA ?_
    clear hA hB A B
    refine vsk fun K6 hK6 => ?_
    refine vw_sc 0 [] ?_
    simp only [bs, ↓vopx, ↓vop, thenV, flat, wocs, ↓goc, ↓woc, ↓vopm0]
    refine hK6 _ _ ?_
    refine vw_ret ?_
    rw [show legsS d t ls = false from lg_n r3] at hQ
    refine hQ _ _ _ (.inr rfl) (done_tmp ?_ fun n b hn h => by rw [m_add, if_neg (by simp only [n_add]; omega), m_add, if_neg (by omega)]; exact h)
    try simp only [ev_hit, lpv, hl, Nat.reduceLT]
  · refine vw_sc 0 [.pur (Bo (diaS d)), .pur (Bo (checkS t == 0))] ?_
    simp only [bs, Nat.reduceAdd, ↓vopx, ↓vop, Nat.reduceBEq, thenV, flat, Nat.reduceLT, dLoad, vpart, opII, gtmp, hl, h2, wocs, ↓goc, ↓woc, ↓vopm0, ↓callC, ↓pick_ff, calleeV, Tryd.ag25, Tryd.ag59, Tryd.ag62, Tryd.fd62_0, Tryd.sz25, Tryd.sz59, Tryd.sz62, Tryd.un59, len_tObjs, len_tMat, nns, r1, r2, r3]
    repeat ((with_reducible refine And.intro ?_ ?_); · first | exact ⟨Tryd.is82, by simpa only [r1] using isDia_ d L⟩ | exact ⟨Tryd.is70, by simpa only [r2] using isOb_ t (by omega) (by omega)⟩)
    refine hK3 _ _ ?_
    refine vck fun A B hA hB => ?_
    simp only [condV, ev_hit, lpv, Nat.reduceLT, bne_iff_ne, bne_eq_false_iff_eq, ne_eq, true_implies, false_implies, true_and, hl, not_true_eq_false, false_implies, true_implies, true_and]
    refine hB ?_
    clear hA hB A B
    refine vw_skip ?_
    refine hK2 _ _ ?_
    refine vsk fun K7 hK7 => ?_
    refine vsk fun K8 hK8 => ?_
    refine vw_sc 0 [] ?_
    simp only [bs, ↓vopx, ↓vop, Nat.reduceBEq, thenV, flat, Nat.reduceLT, dLoad, vpart, hl, wocs, ↓goc, ↓woc, ↓vopm0, Tryd.ag59, Tryd.fd62_0, Tryd.sz59, Tryd.un59, len_tObjs, nns]
    refine hK8 _ _ ?_
    refine vw_block ?_
    refine vw_loop (fun mm e' s' => ∃ k : Nat, mm = d.nodes.length - k ∧ k ≤ d.nodes.length ∧ e'.length = 77 ∧ ev e' (.tmp 2) = .t (tMat ls) ∧ ev e' (.tmp 3) = .ptr s.next 0 ∧ ev e' (.tmp 4) = .ptr (s.next + 1) 0 ∧ ev e' (.tmp 30) = .t (tObjs d.nodes) ∧ ev e' (.tmp 31) = I d.nodes.length ∧ ev e' (.tmp 32) = I k ∧ DjI s d t s' ∧ ∀ (j : Nat) (o : Ob) (g : List Int), j < k → d.nodes[j]? = some o → ls[j]? = some g → arrS o t g = true) (⟨0, rfl, Nat.zero_le _, ?_⟩) ?_
    · try simp only [ev_hit, ev_miss, Nat.reduceBEq, lpv, hl, h2, Nat.reduceLT, true_and]
      repeat ((with_reducible refine And.intro ?_ ?_); · trivial)
      exact ⟨DjI.init s d t, fun j o g hj _ _ => absurd hj (by omega)⟩
    rintro mm e s1 ⟨k, rfl, hle_k, hl, k2, k3, k4, k30, k31, h_k, hst, hal1⟩
    refine vsk fun K9 hK9 => ?_
    refine vw_sc 0 [] ?_
    simp only [thenV, opII, k31, h_k, wocs, ↓goc, ↓woc]
    refine hK9 _ _ ?_
    refine vsk fun K10 hK10 => ?_
    refine vck fun A B hA hB => ?_
    simp only [condV, ev_hit, Nat.reduceLT, decide_eq_true_eq, decide_eq_false_iff_not, hl]
    refine ⟨fun hc33 => hA ?_, fun hc33 => hB ?_⟩
    · clear hA hB A B
      refine vw_skip ?_
      refine hK10 _ _ ?_
      refine vsk fun K11 hK11 => ?_
      refine vw_block ?_
      refine vsk fun K12 hK12 => ?_
      have hlt : k < d.nodes.length := by omega
      obtain ⟨o, ho⟩ : ∃ o, d.nodes[k]? = some o := ⟨_, List.getElem?_eq_getElem hlt⟩
      have g0 := dropO ho
      have hfl := flatO_length d.nodes
      have hi2 : k * 2 < d.nodes.length * 2 := by omega
      refine vw_sc 0 [] ?_
      simp only [bs, Nat.reduceAdd, ↓vopx, ↓vop, Nat.reduceBEq, thenV, Nat.reduceLT, V.cells, dLoad, vpart, hl, k30, h_k, wocs, ↓goc, ↓woc, ↓vopm0, Tryd.ag25, Tryd.sz25, Tryd.un59, Tryd.zv25, g0, hfl, hi2]
      refine hK12 _ _ ?_
      refine vsk fun K13 hK13 => ?_
      refine vw_env2 fun e2 sb hE2 hSb => ?_
      subst hE2
      have hIb : DjI s d t sb := by rw [hSb]; exact (hst.add _).set hst.nx _
      have hbx : sb.m s1.next = some (.box 25 [.t (tStrs o.labels), .t (tPairs o.pairs)]) := by rw [hSb]; simp only [m_set, if_true]; try rfl
      clear hSb
      have hbt := hIb.c
      have o1 := L.o1 o (List.mem_of_getElem? ho)
      have o2 := L.o2 o (List.mem_of_getElem? ho)
      obtain ⟨g, hg⟩ : ∃ g, ls[k]? = some g := ⟨_, List.getElem?_eq_getElem (by omega)⟩
      have hgl := hls g (List.mem_of_getElem? hg)
      refine vw_chain Tryd.mixed 6 [1, 1, 0, 0, 1, 1] [.pur (Bo (arrS o t g))] [] 0 (by decide +kernel) (by simp [lpv, hl]) rfl ?_
      simp only [bs, Nat.reduceAdd, ↓vopx, ↓vop, Nat.reduceBEq, thenV, Nat.reduceLT, dLoad, vpart, hl, k2, k4, wocs, ↓goc, ↓woc, ↓vopm0, ↓vopm1, ↓callC, calleeV, chn, ↓goq, ↓woq, List.zip_cons_cons, List.zip_nil_right, Tryd.ag25, Tryd.ag26, Tryd.sz25, Tryd.sz26, Tryd.un63, hbx, hbt, hg]
      repeat ((with_reducible refine And.intro ?_ ?_); · first | omega | exact ⟨Tryd.is34, arrow_ o t g (by omega) (by omega) (by omega) (by omega) (by omega)⟩)
      refine hK13 _ _ ?_
      refine vck fun A B hA hB => ?_
      simp only [condV, ev_hit, lpv, Nat.reduceLT, Bool.not_eq_true', Bool.not_eq_false', hl]
      refine ⟨fun hc44 => hA ?_, fun hc44 => hB ?_⟩
      · clear hA hB A B
        refine vsk fun K14 hK14 => ?_
        refine vw_sc 0 [] ?_
        simp only [bs, ↓vopx, ↓vop, thenV, flat, wocs, ↓goc, ↓woc, ↓vopm0]
        refine hK14 _ _ ?_
        refine vw_ret ?_
        rw [show legsS d t ls = false from lg_o ho hg hc44] at hQ
        refine hQ _ _ _ (.inr rfl) (done_tmp ?_ fun n b hn h => (hIb.same n hn).trans h)
        try simp only [ev_hit, lpv, hl, Nat.reduceLT]
      · clear hA hB A B
        refine vw_skip ?_
        refine hK11 _ _ ?_
        refine vw_sc 0 [] ?_
        simp only [bs, ↓vopx, ↓vop, Nat.reduceBEq, thenV, flat, Nat.reduceLT, opII, hl, k2, k3, k4, k30, k31, h_k, wocs, ↓goc, ↓woc, ↓vopm0]
        repeat ((with_reducible refine And.intro ?_ ?_); · exact ⟨by omega, by omega⟩)
        refine ⟨d.nodes.length - (k + 1), by omega, k + 1, rfl, by omega, ?_⟩
        try simp only [ev_hit, ev_miss, Nat.reduceBEq, lpv, hl, k2, k3, k4, k30, k31, h_k, if_true, if_false, Nat.reduceEqDiff, Nat.reduceLT, true_and, and_true]
        repeat ((with_reducible refine And.intro ?_ ?_); · trivial)
        intro j o2 g2 hj ho2 hg2
        rcases Nat.lt_succ_iff_lt_or_eq.1 hj with h | h
        · exact hal1 j o2 g2 h ho2 hg2
        · subst h; rw [ho] at ho2; cases ho2; rw [hg] at hg2; cases hg2; exact hc44
    · clear hA hB A B
      have hka : k = d.nodes.length := by omega
      refine vw_exit ?_
      simp only [thenV, blockV, if_true]
      refine hK7 _ _ ?_
      refine vsk fun K15 hK15 => ?_
      refine vsk fun K16 hK16 => ?_
      have hb62 := hst.b
      refine vw_sc 0 [] ?_
      simp only [bs, ↓vopx, ↓vop, Nat.reduceBEq, thenV, flat, Nat.reduceLT, dLoad, vpart, hl, k3, wocs, ↓goc, ↓woc, ↓vopm0, Tryd.ag60, Tryd.fd62_1, Tryd.sz60, Tryd.un60, len_tArs, nns, hb62]
      refine hK16 _ _ ?_
      refine vw_block ?_
      refine vw_loop (fun mm e' s' => ∃ k : Nat, mm = d.arrs.length - k ∧ k ≤ d.arrs.length ∧ e'.length = 77 ∧ ev e' (.tmp 2) = .t (tMat ls) ∧ ev e' (.tmp 3) = .ptr s.next 0 ∧ ev e' (.tmp 4) = .ptr (s.next + 1) 0 ∧ ev e' (.tmp 47) = .t (tArs d.arrs) ∧ ev e' (.tmp 48) = I d.arrs.length ∧ ev e' (.tmp 49) = I k ∧ DjI s d t s' ∧ ∀ (j : Nat) (x : Ar), j < k → d.arrs[j]? = some x → alS d ls x = true) (⟨0, rfl, Nat.zero_le _, ?_⟩) ?_
      · try simp only [ev_hit, ev_miss, Nat.reduceBEq, lpv, hl, k2, k3, k4, Nat.reduceLT, true_and]
        repeat ((with_reducible refine And.intro ?_ ?_); · trivial)
        exact fun j x hj _ => absurd hj (by omega)
      rintro mm e s1 ⟨k, rfl, hle_k, hl, q2, q3, q4, q47, q48, h_k, hst, hal2⟩
      refine vsk fun K17 hK17 => ?_
      refine vw_sc 0 [] ?_
      simp only [thenV, opII, q48, h_k, wocs, ↓goc, ↓woc]
      refine hK17 _ _ ?_
      refine vsk fun K18 hK18 => ?_
      refine vck fun A B hA hB => ?_
      simp only [condV, ev_hit, Nat.reduceLT, decide_eq_true_eq, decide_eq_false_iff_not, hl]
      refine ⟨fun hc50 => hA ?_, fun hc50 => hB ?_⟩
      · clear hA hB A B
        refine vw_skip ?_
        refine hK18 _ _ ?_
        refine vsk fun K19 hK19 => ?_
        refine vw_block ?_
        refine vsk fun K20 hK20 => ?_
        have hlt : k < d.arrs.length := by omega
        obtain ⟨x, hx⟩ : ∃ x, d.arrs[k]? = some x := ⟨_, List.getElem?_eq_getElem hlt⟩
        have g0 := dropA hx
        have hfl := flatA_length d.arrs
        have hi2 : k * 3 < d.arrs.length * 3 := by omega
        refine vw_sc 0 [] ?_
        simp only [bs, Nat.reduceAdd, ↓vopx, ↓vop, Nat.reduceBEq, thenV, Nat.reduceLT, V.cells, dLoad, vpart, hl, q47, h_k, wocs, ↓goc, ↓woc, ↓vopm0, Tryd.ag72, Tryd.sz72, Tryd.un60, Tryd.zv72, g0, hfl, hi2]
        refine hK20 _ _ ?_
        refine vsk fun K21 hK21 => ?_
        refine vw_env2 fun e2 sb hE2 hSb => ?_
        subst hE2
        have hIb : DjI s d t sb := by rw [hSb]; exact (hst.add _).set hst.nx _
        have hbx : sb.m s1.next = some (.box 72 [.t (TI x.fr), .t (TI x.to), .t (tInts x.mp)]) := by rw [hSb]; simp only [m_set, if_true]; try rfl
        clear hSb
        have la := L.a x (List.mem_of_getElem? hx)
        obtain ⟨a, b, f0, hA, t0, hB, hab⟩ := (dia_iff.1 r1).ar x (List.mem_of_getElem? hx)
        have hlA := (List.getElem?_eq_some_iff.1 hA).1
        have hlB := (List.getElem?_eq_some_iff.1 hB).1
        obtain ⟨gf, hgf⟩ : ∃ g, ls[x.fr.toNat]? = some g := ⟨_, List.getElem?_eq_getElem (by omega)⟩
        obtain ⟨gt, hgt⟩ : ∃ g, ls[x.to.toNat]? = some g := ⟨_, List.getElem?_eq_getElem (by omega)⟩
        have hgtl := hls gt (List.mem_of_getElem? hgt)
        have hgfl := hls gf (List.mem_of_getElem? hgf)
        have hal : alS d ls x = ((thenS x.mp gt).2 && ((thenS x.mp gt).1 == gf)) := by unfold alS; rw [fAtL hgf, fAtL hgt]
        have htl := thenS_le x.mp gt
        refine vw_chain Tryd.mixed 12 [0, 1, 0, 0, 1, 1, 1, 0, 0, 0, 0, 0] [.pur (.tup [.t (tInts (thenS x.mp gt).1), Bo (thenS x.mp gt).2])] [] 0 (by decide +kernel) (by simp [lpv, hl]) rfl ?_
        simp only [bs, ↓vopx, ↓vop, Nat.reduceBEq, thenV, Nat.reduceLT, dLoad, vpart, hl, q2, wocs, ↓goc, ↓woc, ↓vopm0, ↓vopm1, calleeV, chn, ↓goq, ↓woq, ↓callQ, List.zip_cons_cons, List.zip_nil_right, Tryd.ag26, Tryd.ag3, Tryd.fd72_1, Tryd.fd72_2, Tryd.sz26, Tryd.sz3, Tryd.un63, nns, hbx, hgt]
        repeat ((with_reducible refine And.intro ?_ ?_); · first | (with_reducible assumption) | omega | exact ⟨Tryd.is32, then_ x.mp gt (by omega) (by omega)⟩)
        refine hK21 _ _ ?_
        refine vsk fun K22 hK22 => ?_
        rcases (show (thenS x.mp gt).2 = false ∨ (thenS x.mp gt).2 = true by cases (thenS x.mp gt).2 <;> simp) with r4 | r4
        · refine vw_sc 0 [] ?_
          simp only [bs, ↓vopx, ↓vop, Nat.reduceBEq, thenV, flat, Nat.reduceLT, gtmp, hl, wocs, ↓goc, ↓woc, ↓vopm0, ↓pick_tf, r4]
          refine hK22 _ _ ?_
          refine vck fun A B hA hB => ?_
          simp only [condV, ev_hit, lpv, Nat.reduceLT, true_implies, reduceCtorEq, false_implies, and_true, hl]
          refine hA ?_
          clear hA hB A B
          refine vsk fun K23 hK23 => ?_
          refine vw_sc 0 [] ?_
          simp only [bs, ↓vopx, ↓vop, thenV, flat, wocs, ↓goc, ↓woc, ↓vopm0]
          refine hK23 _ _ ?_
          refine vw_ret ?_
          rw [show legsS d t ls = false from lg_a hx (by rw [hal, r4]; rfl)] at hQ
          refine hQ _ _ _ (.inr rfl) (done_tmp ?_ fun n b hn h => (hIb.same n hn).trans h)
          try simp only [ev_hit, lpv, hl, Nat.reduceLT]
        · refine vw_sc 0 [.pur (Bo ((thenS x.mp gt).1 == gf))] ?_
          simp only [bs, ↓vopx, ↓vop, Nat.reduceBEq, thenV, flat, Nat.reduceLT, dLoad, vpart, gtmp, hl, q2, wocs, ↓goc, ↓woc, ↓vopm0, ↓callC, ↓pick_ff, calleeV, Tryd.ag26, Tryd.ag3, Tryd.fd72_0, Tryd.sz26, Tryd.sz3, Tryd.un63, nns, hbx, hgf, r4]
          repeat ((with_reducible refine And.intro ?_ ?_); · first | (with_reducible assumption) | omega | exact ⟨Tryd.is33, arrowSame_ (thenS x.mp gt).1 gf (by omega) (by omega)⟩)
          refine hK22 _ _ ?_
          refine vck fun A B hA hB => ?_
          simp only [condV, ev_hit, lpv, Nat.reduceLT, Bool.not_eq_true', Bool.not_eq_false', beq_iff_eq, beq_eq_false_iff_ne, ne_eq, hl]
          refine ⟨fun hc75 => hA ?_, fun hc75 => hB ?_⟩
          · clear hA hB A B
            refine vsk fun K24 hK24 => ?_
            refine vw_sc 0 [] ?_
            simp only [bs, ↓vopx, ↓vop, thenV, flat, wocs, ↓goc, ↓woc, ↓vopm0]
            refine hK24 _ _ ?_
            refine vw_ret ?_
            rw [show legsS d t ls = false from lg_a hx (by rw [hal, r4]; simp [hc75])] at hQ
            refine hQ _ _ _ (.inr rfl) (done_tmp ?_ fun n b hn h => (hIb.same n hn).trans h)
            try simp only [ev_hit, lpv, hl, Nat.reduceLT]
          · clear hA hB A B
            refine vw_skip ?_
            refine hK19 _ _ ?_
            refine vw_sc 0 [] ?_
            simp only [bs, ↓vopx, ↓vop, Nat.reduceBEq, thenV, flat, Nat.reduceLT, opII, hl, q2, q3, q4, q47, q48, h_k, wocs, ↓goc, ↓woc, ↓vopm0]
            repeat ((with_reducible refine And.intro ?_ ?_); · exact ⟨by omega, by omega⟩)
            refine ⟨d.arrs.length - (k + 1), by omega, k + 1, rfl, by omega, ?_⟩
            try simp only [ev_hit, ev_miss, Nat.reduceBEq, lpv, hl, q2, q3, q4, q47, q48, h_k, if_true, if_false, Nat.reduceEqDiff, Nat.reduceLT, true_and, and_true]
            repeat ((with_reducible refine And.intro ?_ ?_); · trivial)
            intro j x2 hj hx2
            rcases Nat.lt_succ_iff_lt_or_eq.1 hj with h | h
            · exact hal2 j x2 h hx2
            · subst h; rw [hx] at hx2; cases hx2; rw [hal, r4]; simp [hc75]
      · clear hA hB A B
        have hkb : k = d.arrs.length := by omega
        refine vw_exit ?_
        simp only [thenV, blockV, if_true]
        refine hK15 _ _ ?_
        refine vsk fun K25 hK25 => ?_
        refine vw_sc 0 [] ?_
        simp only [bs, ↓vopx, ↓vop, thenV, flat, wocs, ↓goc, ↓woc, ↓vopm0]
        refine hK25 _ _ ?_
        refine vw_ret ?_
        rw [lg_ok r1 r2 r3 (by rw [← hka]; exact hal1) (by rw [← hkb]; exact hal2)] at hQ
        refine hQ _ _ _ (.inr rfl) (done_tmp ?_ fun n b hn h => (hst.same n hn).trans h)
        try simp only [ev_hit, lpv, hl, Nat.reduceLT]
set_option maxRecDepth 20000 in
set_option maxHeartbeats 8000000 in
theorem mediateD_ (d : Dia) (L : DiaLim d) (hp2 : ∀ o ∈ d.nodes, o.pairs.length ≤ 1000) (t : Ob) (ls : List (List Int)) (ht1 : t.labels.length < 1000000) (ht2 : t.pairs.length < 1000000) (hl0 : ls.length < 1000000) (hls : ∀ g ∈ ls, g.length < 1000000) : PCall Tryd.prog 49 [vDia d, vObj t, .t (tMat ls)] (vMed (medD d t ls)) := by
  refine pcall_of_body Tryd.func49 rfl fun s Q hQ => ?_
  obtain ⟨e, he, hl, h0, h1, h2⟩ : ∃ e : Env, ([vDia d, vObj t, .t (tMat ls)] ++ List.replicate (Tryd.f49.ntmps - ([vDia d, vObj t, .t (tMat ls)] : List V).length) .junk) = e ∧ e.length = 38 ∧ ev e (.tmp 0) = vDia d ∧ ev e (.tmp 1) = vObj t ∧ ev e (.tmp 2) = .t (tMat ls) := ⟨_, rfl, rfl, rfl, rfl, rfl⟩
  rw [he]
  clear he
  refine vsk fun K1 hK1 => ?_
  refine vw_sc 0 [] ?_
  simp only [bs, ↓vopx, ↓vop, Nat.reduceBEq, thenV, flat, V.cells, h0, h1, wocs, ↓goc, ↓woc, ↓vopm0]
  refine hK1 _ _ ?_
  refine vsk fun K2 hK2 => ?_
  refine vw_en fun eqa hE => ?_
  obtain ⟨hlqa, qa_2, qa_3, qa_4⟩ : eqa.length = 38 ∧ ev eqa (.tmp 2) = .t (tMat ls) ∧ ev eqa (.tmp 3) = .ptr s.next 0 ∧ ev eqa (.tmp 4) = .ptr (s.next + 1) 0 := by
    (repeat' (with_reducible refine And.intro ?_ ?_)) <;> (rw [hE]; simp only [lpv, hl, ev_miss, Nat.reduceBEq, h2, ev_hit, Nat.reduceLT])
  clear hE
  refine vw_st fun sqa hS => ?_
  obtain ⟨qaB0, qaB1, hnqa⟩ : sqa.m (s.next) = some (.box 62 [.t (tObjs d.nodes), .t (tArs d.arrs)]) ∧ sqa.m (s.next + 1) = some (.box 25 [.t (tStrs t.labels), .t (tPairs t.pairs)]) ∧ sqa.next = s.next + 1 + 1 := by
    (repeat' (with_reducible refine And.intro ?_ ?_)) <;> (rw [hS]; simp only [m_add, n_add, nns, if_true, if_false])
  have hkqa : ∀ j, j < s.next → sqa.m j = s.m j := fun j hj => by have z0 : ¬ j = s.next := (by omega); have z1 : ¬ j = s.next + 1 := (by omega); rw [hS]; simp only [m_add, n_add, z0, z1, if_false]
  clear hS
  obtain ⟨q, own, ec, hR⟩ : ∃ q own ec, colS d = (q, own, ec) := ⟨_, _, _, rfl⟩
  have hcs := col_cases d
  have hm0 : medD d t ls = if ec ≠ 0 then ([], ec) else if 40 < t.labels.length then ([], 11) else if legsS d t ls = false then ([], 12) else (outS q.labels.length own ls, 0) := by unfold medD; rw [hR]
  rw [hR] at hcs
  refine vw_sc 0 [.pur (.tup [vObj q, .t (tMat own), I ec])] ?_
  simp only [bs, Nat.reduceAdd, ↓vopx, ↓vop, Nat.reduceBEq, thenV, Nat.reduceLT, V.cells, dLoad, vpart, hlqa, qa_3, qaB0, hnqa, wocs, ↓goc, ↓woc, ↓vopm0, ↓callC, calleeV, Tryd.ag62, Tryd.sz25, Tryd.sz62, Tryd.zv25]
  repeat ((with_reducible refine And.intro ?_ ?_); · exact ⟨Tryd.is50, by have := colOf_ d L hp2; rw [hR] at this; exact this⟩)
  refine hK2 _ _ ?_
  refine vsk fun K3 hK3 => ?_
  refine vw_block ?_
  refine vsk fun K4 hK4 => ?_
  refine vw_en fun eqb hE => ?_
  obtain ⟨hlqb, qb_2, qb_3, qb_4, qb_8, qb_9, qb_10⟩ : eqb.length = 38 ∧ ev eqb (.tmp 2) = .t (tMat ls) ∧ ev eqb (.tmp 3) = .ptr s.next 0 ∧ ev eqb (.tmp 4) = .ptr (s.next + 1) 0 ∧ ev eqb (.tmp 8) = .ptr (s.next + 1 + 1) 0 ∧ ev eqb (.tmp 9) = .t (tMat own) ∧ ev eqb (.tmp 10) = I ec := by
    (repeat' (with_reducible refine And.intro ?_ ?_)) <;> (rw [hE]; simp only [lpv, hlqa, ev_miss, Nat.reduceBEq, qa_2, qa_3, qa_4, ev_hit, Nat.reduceLT])
  clear hE
  refine vw_st fun sqb hS => ?_
  obtain ⟨qbB0, qbB1, qbB2, hnqb⟩ : sqb.m (s.next) = some (.box 62 [.t (tObjs d.nodes), .t (tArs d.arrs)]) ∧ sqb.m (s.next + 1) = some (.box 25 [.t (tStrs t.labels), .t (tPairs t.pairs)]) ∧ sqb.m (s.next + 1 + 1) = some (.box 25 [.t (tStrs q.labels), .t (tPairs q.pairs)]) ∧ sqb.next = s.next + 1 + 1 + 1 := by
    (repeat' (with_reducible refine And.intro ?_ ?_)) <;> (rw [hS]; simp only [m_set, m_add, nns, if_false, qaB0, hnqa, qaB1, if_true, n_add, n_set])
  have hkqb : ∀ j, j < s.next → sqb.m j = s.m j := fun j hj => by have z0 : ¬ j = s.next := (by omega); have z1 : ¬ j = s.next + 1 := (by omega); have z2 : ¬ j = s.next + 1 + 1 := (by omega); rw [hS]; simp only [m_set, m_add, hnqa, z2, if_false, hkqa j hj]
  clear hS
  rcases hcs with ⟨e, he0, hcs⟩ | ⟨hcs, hD, h40⟩
  · obtain ⟨rfl, rfl, rfl⟩ : q = noOb ∧ own = [] ∧ ec = e := by simpa only [Prod.mk.injEq] using hcs
    refine vw_sc 0 [] ?_
    simp only [bs, ↓vopx, ↓vop, thenV, flat, Nat.reduceLT, opII, hlqb, qb_10, wocs, ↓goc, ↓woc, ↓vopm0]
    refine hK4 _ _ ?_
    refine vck fun A B hA hB => ?_
    simp only [condV, ev_hit, lpv, Nat.reduceLT, bne_iff_ne, bne_eq_false_iff_eq, ne_eq, true_implies, false_implies, and_true, hlqb, he0, not_false_eq_true]
    refine hA ?_
    clear hA hB A B
    refine vsk fun K5 hK5 => ?_
    refine vw_sc 0 [] ?_
    simp only [bs, ↓vopx, ↓vop, Nat.reduceBEq, thenV, flat, Nat.reduceLT, hlqb, qb_10, wocs, ↓goc, ↓woc, ↓vopm0]
    refine hK5 _ _ ?_
    refine vw_ret ?_
    rw [show medD d t ls = ([], ec) from by rw [hm0, if_pos he0]] at hQ
    refine hQ _ _ _ (.inr rfl) (done_nil_pair (by omega) ?_ ?_ fun n b hn h => (hkqb n hn).trans h)
    · simp only [ev_hit, ev_miss, Nat.reduceBEq, lpv, hlqb, Nat.reduceLT]
    · simp only [ev_hit, lpv, hlqb, Nat.reduceLT]; try rfl
  · obtain ⟨rfl, rfl, rfl⟩ : q = colOb d ∧ own = colLegs d ∧ ec = 0 := by simpa only [Prod.mk.injEq] using hcs
    refine vw_sc 0 [] ?_
    simp only [bs, ↓vopx, ↓vop, thenV, flat, Nat.reduceLT, opII, hlqb, qb_10, wocs, ↓goc, ↓woc, ↓vopm0]
    refine hK4 _ _ ?_
    refine vck fun A B hA hB => ?_
    simp only [condV, ev_hit, lpv, Nat.reduceLT, bne_iff_ne, bne_eq_false_iff_eq, ne_eq, true_implies, false_implies, true_and, hlqb, not_true_eq_false]
    refine hB ?_
    clear hA hB A B
    refine vsk fun K6 hK6 => ?_
    rcases (show (t.labels.length : Int) > 40 ∨ ¬ (t.labels.length : Int) > 40 by omega) with hd0 | hd0
    · refine vw_sc 0 [] ?_
      simp only [bs, ↓vopx, ↓vop, Nat.reduceBEq, thenV, flat, Nat.reduceLT, dLoad, vpart, opII, hlqb, qb_4, qbB1, wocs, ↓goc, ↓woc, ↓vopm0, Tryd.ag22, Tryd.fd25_0, Tryd.sz22, Tryd.un22, len_tStrs, nns, hd0]
      refine hK6 _ _ ?_
      refine vck fun A B hA hB => ?_
      simp only [condV, ev_hit, lpv, Nat.reduceLT, true_implies, reduceCtorEq, false_implies, and_true, hlqb]
      refine hA ?_
      clear hA hB A B
      refine vsk fun K7 hK7 => ?_
      refine vw_sc 0 [] ?_
      simp only [bs, ↓vopx, ↓vop, thenV, flat, wocs, ↓goc, ↓woc, ↓vopm0]
      refine hK7 _ _ ?_
      refine vw_ret ?_
      rw [show medD d t ls = ([], 11) from by rw [hm0, if_neg (by simp), if_pos (by omega)]] at hQ
      refine hQ _ _ _ (.inr rfl) (done_nil_pair (by omega) ?_ ?_ fun n b hn h => (hkqb n hn).trans h)
      · simp only [ev_hit, ev_miss, Nat.reduceBEq, lpv, hlqb, Nat.reduceLT]
      · simp only [ev_hit, lpv, hlqb, Nat.reduceLT]; try rfl
    · refine vw_sc 0 [] ?_
      simp only [bs, ↓vopx, ↓vop, Nat.reduceBEq, thenV, flat, Nat.reduceLT, dLoad, vpart, opII, hlqb, qb_4, qbB1, wocs, ↓goc, ↓woc, ↓vopm0, Tryd.ag22, Tryd.fd25_0, Tryd.sz22, Tryd.un22, len_tStrs, nns, hd0]
      refine hK6 _ _ ?_
      refine vck fun A B hA hB => ?_
      simp only [condV, ev_hit, lpv, Nat.reduceLT, true_implies, reduceCtorEq, false_implies, true_and, hlqb]
      refine hB ?_
      clear hA hB A B
      refine vsk fun K8 hK8 => ?_
      rcases (show legsS d t ls = false ∨ legsS d t ls = true by cases legsS d t ls <;> simp) with hc0 | hc0
      · refine vw_sc 0 [.pur (Bo (legsS d t ls))] ?_
        simp only [bs, Nat.reduceAdd, ↓vopx, ↓vop, Nat.reduceBEq, thenV, Nat.reduceLT, dLoad, vpart, hlqb, qb_2, qb_3, qb_4, qbB0, qbB1, wocs, ↓goc, ↓woc, ↓vopm0, ↓callC, calleeV, Tryd.ag25, Tryd.ag62, Tryd.sz25, Tryd.sz62, hc0]
        repeat ((with_reducible refine And.intro ?_ ?_); · exact ⟨Tryd.is51, by simpa only [hc0] using legs_ d L t ls ht1 ht2 hl0 hls⟩)
        refine hK8 _ _ ?_
        refine vck fun A B hA hB => ?_
        simp only [condV, ev_hit, lpv, Nat.reduceLT, true_implies, reduceCtorEq, false_implies, and_true, hlqb]
        refine hA ?_
        clear hA hB A B
        refine vsk fun K9 hK9 => ?_
        refine vw_sc 0 [] ?_
        simp only [bs, ↓vopx, ↓vop, thenV, flat, wocs, ↓goc, ↓woc, ↓vopm0]
        refine hK9 _ _ ?_
        refine vw_ret ?_
        rw [show medD d t ls = ([], 12) from by rw [hm0, if_neg (by simp), if_neg (by omega), if_pos hc0]] at hQ
        refine hQ _ _ _ (.inr rfl) (done_nil_pair (by omega) ?_ ?_ fun n b hn h => (hkqb n hn).trans h)
        · simp only [ev_hit, ev_miss, Nat.reduceBEq, lpv, hlqb, Nat.reduceLT]
        · simp only [ev_hit, lpv, hlqb, Nat.reduceLT]; try rfl
      · refine vw_sc 0 [.pur (Bo (legsS d t ls))] ?_
        simp only [bs, Nat.reduceAdd, ↓vopx, ↓vop, Nat.reduceBEq, thenV, Nat.reduceLT, dLoad, vpart, hlqb, qb_2, qb_3, qb_4, qbB0, qbB1, wocs, ↓goc, ↓woc, ↓vopm0, ↓callC, calleeV, Tryd.ag25, Tryd.ag62, Tryd.sz25, Tryd.sz62, hc0]
        repeat ((with_reducible refine And.intro ?_ ?_); · exact ⟨Tryd.is51, by simpa only [hc0] using legs_ d L t ls ht1 ht2 hl0 hls⟩)
        refine hK8 _ _ ?_
        refine vck fun A B hA hB => ?_
        simp only [condV, ev_hit, lpv, Nat.reduceLT, true_implies, reduceCtorEq, false_implies, true_and, hlqb]
        refine hB ?_
        clear hA hB A B
        refine vw_skip ?_
        refine hK3 _ _ ?_
        refine vsk fun K10 hK10 => ?_
        have hob := glq40 hD h40
        refine vw_sc 0 [.pur (.t (tInts (outS (colOb d).labels.length (colLegs d) ls)))] ?_
        simp only [bs, ↓vopx, ↓vop, Nat.reduceBEq, thenV, flat, Nat.reduceLT, dLoad, vpart, hlqb, qb_2, qb_8, qb_9, qbB2, wocs, ↓goc, ↓woc, ↓vopm0, ↓callC, calleeV, Tryd.ag22, Tryd.fd25_0, Tryd.sz22, Tryd.un22, len_tStrs, nns]
        repeat ((with_reducible refine And.intro ?_ ?_); · exact ⟨Tryd.is81, out_cl hD h40 (legs_iff.1 hc0).2.2.1⟩)
        refine hK10 _ _ ?_
        refine vw_ret ?_
        rw [show medD d t ls = (outS (colOb d).labels.length (colLegs d) ls, 0) from by rw [hm0, if_neg (by simp), if_neg (by omega), if_neg (by rw [hc0]; simp)]] at hQ
        refine hQ _ _ _ (.inr rfl) (done_pair ?_ ?_ fun n b hn h => (hkqb n hn).trans h)
        · simp only [ev_hit, ev_miss, Nat.reduceBEq, lpv, hlqb, Nat.reduceLT]
        · simp only [ev_hit, lpv, hlqb, Nat.reduceLT]; try rfl
end Go.Proofs

open Go Go.V
namespace Go.Proofs
abbrev k7x : ByteArray := ⟨#[120]⟩
abbrev k7y : ByteArray := ⟨#[121]⟩
abbrev k7z : ByteArray := ⟨#[122]⟩
abbrev k7A : Ob := ⟨[k7x], []⟩
abbrev k7B : Ob := ⟨[k7x, k7y], [(0, 1)]⟩
abbrev k7C : Ob := ⟨[k7z, k7x], [(0, 1)]⟩
end Go.Proofs

open Go Go.V
namespace Go.Proofs
def q7 : Ob × List Int × List Int × Int := pushS k7A k7B k7C [0] [0]
theorem vw_en {P : Program} {c : Code} {Q : Exit → Env → Sg → Prop} {e : Env} {s : Sg} (h : ∀ e1, e1 = e → VW P c Q e1 s) : VW P c Q e s := h e rfl
end Go.Proofs

open Go Go.V
namespace Go.Proofs
abbrev k9D : Dia := ⟨[k7A, k7A, k7A], [⟨0, 1, [0]⟩]⟩
abbrev k9Q : Ob := ⟨[k7x, k7x], []⟩
theorem k9_c : (colS k9D).1.labels = [k7x, k7x] ∧ (colS k9D).1.pairs = [] ∧ (colS k9D).2.1 = [[0], [0], [1]] ∧ (colS k9D).2.2 = 0 := by decide +kernel
theorem k9_m1 : medD k9D k7A [[0], [0], [0]] = ([0, 0], 0) := by decide +kernel
theorem k9_m2 : medD k9D k7A [[0], [0]] = ([], 12) := by decide +kernel
theorem k9_d : diaS k9D = true := by decide +kernel
theorem k9_l : legsS k9D k9Q [[0], [0], [1]] = true := by decide +kernel
theorem k9_lim : DiaLim k9D := ⟨by decide, by decide, by decide, by decide, by decide⟩
theorem k9_lim2 : ∀ o ∈ k9D.nodes, o.pairs.length ≤ 1000 := by decide
theorem kc9_of : PCall Tryd.prog 50 [vDia k9D] (.tup [vObj k9Q, .t (tMat [[0], [0], [1]]), I 0]) := by
  have h := colOf_ k9D k9_lim k9_lim2
  have e : colS k9D = (k9Q, [[0], [0], [1]], 0) := by
    obtain ⟨h1, h2, h3, h4⟩ := k9_c
    generalize colS k9D = r at h1 h2 h3 h4
    obtain ⟨⟨a, b⟩, c, e⟩ := r
    simp only at h1 h2 h3 h4
    rw [h1, h2, h3, h4]
  rw [e] at h
  exact h
theorem kc9_m1 : PCall Tryd.prog 49 [vDia k9D, vObj k7A, .t (tMat [[0], [0], [0]])] (.tup [.t (tInts [0, 0]), I 0]) := by
  have h := mediateD_ k9D k9_lim k9_lim2 k7A [[0], [0], [0]] (by decide) (by decide) (by decide) (by decide)
  rw [k9_m1] at h
  exact h
theorem kc9_m2 : PCall Tryd.prog 49 [vDia k9D, vObj k7A, .t (tMat [[0], [0]])] (.tup [.t (tInts []), I 12]) := by
  have h := mediateD_ k9D k9_lim k9_lim2 k7A [[0], [0]] (by decide) (by decide) (by decide) (by decide)
  rw [k9_m2] at h
  exact h
theorem kc9_d : PCall Tryd.prog 82 [vDia k9D] (Bo true) := by
  have h := isDia_ k9D k9_lim
  rw [k9_d] at h
  exact h
theorem kc9_l : PCall Tryd.prog 51 [vDia k9D, vObj k9Q, .t (tMat [[0], [0], [1]])] (Bo true) := by
  have h := legs_ k9D k9_lim k9Q [[0], [0], [1]] (by decide) (by decide) (by decide) (by decide)
  rw [k9_l] at h
  exact h
theorem vlen_s1' (cs : List T) : vlen (.t (.sl 1 cs)) = some cs.length := by simp [vlen]
theorem tn2 : Int.toNat 2 = 2 := rfl
theorem nd1' : ((1 : Nat) : Int) = 1 := rfl
theorem nd2' : ((2 : Nat) : Int) = 2 := rfl
theorem nd3' : ((3 : Nat) : Int) = 3 := rfl
theorem s6a {α : Type} (a b c d e f x y : α) : setAll [a, b, c, d, e, f] 0 [x, y] = [x, y, c, d, e, f] := rfl
theorem s6b {α : Type} (a b c d e f x y : α) : setAll [a, b, c, d, e, f] 2 [x, y] = [a, b, x, y, e, f] := rfl
theorem s6c {α : Type} (a b c d e f x y : α) : setAll [a, b, c, d, e, f] 4 [x, y] = [a, b, c, d, x, y] := rfl
theorem s3a {α : Type} (a b c x y z : α) : setAll [a, b, c] 0 [x, y, z] = [x, y, z] := rfl
set_option maxRecDepth 20000 in
set_option maxHeartbeats 8000000 in
theorem known9_  : PCall Tryd.prog 45 [] (Bo true) := by
  refine pcall_of_body Tryd.func45 rfl fun s Q hQ => ?_
  obtain ⟨e, he, hl⟩ : ∃ e : Env, ([] ++ List.replicate (Tryd.f45.ntmps - ([] : List V).length) .junk) = e ∧ e.length = 111 := ⟨_, rfl, rfl⟩
  rw [he]
  clear he
  refine vsk fun K1 hK1 => ?_
  refine vw_sc 0 [] ?_
  simp only [bs, ↓vopx, ↓vop, thenV, flat, wocs, ↓goc, ↓woc, ↓vopm0]
  refine hK1 _ _ ?_
  refine vsk fun K2 hK2 => ?_
  refine vw_cut 4 rfl ?_
  refine vl_chunk 1 0 2 2 [] [] (by decide +kernel) (by decide) fun ops' KC hgs hKC => ?_
  simp only [bs, Nat.reduceLeDiff, Nat.reduceAdd, vparts, gfill, repl, Sg.frzP, ↓vopx, flat, Nat.reduceLT, V.cells, Sg.frzL, Sg.frz1, hl, wocs, ↓goc, ↓woc, ↓vopm1, Tryd.sl22, Tryd.st25]
  refine hKC _ _ ?_
  clear hgs hKC KC ops'
  refine vl_env fun e1_0 hE => ?_
  obtain ⟨hl1_0, q11⟩ : e1_0.length = 111 ∧ ev e1_0 (.tmp 11) = .agg [.t (.sl 1 [.v (.string k7x)]), .t (.v (.slice none 0 0))] := by
    (repeat' (with_reducible refine And.intro ?_ ?_)) <;> (rw [hE]; simp only [lpv, hl, ev_hit, Nat.reduceLT])
  clear hE
  refine vl_chunk 1 2 2 0 [] [] (by decide +kernel) (by decide) fun ops' KC hgs hKC => ?_
  simp only [bs, Nat.reduceAdd, ↓vopx, ↓vop, Nat.reduceBEq, Nat.reduceLT, V.cells, hl1_0, q11, wocs, ↓goc, ↓woc, ↓vopm1, Tryd.sz25, Tryd.zv25]
  refine hKC _ _ ?_
  clear hgs hKC KC ops'
  refine vl_nil ?_
  try simp only [thenV]
  refine hK2 _ _ ?_
  refine vsk fun K3 hK3 => ?_
  refine VW.nilBox (s.next) 1 2 (by omega) (ty := 25) (vs := [.t (.sl 1 [.v (.string k7x)]), .t (.v (.slice none 0 0))]) (by simp only [m_set, m_add, if_true]) rfl ?_
  refine vw_en fun era hE => ?_
  obtain ⟨hlra, ra_1⟩ : era.length = 111 ∧ ev era (.tmp 1) = .ptr (s.next) 0 := by
    (repeat' (with_reducible refine And.intro ?_ ?_)) <;> (rw [hE]; simp only [lpv, hl1_0, ev_hit, Nat.reduceLT])
  clear hE
  refine vw_st fun sra hS => ?_
  obtain ⟨raA, hnra⟩ : sra.m (s.next) = some (.box 25 [.t (.sl 1 [.v (.string k7x)]), .t (.sl 2 [])]) ∧ sra.next = s.next + 1 := by
    (repeat' (with_reducible refine And.intro ?_ ?_)) <;> (rw [hS]; simp only [m_set, m_add, if_true, List.set_cons_zero, List.set_cons_succ, n_add, n_set])
  have hkra : ∀ j, j < s.next → sra.m j = s.m j := fun j hj => by have z0 : ¬ j = s.next := (by omega); rw [hS]; simp only [m_set, m_add, z0, if_false]
  clear hS
  refine vw_cut 10 rfl ?_
  refine vl_chunk 1 0 4 6 [] [] (by decide +kernel) (by decide) fun ops' KC hgs hKC => ?_
  simp only [bs, Nat.reduceLeDiff, Nat.reduceAdd, vparts, gfill, repl, Sg.frzP, ↓vopx, ↓vop, Nat.reduceBEq, Nat.reduceLT, V.cells, dLoad, vpart, Sg.frzL, Sg.frz1, hlra, ra_1, raA, hnra, wocs, ↓goc, ↓woc, ↓vopm1, Tryd.ag25, Tryd.sl59, Tryd.sz25, s6a, s6b, s6c, Nat.reduceMul]
  refine hKC _ _ ?_
  clear hgs hKC KC ops'
  refine vl_env fun e2_0 hE => ?_
  obtain ⟨hl2_0, q15, q1⟩ : e2_0.length = 111 ∧ ev e2_0 (.tmp 15) = .t (.sl 2 [.sl 1 [.v (.string k7x)], .sl 2 [], .sl 1 [.v (.string k7x)], .sl 2 [], .sl 1 [.v (.string k7x)], .sl 2 []]) ∧ ev e2_0 (.tmp 1) = .ptr (s.next) 0 := by
    (repeat' (with_reducible refine And.intro ?_ ?_)) <;> (rw [hE]; simp only [lpv, hlra, ev_hit, Nat.reduceLT, ev_miss, Nat.reduceBEq, ra_1])
  clear hE
  refine vl_chunk 1 4 3 3 [] [] (by decide +kernel) (by decide) fun ops' KC hgs hKC => ?_
  simp only [bs, Nat.reduceLeDiff, Nat.reduceAdd, vparts, gfill, repl, Sg.frzP, ↓vopx, flat, Nat.reduceLT, V.cells, Sg.frzL, Sg.frz1, hl2_0, hnra, wocs, ↓goc, ↓woc, ↓vopm1, Tryd.sl26, Tryd.sl60, Tryd.st72, s3a, Nat.reduceMul]
  refine hKC _ _ ?_
  clear hgs hKC KC ops'
  refine vl_env fun e2_1 hE => ?_
  obtain ⟨hl2_1, p15, p18, p1⟩ : e2_1.length = 111 ∧ ev e2_1 (.tmp 15) = .t (.sl 2 [.sl 1 [.v (.string k7x)], .sl 2 [], .sl 1 [.v (.string k7x)], .sl 2 [], .sl 1 [.v (.string k7x)], .sl 2 []]) ∧ ev e2_1 (.tmp 18) = .t (.sl 3 [.v (.int .i64 0), .v (.int .i64 1), .sl 1 [.v (.int .i64 0)]]) ∧ ev e2_1 (.tmp 1) = .ptr (s.next) 0 := by
    (repeat' (with_reducible refine And.intro ?_ ?_)) <;> (rw [hE]; simp only [lpv, hl2_0, ev_miss, Nat.reduceBEq, q15, ev_hit, Nat.reduceLT, q1])
  clear hE
  refine vl_chunk 1 7 1 2 [] [] (by decide +kernel) (by decide) fun ops' KC hgs hKC => ?_
  simp only [bs, Nat.reduceLeDiff, Nat.reduceAdd, vparts, gfill, ↓vopx, V.cells, p15, p18, wocs, ↓goc, ↓woc, ↓vopm1, Tryd.st62]
  refine hKC _ _ ?_
  clear hgs hKC KC ops'
  refine vl_env fun e2_2 hE => ?_
  obtain ⟨hl2_2, t19, t1⟩ : e2_2.length = 111 ∧ ev e2_2 (.tmp 19) = .agg [.t (.sl 2 [.sl 1 [.v (.string k7x)], .sl 2 [], .sl 1 [.v (.string k7x)], .sl 2 [], .sl 1 [.v (.string k7x)], .sl 2 []]), .t (.sl 3 [.v (.int .i64 0), .v (.int .i64 1), .sl 1 [.v (.int .i64 0)]])] ∧ ev e2_2 (.tmp 1) = .ptr (s.next) 0 := by
    (repeat' (with_reducible refine And.intro ?_ ?_)) <;> (rw [hE]; simp only [lpv, hl2_1, ev_hit, Nat.reduceLT, ev_miss, Nat.reduceBEq, p1])
  clear hE
  refine vl_chunk 1 8 2 0 [] [] (by decide +kernel) (by decide) fun ops' KC hgs hKC => ?_
  simp only [bs, Nat.reduceAdd, ↓vopx, ↓vop, Nat.reduceBEq, Nat.reduceLT, V.cells, hl2_2, t19, hnra, wocs, ↓goc, ↓woc, ↓vopm1, Tryd.sz62, Tryd.zv62]
  refine hKC _ _ ?_
  clear hgs hKC KC ops'
  refine vl_nil ?_
  try simp only [thenV]
  refine hK3 _ _ ?_
  refine vsk fun K4 hK4 => ?_
  refine vw_en fun erb hE => ?_
  obtain ⟨hlrb, rb_1, rb_2⟩ : erb.length = 111 ∧ ev erb (.tmp 1) = .ptr (s.next) 0 ∧ ev erb (.tmp 2) = .ptr (s.next + 1) 0 := by
    (repeat' (with_reducible refine And.intro ?_ ?_)) <;> (rw [hE]; simp only [lpv, hl2_2, ev_miss, Nat.reduceBEq, t1, ev_hit, Nat.reduceLT])
  clear hE
  refine vw_st fun srb hS => ?_
  obtain ⟨rbA, rbB, hnrb⟩ : srb.m (s.next) = some (.box 25 [.t (.sl 1 [.v (.string k7x)]), .t (.sl 2 [])]) ∧ srb.m (s.next + 1) = some (.box 62 [.t (.sl 2 [.sl 1 [.v (.string k7x)], .sl 2 [], .sl 1 [.v (.string k7x)], .sl 2 [], .sl 1 [.v (.string k7x)], .sl 2 []]), .t (.sl 3 [.v (.int .i64 0), .v (.int .i64 1), .sl 1 [.v (.int .i64 0)]])]) ∧ srb.next = s.next + 1 + 1 := by
    (repeat' (with_reducible refine And.intro ?_ ?_)) <;> (rw [hS]; simp only [m_set, m_add, nns, if_false, raA, hnra, if_true, n_add, n_set])
  have hkrb : ∀ j, j < s.next → srb.m j = s.m j := fun j hj => by have z0 : ¬ j = s.next := (by omega); have z1 : ¬ j = s.next + 1 := (by omega); rw [hS]; simp only [m_set, m_add, hnra, z1, if_false, hkra j hj]
  clear hS
  refine vw_sc 1 [.pur (.tup [vObj k9Q, .t (.sl 1 [.sl 1 [.v (.int .i64 0)], .sl 1 [.v (.int .i64 0)], .sl 1 [.v (.int .i64 1)]]), I 0])] ?_
  simp only [bs, Nat.reduceAdd, ↓vopx, ↓vop, Nat.reduceBEq, thenV, Nat.reduceLT, V.cells, dLoad, vpart, hlrb, rb_2, rbB, hnrb, wocs, ↓goc, ↓woc, ↓vopm1, ↓callC, calleeV, Tryd.ag62, Tryd.sz25, Tryd.sz62, Tryd.zv25]
  repeat ((with_reducible refine And.intro ?_ ?_); · exact ⟨Tryd.is50, kc9_of⟩)
  refine hK4 _ _ ?_
  refine vsk fun K5 hK5 => ?_
  refine vw_en fun erc hE => ?_
  obtain ⟨hlrc, rc_1, rc_2, rc_3, rc_4, rc_5⟩ : erc.length = 111 ∧ ev erc (.tmp 1) = .ptr (s.next) 0 ∧ ev erc (.tmp 2) = .ptr (s.next + 1) 0 ∧ ev erc (.tmp 3) = .ptr (s.next + 1 + 1) 0 ∧ ev erc (.tmp 4) = .t (.sl 1 [.sl 1 [.v (.int .i64 0)], .sl 1 [.v (.int .i64 0)], .sl 1 [.v (.int .i64 1)]]) ∧ ev erc (.tmp 5) = I 0 := by
    (repeat' (with_reducible refine And.intro ?_ ?_)) <;> (rw [hE]; simp only [lpv, hlrb, ev_miss, Nat.reduceBEq, rb_1, rb_2, ev_hit, Nat.reduceLT])
  clear hE
  refine vw_st fun src hS => ?_
  obtain ⟨rcA, rcB, rcC, hnrc⟩ : src.m (s.next) = some (.box 25 [.t (.sl 1 [.v (.string k7x)]), .t (.sl 2 [])]) ∧ src.m (s.next + 1) = some (.box 62 [.t (.sl 2 [.sl 1 [.v (.string k7x)], .sl 2 [], .sl 1 [.v (.string k7x)], .sl 2 [], .sl 1 [.v (.string k7x)], .sl 2 []]), .t (.sl 3 [.v (.int .i64 0), .v (.int .i64 1), .sl 1 [.v (.int .i64 0)]])]) ∧ src.m (s.next + 1 + 1) = some (.box 25 [.t (tStrs [k7x, k7x]), .t (tPairs [])]) ∧ src.next = s.next + 1 + 1 + 1 := by
    (repeat' (with_reducible refine And.intro ?_ ?_)) <;> (rw [hS]; simp only [m_set, m_add, nns, if_false, rbA, hnrb, rbB, if_true, n_add, n_set])
  have hkrc : ∀ j, j < s.next → src.m j = s.m j := fun j hj => by have z0 : ¬ j = s.next := (by omega); have z1 : ¬ j = s.next + 1 := (by omega); have z2 : ¬ j = s.next + 1 + 1 := (by omega); rw [hS]; simp only [m_set, m_add, hnrb, z2, if_false, hkrb j hj]
  clear hS
  refine vw_sc 1 [.pur (.tup [.t (tInts [0, 0]), I 0])] ?_
  simp only [bs, Nat.reduceLeDiff, Nat.reduceAdd, vparts, gfill, repl, Sg.frzP, ↓vopx, ↓vop, Nat.reduceBEq, thenV, flat, Nat.reduceLT, V.cells, dLoad, vpart, Sg.frzL, Sg.frz1, hlrc, rc_1, rc_2, rcA, rcB, hnrc, wocs, ↓goc, ↓woc, ↓vopm1, ↓callC, calleeV, Tryd.ag25, Tryd.ag62, Tryd.sl26, Tryd.sl63, Tryd.sz25, Tryd.sz62, nns]
  repeat ((with_reducible refine And.intro ?_ ?_); · exact ⟨Tryd.is49, kc9_m1⟩)
  refine hK5 _ _ ?_
  refine vsk fun K6 hK6 => ?_
  refine vw_en fun erd hE => ?_
  obtain ⟨hlrd, rd_1, rd_2, rd_3, rd_4, rd_5, rd_6, rd_7⟩ : erd.length = 111 ∧ ev erd (.tmp 1) = .ptr (s.next) 0 ∧ ev erd (.tmp 2) = .ptr (s.next + 1) 0 ∧ ev erd (.tmp 3) = .ptr (s.next + 1 + 1) 0 ∧ ev erd (.tmp 4) = .t (.sl 1 [.sl 1 [.v (.int .i64 0)], .sl 1 [.v (.int .i64 0)], .sl 1 [.v (.int .i64 1)]]) ∧ ev erd (.tmp 5) = I 0 ∧ ev erd (.tmp 6) = .t (tInts [0, 0]) ∧ ev erd (.tmp 7) = I 0 := by
    (repeat' (with_reducible refine And.intro ?_ ?_)) <;> (rw [hE]; simp only [lpv, hlrc, ev_miss, Nat.reduceBEq, rc_1, rc_2, rc_3, rc_4, rc_5, ev_hit, Nat.reduceLT])
  clear hE
  refine vw_st fun srd hS => ?_
  obtain ⟨rdA, rdB, rdC, hnrd⟩ : srd.m (s.next) = some (.box 25 [.t (.sl 1 [.v (.string k7x)]), .t (.sl 2 [])]) ∧ srd.m (s.next + 1) = some (.box 62 [.t (.sl 2 [.sl 1 [.v (.string k7x)], .sl 2 [], .sl 1 [.v (.string k7x)], .sl 2 [], .sl 1 [.v (.string k7x)], .sl 2 []]), .t (.sl 3 [.v (.int .i64 0), .v (.int .i64 1), .sl 1 [.v (.int .i64 0)]])]) ∧ srd.m (s.next + 1 + 1) = some (.box 25 [.t (tStrs [k7x, k7x]), .t (tPairs [])]) ∧ srd.next = s.next + 1 + 1 + 1 := by
    (repeat' (with_reducible refine And.intro ?_ ?_)) <;> (rw [hS]; simp only [rcA, rcB, rcC, hnrc])
  have hkrd : ∀ j, j < s.next → srd.m j = s.m j := fun j hj => by have z0 : ¬ j = s.next := (by omega); have z1 : ¬ j = s.next + 1 := (by omega); have z2 : ¬ j = s.next + 1 + 1 := (by omega); rw [hS]; simp only [hkrc j hj]
  clear hS
  refine vw_sc 1 [.pur (.tup [.t (tInts []), I 12])] ?_
  simp only [bs, Nat.reduceLeDiff, Nat.reduceAdd, vparts, gfill, repl, Sg.frzP, ↓vopx, ↓vop, Nat.reduceBEq, thenV, flat, Nat.reduceLT, V.cells, dLoad, vpart, Sg.frzL, Sg.frz1, hlrd, rd_1, rd_2, rdA, rdB, hnrd, wocs, ↓goc, ↓woc, ↓vopm1, ↓callC, calleeV, Tryd.ag25, Tryd.ag62, Tryd.sl26, Tryd.sl63, Tryd.sz25, Tryd.sz62, nns]
  repeat ((with_reducible refine And.intro ?_ ?_); · exact ⟨Tryd.is49, kc9_m2⟩)
  refine hK6 _ _ ?_
  refine vsk fun K7 hK7 => ?_
  refine vw_en fun ere hE => ?_
  obtain ⟨hlre, re_1, re_2, re_3, re_4, re_5, re_6, re_7, re_9⟩ : ere.length = 111 ∧ ev ere (.tmp 1) = .ptr (s.next) 0 ∧ ev ere (.tmp 2) = .ptr (s.next + 1) 0 ∧ ev ere (.tmp 3) = .ptr (s.next + 1 + 1) 0 ∧ ev ere (.tmp 4) = .t (.sl 1 [.sl 1 [.v (.int .i64 0)], .sl 1 [.v (.int .i64 0)], .sl 1 [.v (.int .i64 1)]]) ∧ ev ere (.tmp 5) = I 0 ∧ ev ere (.tmp 6) = .t (tInts [0, 0]) ∧ ev ere (.tmp 7) = I 0 ∧ ev ere (.tmp 9) = I 12 := by
    (repeat' (with_reducible refine And.intro ?_ ?_)) <;> (rw [hE]; simp only [lpv, hlrd, ev_miss, Nat.reduceBEq, rd_1, rd_2, rd_3, rd_4, rd_5, rd_6, rd_7, ev_hit, Nat.reduceLT])
  clear hE
  refine vw_st fun sre hS => ?_
  obtain ⟨reA, reB, reC, hnre⟩ : sre.m (s.next) = some (.box 25 [.t (.sl 1 [.v (.string k7x)]), .t (.sl 2 [])]) ∧ sre.m (s.next + 1) = some (.box 62 [.t (.sl 2 [.sl 1 [.v (.string k7x)], .sl 2 [], .sl 1 [.v (.string k7x)], .sl 2 [], .sl 1 [.v (.string k7x)], .sl 2 []]), .t (.sl 3 [.v (.int .i64 0), .v (.int .i64 1), .sl 1 [.v (.int .i64 0)]])]) ∧ sre.m (s.next + 1 + 1) = some (.box 25 [.t (tStrs [k7x, k7x]), .t (tPairs [])]) ∧ sre.next = s.next + 1 + 1 + 1 := by
    (repeat' (with_reducible refine And.intro ?_ ?_)) <;> (rw [hS]; simp only [rdA, rdB, rdC, hnrd])
  have hkre : ∀ j, j < s.next → sre.m j = s.m j := fun j hj => by have z0 : ¬ j = s.next := (by omega); have z1 : ¬ j = s.next + 1 := (by omega); have z2 : ¬ j = s.next + 1 + 1 := (by omega); rw [hS]; simp only [hkrd j hj]
  clear hS
  refine vw_cut 67 rfl ?_
  refine vl_chunk 1 0 9 58 [(2, 47)] [] (by decide +kernel) (by decide) fun ops' KC hgs hKC => ?_
  have g2_ : gtmp ops' 2 = some 47 := hgs (2, 47) (by simp)
  simp only [bs, Nat.reduceAdd, ↓vopx, ↓vop, Nat.reduceBEq, flat, Nat.reduceLT, dLoad, vpart, opII, hlre, re_3, re_5, reC, g2_, wocs, ↓goc, ↓woc, ↓vopm1, ↓pick_tt, Tryd.ag22, Tryd.fd25_0, Tryd.sz22, Tryd.un22, nns, vlen_s1', nd2', beq_self_eq_true, List.append_eq]
  refine hKC _ _ ?_
  clear g2_
  clear hgs hKC KC ops'
  refine vl_env fun e6_0 hE => ?_
  obtain ⟨hl6_0, s1_1, s1_2, s1_3, s1_4, s1_5, s1_6, s1_7, s1_9, s1_g⟩ : e6_0.length = 111 ∧ ev e6_0 (.tmp 1) = .ptr (s.next) 0 ∧ ev e6_0 (.tmp 2) = .ptr (s.next + 1) 0 ∧ ev e6_0 (.tmp 3) = .ptr (s.next + 1 + 1) 0 ∧ ev e6_0 (.tmp 4) = .t (.sl 1 [.sl 1 [.v (.int .i64 0)], .sl 1 [.v (.int .i64 0)], .sl 1 [.v (.int .i64 1)]]) ∧ ev e6_0 (.tmp 5) = I 0 ∧ ev e6_0 (.tmp 6) = .t (tInts [0, 0]) ∧ ev e6_0 (.tmp 7) = I 0 ∧ ev e6_0 (.tmp 9) = I 12 ∧ ev e6_0 (.tmp 53) = Bo true := by
    (repeat' (with_reducible refine And.intro ?_ ?_)) <;> (rw [hE]; simp only [lpv, hlre, ev_miss, Nat.reduceBEq, re_1, re_2, re_3, re_4, re_5, re_6, re_7, re_9, ev_hit, Nat.reduceLT])
  clear hE
  refine vl_chunk 1 9 12 46 [(8, 53), (13, 58)] [] (by decide +kernel) (by decide) fun ops' KC hgs hKC => ?_
  have g8_ : gtmp ops' 8 = some 53 := hgs (8, 53) (by simp)
  have g13_ : gtmp ops' 13 = some 58 := hgs (13, 58) (by simp)
  simp only [bs, Nat.reduceAdd, ↓vopx, ↓vop, Nat.reduceBEq, flat, Nat.reduceLT, dLoad, vpart, opII, hl6_0, s1_4, s1_g, g8_, g13_, wocs, ↓goc, ↓woc, ↓vopm1, ↓pick_tt, Tryd.ag26, Tryd.sz26, Tryd.un26, Tryd.un63, vlen_s1', nd1', nd3', Int.toNat_one, beq_self_eq_true, List.append_eq]
  repeat ((with_reducible refine And.intro ?_ ?_); · omega)
  refine hKC _ _ ?_
  clear g8_
  clear g13_
  clear hgs hKC KC ops'
  refine vl_env fun e6_1 hE => ?_
  obtain ⟨hl6_1, s2_1, s2_2, s2_3, s2_4, s2_5, s2_6, s2_7, s2_9, s2_g⟩ : e6_1.length = 111 ∧ ev e6_1 (.tmp 1) = .ptr (s.next) 0 ∧ ev e6_1 (.tmp 2) = .ptr (s.next + 1) 0 ∧ ev e6_1 (.tmp 3) = .ptr (s.next + 1 + 1) 0 ∧ ev e6_1 (.tmp 4) = .t (.sl 1 [.sl 1 [.v (.int .i64 0)], .sl 1 [.v (.int .i64 0)], .sl 1 [.v (.int .i64 1)]]) ∧ ev e6_1 (.tmp 5) = I 0 ∧ ev e6_1 (.tmp 6) = .t (tInts [0, 0]) ∧ ev e6_1 (.tmp 7) = I 0 ∧ ev e6_1 (.tmp 9) = I 12 ∧ ev e6_1 (.tmp 65) = Bo true := by
    (repeat' (with_reducible refine And.intro ?_ ?_)) <;> (rw [hE]; simp only [lpv, hl6_0, ev_miss, Nat.reduceBEq, s1_1, s1_2, s1_3, s1_4, s1_5, s1_6, s1_7, s1_9, ev_hit, Nat.reduceLT])
  clear hE
  refine vl_chunk 1 21 15 31 [(20, 65), (27, 72)] [] (by decide +kernel) (by decide) fun ops' KC hgs hKC => ?_
  have g20_ : gtmp ops' 20 = some 65 := hgs (20, 65) (by simp)
  have g27_ : gtmp ops' 27 = some 72 := hgs (27, 72) (by simp)
  simp only [bs, Nat.reduceAdd, ↓vopx, ↓vop, Nat.reduceBEq, flat, Nat.reduceLT, dLoad, vpart, opII, hl6_1, s2_4, s2_g, g20_, g27_, wocs, ↓goc, ↓woc, ↓vopm1, ↓pick_tt, Tryd.ag26, Tryd.ag3, Tryd.sz26, Tryd.sz3, Tryd.un26, Tryd.un63, vlen_s1', nd1', Int.toNat_zero, Int.toNat_one, beq_self_eq_true, List.append_eq, tn2]
  repeat ((with_reducible refine And.intro ?_ ?_); · omega)
  refine hKC _ _ ?_
  clear g20_
  clear g27_
  clear hgs hKC KC ops'
  refine vl_env fun e6_2 hE => ?_
  obtain ⟨hl6_2, s3_1, s3_2, s3_3, s3_4, s3_5, s3_6, s3_7, s3_9, s3_g⟩ : e6_2.length = 111 ∧ ev e6_2 (.tmp 1) = .ptr (s.next) 0 ∧ ev e6_2 (.tmp 2) = .ptr (s.next + 1) 0 ∧ ev e6_2 (.tmp 3) = .ptr (s.next + 1 + 1) 0 ∧ ev e6_2 (.tmp 4) = .t (.sl 1 [.sl 1 [.v (.int .i64 0)], .sl 1 [.v (.int .i64 0)], .sl 1 [.v (.int .i64 1)]]) ∧ ev e6_2 (.tmp 5) = I 0 ∧ ev e6_2 (.tmp 6) = .t (tInts [0, 0]) ∧ ev e6_2 (.tmp 7) = I 0 ∧ ev e6_2 (.tmp 9) = I 12 ∧ ev e6_2 (.tmp 80) = Bo true := by
    (repeat' (with_reducible refine And.intro ?_ ?_)) <;> (rw [hE]; simp only [lpv, hl6_1, ev_miss, Nat.reduceBEq, s2_1, s2_2, s2_3, s2_4, s2_5, s2_6, s2_7, s2_9, ev_hit, Nat.reduceLT])
  clear hE
  refine vl_chunk 1 36 12 19 [(35, 80), (43, 88)] [] (by decide +kernel) (by decide) fun ops' KC hgs hKC => ?_
  have g35_ : gtmp ops' 35 = some 80 := hgs (35, 80) (by simp)
  have g43_ : gtmp ops' 43 = some 88 := hgs (43, 88) (by simp)
  simp only [bs, Nat.reduceAdd, ↓vopx, ↓vop, Nat.reduceBEq, flat, Nat.reduceLT, dLoad, vpart, opII, hl6_2, s3_4, s3_7, s3_g, g35_, g43_, wocs, ↓goc, ↓woc, ↓vopm1, ↓pick_tt, Tryd.ag26, Tryd.ag3, Tryd.sz26, Tryd.sz3, Tryd.un26, Tryd.un63, Int.toNat_zero, beq_self_eq_true, List.append_eq, tn2]
  repeat ((with_reducible refine And.intro ?_ ?_); · omega)
  refine hKC _ _ ?_
  clear g35_
  clear g43_
  clear hgs hKC KC ops'
  refine vl_env fun e6_3 hE => ?_
  obtain ⟨hl6_3, s4_1, s4_2, s4_3, s4_4, s4_5, s4_6, s4_7, s4_9, s4_g⟩ : e6_3.length = 111 ∧ ev e6_3 (.tmp 1) = .ptr (s.next) 0 ∧ ev e6_3 (.tmp 2) = .ptr (s.next + 1) 0 ∧ ev e6_3 (.tmp 3) = .ptr (s.next + 1 + 1) 0 ∧ ev e6_3 (.tmp 4) = .t (.sl 1 [.sl 1 [.v (.int .i64 0)], .sl 1 [.v (.int .i64 0)], .sl 1 [.v (.int .i64 1)]]) ∧ ev e6_3 (.tmp 5) = I 0 ∧ ev e6_3 (.tmp 6) = .t (tInts [0, 0]) ∧ ev e6_3 (.tmp 7) = I 0 ∧ ev e6_3 (.tmp 9) = I 12 ∧ ev e6_3 (.tmp 92) = Bo true := by
    (repeat' (with_reducible refine And.intro ?_ ?_)) <;> (rw [hE]; simp only [lpv, hl6_2, ev_miss, Nat.reduceBEq, s3_1, s3_2, s3_3, s3_4, s3_5, s3_6, s3_7, s3_9, ev_hit, Nat.reduceLT])
  clear hE
  refine vl_chunk 1 48 13 6 [(47, 92), (52, 97), (56, 101)] [.pur (Bo true)] (by decide +kernel) (by decide) fun ops' KC hgs hKC => ?_
  have g47_ : gtmp ops' 47 = some 92 := hgs (47, 92) (by simp)
  have g52_ : gtmp ops' 52 = some 97 := hgs (52, 97) (by simp)
  have g56_ : gtmp ops' 56 = some 101 := hgs (56, 101) (by simp)
  simp only [bs, Nat.reduceAdd, ↓vopx, ↓vop, Nat.reduceBEq, flat, Nat.reduceLT, dLoad, vpart, opII, hl6_3, s4_2, s4_6, s4_9, s4_g, reB, g47_, g52_, g56_, wocs, ↓goc, ↓woc, ↓vopm1, ↓callC, ↓pick_tt, calleeV, Tryd.ag62, Tryd.sz62, vlen_s1', Tryd.underlying26, nd2', beq_self_eq_true, tInts, List.append_eq]
  repeat ((with_reducible refine And.intro ?_ ?_); · exact ⟨Tryd.is82, kc9_d⟩)
  refine hKC _ _ ?_
  clear g47_
  clear g52_
  clear g56_
  clear hgs hKC KC ops'
  refine vl_env fun e6_4 hE => ?_
  obtain ⟨hl6_4, s5_1, s5_2, s5_3, s5_4, s5_5, s5_6, s5_7, s5_9, s5_g⟩ : e6_4.length = 111 ∧ ev e6_4 (.tmp 1) = .ptr (s.next) 0 ∧ ev e6_4 (.tmp 2) = .ptr (s.next + 1) 0 ∧ ev e6_4 (.tmp 3) = .ptr (s.next + 1 + 1) 0 ∧ ev e6_4 (.tmp 4) = .t (.sl 1 [.sl 1 [.v (.int .i64 0)], .sl 1 [.v (.int .i64 0)], .sl 1 [.v (.int .i64 1)]]) ∧ ev e6_4 (.tmp 5) = I 0 ∧ ev e6_4 (.tmp 6) = .t (tInts [0, 0]) ∧ ev e6_4 (.tmp 7) = I 0 ∧ ev e6_4 (.tmp 9) = I 12 ∧ ev e6_4 (.tmp 105) = Bo true := by
    (repeat' (with_reducible refine And.intro ?_ ?_)) <;> (rw [hE]; simp only [lpv, hl6_3, ev_miss, Nat.reduceBEq, s4_1, s4_2, s4_3, s4_4, s4_5, s4_6, s4_7, s4_9, ev_hit, Nat.reduceLT])
  clear hE
  refine vl_chunk 1 61 6 0 [(60, 105)] [.pur (Bo true)] (by decide +kernel) (by decide) fun ops' KC hgs hKC => ?_
  have g60_ : gtmp ops' 60 = some 105 := hgs (60, 105) (by simp)
  simp only [bs, Nat.reduceAdd, ↓vopx, ↓vop, Nat.reduceBEq, flat, Nat.reduceLT, dLoad, vpart, hl6_4, s5_2, s5_3, s5_4, s5_g, reB, reC, g60_, wocs, ↓goc, ↓woc, ↓vopm1, ↓callC, ↓pick_tt, calleeV, Tryd.ag25, Tryd.ag62, Tryd.sz25, Tryd.sz62, List.append_eq]
  repeat ((with_reducible refine And.intro ?_ ?_); · exact ⟨Tryd.is51, kc9_l⟩)
  refine hKC _ _ ?_
  clear g60_
  clear hgs hKC KC ops'
  refine vl_nil ?_
  try simp only [thenV]
  refine hK7 _ _ ?_
  refine vw_ret ?_
  refine hQ _ _ _ (.inr rfl) (done_tmp ?_ fun n b hn h => (hkre n hn).trans h)
  try simp only [ev_hit, lpv, hl6_4, Nat.reduceLT]
end Go.Proofs

open Go Go.V
namespace Go.Proofs
theorem rangeI_app {n m : Nat} : rangeI (n + m) = rangeI n ++ legT m n := by
  apply List.ext_getElem?
  intro k
  by_cases hk : k < n
  · rw [rangeI_get (by omega), List.getElem?_append_left (by rw [rangeI_length]; exact hk), rangeI_get hk]
  · rw [List.getElem?_append_right (by rw [rangeI_length]; omega), rangeI_length]
    by_cases hk2 : k < n + m
    · rw [rangeI_get hk2, legT_get (by omega)]; congr 1; omega
    · rw [List.getElem?_eq_none (by rw [rangeI_length]; omega), List.getElem?_eq_none (by rw [legT_length]; omega)]
theorem rangeI_leg (n : Nat) : rangeI n = legT n 0 := by
  have := rangeI_app (n := 0) (m := n)
  rw [Nat.zero_add] at this
  rw [this]; rfl
section
variable {a b : Ob} {f : List Int}
end
end Go.Proofs

open Go Go.V
namespace Go.Proofs
theorem pl_one {a : Ob} (ha : IsOb a) : colS ⟨[a], []⟩ = (a, [idS (a.labels.length : Int)], 0) := by
  have hle := ha.le
  have hsh : a.pairs.map (shP 0) = a.pairs := by
    have : ∀ p : Int × Int, shP 0 p = p := fun p => by simp [shP]
    rw [show shP 0 = id from funext this, List.map_id]
  have hl1 : labsT [a] 1 = a.labels := by simp [labsT]
  have hp1 : prsT [a] 1 = a.pairs := by
    rw [prsT_succ (l := [a]) (k := 0) (o := a) rfl]
    exact hsh
  have hbs : bsS [a] = a := by
    show (⟨labsT [a] 1, prsT [a] 1⟩ : Ob) = a
    rw [hl1, hp1]
  have hB : bsB [a] 1 = a.labels.length := by unfold bsB; rw [hl1]
  have hD : DiaOK ⟨[a], []⟩ := ⟨by simp, by simp, fun o ho => by simp at ho; rw [ho]; exact ha, fun x hx => by simp at hx⟩
  have hpl : colPl ⟨[a], []⟩ = rangeI a.labels.length := by
    show placesL (joinsL (rangeI (bsB [a] 1)) [] [] 0) = _
    rw [hB]; exact places_range _
  have hob : colOb ⟨[a], []⟩ = a := by
    show gluedS (bsS [a]) (colPl ⟨[a], []⟩) = a
    rw [hbs, hpl]; exact glued_range ha
  have hlg : colLegs ⟨[a], []⟩ = [idS (a.labels.length : Int)] := by
    unfold colLegs
    rw [hpl]
    show ((legsT [a] 1).map _) = _
    rw [legsT_succ (l := [a]) (k := 0) (o := a) rfl]
    show [(thenS (legT a.labels.length 0) (rangeI a.labels.length)).1] = _
    have h1 : rangeI a.labels.length = idS (a.labels.length : Int) := by rw [idS_nat hle]; rfl
    rw [← rangeI_leg, h1, then_id_left hle (idS_len hle)]
  rcases col_cases ⟨[a], []⟩ with ⟨e, he, h⟩ | ⟨h, _, _⟩
  · exfalso
    have h1 : bigD ⟨[a], []⟩ = false := by
      have hs : sumT [a] 1 = bsB [a] 1 := sumT_bs [a] 1 (by simp)
      simp only [bigD, largeS, List.length_cons, List.length_nil, Nat.zero_add, hs, hB]
      simp; exact hle
    unfold colS at h
    rw [if_neg (by rw [h1]; simp), if_neg (by rw [dia_iff.2 hD]; simp)] at h
    have := congrArg (fun r => r.2.2) h
    simp at this
    exact he this.symm
  · rw [h, hlg]
    exact Prod.ext hob rfl
theorem pl_none_ : (colS ⟨[], []⟩).1.labels = [] ∧ (colS ⟨[], []⟩).1.pairs = [] ∧ (colS ⟨[], []⟩).2.1 = [] ∧ (colS ⟨[], []⟩).2.2 = 0 := by decide +kernel
theorem pl_none : colS ⟨[], []⟩ = (noOb, [], 0) := by
  obtain ⟨h1, h2, h3, h4⟩ := pl_none_
  generalize colS ⟨[], []⟩ = r at h1 h2 h3 h4
  obtain ⟨⟨a, b⟩, c, e⟩ := r
  simp only at h1 h2 h3 h4
  rw [h1, h2, h3, h4]; rfl
def turnL (k n : Nat) : List Int := (List.range n).map fun i => (((i + 1) % k : Nat) : Int)
theorem turnL_len (k n : Nat) : (turnL k n).length = n := by simp [turnL]
theorem turnL_succ (k n : Nat) : turnL k (n + 1) = turnL k n ++ [(((n + 1) % k : Nat) : Int)] := by simp [turnL, List.range_succ]
abbrev rgD (k : Nat) : Dia := ⟨[⟨List.replicate k k7x, []⟩], [⟨0, 0, turnL k k⟩]⟩
def ringB (k : Nat) : Bool :=
  let r := colS (rgD k)
  r.2.2 == 0 && (r.1.labels.length == 1 && (r.2.1.length == 1 && ((r.2.1.getD 0 []).length == k && (r.2.1.getD 0 []).getD (k - 1) 9 == 0)))
set_option maxRecDepth 100000 in
theorem ring_all : ((List.range 6).all fun x => ringB (x + 2)) = true := by decide +kernel
theorem ring_of {x : Nat} (h : x < 6) : ∃ q l, colS (rgD (x + 2)) = (q, [l], 0) ∧ q.labels.length = 1 ∧ l.length = x + 2 ∧ l[x + 1]? = some (0 : Int) := by
  have h1 := List.all_eq_true.1 ring_all x (List.mem_range.2 h)
  unfold ringB at h1
  generalize colS (rgD (x + 2)) = r at h1
  obtain ⟨q, ls, e⟩ := r
  simp only [Bool.and_eq_true, beq_iff_eq] at h1
  obtain ⟨rfl, h2, h3, h4, h5⟩ := h1
  match ls, h3 with
  | [l], _ =>
    simp only [List.getD_cons_zero] at h4 h5
    refine ⟨q, l, rfl, h2, h4, ?_⟩
    rw [show x + 2 - 1 = x + 1 by omega, List.getD_eq_getElem?_getD, List.getElem?_eq_getElem (show x + 1 < l.length by omega)] at h5
    rw [List.getElem?_eq_getElem (show x + 1 < l.length by omega)]
    exact congrArg some h5
end Go.Proofs

open Go Go.V
namespace Go.Proofs
structure RoI (s : Sg) (l : List ByteArray) (P : List (Int × Int)) (m : Nat) (s' : Sg) : Prop where
  b2 : s'.m s.next = some (.box 25 [.t (.v (.slice none 0 0)), .t (.v (.slice none 0 0))])
  b3 : s'.m (s.next + 1) = some (.box 25 [.t (tStrs l), .loc m 0 P.length])
  am : s'.m m = some (.arr 2 84 (P.flatMap pcells))
  same : ∀ j, j < s.next → s'.m j = s.m j
  lm : s.next + 2 ≤ m ∧ m < s'.next
theorem RoI.push {s : Sg} {l : List ByteArray} {P : List (Int × Int)} {m : Nat} {s1 : Sg} (h : RoI s l P m s1) (p : Int × Int) (B : Blk) : RoI s l (P ++ [p]) (s1.next + 1)
    ((((s1.add B).del m).add (.arr 2 84 (P.flatMap pcells ++ [TI p.1, TI p.2]))).set (s.next + 1) (.box 25 [.t (tStrs l), .loc (s1.next + 1) 0 (P.length + 1)])) := by
  obtain ⟨h2, h3, ha, hs, lm, lm'⟩ := h
  have hfr : ∀ x, x < s1.next → x ≠ m → x ≠ s.next + 1 → ((((s1.add B).del m).add (.arr 2 84 (P.flatMap pcells ++ [TI p.1, TI p.2]))).set (s.next + 1) (.box 25 [.t (tStrs l), .loc (s1.next + 1) 0 (P.length + 1)])).m x = s1.m x := fun x h1 h2 h5 => by
    rw [m_set, if_neg h5, m_add, if_neg (by simp only [n_del, n_add]; omega), m_del, if_neg h2, m_add, if_neg (by omega)]
  refine ⟨by rw [hfr _ (by omega) (by omega) (by omega)]; exact h2, by rw [m_set, if_pos rfl, List.length_append]; rfl, ?_, fun j hj => by rw [hfr _ (by omega) (by omega) (by omega)]; exact hs j hj, by omega, by simp only [n_set, n_add, n_del]; omega⟩
  rw [m_set, if_neg (by omega), m_add, if_pos (by simp only [n_del, n_add])]
  simp [pcells]
end Go.Proofs

open Go Go.V
namespace Go.V
variable {P : Program} {ops : Array Oper} {Q : Exit → Env → Sg → Prop} {e : Env} {s : Sg}
theorem vl_conv {i m : Nat} {o : Oper} (hi : ops[i]? = some o) (hg : o.guard = none) {t t' : TypeId} {x : Operand} (ho : o.op = .convert t t' x) {a v : Value} (hx : vflat (ev e x) = some a) (hv : flatly (calm P (convert t t' a)) = some v)
    (h : VL P ops Q (List.range' (i + 1) m) (putv e o.dst (.t (.v v))) s) : VL P ops Q (List.range' i (m + 1)) e s := by
  rw [List.range'_succ]
  exact vl_cons hi hg (Sound.opg (sound_conv ho hx hv h))
theorem rem_u8 (t : TypeId) (x y : Operand) (a b : Int) (h0 : 0 ≤ a) (h1 : 0 < b) : vbin P .rem t x y (.int .u8 a) (.int .u8 b) = some (.int .u8 (a % b)) := by
  have hb : b ≠ 0 := by omega
  have e1 : a.tmod b = a % b := Int.tmod_eq_emod_of_nonneg h0
  simp only [vbin, eqGuard, Go.binOp, Op.intDiv, hb, if_false, e1]
  rfl
end Go.V
namespace Go.Proofs
theorem conv_u8 : ∀ w : Nat, w < 6 → flatly (calm Tryd.prog (convert 5 3 (.int .u8 (w : Int)))) = some (.int .i64 (w : Int))
  | 0, _ => by kernel_rfl
  | 1, _ => by kernel_rfl
  | 2, _ => by kernel_rfl
  | 3, _ => by kernel_rfl
  | 4, _ => by kernel_rfl
  | 5, _ => by kernel_rfl
  | n + 6, h => by omega
end Go.Proofs

open Go Go.V
namespace Go.V
theorem argW_some_nil {P : Program} {x : V} {k : Nat} (hk : 0 < k) : ArgW P (.agg [x, .t (.v (.slice none 0 0))]) (.agg [x, .t (.sl k [])]) := fun w s ρ y h => by
  obtain ⟨m, rfl, hm⟩ := h
  match m, hm with
  | [a, b], ⟨h1, h2, _⟩ =>
    have h2' : RepT w (Fr s ρ) (.v nilV) b := h2
    rw [RepT] at h2'
    obtain ⟨rfl, _⟩ := h2'
    exact ⟨_, rfl, h1, repT_nil hk, trivial⟩
end Go.V
namespace Go.Proofs
structure RgI (s : Sg) (nb k li ti m1 m2 : Nat) (s' : Sg) : Prop where
  b : s'.m nb = some (.box 25 [.loc m1 0 li, .t (.v (.slice none 0 0))])
  a1 : s'.m m1 = some (.arr 1 9 ((List.replicate li k7x).map TS))
  a2 : s'.m m2 = some (.arr 1 3 ((turnL k ti).map TI))
  same : ∀ j, j < s.next → s'.m j = s.m j
  lb : s.next ≤ nb
  l1 : nb < m1 ∧ m1 < s'.next
  l2 : nb < m2 ∧ m2 < s'.next
  d : m1 ≠ m2
theorem RgI.push1 {s : Sg} {nb k li ti m1 m2 : Nat} {s1 : Sg} (h : RgI s nb k li ti m1 m2 s1) (B : Blk) : RgI s nb k (li + 1) ti (s1.next + 1) m2 ((((s1.add B).del m1).add (.arr 1 9 ((List.replicate li k7x).map TS ++ [TS k7x]))).set nb (.box 25 [.loc (s1.next + 1) 0 (li + 1), .t (.v (.slice none 0 0))])) := by
  obtain ⟨hb, h1, h2, hs, hlb, ⟨l1, l1'⟩, ⟨l2, l2'⟩, hd⟩ := h
  have hfr : ∀ x, x < s1.next → x ≠ m1 → x ≠ nb → ((((s1.add B).del m1).add (.arr 1 9 ((List.replicate li k7x).map TS ++ [TS k7x]))).set nb (.box 25 [.loc (s1.next + 1) 0 (li + 1), .t (.v (.slice none 0 0))])).m x = s1.m x := fun x g1 g2 g3 => by
    rw [m_set, if_neg g3, m_add, if_neg (by simp only [n_del, n_add]; omega), m_del, if_neg g2, m_add, if_neg (by omega)]
  refine ⟨by rw [m_set, if_pos rfl], by rw [m_set, if_neg (by omega), m_add, if_pos (by simp only [n_del, n_add]), List.replicate_succ', List.map_append]; rfl, by rw [hfr _ (by omega) (fun e => hd e.symm) (by omega)]; exact h2, fun j hj => by rw [hfr _ (by omega) (by omega) (by omega)]; exact hs j hj, hlb, ⟨by omega, by simp only [n_set, n_add, n_del]; omega⟩, ⟨l2, by simp only [n_set, n_add, n_del]; omega⟩, by omega⟩
theorem RgI.push2 {s : Sg} {nb k li ti m1 m2 : Nat} {s1 : Sg} (h : RgI s nb k li ti m1 m2 s1) (B : Blk) : RgI s nb k li (ti + 1) m1 (s1.next + 1) (((s1.add B).del m2).add (.arr 1 3 ((turnL k ti).map TI ++ [TI (((ti + 1) % k : Nat) : Int)]))) := by
  obtain ⟨hb, h1, h2, hs, hlb, ⟨l1, l1'⟩, ⟨l2, l2'⟩, hd⟩ := h
  have hfr : ∀ x, x < s1.next → x ≠ m2 → (((s1.add B).del m2).add (.arr 1 3 ((turnL k ti).map TI ++ [TI (((ti + 1) % k : Nat) : Int)]))).m x = s1.m x := fun x g1 g2 => by
    rw [m_add, if_neg (by simp only [n_del, n_add]; omega), m_del, if_neg g2, m_add, if_neg (by omega)]
  refine ⟨by rw [hfr _ (by omega) (by omega)]; exact hb, by rw [hfr _ (by omega) hd]; exact h1, by rw [m_add, if_pos (by simp only [n_del, n_add]), turnL_succ, List.map_append]; rfl, fun j hj => by rw [hfr _ (by omega) (by omega)]; exact hs j hj, hlb, ⟨l1, by simp only [n_add, n_del]; omega⟩, ⟨by omega, by simp only [n_add, n_del]; omega⟩, by omega⟩
theorem pl_c1 {a : Ob} (ha : IsOb a) (h2 : a.pairs.length ≤ 200) : PCall Tryd.prog 50 [.agg [.t (.sl 2 [tStrs a.labels, tPairs a.pairs]), .t (.v (.slice none 0 0))]] (.tup [vObj a, .t (.sl 1 [tInts (idS (a.labels.length : Int))]), I 0]) := by
  have hle := ha.le
  have h := colOf_ ⟨[a], []⟩ ⟨by simp, by simp, fun o ho => by simp at ho; rw [ho]; omega, fun o ho => by simp at ho; rw [ho]; omega, fun x hx => by simp at hx⟩ (fun o ho => by simp at ho; rw [ho]; omega)
  rw [pl_one ha] at h
  exact PCall.args (args' := [vDia ⟨[a], []⟩]) ⟨argW_some_nil (by decide), trivial⟩ h
theorem pl_c0 : PCall Tryd.prog 50 [.agg [.t (.v (.slice none 0 0)), .t (.v (.slice none 0 0))]] (.tup [vObj ⟨[], []⟩, .t (.sl 1 []), I 0]) := by
  have h := colOf_ ⟨[], []⟩ ⟨by simp, by simp, fun o ho => by simp at ho, fun o ho => by simp at ho, fun x hx => by simp at hx⟩ (fun o ho => by simp at ho)
  rw [pl_none] at h
  exact PCall.args (args' := [vDia ⟨[], []⟩]) ⟨argW_nils (by decide) (by decide), trivial⟩ h
theorem pl_cr {k : Nat} (hk : k ≤ 7) {q : Ob} {l : List Int} (h0 : colS (rgD k) = (q, [l], 0)) : PCall Tryd.prog 50 [vDia (rgD k)] (.tup [vObj q, .t (.sl 1 [tInts l]), I 0]) := by
  have h := colOf_ (rgD k) ⟨by simp, by simp, fun o ho => by simp at ho; rw [ho]; simp; omega, fun o ho => by simp at ho; rw [ho]; simp, fun x hx => by simp at hx; rw [hx]; simp [turnL]; omega⟩ (fun o ho => by simp at ho; rw [ho]; simp)
  rw [h0] at h
  exact h
theorem s3z {α : Type} (a b c x y z : α) : setAll [a, b, c] 0 [x, y, z] = [x, y, z] := rfl
theorem nd0' : ((0 : Nat) : Int) = 0 := rfl
set_option maxRecDepth 20000 in
set_option maxHeartbeats 8000000 in
theorem lawColPlain_ (a : Ob) (z1 : Int) (ha1 : a.labels.length ≤ 9223372036854775807) (ha2 : a.pairs.length ≤ 9223372036854775807) (b1 : 0 ≤ z1 ∧ z1 < 256) : PCall Tryd.prog 16 [vObj a, .t (.v (.int .u8 z1))] (Bo true) := by
  refine pcall_of_body Tryd.func16 rfl fun s Q hQ => ?_
  obtain ⟨e, he, hl, h0, h1⟩ : ∃ e : Env, ([vObj a, .t (.v (.int .u8 z1))] ++ List.replicate (Tryd.f16.ntmps - ([vObj a, .t (.v (.int .u8 z1))] : List V).length) .junk) = e ∧ e.length = 137 ∧ ev e (.tmp 0) = vObj a ∧ ev e (.tmp 1) = .t (.v (.int .u8 z1)) := ⟨_, rfl, rfl, rfl, rfl⟩
  rw [he]
  clear he
  refine vsk fun K1 hK1 => ?_
  refine vw_sc 0 [] ?_
  simp only [bs, ↓vopx, ↓vop, thenV, flat, V.cells, h0, wocs, ↓goc, ↓woc, ↓vopm0]
  refine hK1 _ _ ?_
  refine vsk fun K2 hK2 => ?_
  refine vsk fun K3 hK3 => ?_
  refine vw_sc 0 [.pur (Bo true)] ?_
  simp only [bs, ↓vopx, ↓vop, thenV, Nat.reduceLT, hl, wocs, ↓goc, ↓woc, ↓vopm0, ↓callC, calleeV]
  repeat ((with_reducible refine And.intro ?_ ?_); · exact ⟨Tryd.is45, known9_⟩)
  refine hK3 _ _ ?_
  refine vck fun A B hA hB => ?_
  simp only [condV, ev_hit, lpv, Nat.reduceLT, true_implies, reduceCtorEq, false_implies, true_and, hl]
  refine hB ?_
  clear hA hB A B
  refine vw_skip ?_
  refine hK2 _ _ ?_
  refine vsk fun K4 hK4 => ?_
  refine vsk fun K5 hK5 => ?_
  rcases (show fewS a = false ∨ (fewS a = true ∧ ((checkS a == 0) = false ∨ (checkS a == 0) = true)) by cases (fewS a) <;> cases ((checkS a == 0)) <;> simp <;> omega) with hfa | ⟨hfa, hok | hok⟩
  · refine vw_sc 0 [.pur (Bo (fewS a))] ?_
    simp only [bs, Nat.reduceAdd, ↓vopx, ↓vop, Nat.reduceBEq, thenV, flat, Nat.reduceLT, dLoad, vpart, gtmp, hl, wocs, ↓goc, ↓woc, ↓vopm0, ↓callC, ↓pick_tf, calleeV, Tryd.ag25, Tryd.sz25, hfa]
    repeat ((with_reducible refine And.intro ?_ ?_); · exact ⟨Tryd.is47, by simpa only [hfa] using few9_ a (by omega) (by omega)⟩)
    refine hK5 _ _ ?_
    refine vck fun A B hA hB => ?_
    simp only [condV, ev_hit, lpv, Nat.reduceLT, true_implies, reduceCtorEq, false_implies, and_true, hl]
    refine hA ?_
    clear hA hB A B
    refine vsk fun K6 hK6 => ?_
    refine vw_sc 0 [] ?_
    simp only [bs, ↓vopx, ↓vop, thenV, flat, wocs, ↓goc, ↓woc, ↓vopm0]
    refine hK6 _ _ ?_
    refine vw_ret ?_
    refine hQ _ _ _ (.inr rfl) (done_tmp ?_ fun n b hn h => by simp [Sg.add, show n ≠ s.next by omega, h])
    try simp only [ev_hit, lpv, hl, Nat.reduceLT]
  · have ba := few_le hfa
    refine vw_sc 0 [.pur (Bo (fewS a)), .pur (Bo ((checkS a == 0)))] ?_
    simp only [bs, Nat.reduceAdd, ↓vopx, ↓vop, Nat.reduceBEq, thenV, flat, Nat.reduceLT, dLoad, vpart, gtmp, hl, wocs, ↓goc, ↓woc, ↓vopm0, ↓callC, ↓pick_ff, calleeV, Tryd.ag25, Tryd.sz25, hfa, hok]
    repeat ((with_reducible refine And.intro ?_ ?_); · first | exact ⟨Tryd.is47, by simpa only [hfa] using few9_ a (by omega) (by omega)⟩ | exact ⟨Tryd.is31, by simpa only [hok] using refIsOb_ a (by omega) (by omega)⟩)
    refine hK5 _ _ ?_
    refine vck fun A B hA hB => ?_
    simp only [condV, ev_hit, lpv, Nat.reduceLT, true_implies, reduceCtorEq, false_implies, and_true, hl]
    refine hA ?_
    clear hA hB A B
    refine vsk fun K7 hK7 => ?_
    refine vw_sc 0 [] ?_
    simp only [bs, ↓vopx, ↓vop, thenV, flat, wocs, ↓goc, ↓woc, ↓vopm0]
    refine hK7 _ _ ?_
    refine vw_ret ?_
    refine hQ _ _ _ (.inr rfl) (done_tmp ?_ fun n b hn h => by simp [Sg.add, show n ≠ s.next by omega, h])
    try simp only [ev_hit, lpv, hl, Nat.reduceLT]
  · have ba := few_le hfa
    refine vw_sc 0 [.pur (Bo (fewS a)), .pur (Bo ((checkS a == 0)))] ?_
    simp only [bs, Nat.reduceAdd, ↓vopx, ↓vop, Nat.reduceBEq, thenV, flat, Nat.reduceLT, dLoad, vpart, gtmp, hl, wocs, ↓goc, ↓woc, ↓vopm0, ↓callC, ↓pick_ff, calleeV, Tryd.ag25, Tryd.sz25, hfa, hok]
    repeat ((with_reducible refine And.intro ?_ ?_); · first | exact ⟨Tryd.is47, by simpa only [hfa] using few9_ a (by omega) (by omega)⟩ | exact ⟨Tryd.is31, by simpa only [hok] using refIsOb_ a (by omega) (by omega)⟩)
    refine hK5 _ _ ?_
    refine vck fun A B hA hB => ?_
    simp only [condV, ev_hit, lpv, Nat.reduceLT, true_implies, reduceCtorEq, false_implies, true_and, hl]
    refine hB ?_
    clear hA hB A B
    refine vw_skip ?_
    refine hK4 _ _ ?_
    refine vsk fun K8 hK8 => ?_
    refine vw_en fun eqa hE => ?_
    obtain ⟨hlqa, qa_1, qa_2⟩ : eqa.length = 137 ∧ ev eqa (.tmp 1) = .t (.v (.int .u8 z1)) ∧ ev eqa (.tmp 2) = .ptr (s.next) 0 := by
      (repeat' (with_reducible refine And.intro ?_ ?_)) <;> (rw [hE]; simp only [lpv, hl, ev_miss, Nat.reduceBEq, h1, ev_hit, Nat.reduceLT])
    clear hE
    refine vw_st fun sqa hS => ?_
    obtain ⟨qaB0, hnqa⟩ : sqa.m (s.next) = some (.box 25 [.t (tStrs a.labels), .t (tPairs a.pairs)]) ∧ sqa.next = s.next + 1 := by
      (repeat' (with_reducible refine And.intro ?_ ?_)) <;> (rw [hS]; simp only [m_add, if_true, n_add])
    have hkqa : ∀ j, j < s.next → sqa.m j = s.m j := fun j hj => by have z0 : ¬ j = s.next := (by omega); rw [hS]; simp only [m_add, z0, if_false]
    clear hS
    have haO := check_iff.1 hok
    have ha40 := haO.le
    have hidl := idS_len ha40
    refine vw_cut 12 rfl ?_
    refine vl_chunk 1 0 2 10 [] [] (by decide +kernel) (by decide) fun ops' KC hgs hKC => ?_
    simp only [bs, Nat.reduceLeDiff, Nat.reduceAdd, vparts, gfill, repl, Sg.frzP, ↓vopx, ↓vop, Nat.reduceLT, V.cells, dLoad, vpart, Sg.frzL, Sg.frz1, hlqa, qa_2, qaB0, hnqa, wocs, ↓goc, ↓woc, ↓vopm1, Tryd.ag25, Tryd.sl59, Tryd.sz25, Nat.reduceMul]
    refine hKC _ _ ?_
    clear hgs hKC KC ops'
    refine vl_env fun e5_0 hE => ?_
    obtain ⟨hl5_0, x1_1, x1_2, x1_30⟩ : e5_0.length = 137 ∧ ev e5_0 (.tmp 1) = .t (.v (.int .u8 z1)) ∧ ev e5_0 (.tmp 2) = .ptr (s.next) 0 ∧ ev e5_0 (.tmp 30) = .t (.sl 2 [tStrs a.labels, tPairs a.pairs]) := by
      (repeat' (with_reducible refine And.intro ?_ ?_)) <;> (rw [hE]; simp only [lpv, hlqa, ev_miss, Nat.reduceBEq, qa_1, qa_2, ev_hit, Nat.reduceLT])
    clear hE
    refine vl_chunk 1 2 1 9 [] [] (by decide +kernel) (by decide) fun ops' KC hgs hKC => ?_
    simp only [bs, Nat.reduceLeDiff, Nat.reduceAdd, vparts, gfill, ↓vopx, V.cells, x1_30, wocs, ↓goc, ↓woc, ↓vopm1, Tryd.st62]
    refine hKC _ _ ?_
    clear hgs hKC KC ops'
    refine vl_env fun e5_1 hE => ?_
    obtain ⟨hl5_1, x2_1, x2_2, x2_31⟩ : e5_1.length = 137 ∧ ev e5_1 (.tmp 1) = .t (.v (.int .u8 z1)) ∧ ev e5_1 (.tmp 2) = .ptr (s.next) 0 ∧ ev e5_1 (.tmp 31) = .agg [.t (.sl 2 [tStrs a.labels, tPairs a.pairs]), .t (.v (.slice none 0 0))] := by
      (repeat' (with_reducible refine And.intro ?_ ?_)) <;> (rw [hE]; simp only [lpv, hl5_0, ev_miss, Nat.reduceBEq, x1_1, x1_2, ev_hit, Nat.reduceLT])
    clear hE
    refine vl_chunk 1 3 9 0 [] [.pur (.tup [vObj a, .t (.sl 1 [tInts (idS (a.labels.length : Int))]), I 0])] (by decide +kernel) (by decide) fun ops' KC hgs hKC => ?_
    simp only [bs, Nat.reduceAdd, ↓vopx, ↓vop, Nat.reduceBEq, Nat.reduceLT, V.cells, hl5_1, x2_31, hnqa, wocs, ↓goc, ↓woc, ↓vopm1, ↓callC, calleeV, Tryd.sz25, Tryd.zv25]
    repeat ((with_reducible refine And.intro ?_ ?_); · exact ⟨Tryd.is50, pl_c1 haO (by omega)⟩)
    refine hKC _ _ ?_
    clear hgs hKC KC ops'
    refine vl_nil ?_
    try simp only [thenV]
    refine hK8 _ _ ?_
    refine vsk fun K9 hK9 => ?_
    refine vw_en fun eqb hE => ?_
    obtain ⟨hlqb, qb_1, qb_2, qb_5, qb_6, qb_7⟩ : eqb.length = 137 ∧ ev eqb (.tmp 1) = .t (.v (.int .u8 z1)) ∧ ev eqb (.tmp 2) = .ptr (s.next) 0 ∧ ev eqb (.tmp 5) = .ptr (s.next + 1) 0 ∧ ev eqb (.tmp 6) = .t (.sl 1 [tInts (idS (a.labels.length : Int))]) ∧ ev eqb (.tmp 7) = I 0 := by
      (repeat' (with_reducible refine And.intro ?_ ?_)) <;> (rw [hE]; simp only [lpv, hl5_1, ev_miss, Nat.reduceBEq, x2_1, x2_2, ev_hit, Nat.reduceLT])
    clear hE
    refine vw_st fun sqb hS => ?_
    obtain ⟨qbB0, qbB1, hnqb⟩ : sqb.m (s.next) = some (.box 25 [.t (tStrs a.labels), .t (tPairs a.pairs)]) ∧ sqb.m (s.next + 1) = some (.box 25 [.t (tStrs a.labels), .t (tPairs a.pairs)]) ∧ sqb.next = s.next + 1 + 1 := by
      (repeat' (with_reducible refine And.intro ?_ ?_)) <;> (rw [hS]; simp only [m_set, m_add, nns, if_false, qaB0, hnqa, if_true, n_add, n_set])
    have hkqb : ∀ j, j < s.next → sqb.m j = s.m j := fun j hj => by have z0 : ¬ j = s.next := (by omega); have z1 : ¬ j = s.next + 1 := (by omega); rw [hS]; simp only [m_set, m_add, hnqa, z1, if_false, hkqa j hj]
    clear hS
    refine vw_cut 10 rfl ?_
    refine vl_chunk 0 0 1 9 [] [] (by decide +kernel) (by decide) fun ops' KC hgs hKC => ?_
    simp only [bs, vparts, gfill, ↓vopx, wocs, ↓goc, ↓woc, ↓vopm0, Tryd.st62]
    refine hKC _ _ ?_
    clear hgs hKC KC ops'
    refine vl_env fun e6_0 hE => ?_
    obtain ⟨hl6_0, x3_1, x3_2, x3_5, x3_6, x3_7, x3_37⟩ : e6_0.length = 137 ∧ ev e6_0 (.tmp 1) = .t (.v (.int .u8 z1)) ∧ ev e6_0 (.tmp 2) = .ptr (s.next) 0 ∧ ev e6_0 (.tmp 5) = .ptr (s.next + 1) 0 ∧ ev e6_0 (.tmp 6) = .t (.sl 1 [tInts (idS (a.labels.length : Int))]) ∧ ev e6_0 (.tmp 7) = I 0 ∧ ev e6_0 (.tmp 37) = .agg [.t (.v (.slice none 0 0)), .t (.v (.slice none 0 0))] := by
      (repeat' (with_reducible refine And.intro ?_ ?_)) <;> (rw [hE]; simp only [lpv, hlqb, ev_miss, Nat.reduceBEq, qb_1, qb_2, qb_5, qb_6, qb_7, ev_hit, Nat.reduceLT])
    clear hE
    refine vl_chunk 0 1 9 0 [] [.pur (.tup [vObj ⟨[], []⟩, .t (.sl 1 []), I 0])] (by decide +kernel) (by decide) fun ops' KC hgs hKC => ?_
    simp only [bs, Nat.reduceAdd, ↓vopx, ↓vop, Nat.reduceBEq, Nat.reduceLT, V.cells, hl6_0, x3_37, hnqb, wocs, ↓goc, ↓woc, ↓vopm0, ↓callC, calleeV, Tryd.sz25, Tryd.zv25]
    repeat ((with_reducible refine And.intro ?_ ?_); · exact ⟨Tryd.is50, pl_c0⟩)
    refine hKC _ _ ?_
    clear hgs hKC KC ops'
    refine vl_nil ?_
    try simp only [thenV]
    refine hK9 _ _ ?_
    refine vsk fun K10 hK10 => ?_
    refine vsk fun K11 hK11 => ?_
    refine vw_en fun eqc hE => ?_
    obtain ⟨hlqc, qc_1, qc_2, qc_5, qc_6, qc_7, qc_8, qc_9, qc_10⟩ : eqc.length = 137 ∧ ev eqc (.tmp 1) = .t (.v (.int .u8 z1)) ∧ ev eqc (.tmp 2) = .ptr (s.next) 0 ∧ ev eqc (.tmp 5) = .ptr (s.next + 1) 0 ∧ ev eqc (.tmp 6) = .t (.sl 1 [tInts (idS (a.labels.length : Int))]) ∧ ev eqc (.tmp 7) = I 0 ∧ ev eqc (.tmp 8) = .ptr (s.next + 1 + 1) 0 ∧ ev eqc (.tmp 9) = .t (.sl 1 []) ∧ ev eqc (.tmp 10) = I 0 := by
      (repeat' (with_reducible refine And.intro ?_ ?_)) <;> (rw [hE]; simp only [lpv, hl6_0, ev_miss, Nat.reduceBEq, x3_1, x3_2, x3_5, x3_6, x3_7, ev_hit, Nat.reduceLT])
    clear hE
    refine vw_st fun sqc hS => ?_
    obtain ⟨qcB0, qcB1, qcB2, hnqc⟩ : sqc.m (s.next) = some (.box 25 [.t (tStrs a.labels), .t (tPairs a.pairs)]) ∧ sqc.m (s.next + 1) = some (.box 25 [.t (tStrs a.labels), .t (tPairs a.pairs)]) ∧ sqc.m (s.next + 1 + 1) = some (.box 25 [.t (tStrs (⟨[], []⟩ : Ob).labels), .t (tPairs (⟨[], []⟩ : Ob).pairs)]) ∧ sqc.next = s.next + 1 + 1 + 1 := by
      (repeat' (with_reducible refine And.intro ?_ ?_)) <;> (rw [hS]; simp only [m_set, m_add, nns, if_false, qbB0, hnqb, qbB1, if_true, n_add, n_set])
    have hkqc : ∀ j, j < s.next → sqc.m j = s.m j := fun j hj => by have z0 : ¬ j = s.next := (by omega); have z1 : ¬ j = s.next + 1 := (by omega); have z2 : ¬ j = s.next + 1 + 1 := (by omega); rw [hS]; simp only [m_set, m_add, hnqb, z2, if_false, hkqb j hj]
    clear hS
    refine vw_phase Tryd.mixed ?_
    refine phase_chain 0 6 7 [0, 0, 0, 0, 0, 0] [] [] 0 (by decide +kernel) (by simp [hlqc]) rfl ?_
    simp only [bs, ↓vopx, ↓vop, Nat.reduceBEq, flat, Nat.reduceLT, opII, gtmp, hlqc, qc_7, qc_10, Nat.reduceSub, wocs, ↓goc, ↓woc, ↓vopm0, ↓pick_ff, chn, ↓goq, ↓woq, List.zip_cons_cons, List.zip_nil_right, bne_self_eq_false]
    refine phase_env fun e7_0 hE => ?_
    obtain ⟨hl7_0, r1_1, r1_2, r1_5, r1_6, r1_7, r1_8, r1_9, r1_10, r1_g⟩ : e7_0.length = 137 ∧ ev e7_0 (.tmp 1) = .t (.v (.int .u8 z1)) ∧ ev e7_0 (.tmp 2) = .ptr (s.next) 0 ∧ ev e7_0 (.tmp 5) = .ptr (s.next + 1) 0 ∧ ev e7_0 (.tmp 6) = .t (.sl 1 [tInts (idS (a.labels.length : Int))]) ∧ ev e7_0 (.tmp 7) = I 0 ∧ ev e7_0 (.tmp 8) = .ptr (s.next + 1 + 1) 0 ∧ ev e7_0 (.tmp 9) = .t (.sl 1 []) ∧ ev e7_0 (.tmp 10) = I 0 ∧ ev e7_0 (.tmp 48) = Bo false := by
      (repeat' (with_reducible refine And.intro ?_ ?_)) <;> (rw [hE]; simp only [lpv, hlqc, ev_miss, Nat.reduceBEq, qc_1, qc_2, qc_5, qc_6, qc_7, qc_8, qc_9, qc_10, ev_hit, Nat.reduceLT])
    clear hE
    refine phase_chain 7 12 13 [1, 1, 0, 0, 0] [.pur (Bo true)] [] 0 (by decide +kernel) (by simp [hl7_0]) rfl ?_
    simp only [bs, Nat.reduceAdd, ↓vopx, ↓vop, Nat.reduceBEq, flat, Nat.reduceLT, dLoad, vpart, gtmp, hl7_0, r1_2, r1_5, r1_g, Nat.reduceSub, wocs, ↓goc, ↓woc, ↓vopm0, ↓vopm1, ↓pick_ff, calleeV, chn, ↓goq, ↓woq, ↓callQ, List.zip_cons_cons, List.zip_nil_right, Tryd.ag25, Tryd.sz25, qcB0, qcB1, Nat.reduceAdd]
    repeat ((with_reducible refine And.intro ?_ ?_); · exact ⟨Tryd.is24, same_self a (by omega) (by omega)⟩)
    refine phase_env fun e7_7 hE => ?_
    obtain ⟨hl7_7, r2_1, r2_2, r2_5, r2_6, r2_7, r2_8, r2_9, r2_10, r2_g⟩ : e7_7.length = 137 ∧ ev e7_7 (.tmp 1) = .t (.v (.int .u8 z1)) ∧ ev e7_7 (.tmp 2) = .ptr (s.next) 0 ∧ ev e7_7 (.tmp 5) = .ptr (s.next + 1) 0 ∧ ev e7_7 (.tmp 6) = .t (.sl 1 [tInts (idS (a.labels.length : Int))]) ∧ ev e7_7 (.tmp 7) = I 0 ∧ ev e7_7 (.tmp 8) = .ptr (s.next + 1 + 1) 0 ∧ ev e7_7 (.tmp 9) = .t (.sl 1 []) ∧ ev e7_7 (.tmp 10) = I 0 ∧ ev e7_7 (.tmp 54) = Bo false := by
      (repeat' (with_reducible refine And.intro ?_ ?_)) <;> (rw [hE]; simp only [lpv, hl7_0, ev_miss, Nat.reduceBEq, r1_1, r1_2, r1_5, r1_6, r1_7, r1_8, r1_9, r1_10, ev_hit, Nat.reduceLT])
    clear hE
    refine phase_chain 13 17 18 [0, 0, 0, 0] [] [] 0 (by decide +kernel) (by simp [hl7_7]) rfl ?_
    simp only [bs, ↓vopx, ↓vop, Nat.reduceBEq, flat, Nat.reduceLT, opII, gtmp, hl7_7, r2_6, r2_g, Nat.reduceSub, wocs, ↓goc, ↓woc, ↓vopm0, ↓pick_ff, chn, ↓goq, ↓woq, List.zip_cons_cons, List.zip_nil_right, Tryd.un63, vlen_s1', bne_self_eq_false, nd1']
    refine phase_env fun e7_13 hE => ?_
    obtain ⟨hl7_13, r3_1, r3_2, r3_5, r3_6, r3_7, r3_8, r3_9, r3_10, r3_g⟩ : e7_13.length = 137 ∧ ev e7_13 (.tmp 1) = .t (.v (.int .u8 z1)) ∧ ev e7_13 (.tmp 2) = .ptr (s.next) 0 ∧ ev e7_13 (.tmp 5) = .ptr (s.next + 1) 0 ∧ ev e7_13 (.tmp 6) = .t (.sl 1 [tInts (idS (a.labels.length : Int))]) ∧ ev e7_13 (.tmp 7) = I 0 ∧ ev e7_13 (.tmp 8) = .ptr (s.next + 1 + 1) 0 ∧ ev e7_13 (.tmp 9) = .t (.sl 1 []) ∧ ev e7_13 (.tmp 10) = I 0 ∧ ev e7_13 (.tmp 59) = Bo false := by
      (repeat' (with_reducible refine And.intro ?_ ?_)) <;> (rw [hE]; simp only [lpv, hl7_7, ev_miss, Nat.reduceBEq, r2_1, r2_2, r2_5, r2_6, r2_7, r2_8, r2_9, r2_10, ev_hit, Nat.reduceLT])
    clear hE
    refine phase_chain 18 28 29 [0, 1, 1, 0, 1, 0, 0, 0, 0, 0] [.pur (.t (tInts (idS (a.labels.length : Int)))), .pur (Bo true)] [] 0 (by decide +kernel) (by simp [hl7_13]) rfl ?_
    simp only [bs, ↓vopx, ↓vop, Nat.reduceBEq, flat, Nat.reduceLT, dLoad, vpart, gtmp, hl7_13, r3_2, r3_6, r3_g, Nat.reduceSub, wocs, ↓goc, ↓woc, ↓vopm0, ↓vopm1, ↓pick_ff, calleeV, chn, ↓goq, ↓woq, ↓callQ, List.zip_cons_cons, List.zip_nil_right, Tryd.ag22, Tryd.ag26, Tryd.fd25_0, Tryd.sz22, Tryd.sz26, Tryd.un22, Tryd.un63, nns, vlen_s1', qcB0, Int.toNat_zero]
    repeat ((with_reducible refine And.intro ?_ ?_); · first | omega | exact ⟨Tryd.is35, identity_ _⟩ | exact ⟨Tryd.is33, by have := arrowSame_ (idS (a.labels.length : Int)) (idS (a.labels.length : Int)) (by omega) (by omega); rw [beq_self_eq_true] at this; exact this⟩)
    refine phase_env fun e7_18 hE => ?_
    obtain ⟨hl7_18, r4_1, r4_2, r4_5, r4_6, r4_7, r4_8, r4_9, r4_10, r4_g⟩ : e7_18.length = 137 ∧ ev e7_18 (.tmp 1) = .t (.v (.int .u8 z1)) ∧ ev e7_18 (.tmp 2) = .ptr (s.next) 0 ∧ ev e7_18 (.tmp 5) = .ptr (s.next + 1) 0 ∧ ev e7_18 (.tmp 6) = .t (.sl 1 [tInts (idS (a.labels.length : Int))]) ∧ ev e7_18 (.tmp 7) = I 0 ∧ ev e7_18 (.tmp 8) = .ptr (s.next + 1 + 1) 0 ∧ ev e7_18 (.tmp 9) = .t (.sl 1 []) ∧ ev e7_18 (.tmp 10) = I 0 ∧ ev e7_18 (.tmp 70) = Bo false := by
      (repeat' (with_reducible refine And.intro ?_ ?_)) <;> (rw [hE]; simp only [lpv, hl7_13, ev_miss, Nat.reduceBEq, r3_1, r3_2, r3_5, r3_6, r3_7, r3_8, r3_9, r3_10, ev_hit, Nat.reduceLT])
    clear hE
    refine phase_chain 29 34 35 [0, 1, 0, 0, 0] [] [] 0 (by decide +kernel) (by simp [hl7_18]) rfl ?_
    simp only [bs, ↓vopx, ↓vop, Nat.reduceBEq, flat, Nat.reduceLT, dLoad, vpart, opII, gtmp, hl7_18, r4_8, r4_g, Nat.reduceSub, wocs, ↓goc, ↓woc, ↓vopm0, ↓vopm1, ↓pick_ff, chn, ↓goq, ↓woq, List.zip_cons_cons, List.zip_nil_right, Tryd.ag22, Tryd.fd25_0, Tryd.sz22, Tryd.un22, nns, vlen_s1', qcB2, bne_self_eq_false, nd0']
    refine phase_env fun e7_29 hE => ?_
    obtain ⟨hl7_29, r5_1, r5_2, r5_5, r5_6, r5_7, r5_8, r5_9, r5_10, r5_g⟩ : e7_29.length = 137 ∧ ev e7_29 (.tmp 1) = .t (.v (.int .u8 z1)) ∧ ev e7_29 (.tmp 2) = .ptr (s.next) 0 ∧ ev e7_29 (.tmp 5) = .ptr (s.next + 1) 0 ∧ ev e7_29 (.tmp 6) = .t (.sl 1 [tInts (idS (a.labels.length : Int))]) ∧ ev e7_29 (.tmp 7) = I 0 ∧ ev e7_29 (.tmp 8) = .ptr (s.next + 1 + 1) 0 ∧ ev e7_29 (.tmp 9) = .t (.sl 1 []) ∧ ev e7_29 (.tmp 10) = I 0 ∧ ev e7_29 (.tmp 76) = Bo false := by
      (repeat' (with_reducible refine And.intro ?_ ?_)) <;> (rw [hE]; simp only [lpv, hl7_18, ev_miss, Nat.reduceBEq, r4_1, r4_2, r4_5, r4_6, r4_7, r4_8, r4_9, r4_10, ev_hit, Nat.reduceLT])
    clear hE
    refine phase_chain 35 38 39 [0, 0, 0] [] [] 0 (by decide +kernel) (by simp [hl7_29]) rfl ?_
    simp only [bs, ↓vopx, ↓vop, Nat.reduceBEq, flat, Nat.reduceLT, opII, gtmp, hl7_29, r5_9, r5_g, Nat.reduceSub, wocs, ↓goc, ↓woc, ↓vopm0, ↓pick_ff, chn, ↓goq, ↓woq, List.zip_cons_cons, List.zip_nil_right, Tryd.un63, vlen_s1', bne_self_eq_false, nd0']
    refine phase_end ?_
    try simp only [thenV]
    refine hK11 _ _ ?_
    refine vck fun A B hA hB => ?_
    simp only [condV, ev_hit, lpv, Nat.reduceLT, true_implies, reduceCtorEq, false_implies, true_and, hl7_29]
    refine hB ?_
    clear hA hB A B
    refine vw_skip ?_
    refine hK10 _ _ ?_
    refine vsk fun K12 hK12 => ?_
    refine vw_en fun eqd hE => ?_
    obtain ⟨hlqd, qd_1⟩ : eqd.length = 137 ∧ ev eqd (.tmp 1) = .t (.v (.int .u8 z1)) := by
      (repeat' (with_reducible refine And.intro ?_ ?_)) <;> (rw [hE]; simp only [lpv, hl7_29, ev_miss, Nat.reduceBEq, r5_1])
    clear hE
    refine vw_st fun sqd hS => ?_
    have hnqd : sqd.next = s.next + 1 + 1 + 1 := by rw [hS]; simp only [hnqc]
    have hkqd : ∀ j, j < s.next → sqd.m j = s.m j := fun j hj => by have z0 : ¬ j = s.next := (by omega); have z1 : ¬ j = s.next + 1 := (by omega); have z2 : ¬ j = s.next + 1 + 1 := (by omega); rw [hS]; simp only [hkqc j hj]
    clear hS
    obtain ⟨x, hx, hx6⟩ : ∃ x : Nat, z1 % 6 = (x : Int) ∧ x < 6 := ⟨(z1 % 6).toNat, by omega, by omega⟩
    refine vw_cut 5 rfl ?_
    refine vl_chunk 0 0 2 3 [] [.far (.int .u8 (x : Int))] (by decide +kernel) (by decide) fun ops' KC hgs hKC => ?_
    simp only [bs, ↓vopx, ↓vop, flat, Nat.reduceLT, hlqd, qd_1, wocs, ↓goc, ↓woc, ↓vopm0, ↓farC]
    refine ⟨.inl ⟨_, _, rfl, rfl, by rw [rem_u8 _ _ _ _ _ b1.1 (by decide), hx]⟩, ?_⟩
    refine hKC _ _ ?_
    clear hgs hKC KC ops'
    refine vl_conv (i := 2) (m := 2) rfl rfl rfl (a := .int .u8 (x : Int)) (v := .int .i64 (x : Int)) (by simp only [ev_hit, lpv, hlqd, Nat.reduceLT]; rfl) (conv_u8 x hx6) ?_
    change VL _ _ _ (List.range' 3 2) (putv _ (some 83) (I (x : Int))) _
    refine vl_chunk 0 3 2 0 [] [] (by decide +kernel) (by decide) fun ops' KC hgs hKC => ?_
    simp only [bs, ↓vopx, ↓vop, flat, Nat.reduceLT, hlqd, wocs, ↓goc, ↓woc, ↓vopm0]
    refine And.intro ⟨by omega, by omega⟩ ?_
    refine hKC _ _ ?_
    clear hgs hKC KC ops'
    refine vl_nil ?_
    try simp only [thenV]
    refine hK12 _ _ ?_
    refine vsk fun K13 hK13 => ?_
    refine vw_en fun eqe hE => ?_
    obtain ⟨hlqe, qe_11⟩ : eqe.length = 137 ∧ ev eqe (.tmp 11) = I ((x : Int) + 2) := by
      (repeat' (with_reducible refine And.intro ?_ ?_)) <;> (rw [hE]; simp only [lpv, hlqd, ev_hit, Nat.reduceLT])
    clear hE
    refine vw_st fun sqe hS => ?_
    have hnqe : sqe.next = s.next + 1 + 1 + 1 := by rw [hS]; simp only [hnqd]
    have hkqe : ∀ j, j < s.next → sqe.m j = s.m j := fun j hj => by have z0 : ¬ j = s.next := (by omega); have z1 : ¬ j = s.next + 1 := (by omega); have z2 : ¬ j = s.next + 1 + 1 := (by omega); rw [hS]; simp only [hkqd j hj]
    clear hS
    refine vw_cut 3 rfl ?_
    refine vl_chunk 0 0 1 2 [] [] (by decide +kernel) (by decide) fun ops' KC hgs hKC => ?_
    simp only [bs, vparts, gfill, ↓vopx, wocs, ↓goc, ↓woc, ↓vopm0, Tryd.st25]
    refine hKC _ _ ?_
    clear hgs hKC KC ops'
    refine vl_env fun e10_0 hE => ?_
    obtain ⟨hl10_0, x4_11, x4_85⟩ : e10_0.length = 137 ∧ ev e10_0 (.tmp 11) = I ((x : Int) + 2) ∧ ev e10_0 (.tmp 85) = .agg [.t (.v (.slice none 0 0)), .t (.v (.slice none 0 0))] := by
      (repeat' (with_reducible refine And.intro ?_ ?_)) <;> (rw [hE]; simp only [lpv, hlqe, ev_miss, Nat.reduceBEq, qe_11, ev_hit, Nat.reduceLT])
    clear hE
    refine vl_chunk 0 1 2 0 [] [] (by decide +kernel) (by decide) fun ops' KC hgs hKC => ?_
    simp only [bs, Nat.reduceAdd, ↓vopx, ↓vop, Nat.reduceBEq, Nat.reduceLT, V.cells, hl10_0, x4_85, hnqe, wocs, ↓goc, ↓woc, ↓vopm0, Tryd.sz25, Tryd.zv25]
    refine hKC _ _ ?_
    clear hgs hKC KC ops'
    refine vl_nil ?_
    try simp only [thenV]
    refine hK13 _ _ ?_
    refine vsk fun K14 hK14 => ?_
    refine vw_sc 0 [] ?_
    simp only [bs, ↓vopx, ↓vop, thenV, flat, wocs, ↓goc, ↓woc, ↓vopm0]
    refine hK14 _ _ ?_
    refine vsk fun K15 hK15 => ?_
    refine vsk fun K16 hK16 => ?_
    refine VW.nameBox (s.next + 1 + 1 + 1) 0 1 9 (by omega) (ty := 25) (cs := [.t (.v (.slice none 0 0)), .t (.v (.slice none 0 0))]) (by simp only [m_set, m_add, hnqe, if_true]) rfl ?_
    refine VW.name 13 1 3 (by omega) (by simp only [ev_hit, lpv, hl10_0, Nat.reduceLT]) ?_
    refine vw_st2 fun s6 hS6 => ?_
    have hI : RgI s (s.next + 1 + 1 + 1) (x + 2) 0 0 ((s.next + 1 + 1 + 1) + 1) ((s.next + 1 + 1 + 1) + 1 + 1) s6 := by
      refine ⟨?_, ?_, ?_, fun j hj => ?_, by omega, ⟨by omega, ?_⟩, ⟨by omega, ?_⟩, by omega⟩
      · rw [hS6]; simp only [m_set, m_add, n_add, n_set, hnqe, nns, if_true, if_false, List.set_cons_zero]; try rfl
      · rw [hS6]; simp only [m_set, m_add, n_add, n_set, hnqe, nns, if_true, if_false, List.set_cons_zero]; try rfl
      · rw [hS6]; simp only [m_set, m_add, n_add, n_set, hnqe, nns, if_true, if_false, List.set_cons_zero]; try rfl
      · have z0 : ¬ j = s.next + 1 + 1 + 1 := (by omega); have z1 : ¬ j = s.next + 1 + 1 + 1 + 1 := (by omega); have z2 : ¬ j = s.next + 1 + 1 + 1 + 1 + 1 := (by omega); rw [hS6]; simp only [m_set, m_add, n_add, n_set, hnqe, z0, z1, z2, if_false]; exact hkqe j hj
      · rw [hS6]; simp only [n_add, n_set, hnqe]; omega
      · rw [hS6]; simp only [n_add, n_set, hnqe]; omega
    clear hS6
    refine vw_sc 0 [] ?_
    simp only [bs, ↓vopx, ↓vop, thenV, flat, hnqe, wocs, ↓goc, ↓woc, ↓vopm0]
    refine hK16 _ _ ?_
    refine vw_block ?_
    obtain ⟨nb, hnb⟩ : ∃ nb, nb = (s.next + 1 + 1 + 1) := ⟨_, rfl⟩
    rw [← hnb] at hI
    refine vw_loop (fun mm e' s' => ∃ i : Nat, mm = (x + 2) - i ∧ i ≤ (x + 2) ∧ e'.length = 137 ∧ ev e' (.tmp 11) = I ((x : Int) + 2) ∧ ev e' (.tmp 12) = .ptr nb 0 ∧ ev e' (.tmp 14) = I i ∧ True ∧ ∃ m1 m2, ev e' (.tmp 13) = .loc m2 0 i ∧ RgI s nb (x + 2) i i m1 m2 s') (⟨0, rfl, Nat.zero_le _, ?_⟩) ?_
    · try simp only [ev_hit, ev_miss, Nat.reduceBEq, lpv, hl10_0, x4_11, hnb, Nat.reduceLT, true_and]
      repeat ((with_reducible refine And.intro ?_ ?_); · trivial)
      rw [hnb] at hI
      first | exact ⟨_, _, rfl, hI⟩ | exact ⟨rfl, _, _, rfl, hI⟩
    rintro mm e s1 ⟨i, rfl, hle_i, hl, k11, k12, h_i, hst, ⟨m1, m2, v13, hI⟩⟩
    refine vsk fun K17 hK17 => ?_
    refine vsk fun K18 hK18 => ?_
    refine vw_sc 0 [] ?_
    simp only [bs, ↓vopx, ↓vop, Nat.reduceBEq, thenV, Nat.reduceLT, opII, hl, k11, h_i, wocs, ↓goc, ↓woc, ↓vopm0]
    refine hK18 _ _ ?_
    refine vck fun A B hA hB => ?_
    simp only [condV, ev_hit, lpv, Nat.reduceLT, decide_eq_true_eq, decide_eq_false_iff_not, hl]
    refine ⟨fun hc88 => hA ?_, fun hc88 => hB ?_⟩
    · clear hA hB A B
      refine vw_skip ?_
      refine hK17 _ _ ?_
      refine vsk fun K19 hK19 => ?_
      refine vw_block ?_
      refine vsk fun K20 hK20 => ?_
      have hIb := hI.b
      have hI1 := hI.a1
      have hl1 := hI.l1
      have hl2 := hI.l2
      have hd := hI.d
      have hlb := hI.lb
      have y1 : ¬ nb = m1 := by omega
      have y2 : ¬ nb = s1.next := by omega
      have y3 : ¬ m1 = s1.next := by omega
      have y4 : ¬ s1.next = m1 := by omega
      have y5 : ¬ nb = s1.next + 1 := by omega
      refine vw_sc 0 [] ?_
      simp only [bs, dstT, srcT, Nat.reduceLeDiff, Nat.reduceAdd, vparts, gfill, repl, Sg.frzP, ↓vopx, ↓vop, Nat.reduceBEq, thenV, flat, Nat.reduceLT, V.cells, dLoad, vpart, Sg.frzL, Sg.frz1, hl, k12, wocs, ↓goc, ↓woc, ↓vopm0, Tryd.ag22, Tryd.fd25_0, Tryd.sl22, Tryd.sz22, nns, hIb, hI1, y1, y2, y3, y5, List.length_replicate, Nat.div_one]
      repeat ((with_reducible refine And.intro ?_ ?_); · omega)
      refine hK20 _ _ ?_
      refine vw_st2 fun s2 hS2 => ?_
      have hI2 : RgI s nb (x + 2) (i + 1) i (s1.next + 1) m2 s2 := by rw [hS2]; exact hI.push1 _
      clear hS2
      have hJ2 := hI2.a2
      have hj1 := hI2.l1
      have hj2 := hI2.l2
      have hjd := hI2.d
      have hmod : ((i : Int) + 1) % ((x : Int) + 2) = (((i + 1) % (x + 2) : Nat) : Int) := by push_cast; rfl
      have hix : i < x + 2 := by omega
      have u1 : ¬ m2 = s2.next := by omega
      have u2 : ¬ s2.next = m2 := by omega
      refine vw_sc 0 [] ?_
      simp only [bs, dstT, srcT, Nat.reduceLeDiff, vparts, gfill, repl, Sg.frzP, ↓vopx, ↓vop, Nat.reduceBEq, thenV, blockV, flat, Nat.reduceLT, V.cells, opII, Sg.frzL, Sg.frz1, hl, k11, h_i, v13, wocs, ↓goc, ↓woc, ↓vopm0, Tryd.sl26, hJ2, hmod, turnL_len, u1, Nat.div_one]
      repeat ((with_reducible refine And.intro ?_ ?_); · first | omega | exact ⟨by omega, by omega⟩)
      refine hK19 _ _ ?_
      refine vw_sc 0 [] ?_
      simp only [bs, ↓vopx, ↓vop, Nat.reduceBEq, thenV, flat, Nat.reduceLT, opII, hl, k11, k12, h_i, wocs, ↓goc, ↓woc, ↓vopm0]
      repeat ((with_reducible refine And.intro ?_ ?_); · exact ⟨by omega, by omega⟩)
      refine ⟨(x + 2) - (i + 1), by omega, i + 1, rfl, by omega, ?_⟩
      try simp only [ev_hit, ev_miss, Nat.reduceBEq, lpv, hl, k11, k12, h_i, v13, if_true, if_false, Nat.reduceEqDiff, Nat.reduceLT, true_and, and_true]
      repeat ((with_reducible refine And.intro ?_ ?_); · trivial)
      exact ⟨_, _, rfl, hI2.push2 _⟩
    · clear hA hB A B
      refine vw_exit ?_
      simp only [thenV, blockV, if_true]
      refine hK15 _ _ ?_
      refine vsk fun K21 hK21 => ?_
      have hix : i = x + 2 := by omega
      have gb := hI.b
      have g1 := hI.a1
      have g2 := hI.a2
      have gs := hI.same
      have glb := hI.lb
      have gl1 := hI.l1
      have gl2 := hI.l2
      have gd := hI.d
      have htl := turnL_len (x + 2) i
      refine VW.freezeBox nb 0 (n := m1) gb rfl g1 (by simp) ?_
      refine VW.freeze 13 (n := m2) (len := i) (k := 1) (el := 3) (cs := (turnL (x + 2) i).map TI) ?_ ?_ (by simp [htl]) ?_
      · simp only [ev_miss, Nat.reduceBEq, v13]
      · rw [m_set, if_neg (by omega), m_del, if_neg (fun e => gd e.symm)]; exact g2
      refine VW.nilBox nb 1 2 (by omega) (ty := 25) (vs := [.t (tStrs (List.replicate i k7x)), .t (.v (.slice none 0 0))]) (by rw [m_del, if_neg (by omega), m_set, if_pos rfl]; rfl) rfl ?_
      refine vw_en fun ea hE => ?_
      have hl0_ := hl
      obtain ⟨hl, k11, k12, v13⟩ : ea.length = 137 ∧ ev ea (.tmp 11) = I ((x : Int) + 2) ∧ ev ea (.tmp 12) = .ptr nb 0 ∧ ev ea (.tmp 13) = .t (tInts (turnL (x + 2) i)) := by
        (repeat' (with_reducible refine And.intro ?_ ?_)) <;> (rw [hE]; simp only [lpv, hl0_, ev_miss, Nat.reduceBEq, k11, k12, ev_hit, Nat.reduceLT])
      clear hE
      refine vw_st2 fun sa hS => ?_
      have qnb : sa.m nb = some (.box 25 [.t (tStrs (List.replicate i k7x)), .t (.sl 2 [])]) := by rw [hS, m_set, if_pos rfl]; rfl
      have ina : nb < sa.next := by rw [hS]; simp only [n_set, n_del]; omega
      have ika : ∀ j, j < s.next → sa.m j = s.m j := fun j hj => by rw [hS, m_set, if_neg (by omega), m_del, if_neg (by omega), m_set, if_neg (by omega), m_del, if_neg (by omega)]; exact gs j hj
      clear hS
      subst hix
      obtain ⟨q, ll, hcr, r1, r2, r3⟩ := ring_of hx6
      refine vw_cut 15 rfl ?_
      refine vl_chunk 1 0 2 13 [] [] (by decide +kernel) (by decide) fun ops' KC hgs hKC => ?_
      simp only [bs, Nat.reduceLeDiff, Nat.reduceAdd, vparts, gfill, repl, Sg.frzP, ↓vopx, ↓vop, Nat.reduceLT, V.cells, dLoad, vpart, Sg.frzL, Sg.frz1, hl, k12, wocs, ↓goc, ↓woc, ↓vopm1, Tryd.ag25, Tryd.sl59, Tryd.sz25, qnb, Nat.reduceMul]
      refine hKC _ _ ?_
      clear hgs hKC KC ops'
      refine vl_env fun e17_0 hE => ?_
      obtain ⟨hl17_0, j1_11, j1_13, j1_105⟩ : e17_0.length = 137 ∧ ev e17_0 (.tmp 11) = I ((x : Int) + 2) ∧ ev e17_0 (.tmp 13) = .t (tInts (turnL (x + 2) (x + 2))) ∧ ev e17_0 (.tmp 105) = .t (.sl 2 [tStrs (List.replicate (x + 2) k7x), .sl 2 []]) := by
        (repeat' (with_reducible refine And.intro ?_ ?_)) <;> (rw [hE]; simp only [lpv, hl, ev_miss, Nat.reduceBEq, k11, v13, ev_hit, Nat.reduceLT])
      clear hE
      refine vl_chunk 1 2 2 11 [] [] (by decide +kernel) (by decide) fun ops' KC hgs hKC => ?_
      simp only [bs, Nat.reduceAdd, vparts, gfill, ↓vopx, ↓vop, Nat.reduceLT, V.cells, hl17_0, j1_13, wocs, ↓goc, ↓woc, ↓vopm1, Tryd.st72]
      refine hKC _ _ ?_
      clear hgs hKC KC ops'
      refine vl_env fun e17_1 hE => ?_
      obtain ⟨hl17_1, j2_11, j2_105, j2_107⟩ : e17_1.length = 137 ∧ ev e17_1 (.tmp 11) = I ((x : Int) + 2) ∧ ev e17_1 (.tmp 105) = .t (.sl 2 [tStrs (List.replicate (x + 2) k7x), .sl 2 []]) ∧ ev e17_1 (.tmp 107) = .agg [.t (.v (.int .i64 0)), .t (.v (.int .i64 0)), .t (tInts (turnL (x + 2) (x + 2)))] := by
        (repeat' (with_reducible refine And.intro ?_ ?_)) <;> (rw [hE]; simp only [lpv, hl17_0, ev_miss, Nat.reduceBEq, j1_11, j1_105, ev_hit, Nat.reduceLT])
      clear hE
      refine vl_chunk 1 4 1 10 [] [] (by decide +kernel) (by decide) fun ops' KC hgs hKC => ?_
      simp only [bs, Nat.reduceLeDiff, Nat.reduceAdd, vparts, gfill, repl, Sg.frzP, ↓vopx, V.cells, Sg.frzL, Sg.frz1, j2_107, wocs, ↓goc, ↓woc, ↓vopm1, Tryd.sl60, s3z, Nat.reduceMul]
      refine hKC _ _ ?_
      clear hgs hKC KC ops'
      refine vl_env fun e17_2 hE => ?_
      obtain ⟨hl17_2, j3_11, j3_105, j3_108⟩ : e17_2.length = 137 ∧ ev e17_2 (.tmp 11) = I ((x : Int) + 2) ∧ ev e17_2 (.tmp 105) = .t (.sl 2 [tStrs (List.replicate (x + 2) k7x), .sl 2 []]) ∧ ev e17_2 (.tmp 108) = .t (.sl 3 [.v (.int .i64 0), .v (.int .i64 0), tInts (turnL (x + 2) (x + 2))]) := by
        (repeat' (with_reducible refine And.intro ?_ ?_)) <;> (rw [hE]; simp only [lpv, hl17_1, ev_miss, Nat.reduceBEq, j2_11, j2_105, ev_hit, Nat.reduceLT])
      clear hE
      refine vl_chunk 1 5 1 9 [] [] (by decide +kernel) (by decide) fun ops' KC hgs hKC => ?_
      simp only [bs, Nat.reduceLeDiff, Nat.reduceAdd, vparts, gfill, ↓vopx, V.cells, j3_105, j3_108, wocs, ↓goc, ↓woc, ↓vopm1, Tryd.st62]
      refine hKC _ _ ?_
      clear hgs hKC KC ops'
      refine vl_env fun e17_3 hE => ?_
      obtain ⟨hl17_3, j4_11, j4_109⟩ : e17_3.length = 137 ∧ ev e17_3 (.tmp 11) = I ((x : Int) + 2) ∧ ev e17_3 (.tmp 109) = .agg [.t (.sl 2 [tStrs (List.replicate (x + 2) k7x), .sl 2 []]), .t (.sl 3 [.v (.int .i64 0), .v (.int .i64 0), tInts (turnL (x + 2) (x + 2))])] := by
        (repeat' (with_reducible refine And.intro ?_ ?_)) <;> (rw [hE]; simp only [lpv, hl17_2, ev_miss, Nat.reduceBEq, j3_11, ev_hit, Nat.reduceLT])
      clear hE
      refine vl_chunk 1 6 9 0 [] [.pur (.tup [vObj q, .t (.sl 1 [tInts ll]), I 0])] (by decide +kernel) (by decide) fun ops' KC hgs hKC => ?_
      simp only [bs, Nat.reduceAdd, ↓vopx, ↓vop, Nat.reduceBEq, Nat.reduceLT, V.cells, hl17_3, j4_109, wocs, ↓goc, ↓woc, ↓vopm1, ↓callC, calleeV, Tryd.sz25, Tryd.zv25]
      repeat ((with_reducible refine And.intro ?_ ?_); · exact ⟨Tryd.is50, pl_cr (by omega) hcr⟩)
      refine hKC _ _ ?_
      clear hgs hKC KC ops'
      refine vl_nil ?_
      try simp only [thenV]
      refine hK21 _ _ ?_
      refine vsk fun K22 hK22 => ?_
      refine vw_st2 fun sb hSb => ?_
      have qb15 : sb.m sa.next = some (.box 25 [.t (tStrs q.labels), .t (tPairs q.pairs)]) := by rw [hSb, m_set, if_pos rfl]
      have kb : ∀ j, j < s.next → sb.m j = s.m j := fun j hj => by rw [hSb, m_set, if_neg (by omega), m_add, if_neg (by omega)]; exact ika j hj
      clear hSb
      have wx : ((x : Int) + 2 - 1).toNat = x + 1 := by omega
      have hxl : x + 1 < ll.length := by omega
      refine vw_cut 24 rfl ?_
      refine vl_chunk 0 0 9 15 [(2, 116)] [] (by decide +kernel) (by decide) fun ops' KC hgs hKC => ?_
      have g2_ : gtmp ops' 2 = some 116 := hgs (2, 116) (by simp)
      simp only [bs, ↓vopx, ↓vop, Nat.reduceBEq, flat, Nat.reduceLT, dLoad, vpart, opII, hl17_3, g2_, wocs, ↓goc, ↓woc, ↓vopm0, ↓pick_tt, Tryd.ag22, Tryd.fd25_0, Tryd.sz22, Tryd.un22, nns, vlen_s1', qb15, r1, nd1', beq_self_eq_true]
      refine hKC _ _ ?_
      clear g2_
      clear hgs hKC KC ops'
      refine vl_env fun e18_0 hE => ?_
      obtain ⟨hl18_0, w1_11, w1_15, w1_16, w1_g⟩ : e18_0.length = 137 ∧ ev e18_0 (.tmp 11) = I ((x : Int) + 2) ∧ ev e18_0 (.tmp 15) = .ptr sa.next 0 ∧ ev e18_0 (.tmp 16) = .t (.sl 1 [tInts ll]) ∧ ev e18_0 (.tmp 122) = Bo true := by
        (repeat' (with_reducible refine And.intro ?_ ?_)) <;> (rw [hE]; simp only [lpv, hl17_3, ev_miss, Nat.reduceBEq, j4_11, ev_hit, Nat.reduceLT])
      clear hE
      refine vl_chunk 0 9 5 10 [(8, 122)] [] (by decide +kernel) (by decide) fun ops' KC hgs hKC => ?_
      have g8_ : gtmp ops' 8 = some 122 := hgs (8, 122) (by simp)
      simp only [bs, ↓vopx, ↓vop, Nat.reduceBEq, flat, Nat.reduceLT, opII, hl18_0, w1_16, w1_g, g8_, wocs, ↓goc, ↓woc, ↓vopm0, ↓pick_tt, vlen_s1', Tryd.underlying63, nd1', beq_self_eq_true]
      refine hKC _ _ ?_
      clear g8_
      clear hgs hKC KC ops'
      refine vl_env fun e18_1 hE => ?_
      obtain ⟨hl18_1, w2_11, w2_15, w2_16, w2_g⟩ : e18_1.length = 137 ∧ ev e18_1 (.tmp 11) = I ((x : Int) + 2) ∧ ev e18_1 (.tmp 15) = .ptr sa.next 0 ∧ ev e18_1 (.tmp 16) = .t (.sl 1 [tInts ll]) ∧ ev e18_1 (.tmp 127) = Bo true := by
        (repeat' (with_reducible refine And.intro ?_ ?_)) <;> (rw [hE]; simp only [lpv, hl18_0, ev_miss, Nat.reduceBEq, w1_11, w1_15, w1_16, ev_hit, Nat.reduceLT])
      clear hE
      refine vl_chunk 0 14 10 0 [(13, 127)] [] (by decide +kernel) (by decide) fun ops' KC hgs hKC => ?_
      have g13_ : gtmp ops' 13 = some 127 := hgs (13, 127) (by simp)
      simp only [bs, ↓vopx, ↓vop, Nat.reduceBEq, flat, Nat.reduceLT, dLoad, vpart, opII, hl18_1, w2_11, w2_16, w2_g, g13_, wocs, ↓goc, ↓woc, ↓vopm0, ↓pick_tt, Tryd.ag26, Tryd.ag3, Tryd.sz26, Tryd.sz3, Tryd.un26, Tryd.un63, r2, r3, wx, Int.toNat_zero, beq_self_eq_true]
      repeat ((with_reducible refine And.intro ?_ ?_); · first | omega | exact ⟨by omega, by omega⟩)
      refine hKC _ _ ?_
      clear g13_
      clear hgs hKC KC ops'
      refine vl_nil ?_
      try simp only [thenV]
      refine hK22 _ _ ?_
      refine vw_ret ?_
      refine hQ _ _ _ (.inr rfl) (done_tmp ?_ fun n b hn h => (kb n hn).trans h)
      try simp only [ev_hit, lpv, hl18_1, Nat.reduceLT]
end Go.Proofs

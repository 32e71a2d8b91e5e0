/- Lemmas on the way to the statement of this claim; no conditions. -/
import Derived.Shelf.Sort.AssemblyIn
import Derived.Shelf.Slices.In.SortNone
import Derived.Test.YtkdkajlgbhggdaaDoorM33
import Derived.Test.YtkdkajlgbhggdaaDoorM34
import Derived.Test.YtkdkajlgbhggdaaDoorM37
import Derived.Test.YtkdkajlgbhggdaaDoorM38
import Derived.Test.YtkdkajlgbhggdaaDoorM39
import Derived.Test.YtkdkajlgbhggdaaDoorM40
import Derived.Test.YtkdkajlgbhggdaaDoorM42
import Derived.Test.YtkdkajlgbhggdaaDoorM44
import Derived.Test.YtkdkajlgbhggdaaDoorM47
import Derived.Test.YtkdkajlgbhggdaaDoorM48
open Go Go.V
namespace Go.Proofs
theorem thenS_le (f g : List Int) : (thenS f g).1.length ≤ f.length := by
  unfold thenS; split <;> simp
end Go.Proofs

open Go Go.V
namespace Go.Proofs
abbrev pushE (a b c : Ob) (f g : List Int) : Ob × List Int × Int := eqS a (besideS b c) (thenS f (legT b.labels.length 0)).1 (thenS g (legT c.labels.length b.labels.length)).1
def pushS (a b c : Ob) (f g : List Int) : Ob × List Int × List Int × Int :=
  if largeS [a] = true ∨ largeS [b, c] = true then (⟨[], []⟩, [], [], 11) else if arrS a b f = true ∧ arrS a c g = true then
    (if (pushE a b c f g).2.2 = 0 then ((pushE a b c f g).1, (thenS (legT b.labels.length 0) (pushE a b c f g).2.1).1, (thenS (legT c.labels.length b.labels.length) (pushE a b c f g).2.1).1, 0) else (⟨[], []⟩, [], [], (pushE a b c f g).2.2))
  else (⟨[], []⟩, [], [], 10)
end Go.Proofs

open Go Go.V
namespace Go.Proofs
theorem few_le {o : Ob} (h : fewS o = true) : o.labels.length ≤ 50 ∧ o.pairs.length ≤ 200 := by
  unfold fewS at h
  simp only [Bool.and_eq_true, decide_eq_true_eq] at h
  exact ⟨h.1.2, h.2⟩
end Go.Proofs

open Go Go.V
namespace Go.Proofs
def fillN (n i : Nat) : List Int := List.replicate i (-1) ++ List.replicate (n - i) 0
theorem fillN_len {n i : Nat} (h : i ≤ n) : (fillN n i).length = n := by simp [fillN]; omega
theorem fillN_set {n i : Nat} (h : i < n) : (fillN n i).set i (-1) = fillN n (i + 1) := by
  unfold fillN
  rw [List.set_append_right _ _ (by simp), List.length_replicate, Nat.sub_self, show n - i = (n - (i + 1)) + 1 by omega, List.replicate_succ, List.set_cons_zero, List.replicate_succ', List.append_assoc]; rfl
theorem fillN_zero (n : Nat) : repl [TI 0] n = (fillN n 0).map TI := by
  rw [repl_one]; simp [fillN]
theorem fillN_full (n : Nat) : fillN n n = List.replicate n (-1) := by simp [fillN]
def putL (o l w : List Int) : Nat → List Int
  | 0 => o
  | x + 1 => (putL o l w x).set (l.getD x 0).toNat (w.getD x 0)
theorem putL_len (o l w : List Int) : ∀ x, (putL o l w x).length = o.length
  | 0 => rfl
  | x + 1 => by simp [putL, putL_len o l w x]
theorem putL_succ {o l w : List Int} {x : Nat} {y z : Int} (hy : l[x]? = some y) (hz : w[x]? = some z) : putL o l w (x + 1) = (putL o l w x).set y.toNat z := by
  show (putL o l w x).set (l.getD x 0).toNat (w.getD x 0) = _
  rw [getD_of hy, getD_of hz]
def outK (n : Nat) (legs ways : List (List Int)) : Nat → List Int
  | 0 => List.replicate n (-1)
  | i + 1 => if (legs.getD i []).length = (ways.getD i []).length then putL (outK n legs ways i) (legs.getD i []) (ways.getD i []) (legs.getD i []).length else outK n legs ways i
theorem outK_len (n : Nat) (legs ways : List (List Int)) : ∀ i, (outK n legs ways i).length = n
  | 0 => by simp [outK]
  | i + 1 => by unfold outK; split <;> simp [putL_len, outK_len n legs ways i]
theorem outK_skip {n : Nat} {legs ways : List (List Int)} {i : Nat} {l w : List Int} (hl : legs[i]? = some l) (hw : ways[i]? = some w) (h : l.length ≠ w.length) : outK n legs ways (i + 1) = outK n legs ways i := by
  show (if (legs.getD i []).length = (ways.getD i []).length then _ else _) = _
  rw [List.getD_eq_getElem?_getD, List.getD_eq_getElem?_getD, hl, hw]
  exact if_neg h
theorem outK_put {n : Nat} {legs ways : List (List Int)} {i : Nat} {l w : List Int} (hl : legs[i]? = some l) (hw : ways[i]? = some w) (h : l.length = w.length) : outK n legs ways (i + 1) = putL (outK n legs ways i) l w l.length := by
  show (if (legs.getD i []).length = (ways.getD i []).length then putL _ (legs.getD i []) (ways.getD i []) (legs.getD i []).length else _) = _
  rw [List.getD_eq_getElem?_getD, List.getD_eq_getElem?_getD, hl, hw]
  exact if_pos h
def outS (n : Nat) (legs ways : List (List Int)) : List Int := outK n legs ways legs.length
theorem mneg (z : Int) : (T.v (Value.int .i64 z)) = TI z := rfl
set_option maxRecDepth 20000 in
set_option maxHeartbeats 4000000 in
theorem out_ (n : Nat) (hn : n ≤ 1000) (legs ways : List (List Int)) (hlw : legs.length ≤ ways.length) (hll : legs.length ≤ 1000) (hsz : ∀ l ∈ legs, l.length ≤ 1000) (hin : ∀ l ∈ legs, ∀ y ∈ l, 0 ≤ y ∧ y < (n : Int)) : PCall Tryd.prog 81 [I n, .t (tMat legs), .t (tMat ways)] (.t (tInts (outS n legs ways))) := by
  refine pcall_of_body Tryd.func81 rfl fun s Q hQ => ?_
  obtain ⟨e, he, hl, h0, h1, h2⟩ : ∃ e : Env, ([I n, .t (tMat legs), .t (tMat ways)] ++ List.replicate (Tryd.f81.ntmps - ([I n, .t (tMat legs), .t (tMat ways)] : List V).length) .junk) = e ∧ e.length = 59 ∧ ev e (.tmp 0) = I n ∧ ev e (.tmp 1) = .t (tMat legs) ∧ ev e (.tmp 2) = .t (tMat ways) := ⟨_, rfl, rfl, rfl, rfl, rfl⟩
  rw [he]
  clear he
  refine vsk fun K1 hK1 => ?_
  refine vw_sc 0 [] ?_
  simp only [bs, ↓vopx, ↓vop, thenV, flat, wocs, ↓goc, ↓woc, ↓vopm0]
  refine hK1 _ _ ?_
  refine vw_scope ?_
  refine vsk fun K2 hK2 => ?_
  refine vw_sc 0 [] ?_
  simp only [bs, ↓vopx, ↓vop, Nat.reduceBEq, thenV, Nat.reduceLT, hl, h0, wocs, ↓goc, ↓woc, ↓vopm0, Tryd.sl26, fillN_zero]
  repeat ((with_reducible refine And.intro ?_ ?_); · omega)
  refine hK2 _ _ ?_
  refine vsk fun K3 hK3 => ?_
  refine vsk fun K4 hK4 => ?_
  refine vw_sc 0 [] ?_
  simp only [bs, ↓vopx, ↓vop, thenV, flat, Nat.reduceLT, hl, wocs, ↓goc, ↓woc, ↓vopm0]
  refine hK4 _ _ ?_
  refine vw_block ?_
  refine vw_loop (fun mm e' s' => ∃ i : Nat, mm = n - i ∧ i ≤ n ∧ e'.length = 59 ∧ ev e' (.tmp 1) = .t (tMat legs) ∧ ev e' (.tmp 2) = .t (tMat ways) ∧ ev e' (.tmp 7) = .loc s.next 0 n ∧ ev e' (.tmp 16) = I n ∧ ev e' (.tmp 17) = I i ∧ True ∧ s'.m s.next = some (.arr 1 3 ((fillN n i).map TI)) ∧ ∀ j, j < s.next → s'.m j = s.m j) (⟨0, rfl, Nat.zero_le _, ?_⟩) ?_
  · try simp only [ev_hit, ev_miss, Nat.reduceBEq, lpv, hl, h1, h2, Nat.reduceLT, true_and]
    repeat ((with_reducible refine And.intro ?_ ?_); · trivial)
    exact ⟨add_self _ _, fun j hj => by rw [m_add, if_neg (by omega)]⟩
  rintro mm e s1 ⟨i, rfl, hle_i, hl, k1, k2, k7, k16, h_i, hst, ⟨hM, hSm⟩⟩
  refine vsk fun K5 hK5 => ?_
  refine vw_sc 0 [] ?_
  simp only [thenV, opII, k16, h_i, wocs, ↓goc, ↓woc]
  refine hK5 _ _ ?_
  refine vsk fun K6 hK6 => ?_
  refine vck fun A B hA hB => ?_
  simp only [condV, ev_hit, Nat.reduceLT, decide_eq_true_eq, decide_eq_false_iff_not, hl]
  refine ⟨fun hc18 => hA ?_, fun hc18 => hB ?_⟩
  · clear hA hB A B
    refine vw_skip ?_
    refine hK6 _ _ ?_
    refine vsk fun K7 hK7 => ?_
    refine vw_block ?_
    refine vsk fun K8 hK8 => ?_
    refine vw_sc 0 [] ?_
    simp only [bs, ↓vopx, ↓vop, Nat.reduceBEq, thenV, Nat.reduceLT, hl, h_i, wocs, ↓goc, ↓woc, ↓vopm0]
    refine hK8 _ _ ?_
    have hfl := fillN_len hle_i
    have hin1 : i < n := by omega
    refine vw_sc 0 [] ?_
    simp only [bs, ↓vopx, ↓vop, Nat.reduceBEq, thenV, blockV, flat, Nat.reduceLT, V.cells, Sg.frzL, Sg.frz1, hl, k7, wocs, ↓goc, ↓woc, ↓vopm0, Tryd.sz3, Tryd.un26, hM, hfl]
    repeat ((with_reducible refine And.intro ?_ ?_); · first | (with_reducible assumption) | omega)
    refine hK7 _ _ ?_
    refine vw_sc 0 [] ?_
    simp only [bs, ↓vopx, ↓vop, Nat.reduceBEq, thenV, flat, Nat.reduceLT, opII, hl, k1, k2, k7, k16, h_i, wocs, ↓goc, ↓woc, ↓vopm0, tMat]
    repeat ((with_reducible refine And.intro ?_ ?_); · exact ⟨by omega, by omega⟩)
    refine ⟨n - (i + 1), by omega, i + 1, rfl, by omega, ?_⟩
    try simp only [ev_hit, ev_miss, Nat.reduceBEq, lpv, hl, k1, k2, k7, k16, h_i, if_true, if_false, Nat.reduceEqDiff, Nat.reduceLT, true_and, and_true]
    repeat ((with_reducible refine And.intro ?_ ?_); · trivial)
    exact ⟨by rw [mneg, setAll_TI2 _ (by omega), fillN_set hin1], fun j hj => by rw [if_neg (by omega)]; exact hSm j hj⟩
  · clear hA hB A B
    refine vw_exit ?_
    simp only [thenV, blockV, noGoto, if_true]
    refine hK3 _ _ ?_
    refine vsk fun K9 hK9 => ?_
    refine vw_label ?_
    try simp only [thenV]
    refine hK9 _ _ ?_
    refine vsk fun K10 hK10 => ?_
    refine vsk fun K11 hK11 => ?_
    refine vw_sc 0 [] ?_
    simp only [bs, ↓vopx, ↓vop, Nat.reduceBEq, thenV, flat, Nat.reduceLT, hl, k1, wocs, ↓goc, ↓woc, ↓vopm0, len_tMat, tMat]
    refine hK11 _ _ ?_
    refine vw_block ?_
    refine vw_loop (fun mm e' s' => ∃ i2 : Nat, mm = legs.length - i2 ∧ i2 ≤ legs.length ∧ e'.length = 59 ∧ ev e' (.tmp 2) = .t (tMat ways) ∧ ev e' (.tmp 7) = .loc s.next 0 n ∧ ev e' (.tmp 24) = .t (tMat legs) ∧ ev e' (.tmp 25) = I legs.length ∧ ev e' (.tmp 26) = I i2 ∧ True ∧ s'.m s.next = some (.arr 1 3 ((outK n legs ways i2).map TI)) ∧ ∀ j, j < s.next → s'.m j = s.m j) (⟨0, rfl, Nat.zero_le _, ?_⟩) ?_
    · try simp only [ev_hit, ev_miss, Nat.reduceBEq, lpv, hl, k2, k7, Nat.reduceLT, true_and]
      repeat ((with_reducible refine And.intro ?_ ?_); · trivial)
      have hiN : i = n := by omega
      subst hiN
      rw [fillN_full] at hM
      exact ⟨hM, hSm⟩
    rintro mm e s1 ⟨i2, rfl, hle_i2, hl, m2, m7, m24, m25, h_i2, hst, ⟨hM, hSm⟩⟩
    refine vsk fun K12 hK12 => ?_
    refine vw_sc 0 [] ?_
    simp only [thenV, opII, m25, h_i2, wocs, ↓goc, ↓woc]
    refine hK12 _ _ ?_
    refine vsk fun K13 hK13 => ?_
    refine vck fun A B hA hB => ?_
    simp only [condV, ev_hit, Nat.reduceLT, decide_eq_true_eq, decide_eq_false_iff_not, hl]
    refine ⟨fun hc27 => hA ?_, fun hc27 => hB ?_⟩
    · clear hA hB A B
      refine vw_skip ?_
      refine hK13 _ _ ?_
      refine vsk fun K14 hK14 => ?_
      refine vw_block ?_
      refine vsk fun K15 hK15 => ?_
      obtain ⟨l, hl9⟩ : ∃ l, legs[i2]? = some l := ⟨_, List.getElem?_eq_getElem (by omega)⟩
      obtain ⟨w, hw9⟩ : ∃ w, ways[i2]? = some w := ⟨_, List.getElem?_eq_getElem (by omega)⟩
      have hls := hsz l (List.mem_of_getElem? hl9)
      have hi2 : i2 < legs.length := by omega
      have hi3 : i2 < ways.length := by omega
      refine vw_sc 0 [] ?_
      simp only [bs, ↓vopx, ↓vop, Nat.reduceBEq, thenV, Nat.reduceLT, dLoad, vpart, hl, m24, h_i2, wocs, ↓goc, ↓woc, ↓vopm0, Tryd.ag26, Tryd.sz26, Tryd.un63, tMat, hl9]
      repeat ((with_reducible refine And.intro ?_ ?_); · (with_reducible assumption))
      refine hK15 _ _ ?_
      refine vsk fun K16 hK16 => ?_
      refine vsk fun K17 hK17 => ?_
      refine vw_sc 0 [] ?_
      simp only [bs, ↓vopx, ↓vop, Nat.reduceBEq, thenV, Nat.reduceLT, dLoad, vpart, opII, hl, m2, wocs, ↓goc, ↓woc, ↓vopm0, Tryd.ag26, Tryd.sz26, Tryd.un26, Tryd.un63, len_tInts, tMat, hw9]
      repeat ((with_reducible refine And.intro ?_ ?_); · (with_reducible assumption))
      refine hK17 _ _ ?_
      refine vck fun A B hA hB => ?_
      simp only [condV, ev_hit, lpv, Nat.reduceLT, bne_iff_ne, bne_eq_false_iff_eq, ne_eq, hl]
      refine ⟨fun hc38 => hA ?_, fun hc38 => hB ?_⟩
      · clear hA hB A B
        refine vw_exit ?_
        simp only [thenV, blockV, noGoto, if_true, if_false, Nat.reduceEqDiff]
        refine hK14 _ _ ?_
        refine vw_sc 0 [] ?_
        simp only [bs, ↓vopx, ↓vop, Nat.reduceBEq, thenV, flat, Nat.reduceLT, opII, hl, m2, m7, m24, m25, h_i2, wocs, ↓goc, ↓woc, ↓vopm0, tMat]
        repeat ((with_reducible refine And.intro ?_ ?_); · exact ⟨by omega, by omega⟩)
        refine ⟨legs.length - (i2 + 1), by omega, i2 + 1, rfl, by omega, ?_⟩
        try simp only [ev_hit, ev_miss, Nat.reduceBEq, lpv, hl, m2, m7, m24, m25, h_i2, if_true, if_false, Nat.reduceEqDiff, Nat.reduceLT, true_and, and_true]
        repeat ((with_reducible refine And.intro ?_ ?_); · trivial)
        first
          | exact ⟨by rw [outK_skip hl9 hw9 (by omega)]; exact hM, hSm⟩
          | exact ⟨by rw [outK_put hl9 hw9 (by omega), show l.length = j from by omega]; exact hM, hSm⟩
      · clear hA hB A B
        refine vw_skip ?_
        refine hK16 _ _ ?_
        refine vsk fun K18 hK18 => ?_
        refine vw_sc 0 [] ?_
        simp only [bs, ↓vopx, ↓vop, Nat.reduceBEq, thenV, flat, Nat.reduceLT, hl, wocs, ↓goc, ↓woc, ↓vopm0, len_tInts]
        refine hK18 _ _ ?_
        refine vw_block ?_
        refine vw_loop (fun mm e' s' => ∃ j : Nat, mm = l.length - j ∧ j ≤ l.length ∧ e'.length = 59 ∧ ev e' (.tmp 2) = .t (tMat ways) ∧ ev e' (.tmp 7) = .loc s.next 0 n ∧ ev e' (.tmp 9) = I i2 ∧ ev e' (.tmp 24) = .t (tMat legs) ∧ ev e' (.tmp 25) = I legs.length ∧ ev e' (.tmp 26) = I i2 ∧ ev e' (.tmp 39) = .t (tInts l) ∧ ev e' (.tmp 40) = I l.length ∧ ev e' (.tmp 41) = I j ∧ True ∧ s'.m s.next = some (.arr 1 3 ((putL (outK n legs ways i2) l w j).map TI)) ∧ ∀ j, j < s.next → s'.m j = s.m j) (⟨0, rfl, Nat.zero_le _, ?_⟩) ?_
        · try simp only [ev_hit, ev_miss, Nat.reduceBEq, lpv, hl, m2, m7, m24, m25, Nat.reduceLT, true_and]
          repeat ((with_reducible refine And.intro ?_ ?_); · trivial)
          exact hSm
        rintro mm e s1 ⟨j, rfl, hle_j, hl, p2, p7, p9, p24, p25, p26, p39, p40, h_j, hst, ⟨hM, hSm⟩⟩
        refine vsk fun K19 hK19 => ?_
        refine vw_sc 0 [] ?_
        simp only [thenV, opII, p40, h_j, wocs, ↓goc, ↓woc]
        refine hK19 _ _ ?_
        refine vsk fun K20 hK20 => ?_
        refine vck fun A B hA hB => ?_
        simp only [condV, ev_hit, Nat.reduceLT, decide_eq_true_eq, decide_eq_false_iff_not, hl]
        refine ⟨fun hc42 => hA ?_, fun hc42 => hB ?_⟩
        · clear hA hB A B
          refine vw_skip ?_
          refine hK20 _ _ ?_
          refine vsk fun K21 hK21 => ?_
          refine vw_block ?_
          refine vsk fun K22 hK22 => ?_
          obtain ⟨y, hy⟩ : ∃ y, l[j]? = some y := ⟨_, List.getElem?_eq_getElem (by omega)⟩
          obtain ⟨z, hz⟩ : ∃ z, w[j]? = some z := ⟨_, List.getElem?_eq_getElem (by omega)⟩
          have hjl : j < l.length := by omega
          have hjw : j < w.length := by omega
          have hyb := hin l (List.mem_of_getElem? hl9) y (List.mem_of_getElem? hy)
          refine vw_sc 0 [] ?_
          simp only [bs, ↓vopx, ↓vop, Nat.reduceBEq, thenV, Nat.reduceLT, dLoad, vpart, hl, p39, h_j, wocs, ↓goc, ↓woc, ↓vopm0, Tryd.ag3, Tryd.sz3, Tryd.un26, hy]
          repeat ((with_reducible refine And.intro ?_ ?_); · (with_reducible assumption))
          refine hK22 _ _ ?_
          have hpl := putL_len (outK n legs ways i2) l w j
          have hol := outK_len n legs ways i2
          refine vw_sc 0 [] ?_
          simp only [bs, ↓vopx, ↓vop, Nat.reduceBEq, thenV, blockV, Nat.reduceLT, V.cells, dLoad, vpart, Sg.frzL, Sg.frz1, hl, p2, p7, p9, wocs, ↓goc, ↓woc, ↓vopm0, Tryd.ag26, Tryd.ag3, Tryd.sz26, Tryd.sz3, Tryd.un26, Tryd.un63, tMat, hM, hz, hw9, hpl, hol]
          repeat ((with_reducible refine And.intro ?_ ?_); · first | (with_reducible assumption) | omega)
          refine hK21 _ _ ?_
          refine vw_sc 0 [] ?_
          simp only [bs, ↓vopx, ↓vop, Nat.reduceBEq, thenV, flat, Nat.reduceLT, opII, hl, p2, p7, p9, p24, p25, p26, p39, p40, h_j, wocs, ↓goc, ↓woc, ↓vopm0, tMat]
          repeat ((with_reducible refine And.intro ?_ ?_); · exact ⟨by omega, by omega⟩)
          refine ⟨l.length - (j + 1), by omega, j + 1, rfl, by omega, ?_⟩
          try simp only [ev_hit, ev_miss, Nat.reduceBEq, lpv, hl, p2, p7, p9, p24, p25, p26, p39, p40, h_j, if_true, if_false, Nat.reduceEqDiff, Nat.reduceLT, true_and, and_true]
          repeat ((with_reducible refine And.intro ?_ ?_); · trivial)
          exact ⟨by rw [setAll_TI2 _ (by rw [hpl, hol]; omega), putL_succ hy hz], fun j hj => by rw [if_neg (by omega)]; exact hSm j hj⟩
        · clear hA hB A B
          refine vw_exit ?_
          simp only [thenV, blockV, noGoto, if_true, if_false, Nat.reduceEqDiff]
          refine hK14 _ _ ?_
          refine vw_sc 0 [] ?_
          simp only [bs, ↓vopx, ↓vop, Nat.reduceBEq, thenV, flat, Nat.reduceLT, opII, hl, p2, p7, p24, p25, p26, wocs, ↓goc, ↓woc, ↓vopm0, tMat]
          repeat ((with_reducible refine And.intro ?_ ?_); · exact ⟨by omega, by omega⟩)
          refine ⟨legs.length - (i2 + 1), by omega, i2 + 1, rfl, by omega, ?_⟩
          try simp only [ev_hit, ev_miss, Nat.reduceBEq, lpv, hl, m2, m7, m24, m25, h_i2, if_true, if_false, Nat.reduceEqDiff, Nat.reduceLT, true_and, and_true]
          repeat ((with_reducible refine And.intro ?_ ?_); · trivial)
          first
            | exact ⟨by rw [outK_skip hl9 hw9 (by omega)]; exact hM, hSm⟩
            | exact ⟨by rw [outK_put hl9 hw9 (by omega), show l.length = j from by omega]; exact hM, hSm⟩
    · clear hA hB A B
      refine vw_exit ?_
      simp only [thenV, blockV, noGoto, if_true]
      refine hK10 _ _ ?_
      refine vsk fun K23 hK23 => ?_
      refine vw_sc 0 [] ?_
      simp only [bs, ↓vopx, ↓vop, Nat.reduceBEq, thenV, Nat.reduceLT, hl, m7, wocs, ↓goc, ↓woc, ↓vopm0]
      refine hK23 _ _ ?_
      refine vw_ret ?_
      have hiL : i2 = legs.length := by omega
      subst hiL
      refine hQ _ _ _ (.inr rfl) (done_loc (n := s.next) (len := n) ?_ hM ?_ (Nat.le_refl _) fun m b hl h => (hSm m hl).trans h)
      · simp only [ev_hit, lpv, hl, Nat.reduceLT]
      · show ((outS n legs ways).map TI).length = n * 1; rw [List.length_map, show outS n legs ways = outK n legs ways legs.length from rfl, outK_len, Nat.mul_one]
end Go.Proofs

open Go Go.V
namespace Go.Proofs
structure LaI (s : Sg) (o : Ob) (L : List Int) (i m7 : Nat) (s' : Sg) : Prop where
  b2 : s'.m s.next = some (.box 25 [.t (tStrs o.labels), .t (tPairs o.pairs)])
  b4 : s'.m (s.next + 1) = some (.box 25 [.t (.v (.slice none 0 0)), .t (.v (.slice none 0 0))])
  a7 : s'.m m7 = some (.arr 1 9 ((glLab o L i).map TS))
  same : ∀ j, j < s.next → s'.m j = s.m j
  lo : s.next + 2 ≤ m7
  hi : m7 < s'.next
theorem glLab_old {o : Ob} {L : List Int} {i : Nat} {z : Int} (hz : L[i]? = some z) (h : z ≠ (glLab o L i).length) : glLab o L (i + 1) = glLab o L i := by
  have hg := getD_of hz
  unfold glLab at h ⊢
  rw [List.length_map] at h
  show List.map _ (if L.getD i 0 = (fstL L i).length then fstL L i ++ [i] else fstL L i) = _
  rw [hg, if_neg h]
theorem glLab_new {o : Ob} {L : List Int} {i : Nat} {z : Int} {lb : ByteArray} (hz : L[i]? = some z) (h : z = (glLab o L i).length) (hl : o.labels[i]? = some lb) : glLab o L (i + 1) = glLab o L i ++ [lb] := by
  have hg := getD_of hz
  unfold glLab at h ⊢
  rw [List.length_map] at h
  show List.map _ (if L.getD i 0 = (fstL L i).length then fstL L i ++ [i] else fstL L i) = _
  rw [hg, if_pos h]
  simp [List.getD_eq_getElem?_getD, hl]
theorem glLab_length (o : Ob) (L : List Int) (i : Nat) : (glLab o L i).length = (fstL L i).length := by simp [glLab]
theorem LaI.old {s : Sg} {o : Ob} {L : List Int} {i m7 : Nat} {s' : Sg} (h : LaI s o L i m7 s') {z : Int} (hz : L[i]? = some z) (hn : z ≠ (glLab o L i).length) : ∃ m, V.loc m7 0 (glLab o L i).length = .loc m 0 (glLab o L (i + 1)).length ∧ LaI s o L (i + 1) m s' := by
  refine ⟨m7, ?_, ?_⟩
  · rw [glLab_old hz hn]
  · obtain ⟨h1, h2, h3, h4, h5, h6⟩ := h
    exact ⟨h1, h2, by rw [glLab_old hz hn]; exact h3, h4, h5, h6⟩
theorem LaI.new {s : Sg} {o : Ob} {L : List Int} {i m7 : Nat} {s' : Sg} (h : LaI s o L i m7 s') {z : Int} {lb : ByteArray} (hz : L[i]? = some z) (hn : z = (glLab o L i).length) (hl : o.labels[i]? = some lb) (B : Blk) : ∃ m, V.loc (s'.next + 1) 0 ((glLab o L i).length + 1) = .loc m 0 (glLab o L (i + 1)).length ∧ LaI s o L (i + 1) m (((s'.add B).del m7).add (.arr 1 9 ((glLab o L i).map TS ++ [TS lb]))) := by
  have hlo := h.lo
  have hhi := h.hi
  have hfr : ∀ x, x < s'.next → x ≠ m7 → (((s'.add B).del m7).add (.arr 1 9 ((glLab o L i).map TS ++ [TS lb]))).m x = s'.m x := fun x h1 h2 => by
    rw [m_add, if_neg (by simp only [n_del, n_add]; omega), m_del, if_neg h2, m_add, if_neg (by omega)]
  refine ⟨s'.next + 1, ?_, ?_, ?_, ?_, fun j hj => ?_, by omega, by simp only [n_del, n_add]; omega⟩
  · rw [glLab_new hz hn hl, List.length_append]; rfl
  · rw [hfr _ (by omega) (by omega)]; exact h.b2
  · rw [hfr _ (by omega) (by omega)]; exact h.b4
  · rw [m_add, if_pos (by simp only [n_del, n_add]), glLab_new hz hn hl, List.map_append]; rfl
  · rw [hfr _ (by omega) (by omega)]; exact h.same j hj
set_option maxRecDepth 20000 in
set_option maxHeartbeats 4000000 in
theorem glued_ (s : Sg) (p m : Nat) (l : List Int) (hu : RefU s p m l) (hwf : wfU l) (o : Ob) (ho : IsOb o) (hpo : o.pairs.length < 1000000000) (hll : l.length = o.labels.length) : DCall Tryd.prog 68 [vObj o, .ptr p 0] s (.tup [vObj (gluedS o (placesL l)), .t (tInts (placesL l))]) (s) := by
  refine dcall_of_body Tryd.func68 rfl fun Q hQ => ?_
  obtain ⟨e, he, hl, h0, h1⟩ : ∃ e : Env, ([vObj o, .ptr p 0] ++ List.replicate (Tryd.f68.ntmps - ([vObj o, .ptr p 0] : List V).length) .junk) = e ∧ e.length = 73 ∧ ev e (.tmp 0) = vObj o ∧ ev e (.tmp 1) = .ptr p 0 := ⟨_, rfl, rfl, rfl, rfl⟩
  rw [he]
  clear he
  have hle := ho.le
  obtain ⟨L, hL⟩ : ∃ L, L = placesL l := ⟨_, rfl⟩
  have hLl : L.length = l.length := by rw [hL, placesL_length]
  have hok : PlOK L := by rw [hL]; exact places_ok hwf
  rw [← hL] at hQ
  refine vsk fun K1 hK1 => ?_
  refine vw_sc 0 [] ?_
  simp only [bs, ↓vopx, ↓vop, thenV, flat, V.cells, h0, wocs, ↓goc, ↓woc, ↓vopm0, Tryd.zv25]
  refine hK1 _ _ ?_
  refine vsk fun K2 hK2 => ?_
  refine vw_st fun sa hSa => ?_
  have ha2 : sa.m s.next = some (.box 25 [.t (tStrs o.labels), .t (tPairs o.pairs)]) := by rw [hSa, m_add, if_neg (by rw [n_add]; omega), m_add, if_pos rfl]
  have ha4 : sa.m (s.next + 1) = some (.box 25 [.t (.v (.slice none 0 0)), .t (.v (.slice none 0 0))]) := by rw [hSa, m_add, if_pos (by rw [n_add])]
  have han : sa.next = s.next + 2 := by rw [hSa]; rfl
  have hak : ∀ j, j < s.next → sa.m j = s.m j := fun j hj => by rw [hSa, m_add, if_neg (by rw [n_add]; omega), m_add, if_neg (by omega)]
  have hua : RefU sa p m l := hu.keep (fun n b hn hb => by rw [hak n hn]; exact hb) (by omega)
  clear hSa
  refine vw_sc 0 [.stop] ?_
  simp only [bs, ↓vopx, ↓vop, Nat.reduceBEq, thenV, Nat.reduceLT, hl, h1, wocs, ↓goc, ↓woc, ↓vopm0, ↓callC, calleeV]
  refine ⟨Tryd.is90, DCall.v (refPlaces_ sa p m l hua (by omega) hwf) ?_⟩
  rw [← hL]
  try simp only [bs, Nat.reduceBEq, Nat.reduceLT, hl, h1, Hold]
  refine hK2 _ _ ?_
  refine vsk fun K3 hK3 => ?_
  refine vw_sc 0 [] ?_
  simp only [bs, ↓vopx, ↓vop, thenV, flat, wocs, ↓goc, ↓woc, ↓vopm0]
  refine hK3 _ _ ?_
  refine vsk fun K4 hK4 => ?_
  refine vsk fun K5 hK5 => ?_
  refine VW.name 7 1 9 (by omega) ?_ ?_
  · try simp only [ev_hit, lpv, hl, Nat.reduceLT]
  refine vw_st fun sb hSb => ?_
  have hLa : LaI s o L 0 sa.next sb := ⟨by rw [hSb, m_add, if_neg (by omega)]; exact ha2, by rw [hSb, m_add, if_neg (by omega)]; exact ha4, by rw [hSb, m_add, if_pos rfl]; rfl, fun j hj => by rw [hSb, m_add, if_neg (by omega)]; exact hak j hj, by omega, by rw [hSb, n_add]; omega⟩
  clear hSb
  refine vw_sc 0 [] ?_
  simp only [bs, ↓vopx, ↓vop, thenV, flat, wocs, ↓goc, ↓woc, ↓vopm0]
  refine hK5 _ _ ?_
  refine vw_block ?_
  refine vw_loop (fun mm e' s' => ∃ i : Nat, mm = L.length - i ∧ i ≤ L.length ∧ e'.length = 73 ∧ ev e' (.tmp 2) = .ptr s.next 0 ∧ ev e' (.tmp 4) = .ptr (s.next + 1) 0 ∧ ev e' (.tmp 6) = .t (tInts L) ∧ ev e' (.tmp 8) = I i ∧ True ∧ ∃ m7, ev e' (.tmp 7) = .loc m7 0 (glLab o L i).length ∧ LaI s o L i m7 s') (⟨0, rfl, Nat.zero_le _, ?_⟩) ?_
  · try simp only [ev_hit, ev_miss, Nat.reduceBEq, lpv, hl, Nat.reduceLT, true_and]
    repeat ((with_reducible refine And.intro ?_ ?_); · trivial)
    exact ⟨_, rfl, hLa⟩
  rintro mm e s1 ⟨i, rfl, hle_i, hl, k2, k4, k6, h_i, hst, ⟨m7, k7, hLa⟩⟩
  refine vsk fun K6 hK6 => ?_
  refine vsk fun K7 hK7 => ?_
  refine vw_sc 0 [] ?_
  simp only [bs, ↓vopx, ↓vop, Nat.reduceBEq, thenV, Nat.reduceLT, opII, hl, k6, h_i, wocs, ↓goc, ↓woc, ↓vopm0, len_tInts]
  refine hK7 _ _ ?_
  refine vck fun A B hA hB => ?_
  simp only [condV, ev_hit, lpv, Nat.reduceLT, decide_eq_true_eq, decide_eq_false_iff_not, hl]
  refine ⟨fun hc16 => hA ?_, fun hc16 => hB ?_⟩
  · clear hA hB A B
    refine vw_skip ?_
    refine hK6 _ _ ?_
    refine vsk fun K8 hK8 => ?_
    refine vw_block ?_
    refine vsk fun K9 hK9 => ?_
    have hlt : i < L.length := by omega
    obtain ⟨z, hz⟩ : ∃ z, L[i]? = some z := ⟨_, List.getElem?_eq_getElem hlt⟩
    refine vw_sc 0 [] ?_
    simp only [bs, ↓vopx, ↓vop, Nat.reduceBEq, thenV, Nat.reduceLT, dLoad, vpart, opII, hl, k6, h_i, k7, wocs, ↓goc, ↓woc, ↓vopm0, Tryd.ag3, Tryd.sz3, Tryd.un26, hz]
    repeat ((with_reducible refine And.intro ?_ ?_); · (with_reducible assumption))
    refine hK9 _ _ ?_
    refine vck fun A B hA hB => ?_
    simp only [condV, ev_hit, lpv, Nat.reduceLT, beq_iff_eq, beq_eq_false_iff_ne, ne_eq, hl]
    refine ⟨fun hzc => hA ?_, fun hzc => hB ?_⟩
    · clear hA hB A B
      obtain ⟨lb, hlb⟩ : ∃ lb, o.labels[i]? = some lb := ⟨_, List.getElem?_eq_getElem (by omega)⟩
      have hb2 := hLa.b2
      have ha7 := hLa.a7
      have hsm := glLab_length o L i
      have hfs := fst_le L i
      have n1 : ¬ m7 = s1.next := by have := hLa.hi; omega
      have n2 : ¬ s.next = s1.next := by have := hLa.hi; have := hLa.lo; omega
      have hil : i < o.labels.length := by omega
      refine vw_sc 0 [] ?_
      simp only [bs, dstT, srcT, Nat.reduceLeDiff, vparts, gfill, repl, Sg.frzP, ↓vopx, ↓vop, Nat.reduceBEq, thenV, blockV, Nat.reduceLT, V.cells, dLoad, vpart, Sg.frzL, Sg.frz1, hl, k2, h_i, k7, wocs, ↓goc, ↓woc, ↓vopm0, Tryd.ag22, Tryd.ag9, Tryd.fd25_0, Tryd.sl22, Tryd.sz22, Tryd.sz9, Tryd.un22, hb2, ha7, n1, hlb, Nat.div_one]
      repeat ((with_reducible refine And.intro ?_ ?_); · first | (with_reducible assumption) | omega)
      refine hK8 _ _ ?_
      refine vw_sc 0 [] ?_
      simp only [bs, ↓vopx, ↓vop, Nat.reduceBEq, thenV, flat, Nat.reduceLT, opII, hl, k2, k4, k6, h_i, wocs, ↓goc, ↓woc, ↓vopm0]
      repeat ((with_reducible refine And.intro ?_ ?_); · exact ⟨by omega, by omega⟩)
      refine ⟨L.length - (i + 1), by omega, i + 1, rfl, by omega, ?_⟩
      try simp only [ev_hit, ev_miss, Nat.reduceBEq, lpv, hl, k2, k4, k6, h_i, k7, if_true, if_false, Nat.reduceEqDiff, Nat.reduceLT, true_and, and_true]
      repeat ((with_reducible refine And.intro ?_ ?_); · trivial)
      first
        | exact hLa.old hz hzc
        | exact hLa.new hz hzc hlb _
    · clear hA hB A B
      refine vw_skip ?_
      refine hK8 _ _ ?_
      refine vw_sc 0 [] ?_
      simp only [bs, ↓vopx, ↓vop, Nat.reduceBEq, thenV, flat, Nat.reduceLT, opII, hl, k2, k4, k6, h_i, k7, wocs, ↓goc, ↓woc, ↓vopm0]
      repeat ((with_reducible refine And.intro ?_ ?_); · exact ⟨by omega, by omega⟩)
      refine ⟨L.length - (i + 1), by omega, i + 1, rfl, by omega, ?_⟩
      try simp only [ev_hit, ev_miss, Nat.reduceBEq, lpv, hl, k2, k4, k6, h_i, k7, if_true, if_false, Nat.reduceEqDiff, Nat.reduceLT, true_and, and_true]
      repeat ((with_reducible refine And.intro ?_ ?_); · trivial)
      first
        | exact hLa.old hz hzc
        | exact hLa.new hz hzc hlb _
  · clear hA hB A B
    have han2 : L.length = i := by omega
    refine vw_exit ?_
    simp only [thenV, blockV, if_true]
    refine hK4 _ _ ?_
    refine vsk fun K10 hK10 => ?_
    rw [← han2] at hLa k7
    have hla7 := hLa.a7
    have hl7 := hLa.lo
    have hh7 := hLa.hi
    refine VW.freeze 7 (n := m7) (len := (glLab o L L.length).length) (k := 1) (el := 9) (cs := (glLab o L L.length).map TS) ?_ hla7 (by simp) ?_
    · try simp only [ev_miss, Nat.reduceBEq, k7]
    refine vw_st fun sF hSF => ?_
    have hF2 : sF.m s.next = some (.box 25 [.t (tStrs o.labels), .t (tPairs o.pairs)]) := by rw [hSF, m_del, if_neg (by omega)]; exact hLa.b2
    have hF4 : sF.m (s.next + 1) = some (.box 25 [.t (.v (.slice none 0 0)), .t (.v (.slice none 0 0))]) := by rw [hSF, m_del, if_neg (by omega)]; exact hLa.b4
    have hFk : ∀ j, j < s.next → sF.m j = s.m j := fun j hj => by rw [hSF, m_del, if_neg (by omega)]; exact hLa.same j hj
    have hFn : s.next + 2 ≤ sF.next := by rw [hSF, n_del]; omega
    clear hSF
    have hgn : (glLab o L L.length).length = glN L := by rw [glLab_length]; rfl
    have hg40 : glN L ≤ 40 := by have := fst_le L L.length; show (fstL L L.length).length ≤ 40; omega
    refine vw_sc 0 [.stop] ?_
    simp only [bs, ↓vopx, ↓vop, thenV, Nat.reduceLT, hl, wocs, ↓goc, ↓woc, ↓vopm0, ↓callC, calleeV, len_tStrs, hgn]
    refine ⟨Tryd.is91, (refNew_ sF (glN L)).mono fun v s2 hv => ?_⟩
    rw [newN_nat (by omega)] at hv
    obtain ⟨c, o1, r1, rfl, hR, hFr, hk, hnx⟩ := hv
    try simp only [bs, Nat.reduceLT, hl, Hold]
    refine hK10 _ _ ?_
    refine vsk fun K11 hK11 => ?_
    refine vsk fun K12 hK12 => ?_
    refine vw_sc 0 [] ?_
    simp only [bs, ↓vopx, ↓vop, thenV, flat, wocs, ↓goc, ↓woc, ↓vopm0]
    refine hK12 _ _ ?_
    refine vw_block ?_
    refine vw_loop (fun mm e' s' => ∃ j : Nat, mm = o.pairs.length - j ∧ j ≤ o.pairs.length ∧ e'.length = 73 ∧ ev e' (.tmp 2) = .ptr s.next 0 ∧ ev e' (.tmp 4) = .ptr (s.next + 1) 0 ∧ ev e' (.tmp 6) = .t (tInts L) ∧ ev e' (.tmp 7) = .t (tStrs (glLab o L L.length)) ∧ ev e' (.tmp 9) = .ptr c 0 ∧ ev e' (.tmp 10) = I j ∧ True ∧ RefR s' c (glN L) (mxOf ((o.pairs.map (mpP L)).take j)) o1 r1 ∧ Keep sF s' ∧ sF.next ≤ s'.next) (⟨0, rfl, Nat.zero_le _, ?_⟩) ?_
    · try simp only [ev_hit, ev_miss, Nat.reduceBEq, lpv, hl, k2, k4, k6, Nat.reduceLT, true_and]
      repeat ((with_reducible refine And.intro ?_ ?_); · trivial)
      first | exact hnx | exact ⟨hR.congr fun x y hx hy => by simp [mxOf], hk, hnx⟩
    rintro mm e s1 ⟨j, rfl, hle_j, hl, q2, q4, q6, q7, q9, h_j, hst, ⟨hd, hkeep, hnx2⟩⟩
    refine vsk fun K13 hK13 => ?_
    refine vsk fun K14 hK14 => ?_
    have hb2 := hkeep _ _ (by omega) hF2
    refine vw_sc 0 [] ?_
    simp only [bs, ↓vopx, ↓vop, Nat.reduceBEq, thenV, Nat.reduceLT, dLoad, vpart, opII, hl, q2, h_j, wocs, ↓goc, ↓woc, ↓vopm0, Tryd.ag23, Tryd.fd25_1, Tryd.sz23, Tryd.un23, len_tPairs, hb2]
    refine hK14 _ _ ?_
    refine vck fun A B hA hB => ?_
    simp only [condV, ev_hit, lpv, Nat.reduceLT, decide_eq_true_eq, decide_eq_false_iff_not, hl]
    refine ⟨fun hc41 => hA ?_, fun hc41 => hB ?_⟩
    · clear hA hB A B
      refine vw_skip ?_
      refine hK13 _ _ ?_
      refine vsk fun K15 hK15 => ?_
      refine vw_block ?_
      have hlt : j < o.pairs.length := by omega
      obtain ⟨p, hp⟩ : ∃ p, o.pairs[j]? = some p := ⟨_, List.getElem?_eq_getElem hlt⟩
      have g0 := getP0 hp
      have g1 := getP1 hp
      have hfl := flat_length o.pairs
      have hin : (0 ≤ p.1 ∧ p.1 < o.labels.length) ∧ (0 ≤ p.2 ∧ p.2 < o.labels.length) := inB_iff.1 ((List.all_eq_true.1 ho.inb) p (List.mem_of_getElem? hp))
      obtain ⟨za, hza⟩ : ∃ z, L[p.1.toNat]? = some z := ⟨_, List.getElem?_eq_getElem (by omega)⟩
      obtain ⟨zb, hzb⟩ : ∃ z, L[p.2.toNat]? = some z := ⟨_, List.getElem?_eq_getElem (by omega)⟩
      have hla := hok.lt hza
      have hlb := hok.lt hzb
      obtain ⟨a, rfl⟩ : ∃ a : Nat, za = (a : Int) := ⟨za.toNat, by omega⟩
      obtain ⟨b, rfl⟩ : ∃ b : Nat, zb = (b : Int) := ⟨zb.toNat, by omega⟩
      have hmp : mpP L p = ((a : Int), (b : Int)) := by simp only [mpP, getD_of hza, getD_of hzb]
      have hp2k : (o.pairs.map (mpP L))[j]? = some ((a : Int), (b : Int)) := by rw [List.getElem?_map, hp, ← hmp]; rfl
      have xv : outV (glN L) o1 = .loc o1 0 (glN L) := by simp [outV, show ¬ glN L = 0 from by omega]
      have xo := hd.ho (by omega)
      have xr := hd.hr a (by omega)
      have xg : (List.range (glN L))[a]? = some a := List.getElem?_range (by omega)
      refine vw_chain Tryd.mixed 24 [0, 0, 0, 1, 0, 0, 1, 0, 1, 0, 1, 1, 1, 1, 1, 0, 0, 1, 0, 1, 0, 1, 1, 1] [] [] 0 (by decide +kernel) (by simp [lpv, hl]) rfl ?_
      simp only [bs, dSure, ↓vopx, ↓vop, Nat.reduceBEq, thenV, blockV, flat, Nat.reduceLT, V.cells, dLoad, vpart, Sg.frzL, Sg.frz1, hl, q2, q6, q9, h_j, wocs, ↓goc, ↓woc, ↓vopm0, ↓vopm1, chn, ↓goq, ↓woq, List.zip_cons_cons, List.zip_nil_right, Tryd.ag117, Tryd.ag23, Tryd.ag3, Tryd.ag49, Tryd.fd119_1, Tryd.fd25_1, Tryd.fd84_0, Tryd.fd84_1, Tryd.sz117, Tryd.sz23, Tryd.sz3, Tryd.sz4, Tryd.sz49, Tryd.sz84, Tryd.un117, Tryd.un23, Tryd.un26, Tryd.un49, xv, xo, xr, xg, g0, g1, hfl, hd.hp, bRow_length, hza, hzb, hb2]
      repeat ((with_reducible refine And.intro ?_ ?_); · omega)
      refine hK15 _ _ ?_
      refine vw_sc 0 [] ?_
      simp only [bs, ↓vopx, ↓vop, Nat.reduceBEq, thenV, flat, Nat.reduceLT, opII, hl, q2, q4, q6, q7, q9, h_j, wocs, ↓goc, ↓woc, ↓vopm0]
      repeat ((with_reducible refine And.intro ?_ ?_); · exact ⟨by omega, by omega⟩)
      refine ⟨o.pairs.length - (j + 1), by omega, j + 1, rfl, by omega, ?_⟩
      try simp only [ev_hit, ev_miss, Nat.reduceBEq, lpv, hl, q2, q4, q6, q7, q9, h_j, if_true, if_false, Nat.reduceEqDiff, Nat.reduceLT, true_and, and_true]
      repeat ((with_reducible refine And.intro ?_ ?_); · trivial)
      exact ⟨by rw [mxOf_take hp2k, updM_or]; exact hd.put (by omega) (by omega) true, hkeep.set (hFr.hr _ (by omega)) _, hnx2⟩
    · clear hA hB A B
      have han3 : o.pairs.length = j := by omega
      refine vw_exit ?_
      simp only [thenV, blockV, if_true]
      refine hK11 _ _ ?_
      refine vsk fun K16 hK16 => ?_
      have hb4 := hkeep _ _ (by omega) hF4
      rw [← han3, List.take_of_length_le (by simp), glMx_eq] at hd
      refine vw_sc 0 [.stop] ?_
      simp only [bs, ↓vopx, ↓vop, Nat.reduceBEq, thenV, Nat.reduceLT, V.cells, hl, q7, q9, wocs, ↓goc, ↓woc, ↓vopm0, ↓callC, calleeV]
      refine ⟨Tryd.is92, DCall.v (refMake_ s1 (glLab o L L.length) (by omega) c (glN L) _ o1 r1 hd) ?_⟩
      try simp only [bs, Nat.reduceAdd, Nat.reduceBEq, Nat.reduceLT, hl, q4, q6, q7, q9, Tryd.sz25, hb4, Hold]
      refine hK16 _ _ ?_
      refine vw_ret ?_
      refine hQ _ _ _ (.inr rfl) (Done.toS ?_)
      refine done_flat (vs := [vObj (gluedS o L), .t (tInts L)]) ?_ rfl (by simp [pack, nm, nm2, nm1, nm0]) (fun n b hn h => by rw [m_set, if_neg (by omega)]; exact hkeep n b (by omega) (by rw [hFk n hn]; exact h))
      show vres Tryd.prog _ _ [.cell 4 25, .tmp 5] = _
      simp only [vres_cell, vres_tmp, vres_nil, ev_hit, ev_miss, Nat.reduceBEq, lpv, hl, q4, Tryd.sz25, Tryd.ag25, dLoad, m_set, vpart, if_true, Nat.reduceLT, List.drop_zero, List.take_succ_cons, List.take_zero, List.length_cons, List.length_nil, Nat.zero_add, Nat.reduceAdd]
      rfl
end Go.Proofs

open Go Go.V
namespace Go.Proofs
theorem wfU_join {l : List Int} (h : wfU l) (a b : Nat) : wfU (joinL l a b) := fun i z hz => by
  have nn : ∀ j, 0 ≤ l.getD j 0 := fun j => by
    rw [List.getD_eq_getElem?_getD]
    cases hh : l[j]? with
    | none => exact Int.le_refl _
    | some v => exact (h j v hh).1
  unfold joinL at hz
  rw [List.getElem?_map] at hz
  obtain ⟨w, hw, rfl⟩ := Option.map_eq_some_iff.1 hz
  have h1 := h i w hw
  have h2 := nn a
  have h3 := nn b
  split <;> omega
theorem wfU_range (n : Nat) : wfU (rangeI n) := fun i z hz => by
  have hi : i < n := by have := (List.getElem?_eq_some_iff.1 hz).1; rwa [rangeI_length] at this
  have : (rangeI n)[i]? = some (i : Int) := by simp [rangeI, hi]
  rw [this] at hz; cases hz
  omega
theorem wfU_joins (n : Nat) (f g : List Int) : ∀ i, wfU (joinsL (rangeI n) f g i)
  | 0 => wfU_range n
  | i + 1 => wfU_join (wfU_joins n f g i) _ _
theorem largeS_one (b : Ob) : largeS [b] = decide (40 < b.labels.length) := by simp [largeS, sumT]
theorem largeS_two (b c : Ob) : largeS [b, c] = decide (40 < b.labels.length + c.labels.length) := by simp [largeS, sumT]
end Go.Proofs

open Go Go.V
namespace Go.Proofs
theorem half2 (n : Nat) : n * 2 / 2 = n := by omega
theorem keep_da (s : Sg) (m : Nat) (B : Blk) : Keep (s.del m) (s.add B) := fun n b hn hb => by
  rw [m_del] at hb
  split at hb
  · cases hb
  · have h2 : n < s.next := hn
    have : ¬ n = s.next := by omega
    rw [m_add, if_neg this]; exact hb
theorem half22 (n : Nat) : (n * 2 + 2) / 2 = n + 1 := by omega
structure BdZ (s : Sg) (b c : Ob) (n6 m1 m2 : Nat) (s' : Sg) : Prop where
  b3 : s'.m (s.next + 1) = some (.box 25 [.t (tStrs c.labels), .t (tPairs c.pairs)])
  b4 : s'.m (s.next + 1 + 1) = some (.box 25 [.t (.v (.slice none 0 0)), .t (.v (.slice none 0 0))])
  b6 : s'.m n6 = some (.box 25 [.loc m1 0 (b.labels.length + c.labels.length), .loc m2 0 b.pairs.length])
  a1 : s'.m m1 = some (.arr 1 9 (b.labels.map TS ++ c.labels.map TS))
  a2 : s'.m m2 = some (.arr 2 84 (b.pairs.flatMap pcells))
  same : ∀ j, j < s.next → s'.m j = s.m j
  l6 : s.next + 3 ≤ n6 ∧ n6 < s'.next
  l1 : s.next + 3 ≤ m1 ∧ m1 < s'.next
  l2 : s.next + 3 ≤ m2 ∧ m2 < s'.next
  d : n6 ≠ m1 ∧ n6 ≠ m2 ∧ m1 ≠ m2
structure BdI (s : Sg) (b c : Ob) (n6 k m : Nat) (s' : Sg) : Prop where
  b3 : s'.m (s.next + 1) = some (.box 25 [.t (tStrs c.labels), .t (tPairs c.pairs)])
  b4 : s'.m (s.next + 1 + 1) = some (.box 25 [.t (.v (.slice none 0 0)), .t (.v (.slice none 0 0))])
  b6 : s'.m n6 = some (.box 25 [.t (tStrs (b.labels ++ c.labels)), .loc m 0 (b.pairs.length + k)])
  am : s'.m m = some (.arr 2 84 ((b.pairs ++ (c.pairs.take k).map (shP b.labels.length)).flatMap pcells))
  same : ∀ j, j < s.next → s'.m j = s.m j
  l6 : s.next + 3 ≤ n6 ∧ n6 < s'.next
  lm : s.next + 3 ≤ m ∧ m < s'.next
  d : n6 ≠ m
theorem BdI.push {s : Sg} {b c : Ob} {n6 i m : Nat} {s1 : Sg} (h : BdI s b c n6 i m s1) {p : Int × Int} (hp : c.pairs[i]? = some p) (B : Blk) : BdI s b c n6 (i + 1) (s1.next + 1)
    ((((s1.add B).del m).add (.arr 2 84 ((b.pairs ++ (c.pairs.take i).map (shP b.labels.length)).flatMap pcells ++ [TI (p.1 + b.labels.length), TI (p.2 + b.labels.length)]))).set n6 (.box 25 [.t (tStrs (b.labels ++ c.labels)), .loc (s1.next + 1) 0 (b.pairs.length + i + 1)])) := by
  obtain ⟨h3, h4, h6, ha, hs, ⟨l6, l6'⟩, ⟨lm, lm'⟩, hd⟩ := h
  have hfr : ∀ x, x < s1.next → x ≠ m → x ≠ n6 → ((((s1.add B).del m).add (.arr 2 84 ((b.pairs ++ (c.pairs.take i).map (shP b.labels.length)).flatMap pcells ++ [TI (p.1 + b.labels.length), TI (p.2 + b.labels.length)]))).set n6 (.box 25 [.t (tStrs (b.labels ++ c.labels)), .loc (s1.next + 1) 0 (b.pairs.length + i + 1)])).m x = s1.m x := fun x h1 h2 h5 => by
    rw [m_set, if_neg h5, m_add, if_neg (by simp only [n_del, n_add]; omega), m_del, if_neg h2, m_add, if_neg (by omega)]
  refine ⟨by rw [hfr _ (by omega) (by omega) (by omega)]; exact h3, by rw [hfr _ (by omega) (by omega) (by omega)]; exact h4, by rw [m_set, if_pos rfl]; rfl, ?_, fun j hj => by rw [hfr _ (by omega) (by omega) (by omega)]; exact hs j hj, ⟨l6, by simp only [n_set, n_add, n_del]; omega⟩, ⟨by omega, by simp only [n_set, n_add, n_del]; omega⟩, by omega⟩
  rw [m_set, if_neg (by omega), m_add, if_pos (by simp only [n_del, n_add]), List.take_add_one, hp]
  simp [shP, pcells]
set_option maxRecDepth 20000 in
set_option maxHeartbeats 4000000 in
theorem beside69 (b c : Ob) (hb1 : b.labels.length < 1000000000) (hb2 : b.pairs.length < 1000000000) (hc1 : c.labels.length < 1000000000) (hc2 : c.pairs.length < 1000000000) (hcO : IsOb c) : PCall Tryd.prog 69 [vObj b, vObj c] (vObj (besideS b c)) := by
  refine pcall_of_body Tryd.func69 rfl fun s Q hQ => ?_
  obtain ⟨e, he, hl, h0, h1⟩ : ∃ e : Env, ([vObj b, vObj c] ++ List.replicate (Tryd.f69.ntmps - ([vObj b, vObj c] : List V).length) .junk) = e ∧ e.length = 51 ∧ ev e (.tmp 0) = vObj b ∧ ev e (.tmp 1) = vObj c := ⟨_, rfl, rfl, rfl, rfl⟩
  rw [he]
  clear he
  refine vsk fun K1 hK1 => ?_
  refine vw_sc 0 [] ?_
  simp only [bs, ↓vopx, ↓vop, Nat.reduceBEq, thenV, V.cells, h0, h1, wocs, ↓goc, ↓woc, ↓vopm0, Tryd.zv25]
  refine hK1 _ _ ?_
  refine vsk fun K2 hK2 => ?_
  refine vw_sc 0 [] ?_
  simp only [bs, ↓vopx, ↓vop, Nat.reduceBEq, thenV, Nat.reduceLT, dLoad, vpart, hl, wocs, ↓goc, ↓woc, ↓vopm0, Tryd.ag22, Tryd.fd25_0, Tryd.sz22, Tryd.un22, nns, len_tStrs]
  refine hK2 _ _ ?_
  refine vsk fun K3 hK3 => ?_
  suffices key : ∀ (e2 : Env) (s2 : Sg) (n6 m1 m2 : Nat), e2.length = 51 → ev e2 (.tmp 2) = .ptr s.next 0 → ev e2 (.tmp 3) = .ptr (s.next + 1) 0 → ev e2 (.tmp 4) = .ptr (s.next + 1 + 1) 0 → ev e2 (.tmp 5) = I b.labels.length → ev e2 (.tmp 6) = .ptr n6 0 → BdZ s b c n6 m1 m2 s2 → K3 e2 s2 by
    refine vw_tree_all Tryd.mixed 11 [2, 5, 8, 10] (.quiet 0 0 (.quiet 1 2 (.quiet 3 0 (.quiet 4 2 (.quiet 6 0 (.quiet 7 2 (.alt 2 0 (.alt 5 0 (.alt 8 0 (.quiet 9 0 (.alt 10 0 (.leaf) (.none))) (.alt 10 0 (.alt 8 0 (.quiet 9 0 (.leaf)) (.none)) (.none))) (.alt 10 0 (.alt 5 0 (.alt 8 0 (.quiet 9 0 (.leaf)) (.none)) (.none)) (.none))) (.alt 10 0 (.alt 2 0 (.alt 5 0 (.alt 8 0 (.quiet 9 0 (.leaf)) (.none)) (.none)) (.none)) (.none))))))))) [] [] 0 (by decide +kernel) (by simp [lpv, hl]) rfl ?_
    simp only [bs, dstT, srcT, Nat.reduceLeDiff, Nat.reduceAdd, vparts, gfill, ↓vopx, ↓vop, Nat.reduceBEq, thenV, flat, Nat.reduceLT, V.cells, dLoad, vpart, hl, trn, wocs, ↓goc, ↓woc, ↓vopm0, ↓goq, ↓woq, Tryd.ag22, Tryd.ag23, Tryd.fd25_0, Tryd.fd25_1, Tryd.sl22, Tryd.sl23, Tryd.st25, Tryd.sz22, Tryd.sz23, Tryd.sz25, Tryd.zv25, half2, Nat.div_one, nns, flat_length]
    (repeat' (refine And.intro ?_ ?_))
    all_goals first | omega | (repeat' first | exact Keep.refl _ | refine Keep.add ?_ ?_ _ | refine Keep.del ?_ ?_ | refine Keep.set ?_ ?_ _ | exact Nat.le_refl _ | (simp only [n_add, n_del]; omega); done) | skip
    · refine key _ _ (s.next + 1 + 1 + 1 + 1 + 1 + 1) (s.next + 1 + 1 + 1 + 1) (s.next + 1 + 1 + 1 + 1 + 1) ?_ ?_ ?_ ?_ ?_ ?_ ⟨?_, ?_, ?_, ?_, ?_, fun j hj => ?_, ⟨by omega, ?_⟩, ⟨by omega, ?_⟩, ⟨by omega, ?_⟩, ⟨by omega, by omega, by omega⟩⟩
      · simp only [lpv, hl]
      · simp only [ev_hit, ev_miss, Nat.reduceBEq, hl, Nat.reduceLT]
      · simp only [ev_hit, ev_miss, Nat.reduceBEq, lpv, hl, Nat.reduceLT]
      · simp only [ev_hit, ev_miss, Nat.reduceBEq, lpv, hl, Nat.reduceLT]
      · simp only [ev_hit, ev_miss, Nat.reduceBEq, lpv, hl, Nat.reduceLT]
      · simp only [ev_hit, lpv, hl, Nat.reduceLT]
      · simp only [m_set, m_add, m_del, n_add, n_del, nns, if_true, if_false]
      · simp only [m_set, m_add, m_del, n_add, n_del, nns, if_true, if_false]
      · simp only [m_set, m_add, m_del, n_add, n_del, nns, if_true, if_false]
      · simp only [m_set, m_add, m_del, n_add, n_del, nns, if_true, if_false]
      · simp only [m_set, m_add, m_del, n_add, n_del, nns, if_true, if_false]
      · have z0 : ¬ j = s.next := (by omega); have z1 : ¬ j = s.next + 1 := (by omega); have z2 : ¬ j = s.next + 1 + 1 := (by omega); have z3 : ¬ j = s.next + 1 + 1 + 1 := (by omega); have z4 : ¬ j = s.next + 1 + 1 + 1 + 1 := (by omega); have z5 : ¬ j = s.next + 1 + 1 + 1 + 1 + 1 := (by omega); have z6 : ¬ j = s.next + 1 + 1 + 1 + 1 + 1 + 1 := (by omega)
        simp only [m_set, m_add, m_del, n_add, n_del, z0, z1, z2, z3, z4, z5, z6, if_false]
      · simp only [n_add, n_set, n_del]; omega
      · simp only [n_add, n_set, n_del]; omega
      · simp only [n_add, n_set, n_del]; omega
    · refine key _ _ (s.next + 1 + 1 + 1 + 1 + 1) (s.next + 1 + 1 + 1 + 1) (s.next + 1 + 1 + 1 + 1 + 1 + 1) ?_ ?_ ?_ ?_ ?_ ?_ ⟨?_, ?_, ?_, ?_, ?_, fun j hj => ?_, ⟨by omega, ?_⟩, ⟨by omega, ?_⟩, ⟨by omega, ?_⟩, ⟨by omega, by omega, by omega⟩⟩
      · simp only [lpv, hl]
      · simp only [ev_hit, ev_miss, Nat.reduceBEq, hl, Nat.reduceLT]
      · simp only [ev_hit, ev_miss, Nat.reduceBEq, lpv, hl, Nat.reduceLT]
      · simp only [ev_hit, ev_miss, Nat.reduceBEq, lpv, hl, Nat.reduceLT]
      · simp only [ev_hit, ev_miss, Nat.reduceBEq, lpv, hl, Nat.reduceLT]
      · simp only [ev_hit, ev_miss, Nat.reduceBEq, lpv, hl, Nat.reduceLT]
      · simp only [m_set, m_add, m_del, n_add, n_del, nns, if_true, if_false]
      · simp only [m_set, m_add, m_del, n_add, n_del, nns, if_true, if_false]
      · simp only [m_set, m_add, m_del, n_add, n_del, nns, if_true, if_false]
      · simp only [m_set, m_add, m_del, n_add, n_del, nns, if_true, if_false]
      · simp only [m_set, m_add, m_del, n_add, n_del, nns, if_true, if_false]
      · have z0 : ¬ j = s.next := (by omega); have z1 : ¬ j = s.next + 1 := (by omega); have z2 : ¬ j = s.next + 1 + 1 := (by omega); have z3 : ¬ j = s.next + 1 + 1 + 1 := (by omega); have z4 : ¬ j = s.next + 1 + 1 + 1 + 1 := (by omega); have z5 : ¬ j = s.next + 1 + 1 + 1 + 1 + 1 := (by omega); have z6 : ¬ j = s.next + 1 + 1 + 1 + 1 + 1 + 1 := (by omega)
        simp only [m_set, m_add, m_del, n_add, n_del, z0, z1, z2, z3, z4, z5, z6, if_false]
      · simp only [n_add, n_set, n_del]; omega
      · simp only [n_add, n_set, n_del]; omega
      · simp only [n_add, n_set, n_del]; omega
    · refine key _ _ (s.next + 1 + 1 + 1 + 1) (s.next + 1 + 1 + 1 + 1 + 1) (s.next + 1 + 1 + 1 + 1 + 1 + 1) ?_ ?_ ?_ ?_ ?_ ?_ ⟨?_, ?_, ?_, ?_, ?_, fun j hj => ?_, ⟨by omega, ?_⟩, ⟨by omega, ?_⟩, ⟨by omega, ?_⟩, ⟨by omega, by omega, by omega⟩⟩
      · simp only [lpv, hl]
      · simp only [ev_hit, ev_miss, Nat.reduceBEq, hl, Nat.reduceLT]
      · simp only [ev_hit, ev_miss, Nat.reduceBEq, lpv, hl, Nat.reduceLT]
      · simp only [ev_hit, ev_miss, Nat.reduceBEq, lpv, hl, Nat.reduceLT]
      · simp only [ev_hit, ev_miss, Nat.reduceBEq, lpv, hl, Nat.reduceLT]
      · simp only [ev_hit, ev_miss, Nat.reduceBEq, lpv, hl, Nat.reduceLT]
      · simp only [m_set, m_add, m_del, n_add, n_del, nns, if_true, if_false]
      · simp only [m_set, m_add, m_del, n_add, n_del, nns, if_true, if_false]
      · simp only [m_set, m_add, m_del, n_add, n_del, nns, if_true, if_false]
      · simp only [m_set, m_add, m_del, n_add, n_del, nns, if_true, if_false]
      · simp only [m_set, m_add, m_del, n_add, n_del, nns, if_true, if_false]
      · have z0 : ¬ j = s.next := (by omega); have z1 : ¬ j = s.next + 1 := (by omega); have z2 : ¬ j = s.next + 1 + 1 := (by omega); have z3 : ¬ j = s.next + 1 + 1 + 1 := (by omega); have z4 : ¬ j = s.next + 1 + 1 + 1 + 1 := (by omega); have z5 : ¬ j = s.next + 1 + 1 + 1 + 1 + 1 := (by omega); have z6 : ¬ j = s.next + 1 + 1 + 1 + 1 + 1 + 1 := (by omega)
        simp only [m_set, m_add, m_del, n_add, n_del, z0, z1, z2, z3, z4, z5, z6, if_false]
      · simp only [n_add, n_set, n_del]; omega
      · simp only [n_add, n_set, n_del]; omega
      · simp only [n_add, n_set, n_del]; omega
    · refine key _ _ (s.next + 1 + 1 + 1) (s.next + 1 + 1 + 1 + 1 + 1) (s.next + 1 + 1 + 1 + 1 + 1 + 1) ?_ ?_ ?_ ?_ ?_ ?_ ⟨?_, ?_, ?_, ?_, ?_, fun j hj => ?_, ⟨by omega, ?_⟩, ⟨by omega, ?_⟩, ⟨by omega, ?_⟩, ⟨by omega, by omega, by omega⟩⟩
      · simp only [lpv, hl]
      · simp only [ev_hit, ev_miss, Nat.reduceBEq, hl, Nat.reduceLT]
      · simp only [ev_hit, ev_miss, Nat.reduceBEq, lpv, hl, Nat.reduceLT]
      · simp only [ev_hit, ev_miss, Nat.reduceBEq, lpv, hl, Nat.reduceLT]
      · simp only [ev_hit, ev_miss, Nat.reduceBEq, lpv, hl, Nat.reduceLT]
      · simp only [ev_hit, ev_miss, Nat.reduceBEq, lpv, hl, Nat.reduceLT]
      · simp only [m_set, m_add, m_del, n_add, n_del, nns, if_true, if_false]
      · simp only [m_set, m_add, m_del, n_add, n_del, nns, if_true, if_false]
      · simp only [m_set, m_add, m_del, n_add, n_del, nns, if_true, if_false]
      · simp only [m_set, m_add, m_del, n_add, n_del, nns, if_true, if_false]
      · simp only [m_set, m_add, m_del, n_add, n_del, nns, if_true, if_false]
      · have z0 : ¬ j = s.next := (by omega); have z1 : ¬ j = s.next + 1 := (by omega); have z2 : ¬ j = s.next + 1 + 1 := (by omega); have z3 : ¬ j = s.next + 1 + 1 + 1 := (by omega); have z4 : ¬ j = s.next + 1 + 1 + 1 + 1 := (by omega); have z5 : ¬ j = s.next + 1 + 1 + 1 + 1 + 1 := (by omega); have z6 : ¬ j = s.next + 1 + 1 + 1 + 1 + 1 + 1 := (by omega)
        simp only [m_set, m_add, m_del, n_add, n_del, z0, z1, z2, z3, z4, z5, z6, if_false]
      · simp only [n_add, n_set, n_del]; omega
      · simp only [n_add, n_set, n_del]; omega
      · simp only [n_add, n_set, n_del]; omega
  intro e2 s2 n6 m1 m2 hl2 g2 g3 g4 g5 g6 hZ
  refine hK3 _ _ ?_
  refine vsk fun K4 hK4 => ?_
  refine vsk fun K5 hK5 => ?_
  refine VW.freezeBox n6 0 (n := m1) hZ.b6 rfl hZ.a1 (by simp) ?_
  refine vw_st fun s3 hS3 => ?_
  have hI : BdI s b c n6 0 m2 s3 := by
    obtain ⟨z3, z4, z6, za, zb, zs, ⟨zl, zl2⟩, ⟨zm, zm2⟩, ⟨zn, zn2⟩, zd1, zd2, zd3⟩ := hZ
    refine ⟨?_, ?_, ?_, ?_, fun j hj => ?_, ⟨zl, ?_⟩, ⟨zn, ?_⟩, zd2⟩
    · rw [hS3, m_set, if_neg (by omega), m_del, if_neg (by omega)]; exact z3
    · rw [hS3, m_set, if_neg (by omega), m_del, if_neg (by omega)]; exact z4
    · rw [hS3, m_set, if_pos rfl]; simp [tStrs]
    · rw [hS3, m_set, if_neg (by omega), m_del, if_neg (by omega), zb]; simp
    · rw [hS3, m_set, if_neg (by omega), m_del, if_neg (by omega)]; exact zs j hj
    · rw [hS3]; exact zl2
    · rw [hS3]; exact zn2
  clear hS3 hZ
  refine vw_sc 0 [] ?_
  simp only [bs, ↓vopx, ↓vop, thenV, flat, wocs, ↓goc, ↓woc, ↓vopm0]
  refine hK5 _ _ ?_
  refine vw_block ?_
  refine vw_loop (fun mm e' s' => ∃ i : Nat, mm = c.pairs.length - i ∧ i ≤ c.pairs.length ∧ e'.length = 51 ∧ ev e' (.tmp 3) = .ptr (s.next + 1) 0 ∧ ev e' (.tmp 4) = .ptr (s.next + 1 + 1) 0 ∧ ev e' (.tmp 5) = I b.labels.length ∧ ev e' (.tmp 6) = .ptr n6 0 ∧ ev e' (.tmp 7) = I i ∧ True ∧ ∃ m, BdI s b c n6 i m s') (⟨0, rfl, Nat.zero_le _, ?_⟩) ?_
  · try simp only [ev_hit, ev_miss, Nat.reduceBEq, lpv, hl2, g3, g4, g5, g6, Nat.reduceLT, true_and]
    repeat ((with_reducible refine And.intro ?_ ?_); · trivial)
    exact ⟨_, hI⟩
  rintro mm e s1 ⟨i, rfl, hle_i, hl, k3, k4, k5, k6, h_i, hst, ⟨m, hI⟩⟩
  refine vsk fun K6 hK6 => ?_
  refine vsk fun K7 hK7 => ?_
  have hb3 := hI.b3
  refine vw_sc 0 [] ?_
  simp only [bs, ↓vopx, ↓vop, Nat.reduceBEq, thenV, Nat.reduceLT, dLoad, vpart, opII, hl, k3, h_i, wocs, ↓goc, ↓woc, ↓vopm0, Tryd.ag23, Tryd.fd25_1, Tryd.sz23, Tryd.un23, nns, len_tPairs, hb3]
  refine hK7 _ _ ?_
  refine vck fun A B hA hB => ?_
  simp only [condV, ev_hit, lpv, Nat.reduceLT, decide_eq_true_eq, decide_eq_false_iff_not, hl]
  refine ⟨fun hc25 => hA ?_, fun hc25 => hB ?_⟩
  · clear hA hB A B
    refine vw_skip ?_
    refine hK6 _ _ ?_
    refine vsk fun K8 hK8 => ?_
    refine vw_block ?_
    obtain ⟨p, hp⟩ : ∃ p, c.pairs[i]? = some p := ⟨_, List.getElem?_eq_getElem (by omega)⟩
    have g0 := getP0 hp
    have g1 := getP1 hp
    have hfl := flat_length c.pairs
    have hb3 := hI.b3
    have hb6 := hI.b6
    have ham := hI.am
    have lm := hI.lm
    have l6 := hI.l6
    have hd6 := hI.d
    have hlp : (b.pairs ++ (c.pairs.take i).map (shP b.labels.length)).length = b.pairs.length + i := by rw [List.length_append, List.length_map, List.length_take]; omega
    have hil : i < c.pairs.length := by omega
    have hin : (0 ≤ p.1 ∧ p.1 < c.labels.length) ∧ (0 ≤ p.2 ∧ p.2 < c.labels.length) := inB_iff.1 ((List.all_eq_true.1 hcO.inb) p (List.mem_of_getElem? hp))
    have y1 : ¬ s.next + 1 = m := by omega
    have y2 : ¬ n6 = m := hd6
    have y3 : ¬ m = n6 := fun h => hd6 h.symm
    have y4 : ¬ n6 = s1.next := by omega
    have y5 : ¬ m = s1.next := by omega
    have y6 : ¬ s1.next = m := by omega
    have y7 : ¬ n6 = s1.next + 1 := by omega
    refine vw_chain_del (m) Tryd.mixed 20 [0, 2, 0, 1, 0, 1, 0, 1, 0, 0, 0, 1, 0, 1, 0, 1, 0, 0, 0, 3] [] [] 0 (by decide +kernel) (by simp [lpv, hl]) rfl ?_
    simp only [bs, dstT, srcT, Nat.reduceLeDiff, Nat.reduceAdd, vparts, gfill, repl, Sg.frzP, ↓vopx, ↓vop, Nat.reduceBEq, thenV, blockV, Nat.reduceLT, V.cells, dLoad, vpart, opII, Sg.frzL, Sg.frz1, hl, k3, k5, k6, h_i, wocs, ↓goc, ↓woc, ↓vopm0, ↓vopm1, chn, ↓goq, ↓woq, List.zip_cons_cons, List.zip_nil_right, Tryd.ag23, Tryd.ag3, Tryd.fd25_1, Tryd.fd84_0, Tryd.fd84_1, Tryd.sl23, Tryd.st84, Tryd.sz23, Tryd.sz3, Tryd.sz84, Tryd.un23, half22, nns, hb3, hb6, ham, hfl, g0, g1, hlp, flat_length, y2, y4, y5, y7]
    repeat ((with_reducible refine And.intro ?_ ?_); · first | omega | exact ⟨by omega, by omega⟩ | exact keep_da _ _ _)
    refine hK8 _ _ ?_
    refine vw_sc 0 [] ?_
    simp only [bs, ↓vopx, ↓vop, Nat.reduceBEq, thenV, flat, Nat.reduceLT, opII, hl, k3, k4, k5, k6, h_i, wocs, ↓goc, ↓woc, ↓vopm0]
    repeat ((with_reducible refine And.intro ?_ ?_); · exact ⟨by omega, by omega⟩)
    refine ⟨c.pairs.length - (i + 1), by omega, i + 1, rfl, by omega, ?_⟩
    try simp only [ev_hit, ev_miss, Nat.reduceBEq, lpv, hl, k3, k4, k5, k6, h_i, if_true, if_false, Nat.reduceEqDiff, Nat.reduceLT, true_and, and_true]
    repeat ((with_reducible refine And.intro ?_ ?_); · trivial)
    exact ⟨_, hI.push hp _⟩
  · clear hA hB A B
    refine vw_exit ?_
    simp only [thenV, blockV, if_true]
    refine hK4 _ _ ?_
    refine vsk fun K9 hK9 => ?_
    have hii : i = c.pairs.length := by omega
    subst hii
    have l6 := hI.l6
    have lm := hI.lm
    have hd6 := hI.d
    have ham := hI.am
    have hb6 := hI.b6
    have hb4 := hI.b4
    have hsm := hI.same
    rw [List.take_of_length_le (Nat.le_refl _)] at ham
    refine VW.freezeBox n6 1 (n := m) hb6 rfl ham (by rw [flat_length, List.length_append, List.length_map]) ?_
    have y8 : ¬ s.next + 1 + 1 = n6 := by omega
    have y9 : ¬ s.next + 1 + 1 = m := by omega
    refine vw_sc 0 [] ?_
    simp only [bs, Nat.reduceAdd, ↓vopx, ↓vop, Nat.reduceBEq, thenV, Nat.reduceLT, V.cells, dLoad, vpart, hl, k4, k6, wocs, ↓goc, ↓woc, ↓vopm0, Tryd.ag25, Tryd.sz25, hb4, y8, y9, List.set_cons_succ, List.set_cons_zero]
    refine hK9 _ _ ?_
    refine vw_ret ?_
    refine hQ _ _ _ (.inr rfl) (Done.toS ?_)
    refine done_flat (vs := [vObj (besideS b c)]) ?_ rfl (by simp [pack, nm, nm2, nm1, nm0]) (fun n b hn h => by rw [m_set, if_neg (by omega), m_set, if_neg (by omega), m_del, if_neg (by omega)]; exact (hsm n hn).trans h)
    show vres Tryd.prog _ _ [.cell 4 25] = _
    simp only [vres_cell, vres_nil, ev_miss, Nat.reduceBEq, k4, Tryd.sz25, Tryd.ag25, dLoad, m_set, vpart, if_true, List.drop_zero, List.take_succ_cons, List.take_zero, List.length_cons, List.length_nil, Nat.zero_add, Nat.reduceAdd]
    rfl
end Go.Proofs

open Go Go.V
namespace Go.Proofs
abbrev gMv (b : Ob) (g : List Int) : List Int := g.map (· + (b.labels.length : Int))
def puPl (b c : Ob) (f g : List Int) : List Int := placesL (joinsL (rangeI (b.labels.length + c.labels.length)) f (gMv b g) f.length)
def pushR (a b c : Ob) (f g : List Int) : Ob × List Int × List Int × Int :=
  if largeS [a] = true ∨ largeS [b] = true ∨ largeS [b, c] = true then (⟨[], []⟩, [], [], 11) else if arrS a b f = true ∧ arrS a c g = true then
    (gluedS (besideS b c) (puPl b c f g), (puPl b c f g).take b.labels.length, (puPl b c f g).drop b.labels.length, 0)
  else (⟨[], []⟩, [], [], 10)
end Go.Proofs

open Go Go.V
namespace Go.Proofs
theorem allZ_refl {α : Type} {p : α → α → Bool} (h : ∀ a, p a a = true) : ∀ l : List α, allZ p l l = true
  | [] => rfl
  | a :: l => by simp [allZ, h a, allZ_refl h l]
theorem sameS_refl (a : Ob) : sameS a a = true := by
  unfold sameS
  rw [allZ_refl (fun x => by simp [seqB]), allZ_refl (fun x => by simp [peqB])]
  rfl
theorem same_self (a : Ob) (ha : a.labels.length < 1000000000) (ha2 : a.pairs.length < 1000000000) : PCall Tryd.prog 24 [vObj a, vObj a] (Bo true) := by
  have := same_ a a ha ha2 ha ha2
  rw [sameS_refl] at this
  exact this
theorem pairsOf_len (n : Nat) (M : Mx) : (pairsOf n M).length ≤ n * n := by
  unfold pairsOf
  rw [List.length_flatMap]
  have h : ∀ (l : List Nat), (l.map fun a => (rowOf n M a).length).sum ≤ l.length * n := by
    intro l
    induction l with
    | nil => simp
    | cons a l ih =>
      have h1 : (rowOf n M a).length ≤ n := by
        unfold rowOf
        rw [List.length_map]
        exact Nat.le_trans (List.length_filter_le _ _) (by simp)
      simp only [List.map_cons, List.sum_cons, List.length_cons, Nat.succ_mul]
      omega
  have := h (List.range n)
  rwa [List.length_range] at this
theorem glN_le (l : List Int) : glN l ≤ l.length := fst_le l l.length
theorem glued_pairs_le (o : Ob) (l : List Int) : (gluedS o l).pairs.length ≤ l.length * l.length :=
  Nat.le_trans (pairsOf_len _ _) (Nat.mul_le_mul (glN_le l) (glN_le l))
theorem puPl_len (b c : Ob) (f g : List Int) : (puPl b c f g).length = b.labels.length + c.labels.length := by
  unfold puPl
  rw [placesL_length, joinsL_length, rangeI_length]
theorem sq_le {n m : Nat} (h : n ≤ m) : n * n ≤ m * m := Nat.mul_le_mul h h
end Go.Proofs

open Go Go.V
namespace Go.Proofs
def RepOK (R : List Int) : Prop := ∀ (i : Nat) (z : Int), R[i]? = some z → (0 ≤ z ∧ z ≤ i) ∧ R[z.toNat]? = some z
theorem RepOK.wf {R : List Int} (h : RepOK R) : wfU R := fun i z hz => (h i z hz).1
theorem RepOK.range (n : Nat) : RepOK (rangeI n) := fun i z hz => by
  have hi : i < n := by have := (List.getElem?_eq_some_iff.1 hz).1; rwa [rangeI_length] at this
  rw [rangeI_get hi] at hz
  cases hz
  exact ⟨by omega, by simpa using rangeI_get hi⟩
theorem RepOK.join {R : List Int} (h : RepOK R) {a b : Nat} {x y : Int} (hx : R[a]? = some x) (hy : R[b]? = some y) : RepOK (joinL R a b) := by
  obtain ⟨x1, x2⟩ := h a x hx
  obtain ⟨y1, y2⟩ := h b y hy
  intro i z hz
  unfold joinL at hz ⊢
  rw [getD_of hx, getD_of hy] at hz ⊢
  rw [List.getElem?_map] at hz
  obtain ⟨w, hw, rfl⟩ := Option.map_eq_some_iff.1 hz
  obtain ⟨w1, w2⟩ := h i w hw
  have hN : R[(min x y).toNat]? = some (min x y) := by
    rcases Int.le_total x y with hle | hle
    · rw [show min x y = x by omega]; exact x2
    · rw [show min x y = y by omega]; exact y2
  by_cases hm : w = max x y
  · rw [if_pos hm]
    refine ⟨by omega, ?_⟩
    rw [List.getElem?_map, hN]
    simp only [Option.map_some]
    split <;> simp
  · rw [if_neg hm]
    refine ⟨w1, ?_⟩
    rw [List.getElem?_map, w2]
    simp only [Option.map_some, if_neg hm]
theorem joins_ok (n : Nat) (f g : List Int) (hf : ∀ y ∈ f, 0 ≤ y ∧ y < n) (hg : ∀ y ∈ g, 0 ≤ y ∧ y < n) : ∀ k, k ≤ f.length → k ≤ g.length → RepOK (joinsL (rangeI n) f g k) ∧ (joinsL (rangeI n) f g k).length = n
  | 0, _, _ => ⟨RepOK.range n, rangeI_length n⟩
  | k + 1, h1, h2 => by
    obtain ⟨ih, il⟩ := joins_ok n f g hf hg k (by omega) (by omega)
    obtain ⟨y, hy⟩ : ∃ y, f[k]? = some y := ⟨_, List.getElem?_eq_getElem (by omega)⟩
    obtain ⟨z, hz⟩ : ∃ z, g[k]? = some z := ⟨_, List.getElem?_eq_getElem (by omega)⟩
    have by_ := hf y (List.mem_of_getElem? hy)
    have bz := hg z (List.mem_of_getElem? hz)
    rw [joinsL_succ hy hz]
    refine ⟨ih.join (List.getElem?_eq_getElem (by omega)) (List.getElem?_eq_getElem (by omega)), by rw [joinL_length]; exact il⟩
theorem joins_inv {β : Type} (n : Nat) (f g : List Int) (hf : ∀ y ∈ f, 0 ≤ y ∧ y < n) (hg : ∀ y ∈ g, 0 ≤ y ∧ y < n) (h : Nat → β) : ∀ k, k ≤ f.length → k ≤ g.length → (∀ (i : Nat) (y z : Int), i < k → f[i]? = some y → g[i]? = some z → h y.toNat = h z.toNat) →
    ∀ (j : Nat) (r : Int), (joinsL (rangeI n) f g k)[j]? = some r → h r.toNat = h j
  | 0, _, _, _, j, r, hr => by
    have hj : j < n := by have := (List.getElem?_eq_some_iff.1 hr).1; rwa [show joinsL (rangeI n) f g 0 = rangeI n from rfl, rangeI_length] at this
    rw [show joinsL (rangeI n) f g 0 = rangeI n from rfl, rangeI_get hj] at hr
    cases hr; simp
  | k + 1, h1, h2, he, j, r, hr => by
    have ih := joins_inv n f g hf hg h k (by omega) (by omega) (fun i y z hi => he i y z (by omega))
    obtain ⟨hok, il⟩ := joins_ok n f g hf hg k (by omega) (by omega)
    obtain ⟨y, hy⟩ : ∃ y, f[k]? = some y := ⟨_, List.getElem?_eq_getElem (by omega)⟩
    obtain ⟨z, hz⟩ : ∃ z, g[k]? = some z := ⟨_, List.getElem?_eq_getElem (by omega)⟩
    have by_ := hf y (List.mem_of_getElem? hy)
    have bz := hg z (List.mem_of_getElem? hz)
    obtain ⟨a, ha⟩ : ∃ a, (joinsL (rangeI n) f g k)[y.toNat]? = some a := ⟨_, List.getElem?_eq_getElem (by omega)⟩
    obtain ⟨b, hb⟩ : ∃ b, (joinsL (rangeI n) f g k)[z.toNat]? = some b := ⟨_, List.getElem?_eq_getElem (by omega)⟩
    rw [joinsL_succ hy hz] at hr
    unfold joinL at hr
    rw [getD_of ha, getD_of hb, List.getElem?_map] at hr
    obtain ⟨w, hw, rfl⟩ := Option.map_eq_some_iff.1 hr
    have e1 := ih _ _ ha
    have e2 := ih _ _ hb
    have e3 := he k y z (by omega) hy hz
    have e4 := ih _ _ hw
    split
    · rename_i hm
      rw [← e4, hm]
      rcases Int.le_total a b with hle | hle
      · rw [show min a b = a by omega, show max a b = b by omega, e1, e2, e3]
      · rw [show min a b = b by omega, show max a b = a by omega, e1, e2, e3]
    · exact e4
theorem joins_eq (n : Nat) (f g : List Int) (hf : ∀ y ∈ f, 0 ≤ y ∧ y < n) (hg : ∀ y ∈ g, 0 ≤ y ∧ y < n) : ∀ k, k ≤ f.length → k ≤ g.length → ∀ (i : Nat) (y z : Int), i < k → f[i]? = some y → g[i]? = some z → (joinsL (rangeI n) f g k)[y.toNat]? = (joinsL (rangeI n) f g k)[z.toNat]?
  | 0, _, _, i, y, z, hi, _, _ => by omega
  | k + 1, h1, h2, i, y, z, hi, hy, hz => by
    obtain ⟨hok, il⟩ := joins_ok n f g hf hg k (by omega) (by omega)
    obtain ⟨y', hy'⟩ : ∃ y, f[k]? = some y := ⟨_, List.getElem?_eq_getElem (by omega)⟩
    obtain ⟨z', hz'⟩ : ∃ z, g[k]? = some z := ⟨_, List.getElem?_eq_getElem (by omega)⟩
    rw [joinsL_succ hy' hz']
    unfold joinL
    rw [List.getElem?_map, List.getElem?_map]
    by_cases hik : i = k
    · subst hik
      rw [hy] at hy'; cases hy'
      rw [hz] at hz'; cases hz'
      have by_ := hf y (List.mem_of_getElem? hy)
      have bz := hg z (List.mem_of_getElem? hz)
      obtain ⟨a, ha⟩ : ∃ a, (joinsL (rangeI n) f g i)[y.toNat]? = some a := ⟨_, List.getElem?_eq_getElem (by omega)⟩
      obtain ⟨b, hb⟩ : ∃ b, (joinsL (rangeI n) f g i)[z.toNat]? = some b := ⟨_, List.getElem?_eq_getElem (by omega)⟩
      rw [getD_of ha, getD_of hb, ha, hb]
      simp only [Option.map_some, Option.some.injEq]
      rcases Int.le_total a b with hle | hle
      · rw [show min a b = a by omega, show max a b = b by omega]; (split <;> split) <;> simp_all
      · rw [show min a b = b by omega, show max a b = a by omega]; (split <;> split) <;> simp_all
    · rw [joins_eq n f g hf hg k (by omega) (by omega) i y z (by omega) hy hz]
theorem placesL_len (R : List Int) : (placesL R).length = R.length := plS_length R _
theorem pl_step (R : List Int) {i : Nat} (h : i < R.length) : (placesL R)[i]? = some (if R.getD i 0 = i then ((plS R i).2 : Int) else (plS R i).1.getD (R.getD i 0).toNat 0) := by
  have h1 : (plS R (i + 1)).1 = (plS R i).1 ++ [if R.getD i 0 = i then ((plS R i).2 : Int) else (plS R i).1.getD (R.getD i 0).toNat 0] := by
    show (if R.getD i 0 = i then _ else _ : List Int × Nat).1 = _
    split <;> rfl
  have h2 : (placesL R)[i]? = (plS R (i + 1)).1[i]? := by
    rw [← plS_take R (i + 1) R.length h, List.getElem?_take, if_pos (by omega)]; rfl
  rw [h2, h1, List.getElem?_append_right (by rw [plS_length]; omega), plS_length, Nat.sub_self]; rfl
theorem pl_rep {R : List Int} (h : RepOK R) {i : Nat} {z : Int} (hz : R[i]? = some z) : (placesL R)[i]? = (placesL R)[z.toNat]? := by
  have hi := (List.getElem?_eq_some_iff.1 hz).1
  obtain ⟨h1, h2⟩ := h i z hz
  by_cases hr : z = i
  · subst hr; simp
  · rw [pl_step R hi, getD_of hz, if_neg hr]
    have : (plS R i).1.getD z.toNat 0 = (placesL R).getD z.toNat 0 := by
      rw [← plS_take R i R.length (by omega), List.getD_eq_getElem?_getD, List.getElem?_take, if_pos (by omega), List.getD_eq_getElem?_getD]; rfl
    rw [this, List.getD_eq_getElem?_getD, List.getElem?_eq_getElem (by rw [placesL_len]; omega)]; rfl
theorem pl_root {R : List Int} (h : RepOK R) {i : Nat} (hz : R[i]? = some (i : Int)) : (placesL R)[i]? = some ((fstL (placesL R) i).length : Int) := by
  have hi := (List.getElem?_eq_some_iff.1 hz).1
  rw [pl_step R hi, getD_of hz, if_pos rfl, (plS_fst h.wf i (by omega)).1]
theorem fst_step (L : List Int) (i : Nat) : fstL L (i + 1) = if L.getD i 0 = (fstL L i).length then fstL L i ++ [i] else fstL L i := rfl
theorem fst_keep (L : List Int) {i j : Nat} (h : i ≤ j) {k x : Nat} (hx : (fstL L i)[k]? = some x) : (fstL L j)[k]? = some x := by
  induction h with
  | refl => exact hx
  | step _ ih =>
    rw [fst_step]
    split
    · rw [List.getElem?_append_left (List.getElem?_eq_some_iff.1 ih).1]; exact ih
    · exact ih
theorem fst_root {R : List Int} (h : RepOK R) {i : Nat} (hz : R[i]? = some (i : Int)) : (fstL (placesL R) R.length)[(fstL (placesL R) i).length]? = some i := by
  have hi := (List.getElem?_eq_some_iff.1 hz).1
  refine fst_keep _ (show i + 1 ≤ R.length from hi) ?_
  rw [fst_step, getD_of (pl_root h hz), if_pos rfl, List.getElem?_append_right (Nat.le_refl _), Nat.sub_self]; rfl
theorem fst_at {R : List Int} (h : RepOK R) {i : Nat} {z : Int} (hz : R[i]? = some z) : ∃ k : Nat, (placesL R)[i]? = some (k : Int) ∧ (fstL (placesL R) R.length)[k]? = some z.toNat := by
  obtain ⟨h1, h2⟩ := h i z hz
  have hz0 : R[z.toNat]? = some (z.toNat : Int) := by rw [h2]; congr 1; omega
  exact ⟨_, by rw [pl_rep h hz]; exact pl_root h hz0, fst_root h hz0⟩
theorem fst_val (L : List Int) : ∀ (m k r : Nat), (fstL L m)[k]? = some r → L.getD r 0 = k
  | 0, k, r, h => by simp [fstL] at h
  | m + 1, k, r, h => by
    rw [fst_step] at h
    split at h
    · rename_i hm
      by_cases hk : k < (fstL L m).length
      · rw [List.getElem?_append_left hk] at h; exact fst_val L m k r h
      · rw [List.getElem?_append_right (by omega)] at h
        have hk0 : k - (fstL L m).length = 0 := by
          rcases Nat.eq_zero_or_pos (k - (fstL L m).length) with h0 | h0
          · exact h0
          · rw [List.getElem?_eq_none (by simp only [List.length_cons, List.length_nil]; omega)] at h; cases h
        rw [hk0] at h; simp at h; subst h
        rw [hm]; congr 1; omega
    · exact fst_val L m k r h
theorem pl_onto (L : List Int) {k : Nat} (hk : k < glN L) : ∃ i, i < L.length ∧ L.getD i 0 = k := by
  obtain ⟨r, hr⟩ : ∃ r, (fstL L L.length)[k]? = some r := ⟨_, List.getElem?_eq_getElem hk⟩
  exact ⟨r, fst_mem L L.length r (List.mem_of_getElem? hr), fst_val L _ _ _ hr⟩
theorem glLab_len (o : Ob) (L : List Int) : (glLab o L L.length).length = glN L := by simp [glLab, glN]
theorem glMx_within {o : Ob} {L : List Int} (ho : IsOb o) (hl : L.length = o.labels.length) (hok : PlOK L) : Within (glN L) (glMx o L) := by
  intro x y h
  simp only [glMx, List.any_eq_true, Bool.and_eq_true, beq_iff_eq] at h
  obtain ⟨p, hp, rfl, rfl⟩ := h
  have hin := inB_iff.1 ((List.all_eq_true.1 ho.inb) p hp)
  obtain ⟨u, hu⟩ : ∃ u, L[p.1.toNat]? = some u := ⟨_, List.getElem?_eq_getElem (by omega)⟩
  obtain ⟨v, hv⟩ : ∃ v, L[p.2.toNat]? = some v := ⟨_, List.getElem?_eq_getElem (by omega)⟩
  have a := hok.lt hu
  have b := hok.lt hv
  unfold atN
  rw [getD_of hu, getD_of hv]
  omega
theorem glued_ob {o : Ob} {L : List Int} (ho : IsOb o) (hl : L.length = o.labels.length) (hok : PlOK L) : IsOb (gluedS o L) := by
  have hle := ho.le
  have hn := glLab_len o L
  have hw := glMx_within ho hl hok
  unfold gluedS
  rw [← hn] at hw ⊢
  refine ob_of_clo (by have := fst_le L L.length; rw [hn]; unfold glN; omega) ?_ hw
  rw [List.all_eq_true]
  intro b hb
  unfold glLab at hb
  obtain ⟨r, hr, rfl⟩ := List.mem_map.1 hb
  have hrl := fst_mem L L.length r hr
  have : o.labels.getD r ByteArray.empty ∈ o.labels := by
    rw [List.getD_eq_getElem?_getD, List.getElem?_eq_getElem (by omega)]; exact List.getElem_mem _
  exact (List.all_eq_true.1 ho.sz) _ this
theorem glued_arr {o : Ob} {R : List Int} (ho : IsOb o) (h : RepOK R) (hl : R.length = o.labels.length)
    (hlab : ∀ (j : Nat) (r : Int), R[j]? = some r → (o.labels.getD r.toNat ByteArray.empty).toList = (o.labels.getD j ByteArray.empty).toList) : arrS o (gluedS o (placesL R)) (placesL R) = true := by
  have hpl := placesL_len R
  have hok := places_ok h.wf
  have hq := glued_ob ho (by rw [hpl]; exact hl) hok
  refine arr_of ho hq (by rw [hpl]; exact hl) (fun i y la hy hla => ?_) fun x y hm => ?_
  · have hi := (List.getElem?_eq_some_iff.1 hla).1
    obtain ⟨z, hz⟩ : ∃ z, R[i]? = some z := ⟨_, List.getElem?_eq_getElem (by omega)⟩
    obtain ⟨k, hk, hf⟩ := fst_at h hz
    rw [hk] at hy; cases hy
    have hbd := hok.lt hk
    have hqk : (gluedS o (placesL R)).labels[k]? = some (o.labels.getD z.toNat ByteArray.empty) := by
      show (glLab o (placesL R) (placesL R).length)[k]? = _
      unfold glLab
      rw [hpl, List.getElem?_map, hf]; rfl
    refine ⟨o.labels.getD z.toNat ByteArray.empty, ⟨by omega, ?_⟩, by rw [Int.toNat_natCast]; exact hqk, ?_⟩
    · show (k : Int) < ((glLab o (placesL R) (placesL R).length).length : Nat)
      rw [glLab_len]; omega
    · rw [hlab i z hz, List.getD_eq_getElem?_getD, hla]; rfl
  · have hwx := ho.within x y hm
    obtain ⟨u, hu⟩ : ∃ u, (placesL R)[x]? = some u := ⟨_, List.getElem?_eq_getElem (by omega)⟩
    obtain ⟨v, hv⟩ : ∃ v, (placesL R)[y]? = some v := ⟨_, List.getElem?_eq_getElem (by omega)⟩
    have hu0 := hok.lt hu
    have hv0 := hok.lt hv
    refine ⟨u.toNat, v.toNat, by rw [hu]; congr 1; omega, by rw [hv]; congr 1; omega, ?_⟩
    show mxOf (pairsOf (glN (placesL R)) (cloK (glMx o (placesL R)) (glN (placesL R)))) u.toNat v.toNat = true
    rw [mxOf_pairsOf (cloK_within (glMx_within ho (by rw [hpl]; exact hl) hok) _)]
    refine cloK_le ?_ _
    obtain ⟨p, hp, h1, h2⟩ := mxOf_iff.1 hm
    simp only [glMx, List.any_eq_true, Bool.and_eq_true, beq_iff_eq]
    refine ⟨p, hp, ?_, ?_⟩
    · unfold atN; rw [h1, getD_of hu]
    · unfold atN; rw [h2, getD_of hv]
end Go.Proofs

open Go Go.V
namespace Go.Proofs
structure SqS (b c : Ob) (f g : List Int) (q : Ob) (i j h : List Int) : Prop where
  t1 : thenS f i = (h, true)
  t2 : thenS g j = (h, true)
  a1 : arrS b q i = true
  a2 : arrS c q j = true
  on : ∀ k : Nat, k < q.labels.length → (k : Int) ∈ i ++ j
theorem lab_at {a b : Ob} {f : List Int} (h : arrS a b f = true) {k : Nat} {y : Int} (hy : f[k]? = some y) : (b.labels.getD y.toNat ByteArray.empty).toList = (a.labels.getD k ByteArray.empty).toList := by
  obtain ⟨_, _, hmap, _⟩ := arrS_iff.1 h
  have hl := allY_length hmap
  have hk := (List.getElem?_eq_some_iff.1 hy).1
  obtain ⟨lb, k1, k2, k3⟩ := mapOK_iff.1 (allY_at hmap hy (List.getElem?_eq_getElem (show k < a.labels.length by omega)))
  rw [List.getD_eq_getElem?_getD, k2, List.getD_eq_getElem?_getD, List.getElem?_eq_getElem (show k < a.labels.length by omega)]
  exact k3.symm
theorem mv_get {b : Ob} {g : List Int} {k : Nat} {z : Int} (h : (gMv b g)[k]? = some z) : ∃ y, g[k]? = some y ∧ z = y + b.labels.length := by
  rw [List.getElem?_map] at h
  obtain ⟨y, hy, rfl⟩ := Option.map_eq_some_iff.1 h
  exact ⟨y, hy, rfl⟩
theorem push_rep {a b c : Ob} {f g : List Int} (hf : arrS a b f = true) (hg : arrS a c g = true) :
    (∀ y ∈ f, 0 ≤ y ∧ y < ((b.labels.length + c.labels.length : Nat) : Int)) ∧ (∀ y ∈ gMv b g, 0 ≤ y ∧ y < ((b.labels.length + c.labels.length : Nat) : Int)) ∧ f.length = (gMv b g).length := by
  obtain ⟨_, _, m1, _⟩ := arrS_iff.1 hf
  obtain ⟨_, _, m2, _⟩ := arrS_iff.1 hg
  have l1 := allY_length m1
  have l2 := allY_length m2
  refine ⟨fun y hy => ?_, fun y hy => ?_, by simp [gMv]; omega⟩
  · have := map_all m1 y hy; omega
  · obtain ⟨z, hz, rfl⟩ := List.mem_map.1 hy
    have := map_all m2 z hz; omega
theorem push_lab {a b c : Ob} {f g : List Int} (hf : arrS a b f = true) (hg : arrS a c g = true) (k : Nat) (y z : Int) (hy : f[k]? = some y) (hz : (gMv b g)[k]? = some z) :
    ((besideS b c).labels.getD y.toNat ByteArray.empty).toList = ((besideS b c).labels.getD z.toNat ByteArray.empty).toList := by
  obtain ⟨w, hw, rfl⟩ := mv_get hz
  have h1 := lab_at hf hy
  have h2 := lab_at hg hw
  have b1 := map_all (arrS_iff.1 hf).2.2.1 y (List.mem_of_getElem? hy)
  have b2 := map_all (arrS_iff.1 hg).2.2.1 w (List.mem_of_getElem? hw)
  have e1 : (besideS b c).labels.getD y.toNat ByteArray.empty = b.labels.getD y.toNat ByteArray.empty := by
    simp only [besideS, List.getD_eq_getElem?_getD]; rw [List.getElem?_append_left (by omega)]
  have e2 : (besideS b c).labels.getD (w + b.labels.length).toNat ByteArray.empty = c.labels.getD w.toNat ByteArray.empty := by
    simp only [besideS, List.getD_eq_getElem?_getD]; rw [List.getElem?_append_right (by omega)]; congr 2; omega
  rw [e1, e2, h1, h2]
theorem sq_of {a b c : Ob} {f g : List Int} (hf : arrS a b f = true) (hg : arrS a c g = true) (hl : b.labels.length + c.labels.length ≤ 40) :
    ∃ h, SqS b c f g (gluedS (besideS b c) (puPl b c f g)) ((puPl b c f g).take b.labels.length) ((puPl b c f g).drop b.labels.length) h := by
  have ha := (arrS_iff.1 hf).1
  have hb := (arrS_iff.1 hf).2.1
  have hc := (arrS_iff.1 hg).2.1
  have ho := beside_ob hb hc hl
  have hol : (besideS b c).labels.length = b.labels.length + c.labels.length := by simp [besideS]
  obtain ⟨r1, r2, r3⟩ := push_rep hf hg
  obtain ⟨hok, hRl⟩ := joins_ok _ f (gMv b g) r1 r2 f.length (Nat.le_refl _) (by omega)
  have hinv := joins_inv _ f (gMv b g) r1 r2 (fun j => ((besideS b c).labels.getD j ByteArray.empty).toList) f.length (Nat.le_refl _) (by omega) (fun i y z _ hy hz => push_lab hf hg i y z hy hz)
  have heq := joins_eq _ f (gMv b g) r1 r2 f.length (Nat.le_refl _) (by omega)
  have harr := glued_arr ho hok (by rw [hRl, hol]) hinv
  have hLl := placesL_len (joinsL (rangeI (b.labels.length + c.labels.length)) f (gMv b g) f.length)
  change arrS (besideS b c) (gluedS (besideS b c) (puPl b c f g)) (puPl b c f g) = true at harr
  change (puPl b c f g).length = _ at hLl
  rw [hRl] at hLl
  have hi : arrS b (gluedS (besideS b c) (puPl b c f g)) ((puPl b c f g).take b.labels.length) = true := by
    have h1 := then_arr (arr_left (id_arr hb) hc hl) harr
    have h2 : ((idS (b.labels.length : Int)).map fun y => (puPl b c f g).getD y.toNat 0) = (puPl b c f g).take b.labels.length := by
      apply List.ext_getElem?
      intro k
      rw [List.getElem?_map]
      by_cases hk : k < b.labels.length
      · rw [idS_get hb.le hk, List.getElem?_take, if_pos hk, List.getElem?_eq_getElem (show k < (puPl b c f g).length by omega)]
        simp [List.getD_eq_getElem?_getD, List.getElem?_eq_getElem (show k < (puPl b c f g).length by omega)]
      · rw [List.getElem?_eq_none (by rw [idS_len hb.le]; omega), List.getElem?_take, if_neg hk]; rfl
    rwa [h2] at h1
  have hj : arrS c (gluedS (besideS b c) (puPl b c f g)) ((puPl b c f g).drop b.labels.length) = true := by
    have h1 := then_arr (arr_right hb (id_arr hc) hl) harr
    have h2 : (((idS (c.labels.length : Int)).map (· + (b.labels.length : Int))).map fun y => (puPl b c f g).getD y.toNat 0) = (puPl b c f g).drop b.labels.length := by
      apply List.ext_getElem?
      intro k
      rw [List.getElem?_map, List.getElem?_map]
      by_cases hk : k < c.labels.length
      · rw [idS_get hc.le hk, List.getElem?_drop, List.getElem?_eq_getElem (show b.labels.length + k < (puPl b c f g).length by omega)]
        have : ((k : Int) + (b.labels.length : Int)).toNat = b.labels.length + k := by omega
        simp only [Option.map_some, this, List.getD_eq_getElem?_getD, List.getElem?_eq_getElem (show b.labels.length + k < (puPl b c f g).length by omega), Option.getD_some]
      · rw [List.getElem?_eq_none (by rw [idS_len hc.le]; omega), List.getElem?_drop, List.getElem?_eq_none (by omega)]; rfl
    rwa [h2] at h1
  have hil := allY_length (arrS_iff.1 hi).2.2.1
  have hjl := allY_length (arrS_iff.1 hj).2.2.1
  refine ⟨f.map fun y => ((puPl b c f g).take b.labels.length).getD y.toNat 0, ⟨thenS_ok fun y hy => ?_, ?_, hi, hj, fun k hk => ?_⟩⟩
  · have := map_all (arrS_iff.1 hf).2.2.1 y hy; omega
  · rw [thenS_ok fun y hy => by have := map_all (arrS_iff.1 hg).2.2.1 y hy; omega]
    congr 1
    have hgl : g.length = f.length := by rw [r3]; simp [gMv]
    apply List.ext_getElem?
    intro k
    rw [List.getElem?_map, List.getElem?_map]
    by_cases hk : k < f.length
    · obtain ⟨y, hy⟩ : ∃ y, f[k]? = some y := ⟨_, List.getElem?_eq_getElem hk⟩
      obtain ⟨w, hw⟩ : ∃ w, g[k]? = some w := ⟨_, List.getElem?_eq_getElem (by omega)⟩
      have hz : (gMv b g)[k]? = some (w + b.labels.length) := by rw [List.getElem?_map, hw]; rfl
      have b1 := map_all (arrS_iff.1 hf).2.2.1 y (List.mem_of_getElem? hy)
      have b2 := map_all (arrS_iff.1 hg).2.2.1 w (List.mem_of_getElem? hw)
      have e0 := heq k y _ hk hy hz
      obtain ⟨r, hr⟩ : ∃ r, (joinsL (rangeI (b.labels.length + c.labels.length)) f (gMv b g) f.length)[y.toNat]? = some r := ⟨_, List.getElem?_eq_getElem (by omega)⟩
      have e1 := pl_rep hok hr
      have e2 := pl_rep hok (e0 ▸ hr)
      rw [hy, hw]
      simp only [Option.map_some, Option.some.injEq, List.getD_eq_getElem?_getD]
      rw [List.getElem?_drop, List.getElem?_take, if_pos (by omega), show b.labels.length + w.toNat = (w + (b.labels.length : Int)).toNat by omega]
      show ((puPl b c f g)[_]?).getD 0 = ((puPl b c f g)[_]?).getD 0
      exact congrArg (fun o => Option.getD o 0) (e2.trans e1.symm)
    · rw [List.getElem?_eq_none (by omega), List.getElem?_eq_none (by omega)]; rfl
  · have hk' : k < glN (puPl b c f g) := by rw [← glLab_len (besideS b c)]; exact hk
    obtain ⟨x, hx, hxv⟩ := pl_onto _ hk'
    rw [List.take_append_drop]
    rw [List.getD_eq_getElem?_getD, List.getElem?_eq_getElem hx] at hxv
    rw [show (k : Int) = (puPl b c f g)[x] from hxv.symm]
    exact List.getElem_mem _
theorem push_cases (a b c : Ob) (f g : List Int) : (∃ e : Int, e ≠ 0 ∧ pushR a b c f g = (⟨[], []⟩, [], [], e)) ∨ ∃ q i j h, pushR a b c f g = (q, i, j, 0) ∧ SqS b c f g q i j h ∧ arrS a b f = true ∧ arrS a c g = true := by
  unfold pushR
  split
  · exact .inl ⟨11, by decide, rfl⟩
  · rename_i hlg
    split
    · rename_i har
      simp only [not_or] at hlg
      rw [largeS_two] at hlg
      have h2 := hlg.2.2
      simp only [decide_eq_true_eq] at h2
      obtain ⟨h, hS⟩ := sq_of har.1 har.2 (by omega)
      exact .inr ⟨_, _, _, h, rfl, hS, har.1, har.2⟩
    · exact .inl ⟨10, by decide, rfl⟩
end Go.Proofs

open Go Go.V
namespace Go.Proofs
def vMed (r : List Int × Int) : V := .tup [.t (tInts r.1), I r.2]
theorem vsum_mk' (q : Ob) (i j : List Int) (e : Int) : vSum (q, i, j, e) = .tup [vObj q, .t (tInts i), .t (tInts j), I e] := rfl
end Go.Proofs

open Go Go.V
namespace Go.Proofs
set_option maxRecDepth 20000 in
set_option maxHeartbeats 4000000 in
theorem refPush_ (a b c : Ob) (f g : List Int) (ha1 : a.labels.length < 1000000000) (ha2 : a.pairs.length < 1000000000) (hb1 : b.labels.length < 1000000000) (hb2 : b.pairs.length < 100000000) (hc1 : c.labels.length < 1000000000) (hc2 : c.pairs.length < 100000000) (hf : f.length < 100000000) (hg : g.length < 100000000) : PCall Tryd.prog 23 [vObj a, vObj b, vObj c, .t (tInts f), .t (tInts g)] (vSum (pushR a b c f g)) := by
  refine pcall_of_body Tryd.func23 rfl fun s Q hQ => ?_
  obtain ⟨e, he, hl, h0, h1, h2, h3, h4⟩ : ∃ e : Env, ([vObj a, vObj b, vObj c, .t (tInts f), .t (tInts g)] ++ List.replicate (Tryd.f23.ntmps - ([vObj a, vObj b, vObj c, .t (tInts f), .t (tInts g)] : List V).length) .junk) = e ∧ e.length = 95 ∧ ev e (.tmp 0) = vObj a ∧ ev e (.tmp 1) = vObj b ∧ ev e (.tmp 2) = vObj c ∧ ev e (.tmp 3) = .t (tInts f) ∧ ev e (.tmp 4) = .t (tInts g) := ⟨_, rfl, rfl, rfl, rfl, rfl, rfl, rfl⟩
  rw [he]
  clear he
  refine vsk fun K1 hK1 => ?_
  refine vw_sc 0 [] ?_
  simp only [bs, ↓vopx, ↓vop, Nat.reduceBEq, thenV, flat, V.cells, h0, h1, h2, wocs, ↓goc, ↓woc, ↓vopm0, Tryd.zv25]
  refine hK1 _ _ ?_
  refine vsk fun K2 hK2 => ?_
  refine vsk fun K3 hK3 => ?_
  refine vw_st fun sN hSN => ?_
  have hn5 : sN.m s.next = some (.box 25 [.t (tStrs a.labels), .t (tPairs a.pairs)]) := by rw [hSN, m_add, if_neg (by simp only [n_add]; omega), m_add, if_neg (by simp only [n_add]; omega), m_add, if_neg (by simp only [n_add]; omega), m_add, if_pos rfl]
  have hn6 : sN.m (s.next + 1) = some (.box 25 [.t (tStrs b.labels), .t (tPairs b.pairs)]) := by rw [hSN, m_add, if_neg (by simp only [n_add]; omega), m_add, if_neg (by simp only [n_add]; omega), m_add, if_pos (by simp only [n_add])]
  have hn7 : sN.m (s.next + 1 + 1) = some (.box 25 [.t (tStrs c.labels), .t (tPairs c.pairs)]) := by rw [hSN, m_add, if_neg (by simp only [n_add]; omega), m_add, if_pos (by simp only [n_add])]
  have hn10 : sN.m (s.next + 1 + 1 + 1) = some (.box 25 [.t (.v (.slice none 0 0)), .t (.v (.slice none 0 0))]) := by rw [hSN, m_add, if_pos (by simp only [n_add])]
  have hnn : sN.next = s.next + 4 := by rw [hSN]; rfl
  have hnk : ∀ j, j < s.next → sN.m j = s.m j := fun j hj => by rw [hSN, m_add, if_neg (by simp only [n_add]; omega), m_add, if_neg (by simp only [n_add]; omega), m_add, if_neg (by simp only [n_add]; omega), m_add, if_neg (by omega)]
  clear hSN
  rcases (show (a.labels.length : Int) > 40 ∨ (¬ (a.labels.length : Int) > 40 ∧ (b.labels.length : Int) > 40) ∨ (¬ (a.labels.length : Int) > 40 ∧ ¬ (b.labels.length : Int) > 40 ∧ (c.labels.length : Int) > 40 - b.labels.length) ∨ (¬ (a.labels.length : Int) > 40 ∧ ¬ (b.labels.length : Int) > 40 ∧ ¬ (c.labels.length : Int) > 40 - b.labels.length) by omega) with qa | ⟨qa, qb⟩ | ⟨qa, qb, qc⟩ | ⟨qa, qb, qc⟩
  · have ka : largeS [a] = true := by rw [largeS_one]; exact decide_eq_true (by omega)
    refine vw_sc 0 [] ?_
    simp only [bs, ↓vopx, ↓vop, Nat.reduceBEq, thenV, flat, Nat.reduceLT, dLoad, vpart, opII, gtmp, hl, wocs, ↓goc, ↓woc, ↓vopm0, ↓pick_tf, Tryd.ag22, Tryd.fd25_0, Tryd.sz22, Tryd.un22, len_tStrs, qa, hn5]
    refine hK3 _ _ ?_
    refine vck fun A B hA hB => ?_
    simp only [condV, ev_hit, lpv, Nat.reduceLT, true_implies, reduceCtorEq, false_implies, and_true, hl]
    refine hA ?_
    clear hA hB A B
    refine vsk fun K4 hK4 => ?_
    refine vw_sc 0 [] ?_
    simp only [bs, Nat.reduceAdd, vparts, gfill, ↓vopx, ↓vop, Nat.reduceBEq, thenV, flat, Nat.reduceLT, V.cells, hl, wocs, ↓goc, ↓woc, ↓vopm0, Tryd.st25, Tryd.sz25, Nat.le_refl, hn10]
    refine hK4 _ _ ?_
    refine vw_ret ?_
    have hres : vSum (pushR a b c f g) = pack [vObj ⟨[], []⟩, .t (tInts []), .t (tInts []), I 11] := by simp [pushR, vSum, ka]; rfl
    rw [hres] at hQ
    refine hQ _ _ _ (.inr rfl) (done_wk (vs := [.agg [.t (.v (.slice none 0 0)), .t (.v (.slice none 0 0))], .t (.v (.slice none 0 0)), .t (.v (.slice none 0 0)), I 11]) (vs' := [vObj ⟨[], []⟩, .t (tInts []), .t (tInts []), I 11]) ?_ rfl (ewk_err4 _ _) (by simp [pack, nm, nm2, nm1, nm0]) ?_)
    · show vres Tryd.prog _ _ [.cell 10 25, .tmp 11, .tmp 12, .tmp 13] = _
      simp only [vres_cell, vres_tmp, vres_nil, ev_hit, ev_miss, Nat.reduceBEq, lpv, hl, hn10, Tryd.sz25, Tryd.ag25, dLoad, m_set, vpart, if_true, Nat.reduceLT, List.drop_zero, List.take_succ_cons, List.take_zero, List.length_cons, List.length_nil, Nat.zero_add, Nat.reduceAdd]
      try rfl
    · exact fun n x hn h => by rw [m_set, if_neg (by omega), hnk n hn]; exact h
  · have kb : largeS [b] = true := by rw [largeS_one]; exact decide_eq_true (by omega)
    refine vw_sc 0 [] ?_
    simp only [bs, ↓vopx, ↓vop, Nat.reduceBEq, thenV, flat, Nat.reduceLT, dLoad, vpart, opII, gtmp, hl, wocs, ↓goc, ↓woc, ↓vopm0, ↓pick_ff, ↓pick_tf, Tryd.ag22, Tryd.fd25_0, Tryd.sz22, Tryd.un22, len_tStrs, qa, qb, hn5, hn6]
    refine hK3 _ _ ?_
    refine vck fun A B hA hB => ?_
    simp only [condV, ev_hit, lpv, Nat.reduceLT, true_implies, reduceCtorEq, false_implies, and_true, hl]
    refine hA ?_
    clear hA hB A B
    refine vsk fun K5 hK5 => ?_
    refine vw_sc 0 [] ?_
    simp only [bs, Nat.reduceAdd, vparts, gfill, ↓vopx, ↓vop, Nat.reduceBEq, thenV, flat, Nat.reduceLT, V.cells, hl, wocs, ↓goc, ↓woc, ↓vopm0, Tryd.st25, Tryd.sz25, Nat.le_refl, hn10]
    refine hK5 _ _ ?_
    refine vw_ret ?_
    have hres : vSum (pushR a b c f g) = pack [vObj ⟨[], []⟩, .t (tInts []), .t (tInts []), I 11] := by simp [pushR, vSum, kb]; rfl
    rw [hres] at hQ
    refine hQ _ _ _ (.inr rfl) (done_wk (vs := [.agg [.t (.v (.slice none 0 0)), .t (.v (.slice none 0 0))], .t (.v (.slice none 0 0)), .t (.v (.slice none 0 0)), I 11]) (vs' := [vObj ⟨[], []⟩, .t (tInts []), .t (tInts []), I 11]) ?_ rfl (ewk_err4 _ _) (by simp [pack, nm, nm2, nm1, nm0]) ?_)
    · show vres Tryd.prog _ _ [.cell 10 25, .tmp 11, .tmp 12, .tmp 13] = _
      simp only [vres_cell, vres_tmp, vres_nil, ev_hit, ev_miss, Nat.reduceBEq, lpv, hl, hn10, Tryd.sz25, Tryd.ag25, dLoad, m_set, vpart, if_true, Nat.reduceLT, List.drop_zero, List.take_succ_cons, List.take_zero, List.length_cons, List.length_nil, Nat.zero_add, Nat.reduceAdd]
      try rfl
    · exact fun n x hn h => by rw [m_set, if_neg (by omega), hnk n hn]; exact h
  · have kc : largeS [b, c] = true := by rw [largeS_two]; exact decide_eq_true (by omega)
    refine vw_sc 0 [] ?_
    simp only [bs, ↓vopx, ↓vop, Nat.reduceBEq, thenV, flat, Nat.reduceLT, dLoad, vpart, opII, gtmp, hl, wocs, ↓goc, ↓woc, ↓vopm0, ↓pick_ff, Tryd.ag22, Tryd.fd25_0, Tryd.sz22, Tryd.un22, len_tStrs, qa, qb, qc, hn5, hn6, hn7]
    repeat ((with_reducible refine And.intro ?_ ?_); · exact ⟨by omega, by omega⟩)
    refine hK3 _ _ ?_
    refine vck fun A B hA hB => ?_
    simp only [condV, ev_hit, lpv, Nat.reduceLT, true_implies, reduceCtorEq, false_implies, and_true, hl]
    refine hA ?_
    clear hA hB A B
    refine vsk fun K6 hK6 => ?_
    refine vw_sc 0 [] ?_
    simp only [bs, Nat.reduceAdd, vparts, gfill, ↓vopx, ↓vop, Nat.reduceBEq, thenV, flat, Nat.reduceLT, V.cells, hl, wocs, ↓goc, ↓woc, ↓vopm0, Tryd.st25, Tryd.sz25, Nat.le_refl, hn10]
    refine hK6 _ _ ?_
    refine vw_ret ?_
    have hres : vSum (pushR a b c f g) = pack [vObj ⟨[], []⟩, .t (tInts []), .t (tInts []), I 11] := by simp [pushR, vSum, kc]; rfl
    rw [hres] at hQ
    refine hQ _ _ _ (.inr rfl) (done_wk (vs := [.agg [.t (.v (.slice none 0 0)), .t (.v (.slice none 0 0))], .t (.v (.slice none 0 0)), .t (.v (.slice none 0 0)), I 11]) (vs' := [vObj ⟨[], []⟩, .t (tInts []), .t (tInts []), I 11]) ?_ rfl (ewk_err4 _ _) (by simp [pack, nm, nm2, nm1, nm0]) ?_)
    · show vres Tryd.prog _ _ [.cell 10 25, .tmp 11, .tmp 12, .tmp 13] = _
      simp only [vres_cell, vres_tmp, vres_nil, ev_hit, ev_miss, Nat.reduceBEq, lpv, hl, hn10, Tryd.sz25, Tryd.ag25, dLoad, m_set, vpart, if_true, Nat.reduceLT, List.drop_zero, List.take_succ_cons, List.take_zero, List.length_cons, List.length_nil, Nat.zero_add, Nat.reduceAdd]
      try rfl
    · exact fun n x hn h => by rw [m_set, if_neg (by omega), hnk n hn]; exact h
  · have ka : largeS [a] = false := by rw [largeS_one]; exact decide_eq_false (by omega)
    have kb : largeS [b] = false := by rw [largeS_one]; exact decide_eq_false (by omega)
    have kc : largeS [b, c] = false := by rw [largeS_two]; exact decide_eq_false (by omega)
    refine vw_sc 0 [] ?_
    simp only [bs, ↓vopx, ↓vop, Nat.reduceBEq, thenV, flat, Nat.reduceLT, dLoad, vpart, opII, gtmp, hl, wocs, ↓goc, ↓woc, ↓vopm0, ↓pick_ff, Tryd.ag22, Tryd.fd25_0, Tryd.sz22, Tryd.un22, len_tStrs, qa, qb, qc, hn5, hn6, hn7]
    repeat ((with_reducible refine And.intro ?_ ?_); · exact ⟨by omega, by omega⟩)
    refine hK3 _ _ ?_
    refine vck fun A B hA hB => ?_
    simp only [condV, ev_hit, lpv, Nat.reduceLT, true_implies, reduceCtorEq, false_implies, true_and, hl]
    refine hB ?_
    clear hA hB A B
    refine vw_skip ?_
    refine hK2 _ _ ?_
    refine vsk fun K7 hK7 => ?_
    refine vsk fun K8 hK8 => ?_
    rcases (show arrS a b f = false ∨ (arrS a b f = true ∧ arrS a c g = false) ∨ (arrS a b f = true ∧ arrS a c g = true) by cases arrS a b f <;> cases arrS a c g <;> simp) with kf | ⟨kf, kg⟩ | ⟨kf, kg⟩
    · refine vw_sc 0 [.pur (Bo (arrS a b f))] ?_
      simp only [bs, Nat.reduceAdd, ↓vopx, ↓vop, Nat.reduceBEq, thenV, flat, Nat.reduceLT, dLoad, vpart, gtmp, hl, h3, wocs, ↓goc, ↓woc, ↓vopm0, ↓callC, ↓pick_tf, calleeV, Tryd.ag25, Tryd.sz25, kf, hn5, hn6]
      repeat ((with_reducible refine And.intro ?_ ?_); · exact ⟨Tryd.is59, by simpa only [kf] using refArrow_ a b f (by omega) (by omega) (by omega) (by omega) (by omega)⟩)
      refine hK8 _ _ ?_
      refine vck fun A B hA hB => ?_
      simp only [condV, ev_hit, lpv, Nat.reduceLT, true_implies, reduceCtorEq, false_implies, and_true, hl]
      refine hA ?_
      clear hA hB A B
      refine vsk fun K9 hK9 => ?_
      refine vw_sc 0 [] ?_
      simp only [bs, Nat.reduceAdd, vparts, gfill, ↓vopx, ↓vop, Nat.reduceBEq, thenV, flat, Nat.reduceLT, V.cells, hl, wocs, ↓goc, ↓woc, ↓vopm0, Tryd.st25, Tryd.sz25, Nat.le_refl, hn10]
      refine hK9 _ _ ?_
      refine vw_ret ?_
      have hres : vSum (pushR a b c f g) = pack [vObj ⟨[], []⟩, .t (tInts []), .t (tInts []), I 10] := by simp [pushR, vSum, ka, kb, kc, kf]; rfl
      rw [hres] at hQ
      refine hQ _ _ _ (.inr rfl) (done_wk (vs := [.agg [.t (.v (.slice none 0 0)), .t (.v (.slice none 0 0))], .t (.v (.slice none 0 0)), .t (.v (.slice none 0 0)), I 10]) (vs' := [vObj ⟨[], []⟩, .t (tInts []), .t (tInts []), I 10]) ?_ rfl (ewk_err4 _ _) (by simp [pack, nm, nm2, nm1, nm0]) ?_)
      · show vres Tryd.prog _ _ [.cell 10 25, .tmp 11, .tmp 12, .tmp 13] = _
        simp only [vres_cell, vres_tmp, vres_nil, ev_hit, ev_miss, Nat.reduceBEq, lpv, hl, hn10, Tryd.sz25, Tryd.ag25, dLoad, m_set, vpart, if_true, Nat.reduceLT, List.drop_zero, List.take_succ_cons, List.take_zero, List.length_cons, List.length_nil, Nat.zero_add, Nat.reduceAdd]
        try rfl
      · exact fun n x hn h => by rw [m_set, if_neg (by omega), hnk n hn]; exact h
    · refine vw_sc 0 [.pur (Bo (arrS a b f)), .pur (Bo (arrS a c g))] ?_
      simp only [bs, Nat.reduceAdd, ↓vopx, ↓vop, Nat.reduceBEq, thenV, flat, Nat.reduceLT, dLoad, vpart, gtmp, hl, h3, h4, wocs, ↓goc, ↓woc, ↓vopm0, ↓callC, ↓pick_ff, calleeV, Tryd.ag25, Tryd.sz25, kf, kg, hn5, hn6, hn7]
      repeat ((with_reducible refine And.intro ?_ ?_); · first | exact ⟨Tryd.is59, by simpa only [kf] using refArrow_ a b f (by omega) (by omega) (by omega) (by omega) (by omega)⟩ | exact ⟨Tryd.is59, by simpa only [kg] using refArrow_ a c g (by omega) (by omega) (by omega) (by omega) (by omega)⟩)
      refine hK8 _ _ ?_
      refine vck fun A B hA hB => ?_
      simp only [condV, ev_hit, lpv, Nat.reduceLT, true_implies, reduceCtorEq, false_implies, and_true, hl]
      refine hA ?_
      clear hA hB A B
      refine vsk fun K10 hK10 => ?_
      refine vw_sc 0 [] ?_
      simp only [bs, Nat.reduceAdd, vparts, gfill, ↓vopx, ↓vop, Nat.reduceBEq, thenV, flat, Nat.reduceLT, V.cells, hl, wocs, ↓goc, ↓woc, ↓vopm0, Tryd.st25, Tryd.sz25, Nat.le_refl, hn10]
      refine hK10 _ _ ?_
      refine vw_ret ?_
      have hres : vSum (pushR a b c f g) = pack [vObj ⟨[], []⟩, .t (tInts []), .t (tInts []), I 10] := by simp [pushR, vSum, ka, kb, kc, kg]; rfl
      rw [hres] at hQ
      refine hQ _ _ _ (.inr rfl) (done_wk (vs := [.agg [.t (.v (.slice none 0 0)), .t (.v (.slice none 0 0))], .t (.v (.slice none 0 0)), .t (.v (.slice none 0 0)), I 10]) (vs' := [vObj ⟨[], []⟩, .t (tInts []), .t (tInts []), I 10]) ?_ rfl (ewk_err4 _ _) (by simp [pack, nm, nm2, nm1, nm0]) ?_)
      · show vres Tryd.prog _ _ [.cell 10 25, .tmp 11, .tmp 12, .tmp 13] = _
        simp only [vres_cell, vres_tmp, vres_nil, ev_hit, ev_miss, Nat.reduceBEq, lpv, hl, hn10, Tryd.sz25, Tryd.ag25, dLoad, m_set, vpart, if_true, Nat.reduceLT, List.drop_zero, List.take_succ_cons, List.take_zero, List.length_cons, List.length_nil, Nat.zero_add, Nat.reduceAdd]
        try rfl
      · exact fun n x hn h => by rw [m_set, if_neg (by omega), hnk n hn]; exact h
    · refine vw_sc 0 [.pur (Bo (arrS a b f)), .pur (Bo (arrS a c g))] ?_
      simp only [bs, Nat.reduceAdd, ↓vopx, ↓vop, Nat.reduceBEq, thenV, flat, Nat.reduceLT, dLoad, vpart, gtmp, hl, h3, h4, wocs, ↓goc, ↓woc, ↓vopm0, ↓callC, ↓pick_ff, calleeV, Tryd.ag25, Tryd.sz25, kf, kg, hn5, hn6, hn7]
      repeat ((with_reducible refine And.intro ?_ ?_); · first | exact ⟨Tryd.is59, by simpa only [kf] using refArrow_ a b f (by omega) (by omega) (by omega) (by omega) (by omega)⟩ | exact ⟨Tryd.is59, by simpa only [kg] using refArrow_ a c g (by omega) (by omega) (by omega) (by omega) (by omega)⟩)
      refine hK8 _ _ ?_
      refine vck fun A B hA hB => ?_
      simp only [condV, ev_hit, lpv, Nat.reduceLT, true_implies, reduceCtorEq, false_implies, true_and, hl]
      refine hB ?_
      clear hA hB A B
      refine vw_skip ?_
      refine hK7 _ _ ?_
      refine vsk fun K11 hK11 => ?_
      have hob := (arrS_iff.1 kf).2.1
      have hoc := (arrS_iff.1 kg).2.1
      have hlb := hob.le
      have hlc := hoc.le
      have hfl := allY_length (arrS_iff.1 kf).2.2.1
      have hgl := allY_length (arrS_iff.1 kg).2.2.1
      have hbc : b.labels.length + c.labels.length ≤ 40 := by omega
      have hobc := beside_ob hob hoc hbc
      have hol : (besideS b c).labels.length = b.labels.length + c.labels.length := by simp only [besideS, List.length_append]
      have hop : (besideS b c).pairs.length < 1000000000 := by simp only [besideS, List.length_append, List.length_map]; omega
      refine vw_sc 0 [] ?_
      simp only [bs, ↓vopx, ↓vop, Nat.reduceBEq, thenV, Nat.reduceLT, dLoad, vpart, hl, wocs, ↓goc, ↓woc, ↓vopm0, Tryd.ag22, Tryd.fd25_0, Tryd.sz22, Tryd.un22, len_tStrs, hn6]
      refine hK11 _ _ ?_
      refine vsk fun K12 hK12 => ?_
      refine vw_sc 0 [.stop] ?_
      simp only [bs, Nat.reduceAdd, ↓vopx, ↓vop, Nat.reduceBEq, thenV, Nat.reduceLT, dLoad, vpart, opII, hl, wocs, ↓goc, ↓woc, ↓vopm0, ↓callC, calleeV, Tryd.ag22, Tryd.fd25_0, Tryd.sz22, Tryd.un22, len_tStrs, hn7]
      rw [show ((b.labels.length : Int) + (c.labels.length : Int)) = ((b.labels.length + c.labels.length : Nat) : Int) from by push_cast; rfl]
      repeat (refine And.intro (by first | omega | exact ⟨by omega, by omega⟩) ?_)
      refine ⟨Tryd.is66, (refUNew_ sN (b.labels.length + c.labels.length) (by omega)).mono fun v sU hv => ?_⟩
      obtain ⟨p, m, rfl, hpr, hup, hum, hku, hun⟩ := hv
      try simp only [bs, Nat.reduceLT, hl, Hold]
      refine hK12 _ _ ?_
      refine vsk fun K13 hK13 => ?_
      refine vsk fun K14 hK14 => ?_
      refine vw_sc 0 [] ?_
      simp only [bs, ↓vopx, ↓vop, thenV, flat, wocs, ↓goc, ↓woc, ↓vopm0]
      refine hK14 _ _ ?_
      refine vw_block ?_
      refine vw_loop (fun mm e' s' => ∃ i : Nat, mm = f.length - i ∧ i ≤ f.length ∧ e'.length = 95 ∧ ev e' (.tmp 3) = .t (tInts f) ∧ ev e' (.tmp 4) = .t (tInts g) ∧ ev e' (.tmp 6) = .ptr (s.next + 1) 0 ∧ ev e' (.tmp 7) = .ptr (s.next + 1 + 1) 0 ∧ ev e' (.tmp 10) = .ptr (s.next + 1 + 1 + 1) 0 ∧ ev e' (.tmp 14) = I b.labels.length ∧ ev e' (.tmp 15) = .ptr p 0 ∧ ev e' (.tmp 16) = I i ∧ True ∧ RefU s' p m (joinsL (rangeI (b.labels.length + c.labels.length)) f (gMv b g) i) ∧ Keep sN s' ∧ sN.next ≤ s'.next) (⟨0, rfl, Nat.zero_le _, ?_⟩) ?_
      · try simp only [ev_hit, ev_miss, Nat.reduceBEq, lpv, hl, h3, h4, Nat.reduceLT, true_and]
        repeat ((with_reducible refine And.intro ?_ ?_); · trivial)
        exact hun
      rintro mm e s1 ⟨i, rfl, hle_i, hl, k3, k4, k6, k7, k10, k14, k15, h_i, hst, ⟨hjP, hjK, hjN⟩⟩
      refine vsk fun K15 hK15 => ?_
      refine vsk fun K16 hK16 => ?_
      refine vw_sc 0 [] ?_
      simp only [bs, ↓vopx, ↓vop, Nat.reduceBEq, thenV, Nat.reduceLT, opII, hl, k3, h_i, wocs, ↓goc, ↓woc, ↓vopm0, len_tInts, Tryd.underlying26]
      refine hK16 _ _ ?_
      refine vck fun A B hA hB => ?_
      simp only [condV, ev_hit, lpv, Nat.reduceLT, decide_eq_true_eq, decide_eq_false_iff_not, hl]
      refine ⟨fun hc65 => hA ?_, fun hc65 => hB ?_⟩
      · clear hA hB A B
        refine vw_skip ?_
        refine hK15 _ _ ?_
        refine vsk fun K17 hK17 => ?_
        refine vw_block ?_
        obtain ⟨y, hy, hyl⟩ := arr_at kf (i := i) (by omega)
        obtain ⟨z, hz, hzl⟩ := arr_at kg (i := i) (by omega)
        have hz2 : (gMv b g)[i]? = some ((z + b.labels.length : Nat) : Int) := by rw [List.getElem?_map, hz]; simp
        have hjl := joinsL_length (rangeI (b.labels.length + c.labels.length)) f (gMv b g) i
        rw [rangeI_length] at hjl
        have hif : i < f.length := by omega
        have hig : i < g.length := by omega
        refine vw_chain Tryd.mixed 11 [0, 0, 0, 1, 1, 0, 0, 1, 1, 0, 0] [] [.stop] 0 (by decide +kernel) (by simp [lpv, hl]) rfl ?_
        simp only [bs, ↓vopx, ↓vop, Nat.reduceBEq, thenV, blockV, Nat.reduceLT, dLoad, vpart, opII, hl, k3, k4, k14, k15, h_i, wocs, ↓goc, ↓woc, ↓vopm1, ↓callC, calleeV, chn, ↓goq, ↓woq, List.zip_cons_cons, List.zip_nil_right, Tryd.ag3, Tryd.sz3, Tryd.un26, hy, hz, Int.toNat_natCast]
        repeat (refine And.intro (by first | omega | exact ⟨by omega, by omega⟩) ?_)
        rw [show ((z : Int) + (b.labels.length : Int)) = ((z + b.labels.length : Nat) : Int) from by push_cast; rfl]
        refine ⟨Tryd.is67, (refUJoin_ s1 p m _ hjP (by omega) y (z + b.labels.length) (by omega) (by omega)).mono fun v s2 hv => ?_⟩
        have hj2k := hv.keep hum hjK
        obtain ⟨⟨bb, rfl⟩, hj2, hbt, hbn⟩ := hv
        try simp only [bs, Nat.reduceBEq, k3, k4, k14, k15, h_i, Hold]
        refine hK17 _ _ ?_
        refine vw_sc 0 [] ?_
        simp only [bs, ↓vopx, ↓vop, Nat.reduceBEq, thenV, flat, Nat.reduceLT, opII, hl, k3, k4, k6, k7, k10, k14, k15, h_i, wocs, ↓goc, ↓woc, ↓vopm0]
        repeat ((with_reducible refine And.intro ?_ ?_); · exact ⟨by omega, by omega⟩)
        refine ⟨f.length - (i + 1), by omega, i + 1, rfl, by omega, ?_⟩
        try simp only [ev_hit, ev_miss, Nat.reduceBEq, lpv, hl, k3, k4, k6, k7, k10, k14, k15, h_i, if_true, if_false, Nat.reduceEqDiff, Nat.reduceLT, true_and, and_true]
        repeat ((with_reducible refine And.intro ?_ ?_); · trivial)
        rw [joinsL_succ hy hz2, Int.toNat_natCast, Int.toNat_natCast]
        exact ⟨hj2, hj2k, by omega⟩
      · clear hA hB A B
        have han : f.length = i := by omega
        refine vw_exit ?_
        simp only [thenV, blockV, if_true]
        refine hK13 _ _ ?_
        refine vsk fun K18 hK18 => ?_
        have h61 := hjK _ _ (by omega) hn6
        have h71 := hjK _ _ (by omega) hn7
        refine vw_sc 0 [.pur (vObj (besideS b c)), .stop] ?_
        simp only [bs, Nat.reduceAdd, ↓vopx, ↓vop, Nat.reduceBEq, thenV, Nat.reduceLT, V.cells, dLoad, vpart, hl, k6, k7, k15, wocs, ↓goc, ↓woc, ↓vopm0, ↓callC, calleeV, Tryd.ag25, Tryd.sz25, h61, h71]
        refine ⟨⟨Tryd.is69, beside69 b c hb1 (by omega) hc1 (by omega) hoc⟩, ?_⟩
        refine ⟨Tryd.is68, DCall.v (glued_ s1 p m _ hjP (wfU_joins _ _ _ _) (besideS b c) hobc hop (by rw [joinsL_length, rangeI_length, hol])) ?_⟩
        try simp only [bs, Nat.reduceAdd, Nat.reduceBEq, Nat.reduceLT, hl, k15, Tryd.sz25, Tryd.zv25, Nat.le_refl, Hold]
        refine hK18 _ _ ?_
        refine vsk fun K19 hK19 => ?_
        refine vw_st fun sX hSX => ?_
        have hx17 : sX.m s1.next = some (.box 25 [.t (tStrs (gluedS (besideS b c) (placesL (joinsL (rangeI (b.labels.length + c.labels.length)) f (gMv b g) i))).labels), .t (tPairs (gluedS (besideS b c) (placesL (joinsL (rangeI (b.labels.length + c.labels.length)) f (gMv b g) i))).pairs)]) := by rw [hSX, m_set, if_pos rfl]
        have hxs : ∀ j, j < s1.next → sX.m j = s1.m j := fun j hj => by rw [hSX, m_set, if_neg (by omega), m_add, if_neg (by omega)]
        have hx10 : sX.m (s.next + 1 + 1 + 1) = some (.box 25 [.t (.v (.slice none 0 0)), .t (.v (.slice none 0 0))]) := by rw [hxs _ (by omega)]; exact hjK _ _ (by omega) hn10
        have hxk : ∀ j x, j < s.next → s.m j = some x → sX.m j = some x := fun j x hj hx => by rw [hxs _ (by omega)]; exact hjK _ _ (by omega) (by rw [hnk j hj]; exact hx)
        clear hSX
        have hn17 : ¬ s1.next = s.next + 1 + 1 + 1 := by omega
        have hpl : (placesL (joinsL (rangeI (b.labels.length + c.labels.length)) f (gMv b g) i)).length = b.labels.length + c.labels.length := by rw [placesL_length, joinsL_length, rangeI_length]
        refine vw_chain_del (s.next + 1 + 1 + 1) Tryd.mixed 9 [1, 0, 0, 2, 0, 0, 2, 3, 0] [] [] 0 (by decide +kernel) (by simp [lpv, hl]) rfl ?_
        simp only [bs, Nat.reduceAdd, ↓vopx, ↓vop, Nat.reduceBEq, thenV, flat, Nat.reduceLT, V.cells, dLoad, vpart, hl, k10, k14, wocs, ↓goc, ↓woc, ↓vopm0, ↓vopm1, chn, ↓goq, ↓woq, List.zip_cons_cons, List.zip_nil_right, Tryd.ag25, Tryd.sl26, Tryd.sz25, Nat.le_refl, hx17, hx10, hpl, bnd, vflat, Nat.div_one]
        repeat ((with_reducible refine And.intro ?_ ?_); · first | omega | exact keep_del_set _ _ _)
        refine hK19 _ _ ?_
        refine vw_ret ?_
        have hres : vSum (pushR a b c f g) = pack [vObj (gluedS (besideS b c) (placesL (joinsL (rangeI (b.labels.length + c.labels.length)) f (gMv b g) i))), .t (tInts ((placesL (joinsL (rangeI (b.labels.length + c.labels.length)) f (gMv b g) i)).take b.labels.length)), .t (tInts ((placesL (joinsL (rangeI (b.labels.length + c.labels.length)) f (gMv b g) i)).drop b.labels.length)), I 0] := by simp [pushR, vSum, puPl, ka, kb, kc, kf, kg, han]; rfl
        rw [hres] at hQ
        refine hQ _ _ _ (.inr rfl) ?_
        refine done_flat (vs := [vObj (gluedS (besideS b c) (placesL (joinsL (rangeI (b.labels.length + c.labels.length)) f (gMv b g) i))), .t (tInts ((placesL (joinsL (rangeI (b.labels.length + c.labels.length)) f (gMv b g) i)).take b.labels.length)), .t (tInts ((placesL (joinsL (rangeI (b.labels.length + c.labels.length)) f (gMv b g) i)).drop b.labels.length)), I 0]) ?_ rfl (by simp [pack, nm, nm2, nm1, nm0]) (fun n x hn h => by rw [m_set, if_neg (by omega)]; exact hxk n x hn h)
        show vres Tryd.prog _ _ [.cell 10 25, .tmp 11, .tmp 12, .tmp 13] = _
        simp only [vres_cell, vres_tmp, vres_nil, ev_hit, ev_miss, Nat.reduceBEq, lpv, hl, k10, Tryd.sz25, Tryd.ag25, dLoad, m_set, vpart, if_true, Nat.reduceLT, List.drop_zero, List.take_succ_cons, List.take_zero, List.length_cons, List.length_nil, Nat.zero_add, Nat.reduceAdd]
        simp [List.map_take, List.map_drop]
        exact List.take_of_length_le (by rw [List.length_drop, List.length_map, hpl]; omega)
end Go.Proofs

open Go Go.V
namespace Go.Proofs
theorem push_pl {a b c : Ob} {f g : List Int} {q : Ob} {i j : List Int} (hR : pushR a b c f g = (q, i, j, 0)) :
    i ++ j = puPl b c f g ∧ i.length = b.labels.length ∧ j.length = c.labels.length ∧ q = gluedS (besideS b c) (puPl b c f g) ∧ arrS a b f = true ∧ arrS a c g = true ∧ b.labels.length + c.labels.length ≤ 40 := by
  unfold pushR at hR
  split at hR
  · simp at hR
  · rename_i hlg
    split at hR
    · rename_i har
      simp only [not_or] at hlg
      rw [largeS_two] at hlg
      have h2 := hlg.2.2
      simp only [decide_eq_true_eq] at h2
      simp only [Prod.mk.injEq] at hR
      obtain ⟨rfl, rfl, rfl, _⟩ := hR
      have hl := puPl_len b c f g
      exact ⟨List.take_append_drop _ _, by rw [List.length_take]; omega, by rw [List.length_drop]; omega, rfl, har.1, har.2, by omega⟩
    · simp at hR
end Go.Proofs

open Go Go.V
namespace Go.Proofs
def gPl (n : Nat) (F G : List Int) : List Int := placesL (joinsL (rangeI n) F G F.length)
structure GlOK (o : Ob) (F G : List Int) : Prop where
  ob : IsOb o
  bF : ∀ y ∈ F, 0 ≤ y ∧ y < ((o.labels.length : Nat) : Int)
  bG : ∀ y ∈ G, 0 ≤ y ∧ y < ((o.labels.length : Nat) : Int)
  ln : F.length = G.length
  lab : ∀ (k : Nat) (y z : Int), F[k]? = some y → G[k]? = some z → (o.labels.getD y.toNat ByteArray.empty).toList = (o.labels.getD z.toNat ByteArray.empty).toList
section
variable {o : Ob} {F G : List Int}
theorem GlOK.rep (h : GlOK o F G) : RepOK (joinsL (rangeI o.labels.length) F G F.length) ∧ (joinsL (rangeI o.labels.length) F G F.length).length = o.labels.length :=
  joins_ok _ F G h.bF h.bG F.length (Nat.le_refl _) (by have := h.ln; omega)
theorem GlOK.len (h : GlOK o F G) : (gPl o.labels.length F G).length = o.labels.length := by
  unfold gPl; rw [placesL_len]; exact h.rep.2
theorem GlOK.ok (h : GlOK o F G) : PlOK (gPl o.labels.length F G) := places_ok h.rep.1.wf
theorem GlOK.arr (h : GlOK o F G) : arrS o (gluedS o (gPl o.labels.length F G)) (gPl o.labels.length F G) = true := by
  obtain ⟨hok, hRl⟩ := h.rep
  exact glued_arr h.ob hok hRl (joins_inv _ F G h.bF h.bG (fun j => (o.labels.getD j ByteArray.empty).toList) F.length (Nat.le_refl _) (by have := h.ln; omega) (fun i y z _ hy hz => h.lab i y z hy hz))
theorem GlOK.eq (h : GlOK o F G) {k : Nat} {y z : Int} (hy : F[k]? = some y) (hz : G[k]? = some z) : (gPl o.labels.length F G)[y.toNat]? = (gPl o.labels.length F G)[z.toNat]? := by
  obtain ⟨hok, hRl⟩ := h.rep
  have hk := (List.getElem?_eq_some_iff.1 hy).1
  have b1 := h.bF y (List.mem_of_getElem? hy)
  have e0 := joins_eq _ F G h.bF h.bG F.length (Nat.le_refl _) (by have := h.ln; omega) k y z hk hy hz
  obtain ⟨r, hr⟩ : ∃ r, (joinsL (rangeI o.labels.length) F G F.length)[y.toNat]? = some r := ⟨_, List.getElem?_eq_getElem (by omega)⟩
  exact (pl_rep hok hr).trans (pl_rep hok (e0 ▸ hr)).symm
end
def bsB (l : List Ob) (k : Nat) : Nat := (labsT l k).length
theorem bsB_succ {l : List Ob} {k : Nat} {o : Ob} (h : l[k]? = some o) : bsB l (k + 1) = bsB l k + o.labels.length := by
  unfold bsB; rw [labsT_succ h, List.length_append]
theorem labsT_out {l : List Ob} {k : Nat} (h : l[k]? = none) : labsT l (k + 1) = labsT l k := by
  unfold labsT; rw [List.take_add_one, h]; simp
theorem bsB_mono (l : List Ob) {j k : Nat} (h : j ≤ k) : bsB l j ≤ bsB l k := by
  induction h with
  | refl => exact Nat.le_refl _
  | step _ ih =>
    rename_i m _
    cases hm : l[m]? with
    | none => unfold bsB at ih ⊢; rw [labsT_out hm]; exact ih
    | some o => rw [bsB_succ hm]; omega
theorem bsB_lt {l : List Ob} {j k : Nat} {o : Ob} (h : l[j]? = some o) (hk : j < k) : bsB l j + o.labels.length ≤ bsB l k := by
  rw [← bsB_succ h]; exact bsB_mono l hk
theorem labs_keep {l : List Ob} {j k : Nat} (h : j ≤ k) {x : Nat} {b : ByteArray} (hx : (labsT l j)[x]? = some b) : (labsT l k)[x]? = some b := by
  induction h with
  | refl => exact hx
  | step _ ih =>
    rename_i m _
    cases hm : l[m]? with
    | none => rw [labsT_out hm]; exact ih
    | some o => rw [labsT_succ hm, List.getElem?_append_left (List.getElem?_eq_some_iff.1 ih).1]; exact ih
theorem labs_at {l : List Ob} {j k : Nat} {o : Ob} (h : l[j]? = some o) (hk : j < k) {x : Nat} {b : ByteArray} (hx : o.labels[x]? = some b) : (labsT l k)[bsB l j + x]? = some b := by
  refine labs_keep (show j + 1 ≤ k from hk) ?_
  rw [labsT_succ h, List.getElem?_append_right (by unfold bsB; omega), show bsB l j + x - (labsT l j).length = x by unfold bsB; omega]; exact hx
theorem bs_mx {l : List Ob} (hI : ∀ o ∈ l, IsOb o) : ∀ k, k ≤ l.length → ∀ x y, mxOf (prsT l k) x y = true ↔ ∃ (j : Nat) (o : Ob) (u v : Nat), j < k ∧ l[j]? = some o ∧ x = bsB l j + u ∧ y = bsB l j + v ∧ mxOf o.pairs u v = true
  | 0, _, x, y => by
    constructor
    · intro h; simp [prsT, mxOf] at h
    · rintro ⟨j, _, _, _, h, _⟩; omega
  | k + 1, hk, x, y => by
    obtain ⟨o, ho⟩ : ∃ o, l[k]? = some o := ⟨_, List.getElem?_eq_getElem hk⟩
    have hio := hI o (List.mem_of_getElem? ho)
    rw [prsT_succ ho, mxOf_app, bs_mx hI k (by omega), mxOf_sh hio.nonneg]
    constructor
    · rintro (⟨j, o', u, v, h1, h2⟩ | ⟨u, v, h1, h2, h3⟩)
      · exact ⟨j, o', u, v, by omega, h2⟩
      · exact ⟨k, o, u, v, by omega, ho, by unfold bsB; omega, by unfold bsB; omega, h3⟩
    · rintro ⟨j, o', u, v, h1, h2, h3, h4, h5⟩
      by_cases hj : j < k
      · exact .inl ⟨j, o', u, v, hj, h2, h3, h4, h5⟩
      · have : j = k := by omega
        subst this
        rw [ho] at h2; cases h2
        exact .inr ⟨u, v, by unfold bsB at h3; omega, by unfold bsB at h4; omega, h5⟩
theorem bs_step {l : List Ob} {k : Nat} {o : Ob} (h : l[k]? = some o) : (⟨labsT l (k + 1), prsT l (k + 1)⟩ : Ob) = besideS ⟨labsT l k, prsT l k⟩ o := by
  rw [labsT_succ h, prsT_succ h]; rfl
theorem bs_ob {l : List Ob} (hI : ∀ o ∈ l, IsOb o) (hl : bsB l l.length ≤ 40) : ∀ k, k ≤ l.length → IsOb ⟨labsT l k, prsT l k⟩
  | 0, _ => by
    have := ob_of_clo (ls := []) (M := fun _ _ => false) (by simp) (by simp) (fun _ _ h => by cases h)
    simpa [labsT, prsT, pairsOf] using this
  | k + 1, hk => by
    obtain ⟨o, ho⟩ : ∃ o, l[k]? = some o := ⟨_, List.getElem?_eq_getElem hk⟩
    have h1 := bsB_lt ho hk
    rw [bs_step ho]
    exact beside_ob (bs_ob hI hl k (by omega)) (hI o (List.mem_of_getElem? ho)) (by unfold bsB at h1 hl; simp only; omega)
end Go.Proofs

open Go Go.V
namespace Go.Proofs
structure Ar where
  fr : Int
  to : Int
  mp : List Int
structure Dia where
  nodes : List Ob
  arrs : List Ar
def noOb : Ob := ⟨[], []⟩
def nodeAt (d : Dia) (z : Int) : Ob := d.nodes.getD z.toNat noOb
def thereS (d : Dia) (z : Int) : Bool := decide (0 ≤ z) && decide (z < (d.nodes.length : Int))
def arOK (d : Dia) (x : Ar) : Bool := thereS d x.fr && (thereS d x.to && arrS (nodeAt d x.fr) (nodeAt d x.to) x.mp)
def diaS (d : Dia) : Bool := decide (d.nodes.length ≤ 6) && (decide (d.arrs.length ≤ 8) && ((d.nodes.all fun o => checkS o == 0) && d.arrs.all (arOK d)))
def bigD (d : Dia) : Bool := decide (6 < d.nodes.length) || (decide (8 < d.arrs.length) || largeS d.nodes)
def colF (d : Dia) : Nat → List Int
  | 0 => []
  | k + 1 => colF d k ++ (match d.arrs[k]? with | some x => legT x.mp.length (bsB d.nodes x.fr.toNat) | none => [])
def colG (d : Dia) : Nat → List Int
  | 0 => []
  | k + 1 => colG d k ++ (match d.arrs[k]? with | some x => x.mp.map (fun w => ((bsB d.nodes x.to.toNat : Nat) : Int) + w) | none => [])
def colPl (d : Dia) : List Int := gPl (bsB d.nodes d.nodes.length) (colF d d.arrs.length) (colG d d.arrs.length)
def colLegs (d : Dia) : List (List Int) := (legsT d.nodes d.nodes.length).map fun g => (thenS g (colPl d)).1
def colS (d : Dia) : Ob × List (List Int) × Int := if bigD d = true then (noOb, [], 11) else if diaS d = false then (noOb, [], 10) else (gluedS (bsS d.nodes) (colPl d), colLegs d, 0)
def alS (d : Dia) (legs : List (List Int)) (x : Ar) : Bool := (thenS x.mp (legs.getD x.to.toNat [])).2 && ((thenS x.mp (legs.getD x.to.toNat [])).1 == legs.getD x.fr.toNat [])
def legsS (d : Dia) (t : Ob) (legs : List (List Int)) : Bool := diaS d && ((checkS t == 0) && (decide (legs.length = d.nodes.length) && (((List.range d.nodes.length).all fun k => arrS (d.nodes.getD k noOb) t (legs.getD k [])) && d.arrs.all (alS d legs))))
def medD (d : Dia) (t : Ob) (legs : List (List Int)) : List Int × Int :=
  if (colS d).2.2 ≠ 0 then ([], (colS d).2.2) else if 40 < t.labels.length then ([], 11) else if legsS d t legs = false then ([], 12) else (outS (colS d).1.labels.length (colS d).2.1 legs, 0)
theorem check_iff {o : Ob} : (checkS o == 0) = true ↔ IsOb o := by
  constructor
  · intro h
    by_cases ha : arrS ⟨[], []⟩ o [] = true
    · exact (arrS_iff.1 ha).2.1
    · exfalso; apply ha
      simp only [arrS, h, Bool.and_eq_true]
      exact ⟨by decide, trivial, by simp [allY]⟩
  · intro h
    have := id_arr h
    simp only [arrS, Bool.and_eq_true] at this
    exact this.1
theorem sumT_bs (l : List Ob) : ∀ k, k ≤ l.length → sumT l k = bsB l k
  | 0, _ => rfl
  | k + 1, hk => by
    obtain ⟨o, ho⟩ : ∃ o, l[k]? = some o := ⟨_, List.getElem?_eq_getElem hk⟩
    rw [bsB_succ ho, ← sumT_bs l k (by omega), sumT_succ ho]
structure DiaOK (d : Dia) : Prop where
  n : d.nodes.length ≤ 6
  m : d.arrs.length ≤ 8
  ob : ∀ o ∈ d.nodes, IsOb o
  ar : ∀ x ∈ d.arrs, ∃ a b, 0 ≤ x.fr ∧ d.nodes[x.fr.toNat]? = some a ∧ 0 ≤ x.to ∧ d.nodes[x.to.toNat]? = some b ∧ arrS a b x.mp = true
theorem there_iff {d : Dia} {z : Int} : thereS d z = true ↔ 0 ≤ z ∧ z < (d.nodes.length : Int) := by simp [thereS]
theorem nodeAt_of {d : Dia} {z : Int} {o : Ob} (h : d.nodes[z.toNat]? = some o) : nodeAt d z = o := by unfold nodeAt; rw [List.getD_eq_getElem?_getD, h]; rfl
theorem dia_iff {d : Dia} : diaS d = true ↔ DiaOK d := by
  simp only [diaS, Bool.and_eq_true, decide_eq_true_eq, List.all_eq_true, check_iff, arOK, there_iff]
  constructor
  · rintro ⟨h1, h2, h3, h4⟩
    refine ⟨h1, h2, h3, fun x hx => ?_⟩
    obtain ⟨⟨f0, f1⟩, ⟨t0, t1⟩, ha⟩ := h4 x hx
    obtain ⟨a, hA⟩ : ∃ a, d.nodes[x.fr.toNat]? = some a := ⟨_, List.getElem?_eq_getElem (by omega)⟩
    obtain ⟨b, hB⟩ : ∃ b, d.nodes[x.to.toNat]? = some b := ⟨_, List.getElem?_eq_getElem (by omega)⟩
    rw [nodeAt_of hA, nodeAt_of hB] at ha
    exact ⟨a, b, f0, hA, t0, hB, ha⟩
  · rintro ⟨h1, h2, h3, h4⟩
    refine ⟨h1, h2, h3, fun x hx => ?_⟩
    obtain ⟨a, b, f0, hA, t0, hB, ha⟩ := h4 x hx
    rw [nodeAt_of hA, nodeAt_of hB]
    have f1 := (List.getElem?_eq_some_iff.1 hA).1
    have t1 := (List.getElem?_eq_some_iff.1 hB).1
    exact ⟨⟨f0, by omega⟩, ⟨t0, by omega⟩, ha⟩
theorem colF_succ {d : Dia} {k : Nat} {x : Ar} (h : d.arrs[k]? = some x) : colF d (k + 1) = colF d k ++ legT x.mp.length (bsB d.nodes x.fr.toNat) := by simp only [colF, h]
theorem colG_succ {d : Dia} {k : Nat} {x : Ar} (h : d.arrs[k]? = some x) : colG d (k + 1) = colG d k ++ x.mp.map (fun w => ((bsB d.nodes x.to.toNat : Nat) : Int) + w) := by simp only [colG, h]
theorem legT_len (n b : Nat) : (legT n b).length = n := by simp [legT]
theorem legT_at {n b i : Nat} (h : i < n) : (legT n b)[i]? = some (((b + i : Nat)) : Int) := by simp [legT, h]
theorem col_len (d : Dia) : ∀ k, k ≤ d.arrs.length → (colF d k).length = (colG d k).length
  | 0, _ => rfl
  | k + 1, h => by
    obtain ⟨x, hx⟩ : ∃ x, d.arrs[k]? = some x := ⟨_, List.getElem?_eq_getElem h⟩
    rw [colF_succ hx, colG_succ hx, List.length_append, List.length_append, col_len d k (by omega), legT_len, List.length_map]
theorem col_of (d : Dia) : ∀ k, k ≤ d.arrs.length → ∀ (i : Nat) (y z : Int), (colF d k)[i]? = some y → (colG d k)[i]? = some z → ∃ x ∈ d.arrs, ∃ (t : Nat) (w : Int), x.mp[t]? = some w ∧ y = ((bsB d.nodes x.fr.toNat + t : Nat) : Int) ∧ z = ((bsB d.nodes x.to.toNat : Nat) : Int) + w
  | 0, _, i, y, z, hy, _ => by simp [colF] at hy
  | k + 1, h, i, y, z, hy, hz => by
    obtain ⟨x, hx⟩ : ∃ x, d.arrs[k]? = some x := ⟨_, List.getElem?_eq_getElem h⟩
    have hl := col_len d k (by omega)
    rw [colF_succ hx] at hy
    rw [colG_succ hx] at hz
    by_cases hi : i < (colF d k).length
    · rw [List.getElem?_append_left hi] at hy
      rw [List.getElem?_append_left (by omega)] at hz
      exact col_of d k (by omega) i y z hy hz
    · rw [List.getElem?_append_right (by omega)] at hy
      rw [List.getElem?_append_right (by omega), ← hl, List.getElem?_map] at hz
      obtain ⟨w, hw, rfl⟩ := Option.map_eq_some_iff.1 hz
      have ht := (List.getElem?_eq_some_iff.1 hw).1
      rw [legT_at ht] at hy; cases hy
      exact ⟨x, List.mem_of_getElem? hx, _, w, hw, rfl, rfl⟩
theorem col_keep (d : Dia) {j k : Nat} (h : j ≤ k) (hk : k ≤ d.arrs.length) {i : Nat} {y z : Int} (hy : (colF d j)[i]? = some y) (hz : (colG d j)[i]? = some z) : (colF d k)[i]? = some y ∧ (colG d k)[i]? = some z := by
  induction h with
  | refl => exact ⟨hy, hz⟩
  | step _ ih =>
    rename_i m _
    obtain ⟨h1, h2⟩ := ih (by omega)
    obtain ⟨x, hx⟩ : ∃ x, d.arrs[m]? = some x := ⟨_, List.getElem?_eq_getElem hk⟩
    rw [colF_succ hx, colG_succ hx, List.getElem?_append_left (List.getElem?_eq_some_iff.1 h1).1, List.getElem?_append_left (List.getElem?_eq_some_iff.1 h2).1]
    exact ⟨h1, h2⟩
theorem col_pos {d : Dia} {k : Nat} {x : Ar} (hk : d.arrs[k]? = some x) {t : Nat} {w : Int} (hw : x.mp[t]? = some w) : (colF d d.arrs.length)[(colF d k).length + t]? = some ((bsB d.nodes x.fr.toNat + t : Nat) : Int) ∧ (colG d d.arrs.length)[(colF d k).length + t]? = some (((bsB d.nodes x.to.toNat : Nat) : Int) + w) := by
  have hkl := (List.getElem?_eq_some_iff.1 hk).1
  have hl := col_len d k (by omega)
  have ht := (List.getElem?_eq_some_iff.1 hw).1
  refine col_keep d (show k + 1 ≤ d.arrs.length from hkl) (Nat.le_refl _) ?_ ?_
  · rw [colF_succ hk, List.getElem?_append_right (by omega), show (colF d k).length + t - (colF d k).length = t by omega, legT_at ht]
  · rw [colG_succ hk, List.getElem?_append_right (by omega), show (colF d k).length + t - (colG d k).length = t by omega, List.getElem?_map, hw]; rfl
theorem col_at (d : Dia) {x : Ar} (hx : x ∈ d.arrs) {t : Nat} {w : Int} (hw : x.mp[t]? = some w) : ∃ i : Nat, (colF d d.arrs.length)[i]? = some ((bsB d.nodes x.fr.toNat + t : Nat) : Int) ∧ (colG d d.arrs.length)[i]? = some (((bsB d.nodes x.to.toNat : Nat) : Int) + w) := by
  obtain ⟨k, hk⟩ := List.getElem?_of_mem hx
  exact ⟨_, col_pos hk hw⟩
theorem bsS_lab (l : List Ob) : (bsS l).labels.length = bsB l l.length := rfl
theorem bs_lab {l : List Ob} {k : Nat} {o : Ob} (h : l[k]? = some o) {x : Nat} (hx : x < o.labels.length) : (bsS l).labels.getD (bsB l k + x) ByteArray.empty = o.labels.getD x ByteArray.empty := by
  have := labs_at h (List.getElem?_eq_some_iff.1 h).1 (List.getElem?_eq_getElem hx)
  rw [List.getD_eq_getElem?_getD, List.getD_eq_getElem?_getD, List.getElem?_eq_getElem hx]
  exact congrArg (fun o => Option.getD o _) this
variable {d : Dia}
theorem DiaOK.gl (h : DiaOK d) (hl : bsB d.nodes d.nodes.length ≤ 40) : GlOK (bsS d.nodes) (colF d d.arrs.length) (colG d d.arrs.length) := by
  have key : ∀ (i : Nat) (y z : Int), (colF d d.arrs.length)[i]? = some y → (colG d d.arrs.length)[i]? = some z → (0 ≤ y ∧ y < ((bsB d.nodes d.nodes.length : Nat) : Int)) ∧ (0 ≤ z ∧ z < ((bsB d.nodes d.nodes.length : Nat) : Int)) ∧ ((bsS d.nodes).labels.getD y.toNat ByteArray.empty).toList = ((bsS d.nodes).labels.getD z.toNat ByteArray.empty).toList := fun i y z hy hz => by
    obtain ⟨x, hx, t, w, hw, rfl, rfl⟩ := col_of d _ (Nat.le_refl _) i y z hy hz
    obtain ⟨a, b, f0, hA, t0, hB, ha⟩ := h.ar x hx
    have ma := (arrS_iff.1 ha).2.2.1
    have la := allY_length ma
    have bw := map_all ma w (List.mem_of_getElem? hw)
    have ht := (List.getElem?_eq_some_iff.1 hw).1
    have e1 := bsB_lt hA (List.getElem?_eq_some_iff.1 hA).1
    have e2 := bsB_lt hB (List.getElem?_eq_some_iff.1 hB).1
    refine ⟨⟨by omega, by omega⟩, ⟨by omega, by omega⟩, ?_⟩
    rw [Int.toNat_natCast, show (((bsB d.nodes x.to.toNat : Nat) : Int) + w).toNat = bsB d.nodes x.to.toNat + w.toNat by omega, bs_lab hA (by omega), bs_lab hB (by omega)]
    exact (lab_at ha hw).symm
  have hln := col_len d _ (Nat.le_refl _)
  refine ⟨bs_ob h.ob hl _ (Nat.le_refl _), fun y hy => ?_, fun z hz => ?_, hln, fun k y z hy hz => (key k y z hy hz).2.2⟩
  · obtain ⟨i, hi⟩ := List.getElem?_of_mem hy
    have := (List.getElem?_eq_some_iff.1 hi).1
    obtain ⟨z, hz⟩ : ∃ z, (colG d d.arrs.length)[i]? = some z := ⟨_, List.getElem?_eq_getElem (by omega)⟩
    exact (key i y z hi hz).1
  · obtain ⟨i, hi⟩ := List.getElem?_of_mem hz
    have := (List.getElem?_eq_some_iff.1 hi).1
    obtain ⟨y, hy⟩ : ∃ y, (colF d d.arrs.length)[i]? = some y := ⟨_, List.getElem?_eq_getElem (by omega)⟩
    exact (key i y z hy hi).2.1
theorem legs_at {l : List Ob} : ∀ n, n ≤ l.length → ∀ {k : Nat} {o : Ob}, k < n → l[k]? = some o → (legsT l n)[k]? = some (legT o.labels.length (bsB l k))
  | 0, _, k, o, h, _ => by omega
  | n + 1, hn, k, o, h, ho => by
    obtain ⟨p, hp⟩ : ∃ p, l[n]? = some p := ⟨_, List.getElem?_eq_getElem hn⟩
    have hll := legsT_length l n (by omega)
    rw [legsT_succ hp]
    by_cases hk : k < n
    · rw [List.getElem?_append_left (by omega)]; exact legs_at n (by omega) hk ho
    · have : k = n := by omega
      subst this
      rw [ho] at hp; cases hp
      rw [List.getElem?_append_right (by omega), hll, Nat.sub_self]; rfl
theorem colLegs_len : (colLegs d).length = d.nodes.length := by unfold colLegs; rw [List.length_map, legsT_length _ _ (Nat.le_refl _)]
theorem DiaOK.leg (h : DiaOK d) (hl : bsB d.nodes d.nodes.length ≤ 40) {k : Nat} {o : Ob} (ho : d.nodes[k]? = some o) :
    ∃ g, (colLegs d)[k]? = some g ∧ g.length = o.labels.length ∧ thenS (legT o.labels.length (bsB d.nodes k)) (colPl d) = (g, true) ∧ ∀ x, x < o.labels.length → g[x]? = (colPl d)[bsB d.nodes k + x]? := by
  have hk := (List.getElem?_eq_some_iff.1 ho).1
  have e1 := bsB_lt ho hk
  have hpl : (colPl d).length = bsB d.nodes d.nodes.length := (h.gl hl).len
  have ht : thenS (legT o.labels.length (bsB d.nodes k)) (colPl d) = ((legT o.labels.length (bsB d.nodes k)).map fun y => (colPl d).getD y.toNat 0, true) := thenS_ok fun y hy => by
    obtain ⟨i, hi⟩ := List.getElem?_of_mem hy
    have hil := (List.getElem?_eq_some_iff.1 hi).1
    rw [legT_len] at hil
    rw [legT_at hil] at hi; cases hi
    exact ⟨by omega, by omega⟩
  refine ⟨(thenS (legT o.labels.length (bsB d.nodes k)) (colPl d)).1, by unfold colLegs; rw [List.getElem?_map, legs_at _ (Nat.le_refl _) hk ho]; rfl, ?_, ?_, fun x hx => ?_⟩
  · rw [ht]; simp [legT]
  · rw [ht]
  · rw [ht, List.getElem?_map, legT_at hx]
    simp only [Option.map_some, Int.toNat_natCast, List.getD_eq_getElem?_getD]
    rw [List.getElem?_eq_getElem (show bsB d.nodes k + x < (colPl d).length by omega)]; rfl
end Go.Proofs

open Go Go.V
namespace Go.Proofs
abbrev acells (x : Ar) : List T := [TI x.fr, TI x.to, tInts x.mp]
abbrev tArs (l : List Ar) : T := .sl 3 (l.flatMap acells)
abbrev vDia (d : Dia) : V := .agg [.t (tObjs d.nodes), .t (tArs d.arrs)]
theorem flatA_length (l : List Ar) : (l.flatMap acells).length = l.length * 3 := by
  induction l with
  | nil => rfl
  | cons a l ih => simp only [List.flatMap_cons, List.length_append, ih, List.length_cons, List.length_nil]; omega
theorem len_tArs (l : List Ar) : vlen (.t (tArs l)) = some l.length := by
  simp only [vlen, flatA_length]; congr 1; omega
theorem dropA {l : List Ar} {i : Nat} {x : Ar} (h : l[i]? = some x) : (((l.flatMap acells).map V.t).drop (i * 3)).take 3 = [.t (TI x.fr), .t (TI x.to), .t (tInts x.mp)] := by
  induction l generalizing i with
  | nil => simp at h
  | cons a l ih =>
    cases i with
    | zero => simp at h; subst h; simp
    | succ i =>
      have := ih (i := i) (by simpa using h)
      rw [show (i + 1) * 3 = i * 3 + 3 by omega]
      simpa using this
structure DiaLim (d : Dia) : Prop where
  n : d.nodes.length < 1000000
  m : d.arrs.length < 1000000
  o1 : ∀ o ∈ d.nodes, o.labels.length < 1000000
  o2 : ∀ o ∈ d.nodes, o.pairs.length < 1000000
  a : ∀ x ∈ d.arrs, x.mp.length < 1000000
structure DiI (s : Sg) (d : Dia) (s' : Sg) : Prop where
  b : s'.m s.next = some (.box 62 [.t (tObjs d.nodes), .t (tArs d.arrs)])
  same : ∀ j, j < s.next → s'.m j = s.m j
  nx : s.next < s'.next
theorem DiI.init (s : Sg) (d : Dia) : DiI s d (s.add (.box 62 [.t (tObjs d.nodes), .t (tArs d.arrs)])) :=
  ⟨by rw [m_add, if_pos rfl], fun j hj => by rw [m_add, if_neg (by omega)], by rw [n_add]; omega⟩
theorem DiI.add {s : Sg} {d : Dia} {s' : Sg} (h : DiI s d s') (B : Blk) : DiI s d (s'.add B) :=
  ⟨by rw [m_add, if_neg (by have := h.nx; omega)]; exact h.b, fun j hj => by rw [m_add, if_neg (by have := h.nx; omega)]; exact h.same j hj, by rw [n_add]; have := h.nx; omega⟩
theorem DiI.set {s : Sg} {d : Dia} {s' : Sg} (h : DiI s d s') {x : Nat} (hx : s.next < x) (B : Blk) : DiI s d (s'.set x B) :=
  ⟨by rw [m_set, if_neg (by omega)]; exact h.b, fun j hj => by rw [m_set, if_neg (by omega)]; exact h.same j hj, h.nx⟩
theorem dia_n {d : Dia} (h : (d.nodes.length : Int) > 6) : diaS d = false := by
  have : ¬ d.nodes.length ≤ 6 := by omega
  simp [diaS, this]
theorem dia_m {d : Dia} (h : (d.arrs.length : Int) > 8) : diaS d = false := by
  have : ¬ d.arrs.length ≤ 8 := by omega
  simp [diaS, this]
theorem big_n {d : Dia} (h : (d.nodes.length : Int) > 6) : bigD d = true := by
  have : 6 < d.nodes.length := by omega
  simp [bigD, this]
theorem big_m {d : Dia} (h : (d.arrs.length : Int) > 8) : bigD d = true := by
  have : 8 < d.arrs.length := by omega
  simp [bigD, this]
theorem big_of {d : Dia} (h1 : ¬ (d.nodes.length : Int) > 6) (h2 : ¬ (d.arrs.length : Int) > 8) : bigD d = largeS d.nodes := by
  have h3 : ¬ 6 < d.nodes.length := by omega
  have h4 : ¬ 8 < d.arrs.length := by omega
  simp [bigD, h3, h4]
theorem dia_o {d : Dia} {k : Nat} {o : Ob} (h : d.nodes[k]? = some o) (h2 : (checkS o == 0) = false) : diaS d = false := by
  have : (d.nodes.all fun o => checkS o == 0) = false := List.all_eq_false.2 ⟨o, List.mem_of_getElem? h, by rw [h2]; decide⟩
  simp [diaS, this]
theorem dia_a {d : Dia} {k : Nat} {x : Ar} (h : d.arrs[k]? = some x) (h2 : arOK d x = false) : diaS d = false := by
  have : (d.arrs.all (arOK d)) = false := List.all_eq_false.2 ⟨x, List.mem_of_getElem? h, by rw [h2]; decide⟩
  simp [diaS, this]
theorem dia_ok {d : Dia} (h1 : ¬ (d.nodes.length : Int) > 6) (h2 : ¬ (d.arrs.length : Int) > 8) (h3 : ∀ (j : Nat) (o : Ob), j < d.nodes.length → d.nodes[j]? = some o → (checkS o == 0) = true) (h4 : ∀ (j : Nat) (x : Ar), j < d.arrs.length → d.arrs[j]? = some x → arOK d x = true) : diaS d = true := by
  simp only [diaS, Bool.and_eq_true, decide_eq_true_eq, List.all_eq_true]
  refine ⟨by omega, by omega, fun o ho => ?_, fun x hx => ?_⟩
  · obtain ⟨j, hj⟩ := List.getElem?_of_mem ho
    exact h3 j o (List.getElem?_eq_some_iff.1 hj).1 hj
  · obtain ⟨j, hj⟩ := List.getElem?_of_mem hx
    exact h4 j x (List.getElem?_eq_some_iff.1 hj).1 hj
set_option maxRecDepth 20000 in
theorem there_ (d : Dia) (z : Int) (hn : d.nodes.length < 1000000000) : PCall Tryd.prog 108 [vDia d, I z] (Bo (thereS d z)) := by
  refine pcall_of_body Tryd.func108 rfl fun s Q hQ => ?_
  obtain ⟨e, he, hl, h0, h1⟩ : ∃ e : Env, ([vDia d, I z] ++ List.replicate (Tryd.f108.ntmps - ([vDia d, I z] : List V).length) .junk) = e ∧ e.length = 14 ∧ ev e (.tmp 0) = vDia d ∧ ev e (.tmp 1) = I z := ⟨_, rfl, rfl, rfl, rfl⟩
  rw [he]
  clear he
  refine vsk fun K1 hK1 => ?_
  refine vw_sc 0 [] ?_
  simp only [bs, ↓vopx, ↓vop, thenV, flat, V.cells, h0, wocs, ↓goc, ↓woc, ↓vopm0]
  refine hK1 _ _ ?_
  refine vsk fun K2 hK2 => ?_
  rcases Decidable.em (0 ≤ z) with ha | ha
  · refine vw_sc 0 [] ?_
    simp only [bs, ↓vopx, ↓vop, Nat.reduceBEq, thenV, flat, Nat.reduceLT, dLoad, vpart, opII, gtmp, hl, h1, wocs, ↓goc, ↓woc, ↓vopm0, ↓pick_tt, Tryd.ag59, Tryd.fd62_0, Tryd.sz59, Tryd.un59, len_tObjs, ha]
    refine hK2 _ _ ?_
    refine vw_ret ?_
    refine hQ _ _ _ (.inr rfl) (done_tmp ?_ fun n b hn h => by rw [m_add, if_neg (by omega)]; exact h)
    try simp only [ev_hit, lpv, hl, Nat.reduceLT]
    simp [thereS, ha]
  · refine vw_sc 0 [] ?_
    simp only [bs, ↓vopx, ↓vop, Nat.reduceBEq, thenV, flat, Nat.reduceLT, opII, gtmp, hl, h1, wocs, ↓goc, ↓woc, ↓vopm0, ↓pick_ft, ha]
    refine hK2 _ _ ?_
    refine vw_ret ?_
    refine hQ _ _ _ (.inr rfl) (done_tmp ?_ fun n b hn h => by rw [m_add, if_neg (by omega)]; exact h)
    try simp only [ev_hit, lpv, hl, Nat.reduceLT]
    simp [thereS, ha]
set_option maxRecDepth 20000 in
set_option maxHeartbeats 4000000 in
theorem isDia_ (d : Dia) (L : DiaLim d) : PCall Tryd.prog 82 [vDia d] (Bo (diaS d)) := by
  refine pcall_of_body Tryd.func82 rfl fun s Q hQ => ?_
  obtain ⟨e, he, hl, h0⟩ : ∃ e : Env, ([vDia d] ++ List.replicate (Tryd.f82.ntmps - ([vDia d] : List V).length) .junk) = e ∧ e.length = 66 ∧ ev e (.tmp 0) = vDia d := ⟨_, rfl, rfl, rfl⟩
  rw [he]
  clear he
  have Ln := L.n
  have Lm := L.m
  refine vsk fun K1 hK1 => ?_
  refine vw_sc 0 [] ?_
  simp only [bs, ↓vopx, ↓vop, thenV, flat, V.cells, h0, wocs, ↓goc, ↓woc, ↓vopm0]
  refine hK1 _ _ ?_
  refine vsk fun K2 hK2 => ?_
  refine vsk fun K3 hK3 => ?_
  rcases (show (d.nodes.length : Int) > 6 ∨ (¬ (d.nodes.length : Int) > 6 ∧ (d.arrs.length : Int) > 8) ∨ (¬ (d.nodes.length : Int) > 6 ∧ ¬ (d.arrs.length : Int) > 8) by omega) with h6 | ⟨h6, h8⟩ | ⟨h6, h8⟩
  · refine vw_sc 0 [] ?_
    simp only [bs, ↓vopx, ↓vop, Nat.reduceBEq, thenV, flat, Nat.reduceLT, dLoad, vpart, opII, gtmp, hl, wocs, ↓goc, ↓woc, ↓vopm0, ↓pick_tf, Tryd.ag59, Tryd.fd62_0, Tryd.sz59, Tryd.un59, len_tObjs, nns, h6]
    refine hK3 _ _ ?_
    refine vck fun A B hA hB => ?_
    simp only [condV, ev_hit, lpv, Nat.reduceLT, true_implies, reduceCtorEq, false_implies, and_true, hl]
    refine hA ?_
    clear hA hB A B
    refine vsk fun K4 hK4 => ?_
    refine vw_sc 0 [] ?_
    simp only [bs, ↓vopx, ↓vop, thenV, flat, wocs, ↓goc, ↓woc, ↓vopm0]
    refine hK4 _ _ ?_
    refine vw_ret ?_
    rw [show diaS d = false from dia_n h6] at hQ
    refine hQ _ _ _ (.inr rfl) (done_tmp ?_ fun n b hn h => by rw [m_add, if_neg (by omega)]; exact h)
    try simp only [ev_hit, lpv, hl, Nat.reduceLT]
  · refine vw_sc 0 [] ?_
    simp only [bs, ↓vopx, ↓vop, Nat.reduceBEq, thenV, flat, Nat.reduceLT, dLoad, vpart, opII, gtmp, hl, wocs, ↓goc, ↓woc, ↓vopm0, ↓pick_ff, Tryd.ag59, Tryd.ag60, Tryd.fd62_0, Tryd.fd62_1, Tryd.sz59, Tryd.sz60, Tryd.un59, Tryd.un60, len_tObjs, len_tArs, nns, h6, h8]
    refine hK3 _ _ ?_
    refine vck fun A B hA hB => ?_
    simp only [condV, ev_hit, lpv, Nat.reduceLT, true_implies, reduceCtorEq, false_implies, and_true, hl]
    refine hA ?_
    clear hA hB A B
    refine vsk fun K5 hK5 => ?_
    refine vw_sc 0 [] ?_
    simp only [bs, ↓vopx, ↓vop, thenV, flat, wocs, ↓goc, ↓woc, ↓vopm0]
    refine hK5 _ _ ?_
    refine vw_ret ?_
    rw [show diaS d = false from dia_m h8] at hQ
    refine hQ _ _ _ (.inr rfl) (done_tmp ?_ fun n b hn h => by rw [m_add, if_neg (by omega)]; exact h)
    try simp only [ev_hit, lpv, hl, Nat.reduceLT]
  · refine vw_sc 0 [] ?_
    simp only [bs, ↓vopx, ↓vop, Nat.reduceBEq, thenV, flat, Nat.reduceLT, dLoad, vpart, opII, gtmp, hl, wocs, ↓goc, ↓woc, ↓vopm0, ↓pick_ff, Tryd.ag59, Tryd.ag60, Tryd.fd62_0, Tryd.fd62_1, Tryd.sz59, Tryd.sz60, Tryd.un59, Tryd.un60, len_tObjs, len_tArs, nns, h6, h8]
    refine hK3 _ _ ?_
    refine vck fun A B hA hB => ?_
    simp only [condV, ev_hit, lpv, Nat.reduceLT, true_implies, reduceCtorEq, false_implies, true_and, hl]
    refine hB ?_
    clear hA hB A B
    refine vw_skip ?_
    refine hK2 _ _ ?_
    refine vsk fun K6 hK6 => ?_
    refine vsk fun K7 hK7 => ?_
    refine vw_sc 0 [] ?_
    simp only [bs, ↓vopx, ↓vop, Nat.reduceBEq, thenV, flat, Nat.reduceLT, dLoad, vpart, hl, wocs, ↓goc, ↓woc, ↓vopm0, Tryd.ag59, Tryd.fd62_0, Tryd.sz59, Tryd.un59, len_tObjs, nns]
    refine hK7 _ _ ?_
    refine vw_block ?_
    refine vw_loop (fun mm e' s' => ∃ k : Nat, mm = d.nodes.length - k ∧ k ≤ d.nodes.length ∧ e'.length = 66 ∧ ev e' (.tmp 1) = .ptr s.next 0 ∧ ev e' (.tmp 18) = .t (tObjs d.nodes) ∧ ev e' (.tmp 19) = I d.nodes.length ∧ ev e' (.tmp 20) = I k ∧ DiI s d s' ∧ ∀ (j : Nat) (o : Ob), j < k → d.nodes[j]? = some o → (checkS o == 0) = true) (⟨0, rfl, Nat.zero_le _, ?_⟩) ?_
    · try simp only [ev_hit, ev_miss, Nat.reduceBEq, lpv, hl, Nat.reduceLT, true_and]
      repeat ((with_reducible refine And.intro ?_ ?_); · trivial)
      exact ⟨DiI.init s d, fun j o hj _ => absurd hj (by omega)⟩
    rintro mm e s1 ⟨k, rfl, hle_k, hl, k1, k18, k19, h_k, hst, hal⟩
    refine vsk fun K8 hK8 => ?_
    refine vw_sc 0 [] ?_
    simp only [thenV, opII, k19, h_k, wocs, ↓goc, ↓woc]
    refine hK8 _ _ ?_
    refine vsk fun K9 hK9 => ?_
    refine vck fun A B hA hB => ?_
    simp only [condV, ev_hit, Nat.reduceLT, decide_eq_true_eq, decide_eq_false_iff_not, hl]
    refine ⟨fun hc21 => hA ?_, fun hc21 => hB ?_⟩
    · clear hA hB A B
      refine vw_skip ?_
      refine hK9 _ _ ?_
      refine vsk fun K10 hK10 => ?_
      refine vw_block ?_
      refine vsk fun K11 hK11 => ?_
      have hlt : k < d.nodes.length := by omega
      obtain ⟨o, ho⟩ : ∃ o, d.nodes[k]? = some o := ⟨_, List.getElem?_eq_getElem hlt⟩
      have g0 := dropO ho
      have hfl := flatO_length d.nodes
      have hi2 : k * 2 < d.nodes.length * 2 := by omega
      refine vw_sc 0 [] ?_
      simp only [bs, Nat.reduceAdd, ↓vopx, ↓vop, Nat.reduceBEq, thenV, Nat.reduceLT, V.cells, dLoad, vpart, hl, k18, h_k, wocs, ↓goc, ↓woc, ↓vopm0, Tryd.ag25, Tryd.sz25, Tryd.un59, Tryd.zv25, g0, hfl, hi2]
      refine hK11 _ _ ?_
      refine vsk fun K12 hK12 => ?_
      refine vw_env2 fun e2 sb hE2 hSb => ?_
      subst hE2
      have hIb : DiI s d sb := by rw [hSb]; exact (hst.add _).set hst.nx _
      have hbx : sb.m s1.next = some (.box 25 [.t (tStrs o.labels), .t (tPairs o.pairs)]) := by rw [hSb]; simp only [m_set, if_true]; try rfl
      clear hSb
      have o1 := L.o1 o (List.mem_of_getElem? ho)
      have o2 := L.o2 o (List.mem_of_getElem? ho)
      refine vw_sc 0 [.pur (Bo (checkS o == 0))] ?_
      simp only [bs, Nat.reduceAdd, ↓vopx, ↓vop, thenV, Nat.reduceLT, dLoad, vpart, hl, wocs, ↓goc, ↓woc, ↓vopm0, ↓callC, calleeV, Tryd.ag25, Tryd.sz25, hbx]
      repeat ((with_reducible refine And.intro ?_ ?_); · exact ⟨Tryd.is70, isOb_ o (by omega) (by omega)⟩)
      refine hK12 _ _ ?_
      refine vck fun A B hA hB => ?_
      simp only [condV, ev_hit, lpv, Nat.reduceLT, Bool.not_eq_true', Bool.not_eq_false', beq_iff_eq, beq_eq_false_iff_ne, ne_eq, hl]
      refine ⟨fun hc26 => hA ?_, fun hc26 => hB ?_⟩
      · clear hA hB A B
        refine vsk fun K13 hK13 => ?_
        refine vw_sc 0 [] ?_
        simp only [bs, ↓vopx, ↓vop, thenV, flat, wocs, ↓goc, ↓woc, ↓vopm0]
        refine hK13 _ _ ?_
        refine vw_ret ?_
        rw [show diaS d = false from dia_o ho (by simp [hc26])] at hQ
        refine hQ _ _ _ (.inr rfl) (done_tmp ?_ fun n b hn h => (hIb.same n hn).trans h)
        try simp only [ev_hit, lpv, hl, Nat.reduceLT]
      · clear hA hB A B
        refine vw_skip ?_
        refine hK10 _ _ ?_
        refine vw_sc 0 [] ?_
        simp only [bs, ↓vopx, ↓vop, Nat.reduceBEq, thenV, flat, Nat.reduceLT, opII, hl, k1, k18, k19, h_k, wocs, ↓goc, ↓woc, ↓vopm0]
        repeat ((with_reducible refine And.intro ?_ ?_); · exact ⟨by omega, by omega⟩)
        refine ⟨d.nodes.length - (k + 1), by omega, k + 1, rfl, by omega, ?_⟩
        try simp only [ev_hit, ev_miss, Nat.reduceBEq, lpv, hl, k1, k18, k19, h_k, if_true, if_false, Nat.reduceEqDiff, Nat.reduceLT, true_and, and_true]
        repeat ((with_reducible refine And.intro ?_ ?_); · trivial)
        intro j o2 hj ho2
        rcases Nat.lt_succ_iff_lt_or_eq.1 hj with h | h
        · exact hal j o2 h ho2
        · subst h; rw [ho] at ho2; cases ho2; simp [hc26]
    · clear hA hB A B
      have hka : k = d.nodes.length := by omega
      refine vw_exit ?_
      simp only [thenV, blockV, if_true]
      refine hK6 _ _ ?_
      refine vsk fun K14 hK14 => ?_
      refine vsk fun K15 hK15 => ?_
      have hb62 := hst.b
      refine vw_sc 0 [] ?_
      simp only [bs, ↓vopx, ↓vop, Nat.reduceBEq, thenV, flat, Nat.reduceLT, dLoad, vpart, hl, k1, wocs, ↓goc, ↓woc, ↓vopm0, Tryd.ag60, Tryd.fd62_1, Tryd.sz60, Tryd.un60, len_tArs, nns, hb62]
      refine hK15 _ _ ?_
      refine vw_block ?_
      refine vw_loop (fun mm e' s' => ∃ k : Nat, mm = d.arrs.length - k ∧ k ≤ d.arrs.length ∧ e'.length = 66 ∧ ev e' (.tmp 1) = .ptr s.next 0 ∧ ev e' (.tmp 29) = .t (tArs d.arrs) ∧ ev e' (.tmp 30) = I d.arrs.length ∧ ev e' (.tmp 31) = I k ∧ DiI s d s' ∧ ∀ (j : Nat) (x : Ar), j < k → d.arrs[j]? = some x → arOK d x = true) (⟨0, rfl, Nat.zero_le _, ?_⟩) ?_
      · try simp only [ev_hit, ev_miss, Nat.reduceBEq, lpv, hl, k1, Nat.reduceLT, true_and]
        repeat ((with_reducible refine And.intro ?_ ?_); · trivial)
        exact fun j x hj _ => absurd hj (by omega)
      rintro mm e s1 ⟨k, rfl, hle_k, hl, k1, k29, k30, h_k, hst, hal2⟩
      refine vsk fun K16 hK16 => ?_
      refine vw_sc 0 [] ?_
      simp only [thenV, opII, k30, h_k, wocs, ↓goc, ↓woc]
      refine hK16 _ _ ?_
      refine vsk fun K17 hK17 => ?_
      refine vck fun A B hA hB => ?_
      simp only [condV, ev_hit, Nat.reduceLT, decide_eq_true_eq, decide_eq_false_iff_not, hl]
      refine ⟨fun hc32 => hA ?_, fun hc32 => hB ?_⟩
      · clear hA hB A B
        refine vw_skip ?_
        refine hK17 _ _ ?_
        refine vsk fun K18 hK18 => ?_
        refine vw_block ?_
        refine vsk fun K19 hK19 => ?_
        have hlt : k < d.arrs.length := by omega
        obtain ⟨x, hx⟩ : ∃ x, d.arrs[k]? = some x := ⟨_, List.getElem?_eq_getElem hlt⟩
        have g0 := dropA hx
        have hfl := flatA_length d.arrs
        have hi2 : k * 3 < d.arrs.length * 3 := by omega
        refine vw_sc 0 [] ?_
        simp only [bs, Nat.reduceAdd, ↓vopx, ↓vop, Nat.reduceBEq, thenV, Nat.reduceLT, V.cells, dLoad, vpart, hl, k29, h_k, wocs, ↓goc, ↓woc, ↓vopm0, Tryd.ag72, Tryd.sz72, Tryd.un60, Tryd.zv72, g0, hfl, hi2]
        refine hK19 _ _ ?_
        refine vsk fun K20 hK20 => ?_
        refine vw_env2 fun e2 sb hE2 hSb => ?_
        subst hE2
        have hIb : DiI s d sb := by rw [hSb]; exact (hst.add _).set hst.nx _
        have hbx : sb.m s1.next = some (.box 72 [.t (TI x.fr), .t (TI x.to), .t (tInts x.mp)]) := by rw [hSb]; simp only [m_set, if_true]; try rfl
        clear hSb
        have hb62 := hIb.b
        have la := L.a x (List.mem_of_getElem? hx)
        rcases (show thereS d x.fr = false ∨ (thereS d x.fr = true ∧ thereS d x.to = false) ∨ (thereS d x.fr = true ∧ thereS d x.to = true) by cases thereS d x.fr <;> cases thereS d x.to <;> simp) with q1 | ⟨q1, q2⟩ | ⟨q1, q2⟩
        · refine vw_chain Tryd.mixed 27 [1, 0, 1, 0, 0, 0, 1, 0, 1, 0, 0, 0, 0, 0, 1, 0, 1, 1, 1, 0, 1, 0, 1, 1, 1, 0, 1] [.pur (Bo (thereS d x.fr))] [] 0 (by decide +kernel) (by simp [lpv, hl]) rfl ?_
          simp only [bs, Nat.reduceAdd, ↓vopx, ↓vop, Nat.reduceBEq, thenV, flat, Nat.reduceLT, dLoad, vpart, gtmp, hl, k1, wocs, ↓goc, ↓woc, ↓vopm0, ↓vopm1, ↓callC, ↓pick_tf, calleeV, chn, ↓goq, ↓woq, ↓callQ, List.zip_cons_cons, List.zip_nil_right, Tryd.ag3, Tryd.ag62, Tryd.fd72_0, Tryd.sz3, Tryd.sz62, nns, hbx, hb62, q1]
          repeat ((with_reducible refine And.intro ?_ ?_); · exact ⟨Tryd.is108, by simpa only [q1] using there_ d x.fr (by omega)⟩)
          refine hK20 _ _ ?_
          refine vck fun A B hA hB => ?_
          simp only [condV, ev_hit, lpv, Nat.reduceLT, true_implies, reduceCtorEq, false_implies, and_true, hl]
          refine hA ?_
          clear hA hB A B
          refine vsk fun K21 hK21 => ?_
          refine vw_sc 0 [] ?_
          simp only [bs, ↓vopx, ↓vop, thenV, flat, wocs, ↓goc, ↓woc, ↓vopm0]
          refine hK21 _ _ ?_
          refine vw_ret ?_
          rw [show diaS d = false from dia_a hx (by simp [arOK, q1])] at hQ
          refine hQ _ _ _ (.inr rfl) (done_tmp ?_ fun n b hn h => (hIb.same n hn).trans h)
          try simp only [ev_hit, lpv, hl, Nat.reduceLT]
        · refine vw_chain Tryd.mixed 27 [1, 0, 1, 0, 0, 0, 1, 0, 1, 0, 0, 0, 0, 0, 1, 0, 1, 1, 1, 0, 1, 0, 1, 1, 1, 0, 1] [.pur (Bo (thereS d x.fr)), .pur (Bo (thereS d x.to))] [] 0 (by decide +kernel) (by simp [lpv, hl]) rfl ?_
          simp only [bs, Nat.reduceAdd, ↓vopx, ↓vop, Nat.reduceBEq, thenV, flat, Nat.reduceLT, dLoad, vpart, gtmp, hl, k1, wocs, ↓goc, ↓woc, ↓vopm0, ↓vopm1, ↓callC, ↓pick_ff, ↓pick_tf, calleeV, chn, ↓goq, ↓woq, ↓callQ, List.zip_cons_cons, List.zip_nil_right, Tryd.ag3, Tryd.ag62, Tryd.fd72_0, Tryd.fd72_1, Tryd.sz3, Tryd.sz62, nns, hbx, hb62, q1, q2]
          repeat ((with_reducible refine And.intro ?_ ?_); · first | exact ⟨Tryd.is108, by simpa only [q1] using there_ d x.fr (by omega)⟩ | exact ⟨Tryd.is108, by simpa only [q2] using there_ d x.to (by omega)⟩)
          refine hK20 _ _ ?_
          refine vck fun A B hA hB => ?_
          simp only [condV, ev_hit, lpv, Nat.reduceLT, true_implies, reduceCtorEq, false_implies, and_true, hl]
          refine hA ?_
          clear hA hB A B
          refine vsk fun K22 hK22 => ?_
          refine vw_sc 0 [] ?_
          simp only [bs, ↓vopx, ↓vop, thenV, flat, wocs, ↓goc, ↓woc, ↓vopm0]
          refine hK22 _ _ ?_
          refine vw_ret ?_
          rw [show diaS d = false from dia_a hx (by simp [arOK, q2])] at hQ
          refine hQ _ _ _ (.inr rfl) (done_tmp ?_ fun n b hn h => (hIb.same n hn).trans h)
          try simp only [ev_hit, lpv, hl, Nat.reduceLT]
        · have i1 := there_iff.1 q1
          have i2 := there_iff.1 q2
          obtain ⟨a, hA⟩ : ∃ a, d.nodes[x.fr.toNat]? = some a := ⟨_, List.getElem?_eq_getElem (by omega)⟩
          obtain ⟨b, hB⟩ : ∃ b, d.nodes[x.to.toNat]? = some b := ⟨_, List.getElem?_eq_getElem (by omega)⟩
          have g1 := dropO hA
          have g2 := dropO hB
          have hfl := flatO_length d.nodes
          have j1 : x.fr.toNat * 2 < d.nodes.length * 2 := by omega
          have j2 : x.to.toNat * 2 < d.nodes.length * 2 := by omega
          have a1 := L.o1 a (List.mem_of_getElem? hA)
          have a2 := L.o2 a (List.mem_of_getElem? hA)
          have b1 := L.o1 b (List.mem_of_getElem? hB)
          have b2 := L.o2 b (List.mem_of_getElem? hB)
          have hok : arOK d x = arrS a b x.mp := by simp [arOK, q1, q2, nodeAt_of hA, nodeAt_of hB]
          refine vw_chain Tryd.mixed 27 [1, 0, 1, 0, 0, 0, 1, 0, 1, 0, 0, 0, 0, 0, 1, 0, 1, 1, 1, 0, 1, 0, 1, 1, 1, 0, 1] [.pur (Bo (thereS d x.fr)), .pur (Bo (thereS d x.to)), .pur (Bo (arrS a b x.mp))] [] 0 (by decide +kernel) (by simp [lpv, hl]) rfl ?_
          simp only [bs, Nat.reduceAdd, ↓vopx, ↓vop, Nat.reduceBEq, thenV, flat, Nat.reduceLT, dLoad, vpart, gtmp, hl, k1, wocs, ↓goc, ↓woc, ↓vopm0, ↓vopm1, ↓callC, ↓pick_ff, calleeV, chn, ↓goq, ↓woq, ↓callQ, List.zip_cons_cons, List.zip_nil_right, Tryd.ag25, Tryd.ag26, Tryd.ag3, Tryd.ag59, Tryd.ag62, Tryd.fd62_0, Tryd.fd72_0, Tryd.fd72_1, Tryd.fd72_2, Tryd.sz25, Tryd.sz26, Tryd.sz3, Tryd.sz59, Tryd.sz62, Tryd.un59, nns, hbx, hb62, q1, q2, g1, g2, hfl, j1, j2]
          repeat ((with_reducible refine And.intro ?_ ?_); · first | omega | exact ⟨Tryd.is108, by simpa only [q1] using there_ d x.fr (by omega)⟩ | exact ⟨Tryd.is108, by simpa only [q2] using there_ d x.to (by omega)⟩ | exact ⟨Tryd.is34, arrow_ a b x.mp (by omega) (by omega) (by omega) (by omega) (by omega)⟩)
          refine hK20 _ _ ?_
          refine vck fun A B hA hB => ?_
          simp only [condV, ev_hit, lpv, Nat.reduceLT, Bool.not_eq_true', Bool.not_eq_false', hl]
          refine ⟨fun hc64 => hA ?_, fun hc64 => hB ?_⟩
          · clear hA hB A B
            refine vsk fun K23 hK23 => ?_
            refine vw_sc 0 [] ?_
            simp only [bs, ↓vopx, ↓vop, thenV, flat, wocs, ↓goc, ↓woc, ↓vopm0]
            refine hK23 _ _ ?_
            refine vw_ret ?_
            rw [show diaS d = false from dia_a hx (by rw [hok]; exact hc64)] at hQ
            refine hQ _ _ _ (.inr rfl) (done_tmp ?_ fun n b hn h => (hIb.same n hn).trans h)
            try simp only [ev_hit, lpv, hl, Nat.reduceLT]
          · clear hA hB A B
            refine vw_skip ?_
            refine hK18 _ _ ?_
            refine vw_sc 0 [] ?_
            simp only [bs, ↓vopx, ↓vop, Nat.reduceBEq, thenV, flat, Nat.reduceLT, opII, hl, k1, k29, k30, h_k, wocs, ↓goc, ↓woc, ↓vopm0]
            repeat ((with_reducible refine And.intro ?_ ?_); · exact ⟨by omega, by omega⟩)
            refine ⟨d.arrs.length - (k + 1), by omega, k + 1, rfl, by omega, ?_⟩
            try simp only [ev_hit, ev_miss, Nat.reduceBEq, lpv, hl, k1, k29, k30, h_k, if_true, if_false, Nat.reduceEqDiff, Nat.reduceLT, true_and, and_true]
            repeat ((with_reducible refine And.intro ?_ ?_); · trivial)
            intro j x2 hj hx2
            rcases Nat.lt_succ_iff_lt_or_eq.1 hj with h | h
            · exact hal2 j x2 h hx2
            · subst h; rw [hx] at hx2; cases hx2; rw [hok]; exact hc64
      · clear hA hB A B
        have hkb : k = d.arrs.length := by omega
        refine vw_exit ?_
        simp only [thenV, blockV, if_true]
        refine hK14 _ _ ?_
        refine vsk fun K24 hK24 => ?_
        refine vw_sc 0 [] ?_
        simp only [bs, ↓vopx, ↓vop, thenV, flat, wocs, ↓goc, ↓woc, ↓vopm0]
        refine hK24 _ _ ?_
        refine vw_ret ?_
        rw [dia_ok h6 h8 (by rw [← hka]; exact hal) (by rw [← hkb]; exact hal2)] at hQ
        refine hQ _ _ _ (.inr rfl) (done_tmp ?_ fun n b hn h => (hst.same n hn).trans h)
        try simp only [ev_hit, lpv, hl, Nat.reduceLT]
set_option maxRecDepth 20000 in
set_option maxHeartbeats 4000000 in
theorem bigD_ (d : Dia) (L : DiaLim d) : PCall Tryd.prog 83 [vDia d] (Bo (bigD d)) := by
  refine pcall_of_body Tryd.func83 rfl fun s Q hQ => ?_
  obtain ⟨e, he, hl, h0⟩ : ∃ e : Env, ([vDia d] ++ List.replicate (Tryd.f83.ntmps - ([vDia d] : List V).length) .junk) = e ∧ e.length = 31 ∧ ev e (.tmp 0) = vDia d := ⟨_, rfl, rfl, rfl⟩
  rw [he]
  clear he
  have Ln := L.n
  have Lm := L.m
  refine vsk fun K1 hK1 => ?_
  refine vw_sc 0 [] ?_
  simp only [bs, ↓vopx, ↓vop, thenV, flat, V.cells, h0, wocs, ↓goc, ↓woc, ↓vopm0]
  refine hK1 _ _ ?_
  refine vw_scope ?_
  refine vsk fun K2 hK2 => ?_
  refine vsk fun K3 hK3 => ?_
  rcases (show (d.nodes.length : Int) > 6 ∨ (¬ (d.nodes.length : Int) > 6 ∧ (d.arrs.length : Int) > 8) ∨ (¬ (d.nodes.length : Int) > 6 ∧ ¬ (d.arrs.length : Int) > 8) by omega) with h6 | ⟨h6, h8⟩ | ⟨h6, h8⟩
  · refine vw_sc 0 [] ?_
    simp only [bs, ↓vopx, ↓vop, Nat.reduceBEq, thenV, flat, Nat.reduceLT, dLoad, vpart, opII, gtmp, hl, wocs, ↓goc, ↓woc, ↓vopm0, ↓pick_tf, Tryd.ag59, Tryd.fd62_0, Tryd.sz59, Tryd.un59, len_tObjs, nns, h6]
    refine hK3 _ _ ?_
    refine vck fun A B hA hB => ?_
    simp only [condV, ev_hit, lpv, Nat.reduceLT, true_implies, reduceCtorEq, false_implies, and_true, hl]
    refine hA ?_
    clear hA hB A B
    refine vsk fun K4 hK4 => ?_
    refine vw_sc 0 [] ?_
    simp only [bs, ↓vopx, ↓vop, thenV, flat, wocs, ↓goc, ↓woc, ↓vopm0]
    refine hK4 _ _ ?_
    refine vw_ret ?_
    change Q _ _ _
    rw [show bigD d = true from big_n h6] at hQ
    refine hQ _ _ _ (.inr rfl) (done_tmp ?_ fun n b hn h => by rw [m_add, if_neg (by omega)]; exact h)
    try simp only [ev_hit, lpv, hl, Nat.reduceLT]
  · refine vw_sc 0 [] ?_
    simp only [bs, ↓vopx, ↓vop, Nat.reduceBEq, thenV, flat, Nat.reduceLT, dLoad, vpart, opII, gtmp, hl, wocs, ↓goc, ↓woc, ↓vopm0, ↓pick_ff, Tryd.ag59, Tryd.ag60, Tryd.fd62_0, Tryd.fd62_1, Tryd.sz59, Tryd.sz60, Tryd.un59, Tryd.un60, len_tObjs, len_tArs, nns, h6, h8]
    refine hK3 _ _ ?_
    refine vck fun A B hA hB => ?_
    simp only [condV, ev_hit, lpv, Nat.reduceLT, true_implies, reduceCtorEq, false_implies, and_true, hl]
    refine hA ?_
    clear hA hB A B
    refine vsk fun K5 hK5 => ?_
    refine vw_sc 0 [] ?_
    simp only [bs, ↓vopx, ↓vop, thenV, flat, wocs, ↓goc, ↓woc, ↓vopm0]
    refine hK5 _ _ ?_
    refine vw_ret ?_
    change Q _ _ _
    rw [show bigD d = true from big_m h8] at hQ
    refine hQ _ _ _ (.inr rfl) (done_tmp ?_ fun n b hn h => by rw [m_add, if_neg (by omega)]; exact h)
    try simp only [ev_hit, lpv, hl, Nat.reduceLT]
  · refine vw_sc 0 [] ?_
    simp only [bs, ↓vopx, ↓vop, Nat.reduceBEq, thenV, flat, Nat.reduceLT, dLoad, vpart, opII, gtmp, hl, wocs, ↓goc, ↓woc, ↓vopm0, ↓pick_ff, Tryd.ag59, Tryd.ag60, Tryd.fd62_0, Tryd.fd62_1, Tryd.sz59, Tryd.sz60, Tryd.un59, Tryd.un60, len_tObjs, len_tArs, nns, h6, h8]
    refine hK3 _ _ ?_
    refine vck fun A B hA hB => ?_
    simp only [condV, ev_hit, lpv, Nat.reduceLT, true_implies, reduceCtorEq, false_implies, true_and, hl]
    refine hB ?_
    clear hA hB A B
    refine vw_skip ?_
    refine hK2 _ _ ?_
    refine vsk fun K6 hK6 => ?_
    refine vw_sc 0 [] ?_
    simp only [bs, ↓vopx, ↓vop, thenV, flat, wocs, ↓goc, ↓woc, ↓vopm0]
    refine hK6 _ _ ?_
    refine vsk fun K7 hK7 => ?_
    refine vw_label ?_
    try simp only [thenV]
    refine hK7 _ _ ?_
    refine vsk fun K8 hK8 => ?_
    refine vsk fun K9 hK9 => ?_
    refine vw_sc 0 [] ?_
    simp only [bs, ↓vopx, ↓vop, Nat.reduceBEq, thenV, flat, Nat.reduceLT, dLoad, vpart, hl, wocs, ↓goc, ↓woc, ↓vopm0, Tryd.ag59, Tryd.fd62_0, Tryd.sz59, Tryd.un59, len_tObjs, nns]
    refine hK9 _ _ ?_
    refine vw_block ?_
    refine vw_loop (fun mm e' s' => ∃ k : Nat, mm = d.nodes.length - k ∧ k ≤ d.nodes.length ∧ e'.length = 31 ∧ ev e' (.tmp 1) = .ptr s.next 0 ∧ ev e' (.tmp 3) = I (40 - (sumT d.nodes k : Int)) ∧ ev e' (.tmp 17) = .t (tObjs d.nodes) ∧ ev e' (.tmp 18) = I d.nodes.length ∧ ev e' (.tmp 19) = I k ∧ DiI s d s' ∧ sumT d.nodes k ≤ 40) (⟨0, rfl, Nat.zero_le _, ?_⟩) ?_
    · try simp only [ev_hit, ev_miss, Nat.reduceBEq, lpv, hl, Nat.reduceLT, true_and]
      repeat ((with_reducible refine And.intro ?_ ?_); · trivial)
      exact ⟨DiI.init s d, by simp [sumT]⟩
    rintro mm e s1 ⟨k, rfl, hle_k, hl, k1, k3, k17, k18, h_k, hst, hsk⟩
    refine vsk fun K10 hK10 => ?_
    refine vw_sc 0 [] ?_
    simp only [thenV, opII, k18, h_k, wocs, ↓goc, ↓woc]
    refine hK10 _ _ ?_
    refine vsk fun K11 hK11 => ?_
    refine vck fun A B hA hB => ?_
    simp only [condV, ev_hit, Nat.reduceLT, decide_eq_true_eq, decide_eq_false_iff_not, hl]
    refine ⟨fun hc20 => hA ?_, fun hc20 => hB ?_⟩
    · clear hA hB A B
      refine vw_skip ?_
      refine hK11 _ _ ?_
      refine vsk fun K12 hK12 => ?_
      refine vw_block ?_
      refine vsk fun K13 hK13 => ?_
      have hlt : k < d.nodes.length := by omega
      obtain ⟨o, ho⟩ : ∃ o, d.nodes[k]? = some o := ⟨_, List.getElem?_eq_getElem hlt⟩
      have g0 := dropO ho
      have hfl := flatO_length d.nodes
      have hi2 : k * 2 < d.nodes.length * 2 := by omega
      refine vw_sc 0 [] ?_
      simp only [bs, Nat.reduceAdd, ↓vopx, ↓vop, Nat.reduceBEq, thenV, Nat.reduceLT, V.cells, dLoad, vpart, hl, k17, h_k, wocs, ↓goc, ↓woc, ↓vopm0, Tryd.ag25, Tryd.sz25, Tryd.un59, Tryd.zv25, g0, hfl, hi2]
      refine hK13 _ _ ?_
      refine vsk fun K14 hK14 => ?_
      refine vsk fun K15 hK15 => ?_
      refine vw_env2 fun e2 sb hE2 hSb => ?_
      subst hE2
      have hIb : DiI s d sb := by rw [hSb]; exact (hst.add _).set hst.nx _
      have hbx : sb.m s1.next = some (.box 25 [.t (tStrs o.labels), .t (tPairs o.pairs)]) := by rw [hSb]; simp only [m_set, if_true]; try rfl
      clear hSb
      have o1 := L.o1 o (List.mem_of_getElem? ho)
      have hss := sumT_succ ho
      refine vw_sc 0 [] ?_
      simp only [bs, ↓vopx, ↓vop, Nat.reduceBEq, thenV, Nat.reduceLT, dLoad, vpart, opII, hl, k3, wocs, ↓goc, ↓woc, ↓vopm0, Tryd.ag22, Tryd.fd25_0, Tryd.sz22, Tryd.un22, len_tStrs, nns, hbx]
      repeat ((with_reducible refine And.intro ?_ ?_); · exact ⟨by omega, by omega⟩)
      refine hK15 _ _ ?_
      refine vsk fun K16 hK16 => ?_
      refine vw_sc 0 [] ?_
      simp only [bs, ↓vopx, ↓vop, thenV, flat, Nat.reduceLT, opII, hl, wocs, ↓goc, ↓woc, ↓vopm0]
      refine hK16 _ _ ?_
      refine vck fun A B hA hB => ?_
      simp only [condV, ev_hit, lpv, Nat.reduceLT, decide_eq_true_eq, decide_eq_false_iff_not, hl]
      refine ⟨fun hc29 => hA ?_, fun hc29 => hB ?_⟩
      · clear hA hB A B
        refine vw_exit ?_
        simp only [thenV, blockV, noGoto, if_true, if_false, reduceCtorEq]
        refine hK12 _ _ ?_
        refine vw_sc 0 [] ?_
        simp only [bs, ↓vopx, ↓vop, Nat.reduceBEq, thenV, flat, Nat.reduceLT, opII, hl, k1, k17, k18, h_k, wocs, ↓goc, ↓woc, ↓vopm0]
        repeat ((with_reducible refine And.intro ?_ ?_); · exact ⟨by omega, by omega⟩)
        refine ⟨d.nodes.length - (k + 1), by omega, k + 1, rfl, by omega, ?_⟩
        try simp only [ev_hit, ev_miss, Nat.reduceBEq, lpv, hl, k1, k3, k17, k18, h_k, if_true, if_false, Nat.reduceEqDiff, Nat.reduceLT, true_and, and_true]
        exact ⟨by rw [hss, show (40 - ((sumT d.nodes k : Nat) : Int) - (o.labels.length : Int)) = 40 - ((sumT d.nodes k + o.labels.length : Nat) : Int) by omega], by push_cast; rfl, hIb, by rw [hss]; omega⟩
      · clear hA hB A B
        refine vw_skip ?_
        refine hK14 _ _ ?_
        refine vsk fun K17 hK17 => ?_
        refine vw_sc 0 [] ?_
        simp only [bs, ↓vopx, ↓vop, thenV, flat, wocs, ↓goc, ↓woc, ↓vopm0]
        refine hK17 _ _ ?_
        refine vw_ret ?_
        change Q _ _ _
        rw [show bigD d = true from by rw [big_of h6 h8]; have := sumT_le d.nodes (k + 1); rw [hss] at this; unfold largeS; simp only [decide_eq_true_eq]; omega] at hQ
        refine hQ _ _ _ (.inr rfl) (done_tmp ?_ fun n b hn h => (hIb.same n hn).trans h)
        try simp only [ev_hit, lpv, hl, Nat.reduceLT]
    · clear hA hB A B
      have hka : k = d.nodes.length := by omega
      refine vw_exit ?_
      simp only [thenV, blockV, noGoto, if_true]
      refine hK8 _ _ ?_
      refine vsk fun K18 hK18 => ?_
      refine vw_sc 0 [] ?_
      simp only [bs, ↓vopx, ↓vop, thenV, flat, wocs, ↓goc, ↓woc, ↓vopm0]
      refine hK18 _ _ ?_
      refine vw_ret ?_
      change Q _ _ _
      rw [show bigD d = false from by rw [big_of h6 h8]; unfold largeS; rw [← hka]; simp only [decide_eq_false_iff_not]; omega] at hQ
      refine hQ _ _ _ (.inr rfl) (done_tmp ?_ fun n b hn h => (hst.same n hn).trans h)
      try simp only [ev_hit, lpv, hl, Nat.reduceLT]
end Go.Proofs

open Go Go.V
namespace Go.Proofs
def vCol (r : Ob × List (List Int) × Int) : V := .tup [vObj r.1, .t (tMat r.2.1), I r.2.2]
def mixL (d : Dia) (pl : List Int) (j : Nat) : List (List Int) := ((legsT d.nodes d.nodes.length).take j).map (fun g => (thenS g pl).1) ++ (legsT d.nodes d.nodes.length).drop j
theorem mixL_len (d : Dia) (pl : List Int) (j : Nat) : (mixL d pl j).length = d.nodes.length := by
  have := legsT_length d.nodes d.nodes.length (Nat.le_refl _)
  simp [mixL]; omega
theorem mixL_at {d : Dia} {pl : List Int} {j : Nat} {g : List Int} (h : (legsT d.nodes d.nodes.length)[j]? = some g) : (mixL d pl j)[j]? = some g := by
  have hl := (List.getElem?_eq_some_iff.1 h).1
  unfold mixL
  rw [List.getElem?_append_right (by simp; omega), List.length_map, List.length_take, Nat.min_eq_left (by omega), Nat.sub_self, List.getElem?_drop]; exact h
theorem mixL_set {d : Dia} {pl : List Int} {j : Nat} {g : List Int} (h : (legsT d.nodes d.nodes.length)[j]? = some g) : (mixL d pl j).set j (thenS g pl).1 = mixL d pl (j + 1) := by
  have hl := (List.getElem?_eq_some_iff.1 h).1
  unfold mixL
  rw [List.set_append_right _ _ (by simp; omega), List.length_map, List.length_take, Nat.min_eq_left (by omega), Nat.sub_self]
  rw [List.take_add_one, h, List.drop_eq_getElem_cons hl, List.set_cons_zero]
  simp
theorem mixL_end (d : Dia) (pl : List Int) : mixL d pl d.nodes.length = (legsT d.nodes d.nodes.length).map fun g => (thenS g pl).1 := by
  have := legsT_length d.nodes d.nodes.length (Nat.le_refl _)
  have h1 : (legsT d.nodes d.nodes.length).take d.nodes.length = legsT d.nodes d.nodes.length := List.take_of_length_le (by omega)
  have h2 : (legsT d.nodes d.nodes.length).drop d.nodes.length = [] := List.drop_eq_nil_of_le (by omega)
  simp only [mixL, h1, h2, List.append_nil]
theorem mixL_zero (d : Dia) (pl : List Int) : mixL d pl 0 = legsT d.nodes d.nodes.length := by simp [mixL]
theorem setAll_mat {l : List (List Int)} {i : Nat} (h : i < l.length) (g : List Int) : setAll (l.map tInts) i [tInts g] = (l.set i g).map tInts := by
  rw [show setAll (l.map tInts) i [tInts g] = (l.map tInts).set i (tInts g) from setAll_one _ _ _ (by simpa using h), List.map_set]
structure CoI (s sV : Sg) (d : Dia) (m p um : Nat) (k : Nat) (s' : Sg) : Prop where
  pr : ProR s' p um (joinsL (rangeI (bsB d.nodes d.nodes.length)) (colF d d.arrs.length) (colG d d.arrs.length) k)
  keep : Keep sV s'
  nx : sV.next ≤ s'.next
theorem CoI.step {s sV : Sg} {d : Dia} {m p um k : Nat} {s1 s2 : Sg} (h : CoI s sV d m p um k s1) (hk : Keep s1 s2) (hn : s1.next ≤ s2.next) : CoI s sV d m p um k s2 :=
  ⟨h.pr.keep hk hn, h.keep.trans h.nx hk, Nat.le_trans h.nx hn⟩
theorem col_le {d : Dia} (h : bigD d = false) : bsB d.nodes d.nodes.length ≤ 40 := by
  simp only [bigD, Bool.or_eq_false_iff, largeS, decide_eq_false_iff_not, sumT_bs _ _ (Nat.le_refl _)] at h
  omega
theorem bs_prs {l : List Ob} (h : BsOK l) : (bsS l).pairs.length ≤ 10000 := by
  have h1 := h.prs l.length
  have h2 := h.n
  show (prsT l l.length).length ≤ _
  omega
set_option maxRecDepth 20000 in
set_option maxHeartbeats 8000000 in
theorem colOf_ (d : Dia) (L : DiaLim d) (hp2 : ∀ o ∈ d.nodes, o.pairs.length ≤ 1000) : PCall Tryd.prog 50 [vDia d] (vCol (colS d)) := by
  refine pcall_of_body Tryd.func50 rfl fun s Q hQ => ?_
  obtain ⟨e, he, hl, h0⟩ : ∃ e : Env, ([vDia d] ++ List.replicate (Tryd.f50.ntmps - ([vDia d] : List V).length) .junk) = e ∧ e.length = 95 ∧ ev e (.tmp 0) = vDia d := ⟨_, rfl, rfl, rfl⟩
  rw [he]
  clear he
  have Ln := L.n
  have Lm := L.m
  refine vsk fun K1 hK1 => ?_
  refine vw_sc 0 [] ?_
  simp only [bs, ↓vopx, ↓vop, thenV, flat, V.cells, h0, wocs, ↓goc, ↓woc, ↓vopm0, Tryd.zv25]
  refine hK1 _ _ ?_
  refine vsk fun K2 hK2 => ?_
  refine vw_block ?_
  refine vsk fun K3 hK3 => ?_
  refine vw_st fun sN hSN => ?_
  have hn62 : sN.m s.next = some (.box 62 [.t (tObjs d.nodes), .t (tArs d.arrs)]) := by rw [hSN, m_add, if_neg (by simp only [n_add]; omega), m_add, if_pos rfl]
  have hn2 : sN.m (s.next + 1) = some (.box 25 [.t (.v (.slice none 0 0)), .t (.v (.slice none 0 0))]) := by rw [hSN, m_add, if_pos (by simp only [n_add])]
  have hnn : sN.next = s.next + 2 := by rw [hSN]; rfl
  have hnk : ∀ j, j < s.next → sN.m j = s.m j := fun j hj => by rw [hSN, m_add, if_neg (by simp only [n_add]; omega), m_add, if_neg (by omega)]
  clear hSN
  rcases (show bigD d = true ∨ bigD d = false by cases bigD d <;> simp) with kb | kb
  · refine vw_sc 0 [.pur (Bo (bigD d))] ?_
    simp only [bs, Nat.reduceAdd, ↓vopx, ↓vop, Nat.reduceBEq, thenV, Nat.reduceLT, dLoad, vpart, hl, wocs, ↓goc, ↓woc, ↓vopm0, ↓callC, calleeV, Tryd.ag62, Tryd.sz62, hn62, kb]
    repeat ((with_reducible refine And.intro ?_ ?_); · exact ⟨Tryd.is83, by simpa only [kb] using bigD_ d L⟩)
    refine hK3 _ _ ?_
    refine vck fun A B hA hB => ?_
    simp only [condV, ev_hit, lpv, Nat.reduceLT, true_implies, reduceCtorEq, false_implies, and_true, hl]
    refine hA ?_
    clear hA hB A B
    refine vsk fun K4 hK4 => ?_
    refine vw_sc 0 [] ?_
    simp only [bs, Nat.reduceAdd, vparts, gfill, ↓vopx, ↓vop, Nat.reduceBEq, thenV, flat, Nat.reduceLT, V.cells, hl, wocs, ↓goc, ↓woc, ↓vopm0, Tryd.st25, Tryd.sz25, hn2]
    refine hK4 _ _ ?_
    refine vw_ret ?_
    have hres : vCol (colS d) = pack [vObj ⟨[], []⟩, .t (tMat []), I 11] := by simp [colS, vCol, noOb, kb]; rfl
    rw [hres] at hQ
    refine hQ _ _ _ (.inr rfl) (done_wk (vs := [.agg [.t (.v (.slice none 0 0)), .t (.v (.slice none 0 0))], .t (.v (.slice none 0 0)), I 11]) (vs' := [vObj ⟨[], []⟩, .t (tMat []), I 11]) ?_ rfl (ewk_err3 _ _) (by simp [pack, nm, nm2, nm1, nm0]) ?_)
    · show vres Tryd.prog _ _ [.cell 2 25, .tmp 3, .tmp 4] = _
      simp only [vres_cell, vres_tmp, vres_nil, ev_hit, ev_miss, Nat.reduceBEq, lpv, hl, hn2, Tryd.sz25, Tryd.ag25, dLoad, m_set, vpart, if_true, Nat.reduceLT, List.drop_zero, List.take_succ_cons, List.take_zero, List.length_cons, List.length_nil, Nat.zero_add, Nat.reduceAdd]
      try rfl
    · exact fun n x hn h => by rw [m_set, if_neg (by omega), hnk n hn]; exact h
  · refine vw_sc 0 [.pur (Bo (bigD d))] ?_
    simp only [bs, Nat.reduceAdd, ↓vopx, ↓vop, Nat.reduceBEq, thenV, Nat.reduceLT, dLoad, vpart, hl, wocs, ↓goc, ↓woc, ↓vopm0, ↓callC, calleeV, Tryd.ag62, Tryd.sz62, hn62, kb]
    repeat ((with_reducible refine And.intro ?_ ?_); · exact ⟨Tryd.is83, by simpa only [kb] using bigD_ d L⟩)
    refine hK3 _ _ ?_
    refine vck fun A B hA hB => ?_
    simp only [condV, ev_hit, lpv, Nat.reduceLT, true_implies, reduceCtorEq, false_implies, true_and, hl]
    refine hB ?_
    clear hA hB A B
    refine vsk fun K5 hK5 => ?_
    rcases (show diaS d = false ∨ diaS d = true by cases diaS d <;> simp) with kd | kd
    · refine vw_sc 0 [.pur (Bo (diaS d))] ?_
      simp only [bs, Nat.reduceAdd, ↓vopx, ↓vop, Nat.reduceBEq, thenV, Nat.reduceLT, dLoad, vpart, hl, wocs, ↓goc, ↓woc, ↓vopm0, ↓callC, calleeV, Tryd.ag62, Tryd.sz62, hn62, kd]
      repeat ((with_reducible refine And.intro ?_ ?_); · exact ⟨Tryd.is82, by simpa only [kd] using isDia_ d L⟩)
      refine hK5 _ _ ?_
      refine vck fun A B hA hB => ?_
      simp only [condV, ev_hit, lpv, Nat.reduceLT, true_implies, reduceCtorEq, false_implies, and_true, hl]
      refine hA ?_
      clear hA hB A B
      refine vsk fun K6 hK6 => ?_
      refine vw_sc 0 [] ?_
      simp only [bs, Nat.reduceAdd, vparts, gfill, ↓vopx, ↓vop, Nat.reduceBEq, thenV, flat, Nat.reduceLT, V.cells, hl, wocs, ↓goc, ↓woc, ↓vopm0, Tryd.st25, Tryd.sz25, hn2]
      refine hK6 _ _ ?_
      refine vw_ret ?_
      have hres : vCol (colS d) = pack [vObj ⟨[], []⟩, .t (tMat []), I 10] := by simp [colS, vCol, noOb, kb, kd]; rfl
      rw [hres] at hQ
      refine hQ _ _ _ (.inr rfl) (done_wk (vs := [.agg [.t (.v (.slice none 0 0)), .t (.v (.slice none 0 0))], .t (.v (.slice none 0 0)), I 10]) (vs' := [vObj ⟨[], []⟩, .t (tMat []), I 10]) ?_ rfl (ewk_err3 _ _) (by simp [pack, nm, nm2, nm1, nm0]) ?_)
      · show vres Tryd.prog _ _ [.cell 2 25, .tmp 3, .tmp 4] = _
        simp only [vres_cell, vres_tmp, vres_nil, ev_hit, ev_miss, Nat.reduceBEq, lpv, hl, hn2, Tryd.sz25, Tryd.ag25, dLoad, m_set, vpart, if_true, Nat.reduceLT, List.drop_zero, List.take_succ_cons, List.take_zero, List.length_cons, List.length_nil, Nat.zero_add, Nat.reduceAdd]
        try rfl
      · exact fun n x hn h => by rw [m_set, if_neg (by omega), hnk n hn]; exact h
    · refine vw_sc 0 [.pur (Bo (diaS d))] ?_
      simp only [bs, Nat.reduceAdd, ↓vopx, ↓vop, Nat.reduceBEq, thenV, Nat.reduceLT, dLoad, vpart, hl, wocs, ↓goc, ↓woc, ↓vopm0, ↓callC, calleeV, Tryd.ag62, Tryd.sz62, hn62, kd]
      repeat ((with_reducible refine And.intro ?_ ?_); · exact ⟨Tryd.is82, by simpa only [kd] using isDia_ d L⟩)
      refine hK5 _ _ ?_
      refine vck fun A B hA hB => ?_
      simp only [condV, ev_hit, lpv, Nat.reduceLT, true_implies, reduceCtorEq, false_implies, true_and, hl]
      refine hB ?_
      clear hA hB A B
      refine vw_skip ?_
      refine hK2 _ _ ?_
      refine vsk fun K7 hK7 => ?_
      have hD := dia_iff.1 kd
      have hBs : BsOK d.nodes := ⟨by have := hD.n; omega, hD.ob, hp2⟩
      have h40 : bsB d.nodes d.nodes.length ≤ 40 := col_le kb
      have hgl := hD.gl h40
      have hll := legsT_length d.nodes d.nodes.length (Nat.le_refl _)
      refine vw_sc 0 [.stop] ?_
      simp only [bs, Nat.reduceAdd, ↓vopx, ↓vop, Nat.reduceBEq, thenV, Nat.reduceLT, V.cells, dLoad, vpart, hl, wocs, ↓goc, ↓woc, ↓vopm0, ↓callC, calleeV, Tryd.ag59, Tryd.fd62_0, Tryd.sz59, nns, hn62]
      refine ⟨Tryd.is65, (besideO_ sN d.nodes hBs).mono fun v sU hv => ?_⟩
      obtain ⟨m, rfl, hum, hml, hmu, huk⟩ := hv
      try simp only [bs, Nat.reduceAdd, Nat.reduceBEq, Nat.reduceLT, hl, Tryd.sz25, Tryd.zv25, Hold]
      refine hK7 _ _ ?_
      refine vsk fun K8 hK8 => ?_
      refine vw_st fun sV hSV => ?_
      have hv5 : sV.m sU.next = some (.box 25 [.t (tStrs (bsS d.nodes).labels), .t (tPairs (bsS d.nodes).pairs)]) := by rw [hSV, m_set, if_pos rfl]
      have hvs : ∀ j, j < sU.next → sV.m j = sU.m j := fun j hj => by rw [hSV, m_set, if_neg (by omega), m_add, if_neg (by omega)]
      have hvn : sV.next = sU.next + 1 := by rw [hSV]; rfl
      clear hSV
      have hvm : sV.m m = some (.arr 1 26 ((legsT d.nodes d.nodes.length).map tInts)) := by rw [hvs _ hmu]; exact hum
      have hv62 : sV.m s.next = some (.box 62 [.t (tObjs d.nodes), .t (tArs d.arrs)]) := by rw [hvs _ (by omega), huk _ (by omega)]; exact hn62
      have hv2 : sV.m (s.next + 1) = some (.box 25 [.t (.v (.slice none 0 0)), .t (.v (.slice none 0 0))]) := by rw [hvs _ (by omega), huk _ (by omega)]; exact hn2
      have hvk : ∀ j, j < s.next → sV.m j = s.m j := fun j hj => by rw [hvs _ (by omega), huk _ (by omega)]; exact hnk j hj
      have hbl := bsS_lab d.nodes
      refine vw_sc 0 [.stop] ?_
      simp only [bs, Nat.reduceAdd, ↓vopx, ↓vop, Nat.reduceBEq, thenV, Nat.reduceLT, dLoad, vpart, hl, wocs, ↓goc, ↓woc, ↓vopm0, ↓callC, calleeV, Tryd.ag22, Tryd.fd25_0, Tryd.sz22, Tryd.un22, len_tStrs, nns, hv5, hbl]
      refine ⟨Tryd.is72, (unNew_ sV (bsB d.nodes d.nodes.length) (by omega)).mono fun v sW hv => ?_⟩
      obtain ⟨p, um, rfl, hpr, hup, hum2, hkw, hwn⟩ := hv
      try simp only [bs, Nat.reduceLT, hl, Hold]
      refine hK8 _ _ ?_
      refine vsk fun K9 hK9 => ?_
      refine vsk fun K10 hK10 => ?_
      have hw62 := hkw _ _ (by omega) hv62
      refine vw_sc 0 [] ?_
      simp only [bs, ↓vopx, ↓vop, Nat.reduceBEq, thenV, flat, Nat.reduceLT, dLoad, vpart, hl, wocs, ↓goc, ↓woc, ↓vopm0, Tryd.ag60, Tryd.fd62_1, Tryd.sz60, Tryd.un60, len_tArs, nns, hw62]
      refine hK10 _ _ ?_
      refine vw_block ?_
      refine vw_loop (fun mm e' s' => ∃ k : Nat, mm = d.arrs.length - k ∧ k ≤ d.arrs.length ∧ e'.length = 95 ∧ ev e' (.tmp 1) = .ptr s.next 0 ∧ ev e' (.tmp 2) = .ptr (s.next + 1) 0 ∧ ev e' (.tmp 5) = .ptr sU.next 0 ∧ ev e' (.tmp 6) = .loc m 0 d.nodes.length ∧ ev e' (.tmp 7) = .ptr p 0 ∧ ev e' (.tmp 35) = .t (tArs d.arrs) ∧ ev e' (.tmp 36) = I d.arrs.length ∧ ev e' (.tmp 37) = I k ∧ True ∧ CoI s sV d m p um (colF d k).length s') (⟨0, rfl, Nat.zero_le _, ?_⟩) ?_
      · try simp only [ev_hit, ev_miss, Nat.reduceBEq, lpv, hl, Nat.reduceLT, true_and]
        repeat ((with_reducible refine And.intro ?_ ?_); · trivial)
        exact ⟨hpr, hkw, hwn⟩
      rintro mm e s1 ⟨k, rfl, hle_k, hl, k1, k2, k5, k6, k7, k35, k36, h_k, hst, hC⟩
      refine vsk fun K11 hK11 => ?_
      refine vw_sc 0 [] ?_
      simp only [thenV, opII, k36, h_k, wocs, ↓goc, ↓woc]
      refine hK11 _ _ ?_
      refine vsk fun K12 hK12 => ?_
      refine vck fun A B hA hB => ?_
      simp only [condV, ev_hit, Nat.reduceLT, decide_eq_true_eq, decide_eq_false_iff_not, hl]
      refine ⟨fun hc38 => hA ?_, fun hc38 => hB ?_⟩
      · clear hA hB A B
        refine vw_skip ?_
        refine hK12 _ _ ?_
        refine vsk fun K13 hK13 => ?_
        refine vw_block ?_
        refine vsk fun K14 hK14 => ?_
        have hlt : k < d.arrs.length := by omega
        obtain ⟨x, hx⟩ : ∃ x, d.arrs[k]? = some x := ⟨_, List.getElem?_eq_getElem hlt⟩
        have g0 := dropA hx
        have hfl := flatA_length d.arrs
        have hi2 : k * 3 < d.arrs.length * 3 := by omega
        obtain ⟨a, b, f0, hA, t0, hB, hab⟩ := hD.ar x (List.mem_of_getElem? hx)
        have hmp := allY_length (arrS_iff.1 hab).2.2.1
        have ha40 := (arrS_iff.1 hab).1.le
        refine vw_sc 0 [] ?_
        simp only [bs, Nat.reduceAdd, ↓vopx, ↓vop, Nat.reduceBEq, thenV, Nat.reduceLT, V.cells, dLoad, vpart, hl, k35, h_k, wocs, ↓goc, ↓woc, ↓vopm0, Tryd.ag72, Tryd.sz72, Tryd.un60, Tryd.zv72, g0, hfl, hi2]
        refine hK14 _ _ ?_
        refine vsk fun K15 hK15 => ?_
        refine vw_env2 fun e2 s9_ hE2 hSb => ?_
        subst hE2
        have hbx : s9_.m s1.next = some (.box 72 [.t (TI x.fr), .t (TI x.to), .t (tInts x.mp)]) := by rw [hSb]; simp only [m_set, if_true]; try rfl
        have hC9 : CoI s sV d m p um (colF d k).length s9_ := by rw [hSb]; exact hC.step (((Keep.refl _).add (Nat.le_refl _) _).set (Nat.le_refl _) _) (by simp only [n_set, n_add]; omega)
        have hb9 : s1.next < s9_.next := by rw [hSb]; simp only [n_set, n_add]; omega
        have hv9 : sV.next ≤ s1.next := hC.nx
        have hu9 : um < s1.next := hC.pr.elim fun l h => h.1.lm
        clear hSb
        obtain ⟨n9, hn9⟩ : ∃ n, n = s1.next := ⟨_, rfl⟩
        rw [← hn9] at hbx hb9 hv9 hu9
        refine vw_sc 0 [] ?_
        simp only [bs, ↓vopx, ↓vop, thenV, flat, Nat.reduceLT, dLoad, vpart, hl, wocs, ↓goc, ↓woc, ↓vopm0, Tryd.ag26, Tryd.fd72_2, Tryd.sz26, Tryd.un26, len_tInts, nns, hbx, ← hn9]
        refine hK15 _ _ ?_
        refine vw_block ?_
        refine vw_loop (fun mm e' s' => ∃ i : Nat, mm = x.mp.length - i ∧ i ≤ x.mp.length ∧ e'.length = 95 ∧ ev e' (.tmp 1) = .ptr s.next 0 ∧ ev e' (.tmp 2) = .ptr (s.next + 1) 0 ∧ ev e' (.tmp 5) = .ptr sU.next 0 ∧ ev e' (.tmp 6) = .loc m 0 d.nodes.length ∧ ev e' (.tmp 7) = .ptr p 0 ∧ ev e' (.tmp 35) = .t (tArs d.arrs) ∧ ev e' (.tmp 36) = I d.arrs.length ∧ ev e' (.tmp 9) = .ptr n9 0 ∧ ev e' (.tmp 37) = I k ∧ ev e' (.tmp 42) = .t (tInts x.mp) ∧ ev e' (.tmp 43) = I x.mp.length ∧ ev e' (.tmp 44) = I i ∧ True ∧ CoI s sV d m p um ((colF d k).length + i) s' ∧ s'.m n9 = some (.box 72 [.t (TI x.fr), .t (TI x.to), .t (tInts x.mp)]) ∧ n9 < s'.next) (⟨0, rfl, Nat.zero_le _, ?_⟩) ?_
        · try simp only [ev_hit, ev_miss, Nat.reduceBEq, lpv, hl, k1, k2, k5, k6, k7, k35, k36, h_k, Nat.reduceLT, true_and]
          repeat ((with_reducible refine And.intro ?_ ?_); · trivial)
          exact hb9
        rintro mm e s1 ⟨i, rfl, hle_i, hl, q1, q2, q5, q6, q7, q35, q36, q9, q37, q42, q43, h_i, hst, ⟨hC3, hb3, hn3⟩⟩
        refine vsk fun K16 hK16 => ?_
        refine vw_sc 0 [] ?_
        simp only [thenV, opII, q43, h_i, wocs, ↓goc, ↓woc]
        refine hK16 _ _ ?_
        refine vsk fun K17 hK17 => ?_
        refine vck fun A B hA hB => ?_
        simp only [condV, ev_hit, Nat.reduceLT, decide_eq_true_eq, decide_eq_false_iff_not, hl]
        refine ⟨fun hc45 => hA ?_, fun hc45 => hB ?_⟩
        · clear hA hB A B
          refine vw_skip ?_
          refine hK17 _ _ ?_
          refine vsk fun K18 hK18 => ?_
          refine vw_block ?_
          refine vsk fun K19 hK19 => ?_
          obtain ⟨w, hw⟩ : ∃ w, x.mp[i]? = some w := ⟨_, List.getElem?_eq_getElem (by omega)⟩
          refine vw_sc 0 [] ?_
          simp only [bs, ↓vopx, ↓vop, Nat.reduceBEq, thenV, Nat.reduceLT, dLoad, vpart, hl, q42, h_i, wocs, ↓goc, ↓woc, ↓vopm0, Tryd.ag3, Tryd.sz3, Tryd.un26, hw]
          repeat ((with_reducible refine And.intro ?_ ?_); · omega)
          refine hK19 _ _ ?_
          have hlA := (List.getElem?_eq_some_iff.1 hA).1
          have hlB := (List.getElem?_eq_some_iff.1 hB).1
          have hm3 := hC3.keep _ _ (by omega) hvm
          have hcp := col_pos hx hw
          have bw := map_all (arrS_iff.1 hab).2.2.1 w (List.mem_of_getElem? hw)
          have g1 := legs_at d.nodes.length (Nat.le_refl _) hlA hA
          have g2 := legs_at d.nodes.length (Nat.le_refl _) hlB hB
          have g3 : (legT a.labels.length (bsB d.nodes x.fr.toNat))[i]? = _ := legT_at (by omega)
          have g4 : (legT b.labels.length (bsB d.nodes x.to.toNat))[w.toNat]? = _ := legT_at (by omega)
          have l1 := legT_len a.labels.length (bsB d.nodes x.fr.toNat)
          have l2 := legT_len b.labels.length (bsB d.nodes x.to.toNat)
          have bA := bsB_lt hA hlA
          have bB := bsB_lt hB hlB
          have hRl := (joins_ok _ (colF d d.arrs.length) (colG d d.arrs.length) hgl.bF hgl.bG ((colF d k).length + i) (by have := (List.getElem?_eq_some_iff.1 hcp.1).1; omega) (by have := (List.getElem?_eq_some_iff.1 hcp.2).1; omega)).2
          rw [bsS_lab] at hRl
          refine vw_chain Tryd.mixed 17 [0, 0, 0, 1, 1, 1, 0, 1, 1, 0, 0, 1, 1, 1, 0, 1, 1] [] [.stop] 0 (by decide +kernel) (by simp [lpv, hl]) rfl ?_
          simp only [bs, Nat.reduceAdd, ↓vopx, ↓vop, Nat.reduceBEq, thenV, blockV, Nat.reduceLT, dLoad, vpart, hl, q6, q7, q9, wocs, ↓goc, ↓woc, ↓vopm1, ↓callC, calleeV, chn, ↓goq, ↓woq, List.zip_cons_cons, List.zip_nil_right, Tryd.ag26, Tryd.ag3, Tryd.fd72_0, Tryd.fd72_1, Tryd.sz26, Tryd.sz3, Tryd.un26, Tryd.un63, nns, hb3, hm3, g1, g2, g3, g4, l1, l2, Int.toNat_natCast]
          repeat (refine And.intro (by omega) ?_)
          refine ⟨Tryd.is73, (unJoin_ s1 p um _ hC3.pr (bsB d.nodes x.fr.toNat + i) (bsB d.nodes x.to.toNat + w.toNat) (by omega) (by omega)).mono fun v s2 hv => ?_⟩
          obtain ⟨⟨bb, rfl⟩, hj2, hbt⟩ := hv
          try simp only [bs, Nat.reduceBEq, Nat.reduceLT, hl, q6, q7, Hold]
          refine hK18 _ _ ?_
          refine vw_sc 0 [] ?_
          simp only [bs, ↓vopx, ↓vop, Nat.reduceBEq, thenV, flat, Nat.reduceLT, opII, hl, q1, q2, q5, q6, q7, q35, q36, q9, q37, q42, q43, h_i, wocs, ↓goc, ↓woc, ↓vopm0]
          repeat ((with_reducible refine And.intro ?_ ?_); · exact ⟨by omega, by omega⟩)
          refine ⟨x.mp.length - (i + 1), by omega, i + 1, rfl, by omega, ?_⟩
          try simp only [ev_hit, ev_miss, Nat.reduceBEq, lpv, hl, q1, q2, q5, q6, q7, q35, q36, q9, q37, q42, q43, h_i, if_true, if_false, Nat.reduceEqDiff, Nat.reduceLT, true_and, and_true]
          repeat ((with_reducible refine And.intro ?_ ?_); · trivial)
          refine ⟨⟨?_, hbt.keep hum2 hC3.keep hC3.nx, Nat.le_trans hC3.nx hbt.2⟩, ?_, by have := hbt.2; omega⟩
          · rw [show (colF d k).length + (i + 1) = (colF d k).length + i + 1 from rfl, joinsL_succ hcp.1 hcp.2, Int.toNat_natCast, show (((bsB d.nodes x.to.toNat : Nat) : Int) + w).toNat = bsB d.nodes x.to.toNat + w.toNat by omega]; exact hj2
          · rw [hbt.1 _ hn3 (by omega)]; exact hb3
        · clear hA hB A B
          have hie : i = x.mp.length := by omega
          refine vw_exit ?_
          simp only [thenV, blockV, if_true, if_false, Nat.reduceEqDiff]
          refine hK13 _ _ ?_
          refine vw_sc 0 [] ?_
          simp only [bs, ↓vopx, ↓vop, Nat.reduceBEq, thenV, flat, Nat.reduceLT, opII, hl, q1, q2, q5, q6, q7, q35, q36, q37, wocs, ↓goc, ↓woc, ↓vopm0]
          repeat ((with_reducible refine And.intro ?_ ?_); · exact ⟨by omega, by omega⟩)
          refine ⟨d.arrs.length - (k + 1), by omega, k + 1, rfl, by omega, ?_⟩
          try simp only [ev_hit, ev_miss, Nat.reduceBEq, lpv, hl, k1, k2, k5, k6, k7, k35, k36, h_k, if_true, if_false, Nat.reduceEqDiff, Nat.reduceLT, true_and, and_true]
          repeat ((with_reducible refine And.intro ?_ ?_); · trivial)
          rw [colF_succ hx, List.length_append, legT_len, ← hie]; exact hC3
      · clear hA hB A B
        have hka : k = d.arrs.length := by omega
        refine vw_exit ?_
        simp only [thenV, blockV, if_true]
        refine hK9 _ _ ?_
        refine vsk fun K20 hK20 => ?_
        have h5_ := hC.keep _ _ (by omega) hv5
        have hpl : ∀ q, q = d.arrs.length → placesL (joinsL (rangeI (bsB d.nodes d.nodes.length)) (colF d d.arrs.length) (colG d d.arrs.length) (colF d q).length) = (colPl d) := fun q hq => by subst hq; rfl
        have hRl := hgl.rep.2
        refine vw_sc 0 [.stop] ?_
        simp only [bs, Nat.reduceAdd, ↓vopx, ↓vop, Nat.reduceBEq, thenV, Nat.reduceLT, V.cells, dLoad, vpart, hl, k5, k7, wocs, ↓goc, ↓woc, ↓vopm0, ↓callC, calleeV, Tryd.ag25, Tryd.sz25, h5_]
        refine ⟨Tryd.is74, (folded_ s1 p um _ hC.pr (bsS d.nodes) hgl.ob (by have := bs_prs hBs; omega) (by rw [hka]; exact hRl)).mono fun v s8 hv => ?_⟩
        rw [hpl k hka] at hv
        obtain ⟨rfl, h8k, h8n⟩ := hv
        try simp only [bs, Nat.reduceAdd, Nat.reduceBEq, Nat.reduceLT, hl, k7, Tryd.sz25, Tryd.zv25, Hold]
        refine hK20 _ _ ?_
        refine vsk fun K21 hK21 => ?_
        refine vsk fun K22 hK22 => ?_
        refine vw_st fun sX hSX => ?_
        have hx12 : sX.m s8.next = some (.box 25 [.t (tStrs (gluedS (bsS d.nodes) (colPl d)).labels), .t (tPairs (gluedS (bsS d.nodes) (colPl d)).pairs)]) := by rw [hSX, m_set, if_pos rfl]
        have hxs : ∀ j, j < s8.next → sX.m j = s8.m j := fun j hj => by rw [hSX, m_set, if_neg (by omega), m_add, if_neg (by omega)]
        clear hSX
        have hnV := hC.nx
        have hxm : sX.m m = some (.arr 1 26 ((mixL d (colPl d) 0).map tInts)) := by rw [mixL_zero, hxs _ (by omega)]; exact h8k _ _ (by omega) (by omega) (hC.keep _ _ (by omega) hvm)
        have hx2 : sX.m (s.next + 1) = some (.box 25 [.t (.v (.slice none 0 0)), .t (.v (.slice none 0 0))]) := by rw [hxs _ (by omega)]; exact h8k _ _ (by omega) (by omega) (hC.keep _ _ (by omega) hv2)
        have hxk : ∀ j c, j < s.next → s.m j = some c → sX.m j = some c := fun j c hj hc => by rw [hxs _ (by omega)]; exact h8k _ _ (by omega) (by omega) (hC.keep _ _ (by omega) (by rw [hvk j hj]; exact hc))
        have hpll : ((colPl d)).length = bsB d.nodes d.nodes.length := hgl.len
        refine vw_sc 0 [] ?_
        simp only [bs, ↓vopx, ↓vop, Nat.reduceBEq, thenV, flat, Nat.reduceLT, hl, k6, wocs, ↓goc, ↓woc, ↓vopm0]
        refine hK22 _ _ ?_
        refine vw_block ?_
        refine vw_loop (fun mm e' s' => ∃ i5 : Nat, mm = d.nodes.length - i5 ∧ i5 ≤ d.nodes.length ∧ e'.length = 95 ∧ ev e' (.tmp 2) = .ptr (s.next + 1) 0 ∧ ev e' (.tmp 6) = .loc m 0 d.nodes.length ∧ ev e' (.tmp 12) = .ptr s8.next 0 ∧ ev e' (.tmp 13) = .t (tInts (colPl d)) ∧ ev e' (.tmp 76) = I d.nodes.length ∧ ev e' (.tmp 77) = I i5 ∧ True ∧ s'.m m = some (.arr 1 26 ((mixL d (colPl d) i5).map tInts)) ∧ (∀ j, j ≠ m → s'.m j = sX.m j) ∧ s'.next = sX.next) (⟨0, rfl, Nat.zero_le _, ?_⟩) ?_
        · try simp only [ev_hit, ev_miss, Nat.reduceBEq, lpv, hl, k2, k6, Nat.reduceLT, true_and, and_true]
          repeat ((with_reducible refine And.intro ?_ ?_); · trivial)
          exact fun _ _ => trivial
        rintro mm e s1 ⟨i5, rfl, hle_i5, hl, z2, z6, z12, z13, z76, h_i5, hst, ⟨hm5, hs5, hn5⟩⟩
        refine vsk fun K23 hK23 => ?_
        refine vw_sc 0 [] ?_
        simp only [thenV, opII, z76, h_i5, wocs, ↓goc, ↓woc]
        refine hK23 _ _ ?_
        refine vsk fun K24 hK24 => ?_
        refine vck fun A B hA hB => ?_
        simp only [condV, ev_hit, Nat.reduceLT, decide_eq_true_eq, decide_eq_false_iff_not, hl]
        refine ⟨fun hc78 => hA ?_, fun hc78 => hB ?_⟩
        · clear hA hB A B
          refine vw_skip ?_
          refine hK24 _ _ ?_
          refine vsk fun K25 hK25 => ?_
          refine vw_block ?_
          refine vsk fun K26 hK26 => ?_
          refine vw_sc 0 [] ?_
          simp only [bs, ↓vopx, ↓vop, Nat.reduceBEq, thenV, Nat.reduceLT, hl, h_i5, wocs, ↓goc, ↓woc, ↓vopm0]
          refine hK26 _ _ ?_
          have hlt : i5 < d.nodes.length := by omega
          obtain ⟨o, ho⟩ : ∃ o, d.nodes[i5]? = some o := ⟨_, List.getElem?_eq_getElem hlt⟩
          have g5 := legs_at d.nodes.length (Nat.le_refl _) hlt ho
          have g6 := mixL_at (pl := (colPl d)) g5
          have hml5 := mixL_len d (colPl d) i5
          have l5 := legT_len o.labels.length (bsB d.nodes i5)
          have o40 := (hD.ob o (List.mem_of_getElem? ho)).le
          refine vw_sc 0 [.pur (.tup [.t (tInts (thenS (legT o.labels.length (bsB d.nodes i5)) (colPl d)).1), Bo (thenS (legT o.labels.length (bsB d.nodes i5)) (colPl d)).2])] ?_
          simp only [bs, ↓vopx, ↓vop, Nat.reduceBEq, thenV, blockV, Nat.reduceLT, V.cells, dLoad, vpart, Sg.frzL, Sg.frz1, hl, z6, z13, wocs, ↓goc, ↓woc, ↓vopm0, ↓callC, calleeV, Tryd.ag26, Tryd.sz26, Tryd.un63, hm5, g6, hml5]
          repeat ((with_reducible refine And.intro ?_ ?_); · first | (with_reducible assumption) | omega | exact ⟨Tryd.is32, then_ _ _ (by omega) (by omega)⟩)
          refine hK25 _ _ ?_
          refine vw_sc 0 [] ?_
          simp only [bs, ↓vopx, ↓vop, Nat.reduceBEq, thenV, flat, Nat.reduceLT, opII, hl, z2, z6, z12, z13, z76, h_i5, wocs, ↓goc, ↓woc, ↓vopm0]
          repeat ((with_reducible refine And.intro ?_ ?_); · exact ⟨by omega, by omega⟩)
          refine ⟨d.nodes.length - (i5 + 1), by omega, i5 + 1, rfl, by omega, ?_⟩
          try simp only [ev_hit, ev_miss, Nat.reduceBEq, lpv, hl, z2, z6, z12, z13, z76, h_i5, if_true, if_false, Nat.reduceEqDiff, Nat.reduceLT, true_and, and_true]
          repeat ((with_reducible refine And.intro ?_ ?_); · trivial)
          rw [setAll_mat (by omega), mixL_set g5]
          exact ⟨rfl, fun j hj => by rw [if_neg hj]; exact hs5 j hj, hn5⟩
        · clear hA hB A B
          have hi5 : i5 = d.nodes.length := by omega
          refine vw_exit ?_
          simp only [thenV, blockV, if_true]
          refine hK21 _ _ ?_
          refine vsk fun K27 hK27 => ?_
          have hml5 := mixL_len d (colPl d) i5
          refine VW.freeze 6 (n := m) (len := d.nodes.length) (k := 1) (el := 26) (cs := (mixL d (colPl d) i5).map tInts) ?_ ?_ (by simp [hml5]) ?_
          · simp only [ev_miss, Nat.reduceBEq, z6]
          · exact hm5
          have z9 : ¬ s8.next = m := by omega
          have h12 : s1.m s8.next = _ := (hs5 _ z9).trans hx12
          have h2_ : s1.m (s.next + 1) = _ := (hs5 _ (by omega)).trans hx2
          have z8 : ¬ s.next + 1 = m := by omega
          refine vw_sc 0 [] ?_
          simp only [bs, Nat.reduceAdd, ↓vopx, ↓vop, Nat.reduceBEq, thenV, flat, Nat.reduceLT, V.cells, dLoad, vpart, hl, z2, z12, wocs, ↓goc, ↓woc, ↓vopm0, Tryd.ag25, Tryd.sz25, h12, h2_, z8, z9]
          refine hK27 _ _ ?_
          refine vw_ret ?_
          have hres : vCol (colS d) = pack [vObj (gluedS (bsS d.nodes) (colPl d)), .t (tMat (mixL d (colPl d) i5)), I 0] := by rw [hi5, mixL_end]; simp [colS, vCol, colLegs, kb, kd]; rfl
          rw [hres] at hQ
          refine hQ _ _ _ (.inr rfl) ?_
          refine done_flat (vs := [vObj (gluedS (bsS d.nodes) (colPl d)), .t (tMat (mixL d (colPl d) i5)), I 0]) ?_ rfl (by simp [pack, nm, nm2, nm1, nm0]) (fun n x hn h => by rw [m_set, if_neg (by omega), m_del, if_neg (by omega), hs5 _ (by omega)]; exact hxk n x hn h)
          show vres Tryd.prog _ _ [.cell 2 25, .tmp 3, .tmp 4] = _
          simp only [vres_cell, vres_tmp, vres_nil, ev_hit, ev_miss, Nat.reduceBEq, lpv, hl, z2, Tryd.sz25, Tryd.ag25, dLoad, m_set, vpart, if_true, Nat.reduceLT, List.drop_zero, List.take_succ_cons, List.take_zero, List.length_cons, List.length_nil, Nat.zero_add, Nat.reduceAdd]
end Go.Proofs

open Go Go.V
namespace Go.Proofs
theorem fAtL {l : List (List Int)} {k : Nat} {g : List Int} (h : l[k]? = some g) : l.getD k [] = g := by rw [List.getD_eq_getElem?_getD, h]; rfl
theorem fAtO {l : List Ob} {k : Nat} {g : Ob} (h : l[k]? = some g) : l.getD k noOb = g := by rw [List.getD_eq_getElem?_getD, h]; rfl
theorem lg_d {d : Dia} {t : Ob} {ls : List (List Int)} (h : diaS d = false) : legsS d t ls = false := by simp [legsS, h]
theorem lg_t {d : Dia} {t : Ob} {ls : List (List Int)} (h : (checkS t == 0) = false) : legsS d t ls = false := by
  unfold legsS; rw [h]; simp
theorem lg_n {d : Dia} {t : Ob} {ls : List (List Int)} (h : ¬ (ls.length : Int) = d.nodes.length) : legsS d t ls = false := by
  have : ¬ ls.length = d.nodes.length := by omega
  simp [legsS, this]
theorem lg_o {d : Dia} {t : Ob} {ls : List (List Int)} {k : Nat} {o : Ob} {g : List Int} (h1 : d.nodes[k]? = some o) (h2 : ls[k]? = some g) (h : arrS o t g = false) : legsS d t ls = false := by
  have : ((List.range d.nodes.length).all fun k => arrS (d.nodes.getD k noOb) t (ls.getD k [])) = false :=
    List.all_eq_false.2 ⟨k, List.mem_range.2 (List.getElem?_eq_some_iff.1 h1).1, by rw [fAtO h1, fAtL h2, h]; decide⟩
  unfold legsS; rw [this]; simp
theorem lg_a {d : Dia} {t : Ob} {ls : List (List Int)} {k : Nat} {x : Ar} (h1 : d.arrs[k]? = some x) (h : alS d ls x = false) : legsS d t ls = false := by
  have : (d.arrs.all (alS d ls)) = false := List.all_eq_false.2 ⟨x, List.mem_of_getElem? h1, by rw [h]; decide⟩
  simp [legsS, this]
theorem lg_ok {d : Dia} {t : Ob} {ls : List (List Int)} (h1 : diaS d = true) (h2 : (checkS t == 0) = true) (h3 : (ls.length : Int) = d.nodes.length) (h4 : ∀ (j : Nat) (o : Ob) (g : List Int), j < d.nodes.length → d.nodes[j]? = some o → ls[j]? = some g → arrS o t g = true) (h5 : ∀ (j : Nat) (x : Ar), j < d.arrs.length → d.arrs[j]? = some x → alS d ls x = true) : legsS d t ls = true := by
  have h3' : ls.length = d.nodes.length := by omega
  simp only [legsS, h1, h2, h3', decide_true, Bool.true_and, Bool.and_eq_true, List.all_eq_true, List.mem_range]
  refine ⟨fun k hk => ?_, fun x hx => ?_⟩
  · obtain ⟨o, ho⟩ : ∃ o, d.nodes[k]? = some o := ⟨_, List.getElem?_eq_getElem hk⟩
    obtain ⟨g, hg⟩ : ∃ g, ls[k]? = some g := ⟨_, List.getElem?_eq_getElem (by omega)⟩
    rw [fAtO ho, fAtL hg]; exact h4 k o g hk ho hg
  · obtain ⟨j, hj⟩ := List.getElem?_of_mem hx
    exact h5 j x (List.getElem?_eq_some_iff.1 hj).1 hj
theorem legs_iff {d : Dia} {t : Ob} {ls : List (List Int)} : legsS d t ls = true ↔ DiaOK d ∧ IsOb t ∧ ls.length = d.nodes.length ∧ (∀ (k : Nat) (o : Ob), d.nodes[k]? = some o → ∃ g, ls[k]? = some g ∧ arrS o t g = true) ∧
    ∀ x ∈ d.arrs, ∃ gf gt, ls[x.fr.toNat]? = some gf ∧ ls[x.to.toNat]? = some gt ∧ thenS x.mp gt = (gf, true) := by
  constructor
  · intro h
    simp only [legsS, Bool.and_eq_true, dia_iff, check_iff, decide_eq_true_eq, List.all_eq_true, List.mem_range] at h
    obtain ⟨h1, h2, h3, h4, h5⟩ := h
    refine ⟨h1, h2, h3, fun k o ho => ?_, fun x hx => ?_⟩
    · have hk := (List.getElem?_eq_some_iff.1 ho).1
      obtain ⟨g, hg⟩ : ∃ g, ls[k]? = some g := ⟨_, List.getElem?_eq_getElem (by omega)⟩
      have := h4 k hk
      rw [fAtO ho, fAtL hg] at this
      exact ⟨g, hg, this⟩
    · obtain ⟨a, b, f0, hA, t0, hB, _⟩ := h1.ar x hx
      have hlA := (List.getElem?_eq_some_iff.1 hA).1
      have hlB := (List.getElem?_eq_some_iff.1 hB).1
      obtain ⟨gf, hgf⟩ : ∃ g, ls[x.fr.toNat]? = some g := ⟨_, List.getElem?_eq_getElem (by omega)⟩
      obtain ⟨gt, hgt⟩ : ∃ g, ls[x.to.toNat]? = some g := ⟨_, List.getElem?_eq_getElem (by omega)⟩
      have := h5 x hx
      simp only [alS, fAtL hgf, fAtL hgt, Bool.and_eq_true, beq_iff_eq] at this
      exact ⟨gf, gt, hgf, hgt, Prod.ext this.2 this.1⟩
  · rintro ⟨h1, h2, h3, h4, h5⟩
    refine lg_ok (dia_iff.2 h1) (check_iff.2 h2) (by omega) (fun j o g _ ho hg => ?_) fun j x _ hx => ?_
    · obtain ⟨g', hg', ha⟩ := h4 j o ho
      rw [hg] at hg'; cases hg'; exact ha
    · obtain ⟨gf, gt, hgf, hgt, ht⟩ := h5 x (List.mem_of_getElem? hx)
      unfold alS; rw [fAtL hgf, fAtL hgt, ht]; simp
theorem col_le40 {d : Dia} (h : bigD d = false) : bsB d.nodes d.nodes.length ≤ 40 := by
  simp only [bigD, Bool.or_eq_false_iff, largeS, decide_eq_false_iff_not, sumT_bs _ _ (Nat.le_refl _)] at h
  omega
abbrev colOb (d : Dia) : Ob := gluedS (bsS d.nodes) (colPl d)
theorem col_cases (d : Dia) : (∃ e : Int, e ≠ 0 ∧ colS d = (noOb, [], e)) ∨ (colS d = (colOb d, colLegs d, 0) ∧ DiaOK d ∧ bsB d.nodes d.nodes.length ≤ 40) := by
  unfold colS
  by_cases h1 : bigD d = true
  · rw [if_pos h1]; exact .inl ⟨11, by decide, rfl⟩
  · rw [if_neg h1]
    by_cases h2 : diaS d = false
    · rw [if_pos h2]; exact .inl ⟨10, by decide, rfl⟩
    · rw [if_neg h2]
      exact .inr ⟨rfl, dia_iff.1 (by simpa using h2), col_le40 (by simpa using h1)⟩
theorem inc_arr {l : List Ob} (hI : ∀ o ∈ l, IsOb o) (hl : bsB l l.length ≤ 40) {k : Nat} {o : Ob} (ho : l[k]? = some o) : arrS o (bsS l) (legT o.labels.length (bsB l k)) = true := by
  have hk := (List.getElem?_eq_some_iff.1 ho).1
  have e1 := bsB_lt ho hk
  refine arr_of (hI o (List.mem_of_getElem? ho)) (bs_ob hI hl _ (Nat.le_refl _)) (legT_len _ _) (fun i y la hy hla => ?_) fun x y hm => ?_
  · have hi := (List.getElem?_eq_some_iff.1 hla).1
    rw [legT_at hi] at hy; cases hy
    have := labs_at ho hk hla
    refine ⟨la, ⟨by omega, ?_⟩, by rw [Int.toNat_natCast]; exact this, rfl⟩
    rw [bsS_lab]; omega
  · obtain ⟨b1, b2⟩ := (hI o (List.mem_of_getElem? ho)).within _ _ hm
    exact ⟨_, _, legT_at b1, legT_at b2, (bs_mx hI _ (Nat.le_refl _) _ _).2 ⟨k, o, x, y, hk, ho, rfl, rfl, hm⟩⟩
section
variable {d : Dia}
theorem DiaOK.legArr (h : DiaOK d) (hl : bsB d.nodes d.nodes.length ≤ 40) {k : Nat} {o : Ob} (ho : d.nodes[k]? = some o) : ∃ g, (colLegs d)[k]? = some g ∧ arrS o (colOb d) g = true := by
  obtain ⟨g, g1, g2, g3, g4⟩ := h.leg hl ho
  refine ⟨g, g1, ?_⟩
  have hpa : arrS (bsS d.nodes) (colOb d) (colPl d) = true := (h.gl hl).arr
  have hinc := inc_arr h.ob hl ho
  have hc := then_arr hinc hpa
  have hpl : (colPl d).length = bsB d.nodes d.nodes.length := (h.gl hl).len
  have ht := thenS_ok (f := legT o.labels.length (bsB d.nodes k)) (g := colPl d) (fun y hy => by have := map_all (arrS_iff.1 hinc).2.2.1 y hy; rw [bsS_lab] at this; omega)
  rw [ht] at g3
  rw [(Prod.mk.inj g3).1] at hc
  exact hc
theorem DiaOK.legs (h : DiaOK d) (hl : bsB d.nodes d.nodes.length ≤ 40) : legsS d (colOb d) (colLegs d) = true := by
  have hg := h.gl hl
  refine legs_iff.2 ⟨h, (arrS_iff.1 hg.arr).2.1, colLegs_len, fun k o ho => h.legArr hl ho, fun x hx => ?_⟩
  obtain ⟨a, b, f0, hA, t0, hB, ha⟩ := h.ar x hx
  obtain ⟨gf, f1, f2, _, f4⟩ := h.leg hl hA
  obtain ⟨gt, t1, t2, _, t4⟩ := h.leg hl hB
  have mm := (arrS_iff.1 ha).2.2.1
  have ml := allY_length mm
  refine ⟨gf, gt, f1, t1, ?_⟩
  rw [thenS_ok fun y hy => by have := map_all mm y hy; omega]
  congr 1
  apply List.ext_getElem?
  intro i
  rw [List.getElem?_map]
  by_cases hi : i < x.mp.length
  · obtain ⟨w, hw⟩ : ∃ w, x.mp[i]? = some w := ⟨_, List.getElem?_eq_getElem hi⟩
    have bw := map_all mm w (List.mem_of_getElem? hw)
    obtain ⟨j, j1, j2⟩ := col_at d hx hw
    have he : (colPl d)[_]? = (colPl d)[_]? := hg.eq j1 j2
    rw [Int.toNat_natCast, show (((bsB d.nodes x.to.toNat : Nat) : Int) + w).toNat = bsB d.nodes x.to.toNat + w.toNat by omega, ← f4 i (by omega), ← t4 w.toNat (by omega)] at he
    rw [hw, he, Option.map_some, List.getD_eq_getElem?_getD, List.getElem?_eq_getElem (show w.toNat < gt.length by omega)]; rfl
  · rw [List.getElem?_eq_none (by omega), List.getElem?_eq_none (by omega)]; rfl
end
end Go.Proofs

open Go Go.V
namespace Go.Proofs
structure DjI (s : Sg) (d : Dia) (t : Ob) (s' : Sg) : Prop where
  b : s'.m s.next = some (.box 62 [.t (tObjs d.nodes), .t (tArs d.arrs)])
  c : s'.m (s.next + 1) = some (.box 25 [.t (tStrs t.labels), .t (tPairs t.pairs)])
  same : ∀ j, j < s.next → s'.m j = s.m j
  nx : s.next + 1 < s'.next
theorem DjI.init (s : Sg) (d : Dia) (t : Ob) : DjI s d t ((s.add (.box 62 [.t (tObjs d.nodes), .t (tArs d.arrs)])).add (.box 25 [.t (tStrs t.labels), .t (tPairs t.pairs)])) :=
  ⟨by rw [m_add, if_neg (by simp only [n_add]; omega), m_add, if_pos rfl], by rw [m_add, if_pos (by simp only [n_add])], fun j hj => by rw [m_add, if_neg (by simp only [n_add]; omega), m_add, if_neg (by omega)], by simp only [n_add]; omega⟩
theorem DjI.add {s : Sg} {d : Dia} {t : Ob} {s' : Sg} (h : DjI s d t s') (B : Blk) : DjI s d t (s'.add B) :=
  ⟨by rw [m_add, if_neg (by have := h.nx; omega)]; exact h.b, by rw [m_add, if_neg (by have := h.nx; omega)]; exact h.c, fun j hj => by rw [m_add, if_neg (by have := h.nx; omega)]; exact h.same j hj, by rw [n_add]; have := h.nx; omega⟩
theorem DjI.set {s : Sg} {d : Dia} {t : Ob} {s' : Sg} (h : DjI s d t s') {x : Nat} (hx : s.next + 1 < x) (B : Blk) : DjI s d t (s'.set x B) :=
  ⟨by rw [m_set, if_neg (by omega)]; exact h.b, by rw [m_set, if_neg (by omega)]; exact h.c, fun j hj => by rw [m_set, if_neg (by omega)]; exact h.same j hj, h.nx⟩
theorem glq40 {d : Dia} (h : DiaOK d) (hl : bsB d.nodes d.nodes.length ≤ 40) : IsOb (colOb d) := (arrS_iff.1 (h.gl hl).arr).2.1
theorem out_cl {d : Dia} (h : DiaOK d) (hl : bsB d.nodes d.nodes.length ≤ 40) {ls : List (List Int)} (hn : ls.length = d.nodes.length) : PCall Tryd.prog 81 [I (colOb d).labels.length, .t (tMat (colLegs d)), .t (tMat ls)] (.t (tInts (outS (colOb d).labels.length (colLegs d) ls))) := by
  have h40 := (glq40 h hl).le
  have hn6 := h.n
  have hb : ∀ l ∈ colLegs d, l.length ≤ 40 ∧ ∀ y ∈ l, 0 ≤ y ∧ y < ((colOb d).labels.length : Int) := fun l hlm => by
    obtain ⟨k, hk⟩ := List.getElem?_of_mem hlm
    have hkl := (List.getElem?_eq_some_iff.1 hk).1
    rw [colLegs_len] at hkl
    obtain ⟨o, ho⟩ : ∃ o, d.nodes[k]? = some o := ⟨_, List.getElem?_eq_getElem hkl⟩
    obtain ⟨g, g1, g2⟩ := h.legArr hl ho
    rw [hk] at g1; cases g1
    have mm := (arrS_iff.1 g2).2.2.1
    have := allY_length mm
    have := (h.ob o (List.mem_of_getElem? ho)).le
    exact ⟨by omega, map_all mm⟩
  have hcl := colLegs_len (d := d)
  exact out_ _ (by omega) (colLegs d) ls (by omega) (by omega) (fun l hlm => by have := (hb l hlm).1; omega) (fun l hlm => (hb l hlm).2)
set_option maxRecDepth 20000 in
set_option maxHeartbeats 8000000 in
theorem legs_ (d : Dia) (L : DiaLim d) (t : Ob) (ls : List (List Int)) (ht1 : t.labels.length < 1000000) (ht2 : t.pairs.length < 1000000) (hl0 : ls.length < 1000000) (hls : ∀ g ∈ ls, g.length < 1000000) : PCall Tryd.prog 51 [vDia d, vObj t, .t (tMat ls)] (Bo (legsS d t ls)) := by
  refine pcall_of_body Tryd.func51 rfl fun s Q hQ => ?_
  obtain ⟨e, he, hl, h0, h1, h2⟩ : ∃ e : Env, ([vDia d, vObj t, .t (tMat ls)] ++ List.replicate (Tryd.f51.ntmps - ([vDia d, vObj t, .t (tMat ls)] : List V).length) .junk) = e ∧ e.length = 77 ∧ ev e (.tmp 0) = vDia d ∧ ev e (.tmp 1) = vObj t ∧ ev e (.tmp 2) = .t (tMat ls) := ⟨_, rfl, rfl, rfl, rfl, rfl⟩
  rw [he]
  clear he
  have Ln := L.n
  have Lm := L.m
  refine vsk fun K1 hK1 => ?_
  refine vw_sc 0 [] ?_
  simp only [bs, ↓vopx, ↓vop, Nat.reduceBEq, thenV, flat, V.cells, h0, h1, wocs, ↓goc, ↓woc, ↓vopm0]
  refine hK1 _ _ ?_
  refine vsk fun K2 hK2 => ?_
  refine vsk fun K3 hK3 => ?_
  rcases (show diaS d = false ∨ (diaS d = true ∧ (checkS t == 0) = false) ∨ (diaS d = true ∧ (checkS t == 0) = true ∧ ¬ (ls.length : Int) = d.nodes.length) ∨ (diaS d = true ∧ (checkS t == 0) = true ∧ (ls.length : Int) = d.nodes.length) by cases diaS d <;> cases (checkS t == 0) <;> simp <;> omega) with r1 | ⟨r1, r2⟩ | ⟨r1, r2, r3⟩ | ⟨r1, r2, r3⟩
  · refine vw_sc 0 [.pur (Bo (diaS d))] ?_
    simp only [bs, Nat.reduceAdd, ↓vopx, ↓vop, Nat.reduceBEq, thenV, flat, Nat.reduceLT, dLoad, vpart, gtmp, hl, wocs, ↓goc, ↓woc, ↓vopm0, ↓callC, ↓pick_tf, calleeV, Tryd.ag62, Tryd.sz62, nns, r1]
    repeat ((with_reducible refine And.intro ?_ ?_); · exact ⟨Tryd.is82, by simpa only [r1] using isDia_ d L⟩)
    refine hK3 _ _ ?_
    refine vck fun A B hA hB => ?_
    simp only [condV, ev_hit, lpv, Nat.reduceLT, true_implies, reduceCtorEq, false_implies, and_true, hl]
    refine hA ?_
    clear hA hB A B
    refine vsk fun K4 hK4 => ?_
    refine vw_sc 0 [] ?_
    simp only [bs, ↓vopx, ↓vop, thenV, flat, wocs, ↓goc, ↓woc, ↓vopm0]
    refine hK4 _ _ ?_
    refine vw_ret ?_
    rw [show legsS d t ls = false from lg_d r1] at hQ
    refine hQ _ _ _ (.inr rfl) (done_tmp ?_ fun n b hn h => by rw [m_add, if_neg (by simp only [n_add]; omega), m_add, if_neg (by omega)]; exact h)
    try simp only [ev_hit, lpv, hl, Nat.reduceLT]
  · refine vw_sc 0 [.pur (Bo (diaS d)), .pur (Bo (checkS t == 0))] ?_
    simp only [bs, Nat.reduceAdd, ↓vopx, ↓vop, Nat.reduceBEq, thenV, flat, Nat.reduceLT, dLoad, vpart, gtmp, hl, wocs, ↓goc, ↓woc, ↓vopm0, ↓callC, ↓pick_ff, ↓pick_tf, calleeV, Tryd.ag25, Tryd.ag62, Tryd.sz25, Tryd.sz62, nns, r1, r2]
    repeat ((with_reducible refine And.intro ?_ ?_); · first | exact ⟨Tryd.is82, by simpa only [r1] using isDia_ d L⟩ | exact ⟨Tryd.is70, by simpa only [r2] using isOb_ t (by omega) (by omega)⟩)
    refine hK3 _ _ ?_
    refine vck fun A B hA hB => ?_
    simp only [condV, ev_hit, lpv, Nat.reduceLT, true_implies, reduceCtorEq, false_implies, and_true, hl]
    refine hA ?_
    clear hA hB A B
    refine vsk fun K5 hK5 => ?_
    refine vw_sc 0 [] ?_
    simp only [bs, ↓vopx, ↓vop, thenV, flat, wocs, ↓goc, ↓woc, ↓vopm0]
    refine hK5 _ _ ?_
    refine vw_ret ?_
    rw [show legsS d t ls = false from lg_t r2] at hQ
    refine hQ _ _ _ (.inr rfl) (done_tmp ?_ fun n b hn h => by rw [m_add, if_neg (by simp only [n_add]; omega), m_add, if_neg (by omega)]; exact h)
    try simp only [ev_hit, lpv, hl, Nat.reduceLT]
  · refine vw_sc 0 [.pur (Bo (diaS d)), .pur (Bo (checkS t == 0))] ?_
    simp only [bs, Nat.reduceAdd, ↓vopx, ↓vop, Nat.reduceBEq, thenV, flat, Nat.reduceLT, dLoad, vpart, opII, gtmp, hl, h2, wocs, ↓goc, ↓woc, ↓vopm0, ↓callC, ↓pick_ff, calleeV, Tryd.ag25, Tryd.ag59, Tryd.ag62, Tryd.fd62_0, Tryd.sz25, Tryd.sz59, Tryd.sz62, Tryd.un59, len_tObjs, len_tMat, nns, r1, r2]
    repeat ((with_reducible refine And.intro ?_ ?_); · first | exact ⟨Tryd.is82, by simpa only [r1] using isDia_ d L⟩ | exact ⟨Tryd.is70, by simpa only [r2] using isOb_ t (by omega) (by omega)⟩)
    refine hK3 _ _ ?_
    refine vck fun A B hA hB => ?_
    simp only [condV, ev_hit, lpv, Nat.reduceLT, bne_iff_ne, bne_eq_false_iff_eq, ne_eq, true_implies, false_implies, and_true, hl, r3, not_false_eq_true, false_implies, true_implies, and_true]
    refine hA ?_
    clear hA hB A B
    refine vsk fun K6 hK6 => ?_
    refine vw_sc 0 [] ?_
    simp only [bs, ↓vopx, ↓vop, thenV, flat, wocs, ↓goc, ↓woc, ↓vopm0]
    refine hK6 _ _ ?_
    refine vw_ret ?_
    rw [show legsS d t ls = false from lg_n r3] at hQ
    refine hQ _ _ _ (.inr rfl) (done_tmp ?_ fun n b hn h => by rw [m_add, if_neg (by simp only [n_add]; omega), m_add, if_neg (by omega)]; exact h)
    try simp only [ev_hit, lpv, hl, Nat.reduceLT]
  · refine vw_sc 0 [.pur (Bo (diaS d)), .pur (Bo (checkS t == 0))] ?_
    simp only [bs, Nat.reduceAdd, ↓vopx, ↓vop, Nat.reduceBEq, thenV, flat, Nat.reduceLT, dLoad, vpart, opII, gtmp, hl, h2, wocs, ↓goc, ↓woc, ↓vopm0, ↓callC, ↓pick_ff, calleeV, Tryd.ag25, Tryd.ag59, Tryd.ag62, Tryd.fd62_0, Tryd.sz25, Tryd.sz59, Tryd.sz62, Tryd.un59, len_tObjs, len_tMat, nns, r1, r2, r3]
    repeat ((with_reducible refine And.intro ?_ ?_); · first | exact ⟨Tryd.is82, by simpa only [r1] using isDia_ d L⟩ | exact ⟨Tryd.is70, by simpa only [r2] using isOb_ t (by omega) (by omega)⟩)
    refine hK3 _ _ ?_
    refine vck fun A B hA hB => ?_
    simp only [condV, ev_hit, lpv, Nat.reduceLT, bne_iff_ne, bne_eq_false_iff_eq, ne_eq, true_implies, false_implies, true_and, hl, not_true_eq_false, false_implies, true_implies, true_and]
    refine hB ?_
    clear hA hB A B
    refine vw_skip ?_
    refine hK2 _ _ ?_
    refine vsk fun K7 hK7 => ?_
    refine vsk fun K8 hK8 => ?_
    refine vw_sc 0 [] ?_
    simp only [bs, ↓vopx, ↓vop, Nat.reduceBEq, thenV, flat, Nat.reduceLT, dLoad, vpart, hl, wocs, ↓goc, ↓woc, ↓vopm0, Tryd.ag59, Tryd.fd62_0, Tryd.sz59, Tryd.un59, len_tObjs, nns]
    refine hK8 _ _ ?_
    refine vw_block ?_
    refine vw_loop (fun mm e' s' => ∃ k : Nat, mm = d.nodes.length - k ∧ k ≤ d.nodes.length ∧ e'.length = 77 ∧ ev e' (.tmp 2) = .t (tMat ls) ∧ ev e' (.tmp 3) = .ptr s.next 0 ∧ ev e' (.tmp 4) = .ptr (s.next + 1) 0 ∧ ev e' (.tmp 30) = .t (tObjs d.nodes) ∧ ev e' (.tmp 31) = I d.nodes.length ∧ ev e' (.tmp 32) = I k ∧ DjI s d t s' ∧ ∀ (j : Nat) (o : Ob) (g : List Int), j < k → d.nodes[j]? = some o → ls[j]? = some g → arrS o t g = true) (⟨0, rfl, Nat.zero_le _, ?_⟩) ?_
    · try simp only [ev_hit, ev_miss, Nat.reduceBEq, lpv, hl, h2, Nat.reduceLT, true_and]
      repeat ((with_reducible refine And.intro ?_ ?_); · trivial)
      exact ⟨DjI.init s d t, fun j o g hj _ _ => absurd hj (by omega)⟩
    rintro mm e s1 ⟨k, rfl, hle_k, hl, k2, k3, k4, k30, k31, h_k, hst, hal1⟩
    refine vsk fun K9 hK9 => ?_
    refine vw_sc 0 [] ?_
    simp only [thenV, opII, k31, h_k, wocs, ↓goc, ↓woc]
    refine hK9 _ _ ?_
    refine vsk fun K10 hK10 => ?_
    refine vck fun A B hA hB => ?_
    simp only [condV, ev_hit, Nat.reduceLT, decide_eq_true_eq, decide_eq_false_iff_not, hl]
    refine ⟨fun hc33 => hA ?_, fun hc33 => hB ?_⟩
    · clear hA hB A B
      refine vw_skip ?_
      refine hK10 _ _ ?_
      refine vsk fun K11 hK11 => ?_
      refine vw_block ?_
      refine vsk fun K12 hK12 => ?_
      have hlt : k < d.nodes.length := by omega
      obtain ⟨o, ho⟩ : ∃ o, d.nodes[k]? = some o := ⟨_, List.getElem?_eq_getElem hlt⟩
      have g0 := dropO ho
      have hfl := flatO_length d.nodes
      have hi2 : k * 2 < d.nodes.length * 2 := by omega
      refine vw_sc 0 [] ?_
      simp only [bs, Nat.reduceAdd, ↓vopx, ↓vop, Nat.reduceBEq, thenV, Nat.reduceLT, V.cells, dLoad, vpart, hl, k30, h_k, wocs, ↓goc, ↓woc, ↓vopm0, Tryd.ag25, Tryd.sz25, Tryd.un59, Tryd.zv25, g0, hfl, hi2]
      refine hK12 _ _ ?_
      refine vsk fun K13 hK13 => ?_
      refine vw_env2 fun e2 sb hE2 hSb => ?_
      subst hE2
      have hIb : DjI s d t sb := by rw [hSb]; exact (hst.add _).set hst.nx _
      have hbx : sb.m s1.next = some (.box 25 [.t (tStrs o.labels), .t (tPairs o.pairs)]) := by rw [hSb]; simp only [m_set, if_true]; try rfl
      clear hSb
      have hbt := hIb.c
      have o1 := L.o1 o (List.mem_of_getElem? ho)
      have o2 := L.o2 o (List.mem_of_getElem? ho)
      obtain ⟨g, hg⟩ : ∃ g, ls[k]? = some g := ⟨_, List.getElem?_eq_getElem (by omega)⟩
      have hgl := hls g (List.mem_of_getElem? hg)
      refine vw_chain Tryd.mixed 6 [1, 1, 0, 0, 1, 1] [.pur (Bo (arrS o t g))] [] 0 (by decide +kernel) (by simp [lpv, hl]) rfl ?_
      simp only [bs, Nat.reduceAdd, ↓vopx, ↓vop, Nat.reduceBEq, thenV, Nat.reduceLT, dLoad, vpart, hl, k2, k4, wocs, ↓goc, ↓woc, ↓vopm0, ↓vopm1, ↓callC, calleeV, chn, ↓goq, ↓woq, List.zip_cons_cons, List.zip_nil_right, Tryd.ag25, Tryd.ag26, Tryd.sz25, Tryd.sz26, Tryd.un63, hbx, hbt, hg]
      repeat ((with_reducible refine And.intro ?_ ?_); · first | omega | exact ⟨Tryd.is34, arrow_ o t g (by omega) (by omega) (by omega) (by omega) (by omega)⟩)
      refine hK13 _ _ ?_
      refine vck fun A B hA hB => ?_
      simp only [condV, ev_hit, lpv, Nat.reduceLT, Bool.not_eq_true', Bool.not_eq_false', hl]
      refine ⟨fun hc44 => hA ?_, fun hc44 => hB ?_⟩
      · clear hA hB A B
        refine vsk fun K14 hK14 => ?_
        refine vw_sc 0 [] ?_
        simp only [bs, ↓vopx, ↓vop, thenV, flat, wocs, ↓goc, ↓woc, ↓vopm0]
        refine hK14 _ _ ?_
        refine vw_ret ?_
        rw [show legsS d t ls = false from lg_o ho hg hc44] at hQ
        refine hQ _ _ _ (.inr rfl) (done_tmp ?_ fun n b hn h => (hIb.same n hn).trans h)
        try simp only [ev_hit, lpv, hl, Nat.reduceLT]
      · clear hA hB A B
        refine vw_skip ?_
        refine hK11 _ _ ?_
        refine vw_sc 0 [] ?_
        simp only [bs, ↓vopx, ↓vop, Nat.reduceBEq, thenV, flat, Nat.reduceLT, opII, hl, k2, k3, k4, k30, k31, h_k, wocs, ↓goc, ↓woc, ↓vopm0]
        repeat ((with_reducible refine And.intro ?_ ?_); · exact ⟨by omega, by omega⟩)
        refine ⟨d.nodes.length - (k + 1), by omega, k + 1, rfl, by omega, ?_⟩
        try simp only [ev_hit, ev_miss, Nat.reduceBEq, lpv, hl, k2, k3, k4, k30, k31, h_k, if_true, if_false, Nat.reduceEqDiff, Nat.reduceLT, true_and, and_true]
        repeat ((with_reducible refine And.intro ?_ ?_); · trivial)
        intro j o2 g2 hj ho2 hg2
        rcases Nat.lt_succ_iff_lt_or_eq.1 hj with h | h
        · exact hal1 j o2 g2 h ho2 hg2
        · subst h; rw [ho] at ho2; cases ho2; rw [hg] at hg2; cases hg2; exact hc44
    · clear hA hB A B
      have hka : k = d.nodes.length := by omega
      refine vw_exit ?_
      simp only [thenV, blockV, if_true]
      refine hK7 _ _ ?_
      refine vsk fun K15 hK15 => ?_
      refine vsk fun K16 hK16 => ?_
      have hb62 := hst.b
      refine vw_sc 0 [] ?_
      simp only [bs, ↓vopx, ↓vop, Nat.reduceBEq, thenV, flat, Nat.reduceLT, dLoad, vpart, hl, k3, wocs, ↓goc, ↓woc, ↓vopm0, Tryd.ag60, Tryd.fd62_1, Tryd.sz60, Tryd.un60, len_tArs, nns, hb62]
      refine hK16 _ _ ?_
      refine vw_block ?_
      refine vw_loop (fun mm e' s' => ∃ k : Nat, mm = d.arrs.length - k ∧ k ≤ d.arrs.length ∧ e'.length = 77 ∧ ev e' (.tmp 2) = .t (tMat ls) ∧ ev e' (.tmp 3) = .ptr s.next 0 ∧ ev e' (.tmp 4) = .ptr (s.next + 1) 0 ∧ ev e' (.tmp 47) = .t (tArs d.arrs) ∧ ev e' (.tmp 48) = I d.arrs.length ∧ ev e' (.tmp 49) = I k ∧ DjI s d t s' ∧ ∀ (j : Nat) (x : Ar), j < k → d.arrs[j]? = some x → alS d ls x = true) (⟨0, rfl, Nat.zero_le _, ?_⟩) ?_
      · try simp only [ev_hit, ev_miss, Nat.reduceBEq, lpv, hl, k2, k3, k4, Nat.reduceLT, true_and]
        repeat ((with_reducible refine And.intro ?_ ?_); · trivial)
        exact fun j x hj _ => absurd hj (by omega)
      rintro mm e s1 ⟨k, rfl, hle_k, hl, q2, q3, q4, q47, q48, h_k, hst, hal2⟩
      refine vsk fun K17 hK17 => ?_
      refine vw_sc 0 [] ?_
      simp only [thenV, opII, q48, h_k, wocs, ↓goc, ↓woc]
      refine hK17 _ _ ?_
      refine vsk fun K18 hK18 => ?_
      refine vck fun A B hA hB => ?_
      simp only [condV, ev_hit, Nat.reduceLT, decide_eq_true_eq, decide_eq_false_iff_not, hl]
      refine ⟨fun hc50 => hA ?_, fun hc50 => hB ?_⟩
      · clear hA hB A B
        refine vw_skip ?_
        refine hK18 _ _ ?_
        refine vsk fun K19 hK19 => ?_
        refine vw_block ?_
        refine vsk fun K20 hK20 => ?_
        have hlt : k < d.arrs.length := by omega
        obtain ⟨x, hx⟩ : ∃ x, d.arrs[k]? = some x := ⟨_, List.getElem?_eq_getElem hlt⟩
        have g0 := dropA hx
        have hfl := flatA_length d.arrs
        have hi2 : k * 3 < d.arrs.length * 3 := by omega
        refine vw_sc 0 [] ?_
        simp only [bs, Nat.reduceAdd, ↓vopx, ↓vop, Nat.reduceBEq, thenV, Nat.reduceLT, V.cells, dLoad, vpart, hl, q47, h_k, wocs, ↓goc, ↓woc, ↓vopm0, Tryd.ag72, Tryd.sz72, Tryd.un60, Tryd.zv72, g0, hfl, hi2]
        refine hK20 _ _ ?_
        refine vsk fun K21 hK21 => ?_
        refine vw_env2 fun e2 sb hE2 hSb => ?_
        subst hE2
        have hIb : DjI s d t sb := by rw [hSb]; exact (hst.add _).set hst.nx _
        have hbx : sb.m s1.next = some (.box 72 [.t (TI x.fr), .t (TI x.to), .t (tInts x.mp)]) := by rw [hSb]; simp only [m_set, if_true]; try rfl
        clear hSb
        have la := L.a x (List.mem_of_getElem? hx)
        obtain ⟨a, b, f0, hA, t0, hB, hab⟩ := (dia_iff.1 r1).ar x (List.mem_of_getElem? hx)
        have hlA := (List.getElem?_eq_some_iff.1 hA).1
        have hlB := (List.getElem?_eq_some_iff.1 hB).1
        obtain ⟨gf, hgf⟩ : ∃ g, ls[x.fr.toNat]? = some g := ⟨_, List.getElem?_eq_getElem (by omega)⟩
        obtain ⟨gt, hgt⟩ : ∃ g, ls[x.to.toNat]? = some g := ⟨_, List.getElem?_eq_getElem (by omega)⟩
        have hgtl := hls gt (List.mem_of_getElem? hgt)
        have hgfl := hls gf (List.mem_of_getElem? hgf)
        have hal : alS d ls x = ((thenS x.mp gt).2 && ((thenS x.mp gt).1 == gf)) := by unfold alS; rw [fAtL hgf, fAtL hgt]
        have htl := thenS_le x.mp gt
        refine vw_chain Tryd.mixed 12 [0, 1, 0, 0, 1, 1, 1, 0, 0, 0, 0, 0] [.pur (.tup [.t (tInts (thenS x.mp gt).1), Bo (thenS x.mp gt).2])] [] 0 (by decide +kernel) (by simp [lpv, hl]) rfl ?_
        simp only [bs, ↓vopx, ↓vop, Nat.reduceBEq, thenV, Nat.reduceLT, dLoad, vpart, hl, q2, wocs, ↓goc, ↓woc, ↓vopm0, ↓vopm1, calleeV, chn, ↓goq, ↓woq, ↓callQ, List.zip_cons_cons, List.zip_nil_right, Tryd.ag26, Tryd.ag3, Tryd.fd72_1, Tryd.fd72_2, Tryd.sz26, Tryd.sz3, Tryd.un63, nns, hbx, hgt]
        repeat ((with_reducible refine And.intro ?_ ?_); · first | (with_reducible assumption) | omega | exact ⟨Tryd.is32, then_ x.mp gt (by omega) (by omega)⟩)
        refine hK21 _ _ ?_
        refine vsk fun K22 hK22 => ?_
        rcases (show (thenS x.mp gt).2 = false ∨ (thenS x.mp gt).2 = true by cases (thenS x.mp gt).2 <;> simp) with r4 | r4
        · refine vw_sc 0 [] ?_
          simp only [bs, ↓vopx, ↓vop, Nat.reduceBEq, thenV, flat, Nat.reduceLT, gtmp, hl, wocs, ↓goc, ↓woc, ↓vopm0, ↓pick_tf, r4]
          refine hK22 _ _ ?_
          refine vck fun A B hA hB => ?_
          simp only [condV, ev_hit, lpv, Nat.reduceLT, true_implies, reduceCtorEq, false_implies, and_true, hl]
          refine hA ?_
          clear hA hB A B
          refine vsk fun K23 hK23 => ?_
          refine vw_sc 0 [] ?_
          simp only [bs, ↓vopx, ↓vop, thenV, flat, wocs, ↓goc, ↓woc, ↓vopm0]
          refine hK23 _ _ ?_
          refine vw_ret ?_
          rw [show legsS d t ls = false from lg_a hx (by rw [hal, r4]; rfl)] at hQ
          refine hQ _ _ _ (.inr rfl) (done_tmp ?_ fun n b hn h => (hIb.same n hn).trans h)
          try simp only [ev_hit, lpv, hl, Nat.reduceLT]
        · refine vw_sc 0 [.pur (Bo ((thenS x.mp gt).1 == gf))] ?_
          simp only [bs, ↓vopx, ↓vop, Nat.reduceBEq, thenV, flat, Nat.reduceLT, dLoad, vpart, gtmp, hl, q2, wocs, ↓goc, ↓woc, ↓vopm0, ↓callC, ↓pick_ff, calleeV, Tryd.ag26, Tryd.ag3, Tryd.fd72_0, Tryd.sz26, Tryd.sz3, Tryd.un63, nns, hbx, hgf, r4]
          repeat ((with_reducible refine And.intro ?_ ?_); · first | (with_reducible assumption) | omega | exact ⟨Tryd.is33, arrowSame_ (thenS x.mp gt).1 gf (by omega) (by omega)⟩)
          refine hK22 _ _ ?_
          refine vck fun A B hA hB => ?_
          simp only [condV, ev_hit, lpv, Nat.reduceLT, Bool.not_eq_true', Bool.not_eq_false', beq_iff_eq, beq_eq_false_iff_ne, ne_eq, hl]
          refine ⟨fun hc75 => hA ?_, fun hc75 => hB ?_⟩
          · clear hA hB A B
            refine vsk fun K24 hK24 => ?_
            refine vw_sc 0 [] ?_
            simp only [bs, ↓vopx, ↓vop, thenV, flat, wocs, ↓goc, ↓woc, ↓vopm0]
            refine hK24 _ _ ?_
            refine vw_ret ?_
            rw [show legsS d t ls = false from lg_a hx (by rw [hal, r4]; simp [hc75])] at hQ
            refine hQ _ _ _ (.inr rfl) (done_tmp ?_ fun n b hn h => (hIb.same n hn).trans h)
            try simp only [ev_hit, lpv, hl, Nat.reduceLT]
          · clear hA hB A B
            refine vw_skip ?_
            refine hK19 _ _ ?_
            refine vw_sc 0 [] ?_
            simp only [bs, ↓vopx, ↓vop, Nat.reduceBEq, thenV, flat, Nat.reduceLT, opII, hl, q2, q3, q4, q47, q48, h_k, wocs, ↓goc, ↓woc, ↓vopm0]
            repeat ((with_reducible refine And.intro ?_ ?_); · exact ⟨by omega, by omega⟩)
            refine ⟨d.arrs.length - (k + 1), by omega, k + 1, rfl, by omega, ?_⟩
            try simp only [ev_hit, ev_miss, Nat.reduceBEq, lpv, hl, q2, q3, q4, q47, q48, h_k, if_true, if_false, Nat.reduceEqDiff, Nat.reduceLT, true_and, and_true]
            repeat ((with_reducible refine And.intro ?_ ?_); · trivial)
            intro j x2 hj hx2
            rcases Nat.lt_succ_iff_lt_or_eq.1 hj with h | h
            · exact hal2 j x2 h hx2
            · subst h; rw [hx] at hx2; cases hx2; rw [hal, r4]; simp [hc75]
      · clear hA hB A B
        have hkb : k = d.arrs.length := by omega
        refine vw_exit ?_
        simp only [thenV, blockV, if_true]
        refine hK15 _ _ ?_
        refine vsk fun K25 hK25 => ?_
        refine vw_sc 0 [] ?_
        simp only [bs, ↓vopx, ↓vop, thenV, flat, wocs, ↓goc, ↓woc, ↓vopm0]
        refine hK25 _ _ ?_
        refine vw_ret ?_
        rw [lg_ok r1 r2 r3 (by rw [← hka]; exact hal1) (by rw [← hkb]; exact hal2)] at hQ
        refine hQ _ _ _ (.inr rfl) (done_tmp ?_ fun n b hn h => (hst.same n hn).trans h)
        try simp only [ev_hit, lpv, hl, Nat.reduceLT]
set_option maxRecDepth 20000 in
set_option maxHeartbeats 8000000 in
theorem mediateD_ (d : Dia) (L : DiaLim d) (hp2 : ∀ o ∈ d.nodes, o.pairs.length ≤ 1000) (t : Ob) (ls : List (List Int)) (ht1 : t.labels.length < 1000000) (ht2 : t.pairs.length < 1000000) (hl0 : ls.length < 1000000) (hls : ∀ g ∈ ls, g.length < 1000000) : PCall Tryd.prog 49 [vDia d, vObj t, .t (tMat ls)] (vMed (medD d t ls)) := by
  refine pcall_of_body Tryd.func49 rfl fun s Q hQ => ?_
  obtain ⟨e, he, hl, h0, h1, h2⟩ : ∃ e : Env, ([vDia d, vObj t, .t (tMat ls)] ++ List.replicate (Tryd.f49.ntmps - ([vDia d, vObj t, .t (tMat ls)] : List V).length) .junk) = e ∧ e.length = 38 ∧ ev e (.tmp 0) = vDia d ∧ ev e (.tmp 1) = vObj t ∧ ev e (.tmp 2) = .t (tMat ls) := ⟨_, rfl, rfl, rfl, rfl, rfl⟩
  rw [he]
  clear he
  refine vsk fun K1 hK1 => ?_
  refine vw_sc 0 [] ?_
  simp only [bs, ↓vopx, ↓vop, Nat.reduceBEq, thenV, flat, V.cells, h0, h1, wocs, ↓goc, ↓woc, ↓vopm0]
  refine hK1 _ _ ?_
  refine vsk fun K2 hK2 => ?_
  refine vw_en fun eqa hE => ?_
  have hlqa : eqa.length = 38 := by rw [hE]; simp only [lpv, hl]
  have qa_2 : ev eqa (.tmp 2) = .t (tMat ls) := by rw [hE]; simp only [ev_miss, Nat.reduceBEq, h2]
  have qa_3 : ev eqa (.tmp 3) = .ptr s.next 0 := by rw [hE]; simp only [ev_hit, ev_miss, Nat.reduceBEq, hl, Nat.reduceLT]
  have qa_4 : ev eqa (.tmp 4) = .ptr (s.next + 1) 0 := by rw [hE]; simp only [ev_hit, ev_miss, Nat.reduceBEq, lpv, hl, Nat.reduceLT]
  clear hE
  refine vw_st fun sqa hS => ?_
  have qaB0 : sqa.m (s.next) = some (.box 62 [.t (tObjs d.nodes), .t (tArs d.arrs)]) := by rw [hS]; simp only [m_add, n_add, nns, if_true, if_false, ]
  have qaB1 : sqa.m (s.next + 1) = some (.box 25 [.t (tStrs t.labels), .t (tPairs t.pairs)]) := by rw [hS]; simp only [m_add, n_add, nns, if_true, if_false, ]
  have hnqa : sqa.next = s.next + 1 + 1 := by rw [hS]; simp only [n_add, ]
  have hkqa : ∀ j, j < s.next → sqa.m j = s.m j := fun j hj => by have z0 : ¬ j = s.next := (by omega); have z1 : ¬ j = s.next + 1 := (by omega); rw [hS]; simp only [m_add, n_add, z0, z1, if_false]
  clear hS
  obtain ⟨q, own, ec, hR⟩ : ∃ q own ec, colS d = (q, own, ec) := ⟨_, _, _, rfl⟩
  have hcs := col_cases d
  have hm0 : medD d t ls = if ec ≠ 0 then ([], ec) else if 40 < t.labels.length then ([], 11) else if legsS d t ls = false then ([], 12) else (outS q.labels.length own ls, 0) := by unfold medD; rw [hR]
  rw [hR] at hcs
  refine vw_sc 0 [.pur (.tup [vObj q, .t (tMat own), I ec])] ?_
  simp only [bs, Nat.reduceAdd, ↓vopx, ↓vop, Nat.reduceBEq, thenV, Nat.reduceLT, V.cells, dLoad, vpart, hlqa, qa_3, qaB0, hnqa, wocs, ↓goc, ↓woc, ↓vopm0, ↓callC, calleeV, Tryd.ag62, Tryd.sz25, Tryd.sz62, Tryd.zv25]
  repeat ((with_reducible refine And.intro ?_ ?_); · exact ⟨Tryd.is50, by have := colOf_ d L hp2; rw [hR] at this; exact this⟩)
  refine hK2 _ _ ?_
  refine vsk fun K3 hK3 => ?_
  refine vw_block ?_
  refine vsk fun K4 hK4 => ?_
  refine vw_en fun eqb hE => ?_
  have hlqb : eqb.length = 38 := by rw [hE]; simp only [lpv, hlqa]
  have qb_2 : ev eqb (.tmp 2) = .t (tMat ls) := by rw [hE]; simp only [ev_miss, Nat.reduceBEq, qa_2]
  have qb_3 : ev eqb (.tmp 3) = .ptr s.next 0 := by rw [hE]; simp only [ev_miss, Nat.reduceBEq, qa_3]
  have qb_4 : ev eqb (.tmp 4) = .ptr (s.next + 1) 0 := by rw [hE]; simp only [ev_miss, Nat.reduceBEq, qa_4]
  have qb_8 : ev eqb (.tmp 8) = .ptr (s.next + 1 + 1) 0 := by rw [hE]; simp only [ev_hit, ev_miss, Nat.reduceBEq, lpv, hlqa, Nat.reduceLT]
  have qb_9 : ev eqb (.tmp 9) = .t (tMat own) := by rw [hE]; simp only [ev_hit, ev_miss, Nat.reduceBEq, lpv, hlqa, Nat.reduceLT]
  have qb_10 : ev eqb (.tmp 10) = I ec := by rw [hE]; simp only [ev_hit, lpv, hlqa, Nat.reduceLT]
  clear hE
  refine vw_st fun sqb hS => ?_
  have qbB0 : sqb.m (s.next) = some (.box 62 [.t (tObjs d.nodes), .t (tArs d.arrs)]) := by rw [hS]; simp only [m_set, m_add, nns, if_false, qaB0, hnqa]
  have qbB1 : sqb.m (s.next + 1) = some (.box 25 [.t (tStrs t.labels), .t (tPairs t.pairs)]) := by rw [hS]; simp only [m_set, m_add, nns, if_false, qaB1, hnqa]
  have qbB2 : sqb.m (s.next + 1 + 1) = some (.box 25 [.t (tStrs q.labels), .t (tPairs q.pairs)]) := by rw [hS]; simp only [m_set, m_add, if_true, hnqa]
  have hnqb : sqb.next = s.next + 1 + 1 + 1 := by rw [hS]; simp only [n_add, n_set, hnqa]
  have hkqb : ∀ j, j < s.next → sqb.m j = s.m j := fun j hj => by have z0 : ¬ j = s.next := (by omega); have z1 : ¬ j = s.next + 1 := (by omega); have z2 : ¬ j = s.next + 1 + 1 := (by omega); rw [hS]; simp only [m_set, m_add, hnqa, z2, if_false, hkqa j hj]
  clear hS
  rcases hcs with ⟨e, he0, hcs⟩ | ⟨hcs, hD, h40⟩
  · obtain ⟨rfl, rfl, rfl⟩ : q = noOb ∧ own = [] ∧ ec = e := by simpa only [Prod.mk.injEq] using hcs
    refine vw_sc 0 [] ?_
    simp only [bs, ↓vopx, ↓vop, thenV, flat, Nat.reduceLT, opII, hlqb, qb_10, wocs, ↓goc, ↓woc, ↓vopm0]
    refine hK4 _ _ ?_
    refine vck fun A B hA hB => ?_
    simp only [condV, ev_hit, lpv, Nat.reduceLT, bne_iff_ne, bne_eq_false_iff_eq, ne_eq, true_implies, false_implies, and_true, hlqb, he0, not_false_eq_true]
    refine hA ?_
    clear hA hB A B
    refine vsk fun K5 hK5 => ?_
    refine vw_sc 0 [] ?_
    simp only [bs, ↓vopx, ↓vop, Nat.reduceBEq, thenV, flat, Nat.reduceLT, hlqb, qb_10, wocs, ↓goc, ↓woc, ↓vopm0]
    refine hK5 _ _ ?_
    refine vw_ret ?_
    rw [show medD d t ls = ([], ec) from by rw [hm0, if_pos he0]] at hQ
    refine hQ _ _ _ (.inr rfl) (done_nil_pair (by omega) ?_ ?_ fun n b hn h => (hkqb n hn).trans h)
    · simp only [ev_hit, ev_miss, Nat.reduceBEq, lpv, hlqb, Nat.reduceLT]
    · simp only [ev_hit, lpv, hlqb, Nat.reduceLT]; try rfl
  · obtain ⟨rfl, rfl, rfl⟩ : q = colOb d ∧ own = colLegs d ∧ ec = 0 := by simpa only [Prod.mk.injEq] using hcs
    refine vw_sc 0 [] ?_
    simp only [bs, ↓vopx, ↓vop, thenV, flat, Nat.reduceLT, opII, hlqb, qb_10, wocs, ↓goc, ↓woc, ↓vopm0]
    refine hK4 _ _ ?_
    refine vck fun A B hA hB => ?_
    simp only [condV, ev_hit, lpv, Nat.reduceLT, bne_iff_ne, bne_eq_false_iff_eq, ne_eq, true_implies, false_implies, true_and, hlqb, not_true_eq_false]
    refine hB ?_
    clear hA hB A B
    refine vsk fun K6 hK6 => ?_
    rcases (show (t.labels.length : Int) > 40 ∨ ¬ (t.labels.length : Int) > 40 by omega) with hd0 | hd0
    · refine vw_sc 0 [] ?_
      simp only [bs, ↓vopx, ↓vop, Nat.reduceBEq, thenV, flat, Nat.reduceLT, dLoad, vpart, opII, hlqb, qb_4, qbB1, wocs, ↓goc, ↓woc, ↓vopm0, Tryd.ag22, Tryd.fd25_0, Tryd.sz22, Tryd.un22, len_tStrs, nns, hd0]
      refine hK6 _ _ ?_
      refine vck fun A B hA hB => ?_
      simp only [condV, ev_hit, lpv, Nat.reduceLT, true_implies, reduceCtorEq, false_implies, and_true, hlqb]
      refine hA ?_
      clear hA hB A B
      refine vsk fun K7 hK7 => ?_
      refine vw_sc 0 [] ?_
      simp only [bs, ↓vopx, ↓vop, thenV, flat, wocs, ↓goc, ↓woc, ↓vopm0]
      refine hK7 _ _ ?_
      refine vw_ret ?_
      rw [show medD d t ls = ([], 11) from by rw [hm0, if_neg (by simp), if_pos (by omega)]] at hQ
      refine hQ _ _ _ (.inr rfl) (done_nil_pair (by omega) ?_ ?_ fun n b hn h => (hkqb n hn).trans h)
      · simp only [ev_hit, ev_miss, Nat.reduceBEq, lpv, hlqb, Nat.reduceLT]
      · simp only [ev_hit, lpv, hlqb, Nat.reduceLT]; try rfl
    · refine vw_sc 0 [] ?_
      simp only [bs, ↓vopx, ↓vop, Nat.reduceBEq, thenV, flat, Nat.reduceLT, dLoad, vpart, opII, hlqb, qb_4, qbB1, wocs, ↓goc, ↓woc, ↓vopm0, Tryd.ag22, Tryd.fd25_0, Tryd.sz22, Tryd.un22, len_tStrs, nns, hd0]
      refine hK6 _ _ ?_
      refine vck fun A B hA hB => ?_
      simp only [condV, ev_hit, lpv, Nat.reduceLT, true_implies, reduceCtorEq, false_implies, true_and, hlqb]
      refine hB ?_
      clear hA hB A B
      refine vsk fun K8 hK8 => ?_
      rcases (show legsS d t ls = false ∨ legsS d t ls = true by cases legsS d t ls <;> simp) with hc0 | hc0
      · refine vw_sc 0 [.pur (Bo (legsS d t ls))] ?_
        simp only [bs, Nat.reduceAdd, ↓vopx, ↓vop, Nat.reduceBEq, thenV, Nat.reduceLT, dLoad, vpart, hlqb, qb_2, qb_3, qb_4, qbB0, qbB1, wocs, ↓goc, ↓woc, ↓vopm0, ↓callC, calleeV, Tryd.ag25, Tryd.ag62, Tryd.sz25, Tryd.sz62, hc0]
        repeat ((with_reducible refine And.intro ?_ ?_); · exact ⟨Tryd.is51, by simpa only [hc0] using legs_ d L t ls ht1 ht2 hl0 hls⟩)
        refine hK8 _ _ ?_
        refine vck fun A B hA hB => ?_
        simp only [condV, ev_hit, lpv, Nat.reduceLT, true_implies, reduceCtorEq, false_implies, and_true, hlqb]
        refine hA ?_
        clear hA hB A B
        refine vsk fun K9 hK9 => ?_
        refine vw_sc 0 [] ?_
        simp only [bs, ↓vopx, ↓vop, thenV, flat, wocs, ↓goc, ↓woc, ↓vopm0]
        refine hK9 _ _ ?_
        refine vw_ret ?_
        rw [show medD d t ls = ([], 12) from by rw [hm0, if_neg (by simp), if_neg (by omega), if_pos hc0]] at hQ
        refine hQ _ _ _ (.inr rfl) (done_nil_pair (by omega) ?_ ?_ fun n b hn h => (hkqb n hn).trans h)
        · simp only [ev_hit, ev_miss, Nat.reduceBEq, lpv, hlqb, Nat.reduceLT]
        · simp only [ev_hit, lpv, hlqb, Nat.reduceLT]; try rfl
      · refine vw_sc 0 [.pur (Bo (legsS d t ls))] ?_
        simp only [bs, Nat.reduceAdd, ↓vopx, ↓vop, Nat.reduceBEq, thenV, Nat.reduceLT, dLoad, vpart, hlqb, qb_2, qb_3, qb_4, qbB0, qbB1, wocs, ↓goc, ↓woc, ↓vopm0, ↓callC, calleeV, Tryd.ag25, Tryd.ag62, Tryd.sz25, Tryd.sz62, hc0]
        repeat ((with_reducible refine And.intro ?_ ?_); · exact ⟨Tryd.is51, by simpa only [hc0] using legs_ d L t ls ht1 ht2 hl0 hls⟩)
        refine hK8 _ _ ?_
        refine vck fun A B hA hB => ?_
        simp only [condV, ev_hit, lpv, Nat.reduceLT, true_implies, reduceCtorEq, false_implies, true_and, hlqb]
        refine hB ?_
        clear hA hB A B
        refine vw_skip ?_
        refine hK3 _ _ ?_
        refine vsk fun K10 hK10 => ?_
        have hob := glq40 hD h40
        refine vw_sc 0 [.pur (.t (tInts (outS (colOb d).labels.length (colLegs d) ls)))] ?_
        simp only [bs, ↓vopx, ↓vop, Nat.reduceBEq, thenV, flat, Nat.reduceLT, dLoad, vpart, hlqb, qb_2, qb_8, qb_9, qbB2, wocs, ↓goc, ↓woc, ↓vopm0, ↓callC, calleeV, Tryd.ag22, Tryd.fd25_0, Tryd.sz22, Tryd.un22, len_tStrs, nns]
        repeat ((with_reducible refine And.intro ?_ ?_); · exact ⟨Tryd.is81, out_cl hD h40 (legs_iff.1 hc0).2.2.1⟩)
        refine hK10 _ _ ?_
        refine vw_ret ?_
        rw [show medD d t ls = (outS (colOb d).labels.length (colLegs d) ls, 0) from by rw [hm0, if_neg (by simp), if_neg (by omega), if_neg (by rw [hc0]; simp)]] at hQ
        refine hQ _ _ _ (.inr rfl) (done_pair ?_ ?_ fun n b hn h => (hkqb n hn).trans h)
        · simp only [ev_hit, ev_miss, Nat.reduceBEq, lpv, hlqb, Nat.reduceLT]
        · simp only [ev_hit, lpv, hlqb, Nat.reduceLT]; try rfl
end Go.Proofs

open Go Go.V
namespace Go.Proofs
abbrev k7x : ByteArray := ⟨#[120]⟩
abbrev k7y : ByteArray := ⟨#[121]⟩
abbrev k7z : ByteArray := ⟨#[122]⟩
abbrev k7A : Ob := ⟨[k7x], []⟩
abbrev k7B : Ob := ⟨[k7x, k7y], [(0, 1)]⟩
abbrev k7C : Ob := ⟨[k7z, k7x], [(0, 1)]⟩
end Go.Proofs

open Go Go.V
namespace Go.Proofs
def q7 : Ob × List Int × List Int × Int := pushS k7A k7B k7C [0] [0]
theorem vw_en {P : Program} {c : Code} {Q : Exit → Env → Sg → Prop} {e : Env} {s : Sg} (h : ∀ e1, e1 = e → VW P c Q e1 s) : VW P c Q e s := h e rfl
end Go.Proofs

open Go Go.V
namespace Go.Proofs
abbrev k9D : Dia := ⟨[k7A, k7A, k7A], [⟨0, 1, [0]⟩]⟩
abbrev k9Q : Ob := ⟨[k7x, k7x], []⟩
theorem k9_c : (colS k9D).1.labels = [k7x, k7x] ∧ (colS k9D).1.pairs = [] ∧ (colS k9D).2.1 = [[0], [0], [1]] ∧ (colS k9D).2.2 = 0 := by decide +kernel
theorem k9_m1 : medD k9D k7A [[0], [0], [0]] = ([0, 0], 0) := by decide +kernel
theorem k9_m2 : medD k9D k7A [[0], [0]] = ([], 12) := by decide +kernel
theorem k9_d : diaS k9D = true := by decide +kernel
theorem k9_l : legsS k9D k9Q [[0], [0], [1]] = true := by decide +kernel
theorem k9_lim : DiaLim k9D := ⟨by decide, by decide, by decide, by decide, by decide⟩
theorem k9_lim2 : ∀ o ∈ k9D.nodes, o.pairs.length ≤ 1000 := by decide
theorem kc9_of : PCall Tryd.prog 50 [vDia k9D] (.tup [vObj k9Q, .t (tMat [[0], [0], [1]]), I 0]) := by
  have h := colOf_ k9D k9_lim k9_lim2
  have e : colS k9D = (k9Q, [[0], [0], [1]], 0) := by
    obtain ⟨h1, h2, h3, h4⟩ := k9_c
    generalize colS k9D = r at h1 h2 h3 h4
    obtain ⟨⟨a, b⟩, c, e⟩ := r
    simp only at h1 h2 h3 h4
    rw [h1, h2, h3, h4]
  rw [e] at h
  exact h
theorem kc9_m1 : PCall Tryd.prog 49 [vDia k9D, vObj k7A, .t (tMat [[0], [0], [0]])] (.tup [.t (tInts [0, 0]), I 0]) := by
  have h := mediateD_ k9D k9_lim k9_lim2 k7A [[0], [0], [0]] (by decide) (by decide) (by decide) (by decide)
  rw [k9_m1] at h
  exact h
theorem kc9_m2 : PCall Tryd.prog 49 [vDia k9D, vObj k7A, .t (tMat [[0], [0]])] (.tup [.t (tInts []), I 12]) := by
  have h := mediateD_ k9D k9_lim k9_lim2 k7A [[0], [0]] (by decide) (by decide) (by decide) (by decide)
  rw [k9_m2] at h
  exact h
theorem kc9_d : PCall Tryd.prog 82 [vDia k9D] (Bo true) := by
  have h := isDia_ k9D k9_lim
  rw [k9_d] at h
  exact h
theorem kc9_l : PCall Tryd.prog 51 [vDia k9D, vObj k9Q, .t (tMat [[0], [0], [1]])] (Bo true) := by
  have h := legs_ k9D k9_lim k9Q [[0], [0], [1]] (by decide) (by decide) (by decide) (by decide)
  rw [k9_l] at h
  exact h
theorem vlen_s1' (cs : List T) : vlen (.t (.sl 1 cs)) = some cs.length := by simp [vlen]
theorem tn2 : Int.toNat 2 = 2 := rfl
theorem nd1' : ((1 : Nat) : Int) = 1 := rfl
theorem nd2' : ((2 : Nat) : Int) = 2 := rfl
theorem nd3' : ((3 : Nat) : Int) = 3 := rfl
theorem s6a {α : Type} (a b c d e f x y : α) : setAll [a, b, c, d, e, f] 0 [x, y] = [x, y, c, d, e, f] := rfl
theorem s6b {α : Type} (a b c d e f x y : α) : setAll [a, b, c, d, e, f] 2 [x, y] = [a, b, x, y, e, f] := rfl
theorem s6c {α : Type} (a b c d e f x y : α) : setAll [a, b, c, d, e, f] 4 [x, y] = [a, b, c, d, x, y] := rfl
theorem s3a {α : Type} (a b c x y z : α) : setAll [a, b, c] 0 [x, y, z] = [x, y, z] := rfl
set_option maxRecDepth 20000 in
set_option maxHeartbeats 8000000 in
theorem known9_  : PCall Tryd.prog 45 [] (Bo true) := by
  refine pcall_of_body Tryd.func45 rfl fun s Q hQ => ?_
  obtain ⟨e, he, hl⟩ : ∃ e : Env, ([] ++ List.replicate (Tryd.f45.ntmps - ([] : List V).length) .junk) = e ∧ e.length = 111 := ⟨_, rfl, rfl⟩
  rw [he]
  clear he
  refine vsk fun K1 hK1 => ?_
  refine vw_sc 0 [] ?_
  simp only [bs, ↓vopx, ↓vop, thenV, flat, wocs, ↓goc, ↓woc, ↓vopm0]
  refine hK1 _ _ ?_
  refine vsk fun K2 hK2 => ?_
  refine vw_cut 4 rfl ?_
  refine vl_chunk 1 0 2 2 [] [] (by decide +kernel) (by decide) fun ops' KC hgs hKC => ?_
  simp only [bs, Nat.reduceLeDiff, Nat.reduceAdd, vparts, gfill, repl, Sg.frzP, ↓vopx, flat, Nat.reduceLT, V.cells, Sg.frzL, Sg.frz1, hl, wocs, ↓goc, ↓woc, ↓vopm1, Tryd.sl22, Tryd.st25]
  refine hKC _ _ ?_
  clear hgs hKC KC ops'
  refine vl_env fun e1_0 hE => ?_
  have hl1_0 : e1_0.length = 111 := by rw [hE]; simp only [lpv, hl]
  have q11 : ev e1_0 (.tmp 11) = .agg [.t (.sl 1 [.v (.string k7x)]), .t (.v (.slice none 0 0))] := by rw [hE]; simp only [ev_hit, lpv, hl, Nat.reduceLT]
  clear hE
  refine vl_chunk 1 2 2 0 [] [] (by decide +kernel) (by decide) fun ops' KC hgs hKC => ?_
  simp only [bs, Nat.reduceAdd, ↓vopx, ↓vop, Nat.reduceBEq, Nat.reduceLT, V.cells, hl1_0, q11, wocs, ↓goc, ↓woc, ↓vopm1, Tryd.sz25, Tryd.zv25]
  refine hKC _ _ ?_
  clear hgs hKC KC ops'
  refine vl_nil ?_
  try simp only [thenV]
  refine hK2 _ _ ?_
  refine vsk fun K3 hK3 => ?_
  refine VW.nilBox (s.next) 1 2 (by omega) (ty := 25) (vs := [.t (.sl 1 [.v (.string k7x)]), .t (.v (.slice none 0 0))]) (by simp only [m_set, m_add, if_true]) rfl ?_
  refine vw_en fun era hE => ?_
  have hlra : era.length = 111 := by rw [hE]; simp only [lpv, hl1_0]
  have ra_1 : ev era (.tmp 1) = .ptr (s.next) 0 := by rw [hE]; simp only [ev_hit, hl1_0, Nat.reduceLT]
  clear hE
  refine vw_st fun sra hS => ?_
  have raA : sra.m (s.next) = some (.box 25 [.t (.sl 1 [.v (.string k7x)]), .t (.sl 2 [])]) := by rw [hS]; simp only [m_set, m_add, if_true, List.set_cons_zero, List.set_cons_succ]
  have hnra : sra.next = s.next + 1 := by rw [hS]; simp only [n_add, n_set, ]
  have hkra : ∀ j, j < s.next → sra.m j = s.m j := fun j hj => by have z0 : ¬ j = s.next := (by omega); rw [hS]; simp only [m_set, m_add, z0, if_false]
  clear hS
  refine vw_cut 10 rfl ?_
  refine vl_chunk 1 0 4 6 [] [] (by decide +kernel) (by decide) fun ops' KC hgs hKC => ?_
  simp only [bs, Nat.reduceLeDiff, Nat.reduceAdd, vparts, gfill, repl, Sg.frzP, ↓vopx, ↓vop, Nat.reduceBEq, Nat.reduceLT, V.cells, dLoad, vpart, Sg.frzL, Sg.frz1, hlra, ra_1, raA, hnra, wocs, ↓goc, ↓woc, ↓vopm1, Tryd.ag25, Tryd.sl59, Tryd.sz25, s6a, s6b, s6c, Nat.reduceMul]
  refine hKC _ _ ?_
  clear hgs hKC KC ops'
  refine vl_env fun e2_0 hE => ?_
  have hl2_0 : e2_0.length = 111 := by rw [hE]; simp only [lpv, hlra]
  have q15 : ev e2_0 (.tmp 15) = .t (.sl 2 [.sl 1 [.v (.string k7x)], .sl 2 [], .sl 1 [.v (.string k7x)], .sl 2 [], .sl 1 [.v (.string k7x)], .sl 2 []]) := by rw [hE]; simp only [ev_hit, lpv, hlra, Nat.reduceLT]
  have q1 : ev e2_0 (.tmp 1) = .ptr (s.next) 0 := by rw [hE]; simp only [ev_miss, Nat.reduceBEq, ra_1]
  clear hE
  refine vl_chunk 1 4 3 3 [] [] (by decide +kernel) (by decide) fun ops' KC hgs hKC => ?_
  simp only [bs, Nat.reduceLeDiff, Nat.reduceAdd, vparts, gfill, repl, Sg.frzP, ↓vopx, flat, Nat.reduceLT, V.cells, Sg.frzL, Sg.frz1, hl2_0, hnra, wocs, ↓goc, ↓woc, ↓vopm1, Tryd.sl26, Tryd.sl60, Tryd.st72, s3a, Nat.reduceMul]
  refine hKC _ _ ?_
  clear hgs hKC KC ops'
  refine vl_env fun e2_1 hE => ?_
  have hl2_1 : e2_1.length = 111 := by rw [hE]; simp only [lpv, hl2_0]
  have p15 : ev e2_1 (.tmp 15) = .t (.sl 2 [.sl 1 [.v (.string k7x)], .sl 2 [], .sl 1 [.v (.string k7x)], .sl 2 [], .sl 1 [.v (.string k7x)], .sl 2 []]) := by rw [hE]; simp only [ev_miss, Nat.reduceBEq, q15]
  have p18 : ev e2_1 (.tmp 18) = .t (.sl 3 [.v (.int .i64 0), .v (.int .i64 1), .sl 1 [.v (.int .i64 0)]]) := by rw [hE]; simp only [ev_hit, lpv, hl2_0, Nat.reduceLT]
  have p1 : ev e2_1 (.tmp 1) = .ptr (s.next) 0 := by rw [hE]; simp only [ev_miss, Nat.reduceBEq, q1]
  clear hE
  refine vl_chunk 1 7 1 2 [] [] (by decide +kernel) (by decide) fun ops' KC hgs hKC => ?_
  simp only [bs, Nat.reduceLeDiff, Nat.reduceAdd, vparts, gfill, ↓vopx, V.cells, p15, p18, wocs, ↓goc, ↓woc, ↓vopm1, Tryd.st62]
  refine hKC _ _ ?_
  clear hgs hKC KC ops'
  refine vl_env fun e2_2 hE => ?_
  have hl2_2 : e2_2.length = 111 := by rw [hE]; simp only [lpv, hl2_1]
  have t19 : ev e2_2 (.tmp 19) = .agg [.t (.sl 2 [.sl 1 [.v (.string k7x)], .sl 2 [], .sl 1 [.v (.string k7x)], .sl 2 [], .sl 1 [.v (.string k7x)], .sl 2 []]), .t (.sl 3 [.v (.int .i64 0), .v (.int .i64 1), .sl 1 [.v (.int .i64 0)]])] := by rw [hE]; simp only [ev_hit, hl2_1, Nat.reduceLT]
  have t1 : ev e2_2 (.tmp 1) = .ptr (s.next) 0 := by rw [hE]; simp only [ev_miss, Nat.reduceBEq, p1]
  clear hE
  refine vl_chunk 1 8 2 0 [] [] (by decide +kernel) (by decide) fun ops' KC hgs hKC => ?_
  simp only [bs, Nat.reduceAdd, ↓vopx, ↓vop, Nat.reduceBEq, Nat.reduceLT, V.cells, hl2_2, t19, hnra, wocs, ↓goc, ↓woc, ↓vopm1, Tryd.sz62, Tryd.zv62]
  refine hKC _ _ ?_
  clear hgs hKC KC ops'
  refine vl_nil ?_
  try simp only [thenV]
  refine hK3 _ _ ?_
  refine vsk fun K4 hK4 => ?_
  refine vw_en fun erb hE => ?_
  have hlrb : erb.length = 111 := by rw [hE]; simp only [lpv, hl2_2]
  have rb_1 : ev erb (.tmp 1) = .ptr (s.next) 0 := by rw [hE]; simp only [ev_miss, Nat.reduceBEq, t1]
  have rb_2 : ev erb (.tmp 2) = .ptr (s.next + 1) 0 := by rw [hE]; simp only [ev_hit, hl2_2, Nat.reduceLT]
  clear hE
  refine vw_st fun srb hS => ?_
  have rbA : srb.m (s.next) = some (.box 25 [.t (.sl 1 [.v (.string k7x)]), .t (.sl 2 [])]) := by rw [hS]; simp only [m_set, m_add, nns, if_false, raA, hnra]
  have rbB : srb.m (s.next + 1) = some (.box 62 [.t (.sl 2 [.sl 1 [.v (.string k7x)], .sl 2 [], .sl 1 [.v (.string k7x)], .sl 2 [], .sl 1 [.v (.string k7x)], .sl 2 []]), .t (.sl 3 [.v (.int .i64 0), .v (.int .i64 1), .sl 1 [.v (.int .i64 0)]])]) := by rw [hS]; simp only [m_set, m_add, if_true, hnra]
  have hnrb : srb.next = s.next + 1 + 1 := by rw [hS]; simp only [n_add, n_set, hnra]
  have hkrb : ∀ j, j < s.next → srb.m j = s.m j := fun j hj => by have z0 : ¬ j = s.next := (by omega); have z1 : ¬ j = s.next + 1 := (by omega); rw [hS]; simp only [m_set, m_add, hnra, z1, if_false, hkra j hj]
  clear hS
  refine vw_sc 1 [.pur (.tup [vObj k9Q, .t (.sl 1 [.sl 1 [.v (.int .i64 0)], .sl 1 [.v (.int .i64 0)], .sl 1 [.v (.int .i64 1)]]), I 0])] ?_
  simp only [bs, Nat.reduceAdd, ↓vopx, ↓vop, Nat.reduceBEq, thenV, Nat.reduceLT, V.cells, dLoad, vpart, hlrb, rb_2, rbB, hnrb, wocs, ↓goc, ↓woc, ↓vopm1, ↓callC, calleeV, Tryd.ag62, Tryd.sz25, Tryd.sz62, Tryd.zv25]
  repeat ((with_reducible refine And.intro ?_ ?_); · exact ⟨Tryd.is50, kc9_of⟩)
  refine hK4 _ _ ?_
  refine vsk fun K5 hK5 => ?_
  refine vw_en fun erc hE => ?_
  have hlrc : erc.length = 111 := by rw [hE]; simp only [lpv, hlrb]
  have rc_1 : ev erc (.tmp 1) = .ptr (s.next) 0 := by rw [hE]; simp only [ev_miss, Nat.reduceBEq, rb_1]
  have rc_2 : ev erc (.tmp 2) = .ptr (s.next + 1) 0 := by rw [hE]; simp only [ev_miss, Nat.reduceBEq, rb_2]
  have rc_3 : ev erc (.tmp 3) = .ptr (s.next + 1 + 1) 0 := by rw [hE]; simp only [ev_hit, ev_miss, Nat.reduceBEq, lpv, hlrb, Nat.reduceLT]
  have rc_4 : ev erc (.tmp 4) = .t (.sl 1 [.sl 1 [.v (.int .i64 0)], .sl 1 [.v (.int .i64 0)], .sl 1 [.v (.int .i64 1)]]) := by rw [hE]; simp only [ev_hit, ev_miss, Nat.reduceBEq, lpv, hlrb, Nat.reduceLT]
  have rc_5 : ev erc (.tmp 5) = I 0 := by rw [hE]; simp only [ev_hit, lpv, hlrb, Nat.reduceLT]
  clear hE
  refine vw_st fun src hS => ?_
  have rcA : src.m (s.next) = some (.box 25 [.t (.sl 1 [.v (.string k7x)]), .t (.sl 2 [])]) := by rw [hS]; simp only [m_set, m_add, nns, if_false, rbA, hnrb]
  have rcB : src.m (s.next + 1) = some (.box 62 [.t (.sl 2 [.sl 1 [.v (.string k7x)], .sl 2 [], .sl 1 [.v (.string k7x)], .sl 2 [], .sl 1 [.v (.string k7x)], .sl 2 []]), .t (.sl 3 [.v (.int .i64 0), .v (.int .i64 1), .sl 1 [.v (.int .i64 0)]])]) := by rw [hS]; simp only [m_set, m_add, nns, if_false, rbB, hnrb]
  have rcC : src.m (s.next + 1 + 1) = some (.box 25 [.t (tStrs [k7x, k7x]), .t (tPairs [])]) := by rw [hS]; simp only [m_set, m_add, if_true, hnrb]
  have hnrc : src.next = s.next + 1 + 1 + 1 := by rw [hS]; simp only [n_add, n_set, hnrb]
  have hkrc : ∀ j, j < s.next → src.m j = s.m j := fun j hj => by have z0 : ¬ j = s.next := (by omega); have z1 : ¬ j = s.next + 1 := (by omega); have z2 : ¬ j = s.next + 1 + 1 := (by omega); rw [hS]; simp only [m_set, m_add, hnrb, z2, if_false, hkrb j hj]
  clear hS
  refine vw_sc 1 [.pur (.tup [.t (tInts [0, 0]), I 0])] ?_
  simp only [bs, Nat.reduceLeDiff, Nat.reduceAdd, vparts, gfill, repl, Sg.frzP, ↓vopx, ↓vop, Nat.reduceBEq, thenV, flat, Nat.reduceLT, V.cells, dLoad, vpart, Sg.frzL, Sg.frz1, hlrc, rc_1, rc_2, rcA, rcB, hnrc, wocs, ↓goc, ↓woc, ↓vopm1, ↓callC, calleeV, Tryd.ag25, Tryd.ag62, Tryd.sl26, Tryd.sl63, Tryd.sz25, Tryd.sz62, nns]
  repeat ((with_reducible refine And.intro ?_ ?_); · exact ⟨Tryd.is49, kc9_m1⟩)
  refine hK5 _ _ ?_
  refine vsk fun K6 hK6 => ?_
  refine vw_en fun erd hE => ?_
  have hlrd : erd.length = 111 := by rw [hE]; simp only [lpv, hlrc]
  have rd_1 : ev erd (.tmp 1) = .ptr (s.next) 0 := by rw [hE]; simp only [ev_miss, Nat.reduceBEq, rc_1]
  have rd_2 : ev erd (.tmp 2) = .ptr (s.next + 1) 0 := by rw [hE]; simp only [ev_miss, Nat.reduceBEq, rc_2]
  have rd_3 : ev erd (.tmp 3) = .ptr (s.next + 1 + 1) 0 := by rw [hE]; simp only [ev_miss, Nat.reduceBEq, rc_3]
  have rd_4 : ev erd (.tmp 4) = .t (.sl 1 [.sl 1 [.v (.int .i64 0)], .sl 1 [.v (.int .i64 0)], .sl 1 [.v (.int .i64 1)]]) := by rw [hE]; simp only [ev_miss, Nat.reduceBEq, rc_4]
  have rd_5 : ev erd (.tmp 5) = I 0 := by rw [hE]; simp only [ev_miss, Nat.reduceBEq, rc_5]
  have rd_6 : ev erd (.tmp 6) = .t (tInts [0, 0]) := by rw [hE]; simp only [ev_hit, ev_miss, Nat.reduceBEq, lpv, hlrc, Nat.reduceLT]
  have rd_7 : ev erd (.tmp 7) = I 0 := by rw [hE]; simp only [ev_hit, lpv, hlrc, Nat.reduceLT]
  clear hE
  refine vw_st fun srd hS => ?_
  have rdA : srd.m (s.next) = some (.box 25 [.t (.sl 1 [.v (.string k7x)]), .t (.sl 2 [])]) := by rw [hS]; simp only [rcA]
  have rdB : srd.m (s.next + 1) = some (.box 62 [.t (.sl 2 [.sl 1 [.v (.string k7x)], .sl 2 [], .sl 1 [.v (.string k7x)], .sl 2 [], .sl 1 [.v (.string k7x)], .sl 2 []]), .t (.sl 3 [.v (.int .i64 0), .v (.int .i64 1), .sl 1 [.v (.int .i64 0)]])]) := by rw [hS]; simp only [rcB]
  have rdC : srd.m (s.next + 1 + 1) = some (.box 25 [.t (tStrs [k7x, k7x]), .t (tPairs [])]) := by rw [hS]; simp only [rcC]
  have hnrd : srd.next = s.next + 1 + 1 + 1 := by rw [hS]; simp only [hnrc]
  have hkrd : ∀ j, j < s.next → srd.m j = s.m j := fun j hj => by have z0 : ¬ j = s.next := (by omega); have z1 : ¬ j = s.next + 1 := (by omega); have z2 : ¬ j = s.next + 1 + 1 := (by omega); rw [hS]; simp only [hkrc j hj]
  clear hS
  refine vw_sc 1 [.pur (.tup [.t (tInts []), I 12])] ?_
  simp only [bs, Nat.reduceLeDiff, Nat.reduceAdd, vparts, gfill, repl, Sg.frzP, ↓vopx, ↓vop, Nat.reduceBEq, thenV, flat, Nat.reduceLT, V.cells, dLoad, vpart, Sg.frzL, Sg.frz1, hlrd, rd_1, rd_2, rdA, rdB, hnrd, wocs, ↓goc, ↓woc, ↓vopm1, ↓callC, calleeV, Tryd.ag25, Tryd.ag62, Tryd.sl26, Tryd.sl63, Tryd.sz25, Tryd.sz62, nns]
  repeat ((with_reducible refine And.intro ?_ ?_); · exact ⟨Tryd.is49, kc9_m2⟩)
  refine hK6 _ _ ?_
  refine vsk fun K7 hK7 => ?_
  refine vw_en fun ere hE => ?_
  have hlre : ere.length = 111 := by rw [hE]; simp only [lpv, hlrd]
  have re_1 : ev ere (.tmp 1) = .ptr (s.next) 0 := by rw [hE]; simp only [ev_miss, Nat.reduceBEq, rd_1]
  have re_2 : ev ere (.tmp 2) = .ptr (s.next + 1) 0 := by rw [hE]; simp only [ev_miss, Nat.reduceBEq, rd_2]
  have re_3 : ev ere (.tmp 3) = .ptr (s.next + 1 + 1) 0 := by rw [hE]; simp only [ev_miss, Nat.reduceBEq, rd_3]
  have re_4 : ev ere (.tmp 4) = .t (.sl 1 [.sl 1 [.v (.int .i64 0)], .sl 1 [.v (.int .i64 0)], .sl 1 [.v (.int .i64 1)]]) := by rw [hE]; simp only [ev_miss, Nat.reduceBEq, rd_4]
  have re_5 : ev ere (.tmp 5) = I 0 := by rw [hE]; simp only [ev_miss, Nat.reduceBEq, rd_5]
  have re_6 : ev ere (.tmp 6) = .t (tInts [0, 0]) := by rw [hE]; simp only [ev_miss, Nat.reduceBEq, rd_6]
  have re_7 : ev ere (.tmp 7) = I 0 := by rw [hE]; simp only [ev_miss, Nat.reduceBEq, rd_7]
  have re_9 : ev ere (.tmp 9) = I 12 := by rw [hE]; simp only [ev_hit, lpv, hlrd, Nat.reduceLT]
  clear hE
  refine vw_st fun sre hS => ?_
  have reA : sre.m (s.next) = some (.box 25 [.t (.sl 1 [.v (.string k7x)]), .t (.sl 2 [])]) := by rw [hS]; simp only [rdA]
  have reB : sre.m (s.next + 1) = some (.box 62 [.t (.sl 2 [.sl 1 [.v (.string k7x)], .sl 2 [], .sl 1 [.v (.string k7x)], .sl 2 [], .sl 1 [.v (.string k7x)], .sl 2 []]), .t (.sl 3 [.v (.int .i64 0), .v (.int .i64 1), .sl 1 [.v (.int .i64 0)]])]) := by rw [hS]; simp only [rdB]
  have reC : sre.m (s.next + 1 + 1) = some (.box 25 [.t (tStrs [k7x, k7x]), .t (tPairs [])]) := by rw [hS]; simp only [rdC]
  have hnre : sre.next = s.next + 1 + 1 + 1 := by rw [hS]; simp only [hnrd]
  have hkre : ∀ j, j < s.next → sre.m j = s.m j := fun j hj => by have z0 : ¬ j = s.next := (by omega); have z1 : ¬ j = s.next + 1 := (by omega); have z2 : ¬ j = s.next + 1 + 1 := (by omega); rw [hS]; simp only [hkrd j hj]
  clear hS
  refine vw_cut 67 rfl ?_
  refine vl_chunk 1 0 9 58 [(2, 47)] [] (by decide +kernel) (by decide) fun ops' KC hgs hKC => ?_
  have g2_ : gtmp ops' 2 = some 47 := hgs (2, 47) (by simp)
  simp only [bs, Nat.reduceAdd, ↓vopx, ↓vop, Nat.reduceBEq, flat, Nat.reduceLT, dLoad, vpart, opII, hlre, re_3, re_5, reC, g2_, wocs, ↓goc, ↓woc, ↓vopm1, ↓pick_tt, Tryd.ag22, Tryd.fd25_0, Tryd.sz22, Tryd.un22, nns, vlen_s1', nd2', beq_self_eq_true, List.append_eq]
  refine hKC _ _ ?_
  clear g2_
  clear hgs hKC KC ops'
  refine vl_env fun e6_0 hE => ?_
  have hl6_0 : e6_0.length = 111 := by rw [hE]; simp only [lpv, hlre]
  have s1_1 : ev e6_0 (.tmp 1) = .ptr (s.next) 0 := by rw [hE]; simp only [ev_miss, Nat.reduceBEq, re_1]
  have s1_2 : ev e6_0 (.tmp 2) = .ptr (s.next + 1) 0 := by rw [hE]; simp only [ev_miss, Nat.reduceBEq, re_2]
  have s1_3 : ev e6_0 (.tmp 3) = .ptr (s.next + 1 + 1) 0 := by rw [hE]; simp only [ev_miss, Nat.reduceBEq, re_3]
  have s1_4 : ev e6_0 (.tmp 4) = .t (.sl 1 [.sl 1 [.v (.int .i64 0)], .sl 1 [.v (.int .i64 0)], .sl 1 [.v (.int .i64 1)]]) := by rw [hE]; simp only [ev_miss, Nat.reduceBEq, re_4]
  have s1_5 : ev e6_0 (.tmp 5) = I 0 := by rw [hE]; simp only [ev_miss, Nat.reduceBEq, re_5]
  have s1_6 : ev e6_0 (.tmp 6) = .t (tInts [0, 0]) := by rw [hE]; simp only [ev_miss, Nat.reduceBEq, re_6]
  have s1_7 : ev e6_0 (.tmp 7) = I 0 := by rw [hE]; simp only [ev_miss, Nat.reduceBEq, re_7]
  have s1_9 : ev e6_0 (.tmp 9) = I 12 := by rw [hE]; simp only [ev_miss, Nat.reduceBEq, re_9]
  have s1_g : ev e6_0 (.tmp 53) = Bo true := by rw [hE]; simp only [ev_hit, lpv, hlre, Nat.reduceLT]
  clear hE
  refine vl_chunk 1 9 12 46 [(8, 53), (13, 58)] [] (by decide +kernel) (by decide) fun ops' KC hgs hKC => ?_
  have g8_ : gtmp ops' 8 = some 53 := hgs (8, 53) (by simp)
  have g13_ : gtmp ops' 13 = some 58 := hgs (13, 58) (by simp)
  simp only [bs, Nat.reduceAdd, ↓vopx, ↓vop, Nat.reduceBEq, flat, Nat.reduceLT, dLoad, vpart, opII, hl6_0, s1_4, s1_g, g8_, g13_, wocs, ↓goc, ↓woc, ↓vopm1, ↓pick_tt, Tryd.ag26, Tryd.sz26, Tryd.un26, Tryd.un63, vlen_s1', nd1', nd3', Int.toNat_one, beq_self_eq_true, List.append_eq]
  repeat ((with_reducible refine And.intro ?_ ?_); · omega)
  refine hKC _ _ ?_
  clear g8_
  clear g13_
  clear hgs hKC KC ops'
  refine vl_env fun e6_1 hE => ?_
  have hl6_1 : e6_1.length = 111 := by rw [hE]; simp only [lpv, hl6_0]
  have s2_1 : ev e6_1 (.tmp 1) = .ptr (s.next) 0 := by rw [hE]; simp only [ev_miss, Nat.reduceBEq, s1_1]
  have s2_2 : ev e6_1 (.tmp 2) = .ptr (s.next + 1) 0 := by rw [hE]; simp only [ev_miss, Nat.reduceBEq, s1_2]
  have s2_3 : ev e6_1 (.tmp 3) = .ptr (s.next + 1 + 1) 0 := by rw [hE]; simp only [ev_miss, Nat.reduceBEq, s1_3]
  have s2_4 : ev e6_1 (.tmp 4) = .t (.sl 1 [.sl 1 [.v (.int .i64 0)], .sl 1 [.v (.int .i64 0)], .sl 1 [.v (.int .i64 1)]]) := by rw [hE]; simp only [ev_miss, Nat.reduceBEq, s1_4]
  have s2_5 : ev e6_1 (.tmp 5) = I 0 := by rw [hE]; simp only [ev_miss, Nat.reduceBEq, s1_5]
  have s2_6 : ev e6_1 (.tmp 6) = .t (tInts [0, 0]) := by rw [hE]; simp only [ev_miss, Nat.reduceBEq, s1_6]
  have s2_7 : ev e6_1 (.tmp 7) = I 0 := by rw [hE]; simp only [ev_miss, Nat.reduceBEq, s1_7]
  have s2_9 : ev e6_1 (.tmp 9) = I 12 := by rw [hE]; simp only [ev_miss, Nat.reduceBEq, s1_9]
  have s2_g : ev e6_1 (.tmp 65) = Bo true := by rw [hE]; simp only [ev_hit, lpv, hl6_0, Nat.reduceLT]
  clear hE
  refine vl_chunk 1 21 15 31 [(20, 65), (27, 72)] [] (by decide +kernel) (by decide) fun ops' KC hgs hKC => ?_
  have g20_ : gtmp ops' 20 = some 65 := hgs (20, 65) (by simp)
  have g27_ : gtmp ops' 27 = some 72 := hgs (27, 72) (by simp)
  simp only [bs, Nat.reduceAdd, ↓vopx, ↓vop, Nat.reduceBEq, flat, Nat.reduceLT, dLoad, vpart, opII, hl6_1, s2_4, s2_g, g20_, g27_, wocs, ↓goc, ↓woc, ↓vopm1, ↓pick_tt, Tryd.ag26, Tryd.ag3, Tryd.sz26, Tryd.sz3, Tryd.un26, Tryd.un63, vlen_s1', nd1', Int.toNat_zero, Int.toNat_one, beq_self_eq_true, List.append_eq, tn2]
  repeat ((with_reducible refine And.intro ?_ ?_); · omega)
  refine hKC _ _ ?_
  clear g20_
  clear g27_
  clear hgs hKC KC ops'
  refine vl_env fun e6_2 hE => ?_
  have hl6_2 : e6_2.length = 111 := by rw [hE]; simp only [lpv, hl6_1]
  have s3_1 : ev e6_2 (.tmp 1) = .ptr (s.next) 0 := by rw [hE]; simp only [ev_miss, Nat.reduceBEq, s2_1]
  have s3_2 : ev e6_2 (.tmp 2) = .ptr (s.next + 1) 0 := by rw [hE]; simp only [ev_miss, Nat.reduceBEq, s2_2]
  have s3_3 : ev e6_2 (.tmp 3) = .ptr (s.next + 1 + 1) 0 := by rw [hE]; simp only [ev_miss, Nat.reduceBEq, s2_3]
  have s3_4 : ev e6_2 (.tmp 4) = .t (.sl 1 [.sl 1 [.v (.int .i64 0)], .sl 1 [.v (.int .i64 0)], .sl 1 [.v (.int .i64 1)]]) := by rw [hE]; simp only [ev_miss, Nat.reduceBEq, s2_4]
  have s3_5 : ev e6_2 (.tmp 5) = I 0 := by rw [hE]; simp only [ev_miss, Nat.reduceBEq, s2_5]
  have s3_6 : ev e6_2 (.tmp 6) = .t (tInts [0, 0]) := by rw [hE]; simp only [ev_miss, Nat.reduceBEq, s2_6]
  have s3_7 : ev e6_2 (.tmp 7) = I 0 := by rw [hE]; simp only [ev_miss, Nat.reduceBEq, s2_7]
  have s3_9 : ev e6_2 (.tmp 9) = I 12 := by rw [hE]; simp only [ev_miss, Nat.reduceBEq, s2_9]
  have s3_g : ev e6_2 (.tmp 80) = Bo true := by rw [hE]; simp only [ev_hit, lpv, hl6_1, Nat.reduceLT]
  clear hE
  refine vl_chunk 1 36 12 19 [(35, 80), (43, 88)] [] (by decide +kernel) (by decide) fun ops' KC hgs hKC => ?_
  have g35_ : gtmp ops' 35 = some 80 := hgs (35, 80) (by simp)
  have g43_ : gtmp ops' 43 = some 88 := hgs (43, 88) (by simp)
  simp only [bs, Nat.reduceAdd, ↓vopx, ↓vop, Nat.reduceBEq, flat, Nat.reduceLT, dLoad, vpart, opII, hl6_2, s3_4, s3_7, s3_g, g35_, g43_, wocs, ↓goc, ↓woc, ↓vopm1, ↓pick_tt, Tryd.ag26, Tryd.ag3, Tryd.sz26, Tryd.sz3, Tryd.un26, Tryd.un63, Int.toNat_zero, beq_self_eq_true, List.append_eq, tn2]
  repeat ((with_reducible refine And.intro ?_ ?_); · omega)
  refine hKC _ _ ?_
  clear g35_
  clear g43_
  clear hgs hKC KC ops'
  refine vl_env fun e6_3 hE => ?_
  have hl6_3 : e6_3.length = 111 := by rw [hE]; simp only [lpv, hl6_2]
  have s4_1 : ev e6_3 (.tmp 1) = .ptr (s.next) 0 := by rw [hE]; simp only [ev_miss, Nat.reduceBEq, s3_1]
  have s4_2 : ev e6_3 (.tmp 2) = .ptr (s.next + 1) 0 := by rw [hE]; simp only [ev_miss, Nat.reduceBEq, s3_2]
  have s4_3 : ev e6_3 (.tmp 3) = .ptr (s.next + 1 + 1) 0 := by rw [hE]; simp only [ev_miss, Nat.reduceBEq, s3_3]
  have s4_4 : ev e6_3 (.tmp 4) = .t (.sl 1 [.sl 1 [.v (.int .i64 0)], .sl 1 [.v (.int .i64 0)], .sl 1 [.v (.int .i64 1)]]) := by rw [hE]; simp only [ev_miss, Nat.reduceBEq, s3_4]
  have s4_5 : ev e6_3 (.tmp 5) = I 0 := by rw [hE]; simp only [ev_miss, Nat.reduceBEq, s3_5]
  have s4_6 : ev e6_3 (.tmp 6) = .t (tInts [0, 0]) := by rw [hE]; simp only [ev_miss, Nat.reduceBEq, s3_6]
  have s4_7 : ev e6_3 (.tmp 7) = I 0 := by rw [hE]; simp only [ev_miss, Nat.reduceBEq, s3_7]
  have s4_9 : ev e6_3 (.tmp 9) = I 12 := by rw [hE]; simp only [ev_miss, Nat.reduceBEq, s3_9]
  have s4_g : ev e6_3 (.tmp 92) = Bo true := by rw [hE]; simp only [ev_hit, lpv, hl6_2, Nat.reduceLT]
  clear hE
  refine vl_chunk 1 48 13 6 [(47, 92), (52, 97), (56, 101)] [.pur (Bo true)] (by decide +kernel) (by decide) fun ops' KC hgs hKC => ?_
  have g47_ : gtmp ops' 47 = some 92 := hgs (47, 92) (by simp)
  have g52_ : gtmp ops' 52 = some 97 := hgs (52, 97) (by simp)
  have g56_ : gtmp ops' 56 = some 101 := hgs (56, 101) (by simp)
  simp only [bs, Nat.reduceAdd, ↓vopx, ↓vop, Nat.reduceBEq, flat, Nat.reduceLT, dLoad, vpart, opII, hl6_3, s4_2, s4_6, s4_9, s4_g, reB, g47_, g52_, g56_, wocs, ↓goc, ↓woc, ↓vopm1, ↓callC, ↓pick_tt, calleeV, Tryd.ag62, Tryd.sz62, vlen_s1', Tryd.underlying26, nd2', beq_self_eq_true, tInts, List.append_eq]
  repeat ((with_reducible refine And.intro ?_ ?_); · exact ⟨Tryd.is82, kc9_d⟩)
  refine hKC _ _ ?_
  clear g47_
  clear g52_
  clear g56_
  clear hgs hKC KC ops'
  refine vl_env fun e6_4 hE => ?_
  have hl6_4 : e6_4.length = 111 := by rw [hE]; simp only [lpv, hl6_3]
  have s5_1 : ev e6_4 (.tmp 1) = .ptr (s.next) 0 := by rw [hE]; simp only [ev_miss, Nat.reduceBEq, s4_1]
  have s5_2 : ev e6_4 (.tmp 2) = .ptr (s.next + 1) 0 := by rw [hE]; simp only [ev_miss, Nat.reduceBEq, s4_2]
  have s5_3 : ev e6_4 (.tmp 3) = .ptr (s.next + 1 + 1) 0 := by rw [hE]; simp only [ev_miss, Nat.reduceBEq, s4_3]
  have s5_4 : ev e6_4 (.tmp 4) = .t (.sl 1 [.sl 1 [.v (.int .i64 0)], .sl 1 [.v (.int .i64 0)], .sl 1 [.v (.int .i64 1)]]) := by rw [hE]; simp only [ev_miss, Nat.reduceBEq, s4_4]
  have s5_5 : ev e6_4 (.tmp 5) = I 0 := by rw [hE]; simp only [ev_miss, Nat.reduceBEq, s4_5]
  have s5_6 : ev e6_4 (.tmp 6) = .t (tInts [0, 0]) := by rw [hE]; simp only [ev_miss, Nat.reduceBEq, s4_6]
  have s5_7 : ev e6_4 (.tmp 7) = I 0 := by rw [hE]; simp only [ev_miss, Nat.reduceBEq, s4_7]
  have s5_9 : ev e6_4 (.tmp 9) = I 12 := by rw [hE]; simp only [ev_miss, Nat.reduceBEq, s4_9]
  have s5_g : ev e6_4 (.tmp 105) = Bo true := by rw [hE]; simp only [ev_hit, lpv, hl6_3, Nat.reduceLT]
  clear hE
  refine vl_chunk 1 61 6 0 [(60, 105)] [.pur (Bo true)] (by decide +kernel) (by decide) fun ops' KC hgs hKC => ?_
  have g60_ : gtmp ops' 60 = some 105 := hgs (60, 105) (by simp)
  simp only [bs, Nat.reduceAdd, ↓vopx, ↓vop, Nat.reduceBEq, flat, Nat.reduceLT, dLoad, vpart, hl6_4, s5_2, s5_3, s5_4, s5_g, reB, reC, g60_, wocs, ↓goc, ↓woc, ↓vopm1, ↓callC, ↓pick_tt, calleeV, Tryd.ag25, Tryd.ag62, Tryd.sz25, Tryd.sz62, List.append_eq]
  repeat ((with_reducible refine And.intro ?_ ?_); · exact ⟨Tryd.is51, kc9_l⟩)
  refine hKC _ _ ?_
  clear g60_
  clear hgs hKC KC ops'
  refine vl_nil ?_
  try simp only [thenV]
  refine hK7 _ _ ?_
  refine vw_ret ?_
  refine hQ _ _ _ (.inr rfl) (done_tmp ?_ fun n b hn h => (hkre n hn).trans h)
  try simp only [ev_hit, lpv, hl6_4, Nat.reduceLT]
end Go.Proofs

open Go Go.V
namespace Go.Proofs
theorem bs_prs40 {d : Dia} (h : DiaOK d) (hl : bsB d.nodes d.nodes.length ≤ 40) : (colOb d).labels.length ≤ 40 ∧ (colOb d).pairs.length ≤ 1600 := by
  have h40 := (glq40 h hl).le
  have h1 := glued_pairs_le (bsS d.nodes) (colPl d)
  have hpl : (colPl d).length = bsB d.nodes d.nodes.length := (h.gl hl).len
  rw [hpl] at h1
  have h2 := sq_le hl
  exact ⟨h40, Nat.le_trans h1 h2⟩
end Go.Proofs

open Go Go.V
namespace Go.Proofs
theorem rep_ext {R R' E : List Int} (hR : RepOK R) (hR' : RepOK R') (hE : ∀ y ∈ E, 0 ≤ y ∧ y < (R'.length : Int)) (hl : R.length = R'.length + E.length)
    (h1 : ∀ (p : Nat) (r : Int), R[p]? = some r → (R' ++ E.map fun y => R'.getD y.toNat 0)[r.toNat]? = (R' ++ E.map fun y => R'.getD y.toNat 0)[p]?)
    (h2 : ∀ (p : Nat) (r : Int), R'[p]? = some r → R[r.toNat]? = R[p]?) (h3 : ∀ (x : Nat) (y : Int), E[x]? = some y → R[R'.length + x]? = R[y.toNat]?) : R = R' ++ E.map fun y => R'.getD y.toNat 0 := by
  have low : ∀ p, p < R'.length → R[p]? = R'[p]? := fun p hp => by
    obtain ⟨r, hr⟩ : ∃ r, R[p]? = some r := ⟨_, List.getElem?_eq_getElem (by omega)⟩
    obtain ⟨r', hr'⟩ : ∃ r, R'[p]? = some r := ⟨_, List.getElem?_eq_getElem hp⟩
    obtain ⟨a1, a2⟩ := hR p r hr
    obtain ⟨b1, b2⟩ := hR' p r' hr'
    have e1 := h1 p r hr
    rw [List.getElem?_append_left (by omega), List.getElem?_append_left hp, hr'] at e1
    have e2 := h2 p r' hr'
    rw [hr] at e2
    have c1 := (hR' _ _ e1).1
    have c2 := (hR _ _ e2).1
    have : r = r' := by omega
    rw [hr, hr', this]
  apply List.ext_getElem?
  intro p
  by_cases hp : p < R'.length
  · rw [List.getElem?_append_left hp]; exact low p hp
  · rw [List.getElem?_append_right (by omega), List.getElem?_map]
    by_cases hq : p < R.length
    · obtain ⟨y, hy⟩ : ∃ y, E[p - R'.length]? = some y := ⟨_, List.getElem?_eq_getElem (by omega)⟩
      have hb := hE y (List.mem_of_getElem? hy)
      have := h3 _ y hy
      rw [show R'.length + (p - R'.length) = p by omega, low y.toNat (by omega)] at this
      rw [this, hy, Option.map_some, List.getD_eq_getElem?_getD, List.getElem?_eq_getElem (show y.toNat < R'.length by omega)]; rfl
    · rw [List.getElem?_eq_none (by omega), List.getElem?_eq_none (by omega)]; rfl
theorem plS_app (R' T : List Int) : ∀ i, i ≤ R'.length → plS (R' ++ T) i = plS R' i
  | 0, _ => rfl
  | i + 1, h => by
    have ih := plS_app R' T i (by omega)
    have hg : (R' ++ T).getD i 0 = R'.getD i 0 := by rw [List.getD_eq_getElem?_getD, List.getD_eq_getElem?_getD, List.getElem?_append_left (by omega)]
    show (if (R' ++ T).getD i 0 = i then _ else _ : List Int × Nat) = (if R'.getD i 0 = i then _ else _ : List Int × Nat)
    rw [hg, ih]
theorem places_ext {R' T : List Int} (hT : ∀ r ∈ T, 0 ≤ r ∧ r < (R'.length : Int)) : placesL (R' ++ T) = placesL R' ++ T.map fun r => (placesL R').getD r.toNat 0 := by
  have hl := placesL_len (R' ++ T)
  have hl' := placesL_len R'
  have low : ∀ p, p < R'.length → (placesL (R' ++ T))[p]? = (placesL R')[p]? := fun p hp => by
    have hg : (R' ++ T).getD p 0 = R'.getD p 0 := by rw [List.getD_eq_getElem?_getD, List.getD_eq_getElem?_getD, List.getElem?_append_left hp]
    rw [pl_step _ (by rw [List.length_append]; omega), pl_step _ hp, hg, plS_app _ _ _ (by omega)]
  apply List.ext_getElem?
  intro p
  by_cases hp : p < R'.length
  · rw [List.getElem?_append_left (by omega)]; exact low p hp
  · rw [List.getElem?_append_right (by omega), hl', List.getElem?_map]
    by_cases hq : p < R'.length + T.length
    · obtain ⟨r, hr⟩ : ∃ r, T[p - R'.length]? = some r := ⟨_, List.getElem?_eq_getElem (by omega)⟩
      have hb := hT r (List.mem_of_getElem? hr)
      have hg : (R' ++ T).getD p 0 = r := by rw [List.getD_eq_getElem?_getD, List.getElem?_append_right (by omega), hr]; rfl
      have hlow := low r.toNat (by omega)
      have hpp : (placesL (R' ++ T)).take p = (plS (R' ++ T) p).1 := plS_take (R' ++ T) p (R' ++ T).length (by rw [List.length_append]; omega)
      rw [pl_step _ (by rw [List.length_append]; omega), hg, if_neg (by omega), hr, Option.map_some]
      congr 1
      rw [← hpp, List.getD_eq_getElem?_getD, List.getElem?_take, if_pos (by omega), hlow, List.getD_eq_getElem?_getD]
    · rw [List.getElem?_eq_none (by rw [hl, List.length_append]; omega), List.getElem?_eq_none (by omega)]; rfl
theorem fst_app (L' T : List Int) : ∀ i, i ≤ L'.length → fstL (L' ++ T) i = fstL L' i
  | 0, _ => rfl
  | i + 1, h => by
    have hg : (L' ++ T).getD i 0 = L'.getD i 0 := by rw [List.getD_eq_getElem?_getD, List.getD_eq_getElem?_getD, List.getElem?_append_left (by omega)]
    rw [fst_step, fst_step, hg, fst_app L' T i (by omega)]
theorem fst_ext {L' T : List Int} (hT : ∀ r ∈ T, 0 ≤ r ∧ r < (glN L' : Int)) : ∀ i, i ≤ T.length → fstL (L' ++ T) (L'.length + i) = fstL L' L'.length
  | 0, _ => fst_app L' T _ (Nat.le_refl _)
  | i + 1, h => by
    obtain ⟨r, hr⟩ : ∃ r, T[i]? = some r := ⟨_, List.getElem?_eq_getElem h⟩
    have hb := hT r (List.mem_of_getElem? hr)
    have hg : (L' ++ T).getD (L'.length + i) 0 = r := by rw [List.getD_eq_getElem?_getD, List.getElem?_append_right (by omega), show L'.length + i - L'.length = i by omega, hr]; rfl
    rw [← Nat.add_assoc, fst_step, fst_ext hT i (by omega), hg, if_neg (by unfold glN at hb; omega)]
section
variable {a b c : Ob} {f g : List Int}
abbrev pcD (a b c : Ob) (f g : List Int) : Dia := ⟨[b, c, a], [⟨2, 0, f⟩, ⟨2, 1, g⟩]⟩
theorem pc_B : bsB [b, c, a] 0 = 0 ∧ bsB [b, c, a] 1 = b.labels.length ∧ bsB [b, c, a] 2 = b.labels.length + c.labels.length ∧ bsB [b, c, a] 3 = b.labels.length + c.labels.length + a.labels.length := by
  refine ⟨rfl, ?_, ?_, ?_⟩ <;> simp [bsB, labsT] <;> omega
theorem pc_ok (hf : arrS a b f = true) (hg : arrS a c g = true) : DiaOK (pcD a b c f g) := by
  refine ⟨by simp, by simp, fun o ho => ?_, fun x hx => ?_⟩
  · simp only [List.mem_cons, List.not_mem_nil, or_false] at ho
    rcases ho with rfl | rfl | rfl
    · exact (arrS_iff.1 hf).2.1
    · exact (arrS_iff.1 hg).2.1
    · exact (arrS_iff.1 hf).1
  · simp only [List.mem_cons, List.not_mem_nil, or_false] at hx
    rcases hx with rfl | rfl
    · exact ⟨a, b, by simp, rfl, by simp, rfl, hf⟩
    · exact ⟨a, c, by simp, rfl, by simp, rfl, hg⟩
theorem pc_rep (hf : arrS a b f = true) (hg : arrS a c g = true) (hl : a.labels.length + b.labels.length + c.labels.length ≤ 40) :
    joinsL (rangeI (bsB (pcD a b c f g).nodes 3)) (colF (pcD a b c f g) 2) (colG (pcD a b c f g) 2) (colF (pcD a b c f g) 2).length =
      joinsL (rangeI (b.labels.length + c.labels.length)) f (gMv b g) f.length ++ f.map fun y => (joinsL (rangeI (b.labels.length + c.labels.length)) f (gMv b g) f.length).getD y.toNat 0 := by
  obtain ⟨B0, B1, B2, B3⟩ := pc_B (a := a) (b := b) (c := c)
  have hD := pc_ok hf hg
  have hgl := hD.gl (by show bsB [b, c, a] 3 ≤ 40; omega)
  obtain ⟨hok, hRl⟩ := hgl.rep
  obtain ⟨r1, r2, r3⟩ := push_rep hf hg
  obtain ⟨hok', hRl'⟩ := joins_ok _ f (gMv b g) r1 r2 f.length (Nat.le_refl _) (by omega)
  have heq' := joins_eq _ f (gMv b g) r1 r2 f.length (Nat.le_refl _) (by omega)
  have mf := (arrS_iff.1 hf).2.2.1
  have mg := (arrS_iff.1 hg).2.2.1
  have lf := allY_length mf
  have lg := allY_length mg
  have hN : (bsS (pcD a b c f g).nodes).labels.length = b.labels.length + c.labels.length + a.labels.length := B3
  change RepOK (joinsL (rangeI (bsB [b, c, a] 3)) (colF (pcD a b c f g) 2) (colG (pcD a b c f g) 2) (colF (pcD a b c f g) 2).length) at hok
  change (joinsL (rangeI (bsB [b, c, a] 3)) (colF (pcD a b c f g) 2) (colG (pcD a b c f g) 2) (colF (pcD a b c f g) 2).length).length = _ at hRl
  have heq := joins_eq _ (colF (pcD a b c f g) 2) (colG (pcD a b c f g) 2) hgl.bF hgl.bG (colF (pcD a b c f g) 2).length (Nat.le_refl _) (Nat.le_of_eq hgl.ln)
  have hinv := fun {β : Type} (H : Nat → β) => joins_inv _ (colF (pcD a b c f g) 2) (colG (pcD a b c f g) 2) hgl.bF hgl.bG H (colF (pcD a b c f g) 2).length (Nat.le_refl _) (Nat.le_of_eq hgl.ln)
  have hinv' := fun {β : Type} (H : Nat → β) => joins_inv _ f (gMv b g) r1 r2 H f.length (Nat.le_refl _) (by omega)
  rw [hN] at hRl
  -- what an arrow makes one
  have at0 : ∀ (x : Nat) (y : Int), f[x]? = some y → (joinsL (rangeI (bsB [b, c, a] 3)) (colF (pcD a b c f g) 2) (colG (pcD a b c f g) 2) (colF (pcD a b c f g) 2).length)[b.labels.length + c.labels.length + x]? = (joinsL (rangeI (bsB [b, c, a] 3)) (colF (pcD a b c f g) 2) (colG (pcD a b c f g) 2) (colF (pcD a b c f g) 2).length)[y.toNat]? := fun x y hy => by
    obtain ⟨i, i1, i2⟩ := col_at (pcD a b c f g) (x := ⟨2, 0, f⟩) (by simp) hy
    have := heq i _ _ (List.getElem?_eq_some_iff.1 i1).1 i1 i2
    have by0 := map_all mf y (List.mem_of_getElem? hy)
    simp only [show (2 : Int).toNat = 2 from rfl, show (0 : Int).toNat = 0 from rfl, B0, B2, Int.toNat_natCast] at this
    rw [show ((0 : Nat) : Int) + y = y by omega] at this
    exact this
  have at1 : ∀ (x : Nat) (y : Int), g[x]? = some y → (joinsL (rangeI (bsB [b, c, a] 3)) (colF (pcD a b c f g) 2) (colG (pcD a b c f g) 2) (colF (pcD a b c f g) 2).length)[b.labels.length + c.labels.length + x]? = (joinsL (rangeI (bsB [b, c, a] 3)) (colF (pcD a b c f g) 2) (colG (pcD a b c f g) 2) (colF (pcD a b c f g) 2).length)[(y + b.labels.length).toNat]? := fun x y hy => by
    obtain ⟨i, i1, i2⟩ := col_at (pcD a b c f g) (x := ⟨2, 1, g⟩) (by simp) hy
    have := heq i _ _ (List.getElem?_eq_some_iff.1 i1).1 i1 i2
    simp only [show (2 : Int).toNat = 2 from rfl, show (1 : Int).toNat = 1 from rfl, B1, B2, Int.toNat_natCast] at this
    rw [show ((b.labels.length : Nat) : Int) + y = y + b.labels.length by omega] at this
    exact this
  refine rep_ext hok hok' (fun y hy => by have := r1 y hy; omega) (by rw [hRl, hRl']; omega) (fun p r hr => ?_) (fun p r hr => ?_) (fun x y hy => by rw [hRl']; exact at0 x y hy)
  · refine hinv (fun p => (joinsL (rangeI (b.labels.length + c.labels.length)) f (gMv b g) f.length ++ f.map fun y => (joinsL (rangeI (b.labels.length + c.labels.length)) f (gMv b g) f.length).getD y.toNat 0)[p]?) (fun i y z _ hy hz => ?_) p r hr
    obtain ⟨x, hx, t, w, hw, rfl, rfl⟩ := col_of (pcD a b c f g) 2 (Nat.le_refl _) i y z hy hz
    simp only [List.mem_cons, List.not_mem_nil, or_false] at hx
    have ht : t < f.length := by
      have := (List.getElem?_eq_some_iff.1 hw).1
      rcases hx with rfl | rfl
      · exact this
      · simp only at this; omega
    obtain ⟨v, hv⟩ : ∃ v, f[t]? = some v := ⟨_, List.getElem?_eq_getElem ht⟩
    have bv := r1 v (List.mem_of_getElem? hv)
    have left : (joinsL (rangeI (b.labels.length + c.labels.length)) f (gMv b g) f.length ++ f.map fun y => (joinsL (rangeI (b.labels.length + c.labels.length)) f (gMv b g) f.length).getD y.toNat 0)[b.labels.length + c.labels.length + t]? = (joinsL (rangeI (b.labels.length + c.labels.length)) f (gMv b g) f.length)[v.toNat]? := by
      rw [List.getElem?_append_right (by omega), hRl', show b.labels.length + c.labels.length + t - (b.labels.length + c.labels.length) = t by omega, List.getElem?_map, hv, Option.map_some, List.getD_eq_getElem?_getD, List.getElem?_eq_getElem (show v.toNat < (joinsL (rangeI (b.labels.length + c.labels.length)) f (gMv b g) f.length).length by omega)]; rfl
    rcases hx with rfl | rfl
    · simp only at hw
      rw [hv] at hw; cases hw
      simp only [show (2 : Int).toNat = 2 from rfl, show (0 : Int).toNat = 0 from rfl, B0, B2, Int.toNat_natCast]
      rw [left, show (((0 : Nat) : Int) + w).toNat = w.toNat by omega, List.getElem?_append_left (by omega)]
    · simp only at hw
      have bw := map_all mg w (List.mem_of_getElem? hw)
      simp only [show (2 : Int).toNat = 2 from rfl, show (1 : Int).toNat = 1 from rfl, B1, B2, Int.toNat_natCast]
      rw [left, List.getElem?_append_left (by omega), heq' t v (w + b.labels.length) ht hv (by rw [List.getElem?_map, hw]; rfl), show ((b.labels.length : Nat) : Int) + w = w + b.labels.length by omega]
  · refine hinv' (fun p => (joinsL (rangeI (bsB [b, c, a] 3)) (colF (pcD a b c f g) 2) (colG (pcD a b c f g) 2) (colF (pcD a b c f g) 2).length)[p]?) (fun i y z hi hy hz => ?_) p r hr
    obtain ⟨w, hw, rfl⟩ := mv_get hz
    exact (at0 i y hy).symm.trans (at1 i w hw)
theorem push_col (hf : arrS a b f = true) (hg : arrS a c g = true) (hl : a.labels.length + b.labels.length + c.labels.length ≤ 40) :
    colOb (pcD a b c f g) = gluedS (besideS b c) (puPl b c f g) ∧ (colLegs (pcD a b c f g))[0]? = some ((puPl b c f g).take b.labels.length) ∧ (colLegs (pcD a b c f g))[1]? = some ((puPl b c f g).drop b.labels.length) := by
  obtain ⟨B0, B1, B2, B3⟩ := pc_B (a := a) (b := b) (c := c)
  have hD := pc_ok hf hg
  have h40 : bsB (pcD a b c f g).nodes (pcD a b c f g).nodes.length ≤ 40 := by show bsB [b, c, a] 3 ≤ 40; omega
  obtain ⟨r1, r2, r3⟩ := push_rep hf hg
  obtain ⟨hok', hRl'⟩ := joins_ok _ f (gMv b g) r1 r2 f.length (Nat.le_refl _) (by omega)
  have mf := (arrS_iff.1 hf).2.2.1
  have lf := allY_length mf
  have hrep := pc_rep hf hg hl
  have hT : ∀ r ∈ (f.map fun y => (joinsL (rangeI (b.labels.length + c.labels.length)) f (gMv b g) f.length).getD y.toNat 0), 0 ≤ r ∧ r < ((joinsL (rangeI (b.labels.length + c.labels.length)) f (gMv b g) f.length).length : Int) := fun r hr => by
    obtain ⟨y, hy, rfl⟩ := List.mem_map.1 hr
    have hb := r1 y hy
    obtain ⟨z, hz⟩ : ∃ z, (joinsL (rangeI (b.labels.length + c.labels.length)) f (gMv b g) f.length)[y.toNat]? = some z := ⟨_, List.getElem?_eq_getElem (by omega)⟩
    have := hok' _ _ hz
    have := (List.getElem?_eq_some_iff.1 this.2).1
    rw [getD_of hz]; omega
  have hpl : colPl (pcD a b c f g) = puPl b c f g ++ f.map fun y => (puPl b c f g).getD y.toNat 0 := by
    show placesL (joinsL (rangeI (bsB (pcD a b c f g).nodes 3)) (colF (pcD a b c f g) 2) (colG (pcD a b c f g) 2) (colF (pcD a b c f g) 2).length) = _
    rw [hrep, places_ext hT, List.map_map]
    show puPl b c f g ++ _ = _
    congr 1
    refine List.map_congr_left fun y hy => ?_
    have hb := r1 y hy
    obtain ⟨z, hz⟩ : ∃ z, (joinsL (rangeI (b.labels.length + c.labels.length)) f (gMv b g) f.length)[y.toNat]? = some z := ⟨_, List.getElem?_eq_getElem (by omega)⟩
    have := pl_rep hok' hz
    simp only [Function.comp_apply, getD_of hz]
    rw [List.getD_eq_getElem?_getD, List.getD_eq_getElem?_getD]
    exact (congrArg (fun o => Option.getD o 0) this).symm
  have hlp := puPl_len b c f g
  have hpo : PlOK (puPl b c f g) := places_ok hok'.wf
  have hT2 : ∀ r ∈ (f.map fun y => (puPl b c f g).getD y.toNat 0), 0 ≤ r ∧ r < (glN (puPl b c f g) : Int) := fun r hr => by
    obtain ⟨y, hy, rfl⟩ := List.mem_map.1 hr
    have hb := r1 y hy
    obtain ⟨z, hz⟩ : ∃ z, (puPl b c f g)[y.toNat]? = some z := ⟨_, List.getElem?_eq_getElem (by omega)⟩
    rw [getD_of hz]; exact hpo.lt hz
  have hcl : (colPl (pcD a b c f g)).length = (puPl b c f g).length + (f.map fun y => (puPl b c f g).getD y.toNat 0).length := by rw [hpl, List.length_append]
  have hfst : fstL (colPl (pcD a b c f g)) (colPl (pcD a b c f g)).length = fstL (puPl b c f g) (puPl b c f g).length := by
    rw [hcl, hpl]; exact fst_ext hT2 _ (Nat.le_refl _)
  have hN : glN (colPl (pcD a b c f g)) = glN (puPl b c f g) := by unfold glN; rw [hfst]
  have hlow : ∀ z : Int, z.toNat < b.labels.length + c.labels.length → atN (colPl (pcD a b c f g)) z = atN (puPl b c f g) z := fun z hz => by
    unfold atN
    rw [hpl, List.getD_eq_getElem?_getD, List.getElem?_append_left (by omega), List.getD_eq_getElem?_getD]
  have hop : (bsS (pcD a b c f g).nodes).pairs = b.pairs.map (shP 0) ++ c.pairs.map (shP b.labels.length) ++ a.pairs.map (shP (b.labels.length + c.labels.length)) := by
    show prsT [b, c, a] 3 = _
    have e1 : prsT [b, c, a] 1 = b.pairs.map (shP 0) := by rw [prsT_succ (l := [b, c, a]) (k := 0) (o := b) rfl]; rfl
    rw [prsT_succ (l := [b, c, a]) (k := 2) (o := a) rfl, prsT_succ (l := [b, c, a]) (k := 1) (o := c) rfl, e1]
    rw [show (labsT [b, c, a] 1).length = b.labels.length from B1, show (labsT [b, c, a] 2).length = b.labels.length + c.labels.length from B2]
  have hb := (arrS_iff.1 hf).2.1
  have hc := (arrS_iff.1 hg).2.1
  have ha := (arrS_iff.1 hf).1
  have hsh0 : b.pairs.map (shP 0) = b.pairs := by
    have : ∀ p : Int × Int, shP 0 p = p := fun p => by simp [shP]
    rw [show shP 0 = id from funext this, List.map_id]
  have hmx : glMx (bsS (pcD a b c f g).nodes) (colPl (pcD a b c f g)) = glMx (besideS b c) (puPl b c f g) := by
    funext x y
    rw [Bool.eq_iff_iff]
    simp only [glMx, List.any_eq_true, Bool.and_eq_true, beq_iff_eq, hop, hsh0]
    constructor
    · rintro ⟨p, hp, hx, hy⟩
      rcases List.mem_append.1 hp with hp | hp
      · have hin : p.1.toNat < b.labels.length + c.labels.length ∧ p.2.toNat < b.labels.length + c.labels.length := by
          rcases List.mem_append.1 hp with hp | hp
          · have := inB_iff.1 ((List.all_eq_true.1 hb.inb) p hp); omega
          · obtain ⟨q, hq, rfl⟩ := List.mem_map.1 hp
            have := inB_iff.1 ((List.all_eq_true.1 hc.inb) q hq)
            simp only [shP]; omega
        exact ⟨p, hp, by rw [← hlow _ hin.1]; exact hx, by rw [← hlow _ hin.2]; exact hy⟩
      · obtain ⟨q, hq, rfl⟩ := List.mem_map.1 hp
        have hin := inB_iff.1 ((List.all_eq_true.1 ha.inb) q hq)
        obtain ⟨s, t, k1, k2, k3⟩ := arr_pair hf (x := q.1.toNat) (y := q.2.toNat) (mxOf_iff.2 ⟨q, hq, rfl, rfl⟩)
        obtain ⟨r, hr, e1, e2⟩ := mxOf_iff.1 k3
        have up : ∀ (z : Int) (s : Nat), 0 ≤ z → f[z.toNat]? = some (s : Int) → atN (colPl (pcD a b c f g)) (z + ((b.labels.length + c.labels.length : Nat) : Int)) = atN (puPl b c f g) (s : Int) := fun z s hz hs => by
          have hzl := (List.getElem?_eq_some_iff.1 hs).1
          have hb2 := r1 _ (List.mem_of_getElem? hs)
          unfold atN
          rw [hpl, List.getD_eq_getElem?_getD, List.getElem?_append_right (by omega), show (z + ((b.labels.length + c.labels.length : Nat) : Int)).toNat - (puPl b c f g).length = z.toNat by omega, List.getElem?_map, hs]; rfl
        have nn := hb.nonneg r hr
        refine ⟨r, List.mem_append_left _ hr, ?_, ?_⟩
        · rw [← hx, show r.1 = (s : Int) by omega]; exact (up q.1 s hin.1.1 k1).symm
        · rw [← hy, show r.2 = (t : Int) by omega]; exact (up q.2 t hin.2.1 k2).symm
    · rintro ⟨p, hp, hx, hy⟩
      have hin : p.1.toNat < b.labels.length + c.labels.length ∧ p.2.toNat < b.labels.length + c.labels.length := by
        rcases List.mem_append.1 hp with hp | hp
        · have := inB_iff.1 ((List.all_eq_true.1 hb.inb) p hp); omega
        · obtain ⟨q, hq, rfl⟩ := List.mem_map.1 hp
          have := inB_iff.1 ((List.all_eq_true.1 hc.inb) q hq)
          simp only [shP]; omega
      exact ⟨p, List.mem_append_left _ hp, by rw [hlow _ hin.1]; exact hx, by rw [hlow _ hin.2]; exact hy⟩
  have hlab : glLab (bsS (pcD a b c f g).nodes) (colPl (pcD a b c f g)) (colPl (pcD a b c f g)).length = glLab (besideS b c) (puPl b c f g) (puPl b c f g).length := by
    unfold glLab
    rw [hfst]
    refine List.map_congr_left fun i hi => ?_
    have hil := fst_mem _ _ _ hi
    rw [show (bsS (pcD a b c f g).nodes).labels = (besideS b c).labels ++ a.labels from by show labsT [b, c, a] 3 = _; simp [labsT, besideS], List.getD_eq_getElem?_getD, List.getElem?_append_left (by simp [besideS]; omega), List.getD_eq_getElem?_getD]
  refine ⟨?_, ?_, ?_⟩
  · show gluedS (bsS (pcD a b c f g).nodes) (colPl (pcD a b c f g)) = _
    unfold gluedS
    rw [hlab, hN, hmx]
  · obtain ⟨g0, g1, g2, _, g4⟩ := hD.leg h40 (k := 0) (o := b) rfl
    rw [g1]; congr 1
    apply List.ext_getElem?
    intro x
    rw [List.getElem?_take]
    by_cases hx : x < b.labels.length
    · have := g4 x hx
      rw [show bsB (pcD a b c f g).nodes 0 = 0 from B0, Nat.zero_add, hpl, List.getElem?_append_left (by omega)] at this
      rw [if_pos hx, this]
    · rw [if_neg hx, List.getElem?_eq_none (by omega)]
  · obtain ⟨g0, g1, g2, _, g4⟩ := hD.leg h40 (k := 1) (o := c) rfl
    rw [g1]; congr 1
    apply List.ext_getElem?
    intro x
    rw [List.getElem?_drop]
    by_cases hx : x < c.labels.length
    · have := g4 x hx
      rw [show bsB (pcD a b c f g).nodes 1 = b.labels.length from B1, hpl, List.getElem?_append_left (by omega)] at this
      rw [this]
    · rw [List.getElem?_eq_none (by omega), List.getElem?_eq_none (by omega)]
end
end Go.Proofs

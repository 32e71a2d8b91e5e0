/- Lemmas on the way to the statement of this claim; no conditions. -/
import Derived.Test.YtkdkajlgbhggdaaGreatDoorA42
open Go Go.V
namespace Go.Proofs
def basL (l : List Ob) (k : Nat) : List Int := (List.range k).map fun (i : Nat) => ((bsB l i : Nat) : Int)
theorem e6z (l : List Ob) (k : Nat) : (basL l k).length = k := by simp [basL]
theorem k4x (l : List Ob) (k : Nat) : basL l (k + 1) = basL l k ++ [((bsB l k : Nat) : Int)] := by simp [basL, List.range_succ]
theorem z1z {l : List Ob} {n k : Nat} (h : k < n) : (basL l n)[k]? = some ((bsB l k : Nat) : Int) := by simp [basL, h]
abbrev bsK (l : List Ob) (k : Nat) : Ob := ⟨f2q l k, prsT l k⟩
structure KoI (s : Sg) (d : Dia) (nb k m : Nat) (s' : Sg) : Prop where
 b0 : s'.m s.next = some (.box 25 [.t (h1q d.nodes), .t (tArs d.arrs)])
 b1 : s'.m (s.next + 1) = some (.box 29 [.t (.v (.slice none 0 0)), .t (.v (.slice none 0 0))])
 b : s'.m nb = some (.box 29 [.t (d1q (f2q d.nodes k)), .t (b3q (prsT d.nodes k))])
 a : s'.m m = some (.arr 1 3 ((basL d.nodes k).map TI))
 same : ∀ j, j < s.next → s'.m j = s.m j
 lb : s.next + 1 < nb
 lm : nb < m ∧ m < s'.next
theorem KoI.push {s : Sg} {d : Dia} {nb k m : Nat} {s1 : Sg} (h : KoI s d nb k m s1) (B : Blk) {o : Ob} (ho : d.nodes[k]? = some o) :
 KoI s d nb (k + 1) (s1.next + 1) ((((s1.add B).del m).add (.arr 1 3 ((basL d.nodes k).map TI ++ [TI ((bsB d.nodes k : Nat) : Int)]))).set nb (.box 29 [.t (d1q (f2q d.nodes k ++ o.labels)), .t (b3q (prsT d.nodes k ++ o.pairs.map (shP (f2q d.nodes k).length)))])) := by
 obtain ⟨b0, b1, b, a, hs, lb, lm, lm'⟩ := h
 have hfr : ∀ x, x < s1.next → x ≠ m → x ≠ nb → ((((s1.add B).del m).add (.arr 1 3 ((basL d.nodes k).map TI ++ [TI ((bsB d.nodes k : Nat) : Int)]))).set nb (.box 29 [.t (d1q (f2q d.nodes k ++ o.labels)), .t (b3q (prsT d.nodes k ++ o.pairs.map (shP (f2q d.nodes k).length)))])).m x = s1.m x := fun x g1 g2 g3 => by
  rw [b9q, if_neg g3, b7q, if_neg (by simp only [e9q, c6q]; omega), e4q, if_neg g2, b7q, if_neg (by omega)]
 refine ⟨by rw [hfr _ (by omega) (by omega) (by omega)]; exact b0, by rw [hfr _ (by omega) (by omega) (by omega)]; exact b1, by rw [b9q, if_pos rfl, m4q ho, r6q ho], by rw [b9q, if_neg (by omega), b7q, if_pos (by simp only [e9q, c6q]), k4x, List.map_append]; rfl, fun j hj => by rw [hfr _ (by omega) (by omega) (by omega)]; exact hs j hj, lb, by omega, by simp only [h9q, c6q, e9q]; omega⟩
set_option maxRecDepth 4000 in
theorem q9x {l : List Ob} (h : ∀ o ∈ l, o.pairs.length ≤ 1000) : ∀ k, (prsT l k).length ≤ k * 1000
 | 0 => by simp [prsT]
 | k + 1 => by
  have ih := q9x h k
  cases ho : l[k]? with
  | none => simp only [prsT, ho, List.append_nil]; omega
  | some o =>
   have := h o (List.mem_of_getElem? ho)
   rw [r6q ho, List.length_append, List.length_map]; omega
structure CrI (sV : Sg) (d : Dia) (p um k : Nat) (s' : Sg) : Prop where
 pr : RefU s' p um (j0q (e8q (bsB d.nodes d.nodes.length)) (colF d d.arrs.length) (colG d d.arrs.length) k)
 keep : Keep sV s'
 nx : sV.next ≤ s'.next
theorem leg_sl {pl g : List Int} {b n : Nat} (h1 : g.length = n) (h2 : ∀ x, x < n → g[x]? = pl[b + x]?) : (T.sl 1 (List.take (b + n - b) (List.drop b (List.map TI pl)))) = c0q g := by
 have hg : g = (pl.drop b).take n := by
  apply List.ext_getElem?
  intro x
  rw [List.getElem?_take, List.getElem?_drop]
  by_cases hx : x < n
  ·rw [if_pos hx]; exact h2 x hx
  ·rw [if_neg hx, List.getElem?_eq_none (by omega)]
 rw [show b + n - b = n by omega, ← List.map_drop, ← List.map_take, ← hg]
structure LgK (sX : Sg) (d : Dia) (m k : Nat) (s' : Sg) : Prop where
 a : s'.m m = some (.arr 1 40 (((d2q d).take k).map c0q))
 same : ∀ j, j < sX.next → s'.m j = sX.m j
 lo : sX.next ≤ m
 hi : m < s'.next
theorem LgK.push {sX : Sg} {d : Dia} {m k : Nat} {s1 : Sg} (h : LgK sX d m k s1) (B : Blk) {g : List Int} (hg : (d2q d)[k]? = some g) : LgK sX d (s1.next + 1) (k + 1) (((s1.add B).del m).add (.arr 1 40 (((d2q d).take k).map c0q ++ [c0q g]))) := by
 obtain ⟨a, hs, lo, hi⟩ := h
 refine ⟨?_, fun j hj => ?_, by omega, by simp only [c6q, e9q]; omega⟩
 ·rw [b7q, if_pos (by simp only [e9q, c6q]), List.take_add_one, hg, List.map_append]; rfl
 ·rw [b7q, if_neg (by simp only [e9q, c6q]; omega), e4q, if_neg (by omega), b7q, if_neg (by omega)]; exact hs j hj
theorem CrI.step {sV : Sg} {d : Dia} {p um k : Nat} {s1 s2 : Sg} (h : CrI sV d p um k s1) (hk : Keep s1 s2) (hn : s1.next ≤ s2.next) : CrI sV d p um k s2 :=
 ⟨h.pr.keep hk hn, h.keep.trans h.nx hk, Nat.le_trans h.nx hn⟩
set_option maxRecDepth 20000 in
set_option maxHeartbeats 8000000 in
theorem colR_ (d : Dia) (L : DiaLim d) (hp2 : ∀ o ∈ d.nodes, o.pairs.length ≤ 1000) : f7q Tryz.prog 9 [vDia d] (vCol (colS d)) := by
 refine b4q Tryz.func9 rfl fun s Q hQ => ?_
 obtain ⟨e, he, hl, h0⟩ : ∃ e : Env, ([vDia d] ++ List.replicate (Tryz.f9.ntmps - ([vDia d] : List V).length) .junk) = e ∧ e.length = 123 ∧ ev e (.tmp 0) = vDia d := ⟨_, rfl, rfl, rfl⟩
 rw [he]
 clear he
 have Ln := L.n
 have Lm := L.m
 refine vsk fun K1 hK1 => ?_
 refine a3q 0 [] ?_
 simp only [bs, ↓vopx, ↓vop, a1q, flat, V.cells, h0, wocs, ↓goc, ↓woc, ↓a2q, Tryz.zv29]
 refine hK1 _ _ ?_
 refine vsk fun K2 hK2 => ?_
 refine vsk fun K3 hK3 => ?_
 refine p3q fun sN hSN => ?_
 have hn62 : sN.m s.next = some (.box 25 [.t (h1q d.nodes), .t (tArs d.arrs)]) := by rw [hSN, b7q, if_neg (by simp only [c6q]; omega), b7q, if_pos rfl]
 have hn2 : sN.m (s.next + 1) = some (.box 29 [.t (.v (.slice none 0 0)), .t (.v (.slice none 0 0))]) := by rw [hSN, b7q, if_pos (by simp only [c6q])]
 have hnn : sN.next = s.next + 2 := by rw [hSN]; rfl
 have hnk : ∀ j, j < s.next → sN.m j = s.m j := fun j hj => by rw [hSN, b7q, if_neg (by simp only [c6q]; omega), b7q, if_neg (by omega)]
 clear hSN
 rcases (show bigD d = true ∨ bigD d = false by cases bigD d <;> simp) with kb | kb
 ·refine a3q 0 [.pur (Bo (bigD d))] ?_
  simp only [bs, Nat.reduceAdd, ↓vopx, ↓vop, Nat.reduceBEq, a1q, Nat.reduceLT, a8q, b0q, hl, wocs, ↓goc, ↓woc, ↓a2q, ↓b8q, a6q, Tryz.ag25, Tryz.sz25, hn62, kb]
  repeat ((with_reducible refine And.intro ?_ ?_); · exact ⟨Tryz.is24, by simpa only [kb] using bigR_ d L⟩)
  refine hK3 _ _ ?_
  refine vck fun A B hA hB => ?_
  simp only [b2q, a0q, lpv, Nat.reduceLT, true_implies, reduceCtorEq, false_implies, and_true, hl]
  refine hA ?_
  clear hA hB A B
  refine vsk fun K4 hK4 => ?_
  refine a3q 0 [] ?_
  simp only [bs, Nat.reduceAdd, d9q, g7q, ↓vopx, ↓vop, Nat.reduceBEq, a1q, flat, Nat.reduceLT, V.cells, hl, wocs, ↓goc, ↓woc, ↓a2q, Tryz.st29, Tryz.sz29, hn2]
  refine hK4 _ _ ?_
  refine b1q ?_
  have hres : vCol (colS d) = pack [vObj ⟨[], []⟩, .t (tMat []), I 11] := by simp [colS, vCol, noOb, kb]; rfl
  rw [hres] at hQ
  refine hQ _ _ _ (.inr rfl) (q7z (vs := [.agg [.t (.v (.slice none 0 0)), .t (.v (.slice none 0 0))], .t (.v (.slice none 0 0)), I 11]) (vs' := [vObj ⟨[], []⟩, .t (tMat []), I 11]) ?_ rfl (f1z _ _) (by simp [pack, nm, nm2, nm1, nm0]) ?_)
  ·show vres Tryz.prog _ _ [.cell 2 29, .tmp 3, .tmp 4] = _
   simp only [j6q, n9q, m1q, a0q, a4q, Nat.reduceBEq, lpv, hl, hn2, Tryz.sz29, Tryz.ag29, a8q, b9q, b0q, if_true, Nat.reduceLT, List.drop_zero, List.take_succ_cons, List.take_zero, List.length_cons, List.length_nil, Nat.zero_add, Nat.reduceAdd]
   try rfl
  ·exact fun n x hn h => by rw [b9q, if_neg (by omega), hnk n hn]; exact h
 ·refine a3q 0 [.pur (Bo (bigD d))] ?_
  simp only [bs, Nat.reduceAdd, ↓vopx, ↓vop, Nat.reduceBEq, a1q, Nat.reduceLT, a8q, b0q, hl, wocs, ↓goc, ↓woc, ↓a2q, ↓b8q, a6q, Tryz.ag25, Tryz.sz25, hn62, kb]
  repeat ((with_reducible refine And.intro ?_ ?_); · exact ⟨Tryz.is24, by simpa only [kb] using bigR_ d L⟩)
  refine hK3 _ _ ?_
  refine vck fun A B hA hB => ?_
  simp only [b2q, a0q, lpv, Nat.reduceLT, true_implies, reduceCtorEq, false_implies, true_and, hl]
  refine hB ?_
  clear hA hB A B
  refine a9q ?_
  refine hK2 _ _ ?_
  refine vsk fun K5 hK5 => ?_
  refine vsk fun K6 hK6 => ?_
  rcases (show diaS d = false ∨ diaS d = true by cases diaS d <;> simp) with kd | kd
  ·refine a3q 0 [.pur (Bo (diaS d))] ?_
   simp only [bs, Nat.reduceAdd, ↓vopx, ↓vop, Nat.reduceBEq, a1q, Nat.reduceLT, a8q, b0q, hl, wocs, ↓goc, ↓woc, ↓a2q, ↓b8q, a6q, Tryz.ag25, Tryz.sz25, hn62, kd]
   repeat ((with_reducible refine And.intro ?_ ?_); · exact ⟨Tryz.is15, by simpa only [kd] using x9q d L⟩)
   refine hK6 _ _ ?_
   refine vck fun A B hA hB => ?_
   simp only [b2q, a0q, lpv, Nat.reduceLT, true_implies, reduceCtorEq, false_implies, and_true, hl]
   refine hA ?_
   clear hA hB A B
   refine vsk fun K7 hK7 => ?_
   refine a3q 0 [] ?_
   simp only [bs, Nat.reduceAdd, d9q, g7q, ↓vopx, ↓vop, Nat.reduceBEq, a1q, flat, Nat.reduceLT, V.cells, hl, wocs, ↓goc, ↓woc, ↓a2q, Tryz.st29, Tryz.sz29, hn2]
   refine hK7 _ _ ?_
   refine b1q ?_
   have hres : vCol (colS d) = pack [vObj ⟨[], []⟩, .t (tMat []), I 10] := by simp [colS, vCol, noOb, kb, kd]; rfl
   rw [hres] at hQ
   refine hQ _ _ _ (.inr rfl) (q7z (vs := [.agg [.t (.v (.slice none 0 0)), .t (.v (.slice none 0 0))], .t (.v (.slice none 0 0)), I 10]) (vs' := [vObj ⟨[], []⟩, .t (tMat []), I 10]) ?_ rfl (f1z _ _) (by simp [pack, nm, nm2, nm1, nm0]) ?_)
   ·show vres Tryz.prog _ _ [.cell 2 29, .tmp 3, .tmp 4] = _
    simp only [j6q, n9q, m1q, a0q, a4q, Nat.reduceBEq, lpv, hl, hn2, Tryz.sz29, Tryz.ag29, a8q, b9q, b0q, if_true, Nat.reduceLT, List.drop_zero, List.take_succ_cons, List.take_zero, List.length_cons, List.length_nil, Nat.zero_add, Nat.reduceAdd]
    try rfl
   ·exact fun n x hn h => by rw [b9q, if_neg (by omega), hnk n hn]; exact h
  ·refine a3q 0 [.pur (Bo (diaS d))] ?_
   simp only [bs, Nat.reduceAdd, ↓vopx, ↓vop, Nat.reduceBEq, a1q, Nat.reduceLT, a8q, b0q, hl, wocs, ↓goc, ↓woc, ↓a2q, ↓b8q, a6q, Tryz.ag25, Tryz.sz25, hn62, kd]
   repeat ((with_reducible refine And.intro ?_ ?_); · exact ⟨Tryz.is15, by simpa only [kd] using x9q d L⟩)
   refine hK6 _ _ ?_
   refine vck fun A B hA hB => ?_
   simp only [b2q, a0q, lpv, Nat.reduceLT, true_implies, reduceCtorEq, false_implies, true_and, hl]
   refine hB ?_
   clear hA hB A B
   refine a9q ?_
   refine hK5 _ _ ?_
   refine vsk fun K8 hK8 => ?_
   have hD := x7q.1 kd
   have hBs : BsOK d.nodes := ⟨by have := hD.n; omega, hD.ob, hp2⟩
   have h40 : bsB d.nodes d.nodes.length ≤ 40 := c9j kb
   have hgl := hD.gl h40
   refine f4x 3 rfl ?_
   refine j3q 0 0 1 2 [] [] (by decide +kernel) (by decide) fun ops' KC hgs hKC => ?_
   simp only [bs, d9q, g7q, ↓vopx, wocs, ↓goc, ↓woc, ↓a2q, Tryz.st29]
   refine hKC _ _ ?_
   clear hgs hKC KC ops'
   refine x4q fun e5_0 hE => ?_
   have hl5_0 : e5_0.length = 123 := by rw [hE]; simp only [lpv, hl]
   have x1_1 : ev e5_0 (.tmp 1) = .ptr s.next 0 := by rw [hE]; simp only [a0q, a4q, Nat.reduceBEq, hl, Nat.reduceLT]
   have x1_2 : ev e5_0 (.tmp 2) = .ptr (s.next + 1) 0 := by rw [hE]; simp only [a0q, a4q, Nat.reduceBEq, lpv, hl, Nat.reduceLT]
   have x1_23 : ev e5_0 (.tmp 23) = .agg [.t (.v (.slice none 0 0)), .t (.v (.slice none 0 0))] := by rw [hE]; simp only [a0q, lpv, hl, Nat.reduceLT]
   clear hE
   refine j3q 0 1 2 0 [] [] (by decide +kernel) (by decide) fun ops' KC hgs hKC => ?_
   simp only [bs, Nat.reduceAdd, ↓vopx, ↓vop, Nat.reduceBEq, Nat.reduceLT, V.cells, hl5_0, x1_23, wocs, ↓goc, ↓woc, ↓a2q, Tryz.sz29, Tryz.zv29]
   refine hKC _ _ ?_
   clear hgs hKC KC ops'
   refine l4z ?_
   try simp only [a1q]
   refine hK8 _ _ ?_
   refine vsk fun K9 hK9 => ?_
   refine a3q 0 [] ?_
   simp only [bs, ↓vopx, ↓vop, a1q, flat, wocs, ↓goc, ↓woc, ↓a2q]
   refine hK9 _ _ ?_
   refine vsk fun K10 hK10 => ?_
   refine vsk fun K11 hK11 => ?_
   have u1 : ¬ s.next = sN.next := by omega
   have u2 : ¬ s.next + 1 = sN.next := by omega
   have u3 : ¬ s.next = sN.next + 1 := by omega
   have u4 : ¬ s.next + 1 = sN.next + 1 := by omega
   refine VW.nilBox sN.next 0 1 (by omega) (ty := 29) (vs := [.t (.v (.slice none 0 0)), .t (.v (.slice none 0 0))]) (by simp only [b9q, b7q, if_true]) rfl ?_
   refine VW.nilBox sN.next 1 2 (by omega) (ty := 29) (vs := [.t (.sl 1 []), .t (.v (.slice none 0 0))]) (by simp only [b9q, b7q, if_true, List.set_cons_zero]) rfl ?_
   refine VW.name 6 1 3 (by omega) (by simp only [a0q, lpv, hl5_0, Nat.reduceLT]) ?_
   refine u4x fun s6 hS6 => ?_
   have hI : KoI s d sN.next 0 (sN.next + 1) s6 := by
    refine ⟨?_, ?_, ?_, ?_, fun j hj => ?_, by omega, by omega, ?_⟩
    ·rw [hS6]; simp only [b9q, b7q, c6q, h9q, u1, u3, hn62, if_false, List.set_cons_zero, List.set_cons_succ]; try rfl
    ·rw [hS6]; simp only [b9q, b7q, c6q, h9q, u2, u4, hn2, if_false, List.set_cons_zero, List.set_cons_succ]; try rfl
    ·rw [hS6]; simp only [b9q, b7q, c6q, h9q, nns, if_true, if_false, List.set_cons_zero, List.set_cons_succ]; try rfl
    ·rw [hS6]; simp only [b9q, b7q, c6q, h9q, nns, if_true, if_false, List.set_cons_zero, List.set_cons_succ]; try rfl
    ·have z0 : ¬ j = sN.next := (by omega); have z1 : ¬ j = sN.next + 1 := (by omega); rw [hS6]; simp only [b9q, b7q, c6q, h9q, z0, z1, if_false]; exact hnk j hj
    ·rw [hS6]; simp only [c6q, h9q]; omega
   clear hS6
   refine a3q 0 [] ?_
   simp only [bs, ↓vopx, ↓vop, a1q, flat, wocs, ↓goc, ↓woc, ↓a2q]
   refine hK11 _ _ ?_
   refine a5q ?_
   refine c2q (fun mm e' s' => ∃ k : Nat, mm = d.nodes.length - k ∧ k ≤ d.nodes.length ∧ e'.length = 123 ∧ ev e' (.tmp 1) = .ptr s.next 0 ∧ ev e' (.tmp 2) = .ptr (s.next + 1) 0 ∧ ev e' (.tmp 5) = .ptr sN.next 0 ∧ ev e' (.tmp 7) = I k ∧ True ∧ ∃ m, ev e' (.tmp 6) = .loc m 0 k ∧ KoI s d sN.next k m s') (⟨0, rfl, Nat.zero_le _, ?_⟩) ?_
   ·try simp only [a0q, a4q, Nat.reduceBEq, lpv, hl5_0, x1_1, x1_2, Nat.reduceLT, true_and]
    repeat ((with_reducible refine And.intro ?_ ?_); · trivial)
    exact ⟨_, rfl, hI⟩
   rintro mm e s1 ⟨k, rfl, hle_k, hl, k1, k2, k5, h_k, hst, ⟨m, k6, hI⟩⟩
   refine vsk fun K12 hK12 => ?_
   refine vsk fun K13 hK13 => ?_
   have hb0 := hI.b0
   refine a3q 0 [] ?_
   simp only [bs, ↓vopx, ↓vop, Nat.reduceBEq, a1q, Nat.reduceLT, a8q, b0q, opII, hl, k1, h_k, wocs, ↓goc, ↓woc, ↓a2q, Tryz.ag22, Tryz.fd25_0, Tryz.sz22, Tryz.un22, d5q, nns, hb0]
   refine hK13 _ _ ?_
   refine vck fun A B hA hB => ?_
   simp only [b2q, a0q, lpv, Nat.reduceLT, decide_eq_true_eq, decide_eq_false_iff_not, hl]
   refine ⟨fun hc28 => hA ?_, fun hc28 => hB ?_⟩
   ·clear hA hB A B
    refine a9q ?_
    refine hK12 _ _ ?_
    refine vsk fun K14 hK14 => ?_
    refine a5q ?_
    refine vsk fun K15 hK15 => ?_
    have hlt : k < d.nodes.length := by omega
    obtain ⟨o, ho⟩ : ∃ o, d.nodes[k]? = some o := ⟨_, List.getElem?_eq_getElem hlt⟩
    have hb := hI.b
    have ha := hI.a
    have lm := hI.lm
    have lb := hI.lb
    have hbl := e6z d.nodes k
    have hlab := hBs.labs k
    have y1 : ¬ sN.next = s1.next := by omega
    have y2 : ¬ sN.next = m := by omega
    have y3 : ¬ m = s1.next := by omega
    have y4 : ¬ s1.next = m := by omega
    have y5 : ¬ sN.next = s1.next + 1 := by omega
    have y6 : ¬ s.next = s1.next := by omega
    have y7 : ¬ s.next = m := by omega
    have y8 : ¬ s.next = s1.next + 1 := by omega
    refine a3q 0 [] ?_
    simp only [bs, dstT, srcT, Nat.reduceLeDiff, d9q, g7q, repl, Sg.frzP, ↓vopx, ↓vop, Nat.reduceBEq, a1q, Nat.reduceLT, V.cells, a8q, b0q, Sg.frzL, Sg.frz1, hl, k5, k6, wocs, ↓goc, ↓woc, ↓a2q, Tryz.ag26, Tryz.fd29_0, Tryz.sl40, Tryz.sz26, Tryz.un26, c9q, nns, hb, ha, hbl, y3, Nat.div_one]
    repeat ((with_reducible refine And.intro ?_ ?_); · omega)
    refine hK15 _ _ ?_
    have g0 := d8z ho
    have hfl := f6q d.nodes
    have hi2 : k * 2 < d.nodes.length * 2 := by omega
    have hob := hD.ob o (List.mem_of_getElem? ho)
    have hpo := hp2 o (List.mem_of_getElem? ho)
    have hpk := q9x hp2 k
    have ho40 := hob.le
    have hk6 := hD.n
    refine c5q Tryz.mixed 6 [1, 0, 1, 0, 1, 1] [.pur (vObj (k7q (bsK d.nodes k) o))] [] 0 (by decide +kernel) (by simp [lpv, hl]) rfl ?_
    simp only [bs, Nat.reduceAdd, ↓vopx, ↓vop, Nat.reduceBEq, a1q, b5q, Nat.reduceLT, V.cells, a8q, b0q, hl, k1, k5, h_k, wocs, ↓goc, ↓woc, ↓a2q, ↓e3q, ↓b8q, a6q, chn, ↓goq, ↓woq, List.zip_cons_cons, List.zip_nil_right, Tryz.ag22, Tryz.ag29, Tryz.fd25_0, Tryz.sz22, Tryz.sz29, Tryz.un22, nns, hb, hb0, g0, hfl, hi2, y1, y2, y5, y6, y7, y8]
    repeat ((with_reducible refine And.intro ?_ ?_); · exact ⟨Tryz.is25, w0x (bsK d.nodes k) o (by simp only; omega) (by simp only; omega) (by omega) (by omega) hob⟩)
    refine hK14 _ _ ?_
    refine a3q 0 [] ?_
    simp only [bs, ↓vopx, ↓vop, Nat.reduceBEq, a1q, flat, Nat.reduceLT, opII, hl, k1, k2, k5, h_k, wocs, ↓goc, ↓woc, ↓a2q]
    repeat ((with_reducible refine And.intro ?_ ?_); · exact ⟨by omega, by omega⟩)
    refine ⟨d.nodes.length - (k + 1), by omega, k + 1, rfl, by omega, ?_⟩
    try simp only [a0q, a4q, Nat.reduceBEq, lpv, hl, k1, k2, k5, h_k, k6, if_true, if_false, Nat.reduceEqDiff, Nat.reduceLT, true_and, and_true]
    repeat ((with_reducible refine And.intro ?_ ?_); · trivial)
    exact ⟨_, rfl, hI.push _ ho⟩
   ·clear hA hB A B
    have hkn : k = d.nodes.length := by omega
    refine c1q ?_
    simp only [a1q, b5q, if_true]
    refine hK10 _ _ ?_
    refine vsk fun K16 hK16 => ?_
    have hb := hI.b
    have ha := hI.a
    have lm := hI.lm
    have lb := hI.lb
    have hb0 := hI.b0
    have hb1 := hI.b1
    have hsm := hI.same
    have hbl := e6z d.nodes k
    refine VW.freeze 6 (n := m) (len := k) (k := 1) (el := 3) (cs := (basL d.nodes k).map TI) ?_ ?_ (by simp [hbl]) ?_
    ·simp only [a4q, Nat.reduceBEq, k6]
    ·exact ha
    refine x1q fun ea hE => ?_
    have hl0_ := hl
    have hl : ea.length = 123 := by rw [hE]; simp only [lpv, hl0_]
    have k1 : ev ea (.tmp 1) = .ptr s.next 0 := by rw [hE]; simp only [a4q, Nat.reduceBEq, k1]
    have k2 : ev ea (.tmp 2) = .ptr (s.next + 1) 0 := by rw [hE]; simp only [a4q, Nat.reduceBEq, k2]
    have k5 : ev ea (.tmp 5) = .ptr sN.next 0 := by rw [hE]; simp only [a4q, Nat.reduceBEq, k5]
    have k6 : ev ea (.tmp 6) = .t (c0q (basL d.nodes k)) := by rw [hE]; simp only [a0q, lpv, hl0_, Nat.reduceLT]
    clear hE
    refine u4x fun sV hSV => ?_
    have v0 : sV.m s.next = some (.box 25 [.t (h1q d.nodes), .t (tArs d.arrs)]) := by rw [hSV, e4q, if_neg (by omega)]; exact hb0
    have v1 : sV.m (s.next + 1) = some (.box 29 [.t (.v (.slice none 0 0)), .t (.v (.slice none 0 0))]) := by rw [hSV, e4q, if_neg (by omega)]; exact hb1
    have v5 : sV.m sN.next = some (.box 29 [.t (d1q (f2q d.nodes k)), .t (b3q (prsT d.nodes k))]) := by rw [hSV, e4q, if_neg (by omega)]; exact hb
    have hvk : ∀ j, j < s.next → sV.m j = s.m j := fun j hj => by rw [hSV, e4q, if_neg (by omega)]; exact hsm j hj
    have hvN : sN.next < sV.next := by rw [hSV, e9q]; omega
    clear hSV
    subst hkn
    refine a3q 0 [.stop] ?_
    simp only [bs, Nat.reduceAdd, ↓vopx, ↓vop, a1q, Nat.reduceLT, a8q, b0q, hl, k5, wocs, ↓goc, ↓woc, ↓a2q, ↓b8q, a6q, Tryz.ag26, Tryz.fd29_0, Tryz.sz26, Tryz.un26, c9q, nns, v5]
    refine ⟨Tryz.is26, (a7j sV (bsB d.nodes d.nodes.length) (by omega)).mono fun v sU hv => ?_⟩
    obtain ⟨p, um, rfl, hpr, hup, hum, hku, hun⟩ := hv
    try simp only [bs, Nat.reduceLT, hl, Hold]
    refine hK16 _ _ ?_
    refine vsk fun K17 hK17 => ?_
    refine vsk fun K18 hK18 => ?_
    refine a3q 0 [] ?_
    simp only [bs, ↓vopx, ↓vop, a1q, flat, wocs, ↓goc, ↓woc, ↓a2q]
    refine hK18 _ _ ?_
    refine a5q ?_
    refine c2q (fun mm e' s' => ∃ k : Nat, mm = d.arrs.length - k ∧ k ≤ d.arrs.length ∧ e'.length = 123 ∧ ev e' (.tmp 1) = .ptr s.next 0 ∧ ev e' (.tmp 2) = .ptr (s.next + 1) 0 ∧ ev e' (.tmp 5) = .ptr sN.next 0 ∧ ev e' (.tmp 6) = .t (c0q (basL d.nodes d.nodes.length)) ∧ ev e' (.tmp 8) = .ptr p 0 ∧ ev e' (.tmp 9) = I k ∧ True ∧ CrI sV d p um (colF d k).length s') (⟨0, rfl, Nat.zero_le _, ?_⟩) ?_
    ·try simp only [a0q, a4q, Nat.reduceBEq, lpv, hl, k1, k2, k5, k6, Nat.reduceLT, true_and]
     repeat ((with_reducible refine And.intro ?_ ?_); · trivial)
     exact ⟨hpr, hku, hun⟩
    rintro mm e s1 ⟨k, rfl, hle_k, hl, q1, q2, q5, q6, q8, h_k, hst, hC⟩
    refine vsk fun K19 hK19 => ?_
    refine vsk fun K20 hK20 => ?_
    have c0 := hC.keep _ _ (by omega) v0
    refine a3q 0 [] ?_
    simp only [bs, ↓vopx, ↓vop, Nat.reduceBEq, a1q, Nat.reduceLT, a8q, b0q, opII, hl, q1, h_k, wocs, ↓goc, ↓woc, ↓a2q, Tryz.ag23, Tryz.fd25_1, Tryz.sz23, Tryz.un23, i0q, nns, c0]
    refine hK20 _ _ ?_
    refine vck fun A B hA hB => ?_
    simp only [b2q, a0q, lpv, Nat.reduceLT, decide_eq_true_eq, decide_eq_false_iff_not, hl]
    refine ⟨fun hc52 => hA ?_, fun hc52 => hB ?_⟩
    ·clear hA hB A B
     refine a9q ?_
     refine hK19 _ _ ?_
     refine vsk fun K21 hK21 => ?_
     refine a5q ?_
     refine vsk fun K22 hK22 => ?_
     have hlt : k < d.arrs.length := by omega
     obtain ⟨x, hx⟩ : ∃ x, d.arrs[k]? = some x := ⟨_, List.getElem?_eq_getElem hlt⟩
     have g0 := g8x hx
     have hfl := i6q d.arrs
     have hi2 : k * 3 < d.arrs.length * 3 := by omega
     obtain ⟨a, b, f0, hA, t0, hB, hab⟩ := hD.ar x (List.mem_of_getElem? hx)
     have hmp := f5q (f4q.1 hab).2.2.1
     have ha40 := (f4q.1 hab).1.le
     refine a3q 0 [] ?_
     simp only [bs, Nat.reduceAdd, ↓vopx, ↓vop, Nat.reduceBEq, a1q, Nat.reduceLT, V.cells, a8q, b0q, hl, q1, h_k, wocs, ↓goc, ↓woc, ↓a2q, Tryz.ag23, Tryz.ag49, Tryz.fd25_1, Tryz.sz23, Tryz.sz49, Tryz.un23, Tryz.zv49, nns, c0, g0, hfl, hi2]
     refine hK22 _ _ ?_
     refine vsk fun K23 hK23 => ?_
     refine d4q fun e2 s9_ hE2 hSb => ?_
     subst hE2
     have hbx : s9_.m s1.next = some (.box 49 [.t (TI x.fr), .t (TI x.to), .t (c0q x.mp)]) := by rw [hSb]; simp only [b9q, if_true]; try rfl
     have hC9 : CrI sV d p um (colF d k).length s9_ := by rw [hSb]; exact hC.step (((Keep.refl _).add (Nat.le_refl _) _).set (Nat.le_refl _) _) (by simp only [h9q, c6q]; omega)
     have hb9 : s1.next < s9_.next := by rw [hSb]; simp only [h9q, c6q]; omega
     have hv9 : sV.next ≤ s1.next := hC.nx
     have hu9 : um < s1.next := hC.pr.lm
     clear hSb
     obtain ⟨n9, hn9⟩ : ∃ n, n = s1.next := ⟨_, rfl⟩
     rw [← hn9] at hbx hb9 hv9 hu9
     refine a3q 0 [] ?_
     simp only [bs, ↓vopx, ↓vop, a1q, flat, wocs, ↓goc, ↓woc, ↓a2q]
     refine hK23 _ _ ?_
     refine a5q ?_
     refine c2q (fun mm e' s' => ∃ i : Nat, mm = x.mp.length - i ∧ i ≤ x.mp.length ∧ e'.length = 123 ∧ ev e' (.tmp 1) = .ptr s.next 0 ∧ ev e' (.tmp 2) = .ptr (s.next + 1) 0 ∧ ev e' (.tmp 5) = .ptr sN.next 0 ∧ ev e' (.tmp 6) = .t (c0q (basL d.nodes d.nodes.length)) ∧ ev e' (.tmp 8) = .ptr p 0 ∧ ev e' (.tmp 9) = I k ∧ ev e' (.tmp 10) = .ptr n9 0 ∧ ev e' (.tmp 11) = I i ∧ True ∧ CrI sV d p um ((colF d k).length + i) s' ∧ s'.m n9 = some (.box 49 [.t (TI x.fr), .t (TI x.to), .t (c0q x.mp)]) ∧ n9 < s'.next) (⟨0, rfl, Nat.zero_le _, ?_⟩) ?_
     ·try simp only [a0q, a4q, Nat.reduceBEq, lpv, hl, q1, q2, q5, q6, q8, h_k, ← hn9, Nat.reduceLT, true_and]
      repeat ((with_reducible refine And.intro ?_ ?_); · trivial)
      exact hb9
     rintro mm e s1 ⟨i, rfl, hle_i, hl, w1, w2, w5, w6, w8, w9, w10, h_i, hst, ⟨hC3, hb3, hn3⟩⟩
     refine vsk fun K24 hK24 => ?_
     refine vsk fun K25 hK25 => ?_
     refine a3q 0 [] ?_
     simp only [bs, ↓vopx, ↓vop, Nat.reduceBEq, a1q, Nat.reduceLT, a8q, b0q, opII, hl, w10, h_i, wocs, ↓goc, ↓woc, ↓a2q, Tryz.ag40, Tryz.fd49_2, Tryz.sz40, Tryz.un40, e2q, nns, hb3]
     refine hK25 _ _ ?_
     refine vck fun A B hA hB => ?_
     simp only [b2q, a0q, lpv, Nat.reduceLT, decide_eq_true_eq, decide_eq_false_iff_not, hl]
     refine ⟨fun hc64 => hA ?_, fun hc64 => hB ?_⟩
     ·clear hA hB A B
      refine a9q ?_
      refine hK24 _ _ ?_
      refine vsk fun K26 hK26 => ?_
      refine a5q ?_
      obtain ⟨w, hw⟩ : ∃ w, x.mp[i]? = some w := ⟨_, List.getElem?_eq_getElem (by omega)⟩
      have hil : i < x.mp.length := by omega
      have hlA := (List.getElem?_eq_some_iff.1 hA).1
      have hlB := (List.getElem?_eq_some_iff.1 hB).1
      have hcp := z5z hx hw
      have bw := t1q (f4q.1 hab).2.2.1 w (List.mem_of_getElem? hw)
      have g1 : (basL d.nodes d.nodes.length)[x.fr.toNat]? = _ := z1z hlA
      have g2 : (basL d.nodes d.nodes.length)[x.to.toNat]? = _ := z1z hlB
      have hbl := e6z d.nodes d.nodes.length
      have bA := x2q hA hlA
      have bB := x2q hB hlB
      have hRl := (w4q _ (colF d d.arrs.length) (colG d d.arrs.length) hgl.bF hgl.bG ((colF d k).length + i) (by have := (List.getElem?_eq_some_iff.1 hcp.1).1; omega) (by have := (List.getElem?_eq_some_iff.1 hcp.2).1; omega)).2
      rw [h5z] at hRl
      refine c5q Tryz.mixed 19 [0, 0, 0, 1, 1, 1, 0, 0, 0, 0, 1, 1, 1, 0, 1, 0, 1, 1, 0] [] [.stop] 0 (by decide +kernel) (by simp [lpv, hl]) rfl ?_
      simp only [bs, Nat.reduceAdd, ↓vopx, ↓vop, Nat.reduceBEq, a1q, b5q, Nat.reduceLT, a8q, b0q, opII, hl, w6, w8, w10, h_i, wocs, ↓goc, ↓woc, ↓e3q, ↓b8q, a6q, chn, ↓goq, ↓woq, List.zip_cons_cons, List.zip_nil_right, Tryz.ag3, Tryz.ag40, Tryz.fd49_0, Tryz.fd49_1, Tryz.fd49_2, Tryz.sz3, Tryz.sz40, Tryz.un40, nns, hb3, g1, g2, hw, hil, hbl, Int.toNat_natCast]
      repeat (refine And.intro (by first | omega | exact ⟨by omega, by omega⟩) ?_)
      rw [show (((bsB d.nodes x.fr.toNat : Nat) : Int) + (i : Int)) = ((bsB d.nodes x.fr.toNat + i : Nat) : Int) from by push_cast; rfl, show (((bsB d.nodes x.to.toNat : Nat) : Int) + w) = ((bsB d.nodes x.to.toNat + w.toNat : Nat) : Int) from by omega]
      refine ⟨Tryz.is27, (r5x s1 p um _ hC3.pr (by omega) (bsB d.nodes x.fr.toNat + i) (bsB d.nodes x.to.toNat + w.toNat) (by omega) (by omega)).mono fun v s2 hv => ?_⟩
      have hj2k := hv.keep hum hC3.keep
      obtain ⟨⟨bb, rfl⟩, hj2, hbt, hbn⟩ := hv
      try simp only [bs, Nat.reduceBEq, w6, w8, h_i, Hold]
      refine hK26 _ _ ?_
      refine a3q 0 [] ?_
      simp only [bs, ↓vopx, ↓vop, Nat.reduceBEq, a1q, flat, Nat.reduceLT, opII, hl, w1, w2, w5, w6, w8, w9, w10, h_i, wocs, ↓goc, ↓woc, ↓a2q]
      repeat ((with_reducible refine And.intro ?_ ?_); · exact ⟨by omega, by omega⟩)
      refine ⟨x.mp.length - (i + 1), by omega, i + 1, rfl, by omega, ?_⟩
      try simp only [a0q, a4q, Nat.reduceBEq, lpv, hl, w1, w2, w5, w6, w8, w9, w10, h_i, if_true, if_false, Nat.reduceEqDiff, Nat.reduceLT, true_and, and_true]
      repeat ((with_reducible refine And.intro ?_ ?_); · trivial)
      refine ⟨⟨?_, hj2k, by have := hC3.nx; omega⟩, ?_, by omega⟩
      ·rw [show (colF d k).length + (i + 1) = (colF d k).length + i + 1 from rfl, o8q hcp.1 hcp.2, Int.toNat_natCast, show (((bsB d.nodes x.to.toNat : Nat) : Int) + w).toNat = bsB d.nodes x.to.toNat + w.toNat by omega]; exact hj2
      ·rw [hbt _ (by omega)]; exact hb3
     ·clear hA hB A B
      have hie : i = x.mp.length := by omega
      refine c1q ?_
      simp only [a1q, b5q, if_true, if_false, Nat.reduceEqDiff]
      refine hK21 _ _ ?_
      refine a3q 0 [] ?_
      simp only [bs, ↓vopx, ↓vop, Nat.reduceBEq, a1q, flat, Nat.reduceLT, opII, hl, w1, w2, w5, w6, w8, w9, wocs, ↓goc, ↓woc, ↓a2q]
      repeat ((with_reducible refine And.intro ?_ ?_); · exact ⟨by omega, by omega⟩)
      refine ⟨d.arrs.length - (k + 1), by omega, k + 1, rfl, by omega, ?_⟩
      try simp only [a0q, a4q, Nat.reduceBEq, lpv, hl, q1, q2, q5, q6, q8, h_k, if_true, if_false, Nat.reduceEqDiff, Nat.reduceLT, true_and, and_true]
      repeat ((with_reducible refine And.intro ?_ ?_); · trivial)
      rw [r2q hx, List.length_append, p9q, ← hie]; exact hC3
    ·clear hA hB A B
     have hka : k = d.arrs.length := by omega
     refine c1q ?_
     simp only [a1q, b5q, if_true]
     refine hK17 _ _ ?_
     refine vsk fun K27 hK27 => ?_
     have h5_ := hC.keep _ _ (by omega) v5
     subst hka
     have hpl : c3q (j0q (e8q (bsB d.nodes d.nodes.length)) (colF d d.arrs.length) (colG d d.arrs.length) (colF d d.arrs.length).length) = i8q d := rfl
     have hRl := hgl.rep.2
     refine a3q 0 [.stop] ?_
     simp only [bs, Nat.reduceAdd, ↓vopx, ↓vop, Nat.reduceBEq, a1q, Nat.reduceLT, V.cells, a8q, b0q, hl, q5, q8, wocs, ↓goc, ↓woc, ↓a2q, ↓b8q, a6q, Tryz.ag29, Tryz.sz29, h5_]
     refine ⟨Tryz.is28, k0q.v (glued_ s1 p um _ hC.pr (y5z _ _ _ _) (bsS d.nodes) hgl.ob (by have := c8j hBs; omega) hRl) ?_⟩
     try simp only [bs, Nat.reduceAdd, Nat.reduceBEq, Nat.reduceLT, hl, q8, Tryz.sz29, Tryz.zv29, hpl, Hold]
     refine hK27 _ _ ?_
     refine vsk fun K28 hK28 => ?_
     refine p3q fun sX hSX => ?_
     have hx12 : sX.m s1.next = some (.box 29 [.t (d1q (j4q d).labels), .t (b3q (j4q d).pairs)]) := by rw [hSX, b9q, if_pos rfl]
     have hxs : ∀ j, j < s1.next → sX.m j = s1.m j := fun j hj => by rw [hSX, b9q, if_neg (by omega), b7q, if_neg (by omega)]
     have hxn : s1.next < sX.next := by rw [hSX]; simp only [h9q, c6q]; omega
     clear hSX
     have hnV := hC.nx
     have x0 : sX.m s.next = some (.box 25 [.t (h1q d.nodes), .t (tArs d.arrs)]) := by rw [hxs _ (by omega)]; exact hC.keep _ _ (by omega) v0
     have x1 : sX.m (s.next + 1) = some (.box 29 [.t (.v (.slice none 0 0)), .t (.v (.slice none 0 0))]) := by rw [hxs _ (by omega)]; exact hC.keep _ _ (by omega) v1
     have hxk : ∀ j c, j < s.next → s.m j = some c → sX.m j = some c := fun j c hj hc => by rw [hxs _ (by omega)]; exact hC.keep _ _ (by omega) (by rw [hvk j hj]; exact hc)
     obtain ⟨n12, hn12⟩ : ∃ n, n = s1.next := ⟨_, rfl⟩
     rw [← hn12] at hx12 hxn
     have hpll : (i8q d).length = bsB d.nodes d.nodes.length := hgl.len
     refine a3q 0 [] ?_
     simp only [bs, ↓vopx, ↓vop, a1q, flat, wocs, ↓goc, ↓woc, ↓a2q]
     refine hK28 _ _ ?_
     refine vsk fun K29 hK29 => ?_
     refine vsk fun K30 hK30 => ?_
     refine VW.name 14 1 40 (by omega) (by simp only [a0q, lpv, hl, Nat.reduceLT]) ?_
     refine u4x fun s7 hS7 => ?_
     have hK7 : LgK sX d sX.next 0 s7 := by
      refine ⟨?_, fun j hj => ?_, Nat.le_refl _, ?_⟩
      ·rw [hS7, b7q, if_pos rfl]; rfl
      ·rw [hS7, b7q, if_neg (by omega)]
      ·rw [hS7, c6q]; omega
     clear hS7
     refine a3q 0 [] ?_
     simp only [bs, ↓vopx, ↓vop, a1q, flat, wocs, ↓goc, ↓woc, ↓a2q]
     refine hK30 _ _ ?_
     refine a5q ?_
     refine c2q (fun mm e' s' => ∃ k : Nat, mm = d.nodes.length - k ∧ k ≤ d.nodes.length ∧ e'.length = 123 ∧ ev e' (.tmp 1) = .ptr s.next 0 ∧ ev e' (.tmp 2) = .ptr (s.next + 1) 0 ∧ ev e' (.tmp 6) = .t (c0q (basL d.nodes d.nodes.length)) ∧ ev e' (.tmp 12) = .ptr n12 0 ∧ ev e' (.tmp 13) = .t (c0q (i8q d)) ∧ ev e' (.tmp 15) = I k ∧ True ∧ ∃ m6, ev e' (.tmp 14) = .loc m6 0 k ∧ LgK sX d m6 k s') (⟨0, rfl, Nat.zero_le _, ?_⟩) ?_
     ·try simp only [a0q, a4q, Nat.reduceBEq, lpv, hl, q1, q2, q6, ← hn12, Nat.reduceLT, true_and]
      repeat ((with_reducible refine And.intro ?_ ?_); · trivial)
      exact ⟨_, rfl, hK7⟩
     rintro mm e s1 ⟨k, rfl, hle_k, hl, p1, p2, p6, p12, p13, h_k, hst, ⟨m6, p14, hK⟩⟩
     refine vsk fun K31 hK31 => ?_
     refine vsk fun K32 hK32 => ?_
     have y0 := (hK.same _ (by omega)).trans x0
     refine a3q 0 [] ?_
     simp only [bs, ↓vopx, ↓vop, Nat.reduceBEq, a1q, Nat.reduceLT, a8q, b0q, opII, hl, p1, h_k, wocs, ↓goc, ↓woc, ↓a2q, Tryz.ag22, Tryz.fd25_0, Tryz.sz22, Tryz.un22, d5q, nns, y0]
     refine hK32 _ _ ?_
     refine vck fun A B hA hB => ?_
     simp only [b2q, a0q, lpv, Nat.reduceLT, decide_eq_true_eq, decide_eq_false_iff_not, hl]
     refine ⟨fun hc97 => hA ?_, fun hc97 => hB ?_⟩
     ·clear hA hB A B
      refine a9q ?_
      refine hK31 _ _ ?_
      refine vsk fun K33 hK33 => ?_
      refine a5q ?_
      have hlt : k < d.nodes.length := by omega
      obtain ⟨o, ho⟩ : ∃ o, d.nodes[k]? = some o := ⟨_, List.getElem?_eq_getElem hlt⟩
      obtain ⟨g, e1, e2, e3, e4⟩ := hD.leg h40 ho
      have g0 := d2j ho
      have hfl := f6q d.nodes
      have hi2 : k * 2 < d.nodes.length * 2 := by omega
      have gb : (basL d.nodes d.nodes.length)[k]? = _ := z1z hlt
      have hbl := e6z d.nodes d.nodes.length
      have bA := x2q ho hlt
      have hKa := hK.a
      have hKl := hK.lo
      have hKh := hK.hi
      have o40 := (hD.ob o (List.mem_of_getElem? ho)).le
      have hct : ((d2q d).take k).length = k := by rw [List.length_take, h5q]; omega
      have z1 : ¬ m6 = s1.next := by omega
      have z2 : ¬ s1.next = m6 := by omega
      have hlo : ((bsB d.nodes k : Nat) : Int).toNat = bsB d.nodes k := Int.toNat_natCast _
      have hhi : (((bsB d.nodes k : Nat) : Int) + ((o.labels.length : Nat) : Int)).toNat = bsB d.nodes k + o.labels.length := by omega
      refine c5q Tryz.mixed 20 [0, 0, 0, 0, 1, 1, 0, 0, 1, 1, 0, 1, 0, 1, 0, 1, 0, 0, 1, 5] [] [] 0 (by decide +kernel) (by simp [lpv, hl]) rfl ?_
      simp only [bs, dstT, srcT, Nat.reduceLeDiff, d9q, g7q, repl, Sg.frzP, ↓vopx, ↓vop, Nat.reduceBEq, a1q, b5q, Nat.reduceLT, V.cells, a8q, b0q, opII, Sg.frzL, Sg.frz1, hl, p1, p6, p13, h_k, p14, wocs, ↓goc, ↓woc, ↓a2q, ↓e3q, chn, ↓goq, ↓woq, List.zip_cons_cons, List.zip_nil_right, Tryz.ag22, Tryz.ag26, Tryz.ag3, Tryz.fd25_0, Tryz.fd29_0, Tryz.sl30, Tryz.sl40, Tryz.sz22, Tryz.sz26, Tryz.sz29, Tryz.sz3, Tryz.un22, Tryz.un26, Tryz.un40, c9q, nns, y0, g0, hfl, hi2, gb, hbl, hlt, hKa, hct, z1, hlo, hhi, hpll, e2z, bnd, Nat.div_one]
      repeat ((with_reducible refine And.intro ?_ ?_); · first | omega | exact ⟨by omega, by omega⟩)
      refine hK33 _ _ ?_
      refine a3q 0 [] ?_
      simp only [bs, ↓vopx, ↓vop, Nat.reduceBEq, a1q, flat, Nat.reduceLT, opII, hl, p1, p2, p6, p12, p13, h_k, wocs, ↓goc, ↓woc, ↓a2q]
      repeat ((with_reducible refine And.intro ?_ ?_); · exact ⟨by omega, by omega⟩)
      refine ⟨d.nodes.length - (k + 1), by omega, k + 1, rfl, by omega, ?_⟩
      try simp only [a0q, a4q, Nat.reduceBEq, lpv, hl, p1, p2, p6, p12, p13, h_k, p14, if_true, if_false, Nat.reduceEqDiff, Nat.reduceLT, true_and, and_true]
      repeat ((with_reducible refine And.intro ?_ ?_); · trivial)
      rw [leg_sl e2 e4]
      exact ⟨_, rfl, hK.push _ e1⟩
     ·clear hA hB A B
      have hk6 : k = d.nodes.length := by omega
      refine c1q ?_
      simp only [a1q, b5q, if_true]
      refine hK29 _ _ ?_
      refine vsk fun K34 hK34 => ?_
      have hKa := hK.a
      have hKl := hK.lo
      have hct : ((d2q d).take k).length = k := by rw [List.length_take, h5q]; omega
      refine VW.freeze 14 (n := m6) (len := k) (k := 1) (el := 40) (cs := ((d2q d).take k).map c0q) ?_ ?_ (by rw [List.length_map, hct]; omega) ?_
      ·simp only [a4q, Nat.reduceBEq, p14]
      ·exact hKa
      have z9 : ¬ n12 = m6 := by omega
      have z8 : ¬ s.next + 1 = m6 := by omega
      have i12 : s1.m n12 = _ := (hK.same _ hxn).trans hx12
      have i2 : s1.m (s.next + 1) = _ := (hK.same _ (by omega)).trans x1
      refine a3q 0 [] ?_
      simp only [bs, Nat.reduceAdd, ↓vopx, ↓vop, Nat.reduceBEq, a1q, flat, Nat.reduceLT, V.cells, a8q, b0q, hl, p2, p12, wocs, ↓goc, ↓woc, ↓a2q, Tryz.ag29, Tryz.sz29, i12, i2, z8, z9]
      refine hK34 _ _ ?_
      refine b1q ?_
      have hres : vCol (colS d) = pack [vObj (j4q d), .t (tMat ((d2q d).take k)), I 0] := by rw [List.take_of_length_le (by rw [h5q]; omega)]; simp [colS, vCol, kb, kd]; rfl
      rw [hres] at hQ
      refine hQ _ _ _ (.inr rfl) ?_
      refine u8q (vs := [vObj (j4q d), .t (tMat ((d2q d).take k)), I 0]) ?_ rfl (by simp [pack, nm, nm2, nm1, nm0]) (fun n x hn h => by rw [b9q, if_neg (by omega), e4q, if_neg (by omega), hK.same _ (by omega)]; exact hxk n x hn h)
      show vres Tryz.prog _ _ [.cell 2 29, .tmp 3, .tmp 4] = _
      simp only [j6q, n9q, m1q, a0q, a4q, Nat.reduceBEq, lpv, hl, p2, Tryz.sz29, Tryz.ag29, a8q, b9q, b0q, if_true, Nat.reduceLT, List.drop_zero, List.take_succ_cons, List.take_zero, List.length_cons, List.length_nil, Nat.zero_add, Nat.reduceAdd]
end Go.Proofs

open Go Go.V
namespace Go.Proofs
def zutK (n : Nat) (legs ways : List (List Int)) : Nat → List Int
 | 0 => List.replicate n 0
 | i + 1 => putL (zutK n legs ways i) (legs.getD i []) (ways.getD i []) (legs.getD i []).length
theorem a9z (n : Nat) (legs ways : List (List Int)) : ∀ i, (zutK n legs ways i).length = n
 | 0 => by simp [zutK]
 | i + 1 => by unfold zutK; rw [t3q, a9z n legs ways i]
theorem g0x {n : Nat} {L ways : List (List Int)} (hL : ∀ (k : Nat) (l : List Int), L[k]? = some l → ∃ w, ways[k]? = some w ∧ l.length = w.length) (h0 : ∀ l ∈ L, ∀ y ∈ l, (0 : Int) ≤ y) :
 ∀ i, i ≤ L.length → ∀ v : Nat, (∃ (k : Nat) (l : List Int), k < i ∧ L[k]? = some l ∧ (v : Int) ∈ l) → (outK n L ways i)[v]? = (zutK n L ways i)[v]?
 | 0, _, v, h => by obtain ⟨k, _, h, _⟩ := h; omega
 | i + 1, hi, v, h => by
  obtain ⟨l, hl⟩ : ∃ l, L[i]? = some l := ⟨_, List.getElem?_eq_getElem hi⟩
  obtain ⟨w, hw, hlw⟩ := hL i l hl
  rw [r6z hl hw hlw]
  show _ = (putL (zutK n L ways i) (L.getD i []) (ways.getD i []) (L.getD i []).length)[v]?
  rw [fAtL hl, fAtL hw]
  refine w9z (by rw [w5q, a9z]) hlw (h0 l (List.mem_of_getElem? hl)) l.length (Nat.le_refl _) v ?_
  obtain ⟨k, l', h1, h2, h3⟩ := h
  by_cases hk : k = i
  ·subst hk
   rw [hl] at h2; cases h2
   exact .inl (by rw [List.take_of_length_le (Nat.le_refl _)]; exact h3)
  ·exact .inr (g0x hL h0 i (by omega) v ⟨k, l', by omega, h2, h3⟩)
theorem med_zut {d : Dia} (h : DiaOK d) (hl : bsB d.nodes d.nodes.length ≤ 40) {t : Ob} {ls : List (List Int)} (hL : h7q d t ls = true) : outS (j4q d).labels.length (d2q d) ls = zutK (j4q d).labels.length (d2q d) ls (d2q d).length := by
 obtain ⟨_, _, hlen, hw, _⟩ := z3q.1 hL
 have leg0 : ∀ (k : Nat) (l : List Int), (d2q d)[k]? = some l → ∃ o w, d.nodes[k]? = some o ∧ ls[k]? = some w ∧ l.length = w.length ∧ arrS o (j4q d) l = true := fun k l hk => by
  have hkl := (List.getElem?_eq_some_iff.1 hk).1
  rw [h5q] at hkl
  obtain ⟨o, ho⟩ : ∃ o, d.nodes[k]? = some o := ⟨_, List.getElem?_eq_getElem hkl⟩
  obtain ⟨g, g1, g2⟩ := h.legArr hl ho
  rw [hk] at g1; cases g1
  obtain ⟨w, w1, w2⟩ := hw k o ho
  have e1 := f5q (f4q.1 g2).2.2.1
  have e2 := f5q (f4q.1 w2).2.2.1
  exact ⟨o, w, ho, w1, by omega, g2⟩
 apply List.ext_getElem?
 intro v
 by_cases hv : v < (j4q d).labels.length
 ·refine g0x (fun k l hk => ?_) (fun l hlm y hy => ?_) _ (Nat.le_refl _) v ?_
  ·obtain ⟨o, w, _, h2, h3, _⟩ := leg0 k l hk
   exact ⟨w, h2, h3⟩
  ·obtain ⟨k, hk⟩ := List.getElem?_of_mem hlm
   obtain ⟨o, w, _, _, _, h4⟩ := leg0 k l hk
   exact (t1q (f4q.1 h4).2.2.1 y hy).1
  ·have hg := h.gl hl
   obtain ⟨p, hp⟩ := hg.onto hv
   have hpl := (List.getElem?_eq_some_iff.1 hp).1
   have hlen2 : (i8q d).length = bsB d.nodes d.nodes.length := hg.len
   change p < (i8q d).length at hpl
   obtain ⟨k, o, x, k1, k2, k3, rfl⟩ := bs_of d.nodes _ (Nat.le_refl _) p (by omega)
   obtain ⟨g, g1, _, _, g4⟩ := h.leg hl k2
   exact ⟨k, g, by rw [h5q]; exact k1, g1, List.mem_of_getElem? (by rw [g4 x k3]; exact hp)⟩
 ·have e1 : (outS (j4q d).labels.length (d2q d) ls).length = (j4q d).labels.length := w5q _ _ _ _
  have e2 := a9z (j4q d).labels.length (d2q d) ls (d2q d).length
  rw [List.getElem?_eq_none (by omega), List.getElem?_eq_none (by omega)]
set_option maxRecDepth 20000 in
set_option maxHeartbeats 8000000 in
theorem p1x (d : Dia) (L : DiaLim d) (hp2 : ∀ o ∈ d.nodes, o.pairs.length ≤ 1000) (t : Ob) (ls : List (List Int)) (ht1 : t.labels.length < 1000000) (ht2 : t.pairs.length < 1000000) (hl0 : ls.length < 1000000) (hls : ∀ g ∈ ls, g.length < 1000000) : f7q Tryz.prog 11 [vDia d, vObj t, .t (tMat ls)] (vMed (medD d t ls)) := by
 refine b4q Tryz.func11 rfl fun s Q hQ => ?_
 obtain ⟨e, he, hl, h0, h1, h2⟩ : ∃ e : Env, ([vDia d, vObj t, .t (tMat ls)] ++ List.replicate (Tryz.f11.ntmps - ([vDia d, vObj t, .t (tMat ls)] : List V).length) .junk) = e ∧ e.length = 71 ∧ ev e (.tmp 0) = vDia d ∧ ev e (.tmp 1) = vObj t ∧ ev e (.tmp 2) = .t (tMat ls) := ⟨_, rfl, rfl, rfl, rfl, rfl⟩
 rw [he]
 clear he
 refine vsk fun K1 hK1 => ?_
 refine a3q 0 [] ?_
 simp only [bs, ↓vopx, ↓vop, Nat.reduceBEq, a1q, flat, V.cells, h0, h1, wocs, ↓goc, ↓woc, ↓a2q]
 refine hK1 _ _ ?_
 refine vsk fun K2 hK2 => ?_
 refine x1q fun eqa hE => ?_
 have hlqa : eqa.length = 71 := by rw [hE]; simp only [lpv, hl]
 have qa_2 : ev eqa (.tmp 2) = .t (tMat ls) := by rw [hE]; simp only [a4q, Nat.reduceBEq, h2]
 have qa_3 : ev eqa (.tmp 3) = .ptr s.next 0 := by rw [hE]; simp only [a0q, a4q, Nat.reduceBEq, hl, Nat.reduceLT]
 have qa_4 : ev eqa (.tmp 4) = .ptr (s.next + 1) 0 := by rw [hE]; simp only [a0q, a4q, Nat.reduceBEq, lpv, hl, Nat.reduceLT]
 clear hE
 refine p3q fun sqa hS => ?_
 have qaB0 : sqa.m (s.next) = some (.box 25 [.t (h1q d.nodes), .t (tArs d.arrs)]) := by rw [hS]; simp only [b7q, c6q, nns, if_true, if_false, ]
 have qaB1 : sqa.m (s.next + 1) = some (.box 29 [.t (d1q t.labels), .t (b3q t.pairs)]) := by rw [hS]; simp only [b7q, c6q, nns, if_true, if_false, ]
 have hnqa : sqa.next = s.next + 1 + 1 := by rw [hS]; simp only [c6q, ]
 have hkqa : ∀ j, j < s.next → sqa.m j = s.m j := fun j hj => by have z0 : ¬ j = s.next := (by omega); have z1 : ¬ j = s.next + 1 := (by omega); rw [hS]; simp only [b7q, c6q, z0, z1, if_false]
 clear hS
 obtain ⟨q, own, ec, hR⟩ : ∃ q own ec, colS d = (q, own, ec) := ⟨_, _, _, rfl⟩
 have hcs := z1q d
 have hm0 : medD d t ls = if ec ≠ 0 then ([], ec) else if 40 < t.labels.length then ([], 11) else if h7q d t ls = false then ([], 12) else (outS q.labels.length own ls, 0) := by unfold medD; rw [hR]
 rw [hR] at hcs
 refine a3q 0 [.pur (.tup [vObj q, .t (tMat own), I ec])] ?_
 simp only [bs, Nat.reduceAdd, ↓vopx, ↓vop, Nat.reduceBEq, a1q, Nat.reduceLT, V.cells, a8q, b0q, hlqa, qa_3, qaB0, hnqa, wocs, ↓goc, ↓woc, ↓a2q, ↓b8q, a6q, Tryz.ag25, Tryz.sz25, Tryz.sz29, Tryz.zv29]
 repeat ((with_reducible refine And.intro ?_ ?_); · exact ⟨Tryz.is9, by have := colR_ d L hp2; rw [hR] at this; exact this⟩)
 refine hK2 _ _ ?_
 refine vsk fun K3 hK3 => ?_
 refine a5q ?_
 refine vsk fun K4 hK4 => ?_
 refine x1q fun eqb hE => ?_
 have hlqb : eqb.length = 71 := by rw [hE]; simp only [lpv, hlqa]
 have qb_2 : ev eqb (.tmp 2) = .t (tMat ls) := by rw [hE]; simp only [a4q, Nat.reduceBEq, qa_2]
 have qb_3 : ev eqb (.tmp 3) = .ptr s.next 0 := by rw [hE]; simp only [a4q, Nat.reduceBEq, qa_3]
 have qb_4 : ev eqb (.tmp 4) = .ptr (s.next + 1) 0 := by rw [hE]; simp only [a4q, Nat.reduceBEq, qa_4]
 have qb_8 : ev eqb (.tmp 8) = .ptr (s.next + 1 + 1) 0 := by rw [hE]; simp only [a0q, a4q, Nat.reduceBEq, lpv, hlqa, Nat.reduceLT]
 have qb_9 : ev eqb (.tmp 9) = .t (tMat own) := by rw [hE]; simp only [a0q, a4q, Nat.reduceBEq, lpv, hlqa, Nat.reduceLT]
 have qb_10 : ev eqb (.tmp 10) = I ec := by rw [hE]; simp only [a0q, lpv, hlqa, Nat.reduceLT]
 clear hE
 refine p3q fun sqb hS => ?_
 have qbB0 : sqb.m (s.next) = some (.box 25 [.t (h1q d.nodes), .t (tArs d.arrs)]) := by rw [hS]; simp only [b9q, b7q, nns, if_false, qaB0, hnqa]
 have qbB1 : sqb.m (s.next + 1) = some (.box 29 [.t (d1q t.labels), .t (b3q t.pairs)]) := by rw [hS]; simp only [b9q, b7q, nns, if_false, qaB1, hnqa]
 have qbB2 : sqb.m (s.next + 1 + 1) = some (.box 29 [.t (d1q q.labels), .t (b3q q.pairs)]) := by rw [hS]; simp only [b9q, b7q, if_true, hnqa]
 have hnqb : sqb.next = s.next + 1 + 1 + 1 := by rw [hS]; simp only [c6q, h9q, hnqa]
 have hkqb : ∀ j, j < s.next → sqb.m j = s.m j := fun j hj => by have z0 : ¬ j = s.next := (by omega); have z1 : ¬ j = s.next + 1 := (by omega); have z2 : ¬ j = s.next + 1 + 1 := (by omega); rw [hS]; simp only [b9q, b7q, hnqa, z2, if_false, hkqa j hj]
 clear hS
 rcases hcs with ⟨e, he0, hcs⟩ | ⟨hcs, hD, h40⟩
 ·obtain ⟨rfl, rfl, rfl⟩ : q = noOb ∧ own = [] ∧ ec = e := by simpa only [Prod.mk.injEq] using hcs
  refine a3q 0 [] ?_
  simp only [bs, ↓vopx, ↓vop, a1q, flat, Nat.reduceLT, opII, hlqb, qb_10, wocs, ↓goc, ↓woc, ↓a2q]
  refine hK4 _ _ ?_
  refine vck fun A B hA hB => ?_
  simp only [b2q, a0q, lpv, Nat.reduceLT, bne_iff_ne, bne_eq_false_iff_eq, ne_eq, true_implies, false_implies, and_true, hlqb, he0, not_false_eq_true]
  refine hA ?_
  clear hA hB A B
  refine vsk fun K5 hK5 => ?_
  refine a3q 0 [] ?_
  simp only [bs, ↓vopx, ↓vop, Nat.reduceBEq, a1q, flat, Nat.reduceLT, hlqb, qb_10, wocs, ↓goc, ↓woc, ↓a2q]
  refine hK5 _ _ ?_
  refine b1q ?_
  rw [show medD d t ls = ([], ec) from by rw [hm0, if_pos he0]] at hQ
  refine hQ _ _ _ (.inr rfl) (g3q (by omega) ?_ ?_ fun n b hn h => (hkqb n hn).trans h)
  ·simp only [a0q, a4q, Nat.reduceBEq, lpv, hlqb, Nat.reduceLT]
  ·simp only [a0q, lpv, hlqb, Nat.reduceLT]; try rfl
 ·obtain ⟨rfl, rfl, rfl⟩ : q = j4q d ∧ own = d2q d ∧ ec = 0 := by simpa only [Prod.mk.injEq] using hcs
  refine a3q 0 [] ?_
  simp only [bs, ↓vopx, ↓vop, a1q, flat, Nat.reduceLT, opII, hlqb, qb_10, wocs, ↓goc, ↓woc, ↓a2q]
  refine hK4 _ _ ?_
  refine vck fun A B hA hB => ?_
  simp only [b2q, a0q, lpv, Nat.reduceLT, bne_iff_ne, bne_eq_false_iff_eq, ne_eq, true_implies, false_implies, true_and, hlqb, not_true_eq_false]
  refine hB ?_
  clear hA hB A B
  refine vsk fun K6 hK6 => ?_
  rcases (show (t.labels.length : Int) > 40 ∨ ¬ (t.labels.length : Int) > 40 by omega) with hd0 | hd0
  ·refine a3q 0 [] ?_
   simp only [bs, ↓vopx, ↓vop, Nat.reduceBEq, a1q, flat, Nat.reduceLT, a8q, b0q, opII, hlqb, qb_4, qbB1, wocs, ↓goc, ↓woc, ↓a2q, Tryz.ag26, Tryz.fd29_0, Tryz.sz26, Tryz.un26, c9q, nns, hd0]
   refine hK6 _ _ ?_
   refine vck fun A B hA hB => ?_
   simp only [b2q, a0q, lpv, Nat.reduceLT, true_implies, reduceCtorEq, false_implies, and_true, hlqb]
   refine hA ?_
   clear hA hB A B
   refine vsk fun K7 hK7 => ?_
   refine a3q 0 [] ?_
   simp only [bs, ↓vopx, ↓vop, a1q, flat, wocs, ↓goc, ↓woc, ↓a2q]
   refine hK7 _ _ ?_
   refine b1q ?_
   rw [show medD d t ls = ([], 11) from by rw [hm0, if_neg (by simp), if_pos (by omega)]] at hQ
   refine hQ _ _ _ (.inr rfl) (g3q (by omega) ?_ ?_ fun n b hn h => (hkqb n hn).trans h)
   ·simp only [a0q, a4q, Nat.reduceBEq, lpv, hlqb, Nat.reduceLT]
   ·simp only [a0q, lpv, hlqb, Nat.reduceLT]; try rfl
  ·refine a3q 0 [] ?_
   simp only [bs, ↓vopx, ↓vop, Nat.reduceBEq, a1q, flat, Nat.reduceLT, a8q, b0q, opII, hlqb, qb_4, qbB1, wocs, ↓goc, ↓woc, ↓a2q, Tryz.ag26, Tryz.fd29_0, Tryz.sz26, Tryz.un26, c9q, nns, hd0]
   refine hK6 _ _ ?_
   refine vck fun A B hA hB => ?_
   simp only [b2q, a0q, lpv, Nat.reduceLT, true_implies, reduceCtorEq, false_implies, true_and, hlqb]
   refine hB ?_
   clear hA hB A B
   refine vsk fun K8 hK8 => ?_
   rcases (show h7q d t ls = false ∨ h7q d t ls = true by cases h7q d t ls <;> simp) with hc0 | hc0
   ·refine a3q 0 [.pur (Bo (h7q d t ls))] ?_
    simp only [bs, Nat.reduceAdd, ↓vopx, ↓vop, Nat.reduceBEq, a1q, Nat.reduceLT, a8q, b0q, hlqb, qb_2, qb_3, qb_4, qbB0, qbB1, wocs, ↓goc, ↓woc, ↓a2q, ↓b8q, a6q, Tryz.ag25, Tryz.ag29, Tryz.sz25, Tryz.sz29, hc0]
    repeat ((with_reducible refine And.intro ?_ ?_); · exact ⟨Tryz.is17, by simpa only [hc0] using o7x d L t ls ht1 ht2 hl0 hls⟩)
    refine hK8 _ _ ?_
    refine vck fun A B hA hB => ?_
    simp only [b2q, a0q, lpv, Nat.reduceLT, true_implies, reduceCtorEq, false_implies, and_true, hlqb]
    refine hA ?_
    clear hA hB A B
    refine vsk fun K9 hK9 => ?_
    refine a3q 0 [] ?_
    simp only [bs, ↓vopx, ↓vop, a1q, flat, wocs, ↓goc, ↓woc, ↓a2q]
    refine hK9 _ _ ?_
    refine b1q ?_
    rw [show medD d t ls = ([], 12) from by rw [hm0, if_neg (by simp), if_neg (by omega), if_pos hc0]] at hQ
    refine hQ _ _ _ (.inr rfl) (g3q (by omega) ?_ ?_ fun n b hn h => (hkqb n hn).trans h)
    ·simp only [a0q, a4q, Nat.reduceBEq, lpv, hlqb, Nat.reduceLT]
    ·simp only [a0q, lpv, hlqb, Nat.reduceLT]; try rfl
   ·refine a3q 0 [.pur (Bo (h7q d t ls))] ?_
    simp only [bs, Nat.reduceAdd, ↓vopx, ↓vop, Nat.reduceBEq, a1q, Nat.reduceLT, a8q, b0q, hlqb, qb_2, qb_3, qb_4, qbB0, qbB1, wocs, ↓goc, ↓woc, ↓a2q, ↓b8q, a6q, Tryz.ag25, Tryz.ag29, Tryz.sz25, Tryz.sz29, hc0]
    repeat ((with_reducible refine And.intro ?_ ?_); · exact ⟨Tryz.is17, by simpa only [hc0] using o7x d L t ls ht1 ht2 hl0 hls⟩)
    refine hK8 _ _ ?_
    refine vck fun A B hA hB => ?_
    simp only [b2q, a0q, lpv, Nat.reduceLT, true_implies, reduceCtorEq, false_implies, true_and, hlqb]
    refine hB ?_
    clear hA hB A B
    refine a9q ?_
    refine hK3 _ _ ?_
    refine vsk fun K10 hK10 => ?_
    have hob := (x9x hD h40).le
    have hcl := h5q (d := d)
    have hn6 := hD.n
    have hlen := (z3q.1 hc0).2.2.1
    refine a3q 0 [] ?_
    simp only [bs, ↓vopx, ↓vop, Nat.reduceBEq, a1q, Nat.reduceLT, a8q, b0q, hlqb, qb_8, qbB2, hnqb, wocs, ↓goc, ↓woc, ↓a2q, Tryz.ag26, Tryz.fd29_0, Tryz.sl40, Tryz.sz26, Tryz.un26, c9q, nns, b3j]
    repeat ((with_reducible refine And.intro ?_ ?_); · omega)
    refine hK10 _ _ ?_
    refine vsk fun K11 hK11 => ?_
    refine vsk fun K12 hK12 => ?_
    refine a3q 0 [] ?_
    simp only [bs, ↓vopx, ↓vop, a1q, flat, wocs, ↓goc, ↓woc, ↓a2q]
    refine hK12 _ _ ?_
    refine a5q ?_
    refine c2q (fun mm e' s' => ∃ k : Nat, mm = (d2q d).length - k ∧ k ≤ (d2q d).length ∧ e'.length = 71 ∧ ev e' (.tmp 2) = .t (tMat ls) ∧ ev e' (.tmp 9) = .t (tMat (d2q d)) ∧ ev e' (.tmp 12) = I k ∧ True ∧ ∃ m, ev e' (.tmp 11) = .loc m 0 (j4q d).labels.length ∧ s'.m m = some (.arr 1 3 ((zutK (j4q d).labels.length (d2q d) ls k).map TI)) ∧ (∀ j, j < sqb.next → s'.m j = sqb.m j) ∧ sqb.next ≤ m ∧ m < s'.next) (⟨0, rfl, Nat.zero_le _, ?_⟩) ?_
    ·try simp only [a0q, a4q, Nat.reduceBEq, lpv, hlqb, qb_2, qb_9, Nat.reduceLT, true_and]
     repeat ((with_reducible refine And.intro ?_ ?_); · trivial)
     exact ⟨_, rfl, by rw [b7q, if_pos hnqb.symm]; rfl, fun j hj => by rw [b7q, if_neg (by omega)], by omega, by simp only [c6q]; omega⟩
    rintro mm e s1 ⟨k, rfl, hle_k, hlk, k2, k9, h_k, hst, ⟨m, k11, hma, hms, hml, hmh⟩⟩
    refine vsk fun K13 hK13 => ?_
    refine vsk fun K14 hK14 => ?_
    refine a3q 0 [] ?_
    simp only [bs, ↓vopx, ↓vop, Nat.reduceBEq, a1q, Nat.reduceLT, opII, hlk, k9, h_k, wocs, ↓goc, ↓woc, ↓a2q, j7q]
    refine hK14 _ _ ?_
    refine vck fun A B hA hB => ?_
    simp only [b2q, a0q, lpv, Nat.reduceLT, decide_eq_true_eq, decide_eq_false_iff_not, hlk]
    refine ⟨fun hc42 => hA ?_, fun hc42 => hB ?_⟩
    ·clear hA hB A B
     refine a9q ?_
     refine hK13 _ _ ?_
     refine vsk fun K15 hK15 => ?_
     refine a5q ?_
     refine vsk fun K16 hK16 => ?_
     have hlt : k < (d2q d).length := by omega
     obtain ⟨g, hg⟩ : ∃ g, (d2q d)[k]? = some g := ⟨_, List.getElem?_eq_getElem hlt⟩
     obtain ⟨w, hw⟩ : ∃ w, ls[k]? = some w := ⟨_, List.getElem?_eq_getElem (by omega)⟩
     have hkl : k < ls.length := by omega
     have hgl := d7j hD h40 hg
     obtain ⟨o, ho⟩ : ∃ o, d.nodes[k]? = some o := ⟨_, List.getElem?_eq_getElem (by omega)⟩
     obtain ⟨g9, g91, g92⟩ := hD.legArr h40 ho
     rw [hg] at g91
     cases g91
     obtain ⟨w9, w91, w92⟩ := (z3q.1 hc0).2.2.2.1 k o ho
     rw [hw] at w91
     cases w91
     have lg := f5q (f4q.1 g92).2.2.1
     have lw := f5q (f4q.1 w92).2.2.1
     refine a3q 0 [] ?_
     simp only [bs, ↓vopx, ↓vop, a1q, flat, wocs, ↓goc, ↓woc, ↓a2q]
     refine hK16 _ _ ?_
     refine a5q ?_
     refine c2q (fun mm e' s' => ∃ x : Nat, mm = g.length - x ∧ x ≤ g.length ∧ e'.length = 71 ∧ ev e' (.tmp 2) = .t (tMat ls) ∧ ev e' (.tmp 9) = .t (tMat (d2q d)) ∧ ev e' (.tmp 12) = I k ∧ ev e' (.tmp 13) = I x ∧ True ∧ ev e' (.tmp 11) = .loc m 0 (j4q d).labels.length ∧ s'.m m = some (.arr 1 3 ((putL (zutK (j4q d).labels.length (d2q d) ls k) g w x).map TI)) ∧ (∀ j, j < sqb.next → s'.m j = sqb.m j) ∧ m < s'.next) (⟨0, rfl, Nat.zero_le _, ?_⟩) ?_
     ·try simp only [a0q, a4q, Nat.reduceBEq, lpv, hlk, k2, k9, h_k, Nat.reduceLT, true_and]
      repeat ((with_reducible refine And.intro ?_ ?_); · trivial)
      exact hmh
     rintro mm e s1 ⟨x, rfl, hle_x, hlx, q2, q9, q12, h_x, hst, ⟨q11, ina, ins, inh⟩⟩
     refine vsk fun K17 hK17 => ?_
     refine vsk fun K18 hK18 => ?_
     refine a3q 0 [] ?_
     simp only [bs, ↓vopx, ↓vop, Nat.reduceBEq, a1q, Nat.reduceLT, a8q, b0q, opII, hlx, q9, q12, h_x, wocs, ↓goc, ↓woc, ↓a2q, Tryz.ag40, Tryz.sz40, Tryz.un30, Tryz.un40, e2q, hg, hlt]
     refine hK18 _ _ ?_
     refine vck fun A B hA hB => ?_
     simp only [b2q, a0q, lpv, Nat.reduceLT, decide_eq_true_eq, decide_eq_false_iff_not, hlx]
     refine ⟨fun hc51 => hA ?_, fun hc51 => hB ?_⟩
     ·clear hA hB A B
      refine a9q ?_
      refine hK17 _ _ ?_
      refine vsk fun K19 hK19 => ?_
      refine a5q ?_
      obtain ⟨y, hy⟩ : ∃ y, g[x]? = some y := ⟨_, List.getElem?_eq_getElem (by omega)⟩
      obtain ⟨z, hz⟩ : ∃ z, w[x]? = some z := ⟨_, List.getElem?_eq_getElem (by omega)⟩
      have hxl : x < g.length := by omega
      have hxw : x < w.length := by omega
      have hyb := t1q (f4q.1 g92).2.2.1 y (List.mem_of_getElem? hy)
      have hpl := t3q (zutK (j4q d).labels.length (d2q d) ls k) g w x
      have hzl := a9z (j4q d).labels.length (d2q d) ls k
      refine c5q Tryz.mixed 15 [0, 0, 0, 1, 1, 0, 1, 1, 0, 0, 1, 1, 0, 1, 1] [] [] 0 (by decide +kernel) (by simp [lpv, hlx]) rfl ?_
      simp only [bs, ↓vopx, ↓vop, Nat.reduceBEq, a1q, b5q, Nat.reduceLT, V.cells, a8q, b0q, Sg.frzL, Sg.frz1, hlx, q2, q9, q12, h_x, q11, wocs, ↓goc, ↓woc, ↓a2q, ↓e3q, chn, ↓goq, ↓woq, List.zip_cons_cons, List.zip_nil_right, Tryz.ag3, Tryz.ag40, Tryz.sz3, Tryz.sz40, Tryz.un30, Tryz.un40, hy, hz, hg, hw, hlt, hkl, hxl, hxw, ina, hpl, hzl]
      repeat ((with_reducible refine And.intro ?_ ?_); · omega)
      refine hK19 _ _ ?_
      refine a3q 0 [] ?_
      simp only [bs, ↓vopx, ↓vop, Nat.reduceBEq, a1q, flat, Nat.reduceLT, opII, hlx, q2, q9, q12, h_x, q11, wocs, ↓goc, ↓woc, ↓a2q]
      repeat ((with_reducible refine And.intro ?_ ?_); · exact ⟨by omega, by omega⟩)
      refine ⟨g.length - (x + 1), by omega, x + 1, rfl, by omega, ?_⟩
      try simp only [a0q, a4q, Nat.reduceBEq, lpv, hlx, q2, q9, q12, h_x, q11, if_true, if_false, Nat.reduceEqDiff, Nat.reduceLT, true_and, and_true]
      repeat ((with_reducible refine And.intro ?_ ?_); · trivial)
      exact ⟨by rw [r9q _ (by rw [hpl, hzl]; omega), z8q hy hz], fun j hj => by rw [if_neg (by omega)]; exact ins j hj, inh⟩
     ·clear hA hB A B
      have hxg : x = g.length := by omega
      refine c1q ?_
      simp only [a1q, b5q, if_true, if_false, Nat.reduceEqDiff]
      refine hK15 _ _ ?_
      refine a3q 0 [] ?_
      simp only [bs, ↓vopx, ↓vop, Nat.reduceBEq, a1q, flat, Nat.reduceLT, opII, hlx, q2, q9, q12, q11, wocs, ↓goc, ↓woc, ↓a2q]
      repeat ((with_reducible refine And.intro ?_ ?_); · exact ⟨by omega, by omega⟩)
      refine ⟨(d2q d).length - (k + 1), by omega, k + 1, rfl, by omega, ?_⟩
      try simp only [a0q, a4q, Nat.reduceBEq, lpv, hlk, k2, k9, h_k, k11, if_true, if_false, Nat.reduceEqDiff, Nat.reduceLT, true_and, and_true]
      repeat ((with_reducible refine And.intro ?_ ?_); · trivial)
      exact ⟨m, rfl, by rw [hxg] at ina; show s1.m m = some (.arr 1 3 ((putL _ ((d2q d).getD k []) (ls.getD k []) ((d2q d).getD k []).length).map TI)); rw [fAtL hg, fAtL hw]; exact ina, ins, hml, inh⟩
    ·clear hA hB A B
     have hkn : k = (d2q d).length := by omega
     refine c1q ?_
     simp only [a1q, b5q, if_true]
     refine hK11 _ _ ?_
     refine vsk fun K20 hK20 => ?_
     refine a3q 0 [] ?_
     simp only [bs, ↓vopx, ↓vop, Nat.reduceBEq, a1q, flat, Nat.reduceLT, hlk, k11, wocs, ↓goc, ↓woc, ↓a2q]
     refine hK20 _ _ ?_
     refine b1q ?_
     rw [show medD d t ls = (zutK (j4q d).labels.length (d2q d) ls (d2q d).length, 0) from by rw [hm0, if_neg (by simp), if_neg (by omega), if_neg (by rw [hc0]; simp), med_zut hD h40 hc0]] at hQ
     rw [hkn] at hma
     refine hQ _ _ _ (.inr rfl) (s8q (n := m) (len := (j4q d).labels.length) ?_ ?_ hma ?_ (by omega) fun j b hj h => (hms j (by omega)).trans ((hkqb j hj).trans h))
     ·simp only [a0q, a4q, Nat.reduceBEq, lpv, hlk, Nat.reduceLT]
     ·simp only [a0q, lpv, hlk, Nat.reduceLT]; try rfl
     ·rw [List.length_map, a9z, Nat.mul_one]
end Go.Proofs

open Go Go.V
namespace Go.Proofs
theorem l8x (d : Dia) (h : d.nodes.length ≤ 10) : (colS d).1.labels.length ≤ 40 ∧ (colS d).1.pairs.length ≤ 1600 ∧ (colS d).2.1.length ≤ 10 ∧ ∀ g ∈ (colS d).2.1, g.length ≤ 40 := by
 rcases z1q d with ⟨e, he, hc⟩ | ⟨hc, hD, h40⟩
 ·rw [hc]; simp [noOb]
 ·rw [hc]
  obtain ⟨q1, q2⟩ := c9x hD h40
  have := h5q (d := d)
  exact ⟨q1, q2, by show (d2q d).length ≤ 10; omega, fun g hg => by obtain ⟨k, hk⟩ := List.getElem?_of_mem hg; exact d7j hD h40 hk⟩
theorem p0x (d : Dia) (t : Ob) (ls : List (List Int)) : (medD d t ls).1.length ≤ 1600 := by
 unfold medD
 rcases z1q d with ⟨e, he, hc⟩ | ⟨hc, hD, h40⟩
 ·rw [hc, if_pos he]; simp
 ·rw [hc, if_neg (by simp)]
  obtain ⟨q1, q2⟩ := c9x hD h40
  split
  ·simp
  ·split
   ·simp
   ·show (outS (j4q d).labels.length (d2q d) ls).length ≤ 1600
    rw [show (outS (j4q d).labels.length (d2q d) ls).length = (j4q d).labels.length from w5q _ _ _ _]; omega
set_option maxRecDepth 20000 in
set_option maxHeartbeats 8000000 in
theorem v9z (d : Dia) (t : Ob) (ls : List (List Int)) (hD0 : DiaBig d) (ht1 : t.labels.length ≤ 9223372036854775807) (ht2 : t.pairs.length ≤ 9223372036854775807) (hM0 : ls.length ≤ 9223372036854775807 ∧ ∀ x ∈ ls, x.length ≤ 9223372036854775807) : f7q Tryz.prog 3 [vDia d, vObj t, .t (tMat ls)] (Bo true) := by
 refine b4q Tryz.func3 rfl fun s Q hQ => ?_
 obtain ⟨e, he, hl, h0, h1, h2⟩ : ∃ e : Env, ([vDia d, vObj t, .t (tMat ls)] ++ List.replicate (Tryz.f3.ntmps - ([vDia d, vObj t, .t (tMat ls)] : List V).length) .junk) = e ∧ e.length = 118 ∧ ev e (.tmp 0) = vDia d ∧ ev e (.tmp 1) = vObj t ∧ ev e (.tmp 2) = .t (tMat ls) := ⟨_, rfl, rfl, rfl, rfl, rfl⟩
 rw [he]
 clear he
 refine vsk fun K1 hK1 => ?_
 refine a3q 0 [] ?_
 simp only [bs, ↓vopx, ↓vop, Nat.reduceBEq, a1q, flat, V.cells, h0, h1, wocs, ↓goc, ↓woc, ↓a2q]
 refine hK1 _ _ ?_
 refine vsk fun K2 hK2 => ?_
 refine vsk fun K3 hK3 => ?_
 refine a3q 0 [.pur (Bo true)] ?_
 simp only [bs, ↓vopx, ↓vop, a1q, Nat.reduceLT, hl, wocs, ↓goc, ↓woc, ↓a2q, ↓b8q, a6q]
 repeat ((with_reducible refine And.intro ?_ ?_); · exact ⟨Tryz.is4, known9_⟩)
 refine hK3 _ _ ?_
 refine vck fun A B hA hB => ?_
 simp only [b2q, a0q, lpv, Nat.reduceLT, true_implies, reduceCtorEq, false_implies, true_and, hl]
 refine hB ?_
 clear hA hB A B
 refine a9q ?_
 refine hK2 _ _ ?_
 refine vsk fun K4 hK4 => ?_
 refine vsk fun K5 hK5 => ?_
 rcases (show fewD d = false ∨ (fewD d = true ∧ (fewS t = false ∨ (fewS t = true ∧ (fewM ls = false ∨ fewM ls = true)))) by cases (fewD d) <;> cases (fewS t) <;> cases (fewM ls) <;> simp <;> omega) with hfd | ⟨hfd, hft | ⟨hft, hfm | hfm⟩⟩
 ·refine a3q 0 [.pur (Bo (fewD d))] ?_
  simp only [bs, Nat.reduceAdd, ↓vopx, ↓vop, Nat.reduceBEq, a1q, flat, Nat.reduceLT, a8q, b0q, gtmp, hl, wocs, ↓goc, ↓woc, ↓a2q, ↓b8q, ↓e5q, a6q, Tryz.ag25, Tryz.sz25, nns, hfd]
  repeat ((with_reducible refine And.intro ?_ ?_); · exact ⟨Tryz.is5, by simpa only [hfd] using q9z d hD0⟩)
  refine hK5 _ _ ?_
  refine vck fun A B hA hB => ?_
  simp only [b2q, a0q, lpv, Nat.reduceLT, true_implies, reduceCtorEq, false_implies, and_true, hl]
  refine hA ?_
  clear hA hB A B
  refine vsk fun K6 hK6 => ?_
  refine a3q 0 [] ?_
  simp only [bs, ↓vopx, ↓vop, a1q, flat, wocs, ↓goc, ↓woc, ↓a2q]
  refine hK6 _ _ ?_
  refine b1q ?_
  refine hQ _ _ _ (.inr rfl) (a7q ?_ fun n b hn h => by simp [Sg.add, show n ≠ s.next by omega, show n ≠ s.next + 1 by omega, h])
  try simp only [a0q, lpv, hl, Nat.reduceLT]
 ·obtain ⟨L, Lp, Lo, Ln, Lm, La⟩ := r0z hfd
  refine a3q 0 [.pur (Bo (fewD d)), .pur (Bo (fewS t))] ?_
  simp only [bs, Nat.reduceAdd, ↓vopx, ↓vop, Nat.reduceBEq, a1q, flat, Nat.reduceLT, a8q, b0q, gtmp, hl, wocs, ↓goc, ↓woc, ↓a2q, ↓b8q, ↓c8q, ↓e5q, a6q, Tryz.ag25, Tryz.ag29, Tryz.sz25, Tryz.sz29, nns, hfd, hft]
  repeat ((with_reducible refine And.intro ?_ ?_); · first | exact ⟨Tryz.is5, by simpa only [hfd] using q9z d hD0⟩ | exact ⟨Tryz.is6, by simpa only [hft] using x2x t (by omega) (by omega)⟩)
  refine hK5 _ _ ?_
  refine vck fun A B hA hB => ?_
  simp only [b2q, a0q, lpv, Nat.reduceLT, true_implies, reduceCtorEq, false_implies, and_true, hl]
  refine hA ?_
  clear hA hB A B
  refine vsk fun K7 hK7 => ?_
  refine a3q 0 [] ?_
  simp only [bs, ↓vopx, ↓vop, a1q, flat, wocs, ↓goc, ↓woc, ↓a2q]
  refine hK7 _ _ ?_
  refine b1q ?_
  refine hQ _ _ _ (.inr rfl) (a7q ?_ fun n b hn h => by simp [Sg.add, show n ≠ s.next by omega, show n ≠ s.next + 1 by omega, h])
  try simp only [a0q, lpv, hl, Nat.reduceLT]
 ·obtain ⟨L, Lp, Lo, Ln, Lm, La⟩ := r0z hfd
  have bt := n4z hft
  refine a3q 0 [.pur (Bo (fewD d)), .pur (Bo (fewS t)), .pur (Bo (fewM ls))] ?_
  simp only [bs, Nat.reduceAdd, ↓vopx, ↓vop, Nat.reduceBEq, a1q, flat, Nat.reduceLT, a8q, b0q, gtmp, hl, h2, wocs, ↓goc, ↓woc, ↓a2q, ↓b8q, ↓c8q, a6q, Tryz.ag25, Tryz.ag29, Tryz.sz25, Tryz.sz29, nns, hfd, hft, hfm]
  repeat ((with_reducible refine And.intro ?_ ?_); · first | exact ⟨Tryz.is5, by simpa only [hfd] using q9z d hD0⟩ | exact ⟨Tryz.is6, by simpa only [hft] using x2x t (by omega) (by omega)⟩ | exact ⟨Tryz.is7, by simpa only [hfm] using d3x ls hM0.1 hM0.2⟩)
  refine hK5 _ _ ?_
  refine vck fun A B hA hB => ?_
  simp only [b2q, a0q, lpv, Nat.reduceLT, true_implies, reduceCtorEq, false_implies, and_true, hl]
  refine hA ?_
  clear hA hB A B
  refine vsk fun K8 hK8 => ?_
  refine a3q 0 [] ?_
  simp only [bs, ↓vopx, ↓vop, a1q, flat, wocs, ↓goc, ↓woc, ↓a2q]
  refine hK8 _ _ ?_
  refine b1q ?_
  refine hQ _ _ _ (.inr rfl) (a7q ?_ fun n b hn h => by simp [Sg.add, show n ≠ s.next by omega, show n ≠ s.next + 1 by omega, h])
  try simp only [a0q, lpv, hl, Nat.reduceLT]
 ·obtain ⟨L, Lp, Lo, Ln, Lm, La⟩ := r0z hfd
  have bt := n4z hft
  obtain ⟨Mn, Ml⟩ := x3x hfm
  refine a3q 0 [.pur (Bo (fewD d)), .pur (Bo (fewS t)), .pur (Bo (fewM ls))] ?_
  simp only [bs, Nat.reduceAdd, ↓vopx, ↓vop, Nat.reduceBEq, a1q, flat, Nat.reduceLT, a8q, b0q, gtmp, hl, h2, wocs, ↓goc, ↓woc, ↓a2q, ↓b8q, ↓c8q, a6q, Tryz.ag25, Tryz.ag29, Tryz.sz25, Tryz.sz29, nns, hfd, hft, hfm]
  repeat ((with_reducible refine And.intro ?_ ?_); · first | exact ⟨Tryz.is5, by simpa only [hfd] using q9z d hD0⟩ | exact ⟨Tryz.is6, by simpa only [hft] using x2x t (by omega) (by omega)⟩ | exact ⟨Tryz.is7, by simpa only [hfm] using d3x ls hM0.1 hM0.2⟩)
  refine hK5 _ _ ?_
  refine vck fun A B hA hB => ?_
  simp only [b2q, a0q, lpv, Nat.reduceLT, true_implies, reduceCtorEq, false_implies, true_and, hl]
  refine hB ?_
  clear hA hB A B
  refine a9q ?_
  refine hK4 _ _ ?_
  refine vsk fun K9 hK9 => ?_
  refine x1q fun eqa hE => ?_
  have hlqa : eqa.length = 118 := by rw [hE]; simp only [lpv, hl]
  have qa_2 : ev eqa (.tmp 2) = .t (tMat ls) := by rw [hE]; simp only [a4q, Nat.reduceBEq, h2]
  have qa_3 : ev eqa (.tmp 3) = .ptr (s.next) 0 := by rw [hE]; simp only [a0q, a4q, Nat.reduceBEq, hl, Nat.reduceLT]
  have qa_4 : ev eqa (.tmp 4) = .ptr (s.next + 1) 0 := by rw [hE]; simp only [a0q, a4q, Nat.reduceBEq, lpv, hl, Nat.reduceLT]
  clear hE
  refine p3q fun sqa hS => ?_
  have qaB0 : sqa.m (s.next) = some (.box 25 [.t (h1q d.nodes), .t (tArs d.arrs)]) := by rw [hS]; simp only [b7q, c6q, nns, if_true, if_false, ]
  have qaB1 : sqa.m (s.next + 1) = some (.box 29 [.t (d1q t.labels), .t (b3q t.pairs)]) := by rw [hS]; simp only [b7q, c6q, nns, if_true, if_false, ]
  have hnqa : sqa.next = s.next + 1 + 1 := by rw [hS]; simp only [c6q, ]
  have hkqa : ∀ j, j < s.next → sqa.m j = s.m j := fun j hj => by have z0 : ¬ j = s.next := (by omega); have z1 : ¬ j = s.next + 1 := (by omega); rw [hS]; simp only [b7q, c6q, z0, z1, if_false]
  clear hS
  obtain ⟨q, own, ec, hR⟩ : ∃ q own ec, colS d = (q, own, ec) := ⟨_, _, _, rfl⟩
  obtain ⟨hq1, hq2, ho1, ho2⟩ := l8x d (by omega)
  rw [hR] at hq1 hq2 ho1 ho2
  simp only at hq1 hq2 ho1 ho2
  obtain ⟨u, eu, hm⟩ : ∃ u eu, medD d t ls = (u, eu) := ⟨_, _, rfl⟩
  have hu1 := p0x d t ls
  rw [hm] at hu1
  simp only at hu1
  have Ml2 : ∀ g ∈ ls, g.length < 1000000 := fun g hg => by have := Ml g hg; omega
  refine a3q 0 [.pur (.tup [vObj q, .t (tMat own), I ec])] ?_
  simp only [bs, Nat.reduceAdd, ↓vopx, ↓vop, Nat.reduceBEq, a1q, Nat.reduceLT, V.cells, a8q, b0q, hlqa, qa_3, qaB0, hnqa, wocs, ↓goc, ↓woc, ↓a2q, ↓b8q, a6q, Tryz.ag25, Tryz.sz25, Tryz.sz29, Tryz.zv29]
  repeat ((with_reducible refine And.intro ?_ ?_); · exact ⟨Tryz.is8, by have := l7x d L Lp; rw [hR] at this; exact this⟩)
  refine hK9 _ _ ?_
  refine vsk fun K10 hK10 => ?_
  refine x1q fun eqb hE => ?_
  have hlqb : eqb.length = 118 := by rw [hE]; simp only [lpv, hlqa]
  have qb_2 : ev eqb (.tmp 2) = .t (tMat ls) := by rw [hE]; simp only [a4q, Nat.reduceBEq, qa_2]
  have qb_3 : ev eqb (.tmp 3) = .ptr (s.next) 0 := by rw [hE]; simp only [a4q, Nat.reduceBEq, qa_3]
  have qb_4 : ev eqb (.tmp 4) = .ptr (s.next + 1) 0 := by rw [hE]; simp only [a4q, Nat.reduceBEq, qa_4]
  have qb_7 : ev eqb (.tmp 7) = .ptr (s.next + 1 + 1) 0 := by rw [hE]; simp only [a0q, a4q, Nat.reduceBEq, lpv, hlqa, Nat.reduceLT]
  have qb_8 : ev eqb (.tmp 8) = .t (tMat own) := by rw [hE]; simp only [a0q, a4q, Nat.reduceBEq, lpv, hlqa, Nat.reduceLT]
  have qb_9 : ev eqb (.tmp 9) = I ec := by rw [hE]; simp only [a0q, lpv, hlqa, Nat.reduceLT]
  clear hE
  refine p3q fun sqb hS => ?_
  have qbB0 : sqb.m (s.next) = some (.box 25 [.t (h1q d.nodes), .t (tArs d.arrs)]) := by rw [hS]; simp only [b9q, b7q, nns, if_false, qaB0, hnqa]
  have qbB1 : sqb.m (s.next + 1) = some (.box 29 [.t (d1q t.labels), .t (b3q t.pairs)]) := by rw [hS]; simp only [b9q, b7q, nns, if_false, qaB1, hnqa]
  have qbB2 : sqb.m (s.next + 1 + 1) = some (.box 29 [.t (d1q q.labels), .t (b3q q.pairs)]) := by rw [hS]; simp only [b9q, b7q, if_true, hnqa]
  have hnqb : sqb.next = s.next + 1 + 1 + 1 := by rw [hS]; simp only [c6q, h9q, hnqa]
  have hkqb : ∀ j, j < s.next → sqb.m j = s.m j := fun j hj => by have z0 : ¬ j = s.next := (by omega); have z1 : ¬ j = s.next + 1 := (by omega); have z2 : ¬ j = s.next + 1 + 1 := (by omega); rw [hS]; simp only [b9q, b7q, hnqa, z2, if_false, hkqa j hj]
  clear hS
  refine a3q 0 [.pur (.tup [vObj q, .t (tMat own), I ec])] ?_
  simp only [bs, Nat.reduceAdd, ↓vopx, ↓vop, Nat.reduceBEq, a1q, Nat.reduceLT, V.cells, a8q, b0q, hlqb, qb_3, qbB0, hnqb, wocs, ↓goc, ↓woc, ↓a2q, ↓b8q, a6q, Tryz.ag25, Tryz.sz25, Tryz.sz29, Tryz.zv29]
  repeat ((with_reducible refine And.intro ?_ ?_); · exact ⟨Tryz.is9, by have := colR_ d L Lp; rw [hR] at this; exact this⟩)
  refine hK10 _ _ ?_
  refine vsk fun K11 hK11 => ?_
  refine x1q fun eqc hE => ?_
  have hlqc : eqc.length = 118 := by rw [hE]; simp only [lpv, hlqb]
  have qc_2 : ev eqc (.tmp 2) = .t (tMat ls) := by rw [hE]; simp only [a4q, Nat.reduceBEq, qb_2]
  have qc_3 : ev eqc (.tmp 3) = .ptr (s.next) 0 := by rw [hE]; simp only [a4q, Nat.reduceBEq, qb_3]
  have qc_4 : ev eqc (.tmp 4) = .ptr (s.next + 1) 0 := by rw [hE]; simp only [a4q, Nat.reduceBEq, qb_4]
  have qc_7 : ev eqc (.tmp 7) = .ptr (s.next + 1 + 1) 0 := by rw [hE]; simp only [a4q, Nat.reduceBEq, qb_7]
  have qc_8 : ev eqc (.tmp 8) = .t (tMat own) := by rw [hE]; simp only [a4q, Nat.reduceBEq, qb_8]
  have qc_9 : ev eqc (.tmp 9) = I ec := by rw [hE]; simp only [a4q, Nat.reduceBEq, qb_9]
  have qc_10 : ev eqc (.tmp 10) = .ptr (s.next + 1 + 1 + 1) 0 := by rw [hE]; simp only [a0q, a4q, Nat.reduceBEq, lpv, hlqb, Nat.reduceLT]
  have qc_11 : ev eqc (.tmp 11) = .t (tMat own) := by rw [hE]; simp only [a0q, a4q, Nat.reduceBEq, lpv, hlqb, Nat.reduceLT]
  have qc_12 : ev eqc (.tmp 12) = I ec := by rw [hE]; simp only [a0q, lpv, hlqb, Nat.reduceLT]
  clear hE
  refine p3q fun sqc hS => ?_
  have qcB0 : sqc.m (s.next) = some (.box 25 [.t (h1q d.nodes), .t (tArs d.arrs)]) := by rw [hS]; simp only [b9q, b7q, nns, if_false, qbB0, hnqb]
  have qcB1 : sqc.m (s.next + 1) = some (.box 29 [.t (d1q t.labels), .t (b3q t.pairs)]) := by rw [hS]; simp only [b9q, b7q, nns, if_false, qbB1, hnqb]
  have qcB2 : sqc.m (s.next + 1 + 1) = some (.box 29 [.t (d1q q.labels), .t (b3q q.pairs)]) := by rw [hS]; simp only [b9q, b7q, nns, if_false, qbB2, hnqb]
  have qcB3 : sqc.m (s.next + 1 + 1 + 1) = some (.box 29 [.t (d1q q.labels), .t (b3q q.pairs)]) := by rw [hS]; simp only [b9q, b7q, if_true, hnqb]
  have hnqc : sqc.next = s.next + 1 + 1 + 1 + 1 := by rw [hS]; simp only [c6q, h9q, hnqb]
  have hkqc : ∀ j, j < s.next → sqc.m j = s.m j := fun j hj => by have z0 : ¬ j = s.next := (by omega); have z1 : ¬ j = s.next + 1 := (by omega); have z2 : ¬ j = s.next + 1 + 1 := (by omega); have z3 : ¬ j = s.next + 1 + 1 + 1 := (by omega); rw [hS]; simp only [b9q, b7q, hnqb, z3, if_false, hkqb j hj]
  clear hS
  refine a3q 0 [.pur (.tup [.t (c0q u), I eu])] ?_
  simp only [bs, Nat.reduceAdd, ↓vopx, ↓vop, Nat.reduceBEq, a1q, Nat.reduceLT, a8q, b0q, hlqc, qc_2, qc_3, qc_4, qcB0, qcB1, wocs, ↓goc, ↓woc, ↓a2q, ↓b8q, a6q, Tryz.ag25, Tryz.ag29, Tryz.sz25, Tryz.sz29]
  repeat ((with_reducible refine And.intro ?_ ?_); · exact ⟨Tryz.is10, by have := i8z d L Lp t ls (by omega) (by omega) (by omega) Ml2; rw [hm] at this; exact this⟩)
  refine hK11 _ _ ?_
  refine vsk fun K12 hK12 => ?_
  refine x1q fun eqd hE => ?_
  have hlqd : eqd.length = 118 := by rw [hE]; simp only [lpv, hlqc]
  have qd_2 : ev eqd (.tmp 2) = .t (tMat ls) := by rw [hE]; simp only [a4q, Nat.reduceBEq, qc_2]
  have qd_3 : ev eqd (.tmp 3) = .ptr (s.next) 0 := by rw [hE]; simp only [a4q, Nat.reduceBEq, qc_3]
  have qd_4 : ev eqd (.tmp 4) = .ptr (s.next + 1) 0 := by rw [hE]; simp only [a4q, Nat.reduceBEq, qc_4]
  have qd_7 : ev eqd (.tmp 7) = .ptr (s.next + 1 + 1) 0 := by rw [hE]; simp only [a4q, Nat.reduceBEq, qc_7]
  have qd_8 : ev eqd (.tmp 8) = .t (tMat own) := by rw [hE]; simp only [a4q, Nat.reduceBEq, qc_8]
  have qd_9 : ev eqd (.tmp 9) = I ec := by rw [hE]; simp only [a4q, Nat.reduceBEq, qc_9]
  have qd_10 : ev eqd (.tmp 10) = .ptr (s.next + 1 + 1 + 1) 0 := by rw [hE]; simp only [a4q, Nat.reduceBEq, qc_10]
  have qd_11 : ev eqd (.tmp 11) = .t (tMat own) := by rw [hE]; simp only [a4q, Nat.reduceBEq, qc_11]
  have qd_12 : ev eqd (.tmp 12) = I ec := by rw [hE]; simp only [a4q, Nat.reduceBEq, qc_12]
  have qd_13 : ev eqd (.tmp 13) = .t (c0q u) := by rw [hE]; simp only [a0q, a4q, Nat.reduceBEq, lpv, hlqc, Nat.reduceLT]
  have qd_14 : ev eqd (.tmp 14) = I eu := by rw [hE]; simp only [a0q, lpv, hlqc, Nat.reduceLT]
  clear hE
  refine p3q fun sqd hS => ?_
  have qdB0 : sqd.m (s.next) = some (.box 25 [.t (h1q d.nodes), .t (tArs d.arrs)]) := by rw [hS]; simp only [qcB0]
  have qdB1 : sqd.m (s.next + 1) = some (.box 29 [.t (d1q t.labels), .t (b3q t.pairs)]) := by rw [hS]; simp only [qcB1]
  have qdB2 : sqd.m (s.next + 1 + 1) = some (.box 29 [.t (d1q q.labels), .t (b3q q.pairs)]) := by rw [hS]; simp only [qcB2]
  have qdB3 : sqd.m (s.next + 1 + 1 + 1) = some (.box 29 [.t (d1q q.labels), .t (b3q q.pairs)]) := by rw [hS]; simp only [qcB3]
  have hnqd : sqd.next = s.next + 1 + 1 + 1 + 1 := by rw [hS]; simp only [hnqc]
  have hkqd : ∀ j, j < s.next → sqd.m j = s.m j := fun j hj => by have z0 : ¬ j = s.next := (by omega); have z1 : ¬ j = s.next + 1 := (by omega); have z2 : ¬ j = s.next + 1 + 1 := (by omega); have z3 : ¬ j = s.next + 1 + 1 + 1 := (by omega); rw [hS]; simp only [hkqc j hj]
  clear hS
  refine a3q 0 [.pur (.tup [.t (c0q u), I eu])] ?_
  simp only [bs, Nat.reduceAdd, ↓vopx, ↓vop, Nat.reduceBEq, a1q, Nat.reduceLT, a8q, b0q, hlqd, qd_2, qd_3, qd_4, qdB0, qdB1, wocs, ↓goc, ↓woc, ↓a2q, ↓b8q, a6q, Tryz.ag25, Tryz.ag29, Tryz.sz25, Tryz.sz29]
  repeat ((with_reducible refine And.intro ?_ ?_); · exact ⟨Tryz.is11, by have := p1x d L Lp t ls (by omega) (by omega) (by omega) Ml2; rw [hm] at this; exact this⟩)
  refine hK12 _ _ ?_
  refine vsk fun K13 hK13 => ?_
  refine vsk fun K14 hK14 => ?_
  refine x1q fun eqe hE => ?_
  have hlqe : eqe.length = 118 := by rw [hE]; simp only [lpv, hlqd]
  have qe_2 : ev eqe (.tmp 2) = .t (tMat ls) := by rw [hE]; simp only [a4q, Nat.reduceBEq, qd_2]
  have qe_3 : ev eqe (.tmp 3) = .ptr (s.next) 0 := by rw [hE]; simp only [a4q, Nat.reduceBEq, qd_3]
  have qe_4 : ev eqe (.tmp 4) = .ptr (s.next + 1) 0 := by rw [hE]; simp only [a4q, Nat.reduceBEq, qd_4]
  have qe_7 : ev eqe (.tmp 7) = .ptr (s.next + 1 + 1) 0 := by rw [hE]; simp only [a4q, Nat.reduceBEq, qd_7]
  have qe_8 : ev eqe (.tmp 8) = .t (tMat own) := by rw [hE]; simp only [a4q, Nat.reduceBEq, qd_8]
  have qe_9 : ev eqe (.tmp 9) = I ec := by rw [hE]; simp only [a4q, Nat.reduceBEq, qd_9]
  have qe_10 : ev eqe (.tmp 10) = .ptr (s.next + 1 + 1 + 1) 0 := by rw [hE]; simp only [a4q, Nat.reduceBEq, qd_10]
  have qe_11 : ev eqe (.tmp 11) = .t (tMat own) := by rw [hE]; simp only [a4q, Nat.reduceBEq, qd_11]
  have qe_12 : ev eqe (.tmp 12) = I ec := by rw [hE]; simp only [a4q, Nat.reduceBEq, qd_12]
  have qe_13 : ev eqe (.tmp 13) = .t (c0q u) := by rw [hE]; simp only [a4q, Nat.reduceBEq, qd_13]
  have qe_14 : ev eqe (.tmp 14) = I eu := by rw [hE]; simp only [a4q, Nat.reduceBEq, qd_14]
  have qe_15 : ev eqe (.tmp 15) = .t (c0q u) := by rw [hE]; simp only [a0q, a4q, Nat.reduceBEq, lpv, hlqd, Nat.reduceLT]
  have qe_16 : ev eqe (.tmp 16) = I eu := by rw [hE]; simp only [a0q, lpv, hlqd, Nat.reduceLT]
  clear hE
  refine p3q fun sqe hS => ?_
  have qeB0 : sqe.m (s.next) = some (.box 25 [.t (h1q d.nodes), .t (tArs d.arrs)]) := by rw [hS]; simp only [qdB0]
  have qeB1 : sqe.m (s.next + 1) = some (.box 29 [.t (d1q t.labels), .t (b3q t.pairs)]) := by rw [hS]; simp only [qdB1]
  have qeB2 : sqe.m (s.next + 1 + 1) = some (.box 29 [.t (d1q q.labels), .t (b3q q.pairs)]) := by rw [hS]; simp only [qdB2]
  have qeB3 : sqe.m (s.next + 1 + 1 + 1) = some (.box 29 [.t (d1q q.labels), .t (b3q q.pairs)]) := by rw [hS]; simp only [qdB3]
  have hnqe : sqe.next = s.next + 1 + 1 + 1 + 1 := by rw [hS]; simp only [hnqd]
  have hkqe : ∀ j, j < s.next → sqe.m j = s.m j := fun j hj => by have z0 : ¬ j = s.next := (by omega); have z1 : ¬ j = s.next + 1 := (by omega); have z2 : ¬ j = s.next + 1 + 1 := (by omega); have z3 : ¬ j = s.next + 1 + 1 + 1 := (by omega); rw [hS]; simp only [hkqd j hj]
  clear hS
  refine a3q 0 [.pur (Bo true), .pur (Bo true)] ?_
  simp only [bs, Nat.reduceAdd, ↓vopx, ↓vop, Nat.reduceBEq, a1q, flat, Nat.reduceLT, a8q, b0q, opII, gtmp, hlqe, qe_7, qe_8, qe_9, qe_10, qe_11, qe_12, qe_13, qe_14, qe_15, qe_16, qeB2, qeB3, wocs, ↓goc, ↓woc, ↓a2q, ↓b8q, ↓c8q, a6q, Tryz.ag29, Tryz.sz29, j7q, Tryz.underlying30, bne_self_eq_false]
  repeat ((with_reducible refine And.intro ?_ ?_); · first | exact ⟨Tryz.is12, s3x q (by omega) (by omega)⟩ | exact ⟨Tryz.is13, m8z u (by omega)⟩)
  refine hK14 _ _ ?_
  refine vck fun A B hA hB => ?_
  simp only [b2q, a0q, lpv, Nat.reduceLT, true_implies, reduceCtorEq, false_implies, true_and, hlqe]
  refine hB ?_
  clear hA hB A B
  refine a9q ?_
  refine hK13 _ _ ?_
  refine vsk fun K15 hK15 => ?_
  refine vsk fun K16 hK16 => ?_
  refine a3q 0 [] ?_
  simp only [bs, ↓vopx, ↓vop, a1q, flat, wocs, ↓goc, ↓woc, ↓a2q]
  refine hK16 _ _ ?_
  refine a5q ?_
  refine c2q (fun mm e' s' => ∃ k : Nat, mm = own.length - k ∧ k ≤ own.length ∧ e'.length = 118 ∧ ev e' (.tmp 2) = .t (tMat ls) ∧ ev e' (.tmp 3) = .ptr (s.next) 0 ∧ ev e' (.tmp 4) = .ptr (s.next + 1) 0 ∧ ev e' (.tmp 8) = .t (tMat own) ∧ ev e' (.tmp 11) = .t (tMat own) ∧ ev e' (.tmp 17) = I k ∧ sqe = s' ∧ True) (⟨0, rfl, Nat.zero_le _, ?_⟩) ?_
  ·try simp only [a0q, a4q, Nat.reduceBEq, lpv, hlqe, qe_2, qe_3, qe_4, qe_8, qe_11, Nat.reduceLT, true_and, and_true]
   exact rfl
  rintro mm e _ ⟨k, rfl, hle_k, hlk, k2, k3, k4, k8, k11, h_k, rfl, hx⟩
  refine vsk fun K17 hK17 => ?_
  refine vsk fun K18 hK18 => ?_
  refine a3q 0 [] ?_
  simp only [bs, ↓vopx, ↓vop, Nat.reduceBEq, a1q, Nat.reduceLT, opII, hlk, k8, h_k, wocs, ↓goc, ↓woc, ↓a2q, j7q, Tryz.underlying30]
  refine hK18 _ _ ?_
  refine vck fun A B hA hB => ?_
  simp only [b2q, a0q, lpv, Nat.reduceLT, decide_eq_true_eq, decide_eq_false_iff_not, hlk]
  refine ⟨fun hc89 => hA ?_, fun hc89 => hB ?_⟩
  ·clear hA hB A B
   refine a9q ?_
   refine hK17 _ _ ?_
   refine vsk fun K19 hK19 => ?_
   refine a5q ?_
   refine vsk fun K20 hK20 => ?_
   have hlt : k < own.length := by omega
   obtain ⟨g, hg⟩ : ∃ g, own[k]? = some g := ⟨_, List.getElem?_eq_getElem hlt⟩
   have hgl := ho2 g (List.mem_of_getElem? hg)
   refine c5q Tryz.mixed 8 [0, 0, 1, 1, 0, 0, 1, 1] [.pur (Bo true)] [] 0 (by decide +kernel) (by simp [lpv, hlk]) rfl ?_
   simp only [bs, ↓vopx, ↓vop, Nat.reduceBEq, a1q, Nat.reduceLT, a8q, b0q, hlk, k8, k11, h_k, wocs, ↓goc, ↓woc, ↓a2q, ↓e3q, ↓b8q, a6q, chn, ↓goq, ↓woq, List.zip_cons_cons, List.zip_nil_right, Tryz.ag40, Tryz.sz40, Tryz.un30, hg, hlt]
   repeat ((with_reducible refine And.intro ?_ ?_); · exact ⟨Tryz.is13, m8z g (by omega)⟩)
   refine hK20 _ _ ?_
   refine vck fun A B hA hB => ?_
   simp only [b2q, a0q, lpv, Nat.reduceLT, true_implies, reduceCtorEq, false_implies, true_and, hlk]
   refine hB ?_
   clear hA hB A B
   refine a9q ?_
   refine hK19 _ _ ?_
   refine a3q 0 [] ?_
   simp only [bs, ↓vopx, ↓vop, Nat.reduceBEq, a1q, flat, Nat.reduceLT, opII, hlk, k2, k3, k4, k8, k11, h_k, wocs, ↓goc, ↓woc, ↓a2q]
   repeat ((with_reducible refine And.intro ?_ ?_); · exact ⟨by omega, by omega⟩)
   refine ⟨own.length - (k + 1), by omega, k + 1, rfl, by omega, ?_⟩
   try simp only [a0q, a4q, Nat.reduceBEq, lpv, hlk, k2, k3, k4, k8, k11, h_k, if_true, if_false, Nat.reduceEqDiff, Nat.reduceLT, true_and, and_true]
   push_cast; rfl
  ·clear hA hB A B
   refine c1q ?_
   simp only [a1q, b5q, if_true]
   refine hK15 _ _ ?_
   refine vsk fun K21 hK21 => ?_
   refine c5q Tryz.mixed 13 [1, 1, 1, 1, 0, 0, 1, 1, 0, 1, 1, 1, 0] [.pur (Bo (diaS d)), .pur (Bo (diaS d)), .far (.bool true), .pur (Bo (h7q d t ls)), .pur (Bo (h7q d t ls)), .far (.bool true)] [] 0 (by decide +kernel) (by simp [lpv, hlk]) rfl ?_
   simp only [bs, Nat.reduceAdd, ↓vopx, ↓vop, Nat.reduceBEq, a1q, flat, Nat.reduceLT, a8q, b0q, opII, opSS, gtmp, hlk, k2, k3, k4, wocs, ↓goc, ↓woc, ↓a2q, ↓e3q, ↓b8q, ↓h3q, a6q, ↓farC, chn, ↓goq, ↓woq, List.zip_cons_cons, List.zip_nil_right, Tryz.ag25, Tryz.ag29, Tryz.sz25, Tryz.sz29, qeB0, qeB1]
   repeat ((with_reducible refine And.intro ?_ ?_); · first | exact ⟨Tryz.is14, d1z d L⟩ | exact ⟨Tryz.is15, x9q d L⟩ | exact far_bb _ _ _ | exact ⟨Tryz.is16, y6x d L t ls (by omega) (by omega) (by omega) Ml2⟩ | exact ⟨Tryz.is17, o7x d L t ls (by omega) (by omega) (by omega) Ml2⟩)
   refine hK21 _ _ ?_
   refine b1q ?_
   refine hQ _ _ _ (.inr rfl) (a7q ?_ fun n b hn h => (hkqe n hn).trans h)
   try simp only [a0q, lpv, hlk, Nat.reduceLT]
end Go.Proofs

/- Lemmas on the way to the statement of this claim; no conditions. -/
import Derived.Shelf.Sort.AssemblyIn
import Derived.Shelf.Slices.In.SortNone
import Derived.Test.YtkdkajlgbhggdaaDoorO33
import Derived.Test.YtkdkajlgbhggdaaDoorO34
import Derived.Test.YtkdkajlgbhggdaaDoorO37
import Derived.Test.YtkdkajlgbhggdaaDoorO38
import Derived.Test.YtkdkajlgbhggdaaDoorO39
import Derived.Test.YtkdkajlgbhggdaaDoorO40
import Derived.Test.YtkdkajlgbhggdaaDoorO42
import Derived.Test.YtkdkajlgbhggdaaDoorO44
import Derived.Test.YtkdkajlgbhggdaaDoorO47
import Derived.Test.YtkdkajlgbhggdaaDoorO48
open Go Go.V
namespace Go.Proofs
theorem u4z (f g : List Int) : (thenS f g).1.length ≤ f.length := by
 unfold thenS; split <;> simp
end Go.Proofs

open Go Go.V
namespace Go.Proofs
abbrev s6x (a b c : Ob) (f g : List Int) : Ob × List Int × Int := eqS a (d4q b c) (thenS f (legT b.labels.length 0)).1 (thenS g (legT c.labels.length b.labels.length)).1
def pushS (a b c : Ob) (f g : List Int) : Ob × List Int × List Int × Int :=
 if j5q [a] = true ∨ j5q [b, c] = true then (⟨[], []⟩, [], [], 11) else if arrS a b f = true ∧ arrS a c g = true then
  (if (s6x a b c f g).2.2 = 0 then ((s6x a b c f g).1, (thenS (legT b.labels.length 0) (s6x a b c f g).2.1).1, (thenS (legT c.labels.length b.labels.length) (s6x a b c f g).2.1).1, 0) else (⟨[], []⟩, [], [], (s6x a b c f g).2.2))
 else (⟨[], []⟩, [], [], 10)
end Go.Proofs

open Go Go.V
namespace Go.Proofs
theorem m6q {o : Ob} (h : fewS o = true) : o.labels.length ≤ 50 ∧ o.pairs.length ≤ 200 := by
 unfold fewS at h
 simp only [Bool.and_eq_true, decide_eq_true_eq] at h
 exact ⟨h.1.2, h.2⟩
end Go.Proofs

open Go Go.V
namespace Go.Proofs
abbrev gAt (g : List Int) (y : Int) : Int := g.getD y.toNat 0
def gdB (g : List Int) (y : Int) : Bool := decide (0 ≤ y) && decide (y < g.length)
theorem k4x {f g : List Int} (h : f.all (gdB g) = true) : thenS f g = (f.map (gAt g), true) := by unfold thenS; exact if_pos h
theorem z7z {f g : List Int} (h : f.all (gdB g) = false) : thenS f g = ([], false) := by unfold thenS; exact if_neg (by show ¬ (f.all (gdB g) = true); rw [h]; simp)
set_option maxRecDepth 20000 in
theorem c9j (f g : List Int) (hf : f.length < 100000000) (_hg : g.length < 1000000000) : g3q Tryd.prog 58 [.t (b0q f), .t (b0q g)] (.tup [.t (b0q (thenS f g).1), Bo (thenS f g).2]) := by
 refine b9q Tryd.func58 rfl fun s Q hQ => ?_
 obtain ⟨e, he, hl, h0, h1⟩ : ∃ e : Env, ([.t (b0q f), .t (b0q g)] ++ List.replicate (Tryd.f58.ntmps - ([.t (b0q f), .t (b0q g)] : List V).length) .junk) = e ∧ e.length = 39 ∧ ev e (.tmp 0) = .t (b0q f) ∧ ev e (.tmp 1) = .t (b0q g) := ⟨_, rfl, rfl, rfl, rfl⟩
 rw [he]
 clear he
 refine vsk fun K1 hK1 => ?_
 refine a3q 0 [] ?_
 simp only [bs, ↓vopx, ↓vop, a1q, flat, wocs, ↓goc, ↓woc, ↓a2q]
 refine hK1 _ _ ?_
 refine vsk fun K2 hK2 => ?_
 refine a3q 0 [] ?_
 simp only [bs, ↓vopx, ↓vop, a1q, flat, wocs, ↓goc, ↓woc, ↓a2q]
 refine hK2 _ _ ?_
 refine vsk fun K3 hK3 => ?_
 refine vsk fun K4 hK4 => ?_
 refine VW.name 6 1 3 (by omega) (by simp only [a0q, lpv, hl, Nat.reduceLT]) ?_
 refine a3q 0 [] ?_
 simp only [bs, ↓vopx, ↓vop, a1q, flat, wocs, ↓goc, ↓woc, ↓a2q]
 refine hK4 _ _ ?_
 refine a5q ?_
 refine d0q (fun mm e' s' => ∃ i : Nat, mm = f.length - i ∧ i ≤ f.length ∧ e'.length = 39 ∧ ev e' (.tmp 0) = .t (b0q f) ∧ ev e' (.tmp 1) = .t (b0q g) ∧ ev e' (.tmp 7) = I i ∧ True ∧ ∃ m, ev e' (.tmp 6) = .loc m 0 ((f.take i).map (gAt g)).length ∧ q8z s s' m ((f.take i).map (gAt g)) ∧ Keep s s' ∧ s.next ≤ s'.next ∧ (f.take i).all (gdB g) = true) (⟨0, rfl, Nat.zero_le _, ?_⟩) ?_
 ·try simp only [a0q, a4q, Nat.reduceBEq, lpv, hl, h0, h1, Nat.reduceLT, true_and]
  repeat ((with_reducible refine And.intro ?_ ?_); · trivial)
  exact ⟨s.next, rfl, q8z.new s, (Keep.refl s).add (Nat.le_refl _) _, by simp [Sg.add], rfl⟩
 rintro mm e s1 ⟨i, rfl, hle_i, hl, h0, h1, h_i, hst, ⟨m, hm6, hgr, hkeep, hnx, hall⟩⟩
 refine vsk fun K5 hK5 => ?_
 refine vsk fun K6 hK6 => ?_
 refine a3q 0 [] ?_
 simp only [bs, ↓vopx, ↓vop, Nat.reduceBEq, a1q, Nat.reduceLT, opII, hl, h0, h_i, wocs, ↓goc, ↓woc, ↓a2q, f1q, Tryd.underlying26]
 refine hK6 _ _ ?_
 refine vck fun A B hA hB => ?_
 simp only [b5q, a0q, lpv, Nat.reduceLT, decide_eq_true_eq, decide_eq_false_iff_not, hl]
 refine ⟨fun hc11 => hA ?_, fun hc11 => hB ?_⟩
 ·clear hA hB A B
  refine b1q ?_
  refine hK5 _ _ ?_
  refine vsk fun K7 hK7 => ?_
  refine a5q ?_
  refine vsk fun K8 hK8 => ?_
  refine vsk fun K9 hK9 => ?_
  have hlt : i < f.length := by omega
  obtain ⟨y, hy⟩ : ∃ y, f[i]? = some y := ⟨_, List.getElem?_eq_getElem hlt⟩
  rcases Int.lt_or_le y 0 with hneg | hneg
  ·refine a3q 0 [] ?_
   simp only [bs, ↓vopx, ↓vop, Nat.reduceBEq, a1q, flat, Nat.reduceLT, a7q, a8q, opII, gtmp, hl, h0, h_i, wocs, ↓goc, ↓woc, ↓a2q, ↓e8q, Tryd.ag3, Tryd.sz3, Tryd.un26, hy, hneg]
   repeat ((with_reducible refine And.intro ?_ ?_); · (with_reducible assumption))
   refine hK9 _ _ ?_
   refine vck fun A B hA hB => ?_
   simp only [b5q, a0q, lpv, Nat.reduceLT, true_implies, reduceCtorEq, false_implies, and_true, hl]
   refine hA ?_
   clear hA hB A B
   refine vsk fun K10 hK10 => ?_
   refine a3q 0 [] ?_
   simp only [bs, ↓vopx, ↓vop, a1q, flat, wocs, ↓goc, ↓woc, ↓a2q]
   refine hK10 _ _ ?_
   refine b3q ?_
   have hbad : f.all (gdB g) = false := List.all_eq_false.2 ⟨y, List.mem_of_getElem? hy, by unfold gdB; simp; omega⟩
   have hres := z7z hbad
   rw [hres] at hQ
   refine hQ _ _ _ (.inr rfl) (j0q (by omega) ?_ ?_ hkeep)
   try simp only [a0q, a4q, Nat.reduceBEq, lpv, hl, Nat.reduceLT]
   try simp only [a0q, lpv, hl, Nat.reduceLT]
  ·refine a3q 0 [] ?_
   simp only [bs, ↓vopx, ↓vop, Nat.reduceBEq, a1q, flat, Nat.reduceLT, a7q, a8q, opII, gtmp, hl, h0, h1, h_i, wocs, ↓goc, ↓woc, ↓a2q, ↓d1q, Tryd.ag3, Tryd.sz3, Tryd.un26, f1q, hy, Int.not_lt.2 hneg]
   repeat ((with_reducible refine And.intro ?_ ?_); · (with_reducible assumption))
   refine hK9 _ _ ?_
   refine vck fun A B hA hB => ?_
   simp only [b5q, a0q, lpv, Nat.reduceLT, decide_eq_true_eq, decide_eq_false_iff_not, hl]
   refine ⟨fun hc27 => hA ?_, fun hc27 => hB ?_⟩
   ·clear hA hB A B
    refine vsk fun K11 hK11 => ?_
    refine a3q 0 [] ?_
    simp only [bs, ↓vopx, ↓vop, a1q, flat, wocs, ↓goc, ↓woc, ↓a2q]
    refine hK11 _ _ ?_
    refine b3q ?_
    have hbad : f.all (gdB g) = false := List.all_eq_false.2 ⟨y, List.mem_of_getElem? hy, by unfold gdB; simp; omega⟩
    have hres := z7z hbad
    rw [hres] at hQ
    refine hQ _ _ _ (.inr rfl) (j0q (by omega) ?_ ?_ hkeep)
    try simp only [a0q, a4q, Nat.reduceBEq, lpv, hl, Nat.reduceLT]
    try simp only [a0q, lpv, hl, Nat.reduceLT]
   ·clear hA hB A B
    refine b1q ?_
    refine hK8 _ _ ?_
    obtain ⟨z, hz⟩ : ∃ z, g[y.toNat]? = some z := ⟨_, List.getElem?_eq_getElem (by omega)⟩
    have hne : ¬ m = s1.next := by have := hgr.2.2; omega
    have hg0 := hgr.1
    have hmn : min i f.length = i := by omega
    refine a3q 0 [] ?_
    simp only [bs, dstT, srcT, Nat.reduceLeDiff, d8q, g2q, repl, Sg.frzP, ↓vopx, ↓vop, Nat.reduceBEq, a1q, c0q, Nat.reduceLT, V.cells, a7q, a8q, Sg.frzL, Sg.frz1, hl, h0, h1, h_i, hm6, wocs, ↓goc, ↓woc, ↓a2q, Tryd.ag3, Tryd.sl26, Tryd.sz3, Tryd.un26, hy, hz, hg0, hne, List.length_take, hmn, Nat.div_one]
    repeat ((with_reducible refine And.intro ?_ ?_); · first | (with_reducible assumption) | omega)
    refine hK7 _ _ ?_
    refine a3q 0 [] ?_
    simp only [bs, ↓vopx, ↓vop, Nat.reduceBEq, a1q, flat, Nat.reduceLT, opII, hl, h0, h1, h_i, wocs, ↓goc, ↓woc, ↓a2q]
    repeat ((with_reducible refine And.intro ?_ ?_); · exact ⟨by omega, by omega⟩)
    refine ⟨f.length - (i + 1), by omega, i + 1, rfl, by omega, ?_⟩
    try simp only [a0q, a4q, Nat.reduceBEq, lpv, hl, h0, h1, h_i, hm6, if_true, if_false, Nat.reduceEqDiff, Nat.reduceLT, true_and, and_true]
    repeat ((with_reducible refine And.intro ?_ ?_); · trivial)
    have htk : f.take (i + 1) = f.take i ++ [y] := by rw [List.take_add_one, hy]; rfl
    have htm : (f.take (i + 1)).map (gAt g) = (f.take i).map (gAt g) ++ [z] := by rw [htk, List.map_append]; simp [gAt, List.getD_eq_getElem?_getD, hz]
    exact ⟨s1.next + 1, by simp [Nat.min_eq_left (show i + 1 ≤ f.length by omega)], by rw [htm]; exact hgr.push hnx _ _, hgr.keep hkeep hnx _ _, by omega, by rw [htk, List.all_append, hall]; simp [gdB]; omega⟩
 ·clear hA hB A B
  have han : i = f.length := by omega
  rw [han, List.take_length] at hm6 hgr hall
  refine c8q ?_
  simp only [a1q, c0q, if_true]
  refine hK3 _ _ ?_
  refine vsk fun K12 hK12 => ?_
  refine a3q 0 [] ?_
  simp only [bs, ↓vopx, ↓vop, Nat.reduceBEq, a1q, flat, Nat.reduceLT, hl, hm6, wocs, ↓goc, ↓woc, ↓a2q]
  refine hK12 _ _ ?_
  refine b3q ?_
  have hres := k4x hall
  rw [hres] at hQ
  refine hQ _ _ _ (.inr rfl) (a4z (n := m) (len := (f.map (gAt g)).length) ?_ ?_ hgr.1 ?_ hgr.2.1 hkeep)
  all_goals try simp only [a0q, a4q, Nat.reduceBEq, lpv, hl, Nat.reduceLT]
  all_goals (try simp)
end Go.Proofs

open Go Go.V
namespace Go.Proofs
def coS (a b c : Ob) (f g : List Int) (d : Ob) (h k : List Int) : Bool := arrS a b f && (arrS a c g && (arrS b d h && (arrS c d k && ((thenS f h).1 == (thenS g k).1))))
end Go.Proofs

open Go Go.V
namespace Go.Proofs
def n7z (n i : Nat) : List Int := List.replicate i (-1) ++ List.replicate (n - i) 0
theorem o3x {n i : Nat} (h : i ≤ n) : (n7z n i).length = n := by simp [n7z]; omega
theorem o4x {n i : Nat} (h : i < n) : (n7z n i).set i (-1) = n7z n (i + 1) := by
 unfold n7z
 rw [List.set_append_right _ _ (by simp), List.length_replicate, Nat.sub_self, show n - i = (n - (i + 1)) + 1 by omega, List.replicate_succ, List.set_cons_zero, List.replicate_succ', List.append_assoc]; rfl
theorem i4x (n : Nat) : repl [TI 0] n = (n7z n 0).map TI := by
 rw [n4q]; simp [n7z]
theorem i3x (n : Nat) : n7z n n = List.replicate n (-1) := by simp [n7z]
def putL (o l w : List Int) : Nat → List Int
 | 0 => o
 | x + 1 => (putL o l w x).set (l.getD x 0).toNat (w.getD x 0)
theorem b6z (o l w : List Int) : ∀ x, (putL o l w x).length = o.length
 | 0 => rfl
 | x + 1 => by simp [putL, b6z o l w x]
theorem z2z {o l w : List Int} {x : Nat} {y z : Int} (hy : l[x]? = some y) (hz : w[x]? = some z) : putL o l w (x + 1) = (putL o l w x).set y.toNat z := by
 show (putL o l w x).set (l.getD x 0).toNat (w.getD x 0) = _
 rw [f0q hy, f0q hz]
def outK (n : Nat) (legs ways : List (List Int)) : Nat → List Int
 | 0 => List.replicate n (-1)
 | i + 1 => if (legs.getD i []).length = (ways.getD i []).length then putL (outK n legs ways i) (legs.getD i []) (ways.getD i []) (legs.getD i []).length else outK n legs ways i
theorem y2q (n : Nat) (legs ways : List (List Int)) : ∀ i, (outK n legs ways i).length = n
 | 0 => by simp [outK]
 | i + 1 => by unfold outK; split <;> simp [b6z, y2q n legs ways i]
theorem y8z {n : Nat} {legs ways : List (List Int)} {i : Nat} {l w : List Int} (hl : legs[i]? = some l) (hw : ways[i]? = some w) (h : l.length ≠ w.length) : outK n legs ways (i + 1) = outK n legs ways i := by
 show (if (legs.getD i []).length = (ways.getD i []).length then _ else _) = _
 rw [List.getD_eq_getElem?_getD, List.getD_eq_getElem?_getD, hl, hw]
 exact if_neg h
theorem b0z {n : Nat} {legs ways : List (List Int)} {i : Nat} {l w : List Int} (hl : legs[i]? = some l) (hw : ways[i]? = some w) (h : l.length = w.length) : outK n legs ways (i + 1) = putL (outK n legs ways i) l w l.length := by
 show (if (legs.getD i []).length = (ways.getD i []).length then putL _ (legs.getD i []) (ways.getD i []) (legs.getD i []).length else _) = _
 rw [List.getD_eq_getElem?_getD, List.getD_eq_getElem?_getD, hl, hw]
 exact if_pos h
def outS (n : Nat) (legs ways : List (List Int)) : List Int := outK n legs ways legs.length
theorem mneg (z : Int) : (T.v (Value.int .i64 z)) = TI z := rfl
set_option maxRecDepth 20000 in
set_option maxHeartbeats 4000000 in
theorem out_ (n : Nat) (hn : n ≤ 1000) (legs ways : List (List Int)) (hlw : legs.length ≤ ways.length) (hll : legs.length ≤ 1000) (hsz : ∀ l ∈ legs, l.length ≤ 1000) (hin : ∀ l ∈ legs, ∀ y ∈ l, 0 ≤ y ∧ y < (n : Int)) : g3q Tryd.prog 81 [I n, .t (tMat legs), .t (tMat ways)] (.t (b0q (outS n legs ways))) := by
 refine b9q Tryd.func81 rfl fun s Q hQ => ?_
 obtain ⟨e, he, hl, h0, h1, h2⟩ : ∃ e : Env, ([I n, .t (tMat legs), .t (tMat ways)] ++ List.replicate (Tryd.f81.ntmps - ([I n, .t (tMat legs), .t (tMat ways)] : List V).length) .junk) = e ∧ e.length = 59 ∧ ev e (.tmp 0) = I n ∧ ev e (.tmp 1) = .t (tMat legs) ∧ ev e (.tmp 2) = .t (tMat ways) := ⟨_, rfl, rfl, rfl, rfl, rfl⟩
 rw [he]
 clear he
 refine vsk fun K1 hK1 => ?_
 refine a3q 0 [] ?_
 simp only [bs, ↓vopx, ↓vop, a1q, flat, wocs, ↓goc, ↓woc, ↓a2q]
 refine hK1 _ _ ?_
 refine h1x ?_
 refine vsk fun K2 hK2 => ?_
 refine a3q 0 [] ?_
 simp only [bs, ↓vopx, ↓vop, Nat.reduceBEq, a1q, Nat.reduceLT, hl, h0, wocs, ↓goc, ↓woc, ↓a2q, Tryd.sl26, i4x]
 repeat ((with_reducible refine And.intro ?_ ?_); · omega)
 refine hK2 _ _ ?_
 refine vsk fun K3 hK3 => ?_
 refine vsk fun K4 hK4 => ?_
 refine a3q 0 [] ?_
 simp only [bs, ↓vopx, ↓vop, a1q, flat, Nat.reduceLT, hl, wocs, ↓goc, ↓woc, ↓a2q]
 refine hK4 _ _ ?_
 refine a5q ?_
 refine d0q (fun mm e' s' => ∃ i : Nat, mm = n - i ∧ i ≤ n ∧ e'.length = 59 ∧ ev e' (.tmp 1) = .t (tMat legs) ∧ ev e' (.tmp 2) = .t (tMat ways) ∧ ev e' (.tmp 7) = .loc s.next 0 n ∧ ev e' (.tmp 16) = I n ∧ ev e' (.tmp 17) = I i ∧ True ∧ s'.m s.next = some (.arr 1 3 ((n7z n i).map TI)) ∧ ∀ j, j < s.next → s'.m j = s.m j) (⟨0, rfl, Nat.zero_le _, ?_⟩) ?_
 ·try simp only [a0q, a4q, Nat.reduceBEq, lpv, hl, h1, h2, Nat.reduceLT, true_and]
  repeat ((with_reducible refine And.intro ?_ ?_); · trivial)
  exact ⟨t9q _ _, fun j hj => by rw [c5q, if_neg (by omega)]⟩
 rintro mm e s1 ⟨i, rfl, hle_i, hl, k1, k2, k7, k16, h_i, hst, ⟨hM, hSm⟩⟩
 refine vsk fun K5 hK5 => ?_
 refine a3q 0 [] ?_
 simp only [a1q, opII, k16, h_i, wocs, ↓goc, ↓woc]
 refine hK5 _ _ ?_
 refine vsk fun K6 hK6 => ?_
 refine vck fun A B hA hB => ?_
 simp only [b5q, a0q, Nat.reduceLT, decide_eq_true_eq, decide_eq_false_iff_not, hl]
 refine ⟨fun hc18 => hA ?_, fun hc18 => hB ?_⟩
 ·clear hA hB A B
  refine b1q ?_
  refine hK6 _ _ ?_
  refine vsk fun K7 hK7 => ?_
  refine a5q ?_
  refine vsk fun K8 hK8 => ?_
  refine a3q 0 [] ?_
  simp only [bs, ↓vopx, ↓vop, Nat.reduceBEq, a1q, Nat.reduceLT, hl, h_i, wocs, ↓goc, ↓woc, ↓a2q]
  refine hK8 _ _ ?_
  have hfl := o3x hle_i
  have hin1 : i < n := by omega
  refine a3q 0 [] ?_
  simp only [bs, ↓vopx, ↓vop, Nat.reduceBEq, a1q, c0q, flat, Nat.reduceLT, V.cells, Sg.frzL, Sg.frz1, hl, k7, wocs, ↓goc, ↓woc, ↓a2q, Tryd.sz3, Tryd.un26, hM, hfl]
  repeat ((with_reducible refine And.intro ?_ ?_); · first | (with_reducible assumption) | omega)
  refine hK7 _ _ ?_
  refine a3q 0 [] ?_
  simp only [bs, ↓vopx, ↓vop, Nat.reduceBEq, a1q, flat, Nat.reduceLT, opII, hl, k1, k2, k7, k16, h_i, wocs, ↓goc, ↓woc, ↓a2q, tMat]
  repeat ((with_reducible refine And.intro ?_ ?_); · exact ⟨by omega, by omega⟩)
  refine ⟨n - (i + 1), by omega, i + 1, rfl, by omega, ?_⟩
  try simp only [a0q, a4q, Nat.reduceBEq, lpv, hl, k1, k2, k7, k16, h_i, if_true, if_false, Nat.reduceEqDiff, Nat.reduceLT, true_and, and_true]
  repeat ((with_reducible refine And.intro ?_ ?_); · trivial)
  exact ⟨by rw [mneg, y5q _ (by omega), o4x hin1], fun j hj => by rw [if_neg (by omega)]; exact hSm j hj⟩
 ·clear hA hB A B
  refine c8q ?_
  simp only [a1q, c0q, noGoto, if_true]
  refine hK3 _ _ ?_
  refine vsk fun K9 hK9 => ?_
  refine g9x ?_
  try simp only [a1q]
  refine hK9 _ _ ?_
  refine vsk fun K10 hK10 => ?_
  refine vsk fun K11 hK11 => ?_
  refine a3q 0 [] ?_
  simp only [bs, ↓vopx, ↓vop, Nat.reduceBEq, a1q, flat, Nat.reduceLT, hl, k1, wocs, ↓goc, ↓woc, ↓a2q, y1q, tMat]
  refine hK11 _ _ ?_
  refine a5q ?_
  refine d0q (fun mm e' s' => ∃ i2 : Nat, mm = legs.length - i2 ∧ i2 ≤ legs.length ∧ e'.length = 59 ∧ ev e' (.tmp 2) = .t (tMat ways) ∧ ev e' (.tmp 7) = .loc s.next 0 n ∧ ev e' (.tmp 24) = .t (tMat legs) ∧ ev e' (.tmp 25) = I legs.length ∧ ev e' (.tmp 26) = I i2 ∧ True ∧ s'.m s.next = some (.arr 1 3 ((outK n legs ways i2).map TI)) ∧ ∀ j, j < s.next → s'.m j = s.m j) (⟨0, rfl, Nat.zero_le _, ?_⟩) ?_
  ·try simp only [a0q, a4q, Nat.reduceBEq, lpv, hl, k2, k7, Nat.reduceLT, true_and]
   repeat ((with_reducible refine And.intro ?_ ?_); · trivial)
   have hiN : i = n := by omega
   subst hiN
   rw [i3x] at hM
   exact ⟨hM, hSm⟩
  rintro mm e s1 ⟨i2, rfl, hle_i2, hl, m2, m7, m24, m25, h_i2, hst, ⟨hM, hSm⟩⟩
  refine vsk fun K12 hK12 => ?_
  refine a3q 0 [] ?_
  simp only [a1q, opII, m25, h_i2, wocs, ↓goc, ↓woc]
  refine hK12 _ _ ?_
  refine vsk fun K13 hK13 => ?_
  refine vck fun A B hA hB => ?_
  simp only [b5q, a0q, Nat.reduceLT, decide_eq_true_eq, decide_eq_false_iff_not, hl]
  refine ⟨fun hc27 => hA ?_, fun hc27 => hB ?_⟩
  ·clear hA hB A B
   refine b1q ?_
   refine hK13 _ _ ?_
   refine vsk fun K14 hK14 => ?_
   refine a5q ?_
   refine vsk fun K15 hK15 => ?_
   obtain ⟨l, hl9⟩ : ∃ l, legs[i2]? = some l := ⟨_, List.getElem?_eq_getElem (by omega)⟩
   obtain ⟨w, hw9⟩ : ∃ w, ways[i2]? = some w := ⟨_, List.getElem?_eq_getElem (by omega)⟩
   have hls := hsz l (List.mem_of_getElem? hl9)
   have hi2 : i2 < legs.length := by omega
   have hi3 : i2 < ways.length := by omega
   refine a3q 0 [] ?_
   simp only [bs, ↓vopx, ↓vop, Nat.reduceBEq, a1q, Nat.reduceLT, a7q, a8q, hl, m24, h_i2, wocs, ↓goc, ↓woc, ↓a2q, Tryd.ag26, Tryd.sz26, Tryd.un63, tMat, hl9]
   repeat ((with_reducible refine And.intro ?_ ?_); · (with_reducible assumption))
   refine hK15 _ _ ?_
   refine vsk fun K16 hK16 => ?_
   refine vsk fun K17 hK17 => ?_
   refine a3q 0 [] ?_
   simp only [bs, ↓vopx, ↓vop, Nat.reduceBEq, a1q, Nat.reduceLT, a7q, a8q, opII, hl, m2, wocs, ↓goc, ↓woc, ↓a2q, Tryd.ag26, Tryd.sz26, Tryd.un26, Tryd.un63, f1q, tMat, hw9]
   repeat ((with_reducible refine And.intro ?_ ?_); · (with_reducible assumption))
   refine hK17 _ _ ?_
   refine vck fun A B hA hB => ?_
   simp only [b5q, a0q, lpv, Nat.reduceLT, bne_iff_ne, bne_eq_false_iff_eq, ne_eq, hl]
   refine ⟨fun hc38 => hA ?_, fun hc38 => hB ?_⟩
   ·clear hA hB A B
    refine c8q ?_
    simp only [a1q, c0q, noGoto, if_true, if_false, Nat.reduceEqDiff]
    refine hK14 _ _ ?_
    refine a3q 0 [] ?_
    simp only [bs, ↓vopx, ↓vop, Nat.reduceBEq, a1q, flat, Nat.reduceLT, opII, hl, m2, m7, m24, m25, h_i2, wocs, ↓goc, ↓woc, ↓a2q, tMat]
    repeat ((with_reducible refine And.intro ?_ ?_); · exact ⟨by omega, by omega⟩)
    refine ⟨legs.length - (i2 + 1), by omega, i2 + 1, rfl, by omega, ?_⟩
    try simp only [a0q, a4q, Nat.reduceBEq, lpv, hl, m2, m7, m24, m25, h_i2, if_true, if_false, Nat.reduceEqDiff, Nat.reduceLT, true_and, and_true]
    repeat ((with_reducible refine And.intro ?_ ?_); · trivial)
    first
     | exact ⟨by rw [y8z hl9 hw9 (by omega)]; exact hM, hSm⟩
     | exact ⟨by rw [b0z hl9 hw9 (by omega), show l.length = j from by omega]; exact hM, hSm⟩
   ·clear hA hB A B
    refine b1q ?_
    refine hK16 _ _ ?_
    refine vsk fun K18 hK18 => ?_
    refine a3q 0 [] ?_
    simp only [bs, ↓vopx, ↓vop, Nat.reduceBEq, a1q, flat, Nat.reduceLT, hl, wocs, ↓goc, ↓woc, ↓a2q, f1q]
    refine hK18 _ _ ?_
    refine a5q ?_
    refine d0q (fun mm e' s' => ∃ j : Nat, mm = l.length - j ∧ j ≤ l.length ∧ e'.length = 59 ∧ ev e' (.tmp 2) = .t (tMat ways) ∧ ev e' (.tmp 7) = .loc s.next 0 n ∧ ev e' (.tmp 9) = I i2 ∧ ev e' (.tmp 24) = .t (tMat legs) ∧ ev e' (.tmp 25) = I legs.length ∧ ev e' (.tmp 26) = I i2 ∧ ev e' (.tmp 39) = .t (b0q l) ∧ ev e' (.tmp 40) = I l.length ∧ ev e' (.tmp 41) = I j ∧ True ∧ s'.m s.next = some (.arr 1 3 ((putL (outK n legs ways i2) l w j).map TI)) ∧ ∀ j, j < s.next → s'.m j = s.m j) (⟨0, rfl, Nat.zero_le _, ?_⟩) ?_
    ·try simp only [a0q, a4q, Nat.reduceBEq, lpv, hl, m2, m7, m24, m25, Nat.reduceLT, true_and]
     repeat ((with_reducible refine And.intro ?_ ?_); · trivial)
     exact hSm
    rintro mm e s1 ⟨j, rfl, hle_j, hl, p2, p7, p9, p24, p25, p26, p39, p40, h_j, hst, ⟨hM, hSm⟩⟩
    refine vsk fun K19 hK19 => ?_
    refine a3q 0 [] ?_
    simp only [a1q, opII, p40, h_j, wocs, ↓goc, ↓woc]
    refine hK19 _ _ ?_
    refine vsk fun K20 hK20 => ?_
    refine vck fun A B hA hB => ?_
    simp only [b5q, a0q, Nat.reduceLT, decide_eq_true_eq, decide_eq_false_iff_not, hl]
    refine ⟨fun hc42 => hA ?_, fun hc42 => hB ?_⟩
    ·clear hA hB A B
     refine b1q ?_
     refine hK20 _ _ ?_
     refine vsk fun K21 hK21 => ?_
     refine a5q ?_
     refine vsk fun K22 hK22 => ?_
     obtain ⟨y, hy⟩ : ∃ y, l[j]? = some y := ⟨_, List.getElem?_eq_getElem (by omega)⟩
     obtain ⟨z, hz⟩ : ∃ z, w[j]? = some z := ⟨_, List.getElem?_eq_getElem (by omega)⟩
     have hjl : j < l.length := by omega
     have hjw : j < w.length := by omega
     have hyb := hin l (List.mem_of_getElem? hl9) y (List.mem_of_getElem? hy)
     refine a3q 0 [] ?_
     simp only [bs, ↓vopx, ↓vop, Nat.reduceBEq, a1q, Nat.reduceLT, a7q, a8q, hl, p39, h_j, wocs, ↓goc, ↓woc, ↓a2q, Tryd.ag3, Tryd.sz3, Tryd.un26, hy]
     repeat ((with_reducible refine And.intro ?_ ?_); · (with_reducible assumption))
     refine hK22 _ _ ?_
     have hpl := b6z (outK n legs ways i2) l w j
     have hol := y2q n legs ways i2
     refine a3q 0 [] ?_
     simp only [bs, ↓vopx, ↓vop, Nat.reduceBEq, a1q, c0q, Nat.reduceLT, V.cells, a7q, a8q, Sg.frzL, Sg.frz1, hl, p2, p7, p9, wocs, ↓goc, ↓woc, ↓a2q, Tryd.ag26, Tryd.ag3, Tryd.sz26, Tryd.sz3, Tryd.un26, Tryd.un63, tMat, hM, hz, hw9, hpl, hol]
     repeat ((with_reducible refine And.intro ?_ ?_); · first | (with_reducible assumption) | omega)
     refine hK21 _ _ ?_
     refine a3q 0 [] ?_
     simp only [bs, ↓vopx, ↓vop, Nat.reduceBEq, a1q, flat, Nat.reduceLT, opII, hl, p2, p7, p9, p24, p25, p26, p39, p40, h_j, wocs, ↓goc, ↓woc, ↓a2q, tMat]
     repeat ((with_reducible refine And.intro ?_ ?_); · exact ⟨by omega, by omega⟩)
     refine ⟨l.length - (j + 1), by omega, j + 1, rfl, by omega, ?_⟩
     try simp only [a0q, a4q, Nat.reduceBEq, lpv, hl, p2, p7, p9, p24, p25, p26, p39, p40, h_j, if_true, if_false, Nat.reduceEqDiff, Nat.reduceLT, true_and, and_true]
     repeat ((with_reducible refine And.intro ?_ ?_); · trivial)
     exact ⟨by rw [y5q _ (by rw [hpl, hol]; omega), z2z hy hz], fun j hj => by rw [if_neg (by omega)]; exact hSm j hj⟩
    ·clear hA hB A B
     refine c8q ?_
     simp only [a1q, c0q, noGoto, if_true, if_false, Nat.reduceEqDiff]
     refine hK14 _ _ ?_
     refine a3q 0 [] ?_
     simp only [bs, ↓vopx, ↓vop, Nat.reduceBEq, a1q, flat, Nat.reduceLT, opII, hl, p2, p7, p24, p25, p26, wocs, ↓goc, ↓woc, ↓a2q, tMat]
     repeat ((with_reducible refine And.intro ?_ ?_); · exact ⟨by omega, by omega⟩)
     refine ⟨legs.length - (i2 + 1), by omega, i2 + 1, rfl, by omega, ?_⟩
     try simp only [a0q, a4q, Nat.reduceBEq, lpv, hl, m2, m7, m24, m25, h_i2, if_true, if_false, Nat.reduceEqDiff, Nat.reduceLT, true_and, and_true]
     repeat ((with_reducible refine And.intro ?_ ?_); · trivial)
     first
      | exact ⟨by rw [y8z hl9 hw9 (by omega)]; exact hM, hSm⟩
      | exact ⟨by rw [b0z hl9 hw9 (by omega), show l.length = j from by omega]; exact hM, hSm⟩
  ·clear hA hB A B
   refine c8q ?_
   simp only [a1q, c0q, noGoto, if_true]
   refine hK10 _ _ ?_
   refine vsk fun K23 hK23 => ?_
   refine a3q 0 [] ?_
   simp only [bs, ↓vopx, ↓vop, Nat.reduceBEq, a1q, Nat.reduceLT, hl, m7, wocs, ↓goc, ↓woc, ↓a2q]
   refine hK23 _ _ ?_
   refine b3q ?_
   have hiL : i2 = legs.length := by omega
   subst hiL
   refine hQ _ _ _ (.inr rfl) (h1z (n := s.next) (len := n) ?_ hM ?_ (Nat.le_refl _) fun m b hl h => (hSm m hl).trans h)
   ·simp only [a0q, lpv, hl, Nat.reduceLT]
   ·show ((outS n legs ways).map TI).length = n * 1; rw [List.length_map, show outS n legs ways = outK n legs ways legs.length from rfl, y2q, Nat.mul_one]
end Go.Proofs

open Go Go.V
namespace Go.Proofs
structure LaI (s : Sg) (o : Ob) (L : List Int) (i m7 : Nat) (s' : Sg) : Prop where
 b2 : s'.m s.next = some (.box 25 [.t (b7q o.labels), .t (a9q o.pairs)])
 b4 : s'.m (s.next + 1) = some (.box 25 [.t (.v (.slice none 0 0)), .t (.v (.slice none 0 0))])
 a7 : s'.m m7 = some (.arr 1 9 ((i0q o L i).map TS))
 same : ∀ j, j < s.next → s'.m j = s.m j
 lo : s.next + 2 ≤ m7
 hi : m7 < s'.next
theorem w6z {o : Ob} {L : List Int} {i : Nat} {z : Int} (hz : L[i]? = some z) (h : z ≠ (i0q o L i).length) : i0q o L (i + 1) = i0q o L i := by
 have hg := f0q hz
 unfold i0q at h ⊢
 rw [List.length_map] at h
 show List.map _ (if L.getD i 0 = (fstL L i).length then fstL L i ++ [i] else fstL L i) = _
 rw [hg, if_neg h]
theorem w5z {o : Ob} {L : List Int} {i : Nat} {z : Int} {lb : ByteArray} (hz : L[i]? = some z) (h : z = (i0q o L i).length) (hl : o.labels[i]? = some lb) : i0q o L (i + 1) = i0q o L i ++ [lb] := by
 have hg := f0q hz
 unfold i0q at h ⊢
 rw [List.length_map] at h
 show List.map _ (if L.getD i 0 = (fstL L i).length then fstL L i ++ [i] else fstL L i) = _
 rw [hg, if_pos h]
 simp [List.getD_eq_getElem?_getD, hl]
theorem f3z (o : Ob) (L : List Int) (i : Nat) : (i0q o L i).length = (fstL L i).length := by simp [i0q]
theorem LaI.old {s : Sg} {o : Ob} {L : List Int} {i m7 : Nat} {s' : Sg} (h : LaI s o L i m7 s') {z : Int} (hz : L[i]? = some z) (hn : z ≠ (i0q o L i).length) : ∃ m, V.loc m7 0 (i0q o L i).length = .loc m 0 (i0q o L (i + 1)).length ∧ LaI s o L (i + 1) m s' := by
 refine ⟨m7, ?_, ?_⟩
 ·rw [w6z hz hn]
 ·obtain ⟨h1, h2, h3, h4, h5, h6⟩ := h
  exact ⟨h1, h2, by rw [w6z hz hn]; exact h3, h4, h5, h6⟩
theorem LaI.new {s : Sg} {o : Ob} {L : List Int} {i m7 : Nat} {s' : Sg} (h : LaI s o L i m7 s') {z : Int} {lb : ByteArray} (hz : L[i]? = some z) (hn : z = (i0q o L i).length) (hl : o.labels[i]? = some lb) (B : Blk) : ∃ m, V.loc (s'.next + 1) 0 ((i0q o L i).length + 1) = .loc m 0 (i0q o L (i + 1)).length ∧ LaI s o L (i + 1) m (((s'.add B).del m7).add (.arr 1 9 ((i0q o L i).map TS ++ [TS lb]))) := by
 have hlo := h.lo
 have hhi := h.hi
 have hfr : ∀ x, x < s'.next → x ≠ m7 → (((s'.add B).del m7).add (.arr 1 9 ((i0q o L i).map TS ++ [TS lb]))).m x = s'.m x := fun x h1 h2 => by
  rw [c5q, if_neg (by simp only [e4q, c9q]; omega), e2q, if_neg h2, c5q, if_neg (by omega)]
 refine ⟨s'.next + 1, ?_, ?_, ?_, ?_, fun j hj => ?_, by omega, by simp only [e4q, c9q]; omega⟩
 ·rw [w5z hz hn hl, List.length_append]; rfl
 ·rw [hfr _ (by omega) (by omega)]; exact h.b2
 ·rw [hfr _ (by omega) (by omega)]; exact h.b4
 ·rw [c5q, if_pos (by simp only [e4q, c9q]), w5z hz hn hl, List.map_append]; rfl
 ·rw [hfr _ (by omega) (by omega)]; exact h.same j hj
set_option maxRecDepth 20000 in
set_option maxHeartbeats 4000000 in
theorem glued_ (s : Sg) (p m : Nat) (l : List Int) (hu : RefU s p m l) (hwf : wfU l) (o : Ob) (ho : IsOb o) (hpo : o.pairs.length < 1000000000) (hll : l.length = o.labels.length) : k4q Tryd.prog 68 [vObj o, .ptr p 0] s (.tup [vObj (h3q o (c2q l)), .t (b0q (c2q l))]) (s) := by
 refine d3q Tryd.func68 rfl fun Q hQ => ?_
 obtain ⟨e, he, hl, h0, h1⟩ : ∃ e : Env, ([vObj o, .ptr p 0] ++ List.replicate (Tryd.f68.ntmps - ([vObj o, .ptr p 0] : List V).length) .junk) = e ∧ e.length = 73 ∧ ev e (.tmp 0) = vObj o ∧ ev e (.tmp 1) = .ptr p 0 := ⟨_, rfl, rfl, rfl, rfl⟩
 rw [he]
 clear he
 have hle := ho.le
 obtain ⟨L, hL⟩ : ∃ L, L = c2q l := ⟨_, rfl⟩
 have hLl : L.length = l.length := by rw [hL, l0q]
 have hok : PlOK L := by rw [hL]; exact t3q hwf
 rw [← hL] at hQ
 refine vsk fun K1 hK1 => ?_
 refine a3q 0 [] ?_
 simp only [bs, ↓vopx, ↓vop, a1q, flat, V.cells, h0, wocs, ↓goc, ↓woc, ↓a2q, Tryd.zv25]
 refine hK1 _ _ ?_
 refine vsk fun K2 hK2 => ?_
 refine o2q fun sa hSa => ?_
 have ha2 : sa.m s.next = some (.box 25 [.t (b7q o.labels), .t (a9q o.pairs)]) := by rw [hSa, c5q, if_neg (by rw [c9q]; omega), c5q, if_pos rfl]
 have ha4 : sa.m (s.next + 1) = some (.box 25 [.t (.v (.slice none 0 0)), .t (.v (.slice none 0 0))]) := by rw [hSa, c5q, if_pos (by rw [c9q])]
 have han : sa.next = s.next + 2 := by rw [hSa]; rfl
 have hak : ∀ j, j < s.next → sa.m j = s.m j := fun j hj => by rw [hSa, c5q, if_neg (by rw [c9q]; omega), c5q, if_neg (by omega)]
 have hua : RefU sa p m l := hu.keep (fun n b hn hb => by rw [hak n hn]; exact hb) (by omega)
 clear hSa
 refine a3q 0 [.stop] ?_
 simp only [bs, ↓vopx, ↓vop, Nat.reduceBEq, a1q, Nat.reduceLT, hl, h1, wocs, ↓goc, ↓woc, ↓a2q, ↓c4q, a6q]
 refine ⟨Tryd.is90, k4q.v (j2x sa p m l hua (by omega) hwf) ?_⟩
 rw [← hL]
 try simp only [bs, Nat.reduceBEq, Nat.reduceLT, hl, h1, Hold]
 refine hK2 _ _ ?_
 refine vsk fun K3 hK3 => ?_
 refine a3q 0 [] ?_
 simp only [bs, ↓vopx, ↓vop, a1q, flat, wocs, ↓goc, ↓woc, ↓a2q]
 refine hK3 _ _ ?_
 refine vsk fun K4 hK4 => ?_
 refine vsk fun K5 hK5 => ?_
 refine VW.name 7 1 9 (by omega) ?_ ?_
 ·try simp only [a0q, lpv, hl, Nat.reduceLT]
 refine o2q fun sb hSb => ?_
 have hLa : LaI s o L 0 sa.next sb := ⟨by rw [hSb, c5q, if_neg (by omega)]; exact ha2, by rw [hSb, c5q, if_neg (by omega)]; exact ha4, by rw [hSb, c5q, if_pos rfl]; rfl, fun j hj => by rw [hSb, c5q, if_neg (by omega)]; exact hak j hj, by omega, by rw [hSb, c9q]; omega⟩
 clear hSb
 refine a3q 0 [] ?_
 simp only [bs, ↓vopx, ↓vop, a1q, flat, wocs, ↓goc, ↓woc, ↓a2q]
 refine hK5 _ _ ?_
 refine a5q ?_
 refine d0q (fun mm e' s' => ∃ i : Nat, mm = L.length - i ∧ i ≤ L.length ∧ e'.length = 73 ∧ ev e' (.tmp 2) = .ptr s.next 0 ∧ ev e' (.tmp 4) = .ptr (s.next + 1) 0 ∧ ev e' (.tmp 6) = .t (b0q L) ∧ ev e' (.tmp 8) = I i ∧ True ∧ ∃ m7, ev e' (.tmp 7) = .loc m7 0 (i0q o L i).length ∧ LaI s o L i m7 s') (⟨0, rfl, Nat.zero_le _, ?_⟩) ?_
 ·try simp only [a0q, a4q, Nat.reduceBEq, lpv, hl, Nat.reduceLT, true_and]
  repeat ((with_reducible refine And.intro ?_ ?_); · trivial)
  exact ⟨_, rfl, hLa⟩
 rintro mm e s1 ⟨i, rfl, hle_i, hl, k2, k4, k6, h_i, hst, ⟨m7, k7, hLa⟩⟩
 refine vsk fun K6 hK6 => ?_
 refine vsk fun K7 hK7 => ?_
 refine a3q 0 [] ?_
 simp only [bs, ↓vopx, ↓vop, Nat.reduceBEq, a1q, Nat.reduceLT, opII, hl, k6, h_i, wocs, ↓goc, ↓woc, ↓a2q, f1q]
 refine hK7 _ _ ?_
 refine vck fun A B hA hB => ?_
 simp only [b5q, a0q, lpv, Nat.reduceLT, decide_eq_true_eq, decide_eq_false_iff_not, hl]
 refine ⟨fun hc16 => hA ?_, fun hc16 => hB ?_⟩
 ·clear hA hB A B
  refine b1q ?_
  refine hK6 _ _ ?_
  refine vsk fun K8 hK8 => ?_
  refine a5q ?_
  refine vsk fun K9 hK9 => ?_
  have hlt : i < L.length := by omega
  obtain ⟨z, hz⟩ : ∃ z, L[i]? = some z := ⟨_, List.getElem?_eq_getElem hlt⟩
  refine a3q 0 [] ?_
  simp only [bs, ↓vopx, ↓vop, Nat.reduceBEq, a1q, Nat.reduceLT, a7q, a8q, opII, hl, k6, h_i, k7, wocs, ↓goc, ↓woc, ↓a2q, Tryd.ag3, Tryd.sz3, Tryd.un26, hz]
  repeat ((with_reducible refine And.intro ?_ ?_); · (with_reducible assumption))
  refine hK9 _ _ ?_
  refine vck fun A B hA hB => ?_
  simp only [b5q, a0q, lpv, Nat.reduceLT, beq_iff_eq, beq_eq_false_iff_ne, ne_eq, hl]
  refine ⟨fun hzc => hA ?_, fun hzc => hB ?_⟩
  ·clear hA hB A B
   obtain ⟨lb, hlb⟩ : ∃ lb, o.labels[i]? = some lb := ⟨_, List.getElem?_eq_getElem (by omega)⟩
   have hb2 := hLa.b2
   have ha7 := hLa.a7
   have hsm := f3z o L i
   have hfs := j8z L i
   have n1 : ¬ m7 = s1.next := by have := hLa.hi; omega
   have n2 : ¬ s.next = s1.next := by have := hLa.hi; have := hLa.lo; omega
   have hil : i < o.labels.length := by omega
   refine a3q 0 [] ?_
   simp only [bs, dstT, srcT, Nat.reduceLeDiff, d8q, g2q, repl, Sg.frzP, ↓vopx, ↓vop, Nat.reduceBEq, a1q, c0q, Nat.reduceLT, V.cells, a7q, a8q, Sg.frzL, Sg.frz1, hl, k2, h_i, k7, wocs, ↓goc, ↓woc, ↓a2q, Tryd.ag22, Tryd.ag9, Tryd.fd25_0, Tryd.sl22, Tryd.sz22, Tryd.sz9, Tryd.un22, hb2, ha7, n1, hlb, Nat.div_one]
   repeat ((with_reducible refine And.intro ?_ ?_); · first | (with_reducible assumption) | omega)
   refine hK8 _ _ ?_
   refine a3q 0 [] ?_
   simp only [bs, ↓vopx, ↓vop, Nat.reduceBEq, a1q, flat, Nat.reduceLT, opII, hl, k2, k4, k6, h_i, wocs, ↓goc, ↓woc, ↓a2q]
   repeat ((with_reducible refine And.intro ?_ ?_); · exact ⟨by omega, by omega⟩)
   refine ⟨L.length - (i + 1), by omega, i + 1, rfl, by omega, ?_⟩
   try simp only [a0q, a4q, Nat.reduceBEq, lpv, hl, k2, k4, k6, h_i, k7, if_true, if_false, Nat.reduceEqDiff, Nat.reduceLT, true_and, and_true]
   repeat ((with_reducible refine And.intro ?_ ?_); · trivial)
   first
    | exact hLa.old hz hzc
    | exact hLa.new hz hzc hlb _
  ·clear hA hB A B
   refine b1q ?_
   refine hK8 _ _ ?_
   refine a3q 0 [] ?_
   simp only [bs, ↓vopx, ↓vop, Nat.reduceBEq, a1q, flat, Nat.reduceLT, opII, hl, k2, k4, k6, h_i, k7, wocs, ↓goc, ↓woc, ↓a2q]
   repeat ((with_reducible refine And.intro ?_ ?_); · exact ⟨by omega, by omega⟩)
   refine ⟨L.length - (i + 1), by omega, i + 1, rfl, by omega, ?_⟩
   try simp only [a0q, a4q, Nat.reduceBEq, lpv, hl, k2, k4, k6, h_i, k7, if_true, if_false, Nat.reduceEqDiff, Nat.reduceLT, true_and, and_true]
   repeat ((with_reducible refine And.intro ?_ ?_); · trivial)
   first
    | exact hLa.old hz hzc
    | exact hLa.new hz hzc hlb _
 ·clear hA hB A B
  have han2 : L.length = i := by omega
  refine c8q ?_
  simp only [a1q, c0q, if_true]
  refine hK4 _ _ ?_
  refine vsk fun K10 hK10 => ?_
  rw [← han2] at hLa k7
  have hla7 := hLa.a7
  have hl7 := hLa.lo
  have hh7 := hLa.hi
  refine VW.freeze 7 (n := m7) (len := (i0q o L L.length).length) (k := 1) (el := 9) (cs := (i0q o L L.length).map TS) ?_ hla7 (by simp) ?_
  ·try simp only [a4q, Nat.reduceBEq, k7]
  refine o2q fun sF hSF => ?_
  have hF2 : sF.m s.next = some (.box 25 [.t (b7q o.labels), .t (a9q o.pairs)]) := by rw [hSF, e2q, if_neg (by omega)]; exact hLa.b2
  have hF4 : sF.m (s.next + 1) = some (.box 25 [.t (.v (.slice none 0 0)), .t (.v (.slice none 0 0))]) := by rw [hSF, e2q, if_neg (by omega)]; exact hLa.b4
  have hFk : ∀ j, j < s.next → sF.m j = s.m j := fun j hj => by rw [hSF, e2q, if_neg (by omega)]; exact hLa.same j hj
  have hFn : s.next + 2 ≤ sF.next := by rw [hSF, e4q]; omega
  clear hSF
  have hgn : (i0q o L L.length).length = glN L := by rw [f3z]; rfl
  have hg40 : glN L ≤ 40 := by have := j8z L L.length; show (fstL L L.length).length ≤ 40; omega
  refine a3q 0 [.stop] ?_
  simp only [bs, ↓vopx, ↓vop, a1q, Nat.reduceLT, hl, wocs, ↓goc, ↓woc, ↓a2q, ↓c4q, a6q, c7q, hgn]
  refine ⟨Tryd.is91, (t3z sF (glN L)).mono fun v s2 hv => ?_⟩
  rw [h4z (by omega)] at hv
  obtain ⟨c, o1, r1, rfl, hR, hFr, hk, hnx⟩ := hv
  try simp only [bs, Nat.reduceLT, hl, Hold]
  refine hK10 _ _ ?_
  refine vsk fun K11 hK11 => ?_
  refine vsk fun K12 hK12 => ?_
  refine a3q 0 [] ?_
  simp only [bs, ↓vopx, ↓vop, a1q, flat, wocs, ↓goc, ↓woc, ↓a2q]
  refine hK12 _ _ ?_
  refine a5q ?_
  refine d0q (fun mm e' s' => ∃ j : Nat, mm = o.pairs.length - j ∧ j ≤ o.pairs.length ∧ e'.length = 73 ∧ ev e' (.tmp 2) = .ptr s.next 0 ∧ ev e' (.tmp 4) = .ptr (s.next + 1) 0 ∧ ev e' (.tmp 6) = .t (b0q L) ∧ ev e' (.tmp 7) = .t (b7q (i0q o L L.length)) ∧ ev e' (.tmp 9) = .ptr c 0 ∧ ev e' (.tmp 10) = I j ∧ True ∧ RefR s' c (glN L) (mxOf ((o.pairs.map (mpP L)).take j)) o1 r1 ∧ Keep sF s' ∧ sF.next ≤ s'.next) (⟨0, rfl, Nat.zero_le _, ?_⟩) ?_
  ·try simp only [a0q, a4q, Nat.reduceBEq, lpv, hl, k2, k4, k6, Nat.reduceLT, true_and]
   repeat ((with_reducible refine And.intro ?_ ?_); · trivial)
   first | exact hnx | exact ⟨hR.congr fun x y hx hy => by simp [mxOf], hk, hnx⟩
  rintro mm e s1 ⟨j, rfl, hle_j, hl, q2, q4, q6, q7, q9, h_j, hst, ⟨hd, hkeep, hnx2⟩⟩
  refine vsk fun K13 hK13 => ?_
  refine vsk fun K14 hK14 => ?_
  have hb2 := hkeep _ _ (by omega) hF2
  refine a3q 0 [] ?_
  simp only [bs, ↓vopx, ↓vop, Nat.reduceBEq, a1q, Nat.reduceLT, a7q, a8q, opII, hl, q2, h_j, wocs, ↓goc, ↓woc, ↓a2q, Tryd.ag23, Tryd.fd25_1, Tryd.sz23, Tryd.un23, g8q, hb2]
  refine hK14 _ _ ?_
  refine vck fun A B hA hB => ?_
  simp only [b5q, a0q, lpv, Nat.reduceLT, decide_eq_true_eq, decide_eq_false_iff_not, hl]
  refine ⟨fun hc41 => hA ?_, fun hc41 => hB ?_⟩
  ·clear hA hB A B
   refine b1q ?_
   refine hK13 _ _ ?_
   refine vsk fun K15 hK15 => ?_
   refine a5q ?_
   have hlt : j < o.pairs.length := by omega
   obtain ⟨p, hp⟩ : ∃ p, o.pairs[j]? = some p := ⟨_, List.getElem?_eq_getElem hlt⟩
   have g0 := b7x hp
   have g1 := b8x hp
   have hfl := e0q o.pairs
   have hin : (0 ≤ p.1 ∧ p.1 < o.labels.length) ∧ (0 ≤ p.2 ∧ p.2 < o.labels.length) := j1q.1 ((List.all_eq_true.1 ho.inb) p (List.mem_of_getElem? hp))
   obtain ⟨za, hza⟩ : ∃ z, L[p.1.toNat]? = some z := ⟨_, List.getElem?_eq_getElem (by omega)⟩
   obtain ⟨zb, hzb⟩ : ∃ z, L[p.2.toNat]? = some z := ⟨_, List.getElem?_eq_getElem (by omega)⟩
   have hla := hok.lt hza
   have hlb := hok.lt hzb
   obtain ⟨a, rfl⟩ : ∃ a : Nat, za = (a : Int) := ⟨za.toNat, by omega⟩
   obtain ⟨b, rfl⟩ : ∃ b : Nat, zb = (b : Int) := ⟨zb.toNat, by omega⟩
   have hmp : mpP L p = ((a : Int), (b : Int)) := by simp only [mpP, f0q hza, f0q hzb]
   have hp2k : (o.pairs.map (mpP L))[j]? = some ((a : Int), (b : Int)) := by rw [List.getElem?_map, hp, ← hmp]; rfl
   have xv : outV (glN L) o1 = .loc o1 0 (glN L) := by simp [outV, show ¬ glN L = 0 from by omega]
   have xo := hd.ho (by omega)
   have xr := hd.hr a (by omega)
   have xg : (List.range (glN L))[a]? = some a := List.getElem?_range (by omega)
   refine d2q Tryd.mixed 24 [0, 0, 0, 1, 0, 0, 1, 0, 1, 0, 1, 1, 1, 1, 1, 0, 0, 1, 0, 1, 0, 1, 1, 1] [] [] 0 (by decide +kernel) (by simp [lpv, hl]) rfl ?_
   simp only [bs, e9q, ↓vopx, ↓vop, Nat.reduceBEq, a1q, c0q, flat, Nat.reduceLT, V.cells, a7q, a8q, Sg.frzL, Sg.frz1, hl, q2, q6, q9, h_j, wocs, ↓goc, ↓woc, ↓a2q, ↓e7q, chn, ↓goq, ↓woq, List.zip_cons_cons, List.zip_nil_right, Tryd.ag117, Tryd.ag23, Tryd.ag3, Tryd.ag49, Tryd.fd119_1, Tryd.fd25_1, Tryd.fd84_0, Tryd.fd84_1, Tryd.sz117, Tryd.sz23, Tryd.sz3, Tryd.sz4, Tryd.sz49, Tryd.sz84, Tryd.un117, Tryd.un23, Tryd.un26, Tryd.un49, xv, xo, xr, xg, g0, g1, hfl, hd.hp, h1q, hza, hzb, hb2]
   repeat ((with_reducible refine And.intro ?_ ?_); · omega)
   refine hK15 _ _ ?_
   refine a3q 0 [] ?_
   simp only [bs, ↓vopx, ↓vop, Nat.reduceBEq, a1q, flat, Nat.reduceLT, opII, hl, q2, q4, q6, q7, q9, h_j, wocs, ↓goc, ↓woc, ↓a2q]
   repeat ((with_reducible refine And.intro ?_ ?_); · exact ⟨by omega, by omega⟩)
   refine ⟨o.pairs.length - (j + 1), by omega, j + 1, rfl, by omega, ?_⟩
   try simp only [a0q, a4q, Nat.reduceBEq, lpv, hl, q2, q4, q6, q7, q9, h_j, if_true, if_false, Nat.reduceEqDiff, Nat.reduceLT, true_and, and_true]
   repeat ((with_reducible refine And.intro ?_ ?_); · trivial)
   exact ⟨by rw [t0q hp2k, e7z]; exact hd.put (by omega) (by omega) true, hkeep.set (hFr.hr _ (by omega)) _, hnx2⟩
  ·clear hA hB A B
   have han3 : o.pairs.length = j := by omega
   refine c8q ?_
   simp only [a1q, c0q, if_true]
   refine hK11 _ _ ?_
   refine vsk fun K16 hK16 => ?_
   have hb4 := hkeep _ _ (by omega) hF4
   rw [← han3, List.take_of_length_le (by simp), p5x] at hd
   refine a3q 0 [.stop] ?_
   simp only [bs, ↓vopx, ↓vop, Nat.reduceBEq, a1q, Nat.reduceLT, V.cells, hl, q7, q9, wocs, ↓goc, ↓woc, ↓a2q, ↓c4q, a6q]
   refine ⟨Tryd.is92, k4q.v (c6j s1 (i0q o L L.length) (by omega) c (glN L) _ o1 r1 hd) ?_⟩
   try simp only [bs, Nat.reduceAdd, Nat.reduceBEq, Nat.reduceLT, hl, q4, q6, q7, q9, Tryd.sz25, hb4, Hold]
   refine hK16 _ _ ?_
   refine b3q ?_
   refine hQ _ _ _ (.inr rfl) (Done.toS ?_)
   refine s7q (vs := [vObj (h3q o L), .t (b0q L)]) ?_ rfl (by simp [pack, nm, nm2, nm1, nm0]) (fun n b hn h => by rw [b6q, if_neg (by omega)]; exact hkeep n b (by omega) (by rw [hFk n hn]; exact h))
   show vres Tryd.prog _ _ [.cell 4 25, .tmp 5] = _
   simp only [g7q, j9q, h9q, a0q, a4q, Nat.reduceBEq, lpv, hl, q4, Tryd.sz25, Tryd.ag25, a7q, b6q, a8q, if_true, Nat.reduceLT, List.drop_zero, List.take_succ_cons, List.take_zero, List.length_cons, List.length_nil, Nat.zero_add, Nat.reduceAdd]
   rfl
end Go.Proofs

open Go Go.V
namespace Go.Proofs
theorem e7j {l : List Int} (h : wfU l) (a b : Nat) : wfU (joinL l a b) := fun i z hz => by
 have nn : ∀ j, 0 ≤ l.getD j 0 := fun j => by
  rw [List.getD_eq_getElem?_getD]
  cases hh : l[j]? with
  | none => exact Int.le_refl _
  | some v => exact (h j v hh).1
 unfold joinL at hz
 rw [List.getElem?_map] at hz
 obtain ⟨w, hw, rfl⟩ := Option.map_eq_some_iff.1 hz
 have h1 := h i w hw
 have h2 := nn a
 have h3 := nn b
 split <;> omega
theorem w2x (n : Nat) : wfU (d5q n) := fun i z hz => by
 have hi : i < n := by have := (List.getElem?_eq_some_iff.1 hz).1; rwa [e5q] at this
 have : (d5q n)[i]? = some (i : Int) := by simp [d5q, hi]
 rw [this] at hz; cases hz
 omega
theorem a4x (n : Nat) (f g : List Int) : ∀ i, wfU (f3q (d5q n) f g i)
 | 0 => w2x n
 | i + 1 => e7j (a4x n f g i) _ _
theorem s8q (b : Ob) : j5q [b] = decide (40 < b.labels.length) := by simp [j5q, sumT]
theorem s9q (b c : Ob) : j5q [b, c] = decide (40 < b.labels.length + c.labels.length) := by simp [j5q, sumT]
end Go.Proofs

open Go Go.V
namespace Go.Proofs
theorem half2 (n : Nat) : n * 2 / 2 = n := by omega
theorem keep_da (s : Sg) (m : Nat) (B : Blk) : Keep (s.del m) (s.add B) := fun n b hn hb => by
 rw [e2q] at hb
 split at hb
 ·cases hb
 ·have h2 : n < s.next := hn
  have : ¬ n = s.next := by omega
  rw [c5q, if_neg this]; exact hb
theorem half22 (n : Nat) : (n * 2 + 2) / 2 = n + 1 := by omega
structure BdZ (s : Sg) (b c : Ob) (n6 m1 m2 : Nat) (s' : Sg) : Prop where
 b3 : s'.m (s.next + 1) = some (.box 25 [.t (b7q c.labels), .t (a9q c.pairs)])
 b4 : s'.m (s.next + 1 + 1) = some (.box 25 [.t (.v (.slice none 0 0)), .t (.v (.slice none 0 0))])
 b6 : s'.m n6 = some (.box 25 [.loc m1 0 (b.labels.length + c.labels.length), .loc m2 0 b.pairs.length])
 a1 : s'.m m1 = some (.arr 1 9 (b.labels.map TS ++ c.labels.map TS))
 a2 : s'.m m2 = some (.arr 2 84 (b.pairs.flatMap j8q))
 same : ∀ j, j < s.next → s'.m j = s.m j
 l6 : s.next + 3 ≤ n6 ∧ n6 < s'.next
 l1 : s.next + 3 ≤ m1 ∧ m1 < s'.next
 l2 : s.next + 3 ≤ m2 ∧ m2 < s'.next
 d : n6 ≠ m1 ∧ n6 ≠ m2 ∧ m1 ≠ m2
structure BdI (s : Sg) (b c : Ob) (n6 k m : Nat) (s' : Sg) : Prop where
 b3 : s'.m (s.next + 1) = some (.box 25 [.t (b7q c.labels), .t (a9q c.pairs)])
 b4 : s'.m (s.next + 1 + 1) = some (.box 25 [.t (.v (.slice none 0 0)), .t (.v (.slice none 0 0))])
 b6 : s'.m n6 = some (.box 25 [.t (b7q (b.labels ++ c.labels)), .loc m 0 (b.pairs.length + k)])
 am : s'.m m = some (.arr 2 84 ((b.pairs ++ (c.pairs.take k).map (shP b.labels.length)).flatMap j8q))
 same : ∀ j, j < s.next → s'.m j = s.m j
 l6 : s.next + 3 ≤ n6 ∧ n6 < s'.next
 lm : s.next + 3 ≤ m ∧ m < s'.next
 d : n6 ≠ m
theorem BdI.push {s : Sg} {b c : Ob} {n6 i m : Nat} {s1 : Sg} (h : BdI s b c n6 i m s1) {p : Int × Int} (hp : c.pairs[i]? = some p) (B : Blk) : BdI s b c n6 (i + 1) (s1.next + 1)
 ((((s1.add B).del m).add (.arr 2 84 ((b.pairs ++ (c.pairs.take i).map (shP b.labels.length)).flatMap j8q ++ [TI (p.1 + b.labels.length), TI (p.2 + b.labels.length)]))).set n6 (.box 25 [.t (b7q (b.labels ++ c.labels)), .loc (s1.next + 1) 0 (b.pairs.length + i + 1)])) := by
 obtain ⟨h3, h4, h6, ha, hs, ⟨l6, l6'⟩, ⟨lm, lm'⟩, hd⟩ := h
 have hfr : ∀ x, x < s1.next → x ≠ m → x ≠ n6 → ((((s1.add B).del m).add (.arr 2 84 ((b.pairs ++ (c.pairs.take i).map (shP b.labels.length)).flatMap j8q ++ [TI (p.1 + b.labels.length), TI (p.2 + b.labels.length)]))).set n6 (.box 25 [.t (b7q (b.labels ++ c.labels)), .loc (s1.next + 1) 0 (b.pairs.length + i + 1)])).m x = s1.m x := fun x h1 h2 h5 => by
  rw [b6q, if_neg h5, c5q, if_neg (by simp only [e4q, c9q]; omega), e2q, if_neg h2, c5q, if_neg (by omega)]
 refine ⟨by rw [hfr _ (by omega) (by omega) (by omega)]; exact h3, by rw [hfr _ (by omega) (by omega) (by omega)]; exact h4, by rw [b6q, if_pos rfl]; rfl, ?_, fun j hj => by rw [hfr _ (by omega) (by omega) (by omega)]; exact hs j hj, ⟨l6, by simp only [i6q, c9q, e4q]; omega⟩, ⟨by omega, by simp only [i6q, c9q, e4q]; omega⟩, by omega⟩
 rw [b6q, if_neg (by omega), c5q, if_pos (by simp only [e4q, c9q]), List.take_add_one, hp]
 simp [shP, j8q]
set_option maxRecDepth 20000 in
set_option maxHeartbeats 4000000 in
theorem x7x (b c : Ob) (hb1 : b.labels.length < 1000000000) (hb2 : b.pairs.length < 1000000000) (hc1 : c.labels.length < 1000000000) (hc2 : c.pairs.length < 1000000000) (hcO : IsOb c) : g3q Tryd.prog 69 [vObj b, vObj c] (vObj (d4q b c)) := by
 refine b9q Tryd.func69 rfl fun s Q hQ => ?_
 obtain ⟨e, he, hl, h0, h1⟩ : ∃ e : Env, ([vObj b, vObj c] ++ List.replicate (Tryd.f69.ntmps - ([vObj b, vObj c] : List V).length) .junk) = e ∧ e.length = 51 ∧ ev e (.tmp 0) = vObj b ∧ ev e (.tmp 1) = vObj c := ⟨_, rfl, rfl, rfl, rfl⟩
 rw [he]
 clear he
 refine vsk fun K1 hK1 => ?_
 refine a3q 0 [] ?_
 simp only [bs, ↓vopx, ↓vop, Nat.reduceBEq, a1q, V.cells, h0, h1, wocs, ↓goc, ↓woc, ↓a2q, Tryd.zv25]
 refine hK1 _ _ ?_
 refine vsk fun K2 hK2 => ?_
 refine a3q 0 [] ?_
 simp only [bs, ↓vopx, ↓vop, Nat.reduceBEq, a1q, Nat.reduceLT, a7q, a8q, hl, wocs, ↓goc, ↓woc, ↓a2q, Tryd.ag22, Tryd.fd25_0, Tryd.sz22, Tryd.un22, nns, c7q]
 refine hK2 _ _ ?_
 refine vsk fun K3 hK3 => ?_
 suffices key : ∀ (e2 : Env) (s2 : Sg) (n6 m1 m2 : Nat), e2.length = 51 → ev e2 (.tmp 2) = .ptr s.next 0 → ev e2 (.tmp 3) = .ptr (s.next + 1) 0 → ev e2 (.tmp 4) = .ptr (s.next + 1 + 1) 0 → ev e2 (.tmp 5) = I b.labels.length → ev e2 (.tmp 6) = .ptr n6 0 → BdZ s b c n6 m1 m2 s2 → K3 e2 s2 by
  refine n3z Tryd.mixed 11 [2, 5, 8, 10] (.quiet 0 0 (.quiet 1 2 (.quiet 3 0 (.quiet 4 2 (.quiet 6 0 (.quiet 7 2 (.alt 2 0 (.alt 5 0 (.alt 8 0 (.quiet 9 0 (.alt 10 0 (.leaf) (.none))) (.alt 10 0 (.alt 8 0 (.quiet 9 0 (.leaf)) (.none)) (.none))) (.alt 10 0 (.alt 5 0 (.alt 8 0 (.quiet 9 0 (.leaf)) (.none)) (.none)) (.none))) (.alt 10 0 (.alt 2 0 (.alt 5 0 (.alt 8 0 (.quiet 9 0 (.leaf)) (.none)) (.none)) (.none)) (.none))))))))) [] [] 0 (by decide +kernel) (by simp [lpv, hl]) rfl ?_
  simp only [bs, dstT, srcT, Nat.reduceLeDiff, Nat.reduceAdd, d8q, g2q, ↓vopx, ↓vop, Nat.reduceBEq, a1q, flat, Nat.reduceLT, V.cells, a7q, a8q, hl, trn, wocs, ↓goc, ↓woc, ↓a2q, ↓goq, ↓woq, Tryd.ag22, Tryd.ag23, Tryd.fd25_0, Tryd.fd25_1, Tryd.sl22, Tryd.sl23, Tryd.st25, Tryd.sz22, Tryd.sz23, Tryd.sz25, Tryd.zv25, half2, Nat.div_one, nns, e0q]
  (repeat' (refine And.intro ?_ ?_))
  all_goals first | omega | (repeat' first | exact Keep.refl _ | refine Keep.add ?_ ?_ _ | refine Keep.del ?_ ?_ | refine Keep.set ?_ ?_ _ | exact Nat.le_refl _ | (simp only [c9q, e4q]; omega); done) | skip
  ·refine key _ _ (s.next + 1 + 1 + 1 + 1 + 1 + 1) (s.next + 1 + 1 + 1 + 1) (s.next + 1 + 1 + 1 + 1 + 1) ?_ ?_ ?_ ?_ ?_ ?_ ⟨?_, ?_, ?_, ?_, ?_, fun j hj => ?_, ⟨by omega, ?_⟩, ⟨by omega, ?_⟩, ⟨by omega, ?_⟩, ⟨by omega, by omega, by omega⟩⟩
   ·simp only [lpv, hl]
   ·simp only [a0q, a4q, Nat.reduceBEq, hl, Nat.reduceLT]
   ·simp only [a0q, a4q, Nat.reduceBEq, lpv, hl, Nat.reduceLT]
   ·simp only [a0q, a4q, Nat.reduceBEq, lpv, hl, Nat.reduceLT]
   ·simp only [a0q, a4q, Nat.reduceBEq, lpv, hl, Nat.reduceLT]
   ·simp only [a0q, lpv, hl, Nat.reduceLT]
   ·simp only [b6q, c5q, e2q, c9q, e4q, nns, if_true, if_false]
   ·simp only [b6q, c5q, e2q, c9q, e4q, nns, if_true, if_false]
   ·simp only [b6q, c5q, e2q, c9q, e4q, nns, if_true, if_false]
   ·simp only [b6q, c5q, e2q, c9q, e4q, nns, if_true, if_false]
   ·simp only [b6q, c5q, e2q, c9q, e4q, nns, if_true, if_false]
   ·have z0 : ¬ j = s.next := (by omega); have z1 : ¬ j = s.next + 1 := (by omega); have z2 : ¬ j = s.next + 1 + 1 := (by omega); have z3 : ¬ j = s.next + 1 + 1 + 1 := (by omega); have z4 : ¬ j = s.next + 1 + 1 + 1 + 1 := (by omega); have z5 : ¬ j = s.next + 1 + 1 + 1 + 1 + 1 := (by omega); have z6 : ¬ j = s.next + 1 + 1 + 1 + 1 + 1 + 1 := (by omega)
    simp only [b6q, c5q, e2q, c9q, e4q, z0, z1, z2, z3, z4, z5, z6, if_false]
   ·simp only [c9q, i6q, e4q]; omega
   ·simp only [c9q, i6q, e4q]; omega
   ·simp only [c9q, i6q, e4q]; omega
  ·refine key _ _ (s.next + 1 + 1 + 1 + 1 + 1) (s.next + 1 + 1 + 1 + 1) (s.next + 1 + 1 + 1 + 1 + 1 + 1) ?_ ?_ ?_ ?_ ?_ ?_ ⟨?_, ?_, ?_, ?_, ?_, fun j hj => ?_, ⟨by omega, ?_⟩, ⟨by omega, ?_⟩, ⟨by omega, ?_⟩, ⟨by omega, by omega, by omega⟩⟩
   ·simp only [lpv, hl]
   ·simp only [a0q, a4q, Nat.reduceBEq, hl, Nat.reduceLT]
   ·simp only [a0q, a4q, Nat.reduceBEq, lpv, hl, Nat.reduceLT]
   ·simp only [a0q, a4q, Nat.reduceBEq, lpv, hl, Nat.reduceLT]
   ·simp only [a0q, a4q, Nat.reduceBEq, lpv, hl, Nat.reduceLT]
   ·simp only [a0q, a4q, Nat.reduceBEq, lpv, hl, Nat.reduceLT]
   ·simp only [b6q, c5q, e2q, c9q, e4q, nns, if_true, if_false]
   ·simp only [b6q, c5q, e2q, c9q, e4q, nns, if_true, if_false]
   ·simp only [b6q, c5q, e2q, c9q, e4q, nns, if_true, if_false]
   ·simp only [b6q, c5q, e2q, c9q, e4q, nns, if_true, if_false]
   ·simp only [b6q, c5q, e2q, c9q, e4q, nns, if_true, if_false]
   ·have z0 : ¬ j = s.next := (by omega); have z1 : ¬ j = s.next + 1 := (by omega); have z2 : ¬ j = s.next + 1 + 1 := (by omega); have z3 : ¬ j = s.next + 1 + 1 + 1 := (by omega); have z4 : ¬ j = s.next + 1 + 1 + 1 + 1 := (by omega); have z5 : ¬ j = s.next + 1 + 1 + 1 + 1 + 1 := (by omega); have z6 : ¬ j = s.next + 1 + 1 + 1 + 1 + 1 + 1 := (by omega)
    simp only [b6q, c5q, e2q, c9q, e4q, z0, z1, z2, z3, z4, z5, z6, if_false]
   ·simp only [c9q, i6q, e4q]; omega
   ·simp only [c9q, i6q, e4q]; omega
   ·simp only [c9q, i6q, e4q]; omega
  ·refine key _ _ (s.next + 1 + 1 + 1 + 1) (s.next + 1 + 1 + 1 + 1 + 1) (s.next + 1 + 1 + 1 + 1 + 1 + 1) ?_ ?_ ?_ ?_ ?_ ?_ ⟨?_, ?_, ?_, ?_, ?_, fun j hj => ?_, ⟨by omega, ?_⟩, ⟨by omega, ?_⟩, ⟨by omega, ?_⟩, ⟨by omega, by omega, by omega⟩⟩
   ·simp only [lpv, hl]
   ·simp only [a0q, a4q, Nat.reduceBEq, hl, Nat.reduceLT]
   ·simp only [a0q, a4q, Nat.reduceBEq, lpv, hl, Nat.reduceLT]
   ·simp only [a0q, a4q, Nat.reduceBEq, lpv, hl, Nat.reduceLT]
   ·simp only [a0q, a4q, Nat.reduceBEq, lpv, hl, Nat.reduceLT]
   ·simp only [a0q, a4q, Nat.reduceBEq, lpv, hl, Nat.reduceLT]
   ·simp only [b6q, c5q, e2q, c9q, e4q, nns, if_true, if_false]
   ·simp only [b6q, c5q, e2q, c9q, e4q, nns, if_true, if_false]
   ·simp only [b6q, c5q, e2q, c9q, e4q, nns, if_true, if_false]
   ·simp only [b6q, c5q, e2q, c9q, e4q, nns, if_true, if_false]
   ·simp only [b6q, c5q, e2q, c9q, e4q, nns, if_true, if_false]
   ·have z0 : ¬ j = s.next := (by omega); have z1 : ¬ j = s.next + 1 := (by omega); have z2 : ¬ j = s.next + 1 + 1 := (by omega); have z3 : ¬ j = s.next + 1 + 1 + 1 := (by omega); have z4 : ¬ j = s.next + 1 + 1 + 1 + 1 := (by omega); have z5 : ¬ j = s.next + 1 + 1 + 1 + 1 + 1 := (by omega); have z6 : ¬ j = s.next + 1 + 1 + 1 + 1 + 1 + 1 := (by omega)
    simp only [b6q, c5q, e2q, c9q, e4q, z0, z1, z2, z3, z4, z5, z6, if_false]
   ·simp only [c9q, i6q, e4q]; omega
   ·simp only [c9q, i6q, e4q]; omega
   ·simp only [c9q, i6q, e4q]; omega
  ·refine key _ _ (s.next + 1 + 1 + 1) (s.next + 1 + 1 + 1 + 1 + 1) (s.next + 1 + 1 + 1 + 1 + 1 + 1) ?_ ?_ ?_ ?_ ?_ ?_ ⟨?_, ?_, ?_, ?_, ?_, fun j hj => ?_, ⟨by omega, ?_⟩, ⟨by omega, ?_⟩, ⟨by omega, ?_⟩, ⟨by omega, by omega, by omega⟩⟩
   ·simp only [lpv, hl]
   ·simp only [a0q, a4q, Nat.reduceBEq, hl, Nat.reduceLT]
   ·simp only [a0q, a4q, Nat.reduceBEq, lpv, hl, Nat.reduceLT]
   ·simp only [a0q, a4q, Nat.reduceBEq, lpv, hl, Nat.reduceLT]
   ·simp only [a0q, a4q, Nat.reduceBEq, lpv, hl, Nat.reduceLT]
   ·simp only [a0q, a4q, Nat.reduceBEq, lpv, hl, Nat.reduceLT]
   ·simp only [b6q, c5q, e2q, c9q, e4q, nns, if_true, if_false]
   ·simp only [b6q, c5q, e2q, c9q, e4q, nns, if_true, if_false]
   ·simp only [b6q, c5q, e2q, c9q, e4q, nns, if_true, if_false]
   ·simp only [b6q, c5q, e2q, c9q, e4q, nns, if_true, if_false]
   ·simp only [b6q, c5q, e2q, c9q, e4q, nns, if_true, if_false]
   ·have z0 : ¬ j = s.next := (by omega); have z1 : ¬ j = s.next + 1 := (by omega); have z2 : ¬ j = s.next + 1 + 1 := (by omega); have z3 : ¬ j = s.next + 1 + 1 + 1 := (by omega); have z4 : ¬ j = s.next + 1 + 1 + 1 + 1 := (by omega); have z5 : ¬ j = s.next + 1 + 1 + 1 + 1 + 1 := (by omega); have z6 : ¬ j = s.next + 1 + 1 + 1 + 1 + 1 + 1 := (by omega)
    simp only [b6q, c5q, e2q, c9q, e4q, z0, z1, z2, z3, z4, z5, z6, if_false]
   ·simp only [c9q, i6q, e4q]; omega
   ·simp only [c9q, i6q, e4q]; omega
   ·simp only [c9q, i6q, e4q]; omega
 intro e2 s2 n6 m1 m2 hl2 g2 g3 g4 g5 g6 hZ
 refine hK3 _ _ ?_
 refine vsk fun K4 hK4 => ?_
 refine vsk fun K5 hK5 => ?_
 refine VW.freezeBox n6 0 (n := m1) hZ.b6 rfl hZ.a1 (by simp) ?_
 refine o2q fun s3 hS3 => ?_
 have hI : BdI s b c n6 0 m2 s3 := by
  obtain ⟨z3, z4, z6, za, zb, zs, ⟨zl, zl2⟩, ⟨zm, zm2⟩, ⟨zn, zn2⟩, zd1, zd2, zd3⟩ := hZ
  refine ⟨?_, ?_, ?_, ?_, fun j hj => ?_, ⟨zl, ?_⟩, ⟨zn, ?_⟩, zd2⟩
  ·rw [hS3, b6q, if_neg (by omega), e2q, if_neg (by omega)]; exact z3
  ·rw [hS3, b6q, if_neg (by omega), e2q, if_neg (by omega)]; exact z4
  ·rw [hS3, b6q, if_pos rfl]; simp [b7q]
  ·rw [hS3, b6q, if_neg (by omega), e2q, if_neg (by omega), zb]; simp
  ·rw [hS3, b6q, if_neg (by omega), e2q, if_neg (by omega)]; exact zs j hj
  ·rw [hS3]; exact zl2
  ·rw [hS3]; exact zn2
 clear hS3 hZ
 refine a3q 0 [] ?_
 simp only [bs, ↓vopx, ↓vop, a1q, flat, wocs, ↓goc, ↓woc, ↓a2q]
 refine hK5 _ _ ?_
 refine a5q ?_
 refine d0q (fun mm e' s' => ∃ i : Nat, mm = c.pairs.length - i ∧ i ≤ c.pairs.length ∧ e'.length = 51 ∧ ev e' (.tmp 3) = .ptr (s.next + 1) 0 ∧ ev e' (.tmp 4) = .ptr (s.next + 1 + 1) 0 ∧ ev e' (.tmp 5) = I b.labels.length ∧ ev e' (.tmp 6) = .ptr n6 0 ∧ ev e' (.tmp 7) = I i ∧ True ∧ ∃ m, BdI s b c n6 i m s') (⟨0, rfl, Nat.zero_le _, ?_⟩) ?_
 ·try simp only [a0q, a4q, Nat.reduceBEq, lpv, hl2, g3, g4, g5, g6, Nat.reduceLT, true_and]
  repeat ((with_reducible refine And.intro ?_ ?_); · trivial)
  exact ⟨_, hI⟩
 rintro mm e s1 ⟨i, rfl, hle_i, hl, k3, k4, k5, k6, h_i, hst, ⟨m, hI⟩⟩
 refine vsk fun K6 hK6 => ?_
 refine vsk fun K7 hK7 => ?_
 have hb3 := hI.b3
 refine a3q 0 [] ?_
 simp only [bs, ↓vopx, ↓vop, Nat.reduceBEq, a1q, Nat.reduceLT, a7q, a8q, opII, hl, k3, h_i, wocs, ↓goc, ↓woc, ↓a2q, Tryd.ag23, Tryd.fd25_1, Tryd.sz23, Tryd.un23, nns, g8q, hb3]
 refine hK7 _ _ ?_
 refine vck fun A B hA hB => ?_
 simp only [b5q, a0q, lpv, Nat.reduceLT, decide_eq_true_eq, decide_eq_false_iff_not, hl]
 refine ⟨fun hc25 => hA ?_, fun hc25 => hB ?_⟩
 ·clear hA hB A B
  refine b1q ?_
  refine hK6 _ _ ?_
  refine vsk fun K8 hK8 => ?_
  refine a5q ?_
  obtain ⟨p, hp⟩ : ∃ p, c.pairs[i]? = some p := ⟨_, List.getElem?_eq_getElem (by omega)⟩
  have g0 := b7x hp
  have g1 := b8x hp
  have hfl := e0q c.pairs
  have hb3 := hI.b3
  have hb6 := hI.b6
  have ham := hI.am
  have lm := hI.lm
  have l6 := hI.l6
  have hd6 := hI.d
  have hlp : (b.pairs ++ (c.pairs.take i).map (shP b.labels.length)).length = b.pairs.length + i := by rw [List.length_append, List.length_map, List.length_take]; omega
  have hil : i < c.pairs.length := by omega
  have hin : (0 ≤ p.1 ∧ p.1 < c.labels.length) ∧ (0 ≤ p.2 ∧ p.2 < c.labels.length) := j1q.1 ((List.all_eq_true.1 hcO.inb) p (List.mem_of_getElem? hp))
  have y1 : ¬ s.next + 1 = m := by omega
  have y2 : ¬ n6 = m := hd6
  have y3 : ¬ m = n6 := fun h => hd6 h.symm
  have y4 : ¬ n6 = s1.next := by omega
  have y5 : ¬ m = s1.next := by omega
  have y6 : ¬ s1.next = m := by omega
  have y7 : ¬ n6 = s1.next + 1 := by omega
  refine g0z (m) Tryd.mixed 20 [0, 2, 0, 1, 0, 1, 0, 1, 0, 0, 0, 1, 0, 1, 0, 1, 0, 0, 0, 3] [] [] 0 (by decide +kernel) (by simp [lpv, hl]) rfl ?_
  simp only [bs, dstT, srcT, Nat.reduceLeDiff, Nat.reduceAdd, d8q, g2q, repl, Sg.frzP, ↓vopx, ↓vop, Nat.reduceBEq, a1q, c0q, Nat.reduceLT, V.cells, a7q, a8q, opII, Sg.frzL, Sg.frz1, hl, k3, k5, k6, h_i, wocs, ↓goc, ↓woc, ↓a2q, ↓e7q, chn, ↓goq, ↓woq, List.zip_cons_cons, List.zip_nil_right, Tryd.ag23, Tryd.ag3, Tryd.fd25_1, Tryd.fd84_0, Tryd.fd84_1, Tryd.sl23, Tryd.st84, Tryd.sz23, Tryd.sz3, Tryd.sz84, Tryd.un23, half22, nns, hb3, hb6, ham, hfl, g0, g1, hlp, e0q, y2, y4, y5, y7]
  repeat ((with_reducible refine And.intro ?_ ?_); · first | omega | exact ⟨by omega, by omega⟩ | exact keep_da _ _ _)
  refine hK8 _ _ ?_
  refine a3q 0 [] ?_
  simp only [bs, ↓vopx, ↓vop, Nat.reduceBEq, a1q, flat, Nat.reduceLT, opII, hl, k3, k4, k5, k6, h_i, wocs, ↓goc, ↓woc, ↓a2q]
  repeat ((with_reducible refine And.intro ?_ ?_); · exact ⟨by omega, by omega⟩)
  refine ⟨c.pairs.length - (i + 1), by omega, i + 1, rfl, by omega, ?_⟩
  try simp only [a0q, a4q, Nat.reduceBEq, lpv, hl, k3, k4, k5, k6, h_i, if_true, if_false, Nat.reduceEqDiff, Nat.reduceLT, true_and, and_true]
  repeat ((with_reducible refine And.intro ?_ ?_); · trivial)
  exact ⟨_, hI.push hp _⟩
 ·clear hA hB A B
  refine c8q ?_
  simp only [a1q, c0q, if_true]
  refine hK4 _ _ ?_
  refine vsk fun K9 hK9 => ?_
  have hii : i = c.pairs.length := by omega
  subst hii
  have l6 := hI.l6
  have lm := hI.lm
  have hd6 := hI.d
  have ham := hI.am
  have hb6 := hI.b6
  have hb4 := hI.b4
  have hsm := hI.same
  rw [List.take_of_length_le (Nat.le_refl _)] at ham
  refine VW.freezeBox n6 1 (n := m) hb6 rfl ham (by rw [e0q, List.length_append, List.length_map]) ?_
  have y8 : ¬ s.next + 1 + 1 = n6 := by omega
  have y9 : ¬ s.next + 1 + 1 = m := by omega
  refine a3q 0 [] ?_
  simp only [bs, Nat.reduceAdd, ↓vopx, ↓vop, Nat.reduceBEq, a1q, Nat.reduceLT, V.cells, a7q, a8q, hl, k4, k6, wocs, ↓goc, ↓woc, ↓a2q, Tryd.ag25, Tryd.sz25, hb4, y8, y9, List.set_cons_succ, List.set_cons_zero]
  refine hK9 _ _ ?_
  refine b3q ?_
  refine hQ _ _ _ (.inr rfl) (Done.toS ?_)
  refine s7q (vs := [vObj (d4q b c)]) ?_ rfl (by simp [pack, nm, nm2, nm1, nm0]) (fun n b hn h => by rw [b6q, if_neg (by omega), b6q, if_neg (by omega), e2q, if_neg (by omega)]; exact (hsm n hn).trans h)
  show vres Tryd.prog _ _ [.cell 4 25] = _
  simp only [g7q, h9q, a4q, Nat.reduceBEq, k4, Tryd.sz25, Tryd.ag25, a7q, b6q, a8q, if_true, List.drop_zero, List.take_succ_cons, List.take_zero, List.length_cons, List.length_nil, Nat.zero_add, Nat.reduceAdd]
  rfl
end Go.Proofs

open Go Go.V
namespace Go.Proofs
abbrev gMv (b : Ob) (g : List Int) : List Int := g.map (· + (b.labels.length : Int))
def puPl (b c : Ob) (f g : List Int) : List Int := c2q (f3q (d5q (b.labels.length + c.labels.length)) f (gMv b g) f.length)
def m3q (a b c : Ob) (f g : List Int) : Ob × List Int × List Int × Int :=
 if j5q [a] = true ∨ j5q [b] = true ∨ j5q [b, c] = true then (⟨[], []⟩, [], [], 11) else if arrS a b f = true ∧ arrS a c g = true then
  (h3q (d4q b c) (puPl b c f g), (puPl b c f g).take b.labels.length, (puPl b c f g).drop b.labels.length, 0)
 else (⟨[], []⟩, [], [], 10)
end Go.Proofs

open Go Go.V
namespace Go.Proofs
theorem c9x (n : Nat) (M : Mx) : (f6q n M).length ≤ n * n := by
 unfold f6q
 rw [List.length_flatMap]
 have h : ∀ (l : List Nat), (l.map fun a => (rowOf n M a).length).sum ≤ l.length * n := by
  intro l
  induction l with
  | nil => simp
  | cons a l ih =>
   have h1 : (rowOf n M a).length ≤ n := by
    unfold rowOf
    rw [List.length_map]
    exact Nat.le_trans (List.length_filter_le _ _) (by simp)
   simp only [List.map_cons, List.sum_cons, List.length_cons, Nat.succ_mul]
   omega
 have := h (List.range n)
 rwa [List.length_range] at this
theorem w8z (o : Ob) (l : List Int) : (h3q o l).labels.length ≤ l.length := by
 unfold h3q i0q
 rw [List.length_map]
 exact j8z l l.length
theorem b4z (b c : Ob) (f g : List Int) : (puPl b c f g).length = b.labels.length + c.labels.length := by
 unfold puPl
 rw [l0q, m1q, e5q]
theorem sq_le {n m : Nat} (h : n ≤ m) : n * n ≤ m * m := Nat.mul_le_mul h h
end Go.Proofs

open Go Go.V
namespace Go.Proofs
def z3q (R : List Int) : Prop := ∀ (i : Nat) (z : Int), R[i]? = some z → (0 ≤ z ∧ z ≤ i) ∧ R[z.toNat]? = some z
theorem z3q.wf {R : List Int} (h : z3q R) : wfU R := fun i z hz => (h i z hz).1
theorem z3q.range (n : Nat) : z3q (d5q n) := fun i z hz => by
 have hi : i < n := by have := (List.getElem?_eq_some_iff.1 hz).1; rwa [e5q] at this
 rw [e2z hi] at hz
 cases hz
 exact ⟨by omega, by simpa using e2z hi⟩
theorem z3q.join {R : List Int} (h : z3q R) {a b : Nat} {x y : Int} (hx : R[a]? = some x) (hy : R[b]? = some y) : z3q (joinL R a b) := by
 obtain ⟨x1, x2⟩ := h a x hx
 obtain ⟨y1, y2⟩ := h b y hy
 intro i z hz
 unfold joinL at hz ⊢
 rw [f0q hx, f0q hy] at hz ⊢
 rw [List.getElem?_map] at hz
 obtain ⟨w, hw, rfl⟩ := Option.map_eq_some_iff.1 hz
 obtain ⟨w1, w2⟩ := h i w hw
 have hN : R[(min x y).toNat]? = some (min x y) := by
  rcases Int.le_total x y with hle | hle
  ·rw [show min x y = x by omega]; exact x2
  ·rw [show min x y = y by omega]; exact y2
 by_cases hm : w = max x y
 ·rw [if_pos hm]
  refine ⟨by omega, ?_⟩
  rw [List.getElem?_map, hN]
  simp only [Option.map_some]
  split <;> simp
 ·rw [if_neg hm]
  refine ⟨w1, ?_⟩
  rw [List.getElem?_map, w2]
  simp only [Option.map_some, if_neg hm]
theorem r0q (n : Nat) (f g : List Int) (hf : ∀ y ∈ f, 0 ≤ y ∧ y < n) (hg : ∀ y ∈ g, 0 ≤ y ∧ y < n) : ∀ k, k ≤ f.length → k ≤ g.length → z3q (f3q (d5q n) f g k) ∧ (f3q (d5q n) f g k).length = n
 | 0, _, _ => ⟨z3q.range n, e5q n⟩
 | k + 1, h1, h2 => by
  obtain ⟨ih, il⟩ := r0q n f g hf hg k (by omega) (by omega)
  obtain ⟨y, hy⟩ : ∃ y, f[k]? = some y := ⟨_, List.getElem?_eq_getElem (by omega)⟩
  obtain ⟨z, hz⟩ : ∃ z, g[k]? = some z := ⟨_, List.getElem?_eq_getElem (by omega)⟩
  have by_ := hf y (List.mem_of_getElem? hy)
  have bz := hg z (List.mem_of_getElem? hz)
  rw [p9q hy hz]
  refine ⟨ih.join (List.getElem?_eq_getElem (by omega)) (List.getElem?_eq_getElem (by omega)), by rw [f4z]; exact il⟩
theorem w6q {β : Type} (n : Nat) (f g : List Int) (hf : ∀ y ∈ f, 0 ≤ y ∧ y < n) (hg : ∀ y ∈ g, 0 ≤ y ∧ y < n) (h : Nat → β) : ∀ k, k ≤ f.length → k ≤ g.length → (∀ (i : Nat) (y z : Int), i < k → f[i]? = some y → g[i]? = some z → h y.toNat = h z.toNat) →
 ∀ (j : Nat) (r : Int), (f3q (d5q n) f g k)[j]? = some r → h r.toNat = h j
 | 0, _, _, _, j, r, hr => by
  have hj : j < n := by have := (List.getElem?_eq_some_iff.1 hr).1; rwa [show f3q (d5q n) f g 0 = d5q n from rfl, e5q] at this
  rw [show f3q (d5q n) f g 0 = d5q n from rfl, e2z hj] at hr
  cases hr; simp
 | k + 1, h1, h2, he, j, r, hr => by
  have ih := w6q n f g hf hg h k (by omega) (by omega) (fun i y z hi => he i y z (by omega))
  obtain ⟨hok, il⟩ := r0q n f g hf hg k (by omega) (by omega)
  obtain ⟨y, hy⟩ : ∃ y, f[k]? = some y := ⟨_, List.getElem?_eq_getElem (by omega)⟩
  obtain ⟨z, hz⟩ : ∃ z, g[k]? = some z := ⟨_, List.getElem?_eq_getElem (by omega)⟩
  have by_ := hf y (List.mem_of_getElem? hy)
  have bz := hg z (List.mem_of_getElem? hz)
  obtain ⟨a, ha⟩ : ∃ a, (f3q (d5q n) f g k)[y.toNat]? = some a := ⟨_, List.getElem?_eq_getElem (by omega)⟩
  obtain ⟨b, hb⟩ : ∃ b, (f3q (d5q n) f g k)[z.toNat]? = some b := ⟨_, List.getElem?_eq_getElem (by omega)⟩
  rw [p9q hy hz] at hr
  unfold joinL at hr
  rw [f0q ha, f0q hb, List.getElem?_map] at hr
  obtain ⟨w, hw, rfl⟩ := Option.map_eq_some_iff.1 hr
  have e1 := ih _ _ ha
  have e2 := ih _ _ hb
  have e3 := he k y z (by omega) hy hz
  have e4 := ih _ _ hw
  split
  ·rename_i hm
   rw [← e4, hm]
   rcases Int.le_total a b with hle | hle
   ·rw [show min a b = a by omega, show max a b = b by omega, e1, e2, e3]
   ·rw [show min a b = b by omega, show max a b = a by omega, e1, e2, e3]
  ·exact e4
theorem s7z (n : Nat) (f g : List Int) (hf : ∀ y ∈ f, 0 ≤ y ∧ y < n) (hg : ∀ y ∈ g, 0 ≤ y ∧ y < n) : ∀ k, k ≤ f.length → k ≤ g.length → ∀ (i : Nat) (y z : Int), i < k → f[i]? = some y → g[i]? = some z → (f3q (d5q n) f g k)[y.toNat]? = (f3q (d5q n) f g k)[z.toNat]?
 | 0, _, _, i, y, z, hi, _, _ => by omega
 | k + 1, h1, h2, i, y, z, hi, hy, hz => by
  obtain ⟨hok, il⟩ := r0q n f g hf hg k (by omega) (by omega)
  obtain ⟨y', hy'⟩ : ∃ y, f[k]? = some y := ⟨_, List.getElem?_eq_getElem (by omega)⟩
  obtain ⟨z', hz'⟩ : ∃ z, g[k]? = some z := ⟨_, List.getElem?_eq_getElem (by omega)⟩
  rw [p9q hy' hz']
  unfold joinL
  rw [List.getElem?_map, List.getElem?_map]
  by_cases hik : i = k
  ·subst hik
   rw [hy] at hy'; cases hy'
   rw [hz] at hz'; cases hz'
   have by_ := hf y (List.mem_of_getElem? hy)
   have bz := hg z (List.mem_of_getElem? hz)
   obtain ⟨a, ha⟩ : ∃ a, (f3q (d5q n) f g i)[y.toNat]? = some a := ⟨_, List.getElem?_eq_getElem (by omega)⟩
   obtain ⟨b, hb⟩ : ∃ b, (f3q (d5q n) f g i)[z.toNat]? = some b := ⟨_, List.getElem?_eq_getElem (by omega)⟩
   rw [f0q ha, f0q hb, ha, hb]
   simp only [Option.map_some, Option.some.injEq]
   rcases Int.le_total a b with hle | hle
   ·rw [show min a b = a by omega, show max a b = b by omega]; (split <;> split) <;> simp_all
   ·rw [show min a b = b by omega, show max a b = a by omega]; (split <;> split) <;> simp_all
  ·rw [s7z n f g hf hg k (by omega) (by omega) i y z (by omega) hy hz]
theorem u9q (R : List Int) : (c2q R).length = R.length := e6q R _
theorem s4x (R : List Int) {i : Nat} (h : i < R.length) : (c2q R)[i]? = some (if R.getD i 0 = i then ((plS R i).2 : Int) else (plS R i).1.getD (R.getD i 0).toNat 0) := by
 have h1 : (plS R (i + 1)).1 = (plS R i).1 ++ [if R.getD i 0 = i then ((plS R i).2 : Int) else (plS R i).1.getD (R.getD i 0).toNat 0] := by
  show (if R.getD i 0 = i then _ else _ : List Int × Nat).1 = _
  split <;> rfl
 have h2 : (c2q R)[i]? = (plS R (i + 1)).1[i]? := by
  rw [← b2z R (i + 1) R.length h, List.getElem?_take, if_pos (by omega)]; rfl
 rw [h2, h1, List.getElem?_append_right (by rw [e6q]; omega), e6q, Nat.sub_self]; rfl
theorem z0z {R : List Int} (h : z3q R) {i : Nat} {z : Int} (hz : R[i]? = some z) : (c2q R)[i]? = (c2q R)[z.toNat]? := by
 have hi := (List.getElem?_eq_some_iff.1 hz).1
 obtain ⟨h1, h2⟩ := h i z hz
 by_cases hr : z = i
 ·subst hr; simp
 ·rw [s4x R hi, f0q hz, if_neg hr]
  have : (plS R i).1.getD z.toNat 0 = (c2q R).getD z.toNat 0 := by
   rw [← b2z R i R.length (by omega), List.getD_eq_getElem?_getD, List.getElem?_take, if_pos (by omega), List.getD_eq_getElem?_getD]; rfl
  rw [this, List.getD_eq_getElem?_getD, List.getElem?_eq_getElem (by rw [u9q]; omega)]; rfl
theorem s3x {R : List Int} (h : z3q R) {i : Nat} (hz : R[i]? = some (i : Int)) : (c2q R)[i]? = some ((fstL (c2q R) i).length : Int) := by
 have hi := (List.getElem?_eq_some_iff.1 hz).1
 rw [s4x R hi, f0q hz, if_pos rfl, (d0x h.wf i (by omega)).1]
theorem s2z (L : List Int) (i : Nat) : fstL L (i + 1) = if L.getD i 0 = (fstL L i).length then fstL L i ++ [i] else fstL L i := rfl
theorem z9x (L : List Int) {i j : Nat} (h : i ≤ j) {k x : Nat} (hx : (fstL L i)[k]? = some x) : (fstL L j)[k]? = some x := by
 induction h with
 | refl => exact hx
 | step _ ih =>
  rw [s2z]
  split
  ·rw [List.getElem?_append_left (List.getElem?_eq_some_iff.1 ih).1]; exact ih
  ·exact ih
theorem a1j {R : List Int} (h : z3q R) {i : Nat} (hz : R[i]? = some (i : Int)) : (fstL (c2q R) R.length)[(fstL (c2q R) i).length]? = some i := by
 have hi := (List.getElem?_eq_some_iff.1 hz).1
 refine z9x _ (show i + 1 ≤ R.length from hi) ?_
 rw [s2z, f0q (s3x h hz), if_pos rfl, List.getElem?_append_right (Nat.le_refl _), Nat.sub_self]; rfl
theorem o8x {R : List Int} (h : z3q R) {i : Nat} {z : Int} (hz : R[i]? = some z) : ∃ k : Nat, (c2q R)[i]? = some (k : Int) ∧ (fstL (c2q R) R.length)[k]? = some z.toNat := by
 obtain ⟨h1, h2⟩ := h i z hz
 have hz0 : R[z.toNat]? = some (z.toNat : Int) := by rw [h2]; congr 1; omega
 exact ⟨_, by rw [z0z h hz]; exact s3x h hz0, a1j h hz0⟩
theorem b5x (L : List Int) : ∀ (m k r : Nat), (fstL L m)[k]? = some r → L.getD r 0 = k
 | 0, k, r, h => by simp [fstL] at h
 | m + 1, k, r, h => by
  rw [s2z] at h
  split at h
  ·rename_i hm
   by_cases hk : k < (fstL L m).length
   ·rw [List.getElem?_append_left hk] at h; exact b5x L m k r h
   ·rw [List.getElem?_append_right (by omega)] at h
    have hk0 : k - (fstL L m).length = 0 := by
     rcases Nat.eq_zero_or_pos (k - (fstL L m).length) with h0 | h0
     ·exact h0
     ·rw [List.getElem?_eq_none (by simp only [List.length_cons, List.length_nil]; omega)] at h; cases h
    rw [hk0] at h; simp at h; subst h
    rw [hm]; congr 1; omega
  ·exact b5x L m k r h
theorem s2x (L : List Int) {k : Nat} (hk : k < glN L) : ∃ i, i < L.length ∧ L.getD i 0 = k := by
 obtain ⟨r, hr⟩ : ∃ r, (fstL L L.length)[k]? = some r := ⟨_, List.getElem?_eq_getElem hk⟩
 exact ⟨r, j9z L L.length r (List.mem_of_getElem? hr), b5x L _ _ _ hr⟩
theorem a7z (o : Ob) (L : List Int) : (i0q o L L.length).length = glN L := by simp [i0q, glN]
theorem u4q {o : Ob} {L : List Int} (ho : IsOb o) (hl : L.length = o.labels.length) (hok : PlOK L) : v7q (glN L) (glMx o L) := by
 intro x y h
 simp only [glMx, List.any_eq_true, Bool.and_eq_true, beq_iff_eq] at h
 obtain ⟨p, hp, rfl, rfl⟩ := h
 have hin := j1q.1 ((List.all_eq_true.1 ho.inb) p hp)
 obtain ⟨u, hu⟩ : ∃ u, L[p.1.toNat]? = some u := ⟨_, List.getElem?_eq_getElem (by omega)⟩
 obtain ⟨v, hv⟩ : ∃ v, L[p.2.toNat]? = some v := ⟨_, List.getElem?_eq_getElem (by omega)⟩
 have a := hok.lt hu
 have b := hok.lt hv
 unfold atN
 rw [f0q hu, f0q hv]
 omega
theorem a4j {o : Ob} {L : List Int} (ho : IsOb o) (hl : L.length = o.labels.length) (hok : PlOK L) : IsOb (h3q o L) := by
 have hle := ho.le
 have hn := a7z o L
 have hw := u4q ho hl hok
 unfold h3q
 rw [← hn] at hw ⊢
 refine y0z (by have := j8z L L.length; rw [hn]; unfold glN; omega) ?_ hw
 rw [List.all_eq_true]
 intro b hb
 unfold i0q at hb
 obtain ⟨r, hr, rfl⟩ := List.mem_map.1 hb
 have hrl := j9z L L.length r hr
 have : o.labels.getD r ByteArray.empty ∈ o.labels := by
  rw [List.getD_eq_getElem?_getD, List.getElem?_eq_getElem (by omega)]; exact List.getElem_mem _
 exact (List.all_eq_true.1 ho.sz) _ this
theorem w7z {o : Ob} {R : List Int} (ho : IsOb o) (h : z3q R) (hl : R.length = o.labels.length)
 (hlab : ∀ (j : Nat) (r : Int), R[j]? = some r → (o.labels.getD r.toNat ByteArray.empty).toList = (o.labels.getD j ByteArray.empty).toList) : arrS o (h3q o (c2q R)) (c2q R) = true := by
 have hpl := u9q R
 have hok := t3q h.wf
 have hq := a4j ho (by rw [hpl]; exact hl) hok
 refine z1q ho hq (by rw [hpl]; exact hl) (fun i y la hy hla => ?_) fun x y hm => ?_
 ·have hi := (List.getElem?_eq_some_iff.1 hla).1
  obtain ⟨z, hz⟩ : ∃ z, R[i]? = some z := ⟨_, List.getElem?_eq_getElem (by omega)⟩
  obtain ⟨k, hk, hf⟩ := o8x h hz
  rw [hk] at hy; cases hy
  have hbd := hok.lt hk
  have hqk : (h3q o (c2q R)).labels[k]? = some (o.labels.getD z.toNat ByteArray.empty) := by
   show (i0q o (c2q R) (c2q R).length)[k]? = _
   unfold i0q
   rw [hpl, List.getElem?_map, hf]; rfl
  refine ⟨o.labels.getD z.toNat ByteArray.empty, ⟨by omega, ?_⟩, by rw [Int.toNat_natCast]; exact hqk, ?_⟩
  ·show (k : Int) < ((i0q o (c2q R) (c2q R).length).length : Nat)
   rw [a7z]; omega
  ·rw [hlab i z hz, List.getD_eq_getElem?_getD, hla]; rfl
 ·have hwx := ho.within x y hm
  obtain ⟨u, hu⟩ : ∃ u, (c2q R)[x]? = some u := ⟨_, List.getElem?_eq_getElem (by omega)⟩
  obtain ⟨v, hv⟩ : ∃ v, (c2q R)[y]? = some v := ⟨_, List.getElem?_eq_getElem (by omega)⟩
  have hu0 := hok.lt hu
  have hv0 := hok.lt hv
  refine ⟨u.toNat, v.toNat, by rw [hu]; congr 1; omega, by rw [hv]; congr 1; omega, ?_⟩
  show mxOf (f6q (glN (c2q R)) (cloK (glMx o (c2q R)) (glN (c2q R)))) u.toNat v.toNat = true
  rw [r1q (m9q (u4q ho (by rw [hpl]; exact hl) hok) _)]
  refine r8z ?_ _
  obtain ⟨p, hp, h1, h2⟩ := l2q.1 hm
  simp only [glMx, List.any_eq_true, Bool.and_eq_true, beq_iff_eq]
  refine ⟨p, hp, ?_, ?_⟩
  ·unfold atN; rw [h1, f0q hu]
  ·unfold atN; rw [h2, f0q hv]
end Go.Proofs

open Go Go.V
namespace Go.Proofs
structure SqS (b c : Ob) (f g : List Int) (q : Ob) (i j h : List Int) : Prop where
 t1 : thenS f i = (h, true)
 t2 : thenS g j = (h, true)
 a1 : arrS b q i = true
 a2 : arrS c q j = true
 on : ∀ k : Nat, k < q.labels.length → (k : Int) ∈ i ++ j
theorem p5z {a b : Ob} {f : List Int} (h : arrS a b f = true) {k : Nat} {y : Int} (hy : f[k]? = some y) : (b.labels.getD y.toNat ByteArray.empty).toList = (a.labels.getD k ByteArray.empty).toList := by
 obtain ⟨_, _, hmap, _⟩ := b4q.1 h
 have hl := c1q hmap
 have hk := (List.getElem?_eq_some_iff.1 hy).1
 obtain ⟨lb, k1, k2, k3⟩ := j6q.1 (k5q hmap hy (List.getElem?_eq_getElem (show k < a.labels.length by omega)))
 rw [List.getD_eq_getElem?_getD, k2, List.getD_eq_getElem?_getD, List.getElem?_eq_getElem (show k < a.labels.length by omega)]
 exact k3.symm
theorem f5j {b : Ob} {g : List Int} {k : Nat} {z : Int} (h : (gMv b g)[k]? = some z) : ∃ y, g[k]? = some y ∧ z = y + b.labels.length := by
 rw [List.getElem?_map] at h
 obtain ⟨y, hy, rfl⟩ := Option.map_eq_some_iff.1 h
 exact ⟨y, hy, rfl⟩
theorem t1z {a b c : Ob} {f g : List Int} (hf : arrS a b f = true) (hg : arrS a c g = true) :
 (∀ y ∈ f, 0 ≤ y ∧ y < ((b.labels.length + c.labels.length : Nat) : Int)) ∧ (∀ y ∈ gMv b g, 0 ≤ y ∧ y < ((b.labels.length + c.labels.length : Nat) : Int)) ∧ f.length = (gMv b g).length := by
 obtain ⟨_, _, m1, _⟩ := b4q.1 hf
 obtain ⟨_, _, m2, _⟩ := b4q.1 hg
 have l1 := c1q m1
 have l2 := c1q m2
 refine ⟨fun y hy => ?_, fun y hy => ?_, by simp [gMv]; omega⟩
 ·have := f8q m1 y hy; omega
 ·obtain ⟨z, hz, rfl⟩ := List.mem_map.1 hy
  have := f8q m2 z hz; omega
theorem c4j {a b c : Ob} {f g : List Int} (hf : arrS a b f = true) (hg : arrS a c g = true) (k : Nat) (y z : Int) (hy : f[k]? = some y) (hz : (gMv b g)[k]? = some z) :
 ((d4q b c).labels.getD y.toNat ByteArray.empty).toList = ((d4q b c).labels.getD z.toNat ByteArray.empty).toList := by
 obtain ⟨w, hw, rfl⟩ := f5j hz
 have h1 := p5z hf hy
 have h2 := p5z hg hw
 have b1 := f8q (b4q.1 hf).2.2.1 y (List.mem_of_getElem? hy)
 have b2 := f8q (b4q.1 hg).2.2.1 w (List.mem_of_getElem? hw)
 have e1 : (d4q b c).labels.getD y.toNat ByteArray.empty = b.labels.getD y.toNat ByteArray.empty := by
  simp only [d4q, List.getD_eq_getElem?_getD]; rw [List.getElem?_append_left (by omega)]
 have e2 : (d4q b c).labels.getD (w + b.labels.length).toNat ByteArray.empty = c.labels.getD w.toNat ByteArray.empty := by
  simp only [d4q, List.getD_eq_getElem?_getD]; rw [List.getElem?_append_right (by omega)]; congr 2; omega
 rw [e1, e2, h1, h2]
theorem sq_of {a b c : Ob} {f g : List Int} (hf : arrS a b f = true) (hg : arrS a c g = true) (hl : b.labels.length + c.labels.length ≤ 40) :
 ∃ h, SqS b c f g (h3q (d4q b c) (puPl b c f g)) ((puPl b c f g).take b.labels.length) ((puPl b c f g).drop b.labels.length) h := by
 have ha := (b4q.1 hf).1
 have hb := (b4q.1 hf).2.1
 have hc := (b4q.1 hg).2.1
 have ho := s0q hb hc hl
 have hol : (d4q b c).labels.length = b.labels.length + c.labels.length := by simp [d4q]
 obtain ⟨r1, r2, r3⟩ := t1z hf hg
 obtain ⟨hok, hRl⟩ := r0q _ f (gMv b g) r1 r2 f.length (Nat.le_refl _) (by omega)
 have hinv := w6q _ f (gMv b g) r1 r2 (fun j => ((d4q b c).labels.getD j ByteArray.empty).toList) f.length (Nat.le_refl _) (by omega) (fun i y z _ hy hz => c4j hf hg i y z hy hz)
 have heq := s7z _ f (gMv b g) r1 r2 f.length (Nat.le_refl _) (by omega)
 have harr := w7z ho hok (by rw [hRl, hol]) hinv
 have hLl := u9q (f3q (d5q (b.labels.length + c.labels.length)) f (gMv b g) f.length)
 change arrS (d4q b c) (h3q (d4q b c) (puPl b c f g)) (puPl b c f g) = true at harr
 change (puPl b c f g).length = _ at hLl
 rw [hRl] at hLl
 have hi : arrS b (h3q (d4q b c) (puPl b c f g)) ((puPl b c f g).take b.labels.length) = true := by
  have h1 := i8z (x4x (p7x hb) hc hl) harr
  have h2 : ((idS (b.labels.length : Int)).map fun y => (puPl b c f g).getD y.toNat 0) = (puPl b c f g).take b.labels.length := by
   apply List.ext_getElem?
   intro k
   rw [List.getElem?_map]
   by_cases hk : k < b.labels.length
   ·rw [k1z hb.le hk, List.getElem?_take, if_pos hk, List.getElem?_eq_getElem (show k < (puPl b c f g).length by omega)]
    simp [List.getD_eq_getElem?_getD, List.getElem?_eq_getElem (show k < (puPl b c f g).length by omega)]
   ·rw [List.getElem?_eq_none (by rw [b9x hb.le]; omega), List.getElem?_take, if_neg hk]; rfl
  rwa [h2] at h1
 have hj : arrS c (h3q (d4q b c) (puPl b c f g)) ((puPl b c f g).drop b.labels.length) = true := by
  have h1 := i8z (l9x hb (p7x hc) hl) harr
  have h2 : (((idS (c.labels.length : Int)).map (· + (b.labels.length : Int))).map fun y => (puPl b c f g).getD y.toNat 0) = (puPl b c f g).drop b.labels.length := by
   apply List.ext_getElem?
   intro k
   rw [List.getElem?_map, List.getElem?_map]
   by_cases hk : k < c.labels.length
   ·rw [k1z hc.le hk, List.getElem?_drop, List.getElem?_eq_getElem (show b.labels.length + k < (puPl b c f g).length by omega)]
    have : ((k : Int) + (b.labels.length : Int)).toNat = b.labels.length + k := by omega
    simp only [Option.map_some, this, List.getD_eq_getElem?_getD, List.getElem?_eq_getElem (show b.labels.length + k < (puPl b c f g).length by omega), Option.getD_some]
   ·rw [List.getElem?_eq_none (by rw [b9x hc.le]; omega), List.getElem?_drop, List.getElem?_eq_none (by omega)]; rfl
  rwa [h2] at h1
 have hil := c1q (b4q.1 hi).2.2.1
 have hjl := c1q (b4q.1 hj).2.2.1
 refine ⟨f.map fun y => ((puPl b c f g).take b.labels.length).getD y.toNat 0, ⟨h0q fun y hy => ?_, ?_, hi, hj, fun k hk => ?_⟩⟩
 ·have := f8q (b4q.1 hf).2.2.1 y hy; omega
 ·rw [h0q fun y hy => by have := f8q (b4q.1 hg).2.2.1 y hy; omega]
  congr 1
  have hgl : g.length = f.length := by rw [r3]; simp [gMv]
  apply List.ext_getElem?
  intro k
  rw [List.getElem?_map, List.getElem?_map]
  by_cases hk : k < f.length
  ·obtain ⟨y, hy⟩ : ∃ y, f[k]? = some y := ⟨_, List.getElem?_eq_getElem hk⟩
   obtain ⟨w, hw⟩ : ∃ w, g[k]? = some w := ⟨_, List.getElem?_eq_getElem (by omega)⟩
   have hz : (gMv b g)[k]? = some (w + b.labels.length) := by rw [List.getElem?_map, hw]; rfl
   have b1 := f8q (b4q.1 hf).2.2.1 y (List.mem_of_getElem? hy)
   have b2 := f8q (b4q.1 hg).2.2.1 w (List.mem_of_getElem? hw)
   have e0 := heq k y _ hk hy hz
   obtain ⟨r, hr⟩ : ∃ r, (f3q (d5q (b.labels.length + c.labels.length)) f (gMv b g) f.length)[y.toNat]? = some r := ⟨_, List.getElem?_eq_getElem (by omega)⟩
   have e1 := z0z hok hr
   have e2 := z0z hok (e0 ▸ hr)
   rw [hy, hw]
   simp only [Option.map_some, Option.some.injEq, List.getD_eq_getElem?_getD]
   rw [List.getElem?_drop, List.getElem?_take, if_pos (by omega), show b.labels.length + w.toNat = (w + (b.labels.length : Int)).toNat by omega]
   show ((puPl b c f g)[_]?).getD 0 = ((puPl b c f g)[_]?).getD 0
   exact congrArg (fun o => Option.getD o 0) (e2.trans e1.symm)
  ·rw [List.getElem?_eq_none (by omega), List.getElem?_eq_none (by omega)]; rfl
 ·have hk' : k < glN (puPl b c f g) := by rw [← a7z (d4q b c)]; exact hk
  obtain ⟨x, hx, hxv⟩ := s2x _ hk'
  rw [List.take_append_drop]
  rw [List.getD_eq_getElem?_getD, List.getElem?_eq_getElem hx] at hxv
  rw [show (k : Int) = (puPl b c f g)[x] from hxv.symm]
  exact List.getElem_mem _
theorem j1x (a b c : Ob) (f g : List Int) : (∃ e : Int, e ≠ 0 ∧ m3q a b c f g = (⟨[], []⟩, [], [], e)) ∨ ∃ q i j h, m3q a b c f g = (q, i, j, 0) ∧ SqS b c f g q i j h ∧ arrS a b f = true ∧ arrS a c g = true := by
 unfold m3q
 split
 ·exact .inl ⟨11, by decide, rfl⟩
 ·rename_i hlg
  split
  ·rename_i har
   simp only [not_or] at hlg
   rw [s9q] at hlg
   have h2 := hlg.2.2
   simp only [decide_eq_true_eq] at h2
   obtain ⟨h, hS⟩ := sq_of har.1 har.2 (by omega)
   exact .inr ⟨_, _, _, h, rfl, hS, har.1, har.2⟩
  ·exact .inl ⟨10, by decide, rfl⟩
end Go.Proofs

open Go Go.V
namespace Go.Proofs
def vMed (r : List Int × Int) : V := .tup [.t (b0q r.1), I r.2]
theorem j0z (q : Ob) (i j : List Int) (e : Int) : vSum (q, i, j, e) = .tup [vObj q, .t (b0q i), .t (b0q j), I e] := rfl
end Go.Proofs

open Go Go.V
namespace Go.Proofs
set_option maxRecDepth 20000 in
set_option maxHeartbeats 4000000 in
theorem i2z (a b c : Ob) (f g : List Int) (ha1 : a.labels.length < 1000000000) (ha2 : a.pairs.length < 1000000000) (hb1 : b.labels.length < 1000000000) (hb2 : b.pairs.length < 100000000) (hc1 : c.labels.length < 1000000000) (hc2 : c.pairs.length < 100000000) (hf : f.length < 100000000) (hg : g.length < 100000000) : g3q Tryd.prog 23 [vObj a, vObj b, vObj c, .t (b0q f), .t (b0q g)] (vSum (m3q a b c f g)) := by
 refine b9q Tryd.func23 rfl fun s Q hQ => ?_
 obtain ⟨e, he, hl, h0, h1, h2, h3, h4⟩ : ∃ e : Env, ([vObj a, vObj b, vObj c, .t (b0q f), .t (b0q g)] ++ List.replicate (Tryd.f23.ntmps - ([vObj a, vObj b, vObj c, .t (b0q f), .t (b0q g)] : List V).length) .junk) = e ∧ e.length = 95 ∧ ev e (.tmp 0) = vObj a ∧ ev e (.tmp 1) = vObj b ∧ ev e (.tmp 2) = vObj c ∧ ev e (.tmp 3) = .t (b0q f) ∧ ev e (.tmp 4) = .t (b0q g) := ⟨_, rfl, rfl, rfl, rfl, rfl, rfl, rfl⟩
 rw [he]
 clear he
 refine vsk fun K1 hK1 => ?_
 refine a3q 0 [] ?_
 simp only [bs, ↓vopx, ↓vop, Nat.reduceBEq, a1q, flat, V.cells, h0, h1, h2, wocs, ↓goc, ↓woc, ↓a2q, Tryd.zv25]
 refine hK1 _ _ ?_
 refine vsk fun K2 hK2 => ?_
 refine vsk fun K3 hK3 => ?_
 refine o2q fun sN hSN => ?_
 have hn5 : sN.m s.next = some (.box 25 [.t (b7q a.labels), .t (a9q a.pairs)]) := by rw [hSN, c5q, if_neg (by simp only [c9q]; omega), c5q, if_neg (by simp only [c9q]; omega), c5q, if_neg (by simp only [c9q]; omega), c5q, if_pos rfl]
 have hn6 : sN.m (s.next + 1) = some (.box 25 [.t (b7q b.labels), .t (a9q b.pairs)]) := by rw [hSN, c5q, if_neg (by simp only [c9q]; omega), c5q, if_neg (by simp only [c9q]; omega), c5q, if_pos (by simp only [c9q])]
 have hn7 : sN.m (s.next + 1 + 1) = some (.box 25 [.t (b7q c.labels), .t (a9q c.pairs)]) := by rw [hSN, c5q, if_neg (by simp only [c9q]; omega), c5q, if_pos (by simp only [c9q])]
 have hn10 : sN.m (s.next + 1 + 1 + 1) = some (.box 25 [.t (.v (.slice none 0 0)), .t (.v (.slice none 0 0))]) := by rw [hSN, c5q, if_pos (by simp only [c9q])]
 have hnn : sN.next = s.next + 4 := by rw [hSN]; rfl
 have hnk : ∀ j, j < s.next → sN.m j = s.m j := fun j hj => by rw [hSN, c5q, if_neg (by simp only [c9q]; omega), c5q, if_neg (by simp only [c9q]; omega), c5q, if_neg (by simp only [c9q]; omega), c5q, if_neg (by omega)]
 clear hSN
 rcases (show (a.labels.length : Int) > 40 ∨ (¬ (a.labels.length : Int) > 40 ∧ (b.labels.length : Int) > 40) ∨ (¬ (a.labels.length : Int) > 40 ∧ ¬ (b.labels.length : Int) > 40 ∧ (c.labels.length : Int) > 40 - b.labels.length) ∨ (¬ (a.labels.length : Int) > 40 ∧ ¬ (b.labels.length : Int) > 40 ∧ ¬ (c.labels.length : Int) > 40 - b.labels.length) by omega) with qa | ⟨qa, qb⟩ | ⟨qa, qb, qc⟩ | ⟨qa, qb, qc⟩
 ·have ka : j5q [a] = true := by rw [s8q]; exact decide_eq_true (by omega)
  refine a3q 0 [] ?_
  simp only [bs, ↓vopx, ↓vop, Nat.reduceBEq, a1q, flat, Nat.reduceLT, a7q, a8q, opII, gtmp, hl, wocs, ↓goc, ↓woc, ↓a2q, ↓e8q, Tryd.ag22, Tryd.fd25_0, Tryd.sz22, Tryd.un22, c7q, qa, hn5]
  refine hK3 _ _ ?_
  refine vck fun A B hA hB => ?_
  simp only [b5q, a0q, lpv, Nat.reduceLT, true_implies, reduceCtorEq, false_implies, and_true, hl]
  refine hA ?_
  clear hA hB A B
  refine vsk fun K4 hK4 => ?_
  refine a3q 0 [] ?_
  simp only [bs, Nat.reduceAdd, d8q, g2q, ↓vopx, ↓vop, Nat.reduceBEq, a1q, flat, Nat.reduceLT, V.cells, hl, wocs, ↓goc, ↓woc, ↓a2q, Tryd.st25, Tryd.sz25, Nat.le_refl, hn10]
  refine hK4 _ _ ?_
  refine b3q ?_
  have hres : vSum (m3q a b c f g) = pack [vObj ⟨[], []⟩, .t (b0q []), .t (b0q []), I 11] := by simp [m3q, vSum, ka]; rfl
  rw [hres] at hQ
  refine hQ _ _ _ (.inr rfl) (u1q (vs := [.agg [.t (.v (.slice none 0 0)), .t (.v (.slice none 0 0))], .t (.v (.slice none 0 0)), .t (.v (.slice none 0 0)), I 11]) (vs' := [vObj ⟨[], []⟩, .t (b0q []), .t (b0q []), I 11]) ?_ rfl (a5z _ _) (by simp [pack, nm, nm2, nm1, nm0]) ?_)
  ·show vres Tryd.prog _ _ [.cell 10 25, .tmp 11, .tmp 12, .tmp 13] = _
   simp only [g7q, j9q, h9q, a0q, a4q, Nat.reduceBEq, lpv, hl, hn10, Tryd.sz25, Tryd.ag25, a7q, b6q, a8q, if_true, Nat.reduceLT, List.drop_zero, List.take_succ_cons, List.take_zero, List.length_cons, List.length_nil, Nat.zero_add, Nat.reduceAdd]
   try rfl
  ·exact fun n x hn h => by rw [b6q, if_neg (by omega), hnk n hn]; exact h
 ·have kb : j5q [b] = true := by rw [s8q]; exact decide_eq_true (by omega)
  refine a3q 0 [] ?_
  simp only [bs, ↓vopx, ↓vop, Nat.reduceBEq, a1q, flat, Nat.reduceLT, a7q, a8q, opII, gtmp, hl, wocs, ↓goc, ↓woc, ↓a2q, ↓d1q, ↓e8q, Tryd.ag22, Tryd.fd25_0, Tryd.sz22, Tryd.un22, c7q, qa, qb, hn5, hn6]
  refine hK3 _ _ ?_
  refine vck fun A B hA hB => ?_
  simp only [b5q, a0q, lpv, Nat.reduceLT, true_implies, reduceCtorEq, false_implies, and_true, hl]
  refine hA ?_
  clear hA hB A B
  refine vsk fun K5 hK5 => ?_
  refine a3q 0 [] ?_
  simp only [bs, Nat.reduceAdd, d8q, g2q, ↓vopx, ↓vop, Nat.reduceBEq, a1q, flat, Nat.reduceLT, V.cells, hl, wocs, ↓goc, ↓woc, ↓a2q, Tryd.st25, Tryd.sz25, Nat.le_refl, hn10]
  refine hK5 _ _ ?_
  refine b3q ?_
  have hres : vSum (m3q a b c f g) = pack [vObj ⟨[], []⟩, .t (b0q []), .t (b0q []), I 11] := by simp [m3q, vSum, kb]; rfl
  rw [hres] at hQ
  refine hQ _ _ _ (.inr rfl) (u1q (vs := [.agg [.t (.v (.slice none 0 0)), .t (.v (.slice none 0 0))], .t (.v (.slice none 0 0)), .t (.v (.slice none 0 0)), I 11]) (vs' := [vObj ⟨[], []⟩, .t (b0q []), .t (b0q []), I 11]) ?_ rfl (a5z _ _) (by simp [pack, nm, nm2, nm1, nm0]) ?_)
  ·show vres Tryd.prog _ _ [.cell 10 25, .tmp 11, .tmp 12, .tmp 13] = _
   simp only [g7q, j9q, h9q, a0q, a4q, Nat.reduceBEq, lpv, hl, hn10, Tryd.sz25, Tryd.ag25, a7q, b6q, a8q, if_true, Nat.reduceLT, List.drop_zero, List.take_succ_cons, List.take_zero, List.length_cons, List.length_nil, Nat.zero_add, Nat.reduceAdd]
   try rfl
  ·exact fun n x hn h => by rw [b6q, if_neg (by omega), hnk n hn]; exact h
 ·have kc : j5q [b, c] = true := by rw [s9q]; exact decide_eq_true (by omega)
  refine a3q 0 [] ?_
  simp only [bs, ↓vopx, ↓vop, Nat.reduceBEq, a1q, flat, Nat.reduceLT, a7q, a8q, opII, gtmp, hl, wocs, ↓goc, ↓woc, ↓a2q, ↓d1q, Tryd.ag22, Tryd.fd25_0, Tryd.sz22, Tryd.un22, c7q, qa, qb, qc, hn5, hn6, hn7]
  repeat ((with_reducible refine And.intro ?_ ?_); · exact ⟨by omega, by omega⟩)
  refine hK3 _ _ ?_
  refine vck fun A B hA hB => ?_
  simp only [b5q, a0q, lpv, Nat.reduceLT, true_implies, reduceCtorEq, false_implies, and_true, hl]
  refine hA ?_
  clear hA hB A B
  refine vsk fun K6 hK6 => ?_
  refine a3q 0 [] ?_
  simp only [bs, Nat.reduceAdd, d8q, g2q, ↓vopx, ↓vop, Nat.reduceBEq, a1q, flat, Nat.reduceLT, V.cells, hl, wocs, ↓goc, ↓woc, ↓a2q, Tryd.st25, Tryd.sz25, Nat.le_refl, hn10]
  refine hK6 _ _ ?_
  refine b3q ?_
  have hres : vSum (m3q a b c f g) = pack [vObj ⟨[], []⟩, .t (b0q []), .t (b0q []), I 11] := by simp [m3q, vSum, kc]; rfl
  rw [hres] at hQ
  refine hQ _ _ _ (.inr rfl) (u1q (vs := [.agg [.t (.v (.slice none 0 0)), .t (.v (.slice none 0 0))], .t (.v (.slice none 0 0)), .t (.v (.slice none 0 0)), I 11]) (vs' := [vObj ⟨[], []⟩, .t (b0q []), .t (b0q []), I 11]) ?_ rfl (a5z _ _) (by simp [pack, nm, nm2, nm1, nm0]) ?_)
  ·show vres Tryd.prog _ _ [.cell 10 25, .tmp 11, .tmp 12, .tmp 13] = _
   simp only [g7q, j9q, h9q, a0q, a4q, Nat.reduceBEq, lpv, hl, hn10, Tryd.sz25, Tryd.ag25, a7q, b6q, a8q, if_true, Nat.reduceLT, List.drop_zero, List.take_succ_cons, List.take_zero, List.length_cons, List.length_nil, Nat.zero_add, Nat.reduceAdd]
   try rfl
  ·exact fun n x hn h => by rw [b6q, if_neg (by omega), hnk n hn]; exact h
 ·have ka : j5q [a] = false := by rw [s8q]; exact decide_eq_false (by omega)
  have kb : j5q [b] = false := by rw [s8q]; exact decide_eq_false (by omega)
  have kc : j5q [b, c] = false := by rw [s9q]; exact decide_eq_false (by omega)
  refine a3q 0 [] ?_
  simp only [bs, ↓vopx, ↓vop, Nat.reduceBEq, a1q, flat, Nat.reduceLT, a7q, a8q, opII, gtmp, hl, wocs, ↓goc, ↓woc, ↓a2q, ↓d1q, Tryd.ag22, Tryd.fd25_0, Tryd.sz22, Tryd.un22, c7q, qa, qb, qc, hn5, hn6, hn7]
  repeat ((with_reducible refine And.intro ?_ ?_); · exact ⟨by omega, by omega⟩)
  refine hK3 _ _ ?_
  refine vck fun A B hA hB => ?_
  simp only [b5q, a0q, lpv, Nat.reduceLT, true_implies, reduceCtorEq, false_implies, true_and, hl]
  refine hB ?_
  clear hA hB A B
  refine b1q ?_
  refine hK2 _ _ ?_
  refine vsk fun K7 hK7 => ?_
  refine vsk fun K8 hK8 => ?_
  rcases (show arrS a b f = false ∨ (arrS a b f = true ∧ arrS a c g = false) ∨ (arrS a b f = true ∧ arrS a c g = true) by cases arrS a b f <;> cases arrS a c g <;> simp) with kf | ⟨kf, kg⟩ | ⟨kf, kg⟩
  ·refine a3q 0 [.pur (Bo (arrS a b f))] ?_
   simp only [bs, Nat.reduceAdd, ↓vopx, ↓vop, Nat.reduceBEq, a1q, flat, Nat.reduceLT, a7q, a8q, gtmp, hl, h3, wocs, ↓goc, ↓woc, ↓a2q, ↓c4q, ↓e8q, a6q, Tryd.ag25, Tryd.sz25, kf, hn5, hn6]
   repeat ((with_reducible refine And.intro ?_ ?_); · exact ⟨Tryd.is59, by simpa only [kf] using w8q a b f (by omega) (by omega) (by omega) (by omega) (by omega)⟩)
   refine hK8 _ _ ?_
   refine vck fun A B hA hB => ?_
   simp only [b5q, a0q, lpv, Nat.reduceLT, true_implies, reduceCtorEq, false_implies, and_true, hl]
   refine hA ?_
   clear hA hB A B
   refine vsk fun K9 hK9 => ?_
   refine a3q 0 [] ?_
   simp only [bs, Nat.reduceAdd, d8q, g2q, ↓vopx, ↓vop, Nat.reduceBEq, a1q, flat, Nat.reduceLT, V.cells, hl, wocs, ↓goc, ↓woc, ↓a2q, Tryd.st25, Tryd.sz25, Nat.le_refl, hn10]
   refine hK9 _ _ ?_
   refine b3q ?_
   have hres : vSum (m3q a b c f g) = pack [vObj ⟨[], []⟩, .t (b0q []), .t (b0q []), I 10] := by simp [m3q, vSum, ka, kb, kc, kf]; rfl
   rw [hres] at hQ
   refine hQ _ _ _ (.inr rfl) (u1q (vs := [.agg [.t (.v (.slice none 0 0)), .t (.v (.slice none 0 0))], .t (.v (.slice none 0 0)), .t (.v (.slice none 0 0)), I 10]) (vs' := [vObj ⟨[], []⟩, .t (b0q []), .t (b0q []), I 10]) ?_ rfl (a5z _ _) (by simp [pack, nm, nm2, nm1, nm0]) ?_)
   ·show vres Tryd.prog _ _ [.cell 10 25, .tmp 11, .tmp 12, .tmp 13] = _
    simp only [g7q, j9q, h9q, a0q, a4q, Nat.reduceBEq, lpv, hl, hn10, Tryd.sz25, Tryd.ag25, a7q, b6q, a8q, if_true, Nat.reduceLT, List.drop_zero, List.take_succ_cons, List.take_zero, List.length_cons, List.length_nil, Nat.zero_add, Nat.reduceAdd]
    try rfl
   ·exact fun n x hn h => by rw [b6q, if_neg (by omega), hnk n hn]; exact h
  ·refine a3q 0 [.pur (Bo (arrS a b f)), .pur (Bo (arrS a c g))] ?_
   simp only [bs, Nat.reduceAdd, ↓vopx, ↓vop, Nat.reduceBEq, a1q, flat, Nat.reduceLT, a7q, a8q, gtmp, hl, h3, h4, wocs, ↓goc, ↓woc, ↓a2q, ↓c4q, ↓d1q, a6q, Tryd.ag25, Tryd.sz25, kf, kg, hn5, hn6, hn7]
   repeat ((with_reducible refine And.intro ?_ ?_); · first | exact ⟨Tryd.is59, by simpa only [kf] using w8q a b f (by omega) (by omega) (by omega) (by omega) (by omega)⟩ | exact ⟨Tryd.is59, by simpa only [kg] using w8q a c g (by omega) (by omega) (by omega) (by omega) (by omega)⟩)
   refine hK8 _ _ ?_
   refine vck fun A B hA hB => ?_
   simp only [b5q, a0q, lpv, Nat.reduceLT, true_implies, reduceCtorEq, false_implies, and_true, hl]
   refine hA ?_
   clear hA hB A B
   refine vsk fun K10 hK10 => ?_
   refine a3q 0 [] ?_
   simp only [bs, Nat.reduceAdd, d8q, g2q, ↓vopx, ↓vop, Nat.reduceBEq, a1q, flat, Nat.reduceLT, V.cells, hl, wocs, ↓goc, ↓woc, ↓a2q, Tryd.st25, Tryd.sz25, Nat.le_refl, hn10]
   refine hK10 _ _ ?_
   refine b3q ?_
   have hres : vSum (m3q a b c f g) = pack [vObj ⟨[], []⟩, .t (b0q []), .t (b0q []), I 10] := by simp [m3q, vSum, ka, kb, kc, kg]; rfl
   rw [hres] at hQ
   refine hQ _ _ _ (.inr rfl) (u1q (vs := [.agg [.t (.v (.slice none 0 0)), .t (.v (.slice none 0 0))], .t (.v (.slice none 0 0)), .t (.v (.slice none 0 0)), I 10]) (vs' := [vObj ⟨[], []⟩, .t (b0q []), .t (b0q []), I 10]) ?_ rfl (a5z _ _) (by simp [pack, nm, nm2, nm1, nm0]) ?_)
   ·show vres Tryd.prog _ _ [.cell 10 25, .tmp 11, .tmp 12, .tmp 13] = _
    simp only [g7q, j9q, h9q, a0q, a4q, Nat.reduceBEq, lpv, hl, hn10, Tryd.sz25, Tryd.ag25, a7q, b6q, a8q, if_true, Nat.reduceLT, List.drop_zero, List.take_succ_cons, List.take_zero, List.length_cons, List.length_nil, Nat.zero_add, Nat.reduceAdd]
    try rfl
   ·exact fun n x hn h => by rw [b6q, if_neg (by omega), hnk n hn]; exact h
  ·refine a3q 0 [.pur (Bo (arrS a b f)), .pur (Bo (arrS a c g))] ?_
   simp only [bs, Nat.reduceAdd, ↓vopx, ↓vop, Nat.reduceBEq, a1q, flat, Nat.reduceLT, a7q, a8q, gtmp, hl, h3, h4, wocs, ↓goc, ↓woc, ↓a2q, ↓c4q, ↓d1q, a6q, Tryd.ag25, Tryd.sz25, kf, kg, hn5, hn6, hn7]
   repeat ((with_reducible refine And.intro ?_ ?_); · first | exact ⟨Tryd.is59, by simpa only [kf] using w8q a b f (by omega) (by omega) (by omega) (by omega) (by omega)⟩ | exact ⟨Tryd.is59, by simpa only [kg] using w8q a c g (by omega) (by omega) (by omega) (by omega) (by omega)⟩)
   refine hK8 _ _ ?_
   refine vck fun A B hA hB => ?_
   simp only [b5q, a0q, lpv, Nat.reduceLT, true_implies, reduceCtorEq, false_implies, true_and, hl]
   refine hB ?_
   clear hA hB A B
   refine b1q ?_
   refine hK7 _ _ ?_
   refine vsk fun K11 hK11 => ?_
   have hob := (b4q.1 kf).2.1
   have hoc := (b4q.1 kg).2.1
   have hlb := hob.le
   have hlc := hoc.le
   have hfl := c1q (b4q.1 kf).2.2.1
   have hgl := c1q (b4q.1 kg).2.2.1
   have hbc : b.labels.length + c.labels.length ≤ 40 := by omega
   have hobc := s0q hob hoc hbc
   have hol : (d4q b c).labels.length = b.labels.length + c.labels.length := by simp only [d4q, List.length_append]
   have hop : (d4q b c).pairs.length < 1000000000 := by simp only [d4q, List.length_append, List.length_map]; omega
   refine a3q 0 [] ?_
   simp only [bs, ↓vopx, ↓vop, Nat.reduceBEq, a1q, Nat.reduceLT, a7q, a8q, hl, wocs, ↓goc, ↓woc, ↓a2q, Tryd.ag22, Tryd.fd25_0, Tryd.sz22, Tryd.un22, c7q, hn6]
   refine hK11 _ _ ?_
   refine vsk fun K12 hK12 => ?_
   refine a3q 0 [.stop] ?_
   simp only [bs, Nat.reduceAdd, ↓vopx, ↓vop, Nat.reduceBEq, a1q, Nat.reduceLT, a7q, a8q, opII, hl, wocs, ↓goc, ↓woc, ↓a2q, ↓c4q, a6q, Tryd.ag22, Tryd.fd25_0, Tryd.sz22, Tryd.un22, c7q, hn7]
   rw [show ((b.labels.length : Int) + (c.labels.length : Int)) = ((b.labels.length + c.labels.length : Nat) : Int) from by push_cast; rfl]
   repeat (refine And.intro (by first | omega | exact ⟨by omega, by omega⟩) ?_)
   refine ⟨Tryd.is66, (d0j sN (b.labels.length + c.labels.length) (by omega)).mono fun v sU hv => ?_⟩
   obtain ⟨p, m, rfl, hpr, hup, hum, hku, hun⟩ := hv
   try simp only [bs, Nat.reduceLT, hl, Hold]
   refine hK12 _ _ ?_
   refine vsk fun K13 hK13 => ?_
   refine vsk fun K14 hK14 => ?_
   refine a3q 0 [] ?_
   simp only [bs, ↓vopx, ↓vop, a1q, flat, wocs, ↓goc, ↓woc, ↓a2q]
   refine hK14 _ _ ?_
   refine a5q ?_
   refine d0q (fun mm e' s' => ∃ i : Nat, mm = f.length - i ∧ i ≤ f.length ∧ e'.length = 95 ∧ ev e' (.tmp 3) = .t (b0q f) ∧ ev e' (.tmp 4) = .t (b0q g) ∧ ev e' (.tmp 6) = .ptr (s.next + 1) 0 ∧ ev e' (.tmp 7) = .ptr (s.next + 1 + 1) 0 ∧ ev e' (.tmp 10) = .ptr (s.next + 1 + 1 + 1) 0 ∧ ev e' (.tmp 14) = I b.labels.length ∧ ev e' (.tmp 15) = .ptr p 0 ∧ ev e' (.tmp 16) = I i ∧ True ∧ RefU s' p m (f3q (d5q (b.labels.length + c.labels.length)) f (gMv b g) i) ∧ Keep sN s' ∧ sN.next ≤ s'.next) (⟨0, rfl, Nat.zero_le _, ?_⟩) ?_
   ·try simp only [a0q, a4q, Nat.reduceBEq, lpv, hl, h3, h4, Nat.reduceLT, true_and]
    repeat ((with_reducible refine And.intro ?_ ?_); · trivial)
    exact hun
   rintro mm e s1 ⟨i, rfl, hle_i, hl, k3, k4, k6, k7, k10, k14, k15, h_i, hst, ⟨hjP, hjK, hjN⟩⟩
   refine vsk fun K15 hK15 => ?_
   refine vsk fun K16 hK16 => ?_
   refine a3q 0 [] ?_
   simp only [bs, ↓vopx, ↓vop, Nat.reduceBEq, a1q, Nat.reduceLT, opII, hl, k3, h_i, wocs, ↓goc, ↓woc, ↓a2q, f1q, Tryd.underlying26]
   refine hK16 _ _ ?_
   refine vck fun A B hA hB => ?_
   simp only [b5q, a0q, lpv, Nat.reduceLT, decide_eq_true_eq, decide_eq_false_iff_not, hl]
   refine ⟨fun hc65 => hA ?_, fun hc65 => hB ?_⟩
   ·clear hA hB A B
    refine b1q ?_
    refine hK15 _ _ ?_
    refine vsk fun K17 hK17 => ?_
    refine a5q ?_
    obtain ⟨y, hy, hyl⟩ := e8j kf (i := i) (by omega)
    obtain ⟨z, hz, hzl⟩ := e8j kg (i := i) (by omega)
    have hz2 : (gMv b g)[i]? = some ((z + b.labels.length : Nat) : Int) := by rw [List.getElem?_map, hz]; simp
    have hjl := m1q (d5q (b.labels.length + c.labels.length)) f (gMv b g) i
    rw [e5q] at hjl
    have hif : i < f.length := by omega
    have hig : i < g.length := by omega
    refine d2q Tryd.mixed 11 [0, 0, 0, 1, 1, 0, 0, 1, 1, 0, 0] [] [.stop] 0 (by decide +kernel) (by simp [lpv, hl]) rfl ?_
    simp only [bs, ↓vopx, ↓vop, Nat.reduceBEq, a1q, c0q, Nat.reduceLT, a7q, a8q, opII, hl, k3, k4, k14, k15, h_i, wocs, ↓goc, ↓woc, ↓e7q, ↓c4q, a6q, chn, ↓goq, ↓woq, List.zip_cons_cons, List.zip_nil_right, Tryd.ag3, Tryd.sz3, Tryd.un26, hy, hz, Int.toNat_natCast]
    repeat (refine And.intro (by first | omega | exact ⟨by omega, by omega⟩) ?_)
    rw [show ((z : Int) + (b.labels.length : Int)) = ((z + b.labels.length : Nat) : Int) from by push_cast; rfl]
    refine ⟨Tryd.is67, (t1x s1 p m _ hjP (by omega) y (z + b.labels.length) (by omega) (by omega)).mono fun v s2 hv => ?_⟩
    have hj2k := hv.keep hum hjK
    obtain ⟨⟨bb, rfl⟩, hj2, hbt, hbn⟩ := hv
    try simp only [bs, Nat.reduceBEq, k3, k4, k14, k15, h_i, Hold]
    refine hK17 _ _ ?_
    refine a3q 0 [] ?_
    simp only [bs, ↓vopx, ↓vop, Nat.reduceBEq, a1q, flat, Nat.reduceLT, opII, hl, k3, k4, k6, k7, k10, k14, k15, h_i, wocs, ↓goc, ↓woc, ↓a2q]
    repeat ((with_reducible refine And.intro ?_ ?_); · exact ⟨by omega, by omega⟩)
    refine ⟨f.length - (i + 1), by omega, i + 1, rfl, by omega, ?_⟩
    try simp only [a0q, a4q, Nat.reduceBEq, lpv, hl, k3, k4, k6, k7, k10, k14, k15, h_i, if_true, if_false, Nat.reduceEqDiff, Nat.reduceLT, true_and, and_true]
    repeat ((with_reducible refine And.intro ?_ ?_); · trivial)
    rw [p9q hy hz2, Int.toNat_natCast, Int.toNat_natCast]
    exact ⟨hj2, hj2k, by omega⟩
   ·clear hA hB A B
    have han : f.length = i := by omega
    refine c8q ?_
    simp only [a1q, c0q, if_true]
    refine hK13 _ _ ?_
    refine vsk fun K18 hK18 => ?_
    have h61 := hjK _ _ (by omega) hn6
    have h71 := hjK _ _ (by omega) hn7
    refine a3q 0 [.pur (vObj (d4q b c)), .stop] ?_
    simp only [bs, Nat.reduceAdd, ↓vopx, ↓vop, Nat.reduceBEq, a1q, Nat.reduceLT, V.cells, a7q, a8q, hl, k6, k7, k15, wocs, ↓goc, ↓woc, ↓a2q, ↓c4q, a6q, Tryd.ag25, Tryd.sz25, h61, h71]
    refine ⟨⟨Tryd.is69, x7x b c hb1 (by omega) hc1 (by omega) hoc⟩, ?_⟩
    refine ⟨Tryd.is68, k4q.v (glued_ s1 p m _ hjP (a4x _ _ _ _) (d4q b c) hobc hop (by rw [m1q, e5q, hol])) ?_⟩
    try simp only [bs, Nat.reduceAdd, Nat.reduceBEq, Nat.reduceLT, hl, k15, Tryd.sz25, Tryd.zv25, Nat.le_refl, Hold]
    refine hK18 _ _ ?_
    refine vsk fun K19 hK19 => ?_
    refine o2q fun sX hSX => ?_
    have hx17 : sX.m s1.next = some (.box 25 [.t (b7q (h3q (d4q b c) (c2q (f3q (d5q (b.labels.length + c.labels.length)) f (gMv b g) i))).labels), .t (a9q (h3q (d4q b c) (c2q (f3q (d5q (b.labels.length + c.labels.length)) f (gMv b g) i))).pairs)]) := by rw [hSX, b6q, if_pos rfl]
    have hxs : ∀ j, j < s1.next → sX.m j = s1.m j := fun j hj => by rw [hSX, b6q, if_neg (by omega), c5q, if_neg (by omega)]
    have hx10 : sX.m (s.next + 1 + 1 + 1) = some (.box 25 [.t (.v (.slice none 0 0)), .t (.v (.slice none 0 0))]) := by rw [hxs _ (by omega)]; exact hjK _ _ (by omega) hn10
    have hxk : ∀ j x, j < s.next → s.m j = some x → sX.m j = some x := fun j x hj hx => by rw [hxs _ (by omega)]; exact hjK _ _ (by omega) (by rw [hnk j hj]; exact hx)
    clear hSX
    have hn17 : ¬ s1.next = s.next + 1 + 1 + 1 := by omega
    have hpl : (c2q (f3q (d5q (b.labels.length + c.labels.length)) f (gMv b g) i)).length = b.labels.length + c.labels.length := by rw [l0q, m1q, e5q]
    refine g0z (s.next + 1 + 1 + 1) Tryd.mixed 9 [1, 0, 0, 2, 0, 0, 2, 3, 0] [] [] 0 (by decide +kernel) (by simp [lpv, hl]) rfl ?_
    simp only [bs, Nat.reduceAdd, ↓vopx, ↓vop, Nat.reduceBEq, a1q, flat, Nat.reduceLT, V.cells, a7q, a8q, hl, k10, k14, wocs, ↓goc, ↓woc, ↓a2q, ↓e7q, chn, ↓goq, ↓woq, List.zip_cons_cons, List.zip_nil_right, Tryd.ag25, Tryd.sl26, Tryd.sz25, Nat.le_refl, hx17, hx10, hpl, bnd, c6z, Nat.div_one]
    repeat ((with_reducible refine And.intro ?_ ?_); · first | omega | exact x4z _ _ _)
    refine hK19 _ _ ?_
    refine b3q ?_
    have hres : vSum (m3q a b c f g) = pack [vObj (h3q (d4q b c) (c2q (f3q (d5q (b.labels.length + c.labels.length)) f (gMv b g) i))), .t (b0q ((c2q (f3q (d5q (b.labels.length + c.labels.length)) f (gMv b g) i)).take b.labels.length)), .t (b0q ((c2q (f3q (d5q (b.labels.length + c.labels.length)) f (gMv b g) i)).drop b.labels.length)), I 0] := by simp [m3q, vSum, puPl, ka, kb, kc, kf, kg, han]; rfl
    rw [hres] at hQ
    refine hQ _ _ _ (.inr rfl) ?_
    refine s7q (vs := [vObj (h3q (d4q b c) (c2q (f3q (d5q (b.labels.length + c.labels.length)) f (gMv b g) i))), .t (b0q ((c2q (f3q (d5q (b.labels.length + c.labels.length)) f (gMv b g) i)).take b.labels.length)), .t (b0q ((c2q (f3q (d5q (b.labels.length + c.labels.length)) f (gMv b g) i)).drop b.labels.length)), I 0]) ?_ rfl (by simp [pack, nm, nm2, nm1, nm0]) (fun n x hn h => by rw [b6q, if_neg (by omega)]; exact hxk n x hn h)
    show vres Tryd.prog _ _ [.cell 10 25, .tmp 11, .tmp 12, .tmp 13] = _
    simp only [g7q, j9q, h9q, a0q, a4q, Nat.reduceBEq, lpv, hl, k10, Tryd.sz25, Tryd.ag25, a7q, b6q, a8q, if_true, Nat.reduceLT, List.drop_zero, List.take_succ_cons, List.take_zero, List.length_cons, List.length_nil, Nat.zero_add, Nat.reduceAdd]
    simp [List.map_take, List.map_drop]
    exact List.take_of_length_le (by rw [List.length_drop, List.length_map, hpl]; omega)
end Go.Proofs

open Go Go.V
namespace Go.Proofs
theorem s7x {a b c : Ob} {f g : List Int} {q : Ob} {i j : List Int} (hR : m3q a b c f g = (q, i, j, 0)) :
 i ++ j = puPl b c f g ∧ i.length = b.labels.length ∧ j.length = c.labels.length ∧ q = h3q (d4q b c) (puPl b c f g) ∧ arrS a b f = true ∧ arrS a c g = true ∧ b.labels.length + c.labels.length ≤ 40 := by
 unfold m3q at hR
 split at hR
 ·simp at hR
 ·rename_i hlg
  split at hR
  ·rename_i har
   simp only [not_or] at hlg
   rw [s9q] at hlg
   have h2 := hlg.2.2
   simp only [decide_eq_true_eq] at h2
   simp only [Prod.mk.injEq] at hR
   obtain ⟨rfl, rfl, rfl, _⟩ := hR
   have hl := b4z b c f g
   exact ⟨List.take_append_drop _ _, by rw [List.length_take]; omega, by rw [List.length_drop]; omega, rfl, har.1, har.2, by omega⟩
  ·simp at hR
theorem pu_univ {β : Type} {a b c : Ob} {f g : List Int} (hf : arrS a b f = true) (hg : arrS a c g = true) (H : Nat → β) (hH : ∀ (k : Nat) (y z : Int), f[k]? = some y → (gMv b g)[k]? = some z → H y.toNat = H z.toNat)
 {p p' : Nat} {v : Int} (hp : (puPl b c f g)[p]? = some v) (hp' : (puPl b c f g)[p']? = some v) : H p = H p' := by
 obtain ⟨r1, r2, r3⟩ := t1z hf hg
 obtain ⟨hok, hRl⟩ := r0q _ f (gMv b g) r1 r2 f.length (Nat.le_refl _) (by omega)
 have hinv := w6q _ f (gMv b g) r1 r2 H f.length (Nat.le_refl _) (by omega) (fun i y z _ hy hz => hH i y z hy hz)
 have hl := b4z b c f g
 have get : ∀ {p : Nat}, (puPl b c f g)[p]? = some v → ∃ z : Int, (f3q (d5q (b.labels.length + c.labels.length)) f (gMv b g) f.length)[p]? = some z ∧ (fstL (puPl b c f g) (f3q (d5q (b.labels.length + c.labels.length)) f (gMv b g) f.length).length)[v.toNat]? = some z.toNat := by
  intro p hp
  have hpl := (List.getElem?_eq_some_iff.1 hp).1
  obtain ⟨z, hz⟩ : ∃ z, (f3q (d5q (b.labels.length + c.labels.length)) f (gMv b g) f.length)[p]? = some z := ⟨_, List.getElem?_eq_getElem (by omega)⟩
  obtain ⟨k, hk, hf⟩ := o8x hok hz
  change (puPl b c f g)[p]? = _ at hk
  rw [hp] at hk
  cases hk
  exact ⟨z, hz, by rw [Int.toNat_natCast]; exact hf⟩
 obtain ⟨z, hz, h1⟩ := get hp
 obtain ⟨z', hz', h2⟩ := get hp'
 rw [h1] at h2
 have e1 := hinv p z hz
 have e2 := hinv p' z' hz'
 have : z.toNat = z'.toNat := by simpa using h2
 rw [← e1, ← e2, this]
theorem i1z {o l w : List Int} (hlw : l.length = w.length) : ∀ (x : Nat), x ≤ l.length → ∀ (v : Nat) (z : Int), v < o.length → (∀ x', x' < x → l[x']? = some (v : Int) → w[x']? = some z) → (∀ y ∈ l, (0 : Int) ≤ y) →
 ((∃ x', x' < x ∧ l[x']? = some (v : Int)) ∨ o[v]? = some z) → (putL o l w x)[v]? = some z
 | 0, _, v, z, _, _, _, h => by
  rcases h with ⟨x', hx', _⟩ | h
  ·omega
  ·exact h
 | x + 1, hx, v, z, hv, hw, h0, h => by
  obtain ⟨y, hy⟩ : ∃ y, l[x]? = some y := ⟨_, List.getElem?_eq_getElem (by omega)⟩
  obtain ⟨u, hu⟩ : ∃ u, w[x]? = some u := ⟨_, List.getElem?_eq_getElem (by omega)⟩
  have hy0 := h0 y (List.mem_of_getElem? hy)
  rw [z2z hy hu, List.getElem?_set, b6z]
  split
  ·rename_i he
   have : y = (v : Int) := by omega
   subst this
   have := hw x (by omega) hy
   rw [hu] at this
   rw [if_pos (by omega)]; exact this
  ·rename_i hne
   refine i1z hlw x (by omega) v z hv (fun x' hx' => hw x' (by omega)) h0 ?_
   rcases h with ⟨x', hx', hl'⟩ | h
   ·by_cases hxx : x' = x
    ·subst hxx
     rw [hy] at hl'; cases hl'
     exact absurd (by simp) hne
    ·exact .inl ⟨x', by omega, hl'⟩
   ·exact .inr h
theorem out_at {n : Nat} {i j h k : List Int} (hi : i.length = h.length) (hj : j.length = k.length) (bi : ∀ y ∈ i, (0 : Int) ≤ y ∧ y < n) (bj : ∀ y ∈ j, (0 : Int) ≤ y ∧ y < n)
 (hc : ∀ (p p' : Nat) (v : Int), (i ++ j)[p]? = some v → (i ++ j)[p']? = some v → (h ++ k)[p]? = (h ++ k)[p']?) {p : Nat} {v : Int} (hp : (i ++ j)[p]? = some v) : (outS n [i, j] [h, k])[v.toNat]? = (h ++ k)[p]? := by
 have hv : 0 ≤ v ∧ v < n := by
  rcases List.mem_append.1 (List.mem_of_getElem? hp) with hm | hm
  ·exact bi v hm
  ·exact bj v hm
 have hpl : p < (h ++ k).length := by have := (List.getElem?_eq_some_iff.1 hp).1; simp only [List.length_append] at this ⊢; omega
 obtain ⟨z, hz⟩ : ∃ z, (h ++ k)[p]? = some z := ⟨_, List.getElem?_eq_getElem hpl⟩
 have e : outS n [i, j] [h, k] = putL (putL (List.replicate n (-1)) i h i.length) j k j.length := by
  show outK n [i, j] [h, k] 2 = _
  rw [b0z (i := 1) (l := j) (w := k) rfl rfl hj, b0z (i := 0) (l := i) (w := h) rfl rfl hi]; rfl
 have hv2 : ((v.toNat : Nat) : Int) = v := by omega
 have left : ∀ x', x' < i.length → i[x']? = some v → h[x']? = some z := fun x' hx' hix => by
  have := hc p x' v hp (by rw [List.getElem?_append_left hx']; exact hix)
  rw [hz, List.getElem?_append_left (by omega)] at this
  exact this.symm
 have right : ∀ x', x' < j.length → j[x']? = some v → k[x']? = some z := fun x' hx' hjx => by
  have := hc p (i.length + x') v hp (by rw [List.getElem?_append_right (by omega), show i.length + x' - i.length = x' by omega]; exact hjx)
  rw [hz, List.getElem?_append_right (by omega), show i.length + x' - h.length = x' by omega] at this
  exact this.symm
 rw [hz, e]
 refine i1z hj j.length (Nat.le_refl _) v.toNat z (by rw [b6z]; simp; omega) (by rw [hv2]; exact right) (fun y hy => (bj y hy).1) ?_
 rw [hv2]
 by_cases hpi : p < i.length
 ·right
  rw [List.getElem?_append_left hpi] at hp
  exact i1z hi i.length (Nat.le_refl _) v.toNat z (by simp; omega) (by rw [hv2]; exact left) (fun y hy => (bi y hy).1) (.inl ⟨p, hpi, by rw [hv2]; exact hp⟩)
 ·left
  have hpj := (List.getElem?_eq_some_iff.1 hp).1
  rw [List.length_append] at hpj
  rw [List.getElem?_append_right (by omega)] at hp
  exact ⟨p - i.length, by omega, hp⟩
end Go.Proofs

open Go Go.V
namespace Go.Proofs
theorem p7q {M : Mx} {T : Nat → Nat → Prop} (hT : ∀ a k b, T a k → T k b → T a b) (h : ∀ a b, M a b = true → T a b) : ∀ k a b, cloK M k a b = true → T a b
 | 0, a, b, hm => h a b hm
 | k + 1, a, b, hm => by
  rw [n5q] at hm
  simp only [fwk, Bool.or_eq_true, Bool.and_eq_true] at hm
  rcases hm with hm | ⟨h1, h2⟩
  ·exact p7q hT h k a b hm
  ·exact hT a k b (p7q hT h k _ _ h1) (p7q hT h k _ _ h2)
structure MedS (q : Ob) (i j : List Int) (d : Ob) (h k u : List Int) : Prop where
 ar : arrS q d u = true
 t1 : thenS i u = (h, true)
 t2 : thenS j u = (k, true)
 un : ∀ o, arrS q d o = true → ((thenS i o).1 == h && (thenS j o).1 == k) = (o == u)
theorem co_iff {a b c : Ob} {f g : List Int} {d : Ob} {h k : List Int} (h0 : coS a b c f g d h k = true) : arrS a b f = true ∧ arrS a c g = true ∧ arrS b d h = true ∧ arrS c d k = true ∧ (thenS f h).1 = (thenS g k).1 := by
 simp only [coS, Bool.and_eq_true, beq_iff_eq] at h0
 exact h0
theorem f1x {a b c : Ob} {f g : List Int} {q : Ob} {i j hh : List Int} {d : Ob} {h k : List Int} (hR : m3q a b c f g = (q, i, j, 0)) (hS : SqS b c f g q i j hh) (h0 : coS a b c f g d h k = true) :
 MedS q i j d h k (outS q.labels.length [i, j] [h, k]) := by
 obtain ⟨e1, e2, e3, e4, hf, hg, hl40⟩ := s7x hR
 obtain ⟨_, _, ah, ak, hco⟩ := co_iff h0
 have bi := f8q (b4q.1 hS.a1).2.2.1
 have bj := f8q (b4q.1 hS.a2).2.2.1
 have mh := (b4q.1 ah).2.2.1
 have mk := (b4q.1 ak).2.2.1
 have hhl := c1q mh
 have hkl := c1q mk
 have wi : i.length = h.length := by omega
 have wj : j.length = k.length := by omega
 have hb := (b4q.1 hf).2.1
 have hc := (b4q.1 hg).2.1
 have hd := (b4q.1 ah).2.1
 have mf := (b4q.1 hf).2.2.1
 have mg := (b4q.1 hg).2.2.1
 have hfl := c1q mf
 have hgl := c1q mg
 -- both ways out take the same value in each class
 have hH : ∀ (m : Nat) (y z : Int), f[m]? = some y → (gMv b g)[m]? = some z → (h ++ k)[y.toNat]? = (h ++ k)[z.toNat]? := fun m y z hy hz => by
  obtain ⟨w, hw, rfl⟩ := f5j hz
  have b1 := f8q mf y (List.mem_of_getElem? hy)
  have b2 := f8q mg w (List.mem_of_getElem? hw)
  have t1 := h0q (f := f) (g := h) (fun y hy => by have := f8q mf y hy; omega)
  have t2 := h0q (f := g) (g := k) (fun y hy => by have := f8q mg y hy; omega)
  rw [t1, t2] at hco
  have := congrArg (fun l => l[m]?) hco
  simp only [List.getElem?_map, hy, hw, Option.map_some, Option.some.injEq] at this
  rw [List.getElem?_append_left (by omega), List.getElem?_append_right (by omega), show (w + (b.labels.length : Int)).toNat - h.length = w.toNat by omega, List.getElem?_eq_getElem (show y.toNat < h.length by omega), List.getElem?_eq_getElem (show w.toNat < k.length by omega)]
  rw [List.getD_eq_getElem?_getD, List.getD_eq_getElem?_getD, List.getElem?_eq_getElem (show y.toNat < h.length by omega), List.getElem?_eq_getElem (show w.toNat < k.length by omega)] at this
  simpa using this
 have hcon : ∀ (p p' : Nat) (v : Int), (i ++ j)[p]? = some v → (i ++ j)[p']? = some v → (h ++ k)[p]? = (h ++ k)[p']? := fun p p' v hp hp' => by
  rw [e1] at hp hp'
  exact pu_univ hf hg (fun p => (h ++ k)[p]?) hH hp hp'
 have hat : ∀ {p : Nat} {v : Int}, (i ++ j)[p]? = some v → (outS q.labels.length [i, j] [h, k])[v.toNat]? = (h ++ k)[p]? := fun hp => out_at wi wj bi bj hcon hp
 have hul : (outS q.labels.length [i, j] [h, k]).length = q.labels.length := y2q _ _ _ _
 generalize outS q.labels.length [i, j] [h, k] = u at hat hul
 have t1 : thenS i u = (h, true) := by
  rw [h0q (fun y hy => by have := bi y hy; omega)]
  congr 1
  apply List.ext_getElem?
  intro p
  rw [List.getElem?_map]
  by_cases hp : p < i.length
  ·have hq : (i ++ j)[p]? = some i[p] := by rw [List.getElem?_append_left hp, List.getElem?_eq_getElem hp]
   have := hat hq
   rw [List.getElem?_append_left (by omega)] at this
   rw [List.getElem?_eq_getElem hp, Option.map_some, List.getD_eq_getElem?_getD, this, List.getElem?_eq_getElem (show p < h.length by omega)]; rfl
  ·rw [List.getElem?_eq_none (by omega), List.getElem?_eq_none (by omega)]; rfl
 have t2 : thenS j u = (k, true) := by
  rw [h0q (fun y hy => by have := bj y hy; omega)]
  congr 1
  apply List.ext_getElem?
  intro p
  rw [List.getElem?_map]
  by_cases hp : p < j.length
  ·have hq : (i ++ j)[i.length + p]? = some j[p] := by rw [List.getElem?_append_right (by omega), show i.length + p - i.length = p by omega, List.getElem?_eq_getElem hp]
   have := hat hq
   rw [List.getElem?_append_right (by omega), show i.length + p - h.length = p by omega] at this
   rw [List.getElem?_eq_getElem hp, Option.map_some, List.getD_eq_getElem?_getD, this, List.getElem?_eq_getElem (show p < k.length by omega)]; rfl
  ·rw [List.getElem?_eq_none (by omega), List.getElem?_eq_none (by omega)]; rfl
 -- each element of q is one of i or j
 have onto : ∀ v : Nat, v < q.labels.length → ∃ p : Nat, (i ++ j)[p]? = some (v : Int) := fun v hv => List.getElem?_of_mem (hS.on v hv)
 refine ⟨?_, t1, t2, fun o ho => ?_⟩
 ·refine z1q (b4q.1 hS.a1).2.1 hd hul (fun v y la hy hla => ?_) fun x y hm => ?_
  ·have hv := (List.getElem?_eq_some_iff.1 hla).1
   obtain ⟨p, hp⟩ := onto v hv
   have hpu := hat hp
   rw [Int.toNat_natCast, hy] at hpu
   have hpl := (List.getElem?_eq_some_iff.1 hp).1
   rw [List.length_append] at hpl
   by_cases hpi : p < i.length
   ·rw [List.getElem?_append_left hpi] at hp
    rw [List.getElem?_append_left (by omega)] at hpu
    have l1 := p5z hS.a1 hp
    obtain ⟨lb, k1, k2, k3⟩ := j6q.1 (k5q mh hpu.symm (List.getElem?_eq_getElem (show p < b.labels.length by omega)))
    refine ⟨lb, k1, k2, ?_⟩
    rw [← k3]
    rw [Int.toNat_natCast, List.getD_eq_getElem?_getD, hla, List.getD_eq_getElem?_getD, List.getElem?_eq_getElem (show p < b.labels.length by omega)] at l1
    exact l1
   ·rw [List.getElem?_append_right (by omega)] at hp
    rw [List.getElem?_append_right (by omega), ← wi] at hpu
    have l1 := p5z hS.a2 hp
    obtain ⟨lb, k1, k2, k3⟩ := j6q.1 (k5q mk hpu.symm (List.getElem?_eq_getElem (show p - i.length < c.labels.length by omega)))
    refine ⟨lb, k1, k2, ?_⟩
    rw [← k3]
    rw [Int.toNat_natCast, List.getD_eq_getElem?_getD, hla, List.getD_eq_getElem?_getD, List.getElem?_eq_getElem (show p - i.length < c.labels.length by omega)] at l1
    exact l1
  ·-- pairs: the closure goes into the pairs of d
   have hT : ∀ x z y : Nat, (∃ s t : Nat, u[x]? = some (s : Int) ∧ u[z]? = some (t : Int) ∧ mxOf d.pairs s t = true) → (∃ s t : Nat, u[z]? = some (s : Int) ∧ u[y]? = some (t : Int) ∧ mxOf d.pairs s t = true) → (∃ s t : Nat, u[x]? = some (s : Int) ∧ u[y]? = some (t : Int) ∧ mxOf d.pairs s t = true) := fun x z y h1 h2 => by
    obtain ⟨s1, t1, a1, a2, a3⟩ := h1
    obtain ⟨s2, t2, b1, b2, b3⟩ := h2
    rw [a2] at b1
    have : t1 = s2 := by have := Option.some.inj b1; omega
    subst this
    exact ⟨s1, t2, a1, b2, hd.trans _ _ _ a3 b3⟩
   have hbase : ∀ x y, glMx (d4q b c) (puPl b c f g) x y = true → (∃ s t : Nat, u[x]? = some (s : Int) ∧ u[y]? = some (t : Int) ∧ mxOf d.pairs s t = true) := fun x y hg' => by
    simp only [glMx, List.any_eq_true, Bool.and_eq_true, beq_iff_eq] at hg'
    obtain ⟨r, hr, hx, hy⟩ := hg'
    have hpl := b4z b c f g
    have atp : ∀ z : Nat, z < b.labels.length + c.labels.length → ∃ v : Int, (i ++ j)[z]? = some v ∧ v.toNat = atN (puPl b c f g) z := fun z hz => by
     refine ⟨(puPl b c f g)[z], by rw [e1, List.getElem?_eq_getElem (by omega)], ?_⟩
     unfold atN
     rw [Int.toNat_natCast, List.getD_eq_getElem?_getD, List.getElem?_eq_getElem (by omega)]; rfl
    simp only [d4q] at hr
    rcases List.mem_append.1 hr with hr | hr
    ·have hin := j1q.1 ((List.all_eq_true.1 hb.inb) r hr)
     obtain ⟨s, t, k1, k2, k3⟩ := o5q ah (x := r.1.toNat) (y := r.2.toNat) (l2q.2 ⟨r, hr, rfl, rfl⟩)
     obtain ⟨v1, hv1, ha1⟩ := atp r.1.toNat (by omega)
     obtain ⟨v2, hv2, ha2⟩ := atp r.2.toNat (by omega)
     have g1 := hat hv1
     have g2 := hat hv2
     rw [List.getElem?_append_left (by omega), k1] at g1
     rw [List.getElem?_append_left (by omega), k2] at g2
     rw [show ((r.1.toNat : Nat) : Int) = r.1 by omega, hx] at ha1
     rw [show ((r.2.toNat : Nat) : Int) = r.2 by omega, hy] at ha2
     exact ⟨s, t, by rw [← ha1]; exact g1, by rw [← ha2]; exact g2, k3⟩
    ·obtain ⟨r', hr', rfl⟩ := List.mem_map.1 hr
     have hin := j1q.1 ((List.all_eq_true.1 hc.inb) r' hr')
     obtain ⟨s, t, k1, k2, k3⟩ := o5q ak (x := r'.1.toNat) (y := r'.2.toNat) (l2q.2 ⟨r', hr', rfl, rfl⟩)
     obtain ⟨v1, hv1, ha1⟩ := atp (r'.1.toNat + b.labels.length) (by omega)
     obtain ⟨v2, hv2, ha2⟩ := atp (r'.2.toNat + b.labels.length) (by omega)
     have g1 := hat hv1
     have g2 := hat hv2
     rw [List.getElem?_append_right (by omega), show r'.1.toNat + b.labels.length - h.length = r'.1.toNat by omega, k1] at g1
     rw [List.getElem?_append_right (by omega), show r'.2.toNat + b.labels.length - h.length = r'.2.toNat by omega, k2] at g2
     simp only [shP] at hx hy
     rw [show ((r'.1.toNat + b.labels.length : Nat) : Int) = r'.1 + b.labels.length by omega, hx] at ha1
     rw [show ((r'.2.toNat + b.labels.length : Nat) : Int) = r'.2 + b.labels.length by omega, hy] at ha2
     exact ⟨s, t, by rw [← ha1]; exact g1, by rw [← ha2]; exact g2, k3⟩
   have ho := s0q hb hc hl40
   have hq2 : q.pairs = f6q (glN (puPl b c f g)) (cloK (glMx (d4q b c) (puPl b c f g)) (glN (puPl b c f g))) := by rw [e4]; rfl
   obtain ⟨r1, r2, r3⟩ := t1z hf hg
   obtain ⟨hok, hRl⟩ := r0q _ f (gMv b g) r1 r2 f.length (Nat.le_refl _) (by omega)
   have hpo : PlOK (puPl b c f g) := t3q hok.wf
   rw [hq2, r1q (m9q (u4q ho (by rw [b4z]; simp [d4q]) hpo) _)] at hm
   exact p7q (T := fun x y => ∃ s t : Nat, u[x]? = some (s : Int) ∧ u[y]? = some (t : Int) ∧ mxOf d.pairs s t = true) hT hbase _ _ _ hm
 ·have mo := (b4q.1 ho).2.2.1
  have hol := c1q mo
  have o1 := h0q (f := i) (g := o) (fun y hy => by have := bi y hy; omega)
  have o2 := h0q (f := j) (g := o) (fun y hy => by have := bj y hy; omega)
  rw [Bool.eq_iff_iff, Bool.and_eq_true, beq_iff_eq, beq_iff_eq, beq_iff_eq]
  constructor
  ·rintro ⟨h1, h2⟩
   apply List.ext_getElem?
   intro v
   by_cases hv : v < q.labels.length
   ·obtain ⟨p, hp⟩ := onto v hv
    have hu := hat hp
    rw [Int.toNat_natCast] at hu
    rw [hu]
    have hpl := (List.getElem?_eq_some_iff.1 hp).1
    rw [List.length_append] at hpl
    by_cases hpi : p < i.length
    ·rw [List.getElem?_append_left hpi] at hp
     rw [List.getElem?_append_left (by omega), ← h1, o1]
     simp only [List.getElem?_map, hp, Option.map_some, Int.toNat_natCast]
     rw [List.getD_eq_getElem?_getD, List.getElem?_eq_getElem (by omega)]; rfl
    ·rw [List.getElem?_append_right (by omega)] at hp
     rw [List.getElem?_append_right (by omega), ← wi, ← h2, o2]
     simp only [List.getElem?_map, hp, Option.map_some, Int.toNat_natCast]
     rw [List.getD_eq_getElem?_getD, List.getElem?_eq_getElem (by omega)]; rfl
   ·rw [List.getElem?_eq_none (by omega), List.getElem?_eq_none (by omega)]
  ·rintro rfl
   exact ⟨by rw [t1], by rw [t2]⟩
end Go.Proofs

open Go Go.V
namespace Go.Proofs
def gPl (n : Nat) (F G : List Int) : List Int := c2q (f3q (d5q n) F G F.length)
structure GlOK (o : Ob) (F G : List Int) : Prop where
 ob : IsOb o
 bF : ∀ y ∈ F, 0 ≤ y ∧ y < ((o.labels.length : Nat) : Int)
 bG : ∀ y ∈ G, 0 ≤ y ∧ y < ((o.labels.length : Nat) : Int)
 ln : F.length = G.length
 lab : ∀ (k : Nat) (y z : Int), F[k]? = some y → G[k]? = some z → (o.labels.getD y.toNat ByteArray.empty).toList = (o.labels.getD z.toNat ByteArray.empty).toList
section
variable {o : Ob} {F G : List Int}
theorem GlOK.rep (h : GlOK o F G) : z3q (f3q (d5q o.labels.length) F G F.length) ∧ (f3q (d5q o.labels.length) F G F.length).length = o.labels.length :=
 r0q _ F G h.bF h.bG F.length (Nat.le_refl _) (by have := h.ln; omega)
theorem GlOK.len (h : GlOK o F G) : (gPl o.labels.length F G).length = o.labels.length := by
 unfold gPl; rw [u9q]; exact h.rep.2
theorem GlOK.ok (h : GlOK o F G) : PlOK (gPl o.labels.length F G) := t3q h.rep.1.wf
theorem GlOK.arr (h : GlOK o F G) : arrS o (h3q o (gPl o.labels.length F G)) (gPl o.labels.length F G) = true := by
 obtain ⟨hok, hRl⟩ := h.rep
 exact w7z h.ob hok hRl (w6q _ F G h.bF h.bG (fun j => (o.labels.getD j ByteArray.empty).toList) F.length (Nat.le_refl _) (by have := h.ln; omega) (fun i y z _ hy hz => h.lab i y z hy hz))
theorem GlOK.eq (h : GlOK o F G) {k : Nat} {y z : Int} (hy : F[k]? = some y) (hz : G[k]? = some z) : (gPl o.labels.length F G)[y.toNat]? = (gPl o.labels.length F G)[z.toNat]? := by
 obtain ⟨hok, hRl⟩ := h.rep
 have hk := (List.getElem?_eq_some_iff.1 hy).1
 have b1 := h.bF y (List.mem_of_getElem? hy)
 have e0 := s7z _ F G h.bF h.bG F.length (Nat.le_refl _) (by have := h.ln; omega) k y z hk hy hz
 obtain ⟨r, hr⟩ : ∃ r, (f3q (d5q o.labels.length) F G F.length)[y.toNat]? = some r := ⟨_, List.getElem?_eq_getElem (by omega)⟩
 exact (z0z hok hr).trans (z0z hok (e0 ▸ hr)).symm
theorem GlOK.univ (h : GlOK o F G) {β : Type} (H : Nat → β) (hH : ∀ (k : Nat) (y z : Int), F[k]? = some y → G[k]? = some z → H y.toNat = H z.toNat)
 {p p' : Nat} {v : Int} (hp : (gPl o.labels.length F G)[p]? = some v) (hp' : (gPl o.labels.length F G)[p']? = some v) : H p = H p' := by
 obtain ⟨hok, hRl⟩ := h.rep
 have hinv := w6q _ F G h.bF h.bG H F.length (Nat.le_refl _) (by have := h.ln; omega) (fun i y z _ hy hz => hH i y z hy hz)
 have hl := h.len
 have get : ∀ {p : Nat}, (gPl o.labels.length F G)[p]? = some v → ∃ z : Int, (f3q (d5q o.labels.length) F G F.length)[p]? = some z ∧ (fstL (gPl o.labels.length F G) (f3q (d5q o.labels.length) F G F.length).length)[v.toNat]? = some z.toNat := by
  intro p hp
  have hpl := (List.getElem?_eq_some_iff.1 hp).1
  obtain ⟨z, hz⟩ : ∃ z, (f3q (d5q o.labels.length) F G F.length)[p]? = some z := ⟨_, List.getElem?_eq_getElem (by omega)⟩
  obtain ⟨k, hk, hf⟩ := o8x hok hz
  change (gPl o.labels.length F G)[p]? = _ at hk
  rw [hp] at hk
  cases hk
  exact ⟨z, hz, by rw [Int.toNat_natCast]; exact hf⟩
 obtain ⟨z, hz, h1⟩ := get hp
 obtain ⟨z', hz', h2⟩ := get hp'
 rw [h1] at h2
 have e1 := hinv p z hz
 have e2 := hinv p' z' hz'
 have : z.toNat = z'.toNat := by simpa using h2
 rw [← e1, ← e2, this]
theorem GlOK.onto (h : GlOK o F G) {k : Nat} (hk : k < (h3q o (gPl o.labels.length F G)).labels.length) : ∃ p : Nat, (gPl o.labels.length F G)[p]? = some (k : Int) := by
 have hk' : k < glN (gPl o.labels.length F G) := by rw [← a7z o]; exact hk
 obtain ⟨x, hx, hxv⟩ := s2x _ hk'
 rw [List.getD_eq_getElem?_getD, List.getElem?_eq_getElem hx] at hxv
 exact ⟨x, by rw [List.getElem?_eq_getElem hx]; exact congrArg some hxv⟩
theorem GlOK.med (h : GlOK o F G) {d : Ob} {W u : List Int} (hW : arrS o d W = true) (hul : u.length = (h3q o (gPl o.labels.length F G)).labels.length)
 (hat : ∀ (p : Nat) (v : Int), (gPl o.labels.length F G)[p]? = some v → u[v.toNat]? = W[p]?) : arrS (h3q o (gPl o.labels.length F G)) d u = true := by
 have ha := h.arr
 have hd := (b4q.1 hW).2.1
 have mW := (b4q.1 hW).2.2.1
 have lW := c1q mW
 have hl := h.len
 refine z1q (b4q.1 ha).2.1 hd hul (fun v y la hy hla => ?_) fun x y hm => ?_
 ·have hv := (List.getElem?_eq_some_iff.1 hla).1
  obtain ⟨p, hp⟩ := h.onto hv
  have hpu := hat p v hp
  rw [Int.toNat_natCast, hy] at hpu
  have hpl := (List.getElem?_eq_some_iff.1 hp).1
  have l1 := p5z ha hp
  obtain ⟨lb, k1, k2, k3⟩ := j6q.1 (k5q mW hpu.symm (List.getElem?_eq_getElem (show p < o.labels.length by omega)))
  refine ⟨lb, k1, k2, ?_⟩
  rw [← k3]
  rw [Int.toNat_natCast, List.getD_eq_getElem?_getD, hla, List.getD_eq_getElem?_getD, List.getElem?_eq_getElem (show p < o.labels.length by omega)] at l1
  exact l1
 ·have hT : ∀ x z y : Nat, (∃ s t : Nat, u[x]? = some (s : Int) ∧ u[z]? = some (t : Int) ∧ mxOf d.pairs s t = true) → (∃ s t : Nat, u[z]? = some (s : Int) ∧ u[y]? = some (t : Int) ∧ mxOf d.pairs s t = true) → (∃ s t : Nat, u[x]? = some (s : Int) ∧ u[y]? = some (t : Int) ∧ mxOf d.pairs s t = true) := fun x z y h1 h2 => by
   obtain ⟨s1, t1, a1, a2, a3⟩ := h1
   obtain ⟨s2, t2, b1, b2, b3⟩ := h2
   rw [a2] at b1
   have : t1 = s2 := by have := Option.some.inj b1; omega
   subst this
   exact ⟨s1, t2, a1, b2, hd.trans _ _ _ a3 b3⟩
  have hbase : ∀ x y, glMx o (gPl o.labels.length F G) x y = true → (∃ s t : Nat, u[x]? = some (s : Int) ∧ u[y]? = some (t : Int) ∧ mxOf d.pairs s t = true) := fun x y hg' => by
   simp only [glMx, List.any_eq_true, Bool.and_eq_true, beq_iff_eq] at hg'
   obtain ⟨r, hr, hx, hy⟩ := hg'
   have atp : ∀ z : Nat, z < o.labels.length → ∃ v : Int, (gPl o.labels.length F G)[z]? = some v ∧ v.toNat = atN (gPl o.labels.length F G) z := fun z hz => by
    refine ⟨(gPl o.labels.length F G)[z], by rw [List.getElem?_eq_getElem (by omega)], ?_⟩
    unfold atN
    rw [Int.toNat_natCast, List.getD_eq_getElem?_getD, List.getElem?_eq_getElem (by omega)]; rfl
   have hin := j1q.1 ((List.all_eq_true.1 h.ob.inb) r hr)
   obtain ⟨s, t, k1, k2, k3⟩ := o5q hW (x := r.1.toNat) (y := r.2.toNat) (l2q.2 ⟨r, hr, rfl, rfl⟩)
   obtain ⟨v1, hv1, ha1⟩ := atp r.1.toNat (by omega)
   obtain ⟨v2, hv2, ha2⟩ := atp r.2.toNat (by omega)
   have g1 := hat _ _ hv1
   have g2 := hat _ _ hv2
   rw [k1] at g1
   rw [k2] at g2
   rw [show ((r.1.toNat : Nat) : Int) = r.1 by omega, hx] at ha1
   rw [show ((r.2.toNat : Nat) : Int) = r.2 by omega, hy] at ha2
   exact ⟨s, t, by rw [← ha1]; exact g1, by rw [← ha2]; exact g2, k3⟩
  change mxOf (f6q (glN (gPl o.labels.length F G)) (cloK (glMx o (gPl o.labels.length F G)) (glN (gPl o.labels.length F G)))) x y = true at hm
  rw [r1q (m9q (u4q h.ob h.len h.ok) _)] at hm
  exact p7q (T := fun x y => ∃ s t : Nat, u[x]? = some (s : Int) ∧ u[y]? = some (t : Int) ∧ mxOf d.pairs s t = true) hT hbase _ _ _ hm
end
def bsB (l : List Ob) (k : Nat) : Nat := (f9q l k).length
theorem a1z {l : List Ob} {k : Nat} {o : Ob} (h : l[k]? = some o) : bsB l (k + 1) = bsB l k + o.labels.length := by
 unfold bsB; rw [p1q h, List.length_append]
theorem x6z {l : List Ob} {k : Nat} (h : l[k]? = none) : f9q l (k + 1) = f9q l k := by
 unfold f9q; rw [List.take_add_one, h]; simp
theorem y0x (l : List Ob) {j k : Nat} (h : j ≤ k) : bsB l j ≤ bsB l k := by
 induction h with
 | refl => exact Nat.le_refl _
 | step _ ih =>
  rename_i m _
  cases hm : l[m]? with
  | none => unfold bsB at ih ⊢; rw [x6z hm]; exact ih
  | some o => rw [a1z hm]; omega
theorem f0z {l : List Ob} {j k : Nat} {o : Ob} (h : l[j]? = some o) (hk : j < k) : bsB l j + o.labels.length ≤ bsB l k := by
 rw [← a1z h]; exact y0x l hk
theorem q4x {l : List Ob} {j k : Nat} (h : j ≤ k) {x : Nat} {b : ByteArray} (hx : (f9q l j)[x]? = some b) : (f9q l k)[x]? = some b := by
 induction h with
 | refl => exact hx
 | step _ ih =>
  rename_i m _
  cases hm : l[m]? with
  | none => rw [x6z hm]; exact ih
  | some o => rw [p1q hm, List.getElem?_append_left (List.getElem?_eq_some_iff.1 ih).1]; exact ih
theorem c3x {l : List Ob} {j k : Nat} {o : Ob} (h : l[j]? = some o) (hk : j < k) {x : Nat} {b : ByteArray} (hx : o.labels[x]? = some b) : (f9q l k)[bsB l j + x]? = some b := by
 refine q4x (show j + 1 ≤ k from hk) ?_
 rw [p1q h, List.getElem?_append_right (by unfold bsB; omega), show bsB l j + x - (f9q l j).length = x by unfold bsB; omega]; exact hx
theorem m4x (l : List Ob) : ∀ k, k ≤ l.length → ∀ p, p < bsB l k → ∃ (j : Nat) (o : Ob) (x : Nat), j < k ∧ l[j]? = some o ∧ x < o.labels.length ∧ p = bsB l j + x
 | 0, _, p, hp => by simp [bsB, f9q] at hp
 | k + 1, hk, p, hp => by
  obtain ⟨o, ho⟩ : ∃ o, l[k]? = some o := ⟨_, List.getElem?_eq_getElem hk⟩
  by_cases h : p < bsB l k
  ·obtain ⟨j, o', x, h1, h2, h3, h4⟩ := m4x l k (by omega) p h
   exact ⟨j, o', x, by omega, h2, h3, h4⟩
  ·rw [a1z ho] at hp
   exact ⟨k, o, p - bsB l k, by omega, ho, by omega, by omega⟩
theorem bs_mx {l : List Ob} (hI : ∀ o ∈ l, IsOb o) : ∀ k, k ≤ l.length → ∀ x y, mxOf (prsT l k) x y = true ↔ ∃ (j : Nat) (o : Ob) (u v : Nat), j < k ∧ l[j]? = some o ∧ x = bsB l j + u ∧ y = bsB l j + v ∧ mxOf o.pairs u v = true
 | 0, _, x, y => by
  constructor
  ·intro h; simp [prsT, mxOf] at h
  ·rintro ⟨j, _, _, _, h, _⟩; omega
 | k + 1, hk, x, y => by
  obtain ⟨o, ho⟩ : ∃ o, l[k]? = some o := ⟨_, List.getElem?_eq_getElem hk⟩
  have hio := hI o (List.mem_of_getElem? ho)
  rw [b3z ho, f3x, bs_mx hI k (by omega), r1x hio.nonneg]
  constructor
  ·rintro (⟨j, o', u, v, h1, h2⟩ | ⟨u, v, h1, h2, h3⟩)
   ·exact ⟨j, o', u, v, by omega, h2⟩
   ·exact ⟨k, o, u, v, by omega, ho, by unfold bsB; omega, by unfold bsB; omega, h3⟩
  ·rintro ⟨j, o', u, v, h1, h2, h3, h4, h5⟩
   by_cases hj : j < k
   ·exact .inl ⟨j, o', u, v, hj, h2, h3, h4, h5⟩
   ·have : j = k := by omega
    subst this
    rw [ho] at h2; cases h2
    exact .inr ⟨u, v, by unfold bsB at h3; omega, by unfold bsB at h4; omega, h5⟩
theorem bs_step {l : List Ob} {k : Nat} {o : Ob} (h : l[k]? = some o) : (⟨f9q l (k + 1), prsT l (k + 1)⟩ : Ob) = d4q ⟨f9q l k, prsT l k⟩ o := by
 rw [p1q h, b3z h]; rfl
theorem y1x {l : List Ob} (hI : ∀ o ∈ l, IsOb o) (hl : bsB l l.length ≤ 40) : ∀ k, k ≤ l.length → IsOb ⟨f9q l k, prsT l k⟩
 | 0, _ => by
  have := y0z (ls := []) (M := fun _ _ => false) (by simp) (by simp) (fun _ _ h => by cases h)
  simpa [f9q, prsT, f6q] using this
 | k + 1, hk => by
  obtain ⟨o, ho⟩ : ∃ o, l[k]? = some o := ⟨_, List.getElem?_eq_getElem hk⟩
  have h1 := f0z ho hk
  rw [bs_step ho]
  exact s0q (y1x hI hl k (by omega)) (hI o (List.mem_of_getElem? ho)) (by unfold bsB at h1 hl; simp only; omega)
end Go.Proofs

open Go Go.V
namespace Go.Proofs
structure Ar where
 fr : Int
 to : Int
 mp : List Int
structure Dia where
 nodes : List Ob
 arrs : List Ar
def noOb : Ob := ⟨[], []⟩
def nodeAt (d : Dia) (z : Int) : Ob := d.nodes.getD z.toNat noOb
def m5q (d : Dia) (z : Int) : Bool := decide (0 ≤ z) && decide (z < (d.nodes.length : Int))
def arOK (d : Dia) (x : Ar) : Bool := m5q d x.fr && (m5q d x.to && arrS (nodeAt d x.fr) (nodeAt d x.to) x.mp)
def diaS (d : Dia) : Bool := decide (d.nodes.length ≤ 6) && (decide (d.arrs.length ≤ 8) && ((d.nodes.all fun o => c3q o == 0) && d.arrs.all (arOK d)))
def bigD (d : Dia) : Bool := decide (6 < d.nodes.length) || (decide (8 < d.arrs.length) || j5q d.nodes)
def colF (d : Dia) : Nat → List Int
 | 0 => []
 | k + 1 => colF d k ++ (match d.arrs[k]? with | some x => legT x.mp.length (bsB d.nodes x.fr.toNat) | none => [])
def colG (d : Dia) : Nat → List Int
 | 0 => []
 | k + 1 => colG d k ++ (match d.arrs[k]? with | some x => x.mp.map (fun w => ((bsB d.nodes x.to.toNat : Nat) : Int) + w) | none => [])
def i3q (d : Dia) : List Int := gPl (bsB d.nodes d.nodes.length) (colF d d.arrs.length) (colG d d.arrs.length)
def g4q (d : Dia) : List (List Int) := (k8q d.nodes d.nodes.length).map fun g => (thenS g (i3q d)).1
def colS (d : Dia) : Ob × List (List Int) × Int := if bigD d = true then (noOb, [], 11) else if diaS d = false then (noOb, [], 10) else (h3q (bsS d.nodes) (i3q d), g4q d, 0)
def alS (d : Dia) (legs : List (List Int)) (x : Ar) : Bool := (thenS x.mp (legs.getD x.to.toNat [])).2 && ((thenS x.mp (legs.getD x.to.toNat [])).1 == legs.getD x.fr.toNat [])
def k9q (d : Dia) (t : Ob) (legs : List (List Int)) : Bool := diaS d && ((c3q t == 0) && (decide (legs.length = d.nodes.length) && (((List.range d.nodes.length).all fun k => arrS (d.nodes.getD k noOb) t (legs.getD k [])) && d.arrs.all (alS d legs))))
def medD (d : Dia) (t : Ob) (legs : List (List Int)) : List Int × Int :=
 if (colS d).2.2 ≠ 0 then ([], (colS d).2.2) else if 40 < t.labels.length then ([], 11) else if k9q d t legs = false then ([], 12) else (outS (colS d).1.labels.length (colS d).2.1 legs, 0)
theorem s5q {o : Ob} : (c3q o == 0) = true ↔ IsOb o := by
 constructor
 ·intro h
  by_cases ha : arrS ⟨[], []⟩ o [] = true
  ·exact (b4q.1 ha).2.1
  ·exfalso; apply ha
   simp only [arrS, h, Bool.and_eq_true]
   exact ⟨by decide, trivial, by simp [allY]⟩
 ·intro h
  have := p7x h
  simp only [arrS, Bool.and_eq_true] at this
  exact this.1
theorem u3z (l : List Ob) : ∀ k, k ≤ l.length → sumT l k = bsB l k
 | 0, _ => rfl
 | k + 1, hk => by
  obtain ⟨o, ho⟩ : ∃ o, l[k]? = some o := ⟨_, List.getElem?_eq_getElem hk⟩
  rw [a1z ho, ← u3z l k (by omega), m5z ho]
structure DiaOK (d : Dia) : Prop where
 n : d.nodes.length ≤ 6
 m : d.arrs.length ≤ 8
 ob : ∀ o ∈ d.nodes, IsOb o
 ar : ∀ x ∈ d.arrs, ∃ a b, 0 ≤ x.fr ∧ d.nodes[x.fr.toNat]? = some a ∧ 0 ≤ x.to ∧ d.nodes[x.to.toNat]? = some b ∧ arrS a b x.mp = true
theorem m6z {d : Dia} {z : Int} : m5q d z = true ↔ 0 ≤ z ∧ z < (d.nodes.length : Int) := by simp [m5q]
theorem t1q {d : Dia} {z : Int} {o : Ob} (h : d.nodes[z.toNat]? = some o) : nodeAt d z = o := by unfold nodeAt; rw [List.getD_eq_getElem?_getD, h]; rfl
theorem d3z {d : Dia} : diaS d = true ↔ DiaOK d := by
 simp only [diaS, Bool.and_eq_true, decide_eq_true_eq, List.all_eq_true, s5q, arOK, m6z]
 constructor
 ·rintro ⟨h1, h2, h3, h4⟩
  refine ⟨h1, h2, h3, fun x hx => ?_⟩
  obtain ⟨⟨f0, f1⟩, ⟨t0, t1⟩, ha⟩ := h4 x hx
  obtain ⟨a, hA⟩ : ∃ a, d.nodes[x.fr.toNat]? = some a := ⟨_, List.getElem?_eq_getElem (by omega)⟩
  obtain ⟨b, hB⟩ : ∃ b, d.nodes[x.to.toNat]? = some b := ⟨_, List.getElem?_eq_getElem (by omega)⟩
  rw [t1q hA, t1q hB] at ha
  exact ⟨a, b, f0, hA, t0, hB, ha⟩
 ·rintro ⟨h1, h2, h3, h4⟩
  refine ⟨h1, h2, h3, fun x hx => ?_⟩
  obtain ⟨a, b, f0, hA, t0, hB, ha⟩ := h4 x hx
  rw [t1q hA, t1q hB]
  have f1 := (List.getElem?_eq_some_iff.1 hA).1
  have t1 := (List.getElem?_eq_some_iff.1 hB).1
  exact ⟨⟨f0, by omega⟩, ⟨t0, by omega⟩, ha⟩
theorem w2q {d : Dia} {k : Nat} {x : Ar} (h : d.arrs[k]? = some x) : colF d (k + 1) = colF d k ++ legT x.mp.length (bsB d.nodes x.fr.toNat) := by simp only [colF, h]
theorem a3z {d : Dia} {k : Nat} {x : Ar} (h : d.arrs[k]? = some x) : colG d (k + 1) = colG d k ++ x.mp.map (fun w => ((bsB d.nodes x.to.toNat : Nat) : Int) + w) := by simp only [colG, h]
theorem u6q (n b : Nat) : (legT n b).length = n := by simp [legT]
theorem u5q {n b i : Nat} (h : i < n) : (legT n b)[i]? = some (((b + i : Nat)) : Int) := by simp [legT, h]
theorem s0z (d : Dia) : ∀ k, k ≤ d.arrs.length → (colF d k).length = (colG d k).length
 | 0, _ => rfl
 | k + 1, h => by
  obtain ⟨x, hx⟩ : ∃ x, d.arrs[k]? = some x := ⟨_, List.getElem?_eq_getElem h⟩
  rw [w2q hx, a3z hx, List.length_append, List.length_append, s0z d k (by omega), u6q, List.length_map]
theorem n2x (d : Dia) : ∀ k, k ≤ d.arrs.length → ∀ (i : Nat) (y z : Int), (colF d k)[i]? = some y → (colG d k)[i]? = some z → ∃ x ∈ d.arrs, ∃ (t : Nat) (w : Int), x.mp[t]? = some w ∧ y = ((bsB d.nodes x.fr.toNat + t : Nat) : Int) ∧ z = ((bsB d.nodes x.to.toNat : Nat) : Int) + w
 | 0, _, i, y, z, hy, _ => by simp [colF] at hy
 | k + 1, h, i, y, z, hy, hz => by
  obtain ⟨x, hx⟩ : ∃ x, d.arrs[k]? = some x := ⟨_, List.getElem?_eq_getElem h⟩
  have hl := s0z d k (by omega)
  rw [w2q hx] at hy
  rw [a3z hx] at hz
  by_cases hi : i < (colF d k).length
  ·rw [List.getElem?_append_left hi] at hy
   rw [List.getElem?_append_left (by omega)] at hz
   exact n2x d k (by omega) i y z hy hz
  ·rw [List.getElem?_append_right (by omega)] at hy
   rw [List.getElem?_append_right (by omega), ← hl, List.getElem?_map] at hz
   obtain ⟨w, hw, rfl⟩ := Option.map_eq_some_iff.1 hz
   have ht := (List.getElem?_eq_some_iff.1 hw).1
   rw [u5q ht] at hy; cases hy
   exact ⟨x, List.mem_of_getElem? hx, _, w, hw, rfl, rfl⟩
theorem y8x (d : Dia) {j k : Nat} (h : j ≤ k) (hk : k ≤ d.arrs.length) {i : Nat} {y z : Int} (hy : (colF d j)[i]? = some y) (hz : (colG d j)[i]? = some z) : (colF d k)[i]? = some y ∧ (colG d k)[i]? = some z := by
 induction h with
 | refl => exact ⟨hy, hz⟩
 | step _ ih =>
  rename_i m _
  obtain ⟨h1, h2⟩ := ih (by omega)
  obtain ⟨x, hx⟩ : ∃ x, d.arrs[m]? = some x := ⟨_, List.getElem?_eq_getElem hk⟩
  rw [w2q hx, a3z hx, List.getElem?_append_left (List.getElem?_eq_some_iff.1 h1).1, List.getElem?_append_left (List.getElem?_eq_some_iff.1 h2).1]
  exact ⟨h1, h2⟩
theorem n3x {d : Dia} {k : Nat} {x : Ar} (hk : d.arrs[k]? = some x) {t : Nat} {w : Int} (hw : x.mp[t]? = some w) : (colF d d.arrs.length)[(colF d k).length + t]? = some ((bsB d.nodes x.fr.toNat + t : Nat) : Int) ∧ (colG d d.arrs.length)[(colF d k).length + t]? = some (((bsB d.nodes x.to.toNat : Nat) : Int) + w) := by
 have hkl := (List.getElem?_eq_some_iff.1 hk).1
 have hl := s0z d k (by omega)
 have ht := (List.getElem?_eq_some_iff.1 hw).1
 refine y8x d (show k + 1 ≤ d.arrs.length from hkl) (Nat.le_refl _) ?_ ?_
 ·rw [w2q hk, List.getElem?_append_right (by omega), show (colF d k).length + t - (colF d k).length = t by omega, u5q ht]
 ·rw [a3z hk, List.getElem?_append_right (by omega), show (colF d k).length + t - (colG d k).length = t by omega, List.getElem?_map, hw]; rfl
theorem col_at (d : Dia) {x : Ar} (hx : x ∈ d.arrs) {t : Nat} {w : Int} (hw : x.mp[t]? = some w) : ∃ i : Nat, (colF d d.arrs.length)[i]? = some ((bsB d.nodes x.fr.toNat + t : Nat) : Int) ∧ (colG d d.arrs.length)[i]? = some (((bsB d.nodes x.to.toNat : Nat) : Int) + w) := by
 obtain ⟨k, hk⟩ := List.getElem?_of_mem hx
 exact ⟨_, n3x hk hw⟩
theorem r3z (l : List Ob) : (bsS l).labels.length = bsB l l.length := rfl
theorem f1j {l : List Ob} {k : Nat} {o : Ob} (h : l[k]? = some o) {x : Nat} (hx : x < o.labels.length) : (bsS l).labels.getD (bsB l k + x) ByteArray.empty = o.labels.getD x ByteArray.empty := by
 have := c3x h (List.getElem?_eq_some_iff.1 h).1 (List.getElem?_eq_getElem hx)
 rw [List.getD_eq_getElem?_getD, List.getD_eq_getElem?_getD, List.getElem?_eq_getElem hx]
 exact congrArg (fun o => Option.getD o _) this
variable {d : Dia}
theorem DiaOK.gl (h : DiaOK d) (hl : bsB d.nodes d.nodes.length ≤ 40) : GlOK (bsS d.nodes) (colF d d.arrs.length) (colG d d.arrs.length) := by
 have key : ∀ (i : Nat) (y z : Int), (colF d d.arrs.length)[i]? = some y → (colG d d.arrs.length)[i]? = some z → (0 ≤ y ∧ y < ((bsB d.nodes d.nodes.length : Nat) : Int)) ∧ (0 ≤ z ∧ z < ((bsB d.nodes d.nodes.length : Nat) : Int)) ∧ ((bsS d.nodes).labels.getD y.toNat ByteArray.empty).toList = ((bsS d.nodes).labels.getD z.toNat ByteArray.empty).toList := fun i y z hy hz => by
  obtain ⟨x, hx, t, w, hw, rfl, rfl⟩ := n2x d _ (Nat.le_refl _) i y z hy hz
  obtain ⟨a, b, f0, hA, t0, hB, ha⟩ := h.ar x hx
  have ma := (b4q.1 ha).2.2.1
  have la := c1q ma
  have bw := f8q ma w (List.mem_of_getElem? hw)
  have ht := (List.getElem?_eq_some_iff.1 hw).1
  have e1 := f0z hA (List.getElem?_eq_some_iff.1 hA).1
  have e2 := f0z hB (List.getElem?_eq_some_iff.1 hB).1
  refine ⟨⟨by omega, by omega⟩, ⟨by omega, by omega⟩, ?_⟩
  rw [Int.toNat_natCast, show (((bsB d.nodes x.to.toNat : Nat) : Int) + w).toNat = bsB d.nodes x.to.toNat + w.toNat by omega, f1j hA (by omega), f1j hB (by omega)]
  exact (p5z ha hw).symm
 have hln := s0z d _ (Nat.le_refl _)
 refine ⟨y1x h.ob hl _ (Nat.le_refl _), fun y hy => ?_, fun z hz => ?_, hln, fun k y z hy hz => (key k y z hy hz).2.2⟩
 ·obtain ⟨i, hi⟩ := List.getElem?_of_mem hy
  have := (List.getElem?_eq_some_iff.1 hi).1
  obtain ⟨z, hz⟩ : ∃ z, (colG d d.arrs.length)[i]? = some z := ⟨_, List.getElem?_eq_getElem (by omega)⟩
  exact (key i y z hi hz).1
 ·obtain ⟨i, hi⟩ := List.getElem?_of_mem hz
  have := (List.getElem?_eq_some_iff.1 hi).1
  obtain ⟨y, hy⟩ : ∃ y, (colF d d.arrs.length)[i]? = some y := ⟨_, List.getElem?_eq_getElem (by omega)⟩
  exact (key i y z hy hi).2.1
theorem k5z {l : List Ob} : ∀ n, n ≤ l.length → ∀ {k : Nat} {o : Ob}, k < n → l[k]? = some o → (k8q l n)[k]? = some (legT o.labels.length (bsB l k))
 | 0, _, k, o, h, _ => by omega
 | n + 1, hn, k, o, h, ho => by
  obtain ⟨p, hp⟩ : ∃ p, l[n]? = some p := ⟨_, List.getElem?_eq_getElem hn⟩
  have hll := i9q l n (by omega)
  rw [d7z hp]
  by_cases hk : k < n
  ·rw [List.getElem?_append_left (by omega)]; exact k5z n (by omega) hk ho
  ·have : k = n := by omega
   subst this
   rw [ho] at hp; cases hp
   rw [List.getElem?_append_right (by omega), hll, Nat.sub_self]; rfl
theorem n0q : (g4q d).length = d.nodes.length := by unfold g4q; rw [List.length_map, i9q _ _ (Nat.le_refl _)]
theorem DiaOK.leg (h : DiaOK d) (hl : bsB d.nodes d.nodes.length ≤ 40) {k : Nat} {o : Ob} (ho : d.nodes[k]? = some o) :
 ∃ g, (g4q d)[k]? = some g ∧ g.length = o.labels.length ∧ thenS (legT o.labels.length (bsB d.nodes k)) (i3q d) = (g, true) ∧ ∀ x, x < o.labels.length → g[x]? = (i3q d)[bsB d.nodes k + x]? := by
 have hk := (List.getElem?_eq_some_iff.1 ho).1
 have e1 := f0z ho hk
 have hpl : (i3q d).length = bsB d.nodes d.nodes.length := (h.gl hl).len
 have ht : thenS (legT o.labels.length (bsB d.nodes k)) (i3q d) = ((legT o.labels.length (bsB d.nodes k)).map fun y => (i3q d).getD y.toNat 0, true) := h0q fun y hy => by
  obtain ⟨i, hi⟩ := List.getElem?_of_mem hy
  have hil := (List.getElem?_eq_some_iff.1 hi).1
  rw [u6q] at hil
  rw [u5q hil] at hi; cases hi
  exact ⟨by omega, by omega⟩
 refine ⟨(thenS (legT o.labels.length (bsB d.nodes k)) (i3q d)).1, by unfold g4q; rw [List.getElem?_map, k5z _ (Nat.le_refl _) hk ho]; rfl, ?_, ?_, fun x hx => ?_⟩
 ·rw [ht]; simp [legT]
 ·rw [ht]
 ·rw [ht, List.getElem?_map, u5q hx]
  simp only [Option.map_some, Int.toNat_natCast, List.getD_eq_getElem?_getD]
  rw [List.getElem?_eq_getElem (show bsB d.nodes k + x < (i3q d).length by omega)]; rfl
def wayW (ways : List (List Int)) (k : Nat) : List Int := (ways.take k).flatMap id
theorem a2x {ways : List (List Int)} {k : Nat} {w : List Int} (h : ways[k]? = some w) : wayW ways (k + 1) = wayW ways k ++ w := by
 unfold wayW; rw [List.take_add_one, h]; simp
theorem u7z {l : List Ob} {ways : List (List Int)} (hw : ∀ (k : Nat) (o : Ob), l[k]? = some o → ∃ w, ways[k]? = some w ∧ w.length = o.labels.length) : ∀ k, k ≤ l.length → (wayW ways k).length = bsB l k
 | 0, _ => rfl
 | k + 1, h => by
  obtain ⟨o, ho⟩ : ∃ o, l[k]? = some o := ⟨_, List.getElem?_eq_getElem h⟩
  obtain ⟨w, h1, h2⟩ := hw k o ho
  rw [a2x h1, List.length_append, u7z hw k (by omega), a1z ho, h2]
theorem a3x {l : List Ob} {ways : List (List Int)} (hw : ∀ (k : Nat) (o : Ob), l[k]? = some o → ∃ w, ways[k]? = some w ∧ w.length = o.labels.length) : ∀ n, n ≤ l.length → ∀ {k : Nat} {o : Ob} {w : List Int} {x : Nat}, k < n → l[k]? = some o → ways[k]? = some w → x < o.labels.length → (wayW ways n)[bsB l k + x]? = w[x]?
 | 0, _, k, o, w, x, h, _, _, _ => by omega
 | n + 1, hn, k, o, w, x, h, ho, hk, hx => by
  obtain ⟨p, hp⟩ : ∃ p, l[n]? = some p := ⟨_, List.getElem?_eq_getElem hn⟩
  obtain ⟨v, v1, v2⟩ := hw n p hp
  have hll := u7z hw n (by omega)
  rw [a2x v1]
  by_cases hkn : k < n
  ·have := f0z ho hkn
   rw [List.getElem?_append_left (by omega)]; exact a3x hw n (by omega) hkn ho hk hx
  ·have : k = n := by omega
   subst this
   rw [ho] at hp; cases hp
   rw [hk] at v1; cases v1
   rw [List.getElem?_append_right (by omega), hll, show bsB l k + x - bsB l k = x by omega]
theorem way_arr {l : List Ob} {t : Ob} {ways : List (List Int)} (hI : ∀ o ∈ l, IsOb o) (ht : IsOb t) (hl : bsB l l.length ≤ 40) (hw : ∀ (k : Nat) (o : Ob), l[k]? = some o → ∃ w, ways[k]? = some w ∧ arrS o t w = true) : arrS (bsS l) t (wayW ways l.length) = true := by
 have hw' : ∀ (k : Nat) (o : Ob), l[k]? = some o → ∃ w, ways[k]? = some w ∧ w.length = o.labels.length := fun k o ho => by
  obtain ⟨w, h1, h2⟩ := hw k o ho
  exact ⟨w, h1, c1q (b4q.1 h2).2.2.1⟩
 have hlen := u7z hw' l.length (Nat.le_refl _)
 refine z1q (y1x hI hl _ (Nat.le_refl _)) ht hlen (fun i y la hy hla => ?_) fun x y hm => ?_
 ·have hi := (List.getElem?_eq_some_iff.1 hla).1
  obtain ⟨k, o, x, h1, h2, h3, rfl⟩ := m4x l l.length (Nat.le_refl _) i hi
  obtain ⟨w, w1, w2⟩ := hw k o h2
  rw [a3x hw' _ (Nat.le_refl _) h1 h2 w1 h3] at hy
  have ho := List.getElem?_eq_getElem h3
  rw [show (bsS l).labels = f9q l l.length from rfl, c3x h2 h1 ho] at hla
  cases hla
  obtain ⟨lb, k1, k2, k3⟩ := j6q.1 (k5q (b4q.1 w2).2.2.1 hy ho)
  exact ⟨lb, k1, k2, k3⟩
 ·obtain ⟨k, o, u, v, h1, h2, rfl, rfl, h5⟩ := (bs_mx hI _ (Nat.le_refl _) x y).1 hm
  obtain ⟨w, w1, w2⟩ := hw k o h2
  obtain ⟨b1, b2⟩ := (hI o (List.mem_of_getElem? h2)).within _ _ h5
  obtain ⟨s, t', k1, k2, k3⟩ := o5q w2 h5
  exact ⟨s, t', by rw [a3x hw' _ (Nat.le_refl _) h1 h2 w1 b1]; exact k1, by rw [a3x hw' _ (Nat.le_refl _) h1 h2 w1 b2]; exact k2, k3⟩
theorem g0x {n : Nat} {L ways : List (List Int)} (hL : ∀ (k : Nat) (l : List Int), L[k]? = some l → ∃ w, ways[k]? = some w ∧ l.length = w.length) (h0 : ∀ l ∈ L, ∀ y ∈ l, (0 : Int) ≤ y) {v : Nat} {z : Int} (hv : v < n) :
 ∀ i, i ≤ L.length → (∀ (k : Nat) (l w : List Int) (x : Nat), k < i → L[k]? = some l → ways[k]? = some w → l[x]? = some (v : Int) → w[x]? = some z) → (∃ (k : Nat) (l : List Int) (x : Nat), k < i ∧ L[k]? = some l ∧ l[x]? = some (v : Int)) → (outK n L ways i)[v]? = some z
 | 0, _, _, h => by obtain ⟨k, _, _, h, _⟩ := h; omega
 | i + 1, hi, hc, h => by
  obtain ⟨l, hl⟩ : ∃ l, L[i]? = some l := ⟨_, List.getElem?_eq_getElem hi⟩
  obtain ⟨w, hw, hlw⟩ := hL i l hl
  rw [b0z hl hw hlw]
  refine i1z hlw l.length (Nat.le_refl _) v z (by rw [y2q]; exact hv) (fun x' _ hx' => hc i l w x' (by omega) hl hw hx') (h0 l (List.mem_of_getElem? hl)) ?_
  obtain ⟨k, l', x, h1, h2, h3⟩ := h
  by_cases hk : k = i
  ·subst hk
   rw [hl] at h2; cases h2
   exact .inl ⟨x, (List.getElem?_eq_some_iff.1 h3).1, h3⟩
  ·exact .inr (g0x hL h0 hv i (by omega) (fun k l w x hk => hc k l w x (by omega)) ⟨k, l', x, by omega, h2, h3⟩)
end Go.Proofs

open Go Go.V
namespace Go.Proofs
abbrev l4x (x : Ar) : List T := [TI x.fr, TI x.to, b0q x.mp]
abbrev tArs (l : List Ar) : T := .sl 3 (l.flatMap l4x)
abbrev vDia (d : Dia) : V := .agg [.t (l1q d.nodes), .t (tArs d.arrs)]
theorem q8q (l : List Ar) : (l.flatMap l4x).length = l.length * 3 := by
 induction l with
 | nil => rfl
 | cons a l ih => simp only [List.flatMap_cons, List.length_append, ih, List.length_cons, List.length_nil]; omega
theorem u7q (l : List Ar) : vlen (.t (tArs l)) = some l.length := by
 simp only [vlen, q8q]; congr 1; omega
theorem dropA {l : List Ar} {i : Nat} {x : Ar} (h : l[i]? = some x) : (((l.flatMap l4x).map V.t).drop (i * 3)).take 3 = [.t (TI x.fr), .t (TI x.to), .t (b0q x.mp)] := by
 induction l generalizing i with
 | nil => simp at h
 | cons a l ih =>
  cases i with
  | zero => simp at h; subst h; simp
  | succ i =>
   have := ih (i := i) (by simpa using h)
   rw [show (i + 1) * 3 = i * 3 + 3 by omega]
   simpa using this
structure DiaLim (d : Dia) : Prop where
 n : d.nodes.length < 1000000
 m : d.arrs.length < 1000000
 o1 : ∀ o ∈ d.nodes, o.labels.length < 1000000
 o2 : ∀ o ∈ d.nodes, o.pairs.length < 1000000
 a : ∀ x ∈ d.arrs, x.mp.length < 1000000
structure DiI (s : Sg) (d : Dia) (s' : Sg) : Prop where
 b : s'.m s.next = some (.box 62 [.t (l1q d.nodes), .t (tArs d.arrs)])
 same : ∀ j, j < s.next → s'.m j = s.m j
 nx : s.next < s'.next
theorem DiI.init (s : Sg) (d : Dia) : DiI s d (s.add (.box 62 [.t (l1q d.nodes), .t (tArs d.arrs)])) :=
 ⟨by rw [c5q, if_pos rfl], fun j hj => by rw [c5q, if_neg (by omega)], by rw [c9q]; omega⟩
theorem DiI.add {s : Sg} {d : Dia} {s' : Sg} (h : DiI s d s') (B : Blk) : DiI s d (s'.add B) :=
 ⟨by rw [c5q, if_neg (by have := h.nx; omega)]; exact h.b, fun j hj => by rw [c5q, if_neg (by have := h.nx; omega)]; exact h.same j hj, by rw [c9q]; have := h.nx; omega⟩
theorem DiI.set {s : Sg} {d : Dia} {s' : Sg} (h : DiI s d s') {x : Nat} (hx : s.next < x) (B : Blk) : DiI s d (s'.set x B) :=
 ⟨by rw [b6q, if_neg (by omega)]; exact h.b, fun j hj => by rw [b6q, if_neg (by omega)]; exact h.same j hj, h.nx⟩
theorem dia_n {d : Dia} (h : (d.nodes.length : Int) > 6) : diaS d = false := by
 have : ¬ d.nodes.length ≤ 6 := by omega
 simp [diaS, this]
theorem dia_m {d : Dia} (h : (d.arrs.length : Int) > 8) : diaS d = false := by
 have : ¬ d.arrs.length ≤ 8 := by omega
 simp [diaS, this]
theorem big_n {d : Dia} (h : (d.nodes.length : Int) > 6) : bigD d = true := by
 have : 6 < d.nodes.length := by omega
 simp [bigD, this]
theorem big_m {d : Dia} (h : (d.arrs.length : Int) > 8) : bigD d = true := by
 have : 8 < d.arrs.length := by omega
 simp [bigD, this]
theorem f0j {d : Dia} (h1 : ¬ (d.nodes.length : Int) > 6) (h2 : ¬ (d.arrs.length : Int) > 8) : bigD d = j5q d.nodes := by
 have h3 : ¬ 6 < d.nodes.length := by omega
 have h4 : ¬ 8 < d.arrs.length := by omega
 simp [bigD, h3, h4]
theorem dia_o {d : Dia} {k : Nat} {o : Ob} (h : d.nodes[k]? = some o) (h2 : (c3q o == 0) = false) : diaS d = false := by
 have : (d.nodes.all fun o => c3q o == 0) = false := List.all_eq_false.2 ⟨o, List.mem_of_getElem? h, by rw [h2]; decide⟩
 simp [diaS, this]
theorem dia_a {d : Dia} {k : Nat} {x : Ar} (h : d.arrs[k]? = some x) (h2 : arOK d x = false) : diaS d = false := by
 have : (d.arrs.all (arOK d)) = false := List.all_eq_false.2 ⟨x, List.mem_of_getElem? h, by rw [h2]; decide⟩
 simp [diaS, this]
theorem dia_ok {d : Dia} (h1 : ¬ (d.nodes.length : Int) > 6) (h2 : ¬ (d.arrs.length : Int) > 8) (h3 : ∀ (j : Nat) (o : Ob), j < d.nodes.length → d.nodes[j]? = some o → (c3q o == 0) = true) (h4 : ∀ (j : Nat) (x : Ar), j < d.arrs.length → d.arrs[j]? = some x → arOK d x = true) : diaS d = true := by
 simp only [diaS, Bool.and_eq_true, decide_eq_true_eq, List.all_eq_true]
 refine ⟨by omega, by omega, fun o ho => ?_, fun x hx => ?_⟩
 ·obtain ⟨j, hj⟩ := List.getElem?_of_mem ho
  exact h3 j o (List.getElem?_eq_some_iff.1 hj).1 hj
 ·obtain ⟨j, hj⟩ := List.getElem?_of_mem hx
  exact h4 j x (List.getElem?_eq_some_iff.1 hj).1 hj
set_option maxRecDepth 20000 in
theorem z8z (d : Dia) (z : Int) (hn : d.nodes.length < 1000000000) : g3q Tryd.prog 108 [vDia d, I z] (Bo (m5q d z)) := by
 refine b9q Tryd.func108 rfl fun s Q hQ => ?_
 obtain ⟨e, he, hl, h0, h1⟩ : ∃ e : Env, ([vDia d, I z] ++ List.replicate (Tryd.f108.ntmps - ([vDia d, I z] : List V).length) .junk) = e ∧ e.length = 14 ∧ ev e (.tmp 0) = vDia d ∧ ev e (.tmp 1) = I z := ⟨_, rfl, rfl, rfl, rfl⟩
 rw [he]
 clear he
 refine vsk fun K1 hK1 => ?_
 refine a3q 0 [] ?_
 simp only [bs, ↓vopx, ↓vop, a1q, flat, V.cells, h0, wocs, ↓goc, ↓woc, ↓a2q]
 refine hK1 _ _ ?_
 refine vsk fun K2 hK2 => ?_
 rcases Decidable.em (0 ≤ z) with ha | ha
 ·refine a3q 0 [] ?_
  simp only [bs, ↓vopx, ↓vop, Nat.reduceBEq, a1q, flat, Nat.reduceLT, a7q, a8q, opII, gtmp, hl, h1, wocs, ↓goc, ↓woc, ↓a2q, ↓g1q, Tryd.ag59, Tryd.fd62_0, Tryd.sz59, Tryd.un59, i5q, ha]
  refine hK2 _ _ ?_
  refine b3q ?_
  refine hQ _ _ _ (.inr rfl) (b2q ?_ fun n b hn h => by rw [c5q, if_neg (by omega)]; exact h)
  try simp only [a0q, lpv, hl, Nat.reduceLT]
  simp [m5q, ha]
 ·refine a3q 0 [] ?_
  simp only [bs, ↓vopx, ↓vop, Nat.reduceBEq, a1q, flat, Nat.reduceLT, opII, gtmp, hl, h1, wocs, ↓goc, ↓woc, ↓a2q, ↓o1q, ha]
  refine hK2 _ _ ?_
  refine b3q ?_
  refine hQ _ _ _ (.inr rfl) (b2q ?_ fun n b hn h => by rw [c5q, if_neg (by omega)]; exact h)
  try simp only [a0q, lpv, hl, Nat.reduceLT]
  simp [m5q, ha]
set_option maxRecDepth 20000 in
set_option maxHeartbeats 4000000 in
theorem k2z (d : Dia) (L : DiaLim d) : g3q Tryd.prog 82 [vDia d] (Bo (diaS d)) := by
 refine b9q Tryd.func82 rfl fun s Q hQ => ?_
 obtain ⟨e, he, hl, h0⟩ : ∃ e : Env, ([vDia d] ++ List.replicate (Tryd.f82.ntmps - ([vDia d] : List V).length) .junk) = e ∧ e.length = 66 ∧ ev e (.tmp 0) = vDia d := ⟨_, rfl, rfl, rfl⟩
 rw [he]
 clear he
 have Ln := L.n
 have Lm := L.m
 refine vsk fun K1 hK1 => ?_
 refine a3q 0 [] ?_
 simp only [bs, ↓vopx, ↓vop, a1q, flat, V.cells, h0, wocs, ↓goc, ↓woc, ↓a2q]
 refine hK1 _ _ ?_
 refine vsk fun K2 hK2 => ?_
 refine vsk fun K3 hK3 => ?_
 rcases (show (d.nodes.length : Int) > 6 ∨ (¬ (d.nodes.length : Int) > 6 ∧ (d.arrs.length : Int) > 8) ∨ (¬ (d.nodes.length : Int) > 6 ∧ ¬ (d.arrs.length : Int) > 8) by omega) with h6 | ⟨h6, h8⟩ | ⟨h6, h8⟩
 ·refine a3q 0 [] ?_
  simp only [bs, ↓vopx, ↓vop, Nat.reduceBEq, a1q, flat, Nat.reduceLT, a7q, a8q, opII, gtmp, hl, wocs, ↓goc, ↓woc, ↓a2q, ↓e8q, Tryd.ag59, Tryd.fd62_0, Tryd.sz59, Tryd.un59, i5q, nns, h6]
  refine hK3 _ _ ?_
  refine vck fun A B hA hB => ?_
  simp only [b5q, a0q, lpv, Nat.reduceLT, true_implies, reduceCtorEq, false_implies, and_true, hl]
  refine hA ?_
  clear hA hB A B
  refine vsk fun K4 hK4 => ?_
  refine a3q 0 [] ?_
  simp only [bs, ↓vopx, ↓vop, a1q, flat, wocs, ↓goc, ↓woc, ↓a2q]
  refine hK4 _ _ ?_
  refine b3q ?_
  rw [show diaS d = false from dia_n h6] at hQ
  refine hQ _ _ _ (.inr rfl) (b2q ?_ fun n b hn h => by rw [c5q, if_neg (by omega)]; exact h)
  try simp only [a0q, lpv, hl, Nat.reduceLT]
 ·refine a3q 0 [] ?_
  simp only [bs, ↓vopx, ↓vop, Nat.reduceBEq, a1q, flat, Nat.reduceLT, a7q, a8q, opII, gtmp, hl, wocs, ↓goc, ↓woc, ↓a2q, ↓d1q, Tryd.ag59, Tryd.ag60, Tryd.fd62_0, Tryd.fd62_1, Tryd.sz59, Tryd.sz60, Tryd.un59, Tryd.un60, i5q, u7q, nns, h6, h8]
  refine hK3 _ _ ?_
  refine vck fun A B hA hB => ?_
  simp only [b5q, a0q, lpv, Nat.reduceLT, true_implies, reduceCtorEq, false_implies, and_true, hl]
  refine hA ?_
  clear hA hB A B
  refine vsk fun K5 hK5 => ?_
  refine a3q 0 [] ?_
  simp only [bs, ↓vopx, ↓vop, a1q, flat, wocs, ↓goc, ↓woc, ↓a2q]
  refine hK5 _ _ ?_
  refine b3q ?_
  rw [show diaS d = false from dia_m h8] at hQ
  refine hQ _ _ _ (.inr rfl) (b2q ?_ fun n b hn h => by rw [c5q, if_neg (by omega)]; exact h)
  try simp only [a0q, lpv, hl, Nat.reduceLT]
 ·refine a3q 0 [] ?_
  simp only [bs, ↓vopx, ↓vop, Nat.reduceBEq, a1q, flat, Nat.reduceLT, a7q, a8q, opII, gtmp, hl, wocs, ↓goc, ↓woc, ↓a2q, ↓d1q, Tryd.ag59, Tryd.ag60, Tryd.fd62_0, Tryd.fd62_1, Tryd.sz59, Tryd.sz60, Tryd.un59, Tryd.un60, i5q, u7q, nns, h6, h8]
  refine hK3 _ _ ?_
  refine vck fun A B hA hB => ?_
  simp only [b5q, a0q, lpv, Nat.reduceLT, true_implies, reduceCtorEq, false_implies, true_and, hl]
  refine hB ?_
  clear hA hB A B
  refine b1q ?_
  refine hK2 _ _ ?_
  refine vsk fun K6 hK6 => ?_
  refine vsk fun K7 hK7 => ?_
  refine a3q 0 [] ?_
  simp only [bs, ↓vopx, ↓vop, Nat.reduceBEq, a1q, flat, Nat.reduceLT, a7q, a8q, hl, wocs, ↓goc, ↓woc, ↓a2q, Tryd.ag59, Tryd.fd62_0, Tryd.sz59, Tryd.un59, i5q, nns]
  refine hK7 _ _ ?_
  refine a5q ?_
  refine d0q (fun mm e' s' => ∃ k : Nat, mm = d.nodes.length - k ∧ k ≤ d.nodes.length ∧ e'.length = 66 ∧ ev e' (.tmp 1) = .ptr s.next 0 ∧ ev e' (.tmp 18) = .t (l1q d.nodes) ∧ ev e' (.tmp 19) = I d.nodes.length ∧ ev e' (.tmp 20) = I k ∧ DiI s d s' ∧ ∀ (j : Nat) (o : Ob), j < k → d.nodes[j]? = some o → (c3q o == 0) = true) (⟨0, rfl, Nat.zero_le _, ?_⟩) ?_
  ·try simp only [a0q, a4q, Nat.reduceBEq, lpv, hl, Nat.reduceLT, true_and]
   repeat ((with_reducible refine And.intro ?_ ?_); · trivial)
   exact ⟨DiI.init s d, fun j o hj _ => absurd hj (by omega)⟩
  rintro mm e s1 ⟨k, rfl, hle_k, hl, k1, k18, k19, h_k, hst, hal⟩
  refine vsk fun K8 hK8 => ?_
  refine a3q 0 [] ?_
  simp only [a1q, opII, k19, h_k, wocs, ↓goc, ↓woc]
  refine hK8 _ _ ?_
  refine vsk fun K9 hK9 => ?_
  refine vck fun A B hA hB => ?_
  simp only [b5q, a0q, Nat.reduceLT, decide_eq_true_eq, decide_eq_false_iff_not, hl]
  refine ⟨fun hc21 => hA ?_, fun hc21 => hB ?_⟩
  ·clear hA hB A B
   refine b1q ?_
   refine hK9 _ _ ?_
   refine vsk fun K10 hK10 => ?_
   refine a5q ?_
   refine vsk fun K11 hK11 => ?_
   have hlt : k < d.nodes.length := by omega
   obtain ⟨o, ho⟩ : ∃ o, d.nodes[k]? = some o := ⟨_, List.getElem?_eq_getElem hlt⟩
   have g0 := i0x ho
   have hfl := l7q d.nodes
   have hi2 : k * 2 < d.nodes.length * 2 := by omega
   refine a3q 0 [] ?_
   simp only [bs, Nat.reduceAdd, ↓vopx, ↓vop, Nat.reduceBEq, a1q, Nat.reduceLT, V.cells, a7q, a8q, hl, k18, h_k, wocs, ↓goc, ↓woc, ↓a2q, Tryd.ag25, Tryd.sz25, Tryd.un59, Tryd.zv25, g0, hfl, hi2]
   refine hK11 _ _ ?_
   refine vsk fun K12 hK12 => ?_
   refine d6q fun e2 sb hE2 hSb => ?_
   subst hE2
   have hIb : DiI s d sb := by rw [hSb]; exact (hst.add _).set hst.nx _
   have hbx : sb.m s1.next = some (.box 25 [.t (b7q o.labels), .t (a9q o.pairs)]) := by rw [hSb]; simp only [b6q, if_true]; try rfl
   clear hSb
   have o1 := L.o1 o (List.mem_of_getElem? ho)
   have o2 := L.o2 o (List.mem_of_getElem? ho)
   refine a3q 0 [.pur (Bo (c3q o == 0))] ?_
   simp only [bs, Nat.reduceAdd, ↓vopx, ↓vop, a1q, Nat.reduceLT, a7q, a8q, hl, wocs, ↓goc, ↓woc, ↓a2q, ↓c4q, a6q, Tryd.ag25, Tryd.sz25, hbx]
   repeat ((with_reducible refine And.intro ?_ ?_); · exact ⟨Tryd.is70, g2z o (by omega) (by omega)⟩)
   refine hK12 _ _ ?_
   refine vck fun A B hA hB => ?_
   simp only [b5q, a0q, lpv, Nat.reduceLT, Bool.not_eq_true', Bool.not_eq_false', beq_iff_eq, beq_eq_false_iff_ne, ne_eq, hl]
   refine ⟨fun hc26 => hA ?_, fun hc26 => hB ?_⟩
   ·clear hA hB A B
    refine vsk fun K13 hK13 => ?_
    refine a3q 0 [] ?_
    simp only [bs, ↓vopx, ↓vop, a1q, flat, wocs, ↓goc, ↓woc, ↓a2q]
    refine hK13 _ _ ?_
    refine b3q ?_
    rw [show diaS d = false from dia_o ho (by simp [hc26])] at hQ
    refine hQ _ _ _ (.inr rfl) (b2q ?_ fun n b hn h => (hIb.same n hn).trans h)
    try simp only [a0q, lpv, hl, Nat.reduceLT]
   ·clear hA hB A B
    refine b1q ?_
    refine hK10 _ _ ?_
    refine a3q 0 [] ?_
    simp only [bs, ↓vopx, ↓vop, Nat.reduceBEq, a1q, flat, Nat.reduceLT, opII, hl, k1, k18, k19, h_k, wocs, ↓goc, ↓woc, ↓a2q]
    repeat ((with_reducible refine And.intro ?_ ?_); · exact ⟨by omega, by omega⟩)
    refine ⟨d.nodes.length - (k + 1), by omega, k + 1, rfl, by omega, ?_⟩
    try simp only [a0q, a4q, Nat.reduceBEq, lpv, hl, k1, k18, k19, h_k, if_true, if_false, Nat.reduceEqDiff, Nat.reduceLT, true_and, and_true]
    repeat ((with_reducible refine And.intro ?_ ?_); · trivial)
    intro j o2 hj ho2
    rcases Nat.lt_succ_iff_lt_or_eq.1 hj with h | h
    ·exact hal j o2 h ho2
    ·subst h; rw [ho] at ho2; cases ho2; simp [hc26]
  ·clear hA hB A B
   have hka : k = d.nodes.length := by omega
   refine c8q ?_
   simp only [a1q, c0q, if_true]
   refine hK6 _ _ ?_
   refine vsk fun K14 hK14 => ?_
   refine vsk fun K15 hK15 => ?_
   have hb62 := hst.b
   refine a3q 0 [] ?_
   simp only [bs, ↓vopx, ↓vop, Nat.reduceBEq, a1q, flat, Nat.reduceLT, a7q, a8q, hl, k1, wocs, ↓goc, ↓woc, ↓a2q, Tryd.ag60, Tryd.fd62_1, Tryd.sz60, Tryd.un60, u7q, nns, hb62]
   refine hK15 _ _ ?_
   refine a5q ?_
   refine d0q (fun mm e' s' => ∃ k : Nat, mm = d.arrs.length - k ∧ k ≤ d.arrs.length ∧ e'.length = 66 ∧ ev e' (.tmp 1) = .ptr s.next 0 ∧ ev e' (.tmp 29) = .t (tArs d.arrs) ∧ ev e' (.tmp 30) = I d.arrs.length ∧ ev e' (.tmp 31) = I k ∧ DiI s d s' ∧ ∀ (j : Nat) (x : Ar), j < k → d.arrs[j]? = some x → arOK d x = true) (⟨0, rfl, Nat.zero_le _, ?_⟩) ?_
   ·try simp only [a0q, a4q, Nat.reduceBEq, lpv, hl, k1, Nat.reduceLT, true_and]
    repeat ((with_reducible refine And.intro ?_ ?_); · trivial)
    exact fun j x hj _ => absurd hj (by omega)
   rintro mm e s1 ⟨k, rfl, hle_k, hl, k1, k29, k30, h_k, hst, hal2⟩
   refine vsk fun K16 hK16 => ?_
   refine a3q 0 [] ?_
   simp only [a1q, opII, k30, h_k, wocs, ↓goc, ↓woc]
   refine hK16 _ _ ?_
   refine vsk fun K17 hK17 => ?_
   refine vck fun A B hA hB => ?_
   simp only [b5q, a0q, Nat.reduceLT, decide_eq_true_eq, decide_eq_false_iff_not, hl]
   refine ⟨fun hc32 => hA ?_, fun hc32 => hB ?_⟩
   ·clear hA hB A B
    refine b1q ?_
    refine hK17 _ _ ?_
    refine vsk fun K18 hK18 => ?_
    refine a5q ?_
    refine vsk fun K19 hK19 => ?_
    have hlt : k < d.arrs.length := by omega
    obtain ⟨x, hx⟩ : ∃ x, d.arrs[k]? = some x := ⟨_, List.getElem?_eq_getElem hlt⟩
    have g0 := dropA hx
    have hfl := q8q d.arrs
    have hi2 : k * 3 < d.arrs.length * 3 := by omega
    refine a3q 0 [] ?_
    simp only [bs, Nat.reduceAdd, ↓vopx, ↓vop, Nat.reduceBEq, a1q, Nat.reduceLT, V.cells, a7q, a8q, hl, k29, h_k, wocs, ↓goc, ↓woc, ↓a2q, Tryd.ag72, Tryd.sz72, Tryd.un60, Tryd.zv72, g0, hfl, hi2]
    refine hK19 _ _ ?_
    refine vsk fun K20 hK20 => ?_
    refine d6q fun e2 sb hE2 hSb => ?_
    subst hE2
    have hIb : DiI s d sb := by rw [hSb]; exact (hst.add _).set hst.nx _
    have hbx : sb.m s1.next = some (.box 72 [.t (TI x.fr), .t (TI x.to), .t (b0q x.mp)]) := by rw [hSb]; simp only [b6q, if_true]; try rfl
    clear hSb
    have hb62 := hIb.b
    have la := L.a x (List.mem_of_getElem? hx)
    rcases (show m5q d x.fr = false ∨ (m5q d x.fr = true ∧ m5q d x.to = false) ∨ (m5q d x.fr = true ∧ m5q d x.to = true) by cases m5q d x.fr <;> cases m5q d x.to <;> simp) with q1 | ⟨q1, q2⟩ | ⟨q1, q2⟩
    ·refine d2q Tryd.mixed 27 [1, 0, 1, 0, 0, 0, 1, 0, 1, 0, 0, 0, 0, 0, 1, 0, 1, 1, 1, 0, 1, 0, 1, 1, 1, 0, 1] [.pur (Bo (m5q d x.fr))] [] 0 (by decide +kernel) (by simp [lpv, hl]) rfl ?_
     simp only [bs, Nat.reduceAdd, ↓vopx, ↓vop, Nat.reduceBEq, a1q, flat, Nat.reduceLT, a7q, a8q, gtmp, hl, k1, wocs, ↓goc, ↓woc, ↓a2q, ↓e7q, ↓c4q, ↓e8q, a6q, chn, ↓goq, ↓woq, ↓g1z, List.zip_cons_cons, List.zip_nil_right, Tryd.ag3, Tryd.ag62, Tryd.fd72_0, Tryd.sz3, Tryd.sz62, nns, hbx, hb62, q1]
     repeat ((with_reducible refine And.intro ?_ ?_); · exact ⟨Tryd.is108, by simpa only [q1] using z8z d x.fr (by omega)⟩)
     refine hK20 _ _ ?_
     refine vck fun A B hA hB => ?_
     simp only [b5q, a0q, lpv, Nat.reduceLT, true_implies, reduceCtorEq, false_implies, and_true, hl]
     refine hA ?_
     clear hA hB A B
     refine vsk fun K21 hK21 => ?_
     refine a3q 0 [] ?_
     simp only [bs, ↓vopx, ↓vop, a1q, flat, wocs, ↓goc, ↓woc, ↓a2q]
     refine hK21 _ _ ?_
     refine b3q ?_
     rw [show diaS d = false from dia_a hx (by simp [arOK, q1])] at hQ
     refine hQ _ _ _ (.inr rfl) (b2q ?_ fun n b hn h => (hIb.same n hn).trans h)
     try simp only [a0q, lpv, hl, Nat.reduceLT]
    ·refine d2q Tryd.mixed 27 [1, 0, 1, 0, 0, 0, 1, 0, 1, 0, 0, 0, 0, 0, 1, 0, 1, 1, 1, 0, 1, 0, 1, 1, 1, 0, 1] [.pur (Bo (m5q d x.fr)), .pur (Bo (m5q d x.to))] [] 0 (by decide +kernel) (by simp [lpv, hl]) rfl ?_
     simp only [bs, Nat.reduceAdd, ↓vopx, ↓vop, Nat.reduceBEq, a1q, flat, Nat.reduceLT, a7q, a8q, gtmp, hl, k1, wocs, ↓goc, ↓woc, ↓a2q, ↓e7q, ↓c4q, ↓d1q, ↓e8q, a6q, chn, ↓goq, ↓woq, ↓g1z, List.zip_cons_cons, List.zip_nil_right, Tryd.ag3, Tryd.ag62, Tryd.fd72_0, Tryd.fd72_1, Tryd.sz3, Tryd.sz62, nns, hbx, hb62, q1, q2]
     repeat ((with_reducible refine And.intro ?_ ?_); · first | exact ⟨Tryd.is108, by simpa only [q1] using z8z d x.fr (by omega)⟩ | exact ⟨Tryd.is108, by simpa only [q2] using z8z d x.to (by omega)⟩)
     refine hK20 _ _ ?_
     refine vck fun A B hA hB => ?_
     simp only [b5q, a0q, lpv, Nat.reduceLT, true_implies, reduceCtorEq, false_implies, and_true, hl]
     refine hA ?_
     clear hA hB A B
     refine vsk fun K22 hK22 => ?_
     refine a3q 0 [] ?_
     simp only [bs, ↓vopx, ↓vop, a1q, flat, wocs, ↓goc, ↓woc, ↓a2q]
     refine hK22 _ _ ?_
     refine b3q ?_
     rw [show diaS d = false from dia_a hx (by simp [arOK, q2])] at hQ
     refine hQ _ _ _ (.inr rfl) (b2q ?_ fun n b hn h => (hIb.same n hn).trans h)
     try simp only [a0q, lpv, hl, Nat.reduceLT]
    ·have i1 := m6z.1 q1
     have i2 := m6z.1 q2
     obtain ⟨a, hA⟩ : ∃ a, d.nodes[x.fr.toNat]? = some a := ⟨_, List.getElem?_eq_getElem (by omega)⟩
     obtain ⟨b, hB⟩ : ∃ b, d.nodes[x.to.toNat]? = some b := ⟨_, List.getElem?_eq_getElem (by omega)⟩
     have g1 := i0x hA
     have g2 := i0x hB
     have hfl := l7q d.nodes
     have j1 : x.fr.toNat * 2 < d.nodes.length * 2 := by omega
     have j2 : x.to.toNat * 2 < d.nodes.length * 2 := by omega
     have a1 := L.o1 a (List.mem_of_getElem? hA)
     have a2 := L.o2 a (List.mem_of_getElem? hA)
     have b1 := L.o1 b (List.mem_of_getElem? hB)
     have b2 := L.o2 b (List.mem_of_getElem? hB)
     have hok : arOK d x = arrS a b x.mp := by simp [arOK, q1, q2, t1q hA, t1q hB]
     refine d2q Tryd.mixed 27 [1, 0, 1, 0, 0, 0, 1, 0, 1, 0, 0, 0, 0, 0, 1, 0, 1, 1, 1, 0, 1, 0, 1, 1, 1, 0, 1] [.pur (Bo (m5q d x.fr)), .pur (Bo (m5q d x.to)), .pur (Bo (arrS a b x.mp))] [] 0 (by decide +kernel) (by simp [lpv, hl]) rfl ?_
     simp only [bs, Nat.reduceAdd, ↓vopx, ↓vop, Nat.reduceBEq, a1q, flat, Nat.reduceLT, a7q, a8q, gtmp, hl, k1, wocs, ↓goc, ↓woc, ↓a2q, ↓e7q, ↓c4q, ↓d1q, a6q, chn, ↓goq, ↓woq, ↓g1z, List.zip_cons_cons, List.zip_nil_right, Tryd.ag25, Tryd.ag26, Tryd.ag3, Tryd.ag59, Tryd.ag62, Tryd.fd62_0, Tryd.fd72_0, Tryd.fd72_1, Tryd.fd72_2, Tryd.sz25, Tryd.sz26, Tryd.sz3, Tryd.sz59, Tryd.sz62, Tryd.un59, nns, hbx, hb62, q1, q2, g1, g2, hfl, j1, j2]
     repeat ((with_reducible refine And.intro ?_ ?_); · first | omega | exact ⟨Tryd.is108, by simpa only [q1] using z8z d x.fr (by omega)⟩ | exact ⟨Tryd.is108, by simpa only [q2] using z8z d x.to (by omega)⟩ | exact ⟨Tryd.is34, e9j a b x.mp (by omega) (by omega) (by omega) (by omega) (by omega)⟩)
     refine hK20 _ _ ?_
     refine vck fun A B hA hB => ?_
     simp only [b5q, a0q, lpv, Nat.reduceLT, Bool.not_eq_true', Bool.not_eq_false', hl]
     refine ⟨fun hc64 => hA ?_, fun hc64 => hB ?_⟩
     ·clear hA hB A B
      refine vsk fun K23 hK23 => ?_
      refine a3q 0 [] ?_
      simp only [bs, ↓vopx, ↓vop, a1q, flat, wocs, ↓goc, ↓woc, ↓a2q]
      refine hK23 _ _ ?_
      refine b3q ?_
      rw [show diaS d = false from dia_a hx (by rw [hok]; exact hc64)] at hQ
      refine hQ _ _ _ (.inr rfl) (b2q ?_ fun n b hn h => (hIb.same n hn).trans h)
      try simp only [a0q, lpv, hl, Nat.reduceLT]
     ·clear hA hB A B
      refine b1q ?_
      refine hK18 _ _ ?_
      refine a3q 0 [] ?_
      simp only [bs, ↓vopx, ↓vop, Nat.reduceBEq, a1q, flat, Nat.reduceLT, opII, hl, k1, k29, k30, h_k, wocs, ↓goc, ↓woc, ↓a2q]
      repeat ((with_reducible refine And.intro ?_ ?_); · exact ⟨by omega, by omega⟩)
      refine ⟨d.arrs.length - (k + 1), by omega, k + 1, rfl, by omega, ?_⟩
      try simp only [a0q, a4q, Nat.reduceBEq, lpv, hl, k1, k29, k30, h_k, if_true, if_false, Nat.reduceEqDiff, Nat.reduceLT, true_and, and_true]
      repeat ((with_reducible refine And.intro ?_ ?_); · trivial)
      intro j x2 hj hx2
      rcases Nat.lt_succ_iff_lt_or_eq.1 hj with h | h
      ·exact hal2 j x2 h hx2
      ·subst h; rw [hx] at hx2; cases hx2; rw [hok]; exact hc64
   ·clear hA hB A B
    have hkb : k = d.arrs.length := by omega
    refine c8q ?_
    simp only [a1q, c0q, if_true]
    refine hK14 _ _ ?_
    refine vsk fun K24 hK24 => ?_
    refine a3q 0 [] ?_
    simp only [bs, ↓vopx, ↓vop, a1q, flat, wocs, ↓goc, ↓woc, ↓a2q]
    refine hK24 _ _ ?_
    refine b3q ?_
    rw [dia_ok h6 h8 (by rw [← hka]; exact hal) (by rw [← hkb]; exact hal2)] at hQ
    refine hQ _ _ _ (.inr rfl) (b2q ?_ fun n b hn h => (hst.same n hn).trans h)
    try simp only [a0q, lpv, hl, Nat.reduceLT]
set_option maxRecDepth 20000 in
set_option maxHeartbeats 4000000 in
theorem bigD_ (d : Dia) (L : DiaLim d) : g3q Tryd.prog 83 [vDia d] (Bo (bigD d)) := by
 refine b9q Tryd.func83 rfl fun s Q hQ => ?_
 obtain ⟨e, he, hl, h0⟩ : ∃ e : Env, ([vDia d] ++ List.replicate (Tryd.f83.ntmps - ([vDia d] : List V).length) .junk) = e ∧ e.length = 31 ∧ ev e (.tmp 0) = vDia d := ⟨_, rfl, rfl, rfl⟩
 rw [he]
 clear he
 have Ln := L.n
 have Lm := L.m
 refine vsk fun K1 hK1 => ?_
 refine a3q 0 [] ?_
 simp only [bs, ↓vopx, ↓vop, a1q, flat, V.cells, h0, wocs, ↓goc, ↓woc, ↓a2q]
 refine hK1 _ _ ?_
 refine h1x ?_
 refine vsk fun K2 hK2 => ?_
 refine vsk fun K3 hK3 => ?_
 rcases (show (d.nodes.length : Int) > 6 ∨ (¬ (d.nodes.length : Int) > 6 ∧ (d.arrs.length : Int) > 8) ∨ (¬ (d.nodes.length : Int) > 6 ∧ ¬ (d.arrs.length : Int) > 8) by omega) with h6 | ⟨h6, h8⟩ | ⟨h6, h8⟩
 ·refine a3q 0 [] ?_
  simp only [bs, ↓vopx, ↓vop, Nat.reduceBEq, a1q, flat, Nat.reduceLT, a7q, a8q, opII, gtmp, hl, wocs, ↓goc, ↓woc, ↓a2q, ↓e8q, Tryd.ag59, Tryd.fd62_0, Tryd.sz59, Tryd.un59, i5q, nns, h6]
  refine hK3 _ _ ?_
  refine vck fun A B hA hB => ?_
  simp only [b5q, a0q, lpv, Nat.reduceLT, true_implies, reduceCtorEq, false_implies, and_true, hl]
  refine hA ?_
  clear hA hB A B
  refine vsk fun K4 hK4 => ?_
  refine a3q 0 [] ?_
  simp only [bs, ↓vopx, ↓vop, a1q, flat, wocs, ↓goc, ↓woc, ↓a2q]
  refine hK4 _ _ ?_
  refine b3q ?_
  change Q _ _ _
  rw [show bigD d = true from big_n h6] at hQ
  refine hQ _ _ _ (.inr rfl) (b2q ?_ fun n b hn h => by rw [c5q, if_neg (by omega)]; exact h)
  try simp only [a0q, lpv, hl, Nat.reduceLT]
 ·refine a3q 0 [] ?_
  simp only [bs, ↓vopx, ↓vop, Nat.reduceBEq, a1q, flat, Nat.reduceLT, a7q, a8q, opII, gtmp, hl, wocs, ↓goc, ↓woc, ↓a2q, ↓d1q, Tryd.ag59, Tryd.ag60, Tryd.fd62_0, Tryd.fd62_1, Tryd.sz59, Tryd.sz60, Tryd.un59, Tryd.un60, i5q, u7q, nns, h6, h8]
  refine hK3 _ _ ?_
  refine vck fun A B hA hB => ?_
  simp only [b5q, a0q, lpv, Nat.reduceLT, true_implies, reduceCtorEq, false_implies, and_true, hl]
  refine hA ?_
  clear hA hB A B
  refine vsk fun K5 hK5 => ?_
  refine a3q 0 [] ?_
  simp only [bs, ↓vopx, ↓vop, a1q, flat, wocs, ↓goc, ↓woc, ↓a2q]
  refine hK5 _ _ ?_
  refine b3q ?_
  change Q _ _ _
  rw [show bigD d = true from big_m h8] at hQ
  refine hQ _ _ _ (.inr rfl) (b2q ?_ fun n b hn h => by rw [c5q, if_neg (by omega)]; exact h)
  try simp only [a0q, lpv, hl, Nat.reduceLT]
 ·refine a3q 0 [] ?_
  simp only [bs, ↓vopx, ↓vop, Nat.reduceBEq, a1q, flat, Nat.reduceLT, a7q, a8q, opII, gtmp, hl, wocs, ↓goc, ↓woc, ↓a2q, ↓d1q, Tryd.ag59, Tryd.ag60, Tryd.fd62_0, Tryd.fd62_1, Tryd.sz59, Tryd.sz60, Tryd.un59, Tryd.un60, i5q, u7q, nns, h6, h8]
  refine hK3 _ _ ?_
  refine vck fun A B hA hB => ?_
  simp only [b5q, a0q, lpv, Nat.reduceLT, true_implies, reduceCtorEq, false_implies, true_and, hl]
  refine hB ?_
  clear hA hB A B
  refine b1q ?_
  refine hK2 _ _ ?_
  refine vsk fun K6 hK6 => ?_
  refine a3q 0 [] ?_
  simp only [bs, ↓vopx, ↓vop, a1q, flat, wocs, ↓goc, ↓woc, ↓a2q]
  refine hK6 _ _ ?_
  refine vsk fun K7 hK7 => ?_
  refine g9x ?_
  try simp only [a1q]
  refine hK7 _ _ ?_
  refine vsk fun K8 hK8 => ?_
  refine vsk fun K9 hK9 => ?_
  refine a3q 0 [] ?_
  simp only [bs, ↓vopx, ↓vop, Nat.reduceBEq, a1q, flat, Nat.reduceLT, a7q, a8q, hl, wocs, ↓goc, ↓woc, ↓a2q, Tryd.ag59, Tryd.fd62_0, Tryd.sz59, Tryd.un59, i5q, nns]
  refine hK9 _ _ ?_
  refine a5q ?_
  refine d0q (fun mm e' s' => ∃ k : Nat, mm = d.nodes.length - k ∧ k ≤ d.nodes.length ∧ e'.length = 31 ∧ ev e' (.tmp 1) = .ptr s.next 0 ∧ ev e' (.tmp 3) = I (40 - (sumT d.nodes k : Int)) ∧ ev e' (.tmp 17) = .t (l1q d.nodes) ∧ ev e' (.tmp 18) = I d.nodes.length ∧ ev e' (.tmp 19) = I k ∧ DiI s d s' ∧ sumT d.nodes k ≤ 40) (⟨0, rfl, Nat.zero_le _, ?_⟩) ?_
  ·try simp only [a0q, a4q, Nat.reduceBEq, lpv, hl, Nat.reduceLT, true_and]
   repeat ((with_reducible refine And.intro ?_ ?_); · trivial)
   exact ⟨DiI.init s d, by simp [sumT]⟩
  rintro mm e s1 ⟨k, rfl, hle_k, hl, k1, k3, k17, k18, h_k, hst, hsk⟩
  refine vsk fun K10 hK10 => ?_
  refine a3q 0 [] ?_
  simp only [a1q, opII, k18, h_k, wocs, ↓goc, ↓woc]
  refine hK10 _ _ ?_
  refine vsk fun K11 hK11 => ?_
  refine vck fun A B hA hB => ?_
  simp only [b5q, a0q, Nat.reduceLT, decide_eq_true_eq, decide_eq_false_iff_not, hl]
  refine ⟨fun hc20 => hA ?_, fun hc20 => hB ?_⟩
  ·clear hA hB A B
   refine b1q ?_
   refine hK11 _ _ ?_
   refine vsk fun K12 hK12 => ?_
   refine a5q ?_
   refine vsk fun K13 hK13 => ?_
   have hlt : k < d.nodes.length := by omega
   obtain ⟨o, ho⟩ : ∃ o, d.nodes[k]? = some o := ⟨_, List.getElem?_eq_getElem hlt⟩
   have g0 := i0x ho
   have hfl := l7q d.nodes
   have hi2 : k * 2 < d.nodes.length * 2 := by omega
   refine a3q 0 [] ?_
   simp only [bs, Nat.reduceAdd, ↓vopx, ↓vop, Nat.reduceBEq, a1q, Nat.reduceLT, V.cells, a7q, a8q, hl, k17, h_k, wocs, ↓goc, ↓woc, ↓a2q, Tryd.ag25, Tryd.sz25, Tryd.un59, Tryd.zv25, g0, hfl, hi2]
   refine hK13 _ _ ?_
   refine vsk fun K14 hK14 => ?_
   refine vsk fun K15 hK15 => ?_
   refine d6q fun e2 sb hE2 hSb => ?_
   subst hE2
   have hIb : DiI s d sb := by rw [hSb]; exact (hst.add _).set hst.nx _
   have hbx : sb.m s1.next = some (.box 25 [.t (b7q o.labels), .t (a9q o.pairs)]) := by rw [hSb]; simp only [b6q, if_true]; try rfl
   clear hSb
   have o1 := L.o1 o (List.mem_of_getElem? ho)
   have hss := m5z ho
   refine a3q 0 [] ?_
   simp only [bs, ↓vopx, ↓vop, Nat.reduceBEq, a1q, Nat.reduceLT, a7q, a8q, opII, hl, k3, wocs, ↓goc, ↓woc, ↓a2q, Tryd.ag22, Tryd.fd25_0, Tryd.sz22, Tryd.un22, c7q, nns, hbx]
   repeat ((with_reducible refine And.intro ?_ ?_); · exact ⟨by omega, by omega⟩)
   refine hK15 _ _ ?_
   refine vsk fun K16 hK16 => ?_
   refine a3q 0 [] ?_
   simp only [bs, ↓vopx, ↓vop, a1q, flat, Nat.reduceLT, opII, hl, wocs, ↓goc, ↓woc, ↓a2q]
   refine hK16 _ _ ?_
   refine vck fun A B hA hB => ?_
   simp only [b5q, a0q, lpv, Nat.reduceLT, decide_eq_true_eq, decide_eq_false_iff_not, hl]
   refine ⟨fun hc29 => hA ?_, fun hc29 => hB ?_⟩
   ·clear hA hB A B
    refine c8q ?_
    simp only [a1q, c0q, noGoto, if_true, if_false, reduceCtorEq]
    refine hK12 _ _ ?_
    refine a3q 0 [] ?_
    simp only [bs, ↓vopx, ↓vop, Nat.reduceBEq, a1q, flat, Nat.reduceLT, opII, hl, k1, k17, k18, h_k, wocs, ↓goc, ↓woc, ↓a2q]
    repeat ((with_reducible refine And.intro ?_ ?_); · exact ⟨by omega, by omega⟩)
    refine ⟨d.nodes.length - (k + 1), by omega, k + 1, rfl, by omega, ?_⟩
    try simp only [a0q, a4q, Nat.reduceBEq, lpv, hl, k1, k3, k17, k18, h_k, if_true, if_false, Nat.reduceEqDiff, Nat.reduceLT, true_and, and_true]
    exact ⟨by rw [hss, show (40 - ((sumT d.nodes k : Nat) : Int) - (o.labels.length : Int)) = 40 - ((sumT d.nodes k + o.labels.length : Nat) : Int) by omega], by push_cast; rfl, hIb, by rw [hss]; omega⟩
   ·clear hA hB A B
    refine b1q ?_
    refine hK14 _ _ ?_
    refine vsk fun K17 hK17 => ?_
    refine a3q 0 [] ?_
    simp only [bs, ↓vopx, ↓vop, a1q, flat, wocs, ↓goc, ↓woc, ↓a2q]
    refine hK17 _ _ ?_
    refine b3q ?_
    change Q _ _ _
    rw [show bigD d = true from by rw [f0j h6 h8]; have := sumT_le d.nodes (k + 1); rw [hss] at this; unfold j5q; simp only [decide_eq_true_eq]; omega] at hQ
    refine hQ _ _ _ (.inr rfl) (b2q ?_ fun n b hn h => (hIb.same n hn).trans h)
    try simp only [a0q, lpv, hl, Nat.reduceLT]
  ·clear hA hB A B
   have hka : k = d.nodes.length := by omega
   refine c8q ?_
   simp only [a1q, c0q, noGoto, if_true]
   refine hK8 _ _ ?_
   refine vsk fun K18 hK18 => ?_
   refine a3q 0 [] ?_
   simp only [bs, ↓vopx, ↓vop, a1q, flat, wocs, ↓goc, ↓woc, ↓a2q]
   refine hK18 _ _ ?_
   refine b3q ?_
   change Q _ _ _
   rw [show bigD d = false from by rw [f0j h6 h8]; unfold j5q; rw [← hka]; simp only [decide_eq_false_iff_not]; omega] at hQ
   refine hQ _ _ _ (.inr rfl) (b2q ?_ fun n b hn h => (hst.same n hn).trans h)
   try simp only [a0q, lpv, hl, Nat.reduceLT]
end Go.Proofs

open Go Go.V
namespace Go.Proofs
def vCol (r : Ob × List (List Int) × Int) : V := .tup [vObj r.1, .t (tMat r.2.1), I r.2.2]
def mixL (d : Dia) (pl : List Int) (j : Nat) : List (List Int) := ((k8q d.nodes d.nodes.length).take j).map (fun g => (thenS g pl).1) ++ (k8q d.nodes d.nodes.length).drop j
theorem f2x (d : Dia) (pl : List Int) (j : Nat) : (mixL d pl j).length = d.nodes.length := by
 have := i9q d.nodes d.nodes.length (Nat.le_refl _)
 simp [mixL]; omega
theorem mixL_at {d : Dia} {pl : List Int} {j : Nat} {g : List Int} (h : (k8q d.nodes d.nodes.length)[j]? = some g) : (mixL d pl j)[j]? = some g := by
 have hl := (List.getElem?_eq_some_iff.1 h).1
 unfold mixL
 rw [List.getElem?_append_right (by simp; omega), List.length_map, List.length_take, Nat.min_eq_left (by omega), Nat.sub_self, List.getElem?_drop]; exact h
theorem b1j {d : Dia} {pl : List Int} {j : Nat} {g : List Int} (h : (k8q d.nodes d.nodes.length)[j]? = some g) : (mixL d pl j).set j (thenS g pl).1 = mixL d pl (j + 1) := by
 have hl := (List.getElem?_eq_some_iff.1 h).1
 unfold mixL
 rw [List.set_append_right _ _ (by simp; omega), List.length_map, List.length_take, Nat.min_eq_left (by omega), Nat.sub_self]
 rw [List.take_add_one, h, List.drop_eq_getElem_cons hl, List.set_cons_zero]
 simp
theorem b0j (d : Dia) (pl : List Int) : mixL d pl d.nodes.length = (k8q d.nodes d.nodes.length).map fun g => (thenS g pl).1 := by
 have := i9q d.nodes d.nodes.length (Nat.le_refl _)
 have h1 : (k8q d.nodes d.nodes.length).take d.nodes.length = k8q d.nodes d.nodes.length := List.take_of_length_le (by omega)
 have h2 : (k8q d.nodes d.nodes.length).drop d.nodes.length = [] := List.drop_eq_nil_of_le (by omega)
 simp only [mixL, h1, h2, List.append_nil]
theorem q9x (d : Dia) (pl : List Int) : mixL d pl 0 = k8q d.nodes d.nodes.length := by simp [mixL]
theorem j8x {l : List (List Int)} {i : Nat} (h : i < l.length) (g : List Int) : setAll (l.map b0q) i [b0q g] = (l.set i g).map b0q := by
 rw [show setAll (l.map b0q) i [b0q g] = (l.map b0q).set i (b0q g) from h7q _ _ _ (by simpa using h), List.map_set]
structure CoI (s sV : Sg) (d : Dia) (m p um : Nat) (k : Nat) (s' : Sg) : Prop where
 pr : ProR s' p um (f3q (d5q (bsB d.nodes d.nodes.length)) (colF d d.arrs.length) (colG d d.arrs.length) k)
 keep : Keep sV s'
 nx : sV.next ≤ s'.next
theorem CoI.step {s sV : Sg} {d : Dia} {m p um k : Nat} {s1 s2 : Sg} (h : CoI s sV d m p um k s1) (hk : Keep s1 s2) (hn : s1.next ≤ s2.next) : CoI s sV d m p um k s2 :=
 ⟨h.pr.keep hk hn, h.keep.trans h.nx hk, Nat.le_trans h.nx hn⟩
theorem col_le {d : Dia} (h : bigD d = false) : bsB d.nodes d.nodes.length ≤ 40 := by
 simp only [bigD, Bool.or_eq_false_iff, j5q, decide_eq_false_iff_not, u3z _ _ (Nat.le_refl _)] at h
 omega
theorem bs_prs {l : List Ob} (h : BsOK l) : (bsS l).pairs.length ≤ 10000 := by
 have h1 := h.prs l.length
 have h2 := h.n
 show (prsT l l.length).length ≤ _
 omega
set_option maxRecDepth 20000 in
set_option maxHeartbeats 8000000 in
theorem n1x (d : Dia) (L : DiaLim d) (hp2 : ∀ o ∈ d.nodes, o.pairs.length ≤ 1000) : g3q Tryd.prog 50 [vDia d] (vCol (colS d)) := by
 refine b9q Tryd.func50 rfl fun s Q hQ => ?_
 obtain ⟨e, he, hl, h0⟩ : ∃ e : Env, ([vDia d] ++ List.replicate (Tryd.f50.ntmps - ([vDia d] : List V).length) .junk) = e ∧ e.length = 95 ∧ ev e (.tmp 0) = vDia d := ⟨_, rfl, rfl, rfl⟩
 rw [he]
 clear he
 have Ln := L.n
 have Lm := L.m
 refine vsk fun K1 hK1 => ?_
 refine a3q 0 [] ?_
 simp only [bs, ↓vopx, ↓vop, a1q, flat, V.cells, h0, wocs, ↓goc, ↓woc, ↓a2q, Tryd.zv25]
 refine hK1 _ _ ?_
 refine vsk fun K2 hK2 => ?_
 refine a5q ?_
 refine vsk fun K3 hK3 => ?_
 refine o2q fun sN hSN => ?_
 have hn62 : sN.m s.next = some (.box 62 [.t (l1q d.nodes), .t (tArs d.arrs)]) := by rw [hSN, c5q, if_neg (by simp only [c9q]; omega), c5q, if_pos rfl]
 have hn2 : sN.m (s.next + 1) = some (.box 25 [.t (.v (.slice none 0 0)), .t (.v (.slice none 0 0))]) := by rw [hSN, c5q, if_pos (by simp only [c9q])]
 have hnn : sN.next = s.next + 2 := by rw [hSN]; rfl
 have hnk : ∀ j, j < s.next → sN.m j = s.m j := fun j hj => by rw [hSN, c5q, if_neg (by simp only [c9q]; omega), c5q, if_neg (by omega)]
 clear hSN
 rcases (show bigD d = true ∨ bigD d = false by cases bigD d <;> simp) with kb | kb
 ·refine a3q 0 [.pur (Bo (bigD d))] ?_
  simp only [bs, Nat.reduceAdd, ↓vopx, ↓vop, Nat.reduceBEq, a1q, Nat.reduceLT, a7q, a8q, hl, wocs, ↓goc, ↓woc, ↓a2q, ↓c4q, a6q, Tryd.ag62, Tryd.sz62, hn62, kb]
  repeat ((with_reducible refine And.intro ?_ ?_); · exact ⟨Tryd.is83, by simpa only [kb] using bigD_ d L⟩)
  refine hK3 _ _ ?_
  refine vck fun A B hA hB => ?_
  simp only [b5q, a0q, lpv, Nat.reduceLT, true_implies, reduceCtorEq, false_implies, and_true, hl]
  refine hA ?_
  clear hA hB A B
  refine vsk fun K4 hK4 => ?_
  refine a3q 0 [] ?_
  simp only [bs, Nat.reduceAdd, d8q, g2q, ↓vopx, ↓vop, Nat.reduceBEq, a1q, flat, Nat.reduceLT, V.cells, hl, wocs, ↓goc, ↓woc, ↓a2q, Tryd.st25, Tryd.sz25, hn2]
  refine hK4 _ _ ?_
  refine b3q ?_
  have hres : vCol (colS d) = pack [vObj ⟨[], []⟩, .t (tMat []), I 11] := by simp [colS, vCol, noOb, kb]; rfl
  rw [hres] at hQ
  refine hQ _ _ _ (.inr rfl) (u1q (vs := [.agg [.t (.v (.slice none 0 0)), .t (.v (.slice none 0 0))], .t (.v (.slice none 0 0)), I 11]) (vs' := [vObj ⟨[], []⟩, .t (tMat []), I 11]) ?_ rfl (e6x _ _) (by simp [pack, nm, nm2, nm1, nm0]) ?_)
  ·show vres Tryd.prog _ _ [.cell 2 25, .tmp 3, .tmp 4] = _
   simp only [g7q, j9q, h9q, a0q, a4q, Nat.reduceBEq, lpv, hl, hn2, Tryd.sz25, Tryd.ag25, a7q, b6q, a8q, if_true, Nat.reduceLT, List.drop_zero, List.take_succ_cons, List.take_zero, List.length_cons, List.length_nil, Nat.zero_add, Nat.reduceAdd]
   try rfl
  ·exact fun n x hn h => by rw [b6q, if_neg (by omega), hnk n hn]; exact h
 ·refine a3q 0 [.pur (Bo (bigD d))] ?_
  simp only [bs, Nat.reduceAdd, ↓vopx, ↓vop, Nat.reduceBEq, a1q, Nat.reduceLT, a7q, a8q, hl, wocs, ↓goc, ↓woc, ↓a2q, ↓c4q, a6q, Tryd.ag62, Tryd.sz62, hn62, kb]
  repeat ((with_reducible refine And.intro ?_ ?_); · exact ⟨Tryd.is83, by simpa only [kb] using bigD_ d L⟩)
  refine hK3 _ _ ?_
  refine vck fun A B hA hB => ?_
  simp only [b5q, a0q, lpv, Nat.reduceLT, true_implies, reduceCtorEq, false_implies, true_and, hl]
  refine hB ?_
  clear hA hB A B
  refine vsk fun K5 hK5 => ?_
  rcases (show diaS d = false ∨ diaS d = true by cases diaS d <;> simp) with kd | kd
  ·refine a3q 0 [.pur (Bo (diaS d))] ?_
   simp only [bs, Nat.reduceAdd, ↓vopx, ↓vop, Nat.reduceBEq, a1q, Nat.reduceLT, a7q, a8q, hl, wocs, ↓goc, ↓woc, ↓a2q, ↓c4q, a6q, Tryd.ag62, Tryd.sz62, hn62, kd]
   repeat ((with_reducible refine And.intro ?_ ?_); · exact ⟨Tryd.is82, by simpa only [kd] using k2z d L⟩)
   refine hK5 _ _ ?_
   refine vck fun A B hA hB => ?_
   simp only [b5q, a0q, lpv, Nat.reduceLT, true_implies, reduceCtorEq, false_implies, and_true, hl]
   refine hA ?_
   clear hA hB A B
   refine vsk fun K6 hK6 => ?_
   refine a3q 0 [] ?_
   simp only [bs, Nat.reduceAdd, d8q, g2q, ↓vopx, ↓vop, Nat.reduceBEq, a1q, flat, Nat.reduceLT, V.cells, hl, wocs, ↓goc, ↓woc, ↓a2q, Tryd.st25, Tryd.sz25, hn2]
   refine hK6 _ _ ?_
   refine b3q ?_
   have hres : vCol (colS d) = pack [vObj ⟨[], []⟩, .t (tMat []), I 10] := by simp [colS, vCol, noOb, kb, kd]; rfl
   rw [hres] at hQ
   refine hQ _ _ _ (.inr rfl) (u1q (vs := [.agg [.t (.v (.slice none 0 0)), .t (.v (.slice none 0 0))], .t (.v (.slice none 0 0)), I 10]) (vs' := [vObj ⟨[], []⟩, .t (tMat []), I 10]) ?_ rfl (e6x _ _) (by simp [pack, nm, nm2, nm1, nm0]) ?_)
   ·show vres Tryd.prog _ _ [.cell 2 25, .tmp 3, .tmp 4] = _
    simp only [g7q, j9q, h9q, a0q, a4q, Nat.reduceBEq, lpv, hl, hn2, Tryd.sz25, Tryd.ag25, a7q, b6q, a8q, if_true, Nat.reduceLT, List.drop_zero, List.take_succ_cons, List.take_zero, List.length_cons, List.length_nil, Nat.zero_add, Nat.reduceAdd]
    try rfl
   ·exact fun n x hn h => by rw [b6q, if_neg (by omega), hnk n hn]; exact h
  ·refine a3q 0 [.pur (Bo (diaS d))] ?_
   simp only [bs, Nat.reduceAdd, ↓vopx, ↓vop, Nat.reduceBEq, a1q, Nat.reduceLT, a7q, a8q, hl, wocs, ↓goc, ↓woc, ↓a2q, ↓c4q, a6q, Tryd.ag62, Tryd.sz62, hn62, kd]
   repeat ((with_reducible refine And.intro ?_ ?_); · exact ⟨Tryd.is82, by simpa only [kd] using k2z d L⟩)
   refine hK5 _ _ ?_
   refine vck fun A B hA hB => ?_
   simp only [b5q, a0q, lpv, Nat.reduceLT, true_implies, reduceCtorEq, false_implies, true_and, hl]
   refine hB ?_
   clear hA hB A B
   refine b1q ?_
   refine hK2 _ _ ?_
   refine vsk fun K7 hK7 => ?_
   have hD := d3z.1 kd
   have hBs : BsOK d.nodes := ⟨by have := hD.n; omega, hD.ob, hp2⟩
   have h40 : bsB d.nodes d.nodes.length ≤ 40 := col_le kb
   have hgl := hD.gl h40
   have hll := i9q d.nodes d.nodes.length (Nat.le_refl _)
   refine a3q 0 [.stop] ?_
   simp only [bs, Nat.reduceAdd, ↓vopx, ↓vop, Nat.reduceBEq, a1q, Nat.reduceLT, V.cells, a7q, a8q, hl, wocs, ↓goc, ↓woc, ↓a2q, ↓c4q, a6q, Tryd.ag59, Tryd.fd62_0, Tryd.sz59, nns, hn62]
   refine ⟨Tryd.is65, (x8x sN d.nodes hBs).mono fun v sU hv => ?_⟩
   obtain ⟨m, rfl, hum, hml, hmu, huk⟩ := hv
   try simp only [bs, Nat.reduceAdd, Nat.reduceBEq, Nat.reduceLT, hl, Tryd.sz25, Tryd.zv25, Hold]
   refine hK7 _ _ ?_
   refine vsk fun K8 hK8 => ?_
   refine o2q fun sV hSV => ?_
   have hv5 : sV.m sU.next = some (.box 25 [.t (b7q (bsS d.nodes).labels), .t (a9q (bsS d.nodes).pairs)]) := by rw [hSV, b6q, if_pos rfl]
   have hvs : ∀ j, j < sU.next → sV.m j = sU.m j := fun j hj => by rw [hSV, b6q, if_neg (by omega), c5q, if_neg (by omega)]
   have hvn : sV.next = sU.next + 1 := by rw [hSV]; rfl
   clear hSV
   have hvm : sV.m m = some (.arr 1 26 ((k8q d.nodes d.nodes.length).map b0q)) := by rw [hvs _ hmu]; exact hum
   have hv62 : sV.m s.next = some (.box 62 [.t (l1q d.nodes), .t (tArs d.arrs)]) := by rw [hvs _ (by omega), huk _ (by omega)]; exact hn62
   have hv2 : sV.m (s.next + 1) = some (.box 25 [.t (.v (.slice none 0 0)), .t (.v (.slice none 0 0))]) := by rw [hvs _ (by omega), huk _ (by omega)]; exact hn2
   have hvk : ∀ j, j < s.next → sV.m j = s.m j := fun j hj => by rw [hvs _ (by omega), huk _ (by omega)]; exact hnk j hj
   have hbl := r3z d.nodes
   refine a3q 0 [.stop] ?_
   simp only [bs, Nat.reduceAdd, ↓vopx, ↓vop, Nat.reduceBEq, a1q, Nat.reduceLT, a7q, a8q, hl, wocs, ↓goc, ↓woc, ↓a2q, ↓c4q, a6q, Tryd.ag22, Tryd.fd25_0, Tryd.sz22, Tryd.un22, c7q, nns, hv5, hbl]
   refine ⟨Tryd.is72, (unNew_ sV (bsB d.nodes d.nodes.length) (by omega)).mono fun v sW hv => ?_⟩
   obtain ⟨p, um, rfl, hpr, hup, hum2, hkw, hwn⟩ := hv
   try simp only [bs, Nat.reduceLT, hl, Hold]
   refine hK8 _ _ ?_
   refine vsk fun K9 hK9 => ?_
   refine vsk fun K10 hK10 => ?_
   have hw62 := hkw _ _ (by omega) hv62
   refine a3q 0 [] ?_
   simp only [bs, ↓vopx, ↓vop, Nat.reduceBEq, a1q, flat, Nat.reduceLT, a7q, a8q, hl, wocs, ↓goc, ↓woc, ↓a2q, Tryd.ag60, Tryd.fd62_1, Tryd.sz60, Tryd.un60, u7q, nns, hw62]
   refine hK10 _ _ ?_
   refine a5q ?_
   refine d0q (fun mm e' s' => ∃ k : Nat, mm = d.arrs.length - k ∧ k ≤ d.arrs.length ∧ e'.length = 95 ∧ ev e' (.tmp 1) = .ptr s.next 0 ∧ ev e' (.tmp 2) = .ptr (s.next + 1) 0 ∧ ev e' (.tmp 5) = .ptr sU.next 0 ∧ ev e' (.tmp 6) = .loc m 0 d.nodes.length ∧ ev e' (.tmp 7) = .ptr p 0 ∧ ev e' (.tmp 35) = .t (tArs d.arrs) ∧ ev e' (.tmp 36) = I d.arrs.length ∧ ev e' (.tmp 37) = I k ∧ True ∧ CoI s sV d m p um (colF d k).length s') (⟨0, rfl, Nat.zero_le _, ?_⟩) ?_
   ·try simp only [a0q, a4q, Nat.reduceBEq, lpv, hl, Nat.reduceLT, true_and]
    repeat ((with_reducible refine And.intro ?_ ?_); · trivial)
    exact ⟨hpr, hkw, hwn⟩
   rintro mm e s1 ⟨k, rfl, hle_k, hl, k1, k2, k5, k6, k7, k35, k36, h_k, hst, hC⟩
   refine vsk fun K11 hK11 => ?_
   refine a3q 0 [] ?_
   simp only [a1q, opII, k36, h_k, wocs, ↓goc, ↓woc]
   refine hK11 _ _ ?_
   refine vsk fun K12 hK12 => ?_
   refine vck fun A B hA hB => ?_
   simp only [b5q, a0q, Nat.reduceLT, decide_eq_true_eq, decide_eq_false_iff_not, hl]
   refine ⟨fun hc38 => hA ?_, fun hc38 => hB ?_⟩
   ·clear hA hB A B
    refine b1q ?_
    refine hK12 _ _ ?_
    refine vsk fun K13 hK13 => ?_
    refine a5q ?_
    refine vsk fun K14 hK14 => ?_
    have hlt : k < d.arrs.length := by omega
    obtain ⟨x, hx⟩ : ∃ x, d.arrs[k]? = some x := ⟨_, List.getElem?_eq_getElem hlt⟩
    have g0 := dropA hx
    have hfl := q8q d.arrs
    have hi2 : k * 3 < d.arrs.length * 3 := by omega
    obtain ⟨a, b, f0, hA, t0, hB, hab⟩ := hD.ar x (List.mem_of_getElem? hx)
    have hmp := c1q (b4q.1 hab).2.2.1
    have ha40 := (b4q.1 hab).1.le
    refine a3q 0 [] ?_
    simp only [bs, Nat.reduceAdd, ↓vopx, ↓vop, Nat.reduceBEq, a1q, Nat.reduceLT, V.cells, a7q, a8q, hl, k35, h_k, wocs, ↓goc, ↓woc, ↓a2q, Tryd.ag72, Tryd.sz72, Tryd.un60, Tryd.zv72, g0, hfl, hi2]
    refine hK14 _ _ ?_
    refine vsk fun K15 hK15 => ?_
    refine d6q fun e2 s9_ hE2 hSb => ?_
    subst hE2
    have hbx : s9_.m s1.next = some (.box 72 [.t (TI x.fr), .t (TI x.to), .t (b0q x.mp)]) := by rw [hSb]; simp only [b6q, if_true]; try rfl
    have hC9 : CoI s sV d m p um (colF d k).length s9_ := by rw [hSb]; exact hC.step (((Keep.refl _).add (Nat.le_refl _) _).set (Nat.le_refl _) _) (by simp only [i6q, c9q]; omega)
    have hb9 : s1.next < s9_.next := by rw [hSb]; simp only [i6q, c9q]; omega
    have hv9 : sV.next ≤ s1.next := hC.nx
    have hu9 : um < s1.next := hC.pr.elim fun l h => h.1.lm
    clear hSb
    obtain ⟨n9, hn9⟩ : ∃ n, n = s1.next := ⟨_, rfl⟩
    rw [← hn9] at hbx hb9 hv9 hu9
    refine a3q 0 [] ?_
    simp only [bs, ↓vopx, ↓vop, a1q, flat, Nat.reduceLT, a7q, a8q, hl, wocs, ↓goc, ↓woc, ↓a2q, Tryd.ag26, Tryd.fd72_2, Tryd.sz26, Tryd.un26, f1q, nns, hbx, ← hn9]
    refine hK15 _ _ ?_
    refine a5q ?_
    refine d0q (fun mm e' s' => ∃ i : Nat, mm = x.mp.length - i ∧ i ≤ x.mp.length ∧ e'.length = 95 ∧ ev e' (.tmp 1) = .ptr s.next 0 ∧ ev e' (.tmp 2) = .ptr (s.next + 1) 0 ∧ ev e' (.tmp 5) = .ptr sU.next 0 ∧ ev e' (.tmp 6) = .loc m 0 d.nodes.length ∧ ev e' (.tmp 7) = .ptr p 0 ∧ ev e' (.tmp 35) = .t (tArs d.arrs) ∧ ev e' (.tmp 36) = I d.arrs.length ∧ ev e' (.tmp 9) = .ptr n9 0 ∧ ev e' (.tmp 37) = I k ∧ ev e' (.tmp 42) = .t (b0q x.mp) ∧ ev e' (.tmp 43) = I x.mp.length ∧ ev e' (.tmp 44) = I i ∧ True ∧ CoI s sV d m p um ((colF d k).length + i) s' ∧ s'.m n9 = some (.box 72 [.t (TI x.fr), .t (TI x.to), .t (b0q x.mp)]) ∧ n9 < s'.next) (⟨0, rfl, Nat.zero_le _, ?_⟩) ?_
    ·try simp only [a0q, a4q, Nat.reduceBEq, lpv, hl, k1, k2, k5, k6, k7, k35, k36, h_k, Nat.reduceLT, true_and]
     repeat ((with_reducible refine And.intro ?_ ?_); · trivial)
     exact hb9
    rintro mm e s1 ⟨i, rfl, hle_i, hl, q1, q2, q5, q6, q7, q35, q36, q9, q37, q42, q43, h_i, hst, ⟨hC3, hb3, hn3⟩⟩
    refine vsk fun K16 hK16 => ?_
    refine a3q 0 [] ?_
    simp only [a1q, opII, q43, h_i, wocs, ↓goc, ↓woc]
    refine hK16 _ _ ?_
    refine vsk fun K17 hK17 => ?_
    refine vck fun A B hA hB => ?_
    simp only [b5q, a0q, Nat.reduceLT, decide_eq_true_eq, decide_eq_false_iff_not, hl]
    refine ⟨fun hc45 => hA ?_, fun hc45 => hB ?_⟩
    ·clear hA hB A B
     refine b1q ?_
     refine hK17 _ _ ?_
     refine vsk fun K18 hK18 => ?_
     refine a5q ?_
     refine vsk fun K19 hK19 => ?_
     obtain ⟨w, hw⟩ : ∃ w, x.mp[i]? = some w := ⟨_, List.getElem?_eq_getElem (by omega)⟩
     refine a3q 0 [] ?_
     simp only [bs, ↓vopx, ↓vop, Nat.reduceBEq, a1q, Nat.reduceLT, a7q, a8q, hl, q42, h_i, wocs, ↓goc, ↓woc, ↓a2q, Tryd.ag3, Tryd.sz3, Tryd.un26, hw]
     repeat ((with_reducible refine And.intro ?_ ?_); · omega)
     refine hK19 _ _ ?_
     have hlA := (List.getElem?_eq_some_iff.1 hA).1
     have hlB := (List.getElem?_eq_some_iff.1 hB).1
     have hm3 := hC3.keep _ _ (by omega) hvm
     have hcp := n3x hx hw
     have bw := f8q (b4q.1 hab).2.2.1 w (List.mem_of_getElem? hw)
     have g1 := k5z d.nodes.length (Nat.le_refl _) hlA hA
     have g2 := k5z d.nodes.length (Nat.le_refl _) hlB hB
     have g3 : (legT a.labels.length (bsB d.nodes x.fr.toNat))[i]? = _ := u5q (by omega)
     have g4 : (legT b.labels.length (bsB d.nodes x.to.toNat))[w.toNat]? = _ := u5q (by omega)
     have l1 := u6q a.labels.length (bsB d.nodes x.fr.toNat)
     have l2 := u6q b.labels.length (bsB d.nodes x.to.toNat)
     have bA := f0z hA hlA
     have bB := f0z hB hlB
     have hRl := (r0q _ (colF d d.arrs.length) (colG d d.arrs.length) hgl.bF hgl.bG ((colF d k).length + i) (by have := (List.getElem?_eq_some_iff.1 hcp.1).1; omega) (by have := (List.getElem?_eq_some_iff.1 hcp.2).1; omega)).2
     rw [r3z] at hRl
     refine d2q Tryd.mixed 17 [0, 0, 0, 1, 1, 1, 0, 1, 1, 0, 0, 1, 1, 1, 0, 1, 1] [] [.stop] 0 (by decide +kernel) (by simp [lpv, hl]) rfl ?_
     simp only [bs, Nat.reduceAdd, ↓vopx, ↓vop, Nat.reduceBEq, a1q, c0q, Nat.reduceLT, a7q, a8q, hl, q6, q7, q9, wocs, ↓goc, ↓woc, ↓e7q, ↓c4q, a6q, chn, ↓goq, ↓woq, List.zip_cons_cons, List.zip_nil_right, Tryd.ag26, Tryd.ag3, Tryd.fd72_0, Tryd.fd72_1, Tryd.sz26, Tryd.sz3, Tryd.un26, Tryd.un63, nns, hb3, hm3, g1, g2, g3, g4, l1, l2, Int.toNat_natCast]
     repeat (refine And.intro (by omega) ?_)
     refine ⟨Tryd.is73, (unJoin_ s1 p um _ hC3.pr (bsB d.nodes x.fr.toNat + i) (bsB d.nodes x.to.toNat + w.toNat) (by omega) (by omega)).mono fun v s2 hv => ?_⟩
     obtain ⟨⟨bb, rfl⟩, hj2, hbt⟩ := hv
     try simp only [bs, Nat.reduceBEq, Nat.reduceLT, hl, q6, q7, Hold]
     refine hK18 _ _ ?_
     refine a3q 0 [] ?_
     simp only [bs, ↓vopx, ↓vop, Nat.reduceBEq, a1q, flat, Nat.reduceLT, opII, hl, q1, q2, q5, q6, q7, q35, q36, q9, q37, q42, q43, h_i, wocs, ↓goc, ↓woc, ↓a2q]
     repeat ((with_reducible refine And.intro ?_ ?_); · exact ⟨by omega, by omega⟩)
     refine ⟨x.mp.length - (i + 1), by omega, i + 1, rfl, by omega, ?_⟩
     try simp only [a0q, a4q, Nat.reduceBEq, lpv, hl, q1, q2, q5, q6, q7, q35, q36, q9, q37, q42, q43, h_i, if_true, if_false, Nat.reduceEqDiff, Nat.reduceLT, true_and, and_true]
     repeat ((with_reducible refine And.intro ?_ ?_); · trivial)
     refine ⟨⟨?_, hbt.keep hum2 hC3.keep hC3.nx, Nat.le_trans hC3.nx hbt.2⟩, ?_, by have := hbt.2; omega⟩
     ·rw [show (colF d k).length + (i + 1) = (colF d k).length + i + 1 from rfl, p9q hcp.1 hcp.2, Int.toNat_natCast, show (((bsB d.nodes x.to.toNat : Nat) : Int) + w).toNat = bsB d.nodes x.to.toNat + w.toNat by omega]; exact hj2
     ·rw [hbt.1 _ hn3 (by omega)]; exact hb3
    ·clear hA hB A B
     have hie : i = x.mp.length := by omega
     refine c8q ?_
     simp only [a1q, c0q, if_true, if_false, Nat.reduceEqDiff]
     refine hK13 _ _ ?_
     refine a3q 0 [] ?_
     simp only [bs, ↓vopx, ↓vop, Nat.reduceBEq, a1q, flat, Nat.reduceLT, opII, hl, q1, q2, q5, q6, q7, q35, q36, q37, wocs, ↓goc, ↓woc, ↓a2q]
     repeat ((with_reducible refine And.intro ?_ ?_); · exact ⟨by omega, by omega⟩)
     refine ⟨d.arrs.length - (k + 1), by omega, k + 1, rfl, by omega, ?_⟩
     try simp only [a0q, a4q, Nat.reduceBEq, lpv, hl, k1, k2, k5, k6, k7, k35, k36, h_k, if_true, if_false, Nat.reduceEqDiff, Nat.reduceLT, true_and, and_true]
     repeat ((with_reducible refine And.intro ?_ ?_); · trivial)
     rw [w2q hx, List.length_append, u6q, ← hie]; exact hC3
   ·clear hA hB A B
    have hka : k = d.arrs.length := by omega
    refine c8q ?_
    simp only [a1q, c0q, if_true]
    refine hK9 _ _ ?_
    refine vsk fun K20 hK20 => ?_
    have h5_ := hC.keep _ _ (by omega) hv5
    have hpl : ∀ q, q = d.arrs.length → c2q (f3q (d5q (bsB d.nodes d.nodes.length)) (colF d d.arrs.length) (colG d d.arrs.length) (colF d q).length) = (i3q d) := fun q hq => by subst hq; rfl
    have hRl := hgl.rep.2
    refine a3q 0 [.stop] ?_
    simp only [bs, Nat.reduceAdd, ↓vopx, ↓vop, Nat.reduceBEq, a1q, Nat.reduceLT, V.cells, a7q, a8q, hl, k5, k7, wocs, ↓goc, ↓woc, ↓a2q, ↓c4q, a6q, Tryd.ag25, Tryd.sz25, h5_]
    refine ⟨Tryd.is74, (folded_ s1 p um _ hC.pr (bsS d.nodes) hgl.ob (by have := bs_prs hBs; omega) (by rw [hka]; exact hRl)).mono fun v s8 hv => ?_⟩
    rw [hpl k hka] at hv
    obtain ⟨rfl, h8k, h8n⟩ := hv
    try simp only [bs, Nat.reduceAdd, Nat.reduceBEq, Nat.reduceLT, hl, k7, Tryd.sz25, Tryd.zv25, Hold]
    refine hK20 _ _ ?_
    refine vsk fun K21 hK21 => ?_
    refine vsk fun K22 hK22 => ?_
    refine o2q fun sX hSX => ?_
    have hx12 : sX.m s8.next = some (.box 25 [.t (b7q (h3q (bsS d.nodes) (i3q d)).labels), .t (a9q (h3q (bsS d.nodes) (i3q d)).pairs)]) := by rw [hSX, b6q, if_pos rfl]
    have hxs : ∀ j, j < s8.next → sX.m j = s8.m j := fun j hj => by rw [hSX, b6q, if_neg (by omega), c5q, if_neg (by omega)]
    clear hSX
    have hnV := hC.nx
    have hxm : sX.m m = some (.arr 1 26 ((mixL d (i3q d) 0).map b0q)) := by rw [q9x, hxs _ (by omega)]; exact h8k _ _ (by omega) (by omega) (hC.keep _ _ (by omega) hvm)
    have hx2 : sX.m (s.next + 1) = some (.box 25 [.t (.v (.slice none 0 0)), .t (.v (.slice none 0 0))]) := by rw [hxs _ (by omega)]; exact h8k _ _ (by omega) (by omega) (hC.keep _ _ (by omega) hv2)
    have hxk : ∀ j c, j < s.next → s.m j = some c → sX.m j = some c := fun j c hj hc => by rw [hxs _ (by omega)]; exact h8k _ _ (by omega) (by omega) (hC.keep _ _ (by omega) (by rw [hvk j hj]; exact hc))
    have hpll : ((i3q d)).length = bsB d.nodes d.nodes.length := hgl.len
    refine a3q 0 [] ?_
    simp only [bs, ↓vopx, ↓vop, Nat.reduceBEq, a1q, flat, Nat.reduceLT, hl, k6, wocs, ↓goc, ↓woc, ↓a2q]
    refine hK22 _ _ ?_
    refine a5q ?_
    refine d0q (fun mm e' s' => ∃ i5 : Nat, mm = d.nodes.length - i5 ∧ i5 ≤ d.nodes.length ∧ e'.length = 95 ∧ ev e' (.tmp 2) = .ptr (s.next + 1) 0 ∧ ev e' (.tmp 6) = .loc m 0 d.nodes.length ∧ ev e' (.tmp 12) = .ptr s8.next 0 ∧ ev e' (.tmp 13) = .t (b0q (i3q d)) ∧ ev e' (.tmp 76) = I d.nodes.length ∧ ev e' (.tmp 77) = I i5 ∧ True ∧ s'.m m = some (.arr 1 26 ((mixL d (i3q d) i5).map b0q)) ∧ (∀ j, j ≠ m → s'.m j = sX.m j) ∧ s'.next = sX.next) (⟨0, rfl, Nat.zero_le _, ?_⟩) ?_
    ·try simp only [a0q, a4q, Nat.reduceBEq, lpv, hl, k2, k6, Nat.reduceLT, true_and, and_true]
     repeat ((with_reducible refine And.intro ?_ ?_); · trivial)
     exact fun _ _ => trivial
    rintro mm e s1 ⟨i5, rfl, hle_i5, hl, z2, z6, z12, z13, z76, h_i5, hst, ⟨hm5, hs5, hn5⟩⟩
    refine vsk fun K23 hK23 => ?_
    refine a3q 0 [] ?_
    simp only [a1q, opII, z76, h_i5, wocs, ↓goc, ↓woc]
    refine hK23 _ _ ?_
    refine vsk fun K24 hK24 => ?_
    refine vck fun A B hA hB => ?_
    simp only [b5q, a0q, Nat.reduceLT, decide_eq_true_eq, decide_eq_false_iff_not, hl]
    refine ⟨fun hc78 => hA ?_, fun hc78 => hB ?_⟩
    ·clear hA hB A B
     refine b1q ?_
     refine hK24 _ _ ?_
     refine vsk fun K25 hK25 => ?_
     refine a5q ?_
     refine vsk fun K26 hK26 => ?_
     refine a3q 0 [] ?_
     simp only [bs, ↓vopx, ↓vop, Nat.reduceBEq, a1q, Nat.reduceLT, hl, h_i5, wocs, ↓goc, ↓woc, ↓a2q]
     refine hK26 _ _ ?_
     have hlt : i5 < d.nodes.length := by omega
     obtain ⟨o, ho⟩ : ∃ o, d.nodes[i5]? = some o := ⟨_, List.getElem?_eq_getElem hlt⟩
     have g5 := k5z d.nodes.length (Nat.le_refl _) hlt ho
     have g6 := mixL_at (pl := (i3q d)) g5
     have hml5 := f2x d (i3q d) i5
     have l5 := u6q o.labels.length (bsB d.nodes i5)
     have o40 := (hD.ob o (List.mem_of_getElem? ho)).le
     refine a3q 0 [.pur (.tup [.t (b0q (thenS (legT o.labels.length (bsB d.nodes i5)) (i3q d)).1), Bo (thenS (legT o.labels.length (bsB d.nodes i5)) (i3q d)).2])] ?_
     simp only [bs, ↓vopx, ↓vop, Nat.reduceBEq, a1q, c0q, Nat.reduceLT, V.cells, a7q, a8q, Sg.frzL, Sg.frz1, hl, z6, z13, wocs, ↓goc, ↓woc, ↓a2q, ↓c4q, a6q, Tryd.ag26, Tryd.sz26, Tryd.un63, hm5, g6, hml5]
     repeat ((with_reducible refine And.intro ?_ ?_); · first | (with_reducible assumption) | omega | exact ⟨Tryd.is32, then_ _ _ (by omega) (by omega)⟩)
     refine hK25 _ _ ?_
     refine a3q 0 [] ?_
     simp only [bs, ↓vopx, ↓vop, Nat.reduceBEq, a1q, flat, Nat.reduceLT, opII, hl, z2, z6, z12, z13, z76, h_i5, wocs, ↓goc, ↓woc, ↓a2q]
     repeat ((with_reducible refine And.intro ?_ ?_); · exact ⟨by omega, by omega⟩)
     refine ⟨d.nodes.length - (i5 + 1), by omega, i5 + 1, rfl, by omega, ?_⟩
     try simp only [a0q, a4q, Nat.reduceBEq, lpv, hl, z2, z6, z12, z13, z76, h_i5, if_true, if_false, Nat.reduceEqDiff, Nat.reduceLT, true_and, and_true]
     repeat ((with_reducible refine And.intro ?_ ?_); · trivial)
     rw [j8x (by omega), b1j g5]
     exact ⟨rfl, fun j hj => by rw [if_neg hj]; exact hs5 j hj, hn5⟩
    ·clear hA hB A B
     have hi5 : i5 = d.nodes.length := by omega
     refine c8q ?_
     simp only [a1q, c0q, if_true]
     refine hK21 _ _ ?_
     refine vsk fun K27 hK27 => ?_
     have hml5 := f2x d (i3q d) i5
     refine VW.freeze 6 (n := m) (len := d.nodes.length) (k := 1) (el := 26) (cs := (mixL d (i3q d) i5).map b0q) ?_ ?_ (by simp [hml5]) ?_
     ·simp only [a4q, Nat.reduceBEq, z6]
     ·exact hm5
     have z9 : ¬ s8.next = m := by omega
     have h12 : s1.m s8.next = _ := (hs5 _ z9).trans hx12
     have h2_ : s1.m (s.next + 1) = _ := (hs5 _ (by omega)).trans hx2
     have z8 : ¬ s.next + 1 = m := by omega
     refine a3q 0 [] ?_
     simp only [bs, Nat.reduceAdd, ↓vopx, ↓vop, Nat.reduceBEq, a1q, flat, Nat.reduceLT, V.cells, a7q, a8q, hl, z2, z12, wocs, ↓goc, ↓woc, ↓a2q, Tryd.ag25, Tryd.sz25, h12, h2_, z8, z9]
     refine hK27 _ _ ?_
     refine b3q ?_
     have hres : vCol (colS d) = pack [vObj (h3q (bsS d.nodes) (i3q d)), .t (tMat (mixL d (i3q d) i5)), I 0] := by rw [hi5, b0j]; simp [colS, vCol, g4q, kb, kd]; rfl
     rw [hres] at hQ
     refine hQ _ _ _ (.inr rfl) ?_
     refine s7q (vs := [vObj (h3q (bsS d.nodes) (i3q d)), .t (tMat (mixL d (i3q d) i5)), I 0]) ?_ rfl (by simp [pack, nm, nm2, nm1, nm0]) (fun n x hn h => by rw [b6q, if_neg (by omega), e2q, if_neg (by omega), hs5 _ (by omega)]; exact hxk n x hn h)
     show vres Tryd.prog _ _ [.cell 2 25, .tmp 3, .tmp 4] = _
     simp only [g7q, j9q, h9q, a0q, a4q, Nat.reduceBEq, lpv, hl, z2, Tryd.sz25, Tryd.ag25, a7q, b6q, a8q, if_true, Nat.reduceLT, List.drop_zero, List.take_succ_cons, List.take_zero, List.length_cons, List.length_nil, Nat.zero_add, Nat.reduceAdd]
end Go.Proofs

open Go Go.V
namespace Go.Proofs
theorem fAtL {l : List (List Int)} {k : Nat} {g : List Int} (h : l[k]? = some g) : l.getD k [] = g := by rw [List.getD_eq_getElem?_getD, h]; rfl
theorem fAtO {l : List Ob} {k : Nat} {g : Ob} (h : l[k]? = some g) : l.getD k noOb = g := by rw [List.getD_eq_getElem?_getD, h]; rfl
theorem lg_d {d : Dia} {t : Ob} {ls : List (List Int)} (h : diaS d = false) : k9q d t ls = false := by simp [k9q, h]
theorem lg_t {d : Dia} {t : Ob} {ls : List (List Int)} (h : (c3q t == 0) = false) : k9q d t ls = false := by
 unfold k9q; rw [h]; simp
theorem lg_n {d : Dia} {t : Ob} {ls : List (List Int)} (h : ¬ (ls.length : Int) = d.nodes.length) : k9q d t ls = false := by
 have : ¬ ls.length = d.nodes.length := by omega
 simp [k9q, this]
theorem lg_o {d : Dia} {t : Ob} {ls : List (List Int)} {k : Nat} {o : Ob} {g : List Int} (h1 : d.nodes[k]? = some o) (h2 : ls[k]? = some g) (h : arrS o t g = false) : k9q d t ls = false := by
 have : ((List.range d.nodes.length).all fun k => arrS (d.nodes.getD k noOb) t (ls.getD k [])) = false :=
  List.all_eq_false.2 ⟨k, List.mem_range.2 (List.getElem?_eq_some_iff.1 h1).1, by rw [fAtO h1, fAtL h2, h]; decide⟩
 unfold k9q; rw [this]; simp
theorem lg_a {d : Dia} {t : Ob} {ls : List (List Int)} {k : Nat} {x : Ar} (h1 : d.arrs[k]? = some x) (h : alS d ls x = false) : k9q d t ls = false := by
 have : (d.arrs.all (alS d ls)) = false := List.all_eq_false.2 ⟨x, List.mem_of_getElem? h1, by rw [h]; decide⟩
 simp [k9q, this]
theorem lg_ok {d : Dia} {t : Ob} {ls : List (List Int)} (h1 : diaS d = true) (h2 : (c3q t == 0) = true) (h3 : (ls.length : Int) = d.nodes.length) (h4 : ∀ (j : Nat) (o : Ob) (g : List Int), j < d.nodes.length → d.nodes[j]? = some o → ls[j]? = some g → arrS o t g = true) (h5 : ∀ (j : Nat) (x : Ar), j < d.arrs.length → d.arrs[j]? = some x → alS d ls x = true) : k9q d t ls = true := by
 have h3' : ls.length = d.nodes.length := by omega
 simp only [k9q, h1, h2, h3', decide_true, Bool.true_and, Bool.and_eq_true, List.all_eq_true, List.mem_range]
 refine ⟨fun k hk => ?_, fun x hx => ?_⟩
 ·obtain ⟨o, ho⟩ : ∃ o, d.nodes[k]? = some o := ⟨_, List.getElem?_eq_getElem hk⟩
  obtain ⟨g, hg⟩ : ∃ g, ls[k]? = some g := ⟨_, List.getElem?_eq_getElem (by omega)⟩
  rw [fAtO ho, fAtL hg]; exact h4 k o g hk ho hg
 ·obtain ⟨j, hj⟩ := List.getElem?_of_mem hx
  exact h5 j x (List.getElem?_eq_some_iff.1 hj).1 hj
theorem a8z {d : Dia} {t : Ob} {ls : List (List Int)} : k9q d t ls = true ↔ DiaOK d ∧ IsOb t ∧ ls.length = d.nodes.length ∧ (∀ (k : Nat) (o : Ob), d.nodes[k]? = some o → ∃ g, ls[k]? = some g ∧ arrS o t g = true) ∧
 ∀ x ∈ d.arrs, ∃ gf gt, ls[x.fr.toNat]? = some gf ∧ ls[x.to.toNat]? = some gt ∧ thenS x.mp gt = (gf, true) := by
 constructor
 ·intro h
  simp only [k9q, Bool.and_eq_true, d3z, s5q, decide_eq_true_eq, List.all_eq_true, List.mem_range] at h
  obtain ⟨h1, h2, h3, h4, h5⟩ := h
  refine ⟨h1, h2, h3, fun k o ho => ?_, fun x hx => ?_⟩
  ·have hk := (List.getElem?_eq_some_iff.1 ho).1
   obtain ⟨g, hg⟩ : ∃ g, ls[k]? = some g := ⟨_, List.getElem?_eq_getElem (by omega)⟩
   have := h4 k hk
   rw [fAtO ho, fAtL hg] at this
   exact ⟨g, hg, this⟩
  ·obtain ⟨a, b, f0, hA, t0, hB, _⟩ := h1.ar x hx
   have hlA := (List.getElem?_eq_some_iff.1 hA).1
   have hlB := (List.getElem?_eq_some_iff.1 hB).1
   obtain ⟨gf, hgf⟩ : ∃ g, ls[x.fr.toNat]? = some g := ⟨_, List.getElem?_eq_getElem (by omega)⟩
   obtain ⟨gt, hgt⟩ : ∃ g, ls[x.to.toNat]? = some g := ⟨_, List.getElem?_eq_getElem (by omega)⟩
   have := h5 x hx
   simp only [alS, fAtL hgf, fAtL hgt, Bool.and_eq_true, beq_iff_eq] at this
   exact ⟨gf, gt, hgf, hgt, Prod.ext this.2 this.1⟩
 ·rintro ⟨h1, h2, h3, h4, h5⟩
  refine lg_ok (d3z.2 h1) (s5q.2 h2) (by omega) (fun j o g _ ho hg => ?_) fun j x _ hx => ?_
  ·obtain ⟨g', hg', ha⟩ := h4 j o ho
   rw [hg] at hg'; cases hg'; exact ha
  ·obtain ⟨gf, gt, hgf, hgt, ht⟩ := h5 x (List.mem_of_getElem? hx)
   unfold alS; rw [fAtL hgf, fAtL hgt, ht]; simp
theorem y9x {d : Dia} (h : bigD d = false) : bsB d.nodes d.nodes.length ≤ 40 := by
 simp only [bigD, Bool.or_eq_false_iff, j5q, decide_eq_false_iff_not, u3z _ _ (Nat.le_refl _)] at h
 omega
abbrev p8q (d : Dia) : Ob := h3q (bsS d.nodes) (i3q d)
theorem v9z (d : Dia) : (∃ e : Int, e ≠ 0 ∧ colS d = (noOb, [], e)) ∨ (colS d = (p8q d, g4q d, 0) ∧ DiaOK d ∧ bsB d.nodes d.nodes.length ≤ 40) := by
 unfold colS
 by_cases h1 : bigD d = true
 ·rw [if_pos h1]; exact .inl ⟨11, by decide, rfl⟩
 ·rw [if_neg h1]
  by_cases h2 : diaS d = false
  ·rw [if_pos h2]; exact .inl ⟨10, by decide, rfl⟩
  ·rw [if_neg h2]
   exact .inr ⟨rfl, d3z.1 (by simpa using h2), y9x (by simpa using h1)⟩
theorem inc_arr {l : List Ob} (hI : ∀ o ∈ l, IsOb o) (hl : bsB l l.length ≤ 40) {k : Nat} {o : Ob} (ho : l[k]? = some o) : arrS o (bsS l) (legT o.labels.length (bsB l k)) = true := by
 have hk := (List.getElem?_eq_some_iff.1 ho).1
 have e1 := f0z ho hk
 refine z1q (hI o (List.mem_of_getElem? ho)) (y1x hI hl _ (Nat.le_refl _)) (u6q _ _) (fun i y la hy hla => ?_) fun x y hm => ?_
 ·have hi := (List.getElem?_eq_some_iff.1 hla).1
  rw [u5q hi] at hy; cases hy
  have := c3x ho hk hla
  refine ⟨la, ⟨by omega, ?_⟩, by rw [Int.toNat_natCast]; exact this, rfl⟩
  rw [r3z]; omega
 ·obtain ⟨b1, b2⟩ := (hI o (List.mem_of_getElem? ho)).within _ _ hm
  exact ⟨_, _, u5q b1, u5q b2, (bs_mx hI _ (Nat.le_refl _) _ _).2 ⟨k, o, x, y, hk, ho, rfl, rfl, hm⟩⟩
section
variable {d : Dia}
theorem DiaOK.legArr (h : DiaOK d) (hl : bsB d.nodes d.nodes.length ≤ 40) {k : Nat} {o : Ob} (ho : d.nodes[k]? = some o) : ∃ g, (g4q d)[k]? = some g ∧ arrS o (p8q d) g = true := by
 obtain ⟨g, g1, g2, g3, g4⟩ := h.leg hl ho
 refine ⟨g, g1, ?_⟩
 have hpa : arrS (bsS d.nodes) (p8q d) (i3q d) = true := (h.gl hl).arr
 have hinc := inc_arr h.ob hl ho
 have hc := i8z hinc hpa
 have hpl : (i3q d).length = bsB d.nodes d.nodes.length := (h.gl hl).len
 have ht := h0q (f := legT o.labels.length (bsB d.nodes k)) (g := i3q d) (fun y hy => by have := f8q (b4q.1 hinc).2.2.1 y hy; rw [r3z] at this; omega)
 rw [ht] at g3
 rw [(Prod.mk.inj g3).1] at hc
 exact hc
theorem DiaOK.legs (h : DiaOK d) (hl : bsB d.nodes d.nodes.length ≤ 40) : k9q d (p8q d) (g4q d) = true := by
 have hg := h.gl hl
 refine a8z.2 ⟨h, (b4q.1 hg.arr).2.1, n0q, fun k o ho => h.legArr hl ho, fun x hx => ?_⟩
 obtain ⟨a, b, f0, hA, t0, hB, ha⟩ := h.ar x hx
 obtain ⟨gf, f1, f2, _, f4⟩ := h.leg hl hA
 obtain ⟨gt, t1, t2, _, t4⟩ := h.leg hl hB
 have mm := (b4q.1 ha).2.2.1
 have ml := c1q mm
 refine ⟨gf, gt, f1, t1, ?_⟩
 rw [h0q fun y hy => by have := f8q mm y hy; omega]
 congr 1
 apply List.ext_getElem?
 intro i
 rw [List.getElem?_map]
 by_cases hi : i < x.mp.length
 ·obtain ⟨w, hw⟩ : ∃ w, x.mp[i]? = some w := ⟨_, List.getElem?_eq_getElem hi⟩
  have bw := f8q mm w (List.mem_of_getElem? hw)
  obtain ⟨j, j1, j2⟩ := col_at d hx hw
  have he : (i3q d)[_]? = (i3q d)[_]? := hg.eq j1 j2
  rw [Int.toNat_natCast, show (((bsB d.nodes x.to.toNat : Nat) : Int) + w).toNat = bsB d.nodes x.to.toNat + w.toNat by omega, ← f4 i (by omega), ← t4 w.toNat (by omega)] at he
  rw [hw, he, Option.map_some, List.getD_eq_getElem?_getD, List.getElem?_eq_getElem (show w.toNat < gt.length by omega)]; rfl
 ·rw [List.getElem?_eq_none (by omega), List.getElem?_eq_none (by omega)]; rfl
theorem DiaOK.med (h : DiaOK d) (hl : bsB d.nodes d.nodes.length ≤ 40) {t : Ob} {ls : List (List Int)} (hL : k9q d t ls = true) :
 arrS (p8q d) t (outS (p8q d).labels.length (g4q d) ls) = true ∧ (∀ (k : Nat) (g w : List Int), (g4q d)[k]? = some g → ls[k]? = some w → thenS g (outS (p8q d).labels.length (g4q d) ls) = (w, true)) ∧
 ∀ o : List Int, o.length = (p8q d).labels.length → (∀ (k : Nat) (g w : List Int), (g4q d)[k]? = some g → ls[k]? = some w → (thenS g o).1 = w) → o = outS (p8q d).labels.length (g4q d) ls := by
 obtain ⟨_, ht, hlen, hw, hx⟩ := a8z.1 hL
 have hg := h.gl hl
 have hw' : ∀ (k : Nat) (o : Ob), d.nodes[k]? = some o → ∃ w, ls[k]? = some w ∧ w.length = o.labels.length := fun k o ho => by
  obtain ⟨w, h1, h2⟩ := hw k o ho
  exact ⟨w, h1, c1q (b4q.1 h2).2.2.1⟩
 have hW := way_arr h.ob ht hl hw
 have hWl := u7z hw' d.nodes.length (Nat.le_refl _)
 have hpl : (i3q d).length = bsB d.nodes d.nodes.length := hg.len
 have hWa : ∀ {k : Nat} {o : Ob} {w : List Int} {x : Nat}, d.nodes[k]? = some o → ls[k]? = some w → x < o.labels.length → (wayW ls d.nodes.length)[bsB d.nodes k + x]? = w[x]? := fun ho hk hx => a3x hw' _ (Nat.le_refl _) (List.getElem?_eq_some_iff.1 ho).1 ho hk hx
 -- the ways take the same value in each class
 have hH : ∀ (i : Nat) (y z : Int), (colF d d.arrs.length)[i]? = some y → (colG d d.arrs.length)[i]? = some z → (wayW ls d.nodes.length)[y.toNat]? = (wayW ls d.nodes.length)[z.toNat]? := fun i y z hy hz => by
  obtain ⟨x, hxm, tt, w, hwt, rfl, rfl⟩ := n2x d _ (Nat.le_refl _) i y z hy hz
  obtain ⟨a, b, f0, hA, t0, hB, ha⟩ := h.ar x hxm
  obtain ⟨gf, gt, hgf, hgt, hth⟩ := hx x hxm
  have mm := (b4q.1 ha).2.2.1
  have ml := c1q mm
  have bw := f8q mm w (List.mem_of_getElem? hwt)
  obtain ⟨gf', k1, k2⟩ := hw' _ _ hA
  rw [hgf] at k1; cases k1
  obtain ⟨gt', k3, k4⟩ := hw' _ _ hB
  rw [hgt] at k3; cases k3
  have htl := (List.getElem?_eq_some_iff.1 hwt).1
  rw [Int.toNat_natCast, show (((bsB d.nodes x.to.toNat : Nat) : Int) + w).toNat = bsB d.nodes x.to.toNat + w.toNat by omega, hWa hA hgf (by omega), hWa hB hgt (by omega)]
  rw [h0q fun y hy => by have := f8q mm y hy; omega] at hth
  have := congrArg (fun p => p.1[tt]?) hth
  simp only [List.getElem?_map, hwt, Option.map_some] at this
  rw [← this, List.getD_eq_getElem?_getD, List.getElem?_eq_getElem (show w.toNat < gt.length by omega)]; rfl
 have hcon : ∀ {p p' : Nat} {v : Int}, (i3q d)[p]? = some v → (i3q d)[p']? = some v → (wayW ls d.nodes.length)[p]? = (wayW ls d.nodes.length)[p']? := fun hp hp' => hg.univ (fun p => (wayW ls d.nodes.length)[p]?) hH hp hp'
 have hpos : ∀ {p : Nat} {v : Int}, (i3q d)[p]? = some v → 0 ≤ v ∧ v < (p8q d).labels.length := fun hp => f8q (b4q.1 hg.arr).2.2.1 _ (List.mem_of_getElem? hp)
 -- elements of the legs
 have leg0 : ∀ {k : Nat} {g : List Int}, (g4q d)[k]? = some g → ∃ o w, d.nodes[k]? = some o ∧ ls[k]? = some w ∧ g.length = o.labels.length ∧ w.length = o.labels.length ∧ ∀ x, x < o.labels.length → g[x]? = (i3q d)[bsB d.nodes k + x]? ∧ w[x]? = (wayW ls d.nodes.length)[bsB d.nodes k + x]? := fun {k g} hk => by
  have hkl := (List.getElem?_eq_some_iff.1 hk).1
  rw [n0q] at hkl
  obtain ⟨o, ho⟩ : ∃ o, d.nodes[k]? = some o := ⟨_, List.getElem?_eq_getElem hkl⟩
  obtain ⟨g', g1, g2, _, g4⟩ := h.leg hl ho
  rw [hk] at g1; cases g1
  obtain ⟨w, w1, w2⟩ := hw' k o ho
  exact ⟨o, w, ho, w1, g2, w2, fun x hx => ⟨g4 x hx, (hWa ho w1 hx).symm⟩⟩
 have hat : ∀ (p : Nat) (v : Int), (i3q d)[p]? = some v → (outS (p8q d).labels.length (g4q d) ls)[v.toNat]? = (wayW ls d.nodes.length)[p]? := fun p v hp => by
  have hpl' := (List.getElem?_eq_some_iff.1 hp).1
  obtain ⟨hv0, hv1⟩ := hpos hp
  obtain ⟨z, hz⟩ : ∃ z, (wayW ls d.nodes.length)[p]? = some z := ⟨_, List.getElem?_eq_getElem (by omega)⟩
  have hvv : ((v.toNat : Nat) : Int) = v := by omega
  rw [hz]
  refine g0x (fun k l hk => ?_) (fun l hlm y hy => ?_) (by omega) _ (Nat.le_refl _) (fun k l w x _ hk hwk hlx => ?_) ?_
  ·obtain ⟨o, w, _, w1, w2, w3, _⟩ := leg0 hk
   exact ⟨w, w1, by omega⟩
  ·obtain ⟨k, hk⟩ := List.getElem?_of_mem hlm
   obtain ⟨o, w, _, _, w2, _, w4⟩ := leg0 hk
   obtain ⟨x, hx⟩ := List.getElem?_of_mem hy
   have hxl := (List.getElem?_eq_some_iff.1 hx).1
   rw [(w4 x (by omega)).1] at hx
   exact (hpos hx).1
  ·obtain ⟨o, w', _, w1, w2, w3, w4⟩ := leg0 hk
   rw [hwk] at w1; cases w1
   have hxl := (List.getElem?_eq_some_iff.1 hlx).1
   obtain ⟨e1, e2⟩ := w4 x (by omega)
   rw [e1, hvv] at hlx
   rw [e2, ← hz]
   exact hcon hlx hp
  ·obtain ⟨k, o, x, k1, k2, k3, rfl⟩ := m4x d.nodes _ (Nat.le_refl _) p (by omega)
   obtain ⟨g, g1, _, _, g4⟩ := h.leg hl k2
   exact ⟨k, g, x, by rw [n0q]; exact k1, g1, by rw [g4 x k3, hvv]; exact hp⟩
 have hul : (outS (p8q d).labels.length (g4q d) ls).length = (p8q d).labels.length := y2q _ _ _ _
 generalize outS (p8q d).labels.length (g4q d) ls = u at hat hul
 refine ⟨hg.med hW hul hat, fun k g w hk hwk => ?_, fun o hol ho => ?_⟩
 ·obtain ⟨ob, w', _, w1, w2, w3, w4⟩ := leg0 hk
  rw [hwk] at w1; cases w1
  have hgb : ∀ y ∈ g, 0 ≤ y ∧ y < (u.length : Int) := fun y hy => by
   obtain ⟨x, hx⟩ := List.getElem?_of_mem hy
   have hxl := (List.getElem?_eq_some_iff.1 hx).1
   rw [(w4 x (by omega)).1] at hx
   have := hpos hx
   omega
  rw [h0q hgb]
  congr 1
  apply List.ext_getElem?
  intro x
  rw [List.getElem?_map]
  by_cases hx : x < g.length
  ·obtain ⟨v, hv⟩ : ∃ v, g[x]? = some v := ⟨_, List.getElem?_eq_getElem hx⟩
   obtain ⟨e1, e2⟩ := w4 x (by omega)
   have hpv := hv
   rw [e1] at hpv
   have := hat _ _ hpv
   have hb := hgb v (List.mem_of_getElem? hv)
   rw [hv, e2, ← this, Option.map_some, List.getD_eq_getElem?_getD, List.getElem?_eq_getElem (show v.toNat < u.length by omega)]; rfl
  ·rw [List.getElem?_eq_none (by omega), List.getElem?_eq_none (by omega)]; rfl
 ·apply List.ext_getElem?
  intro v
  by_cases hv : v < (p8q d).labels.length
  ·obtain ⟨p, hp⟩ := hg.onto hv
   have hu := hat p v hp
   rw [Int.toNat_natCast] at hu
   have hpl' := (List.getElem?_eq_some_iff.1 hp).1
   obtain ⟨k, ob, x, k1, k2, k3, rfl⟩ := m4x d.nodes _ (Nat.le_refl _) p (by change p < (i3q d).length at hpl'; omega)
   obtain ⟨g, g1, g2, _, g4⟩ := h.leg hl k2
   obtain ⟨w, w1, w2⟩ := hw' k ob k2
   have hth := ho k g w g1 w1
   have hgx : g[x]? = some (v : Int) := by rw [g4 x k3]; exact hp
   have hgb : ∀ y ∈ g, 0 ≤ y ∧ y < (o.length : Int) := fun y hy => by
    obtain ⟨x', hx'⟩ := List.getElem?_of_mem hy
    have hxl := (List.getElem?_eq_some_iff.1 hx').1
    rw [g4 x' (by omega)] at hx'
    have := hpos hx'
    omega
   rw [h0q hgb] at hth
   rw [hu, hWa k2 w1 k3, ← hth, List.getElem?_map, hgx, Option.map_some, Int.toNat_natCast, List.getD_eq_getElem?_getD, List.getElem?_eq_getElem (show v < o.length by omega)]; rfl
  ·rw [List.getElem?_eq_none (by omega), List.getElem?_eq_none (by omega)]
end
end Go.Proofs

open Go Go.V
namespace Go.Proofs
structure DjI (s : Sg) (d : Dia) (t : Ob) (s' : Sg) : Prop where
 b : s'.m s.next = some (.box 62 [.t (l1q d.nodes), .t (tArs d.arrs)])
 c : s'.m (s.next + 1) = some (.box 25 [.t (b7q t.labels), .t (a9q t.pairs)])
 same : ∀ j, j < s.next → s'.m j = s.m j
 nx : s.next + 1 < s'.next
theorem DjI.init (s : Sg) (d : Dia) (t : Ob) : DjI s d t ((s.add (.box 62 [.t (l1q d.nodes), .t (tArs d.arrs)])).add (.box 25 [.t (b7q t.labels), .t (a9q t.pairs)])) :=
 ⟨by rw [c5q, if_neg (by simp only [c9q]; omega), c5q, if_pos rfl], by rw [c5q, if_pos (by simp only [c9q])], fun j hj => by rw [c5q, if_neg (by simp only [c9q]; omega), c5q, if_neg (by omega)], by simp only [c9q]; omega⟩
theorem DjI.add {s : Sg} {d : Dia} {t : Ob} {s' : Sg} (h : DjI s d t s') (B : Blk) : DjI s d t (s'.add B) :=
 ⟨by rw [c5q, if_neg (by have := h.nx; omega)]; exact h.b, by rw [c5q, if_neg (by have := h.nx; omega)]; exact h.c, fun j hj => by rw [c5q, if_neg (by have := h.nx; omega)]; exact h.same j hj, by rw [c9q]; have := h.nx; omega⟩
theorem DjI.set {s : Sg} {d : Dia} {t : Ob} {s' : Sg} (h : DjI s d t s') {x : Nat} (hx : s.next + 1 < x) (B : Blk) : DjI s d t (s'.set x B) :=
 ⟨by rw [b6q, if_neg (by omega)]; exact h.b, by rw [b6q, if_neg (by omega)]; exact h.c, fun j hj => by rw [b6q, if_neg (by omega)]; exact h.same j hj, h.nx⟩
theorem glq40 {d : Dia} (h : DiaOK d) (hl : bsB d.nodes d.nodes.length ≤ 40) : IsOb (p8q d) := (b4q.1 (h.gl hl).arr).2.1
theorem out_cl {d : Dia} (h : DiaOK d) (hl : bsB d.nodes d.nodes.length ≤ 40) {ls : List (List Int)} (hn : ls.length = d.nodes.length) : g3q Tryd.prog 81 [I (p8q d).labels.length, .t (tMat (g4q d)), .t (tMat ls)] (.t (b0q (outS (p8q d).labels.length (g4q d) ls))) := by
 have h40 := (glq40 h hl).le
 have hn6 := h.n
 have hb : ∀ l ∈ g4q d, l.length ≤ 40 ∧ ∀ y ∈ l, 0 ≤ y ∧ y < ((p8q d).labels.length : Int) := fun l hlm => by
  obtain ⟨k, hk⟩ := List.getElem?_of_mem hlm
  have hkl := (List.getElem?_eq_some_iff.1 hk).1
  rw [n0q] at hkl
  obtain ⟨o, ho⟩ : ∃ o, d.nodes[k]? = some o := ⟨_, List.getElem?_eq_getElem hkl⟩
  obtain ⟨g, g1, g2⟩ := h.legArr hl ho
  rw [hk] at g1; cases g1
  have mm := (b4q.1 g2).2.2.1
  have := c1q mm
  have := (h.ob o (List.mem_of_getElem? ho)).le
  exact ⟨by omega, f8q mm⟩
 have hcl := n0q (d := d)
 exact out_ _ (by omega) (g4q d) ls (by omega) (by omega) (fun l hlm => by have := (hb l hlm).1; omega) (fun l hlm => (hb l hlm).2)
set_option maxRecDepth 20000 in
set_option maxHeartbeats 8000000 in
theorem legs_ (d : Dia) (L : DiaLim d) (t : Ob) (ls : List (List Int)) (ht1 : t.labels.length < 1000000) (ht2 : t.pairs.length < 1000000) (hl0 : ls.length < 1000000) (hls : ∀ g ∈ ls, g.length < 1000000) : g3q Tryd.prog 51 [vDia d, vObj t, .t (tMat ls)] (Bo (k9q d t ls)) := by
 refine b9q Tryd.func51 rfl fun s Q hQ => ?_
 obtain ⟨e, he, hl, h0, h1, h2⟩ : ∃ e : Env, ([vDia d, vObj t, .t (tMat ls)] ++ List.replicate (Tryd.f51.ntmps - ([vDia d, vObj t, .t (tMat ls)] : List V).length) .junk) = e ∧ e.length = 77 ∧ ev e (.tmp 0) = vDia d ∧ ev e (.tmp 1) = vObj t ∧ ev e (.tmp 2) = .t (tMat ls) := ⟨_, rfl, rfl, rfl, rfl, rfl⟩
 rw [he]
 clear he
 have Ln := L.n
 have Lm := L.m
 refine vsk fun K1 hK1 => ?_
 refine a3q 0 [] ?_
 simp only [bs, ↓vopx, ↓vop, Nat.reduceBEq, a1q, flat, V.cells, h0, h1, wocs, ↓goc, ↓woc, ↓a2q]
 refine hK1 _ _ ?_
 refine vsk fun K2 hK2 => ?_
 refine vsk fun K3 hK3 => ?_
 rcases (show diaS d = false ∨ (diaS d = true ∧ (c3q t == 0) = false) ∨ (diaS d = true ∧ (c3q t == 0) = true ∧ ¬ (ls.length : Int) = d.nodes.length) ∨ (diaS d = true ∧ (c3q t == 0) = true ∧ (ls.length : Int) = d.nodes.length) by cases diaS d <;> cases (c3q t == 0) <;> simp <;> omega) with r1 | ⟨r1, r2⟩ | ⟨r1, r2, r3⟩ | ⟨r1, r2, r3⟩
 ·refine a3q 0 [.pur (Bo (diaS d))] ?_
  simp only [bs, Nat.reduceAdd, ↓vopx, ↓vop, Nat.reduceBEq, a1q, flat, Nat.reduceLT, a7q, a8q, gtmp, hl, wocs, ↓goc, ↓woc, ↓a2q, ↓c4q, ↓e8q, a6q, Tryd.ag62, Tryd.sz62, nns, r1]
  repeat ((with_reducible refine And.intro ?_ ?_); · exact ⟨Tryd.is82, by simpa only [r1] using k2z d L⟩)
  refine hK3 _ _ ?_
  refine vck fun A B hA hB => ?_
  simp only [b5q, a0q, lpv, Nat.reduceLT, true_implies, reduceCtorEq, false_implies, and_true, hl]
  refine hA ?_
  clear hA hB A B
  refine vsk fun K4 hK4 => ?_
  refine a3q 0 [] ?_
  simp only [bs, ↓vopx, ↓vop, a1q, flat, wocs, ↓goc, ↓woc, ↓a2q]
  refine hK4 _ _ ?_
  refine b3q ?_
  rw [show k9q d t ls = false from lg_d r1] at hQ
  refine hQ _ _ _ (.inr rfl) (b2q ?_ fun n b hn h => by rw [c5q, if_neg (by simp only [c9q]; omega), c5q, if_neg (by omega)]; exact h)
  try simp only [a0q, lpv, hl, Nat.reduceLT]
 ·refine a3q 0 [.pur (Bo (diaS d)), .pur (Bo (c3q t == 0))] ?_
  simp only [bs, Nat.reduceAdd, ↓vopx, ↓vop, Nat.reduceBEq, a1q, flat, Nat.reduceLT, a7q, a8q, gtmp, hl, wocs, ↓goc, ↓woc, ↓a2q, ↓c4q, ↓d1q, ↓e8q, a6q, Tryd.ag25, Tryd.ag62, Tryd.sz25, Tryd.sz62, nns, r1, r2]
  repeat ((with_reducible refine And.intro ?_ ?_); · first | exact ⟨Tryd.is82, by simpa only [r1] using k2z d L⟩ | exact ⟨Tryd.is70, by simpa only [r2] using g2z t (by omega) (by omega)⟩)
  refine hK3 _ _ ?_
  refine vck fun A B hA hB => ?_
  simp only [b5q, a0q, lpv, Nat.reduceLT, true_implies, reduceCtorEq, false_implies, and_true, hl]
  refine hA ?_
  clear hA hB A B
  refine vsk fun K5 hK5 => ?_
  refine a3q 0 [] ?_
  simp only [bs, ↓vopx, ↓vop, a1q, flat, wocs, ↓goc, ↓woc, ↓a2q]
  refine hK5 _ _ ?_
  refine b3q ?_
  rw [show k9q d t ls = false from lg_t r2] at hQ
  refine hQ _ _ _ (.inr rfl) (b2q ?_ fun n b hn h => by rw [c5q, if_neg (by simp only [c9q]; omega), c5q, if_neg (by omega)]; exact h)
  try simp only [a0q, lpv, hl, Nat.reduceLT]
 ·refine a3q 0 [.pur (Bo (diaS d)), .pur (Bo (c3q t == 0))] ?_
  simp only [bs, Nat.reduceAdd, ↓vopx, ↓vop, Nat.reduceBEq, a1q, flat, Nat.reduceLT, a7q, a8q, opII, gtmp, hl, h2, wocs, ↓goc, ↓woc, ↓a2q, ↓c4q, ↓d1q, a6q, Tryd.ag25, Tryd.ag59, Tryd.ag62, Tryd.fd62_0, Tryd.sz25, Tryd.sz59, Tryd.sz62, Tryd.un59, i5q, y1q, nns, r1, r2]
  repeat ((with_reducible refine And.intro ?_ ?_); · first | exact ⟨Tryd.is82, by simpa only [r1] using k2z d L⟩ | exact ⟨Tryd.is70, by simpa only [r2] using g2z t (by omega) (by omega)⟩)
  refine hK3 _ _ ?_
  refine vck fun A B hA hB => ?_
  simp only [b5q, a0q, lpv, Nat.reduceLT, bne_iff_ne, bne_eq_false_iff_eq, ne_eq, true_implies, false_implies, and_true, hl, r3, not_false_eq_true, false_implies, true_implies, and_true]
  refine hA ?_
  clear hA hB A B
  refine vsk fun K6 hK6 => ?_
  refine a3q 0 [] ?_
  simp only [bs, ↓vopx, ↓vop, a1q, flat, wocs, ↓goc, ↓woc, ↓a2q]
  refine hK6 _ _ ?_
  refine b3q ?_
  rw [show k9q d t ls = false from lg_n r3] at hQ
  refine hQ _ _ _ (.inr rfl) (b2q ?_ fun n b hn h => by rw [c5q, if_neg (by simp only [c9q]; omega), c5q, if_neg (by omega)]; exact h)
  try simp only [a0q, lpv, hl, Nat.reduceLT]
 ·refine a3q 0 [.pur (Bo (diaS d)), .pur (Bo (c3q t == 0))] ?_
  simp only [bs, Nat.reduceAdd, ↓vopx, ↓vop, Nat.reduceBEq, a1q, flat, Nat.reduceLT, a7q, a8q, opII, gtmp, hl, h2, wocs, ↓goc, ↓woc, ↓a2q, ↓c4q, ↓d1q, a6q, Tryd.ag25, Tryd.ag59, Tryd.ag62, Tryd.fd62_0, Tryd.sz25, Tryd.sz59, Tryd.sz62, Tryd.un59, i5q, y1q, nns, r1, r2, r3]
  repeat ((with_reducible refine And.intro ?_ ?_); · first | exact ⟨Tryd.is82, by simpa only [r1] using k2z d L⟩ | exact ⟨Tryd.is70, by simpa only [r2] using g2z t (by omega) (by omega)⟩)
  refine hK3 _ _ ?_
  refine vck fun A B hA hB => ?_
  simp only [b5q, a0q, lpv, Nat.reduceLT, bne_iff_ne, bne_eq_false_iff_eq, ne_eq, true_implies, false_implies, true_and, hl, not_true_eq_false, false_implies, true_implies, true_and]
  refine hB ?_
  clear hA hB A B
  refine b1q ?_
  refine hK2 _ _ ?_
  refine vsk fun K7 hK7 => ?_
  refine vsk fun K8 hK8 => ?_
  refine a3q 0 [] ?_
  simp only [bs, ↓vopx, ↓vop, Nat.reduceBEq, a1q, flat, Nat.reduceLT, a7q, a8q, hl, wocs, ↓goc, ↓woc, ↓a2q, Tryd.ag59, Tryd.fd62_0, Tryd.sz59, Tryd.un59, i5q, nns]
  refine hK8 _ _ ?_
  refine a5q ?_
  refine d0q (fun mm e' s' => ∃ k : Nat, mm = d.nodes.length - k ∧ k ≤ d.nodes.length ∧ e'.length = 77 ∧ ev e' (.tmp 2) = .t (tMat ls) ∧ ev e' (.tmp 3) = .ptr s.next 0 ∧ ev e' (.tmp 4) = .ptr (s.next + 1) 0 ∧ ev e' (.tmp 30) = .t (l1q d.nodes) ∧ ev e' (.tmp 31) = I d.nodes.length ∧ ev e' (.tmp 32) = I k ∧ DjI s d t s' ∧ ∀ (j : Nat) (o : Ob) (g : List Int), j < k → d.nodes[j]? = some o → ls[j]? = some g → arrS o t g = true) (⟨0, rfl, Nat.zero_le _, ?_⟩) ?_
  ·try simp only [a0q, a4q, Nat.reduceBEq, lpv, hl, h2, Nat.reduceLT, true_and]
   repeat ((with_reducible refine And.intro ?_ ?_); · trivial)
   exact ⟨DjI.init s d t, fun j o g hj _ _ => absurd hj (by omega)⟩
  rintro mm e s1 ⟨k, rfl, hle_k, hl, k2, k3, k4, k30, k31, h_k, hst, hal1⟩
  refine vsk fun K9 hK9 => ?_
  refine a3q 0 [] ?_
  simp only [a1q, opII, k31, h_k, wocs, ↓goc, ↓woc]
  refine hK9 _ _ ?_
  refine vsk fun K10 hK10 => ?_
  refine vck fun A B hA hB => ?_
  simp only [b5q, a0q, Nat.reduceLT, decide_eq_true_eq, decide_eq_false_iff_not, hl]
  refine ⟨fun hc33 => hA ?_, fun hc33 => hB ?_⟩
  ·clear hA hB A B
   refine b1q ?_
   refine hK10 _ _ ?_
   refine vsk fun K11 hK11 => ?_
   refine a5q ?_
   refine vsk fun K12 hK12 => ?_
   have hlt : k < d.nodes.length := by omega
   obtain ⟨o, ho⟩ : ∃ o, d.nodes[k]? = some o := ⟨_, List.getElem?_eq_getElem hlt⟩
   have g0 := i0x ho
   have hfl := l7q d.nodes
   have hi2 : k * 2 < d.nodes.length * 2 := by omega
   refine a3q 0 [] ?_
   simp only [bs, Nat.reduceAdd, ↓vopx, ↓vop, Nat.reduceBEq, a1q, Nat.reduceLT, V.cells, a7q, a8q, hl, k30, h_k, wocs, ↓goc, ↓woc, ↓a2q, Tryd.ag25, Tryd.sz25, Tryd.un59, Tryd.zv25, g0, hfl, hi2]
   refine hK12 _ _ ?_
   refine vsk fun K13 hK13 => ?_
   refine d6q fun e2 sb hE2 hSb => ?_
   subst hE2
   have hIb : DjI s d t sb := by rw [hSb]; exact (hst.add _).set hst.nx _
   have hbx : sb.m s1.next = some (.box 25 [.t (b7q o.labels), .t (a9q o.pairs)]) := by rw [hSb]; simp only [b6q, if_true]; try rfl
   clear hSb
   have hbt := hIb.c
   have o1 := L.o1 o (List.mem_of_getElem? ho)
   have o2 := L.o2 o (List.mem_of_getElem? ho)
   obtain ⟨g, hg⟩ : ∃ g, ls[k]? = some g := ⟨_, List.getElem?_eq_getElem (by omega)⟩
   have hgl := hls g (List.mem_of_getElem? hg)
   refine d2q Tryd.mixed 6 [1, 1, 0, 0, 1, 1] [.pur (Bo (arrS o t g))] [] 0 (by decide +kernel) (by simp [lpv, hl]) rfl ?_
   simp only [bs, Nat.reduceAdd, ↓vopx, ↓vop, Nat.reduceBEq, a1q, Nat.reduceLT, a7q, a8q, hl, k2, k4, wocs, ↓goc, ↓woc, ↓a2q, ↓e7q, ↓c4q, a6q, chn, ↓goq, ↓woq, List.zip_cons_cons, List.zip_nil_right, Tryd.ag25, Tryd.ag26, Tryd.sz25, Tryd.sz26, Tryd.un63, hbx, hbt, hg]
   repeat ((with_reducible refine And.intro ?_ ?_); · first | omega | exact ⟨Tryd.is34, e9j o t g (by omega) (by omega) (by omega) (by omega) (by omega)⟩)
   refine hK13 _ _ ?_
   refine vck fun A B hA hB => ?_
   simp only [b5q, a0q, lpv, Nat.reduceLT, Bool.not_eq_true', Bool.not_eq_false', hl]
   refine ⟨fun hc44 => hA ?_, fun hc44 => hB ?_⟩
   ·clear hA hB A B
    refine vsk fun K14 hK14 => ?_
    refine a3q 0 [] ?_
    simp only [bs, ↓vopx, ↓vop, a1q, flat, wocs, ↓goc, ↓woc, ↓a2q]
    refine hK14 _ _ ?_
    refine b3q ?_
    rw [show k9q d t ls = false from lg_o ho hg hc44] at hQ
    refine hQ _ _ _ (.inr rfl) (b2q ?_ fun n b hn h => (hIb.same n hn).trans h)
    try simp only [a0q, lpv, hl, Nat.reduceLT]
   ·clear hA hB A B
    refine b1q ?_
    refine hK11 _ _ ?_
    refine a3q 0 [] ?_
    simp only [bs, ↓vopx, ↓vop, Nat.reduceBEq, a1q, flat, Nat.reduceLT, opII, hl, k2, k3, k4, k30, k31, h_k, wocs, ↓goc, ↓woc, ↓a2q]
    repeat ((with_reducible refine And.intro ?_ ?_); · exact ⟨by omega, by omega⟩)
    refine ⟨d.nodes.length - (k + 1), by omega, k + 1, rfl, by omega, ?_⟩
    try simp only [a0q, a4q, Nat.reduceBEq, lpv, hl, k2, k3, k4, k30, k31, h_k, if_true, if_false, Nat.reduceEqDiff, Nat.reduceLT, true_and, and_true]
    repeat ((with_reducible refine And.intro ?_ ?_); · trivial)
    intro j o2 g2 hj ho2 hg2
    rcases Nat.lt_succ_iff_lt_or_eq.1 hj with h | h
    ·exact hal1 j o2 g2 h ho2 hg2
    ·subst h; rw [ho] at ho2; cases ho2; rw [hg] at hg2; cases hg2; exact hc44
  ·clear hA hB A B
   have hka : k = d.nodes.length := by omega
   refine c8q ?_
   simp only [a1q, c0q, if_true]
   refine hK7 _ _ ?_
   refine vsk fun K15 hK15 => ?_
   refine vsk fun K16 hK16 => ?_
   have hb62 := hst.b
   refine a3q 0 [] ?_
   simp only [bs, ↓vopx, ↓vop, Nat.reduceBEq, a1q, flat, Nat.reduceLT, a7q, a8q, hl, k3, wocs, ↓goc, ↓woc, ↓a2q, Tryd.ag60, Tryd.fd62_1, Tryd.sz60, Tryd.un60, u7q, nns, hb62]
   refine hK16 _ _ ?_
   refine a5q ?_
   refine d0q (fun mm e' s' => ∃ k : Nat, mm = d.arrs.length - k ∧ k ≤ d.arrs.length ∧ e'.length = 77 ∧ ev e' (.tmp 2) = .t (tMat ls) ∧ ev e' (.tmp 3) = .ptr s.next 0 ∧ ev e' (.tmp 4) = .ptr (s.next + 1) 0 ∧ ev e' (.tmp 47) = .t (tArs d.arrs) ∧ ev e' (.tmp 48) = I d.arrs.length ∧ ev e' (.tmp 49) = I k ∧ DjI s d t s' ∧ ∀ (j : Nat) (x : Ar), j < k → d.arrs[j]? = some x → alS d ls x = true) (⟨0, rfl, Nat.zero_le _, ?_⟩) ?_
   ·try simp only [a0q, a4q, Nat.reduceBEq, lpv, hl, k2, k3, k4, Nat.reduceLT, true_and]
    repeat ((with_reducible refine And.intro ?_ ?_); · trivial)
    exact fun j x hj _ => absurd hj (by omega)
   rintro mm e s1 ⟨k, rfl, hle_k, hl, q2, q3, q4, q47, q48, h_k, hst, hal2⟩
   refine vsk fun K17 hK17 => ?_
   refine a3q 0 [] ?_
   simp only [a1q, opII, q48, h_k, wocs, ↓goc, ↓woc]
   refine hK17 _ _ ?_
   refine vsk fun K18 hK18 => ?_
   refine vck fun A B hA hB => ?_
   simp only [b5q, a0q, Nat.reduceLT, decide_eq_true_eq, decide_eq_false_iff_not, hl]
   refine ⟨fun hc50 => hA ?_, fun hc50 => hB ?_⟩
   ·clear hA hB A B
    refine b1q ?_
    refine hK18 _ _ ?_
    refine vsk fun K19 hK19 => ?_
    refine a5q ?_
    refine vsk fun K20 hK20 => ?_
    have hlt : k < d.arrs.length := by omega
    obtain ⟨x, hx⟩ : ∃ x, d.arrs[k]? = some x := ⟨_, List.getElem?_eq_getElem hlt⟩
    have g0 := dropA hx
    have hfl := q8q d.arrs
    have hi2 : k * 3 < d.arrs.length * 3 := by omega
    refine a3q 0 [] ?_
    simp only [bs, Nat.reduceAdd, ↓vopx, ↓vop, Nat.reduceBEq, a1q, Nat.reduceLT, V.cells, a7q, a8q, hl, q47, h_k, wocs, ↓goc, ↓woc, ↓a2q, Tryd.ag72, Tryd.sz72, Tryd.un60, Tryd.zv72, g0, hfl, hi2]
    refine hK20 _ _ ?_
    refine vsk fun K21 hK21 => ?_
    refine d6q fun e2 sb hE2 hSb => ?_
    subst hE2
    have hIb : DjI s d t sb := by rw [hSb]; exact (hst.add _).set hst.nx _
    have hbx : sb.m s1.next = some (.box 72 [.t (TI x.fr), .t (TI x.to), .t (b0q x.mp)]) := by rw [hSb]; simp only [b6q, if_true]; try rfl
    clear hSb
    have la := L.a x (List.mem_of_getElem? hx)
    obtain ⟨a, b, f0, hA, t0, hB, hab⟩ := (d3z.1 r1).ar x (List.mem_of_getElem? hx)
    have hlA := (List.getElem?_eq_some_iff.1 hA).1
    have hlB := (List.getElem?_eq_some_iff.1 hB).1
    obtain ⟨gf, hgf⟩ : ∃ g, ls[x.fr.toNat]? = some g := ⟨_, List.getElem?_eq_getElem (by omega)⟩
    obtain ⟨gt, hgt⟩ : ∃ g, ls[x.to.toNat]? = some g := ⟨_, List.getElem?_eq_getElem (by omega)⟩
    have hgtl := hls gt (List.mem_of_getElem? hgt)
    have hgfl := hls gf (List.mem_of_getElem? hgf)
    have hal : alS d ls x = ((thenS x.mp gt).2 && ((thenS x.mp gt).1 == gf)) := by unfold alS; rw [fAtL hgf, fAtL hgt]
    have htl := u4z x.mp gt
    refine d2q Tryd.mixed 12 [0, 1, 0, 0, 1, 1, 1, 0, 0, 0, 0, 0] [.pur (.tup [.t (b0q (thenS x.mp gt).1), Bo (thenS x.mp gt).2])] [] 0 (by decide +kernel) (by simp [lpv, hl]) rfl ?_
    simp only [bs, ↓vopx, ↓vop, Nat.reduceBEq, a1q, Nat.reduceLT, a7q, a8q, hl, q2, wocs, ↓goc, ↓woc, ↓a2q, ↓e7q, a6q, chn, ↓goq, ↓woq, ↓g1z, List.zip_cons_cons, List.zip_nil_right, Tryd.ag26, Tryd.ag3, Tryd.fd72_1, Tryd.fd72_2, Tryd.sz26, Tryd.sz3, Tryd.un63, nns, hbx, hgt]
    repeat ((with_reducible refine And.intro ?_ ?_); · first | (with_reducible assumption) | omega | exact ⟨Tryd.is32, then_ x.mp gt (by omega) (by omega)⟩)
    refine hK21 _ _ ?_
    refine vsk fun K22 hK22 => ?_
    rcases (show (thenS x.mp gt).2 = false ∨ (thenS x.mp gt).2 = true by cases (thenS x.mp gt).2 <;> simp) with r4 | r4
    ·refine a3q 0 [] ?_
     simp only [bs, ↓vopx, ↓vop, Nat.reduceBEq, a1q, flat, Nat.reduceLT, gtmp, hl, wocs, ↓goc, ↓woc, ↓a2q, ↓e8q, r4]
     refine hK22 _ _ ?_
     refine vck fun A B hA hB => ?_
     simp only [b5q, a0q, lpv, Nat.reduceLT, true_implies, reduceCtorEq, false_implies, and_true, hl]
     refine hA ?_
     clear hA hB A B
     refine vsk fun K23 hK23 => ?_
     refine a3q 0 [] ?_
     simp only [bs, ↓vopx, ↓vop, a1q, flat, wocs, ↓goc, ↓woc, ↓a2q]
     refine hK23 _ _ ?_
     refine b3q ?_
     rw [show k9q d t ls = false from lg_a hx (by rw [hal, r4]; rfl)] at hQ
     refine hQ _ _ _ (.inr rfl) (b2q ?_ fun n b hn h => (hIb.same n hn).trans h)
     try simp only [a0q, lpv, hl, Nat.reduceLT]
    ·refine a3q 0 [.pur (Bo ((thenS x.mp gt).1 == gf))] ?_
     simp only [bs, ↓vopx, ↓vop, Nat.reduceBEq, a1q, flat, Nat.reduceLT, a7q, a8q, gtmp, hl, q2, wocs, ↓goc, ↓woc, ↓a2q, ↓c4q, ↓d1q, a6q, Tryd.ag26, Tryd.ag3, Tryd.fd72_0, Tryd.sz26, Tryd.sz3, Tryd.un63, nns, hbx, hgf, r4]
     repeat ((with_reducible refine And.intro ?_ ?_); · first | (with_reducible assumption) | omega | exact ⟨Tryd.is33, h7x (thenS x.mp gt).1 gf (by omega) (by omega)⟩)
     refine hK22 _ _ ?_
     refine vck fun A B hA hB => ?_
     simp only [b5q, a0q, lpv, Nat.reduceLT, Bool.not_eq_true', Bool.not_eq_false', beq_iff_eq, beq_eq_false_iff_ne, ne_eq, hl]
     refine ⟨fun hc75 => hA ?_, fun hc75 => hB ?_⟩
     ·clear hA hB A B
      refine vsk fun K24 hK24 => ?_
      refine a3q 0 [] ?_
      simp only [bs, ↓vopx, ↓vop, a1q, flat, wocs, ↓goc, ↓woc, ↓a2q]
      refine hK24 _ _ ?_
      refine b3q ?_
      rw [show k9q d t ls = false from lg_a hx (by rw [hal, r4]; simp [hc75])] at hQ
      refine hQ _ _ _ (.inr rfl) (b2q ?_ fun n b hn h => (hIb.same n hn).trans h)
      try simp only [a0q, lpv, hl, Nat.reduceLT]
     ·clear hA hB A B
      refine b1q ?_
      refine hK19 _ _ ?_
      refine a3q 0 [] ?_
      simp only [bs, ↓vopx, ↓vop, Nat.reduceBEq, a1q, flat, Nat.reduceLT, opII, hl, q2, q3, q4, q47, q48, h_k, wocs, ↓goc, ↓woc, ↓a2q]
      repeat ((with_reducible refine And.intro ?_ ?_); · exact ⟨by omega, by omega⟩)
      refine ⟨d.arrs.length - (k + 1), by omega, k + 1, rfl, by omega, ?_⟩
      try simp only [a0q, a4q, Nat.reduceBEq, lpv, hl, q2, q3, q4, q47, q48, h_k, if_true, if_false, Nat.reduceEqDiff, Nat.reduceLT, true_and, and_true]
      repeat ((with_reducible refine And.intro ?_ ?_); · trivial)
      intro j x2 hj hx2
      rcases Nat.lt_succ_iff_lt_or_eq.1 hj with h | h
      ·exact hal2 j x2 h hx2
      ·subst h; rw [hx] at hx2; cases hx2; rw [hal, r4]; simp [hc75]
   ·clear hA hB A B
    have hkb : k = d.arrs.length := by omega
    refine c8q ?_
    simp only [a1q, c0q, if_true]
    refine hK15 _ _ ?_
    refine vsk fun K25 hK25 => ?_
    refine a3q 0 [] ?_
    simp only [bs, ↓vopx, ↓vop, a1q, flat, wocs, ↓goc, ↓woc, ↓a2q]
    refine hK25 _ _ ?_
    refine b3q ?_
    rw [lg_ok r1 r2 r3 (by rw [← hka]; exact hal1) (by rw [← hkb]; exact hal2)] at hQ
    refine hQ _ _ _ (.inr rfl) (b2q ?_ fun n b hn h => (hst.same n hn).trans h)
    try simp only [a0q, lpv, hl, Nat.reduceLT]
set_option maxRecDepth 20000 in
set_option maxHeartbeats 8000000 in
theorem x8z (d : Dia) (L : DiaLim d) (hp2 : ∀ o ∈ d.nodes, o.pairs.length ≤ 1000) (t : Ob) (ls : List (List Int)) (ht1 : t.labels.length < 1000000) (ht2 : t.pairs.length < 1000000) (hl0 : ls.length < 1000000) (hls : ∀ g ∈ ls, g.length < 1000000) : g3q Tryd.prog 49 [vDia d, vObj t, .t (tMat ls)] (vMed (medD d t ls)) := by
 refine b9q Tryd.func49 rfl fun s Q hQ => ?_
 obtain ⟨e, he, hl, h0, h1, h2⟩ : ∃ e : Env, ([vDia d, vObj t, .t (tMat ls)] ++ List.replicate (Tryd.f49.ntmps - ([vDia d, vObj t, .t (tMat ls)] : List V).length) .junk) = e ∧ e.length = 38 ∧ ev e (.tmp 0) = vDia d ∧ ev e (.tmp 1) = vObj t ∧ ev e (.tmp 2) = .t (tMat ls) := ⟨_, rfl, rfl, rfl, rfl, rfl⟩
 rw [he]
 clear he
 refine vsk fun K1 hK1 => ?_
 refine a3q 0 [] ?_
 simp only [bs, ↓vopx, ↓vop, Nat.reduceBEq, a1q, flat, V.cells, h0, h1, wocs, ↓goc, ↓woc, ↓a2q]
 refine hK1 _ _ ?_
 refine vsk fun K2 hK2 => ?_
 refine x4q fun eqa hE => ?_
 obtain ⟨hlqa, qa_2, qa_3, qa_4⟩ : eqa.length = 38 ∧ ev eqa (.tmp 2) = .t (tMat ls) ∧ ev eqa (.tmp 3) = .ptr s.next 0 ∧ ev eqa (.tmp 4) = .ptr (s.next + 1) 0 := by
  (repeat' (with_reducible refine And.intro ?_ ?_)) <;> (rw [hE]; simp only [lpv, hl, a4q, Nat.reduceBEq, h2, a0q, Nat.reduceLT])
 clear hE
 refine o2q fun sqa hS => ?_
 obtain ⟨qaB0, qaB1, hnqa⟩ : sqa.m (s.next) = some (.box 62 [.t (l1q d.nodes), .t (tArs d.arrs)]) ∧ sqa.m (s.next + 1) = some (.box 25 [.t (b7q t.labels), .t (a9q t.pairs)]) ∧ sqa.next = s.next + 1 + 1 := by
  (repeat' (with_reducible refine And.intro ?_ ?_)) <;> (rw [hS]; simp only [c5q, c9q, nns, if_true, if_false])
 have hkqa : ∀ j, j < s.next → sqa.m j = s.m j := fun j hj => by have z0 : ¬ j = s.next := (by omega); have z1 : ¬ j = s.next + 1 := (by omega); rw [hS]; simp only [c5q, c9q, z0, z1, if_false]
 clear hS
 obtain ⟨q, own, ec, hR⟩ : ∃ q own ec, colS d = (q, own, ec) := ⟨_, _, _, rfl⟩
 have hcs := v9z d
 have hm0 : medD d t ls = if ec ≠ 0 then ([], ec) else if 40 < t.labels.length then ([], 11) else if k9q d t ls = false then ([], 12) else (outS q.labels.length own ls, 0) := by unfold medD; rw [hR]
 rw [hR] at hcs
 refine a3q 0 [.pur (.tup [vObj q, .t (tMat own), I ec])] ?_
 simp only [bs, Nat.reduceAdd, ↓vopx, ↓vop, Nat.reduceBEq, a1q, Nat.reduceLT, V.cells, a7q, a8q, hlqa, qa_3, qaB0, hnqa, wocs, ↓goc, ↓woc, ↓a2q, ↓c4q, a6q, Tryd.ag62, Tryd.sz25, Tryd.sz62, Tryd.zv25]
 repeat ((with_reducible refine And.intro ?_ ?_); · exact ⟨Tryd.is50, by have := n1x d L hp2; rw [hR] at this; exact this⟩)
 refine hK2 _ _ ?_
 refine vsk fun K3 hK3 => ?_
 refine a5q ?_
 refine vsk fun K4 hK4 => ?_
 refine x4q fun eqb hE => ?_
 obtain ⟨hlqb, qb_2, qb_3, qb_4, qb_8, qb_9, qb_10⟩ : eqb.length = 38 ∧ ev eqb (.tmp 2) = .t (tMat ls) ∧ ev eqb (.tmp 3) = .ptr s.next 0 ∧ ev eqb (.tmp 4) = .ptr (s.next + 1) 0 ∧ ev eqb (.tmp 8) = .ptr (s.next + 1 + 1) 0 ∧ ev eqb (.tmp 9) = .t (tMat own) ∧ ev eqb (.tmp 10) = I ec := by
  (repeat' (with_reducible refine And.intro ?_ ?_)) <;> (rw [hE]; simp only [lpv, hlqa, a4q, Nat.reduceBEq, qa_2, qa_3, qa_4, a0q, Nat.reduceLT])
 clear hE
 refine o2q fun sqb hS => ?_
 obtain ⟨qbB0, qbB1, qbB2, hnqb⟩ : sqb.m (s.next) = some (.box 62 [.t (l1q d.nodes), .t (tArs d.arrs)]) ∧ sqb.m (s.next + 1) = some (.box 25 [.t (b7q t.labels), .t (a9q t.pairs)]) ∧ sqb.m (s.next + 1 + 1) = some (.box 25 [.t (b7q q.labels), .t (a9q q.pairs)]) ∧ sqb.next = s.next + 1 + 1 + 1 := by
  (repeat' (with_reducible refine And.intro ?_ ?_)) <;> (rw [hS]; simp only [b6q, c5q, nns, if_false, qaB0, hnqa, qaB1, if_true, c9q, i6q])
 have hkqb : ∀ j, j < s.next → sqb.m j = s.m j := fun j hj => by have z0 : ¬ j = s.next := (by omega); have z1 : ¬ j = s.next + 1 := (by omega); have z2 : ¬ j = s.next + 1 + 1 := (by omega); rw [hS]; simp only [b6q, c5q, hnqa, z2, if_false, hkqa j hj]
 clear hS
 rcases hcs with ⟨e, he0, hcs⟩ | ⟨hcs, hD, h40⟩
 ·obtain ⟨rfl, rfl, rfl⟩ : q = noOb ∧ own = [] ∧ ec = e := by simpa only [Prod.mk.injEq] using hcs
  refine a3q 0 [] ?_
  simp only [bs, ↓vopx, ↓vop, a1q, flat, Nat.reduceLT, opII, hlqb, qb_10, wocs, ↓goc, ↓woc, ↓a2q]
  refine hK4 _ _ ?_
  refine vck fun A B hA hB => ?_
  simp only [b5q, a0q, lpv, Nat.reduceLT, bne_iff_ne, bne_eq_false_iff_eq, ne_eq, true_implies, false_implies, and_true, hlqb, he0, not_false_eq_true]
  refine hA ?_
  clear hA hB A B
  refine vsk fun K5 hK5 => ?_
  refine a3q 0 [] ?_
  simp only [bs, ↓vopx, ↓vop, Nat.reduceBEq, a1q, flat, Nat.reduceLT, hlqb, qb_10, wocs, ↓goc, ↓woc, ↓a2q]
  refine hK5 _ _ ?_
  refine b3q ?_
  rw [show medD d t ls = ([], ec) from by rw [hm0, if_pos he0]] at hQ
  refine hQ _ _ _ (.inr rfl) (j0q (by omega) ?_ ?_ fun n b hn h => (hkqb n hn).trans h)
  ·simp only [a0q, a4q, Nat.reduceBEq, lpv, hlqb, Nat.reduceLT]
  ·simp only [a0q, lpv, hlqb, Nat.reduceLT]; try rfl
 ·obtain ⟨rfl, rfl, rfl⟩ : q = p8q d ∧ own = g4q d ∧ ec = 0 := by simpa only [Prod.mk.injEq] using hcs
  refine a3q 0 [] ?_
  simp only [bs, ↓vopx, ↓vop, a1q, flat, Nat.reduceLT, opII, hlqb, qb_10, wocs, ↓goc, ↓woc, ↓a2q]
  refine hK4 _ _ ?_
  refine vck fun A B hA hB => ?_
  simp only [b5q, a0q, lpv, Nat.reduceLT, bne_iff_ne, bne_eq_false_iff_eq, ne_eq, true_implies, false_implies, true_and, hlqb, not_true_eq_false]
  refine hB ?_
  clear hA hB A B
  refine vsk fun K6 hK6 => ?_
  rcases (show (t.labels.length : Int) > 40 ∨ ¬ (t.labels.length : Int) > 40 by omega) with hd0 | hd0
  ·refine a3q 0 [] ?_
   simp only [bs, ↓vopx, ↓vop, Nat.reduceBEq, a1q, flat, Nat.reduceLT, a7q, a8q, opII, hlqb, qb_4, qbB1, wocs, ↓goc, ↓woc, ↓a2q, Tryd.ag22, Tryd.fd25_0, Tryd.sz22, Tryd.un22, c7q, nns, hd0]
   refine hK6 _ _ ?_
   refine vck fun A B hA hB => ?_
   simp only [b5q, a0q, lpv, Nat.reduceLT, true_implies, reduceCtorEq, false_implies, and_true, hlqb]
   refine hA ?_
   clear hA hB A B
   refine vsk fun K7 hK7 => ?_
   refine a3q 0 [] ?_
   simp only [bs, ↓vopx, ↓vop, a1q, flat, wocs, ↓goc, ↓woc, ↓a2q]
   refine hK7 _ _ ?_
   refine b3q ?_
   rw [show medD d t ls = ([], 11) from by rw [hm0, if_neg (by simp), if_pos (by omega)]] at hQ
   refine hQ _ _ _ (.inr rfl) (j0q (by omega) ?_ ?_ fun n b hn h => (hkqb n hn).trans h)
   ·simp only [a0q, a4q, Nat.reduceBEq, lpv, hlqb, Nat.reduceLT]
   ·simp only [a0q, lpv, hlqb, Nat.reduceLT]; try rfl
  ·refine a3q 0 [] ?_
   simp only [bs, ↓vopx, ↓vop, Nat.reduceBEq, a1q, flat, Nat.reduceLT, a7q, a8q, opII, hlqb, qb_4, qbB1, wocs, ↓goc, ↓woc, ↓a2q, Tryd.ag22, Tryd.fd25_0, Tryd.sz22, Tryd.un22, c7q, nns, hd0]
   refine hK6 _ _ ?_
   refine vck fun A B hA hB => ?_
   simp only [b5q, a0q, lpv, Nat.reduceLT, true_implies, reduceCtorEq, false_implies, true_and, hlqb]
   refine hB ?_
   clear hA hB A B
   refine vsk fun K8 hK8 => ?_
   rcases (show k9q d t ls = false ∨ k9q d t ls = true by cases k9q d t ls <;> simp) with hc0 | hc0
   ·refine a3q 0 [.pur (Bo (k9q d t ls))] ?_
    simp only [bs, Nat.reduceAdd, ↓vopx, ↓vop, Nat.reduceBEq, a1q, Nat.reduceLT, a7q, a8q, hlqb, qb_2, qb_3, qb_4, qbB0, qbB1, wocs, ↓goc, ↓woc, ↓a2q, ↓c4q, a6q, Tryd.ag25, Tryd.ag62, Tryd.sz25, Tryd.sz62, hc0]
    repeat ((with_reducible refine And.intro ?_ ?_); · exact ⟨Tryd.is51, by simpa only [hc0] using legs_ d L t ls ht1 ht2 hl0 hls⟩)
    refine hK8 _ _ ?_
    refine vck fun A B hA hB => ?_
    simp only [b5q, a0q, lpv, Nat.reduceLT, true_implies, reduceCtorEq, false_implies, and_true, hlqb]
    refine hA ?_
    clear hA hB A B
    refine vsk fun K9 hK9 => ?_
    refine a3q 0 [] ?_
    simp only [bs, ↓vopx, ↓vop, a1q, flat, wocs, ↓goc, ↓woc, ↓a2q]
    refine hK9 _ _ ?_
    refine b3q ?_
    rw [show medD d t ls = ([], 12) from by rw [hm0, if_neg (by simp), if_neg (by omega), if_pos hc0]] at hQ
    refine hQ _ _ _ (.inr rfl) (j0q (by omega) ?_ ?_ fun n b hn h => (hkqb n hn).trans h)
    ·simp only [a0q, a4q, Nat.reduceBEq, lpv, hlqb, Nat.reduceLT]
    ·simp only [a0q, lpv, hlqb, Nat.reduceLT]; try rfl
   ·refine a3q 0 [.pur (Bo (k9q d t ls))] ?_
    simp only [bs, Nat.reduceAdd, ↓vopx, ↓vop, Nat.reduceBEq, a1q, Nat.reduceLT, a7q, a8q, hlqb, qb_2, qb_3, qb_4, qbB0, qbB1, wocs, ↓goc, ↓woc, ↓a2q, ↓c4q, a6q, Tryd.ag25, Tryd.ag62, Tryd.sz25, Tryd.sz62, hc0]
    repeat ((with_reducible refine And.intro ?_ ?_); · exact ⟨Tryd.is51, by simpa only [hc0] using legs_ d L t ls ht1 ht2 hl0 hls⟩)
    refine hK8 _ _ ?_
    refine vck fun A B hA hB => ?_
    simp only [b5q, a0q, lpv, Nat.reduceLT, true_implies, reduceCtorEq, false_implies, true_and, hlqb]
    refine hB ?_
    clear hA hB A B
    refine b1q ?_
    refine hK3 _ _ ?_
    refine vsk fun K10 hK10 => ?_
    have hob := glq40 hD h40
    refine a3q 0 [.pur (.t (b0q (outS (p8q d).labels.length (g4q d) ls)))] ?_
    simp only [bs, ↓vopx, ↓vop, Nat.reduceBEq, a1q, flat, Nat.reduceLT, a7q, a8q, hlqb, qb_2, qb_8, qb_9, qbB2, wocs, ↓goc, ↓woc, ↓a2q, ↓c4q, a6q, Tryd.ag22, Tryd.fd25_0, Tryd.sz22, Tryd.un22, c7q, nns]
    repeat ((with_reducible refine And.intro ?_ ?_); · exact ⟨Tryd.is81, out_cl hD h40 (a8z.1 hc0).2.2.1⟩)
    refine hK10 _ _ ?_
    refine b3q ?_
    rw [show medD d t ls = (outS (p8q d).labels.length (g4q d) ls, 0) from by rw [hm0, if_neg (by simp), if_neg (by omega), if_neg (by rw [hc0]; simp)]] at hQ
    refine hQ _ _ _ (.inr rfl) (n8x ?_ ?_ fun n b hn h => (hkqb n hn).trans h)
    ·simp only [a0q, a4q, Nat.reduceBEq, lpv, hlqb, Nat.reduceLT]
    ·simp only [a0q, lpv, hlqb, Nat.reduceLT]; try rfl
end Go.Proofs

open Go Go.V
namespace Go.Proofs
abbrev k7x : ByteArray := ⟨#[120]⟩
abbrev k7y : ByteArray := ⟨#[121]⟩
abbrev k7z : ByteArray := ⟨#[122]⟩
abbrev k7A : Ob := ⟨[k7x], []⟩
abbrev k7B : Ob := ⟨[k7x, k7y], [(0, 1)]⟩
abbrev k7C : Ob := ⟨[k7z, k7x], [(0, 1)]⟩
end Go.Proofs

open Go Go.V
namespace Go.Proofs
def q7 : Ob × List Int × List Int × Int := pushS k7A k7B k7C [0] [0]
theorem x4q {P : Program} {c : Code} {Q : Exit → Env → Sg → Prop} {e : Env} {s : Sg} (h : ∀ e1, e1 = e → VW P c Q e1 s) : VW P c Q e s := h e rfl
end Go.Proofs

open Go Go.V
namespace Go.Proofs
abbrev k9D : Dia := ⟨[k7A, k7A, k7A], [⟨0, 1, [0]⟩]⟩
abbrev k9Q : Ob := ⟨[k7x, k7x], []⟩
theorem k9_c : (colS k9D).1.labels = [k7x, k7x] ∧ (colS k9D).1.pairs = [] ∧ (colS k9D).2.1 = [[0], [0], [1]] ∧ (colS k9D).2.2 = 0 := by decide +kernel
theorem k9_m1 : medD k9D k7A [[0], [0], [0]] = ([0, 0], 0) := by decide +kernel
theorem k9_m2 : medD k9D k7A [[0], [0]] = ([], 12) := by decide +kernel
theorem k9_d : diaS k9D = true := by decide +kernel
theorem k9_l : k9q k9D k9Q [[0], [0], [1]] = true := by decide +kernel
theorem x3z : DiaLim k9D := ⟨by decide, by decide, by decide, by decide, by decide⟩
theorem c1x : ∀ o ∈ k9D.nodes, o.pairs.length ≤ 1000 := by decide
theorem kc9_of : g3q Tryd.prog 50 [vDia k9D] (.tup [vObj k9Q, .t (tMat [[0], [0], [1]]), I 0]) := by
 have h := n1x k9D x3z c1x
 have e : colS k9D = (k9Q, [[0], [0], [1]], 0) := by
  obtain ⟨h1, h2, h3, h4⟩ := k9_c
  generalize colS k9D = r at h1 h2 h3 h4
  obtain ⟨⟨a, b⟩, c, e⟩ := r
  simp only at h1 h2 h3 h4
  rw [h1, h2, h3, h4]
 rw [e] at h
 exact h
theorem kc9_m1 : g3q Tryd.prog 49 [vDia k9D, vObj k7A, .t (tMat [[0], [0], [0]])] (.tup [.t (b0q [0, 0]), I 0]) := by
 have h := x8z k9D x3z c1x k7A [[0], [0], [0]] (by decide) (by decide) (by decide) (by decide)
 rw [k9_m1] at h
 exact h
theorem kc9_m2 : g3q Tryd.prog 49 [vDia k9D, vObj k7A, .t (tMat [[0], [0]])] (.tup [.t (b0q []), I 12]) := by
 have h := x8z k9D x3z c1x k7A [[0], [0]] (by decide) (by decide) (by decide) (by decide)
 rw [k9_m2] at h
 exact h
theorem kc9_d : g3q Tryd.prog 82 [vDia k9D] (Bo true) := by
 have h := k2z k9D x3z
 rw [k9_d] at h
 exact h
theorem kc9_l : g3q Tryd.prog 51 [vDia k9D, vObj k9Q, .t (tMat [[0], [0], [1]])] (Bo true) := by
 have h := legs_ k9D x3z k9Q [[0], [0], [1]] (by decide) (by decide) (by decide) (by decide)
 rw [k9_l] at h
 exact h
theorem i9z (cs : List T) : vlen (.t (.sl 1 cs)) = some cs.length := by simp [vlen]
theorem tn2 : Int.toNat 2 = 2 := rfl
theorem nd1' : ((1 : Nat) : Int) = 1 := rfl
theorem nd2' : ((2 : Nat) : Int) = 2 := rfl
theorem nd3' : ((3 : Nat) : Int) = 3 := rfl
theorem s6a {α : Type} (a b c d e f x y : α) : setAll [a, b, c, d, e, f] 0 [x, y] = [x, y, c, d, e, f] := rfl
theorem s6b {α : Type} (a b c d e f x y : α) : setAll [a, b, c, d, e, f] 2 [x, y] = [a, b, x, y, e, f] := rfl
theorem s6c {α : Type} (a b c d e f x y : α) : setAll [a, b, c, d, e, f] 4 [x, y] = [a, b, c, d, x, y] := rfl
theorem s3a {α : Type} (a b c x y z : α) : setAll [a, b, c] 0 [x, y, z] = [x, y, z] := rfl
set_option maxRecDepth 20000 in
set_option maxHeartbeats 8000000 in
theorem known9_  : g3q Tryd.prog 45 [] (Bo true) := by
 refine b9q Tryd.func45 rfl fun s Q hQ => ?_
 obtain ⟨e, he, hl⟩ : ∃ e : Env, ([] ++ List.replicate (Tryd.f45.ntmps - ([] : List V).length) .junk) = e ∧ e.length = 111 := ⟨_, rfl, rfl⟩
 rw [he]
 clear he
 refine vsk fun K1 hK1 => ?_
 refine a3q 0 [] ?_
 simp only [bs, ↓vopx, ↓vop, a1q, flat, wocs, ↓goc, ↓woc, ↓a2q]
 refine hK1 _ _ ?_
 refine vsk fun K2 hK2 => ?_
 refine n1z 4 rfl ?_
 refine f4q 1 0 2 2 [] [] (by decide +kernel) (by decide) fun ops' KC hgs hKC => ?_
 simp only [bs, Nat.reduceLeDiff, Nat.reduceAdd, d8q, g2q, repl, Sg.frzP, ↓vopx, flat, Nat.reduceLT, V.cells, Sg.frzL, Sg.frz1, hl, wocs, ↓goc, ↓woc, ↓e7q, Tryd.sl22, Tryd.st25]
 refine hKC _ _ ?_
 clear hgs hKC KC ops'
 refine n9q fun e1_0 hE => ?_
 obtain ⟨hl1_0, q11⟩ : e1_0.length = 111 ∧ ev e1_0 (.tmp 11) = .agg [.t (.sl 1 [.v (.string k7x)]), .t (.v (.slice none 0 0))] := by
  (repeat' (with_reducible refine And.intro ?_ ?_)) <;> (rw [hE]; simp only [lpv, hl, a0q, Nat.reduceLT])
 clear hE
 refine f4q 1 2 2 0 [] [] (by decide +kernel) (by decide) fun ops' KC hgs hKC => ?_
 simp only [bs, Nat.reduceAdd, ↓vopx, ↓vop, Nat.reduceBEq, Nat.reduceLT, V.cells, hl1_0, q11, wocs, ↓goc, ↓woc, ↓e7q, Tryd.sz25, Tryd.zv25]
 refine hKC _ _ ?_
 clear hgs hKC KC ops'
 refine c7z ?_
 try simp only [a1q]
 refine hK2 _ _ ?_
 refine vsk fun K3 hK3 => ?_
 refine VW.nilBox (s.next) 1 2 (by omega) (ty := 25) (vs := [.t (.sl 1 [.v (.string k7x)]), .t (.v (.slice none 0 0))]) (by simp only [b6q, c5q, if_true]) rfl ?_
 refine x4q fun era hE => ?_
 obtain ⟨hlra, ra_1⟩ : era.length = 111 ∧ ev era (.tmp 1) = .ptr (s.next) 0 := by
  (repeat' (with_reducible refine And.intro ?_ ?_)) <;> (rw [hE]; simp only [lpv, hl1_0, a0q, Nat.reduceLT])
 clear hE
 refine o2q fun sra hS => ?_
 obtain ⟨raA, hnra⟩ : sra.m (s.next) = some (.box 25 [.t (.sl 1 [.v (.string k7x)]), .t (.sl 2 [])]) ∧ sra.next = s.next + 1 := by
  (repeat' (with_reducible refine And.intro ?_ ?_)) <;> (rw [hS]; simp only [b6q, c5q, if_true, List.set_cons_zero, List.set_cons_succ, c9q, i6q])
 have hkra : ∀ j, j < s.next → sra.m j = s.m j := fun j hj => by have z0 : ¬ j = s.next := (by omega); rw [hS]; simp only [b6q, c5q, z0, if_false]
 clear hS
 refine n1z 10 rfl ?_
 refine f4q 1 0 4 6 [] [] (by decide +kernel) (by decide) fun ops' KC hgs hKC => ?_
 simp only [bs, Nat.reduceLeDiff, Nat.reduceAdd, d8q, g2q, repl, Sg.frzP, ↓vopx, ↓vop, Nat.reduceBEq, Nat.reduceLT, V.cells, a7q, a8q, Sg.frzL, Sg.frz1, hlra, ra_1, raA, hnra, wocs, ↓goc, ↓woc, ↓e7q, Tryd.ag25, Tryd.sl59, Tryd.sz25, s6a, s6b, s6c, Nat.reduceMul]
 refine hKC _ _ ?_
 clear hgs hKC KC ops'
 refine n9q fun e2_0 hE => ?_
 obtain ⟨hl2_0, q15, q1⟩ : e2_0.length = 111 ∧ ev e2_0 (.tmp 15) = .t (.sl 2 [.sl 1 [.v (.string k7x)], .sl 2 [], .sl 1 [.v (.string k7x)], .sl 2 [], .sl 1 [.v (.string k7x)], .sl 2 []]) ∧ ev e2_0 (.tmp 1) = .ptr (s.next) 0 := by
  (repeat' (with_reducible refine And.intro ?_ ?_)) <;> (rw [hE]; simp only [lpv, hlra, a0q, Nat.reduceLT, a4q, Nat.reduceBEq, ra_1])
 clear hE
 refine f4q 1 4 3 3 [] [] (by decide +kernel) (by decide) fun ops' KC hgs hKC => ?_
 simp only [bs, Nat.reduceLeDiff, Nat.reduceAdd, d8q, g2q, repl, Sg.frzP, ↓vopx, flat, Nat.reduceLT, V.cells, Sg.frzL, Sg.frz1, hl2_0, hnra, wocs, ↓goc, ↓woc, ↓e7q, Tryd.sl26, Tryd.sl60, Tryd.st72, s3a, Nat.reduceMul]
 refine hKC _ _ ?_
 clear hgs hKC KC ops'
 refine n9q fun e2_1 hE => ?_
 obtain ⟨hl2_1, p15, p18, p1⟩ : e2_1.length = 111 ∧ ev e2_1 (.tmp 15) = .t (.sl 2 [.sl 1 [.v (.string k7x)], .sl 2 [], .sl 1 [.v (.string k7x)], .sl 2 [], .sl 1 [.v (.string k7x)], .sl 2 []]) ∧ ev e2_1 (.tmp 18) = .t (.sl 3 [.v (.int .i64 0), .v (.int .i64 1), .sl 1 [.v (.int .i64 0)]]) ∧ ev e2_1 (.tmp 1) = .ptr (s.next) 0 := by
  (repeat' (with_reducible refine And.intro ?_ ?_)) <;> (rw [hE]; simp only [lpv, hl2_0, a4q, Nat.reduceBEq, q15, a0q, Nat.reduceLT, q1])
 clear hE
 refine f4q 1 7 1 2 [] [] (by decide +kernel) (by decide) fun ops' KC hgs hKC => ?_
 simp only [bs, Nat.reduceLeDiff, Nat.reduceAdd, d8q, g2q, ↓vopx, V.cells, p15, p18, wocs, ↓goc, ↓woc, ↓e7q, Tryd.st62]
 refine hKC _ _ ?_
 clear hgs hKC KC ops'
 refine n9q fun e2_2 hE => ?_
 obtain ⟨hl2_2, t19, t1⟩ : e2_2.length = 111 ∧ ev e2_2 (.tmp 19) = .agg [.t (.sl 2 [.sl 1 [.v (.string k7x)], .sl 2 [], .sl 1 [.v (.string k7x)], .sl 2 [], .sl 1 [.v (.string k7x)], .sl 2 []]), .t (.sl 3 [.v (.int .i64 0), .v (.int .i64 1), .sl 1 [.v (.int .i64 0)]])] ∧ ev e2_2 (.tmp 1) = .ptr (s.next) 0 := by
  (repeat' (with_reducible refine And.intro ?_ ?_)) <;> (rw [hE]; simp only [lpv, hl2_1, a0q, Nat.reduceLT, a4q, Nat.reduceBEq, p1])
 clear hE
 refine f4q 1 8 2 0 [] [] (by decide +kernel) (by decide) fun ops' KC hgs hKC => ?_
 simp only [bs, Nat.reduceAdd, ↓vopx, ↓vop, Nat.reduceBEq, Nat.reduceLT, V.cells, hl2_2, t19, hnra, wocs, ↓goc, ↓woc, ↓e7q, Tryd.sz62, Tryd.zv62]
 refine hKC _ _ ?_
 clear hgs hKC KC ops'
 refine c7z ?_
 try simp only [a1q]
 refine hK3 _ _ ?_
 refine vsk fun K4 hK4 => ?_
 refine x4q fun erb hE => ?_
 obtain ⟨hlrb, rb_1, rb_2⟩ : erb.length = 111 ∧ ev erb (.tmp 1) = .ptr (s.next) 0 ∧ ev erb (.tmp 2) = .ptr (s.next + 1) 0 := by
  (repeat' (with_reducible refine And.intro ?_ ?_)) <;> (rw [hE]; simp only [lpv, hl2_2, a4q, Nat.reduceBEq, t1, a0q, Nat.reduceLT])
 clear hE
 refine o2q fun srb hS => ?_
 obtain ⟨rbA, rbB, hnrb⟩ : srb.m (s.next) = some (.box 25 [.t (.sl 1 [.v (.string k7x)]), .t (.sl 2 [])]) ∧ srb.m (s.next + 1) = some (.box 62 [.t (.sl 2 [.sl 1 [.v (.string k7x)], .sl 2 [], .sl 1 [.v (.string k7x)], .sl 2 [], .sl 1 [.v (.string k7x)], .sl 2 []]), .t (.sl 3 [.v (.int .i64 0), .v (.int .i64 1), .sl 1 [.v (.int .i64 0)]])]) ∧ srb.next = s.next + 1 + 1 := by
  (repeat' (with_reducible refine And.intro ?_ ?_)) <;> (rw [hS]; simp only [b6q, c5q, nns, if_false, raA, hnra, if_true, c9q, i6q])
 have hkrb : ∀ j, j < s.next → srb.m j = s.m j := fun j hj => by have z0 : ¬ j = s.next := (by omega); have z1 : ¬ j = s.next + 1 := (by omega); rw [hS]; simp only [b6q, c5q, hnra, z1, if_false, hkra j hj]
 clear hS
 refine a3q 1 [.pur (.tup [vObj k9Q, .t (.sl 1 [.sl 1 [.v (.int .i64 0)], .sl 1 [.v (.int .i64 0)], .sl 1 [.v (.int .i64 1)]]), I 0])] ?_
 simp only [bs, Nat.reduceAdd, ↓vopx, ↓vop, Nat.reduceBEq, a1q, Nat.reduceLT, V.cells, a7q, a8q, hlrb, rb_2, rbB, hnrb, wocs, ↓goc, ↓woc, ↓e7q, ↓c4q, a6q, Tryd.ag62, Tryd.sz25, Tryd.sz62, Tryd.zv25]
 repeat ((with_reducible refine And.intro ?_ ?_); · exact ⟨Tryd.is50, kc9_of⟩)
 refine hK4 _ _ ?_
 refine vsk fun K5 hK5 => ?_
 refine x4q fun erc hE => ?_
 obtain ⟨hlrc, rc_1, rc_2, rc_3, rc_4, rc_5⟩ : erc.length = 111 ∧ ev erc (.tmp 1) = .ptr (s.next) 0 ∧ ev erc (.tmp 2) = .ptr (s.next + 1) 0 ∧ ev erc (.tmp 3) = .ptr (s.next + 1 + 1) 0 ∧ ev erc (.tmp 4) = .t (.sl 1 [.sl 1 [.v (.int .i64 0)], .sl 1 [.v (.int .i64 0)], .sl 1 [.v (.int .i64 1)]]) ∧ ev erc (.tmp 5) = I 0 := by
  (repeat' (with_reducible refine And.intro ?_ ?_)) <;> (rw [hE]; simp only [lpv, hlrb, a4q, Nat.reduceBEq, rb_1, rb_2, a0q, Nat.reduceLT])
 clear hE
 refine o2q fun src hS => ?_
 obtain ⟨rcA, rcB, rcC, hnrc⟩ : src.m (s.next) = some (.box 25 [.t (.sl 1 [.v (.string k7x)]), .t (.sl 2 [])]) ∧ src.m (s.next + 1) = some (.box 62 [.t (.sl 2 [.sl 1 [.v (.string k7x)], .sl 2 [], .sl 1 [.v (.string k7x)], .sl 2 [], .sl 1 [.v (.string k7x)], .sl 2 []]), .t (.sl 3 [.v (.int .i64 0), .v (.int .i64 1), .sl 1 [.v (.int .i64 0)]])]) ∧ src.m (s.next + 1 + 1) = some (.box 25 [.t (b7q [k7x, k7x]), .t (a9q [])]) ∧ src.next = s.next + 1 + 1 + 1 := by
  (repeat' (with_reducible refine And.intro ?_ ?_)) <;> (rw [hS]; simp only [b6q, c5q, nns, if_false, rbA, hnrb, rbB, if_true, c9q, i6q])
 have hkrc : ∀ j, j < s.next → src.m j = s.m j := fun j hj => by have z0 : ¬ j = s.next := (by omega); have z1 : ¬ j = s.next + 1 := (by omega); have z2 : ¬ j = s.next + 1 + 1 := (by omega); rw [hS]; simp only [b6q, c5q, hnrb, z2, if_false, hkrb j hj]
 clear hS
 refine a3q 1 [.pur (.tup [.t (b0q [0, 0]), I 0])] ?_
 simp only [bs, Nat.reduceLeDiff, Nat.reduceAdd, d8q, g2q, repl, Sg.frzP, ↓vopx, ↓vop, Nat.reduceBEq, a1q, flat, Nat.reduceLT, V.cells, a7q, a8q, Sg.frzL, Sg.frz1, hlrc, rc_1, rc_2, rcA, rcB, hnrc, wocs, ↓goc, ↓woc, ↓e7q, ↓c4q, a6q, Tryd.ag25, Tryd.ag62, Tryd.sl26, Tryd.sl63, Tryd.sz25, Tryd.sz62, nns]
 repeat ((with_reducible refine And.intro ?_ ?_); · exact ⟨Tryd.is49, kc9_m1⟩)
 refine hK5 _ _ ?_
 refine vsk fun K6 hK6 => ?_
 refine x4q fun erd hE => ?_
 obtain ⟨hlrd, rd_1, rd_2, rd_3, rd_4, rd_5, rd_6, rd_7⟩ : erd.length = 111 ∧ ev erd (.tmp 1) = .ptr (s.next) 0 ∧ ev erd (.tmp 2) = .ptr (s.next + 1) 0 ∧ ev erd (.tmp 3) = .ptr (s.next + 1 + 1) 0 ∧ ev erd (.tmp 4) = .t (.sl 1 [.sl 1 [.v (.int .i64 0)], .sl 1 [.v (.int .i64 0)], .sl 1 [.v (.int .i64 1)]]) ∧ ev erd (.tmp 5) = I 0 ∧ ev erd (.tmp 6) = .t (b0q [0, 0]) ∧ ev erd (.tmp 7) = I 0 := by
  (repeat' (with_reducible refine And.intro ?_ ?_)) <;> (rw [hE]; simp only [lpv, hlrc, a4q, Nat.reduceBEq, rc_1, rc_2, rc_3, rc_4, rc_5, a0q, Nat.reduceLT])
 clear hE
 refine o2q fun srd hS => ?_
 obtain ⟨rdA, rdB, rdC, hnrd⟩ : srd.m (s.next) = some (.box 25 [.t (.sl 1 [.v (.string k7x)]), .t (.sl 2 [])]) ∧ srd.m (s.next + 1) = some (.box 62 [.t (.sl 2 [.sl 1 [.v (.string k7x)], .sl 2 [], .sl 1 [.v (.string k7x)], .sl 2 [], .sl 1 [.v (.string k7x)], .sl 2 []]), .t (.sl 3 [.v (.int .i64 0), .v (.int .i64 1), .sl 1 [.v (.int .i64 0)]])]) ∧ srd.m (s.next + 1 + 1) = some (.box 25 [.t (b7q [k7x, k7x]), .t (a9q [])]) ∧ srd.next = s.next + 1 + 1 + 1 := by
  (repeat' (with_reducible refine And.intro ?_ ?_)) <;> (rw [hS]; simp only [rcA, rcB, rcC, hnrc])
 have hkrd : ∀ j, j < s.next → srd.m j = s.m j := fun j hj => by have z0 : ¬ j = s.next := (by omega); have z1 : ¬ j = s.next + 1 := (by omega); have z2 : ¬ j = s.next + 1 + 1 := (by omega); rw [hS]; simp only [hkrc j hj]
 clear hS
 refine a3q 1 [.pur (.tup [.t (b0q []), I 12])] ?_
 simp only [bs, Nat.reduceLeDiff, Nat.reduceAdd, d8q, g2q, repl, Sg.frzP, ↓vopx, ↓vop, Nat.reduceBEq, a1q, flat, Nat.reduceLT, V.cells, a7q, a8q, Sg.frzL, Sg.frz1, hlrd, rd_1, rd_2, rdA, rdB, hnrd, wocs, ↓goc, ↓woc, ↓e7q, ↓c4q, a6q, Tryd.ag25, Tryd.ag62, Tryd.sl26, Tryd.sl63, Tryd.sz25, Tryd.sz62, nns]
 repeat ((with_reducible refine And.intro ?_ ?_); · exact ⟨Tryd.is49, kc9_m2⟩)
 refine hK6 _ _ ?_
 refine vsk fun K7 hK7 => ?_
 refine x4q fun ere hE => ?_
 obtain ⟨hlre, re_1, re_2, re_3, re_4, re_5, re_6, re_7, re_9⟩ : ere.length = 111 ∧ ev ere (.tmp 1) = .ptr (s.next) 0 ∧ ev ere (.tmp 2) = .ptr (s.next + 1) 0 ∧ ev ere (.tmp 3) = .ptr (s.next + 1 + 1) 0 ∧ ev ere (.tmp 4) = .t (.sl 1 [.sl 1 [.v (.int .i64 0)], .sl 1 [.v (.int .i64 0)], .sl 1 [.v (.int .i64 1)]]) ∧ ev ere (.tmp 5) = I 0 ∧ ev ere (.tmp 6) = .t (b0q [0, 0]) ∧ ev ere (.tmp 7) = I 0 ∧ ev ere (.tmp 9) = I 12 := by
  (repeat' (with_reducible refine And.intro ?_ ?_)) <;> (rw [hE]; simp only [lpv, hlrd, a4q, Nat.reduceBEq, rd_1, rd_2, rd_3, rd_4, rd_5, rd_6, rd_7, a0q, Nat.reduceLT])
 clear hE
 refine o2q fun sre hS => ?_
 obtain ⟨reA, reB, reC, hnre⟩ : sre.m (s.next) = some (.box 25 [.t (.sl 1 [.v (.string k7x)]), .t (.sl 2 [])]) ∧ sre.m (s.next + 1) = some (.box 62 [.t (.sl 2 [.sl 1 [.v (.string k7x)], .sl 2 [], .sl 1 [.v (.string k7x)], .sl 2 [], .sl 1 [.v (.string k7x)], .sl 2 []]), .t (.sl 3 [.v (.int .i64 0), .v (.int .i64 1), .sl 1 [.v (.int .i64 0)]])]) ∧ sre.m (s.next + 1 + 1) = some (.box 25 [.t (b7q [k7x, k7x]), .t (a9q [])]) ∧ sre.next = s.next + 1 + 1 + 1 := by
  (repeat' (with_reducible refine And.intro ?_ ?_)) <;> (rw [hS]; simp only [rdA, rdB, rdC, hnrd])
 have hkre : ∀ j, j < s.next → sre.m j = s.m j := fun j hj => by have z0 : ¬ j = s.next := (by omega); have z1 : ¬ j = s.next + 1 := (by omega); have z2 : ¬ j = s.next + 1 + 1 := (by omega); rw [hS]; simp only [hkrd j hj]
 clear hS
 refine n1z 67 rfl ?_
 refine f4q 1 0 9 58 [(2, 47)] [] (by decide +kernel) (by decide) fun ops' KC hgs hKC => ?_
 have g2_ : gtmp ops' 2 = some 47 := hgs (2, 47) (by simp)
 simp only [bs, Nat.reduceAdd, ↓vopx, ↓vop, Nat.reduceBEq, flat, Nat.reduceLT, a7q, a8q, opII, hlre, re_3, re_5, reC, g2_, wocs, ↓goc, ↓woc, ↓e7q, ↓g1q, Tryd.ag22, Tryd.fd25_0, Tryd.sz22, Tryd.un22, nns, i9z, nd2', beq_self_eq_true, List.append_eq]
 refine hKC _ _ ?_
 clear g2_
 clear hgs hKC KC ops'
 refine n9q fun e6_0 hE => ?_
 obtain ⟨hl6_0, s1_1, s1_2, s1_3, s1_4, s1_5, s1_6, s1_7, s1_9, s1_g⟩ : e6_0.length = 111 ∧ ev e6_0 (.tmp 1) = .ptr (s.next) 0 ∧ ev e6_0 (.tmp 2) = .ptr (s.next + 1) 0 ∧ ev e6_0 (.tmp 3) = .ptr (s.next + 1 + 1) 0 ∧ ev e6_0 (.tmp 4) = .t (.sl 1 [.sl 1 [.v (.int .i64 0)], .sl 1 [.v (.int .i64 0)], .sl 1 [.v (.int .i64 1)]]) ∧ ev e6_0 (.tmp 5) = I 0 ∧ ev e6_0 (.tmp 6) = .t (b0q [0, 0]) ∧ ev e6_0 (.tmp 7) = I 0 ∧ ev e6_0 (.tmp 9) = I 12 ∧ ev e6_0 (.tmp 53) = Bo true := by
  (repeat' (with_reducible refine And.intro ?_ ?_)) <;> (rw [hE]; simp only [lpv, hlre, a4q, Nat.reduceBEq, re_1, re_2, re_3, re_4, re_5, re_6, re_7, re_9, a0q, Nat.reduceLT])
 clear hE
 refine f4q 1 9 12 46 [(8, 53), (13, 58)] [] (by decide +kernel) (by decide) fun ops' KC hgs hKC => ?_
 have g8_ : gtmp ops' 8 = some 53 := hgs (8, 53) (by simp)
 have g13_ : gtmp ops' 13 = some 58 := hgs (13, 58) (by simp)
 simp only [bs, Nat.reduceAdd, ↓vopx, ↓vop, Nat.reduceBEq, flat, Nat.reduceLT, a7q, a8q, opII, hl6_0, s1_4, s1_g, g8_, g13_, wocs, ↓goc, ↓woc, ↓e7q, ↓g1q, Tryd.ag26, Tryd.sz26, Tryd.un26, Tryd.un63, i9z, nd1', nd3', Int.toNat_one, beq_self_eq_true, List.append_eq]
 repeat ((with_reducible refine And.intro ?_ ?_); · omega)
 refine hKC _ _ ?_
 clear g8_
 clear g13_
 clear hgs hKC KC ops'
 refine n9q fun e6_1 hE => ?_
 obtain ⟨hl6_1, s2_1, s2_2, s2_3, s2_4, s2_5, s2_6, s2_7, s2_9, s2_g⟩ : e6_1.length = 111 ∧ ev e6_1 (.tmp 1) = .ptr (s.next) 0 ∧ ev e6_1 (.tmp 2) = .ptr (s.next + 1) 0 ∧ ev e6_1 (.tmp 3) = .ptr (s.next + 1 + 1) 0 ∧ ev e6_1 (.tmp 4) = .t (.sl 1 [.sl 1 [.v (.int .i64 0)], .sl 1 [.v (.int .i64 0)], .sl 1 [.v (.int .i64 1)]]) ∧ ev e6_1 (.tmp 5) = I 0 ∧ ev e6_1 (.tmp 6) = .t (b0q [0, 0]) ∧ ev e6_1 (.tmp 7) = I 0 ∧ ev e6_1 (.tmp 9) = I 12 ∧ ev e6_1 (.tmp 65) = Bo true := by
  (repeat' (with_reducible refine And.intro ?_ ?_)) <;> (rw [hE]; simp only [lpv, hl6_0, a4q, Nat.reduceBEq, s1_1, s1_2, s1_3, s1_4, s1_5, s1_6, s1_7, s1_9, a0q, Nat.reduceLT])
 clear hE
 refine f4q 1 21 15 31 [(20, 65), (27, 72)] [] (by decide +kernel) (by decide) fun ops' KC hgs hKC => ?_
 have g20_ : gtmp ops' 20 = some 65 := hgs (20, 65) (by simp)
 have g27_ : gtmp ops' 27 = some 72 := hgs (27, 72) (by simp)
 simp only [bs, Nat.reduceAdd, ↓vopx, ↓vop, Nat.reduceBEq, flat, Nat.reduceLT, a7q, a8q, opII, hl6_1, s2_4, s2_g, g20_, g27_, wocs, ↓goc, ↓woc, ↓e7q, ↓g1q, Tryd.ag26, Tryd.ag3, Tryd.sz26, Tryd.sz3, Tryd.un26, Tryd.un63, i9z, nd1', Int.toNat_zero, Int.toNat_one, beq_self_eq_true, List.append_eq, tn2]
 repeat ((with_reducible refine And.intro ?_ ?_); · omega)
 refine hKC _ _ ?_
 clear g20_
 clear g27_
 clear hgs hKC KC ops'
 refine n9q fun e6_2 hE => ?_
 obtain ⟨hl6_2, s3_1, s3_2, s3_3, s3_4, s3_5, s3_6, s3_7, s3_9, s3_g⟩ : e6_2.length = 111 ∧ ev e6_2 (.tmp 1) = .ptr (s.next) 0 ∧ ev e6_2 (.tmp 2) = .ptr (s.next + 1) 0 ∧ ev e6_2 (.tmp 3) = .ptr (s.next + 1 + 1) 0 ∧ ev e6_2 (.tmp 4) = .t (.sl 1 [.sl 1 [.v (.int .i64 0)], .sl 1 [.v (.int .i64 0)], .sl 1 [.v (.int .i64 1)]]) ∧ ev e6_2 (.tmp 5) = I 0 ∧ ev e6_2 (.tmp 6) = .t (b0q [0, 0]) ∧ ev e6_2 (.tmp 7) = I 0 ∧ ev e6_2 (.tmp 9) = I 12 ∧ ev e6_2 (.tmp 80) = Bo true := by
  (repeat' (with_reducible refine And.intro ?_ ?_)) <;> (rw [hE]; simp only [lpv, hl6_1, a4q, Nat.reduceBEq, s2_1, s2_2, s2_3, s2_4, s2_5, s2_6, s2_7, s2_9, a0q, Nat.reduceLT])
 clear hE
 refine f4q 1 36 12 19 [(35, 80), (43, 88)] [] (by decide +kernel) (by decide) fun ops' KC hgs hKC => ?_
 have g35_ : gtmp ops' 35 = some 80 := hgs (35, 80) (by simp)
 have g43_ : gtmp ops' 43 = some 88 := hgs (43, 88) (by simp)
 simp only [bs, Nat.reduceAdd, ↓vopx, ↓vop, Nat.reduceBEq, flat, Nat.reduceLT, a7q, a8q, opII, hl6_2, s3_4, s3_7, s3_g, g35_, g43_, wocs, ↓goc, ↓woc, ↓e7q, ↓g1q, Tryd.ag26, Tryd.ag3, Tryd.sz26, Tryd.sz3, Tryd.un26, Tryd.un63, Int.toNat_zero, beq_self_eq_true, List.append_eq, tn2]
 repeat ((with_reducible refine And.intro ?_ ?_); · omega)
 refine hKC _ _ ?_
 clear g35_
 clear g43_
 clear hgs hKC KC ops'
 refine n9q fun e6_3 hE => ?_
 obtain ⟨hl6_3, s4_1, s4_2, s4_3, s4_4, s4_5, s4_6, s4_7, s4_9, s4_g⟩ : e6_3.length = 111 ∧ ev e6_3 (.tmp 1) = .ptr (s.next) 0 ∧ ev e6_3 (.tmp 2) = .ptr (s.next + 1) 0 ∧ ev e6_3 (.tmp 3) = .ptr (s.next + 1 + 1) 0 ∧ ev e6_3 (.tmp 4) = .t (.sl 1 [.sl 1 [.v (.int .i64 0)], .sl 1 [.v (.int .i64 0)], .sl 1 [.v (.int .i64 1)]]) ∧ ev e6_3 (.tmp 5) = I 0 ∧ ev e6_3 (.tmp 6) = .t (b0q [0, 0]) ∧ ev e6_3 (.tmp 7) = I 0 ∧ ev e6_3 (.tmp 9) = I 12 ∧ ev e6_3 (.tmp 92) = Bo true := by
  (repeat' (with_reducible refine And.intro ?_ ?_)) <;> (rw [hE]; simp only [lpv, hl6_2, a4q, Nat.reduceBEq, s3_1, s3_2, s3_3, s3_4, s3_5, s3_6, s3_7, s3_9, a0q, Nat.reduceLT])
 clear hE
 refine f4q 1 48 13 6 [(47, 92), (52, 97), (56, 101)] [.pur (Bo true)] (by decide +kernel) (by decide) fun ops' KC hgs hKC => ?_
 have g47_ : gtmp ops' 47 = some 92 := hgs (47, 92) (by simp)
 have g52_ : gtmp ops' 52 = some 97 := hgs (52, 97) (by simp)
 have g56_ : gtmp ops' 56 = some 101 := hgs (56, 101) (by simp)
 simp only [bs, Nat.reduceAdd, ↓vopx, ↓vop, Nat.reduceBEq, flat, Nat.reduceLT, a7q, a8q, opII, hl6_3, s4_2, s4_6, s4_9, s4_g, reB, g47_, g52_, g56_, wocs, ↓goc, ↓woc, ↓e7q, ↓c4q, ↓g1q, a6q, Tryd.ag62, Tryd.sz62, i9z, Tryd.underlying26, nd2', beq_self_eq_true, b0q, List.append_eq]
 repeat ((with_reducible refine And.intro ?_ ?_); · exact ⟨Tryd.is82, kc9_d⟩)
 refine hKC _ _ ?_
 clear g47_
 clear g52_
 clear g56_
 clear hgs hKC KC ops'
 refine n9q fun e6_4 hE => ?_
 obtain ⟨hl6_4, s5_1, s5_2, s5_3, s5_4, s5_5, s5_6, s5_7, s5_9, s5_g⟩ : e6_4.length = 111 ∧ ev e6_4 (.tmp 1) = .ptr (s.next) 0 ∧ ev e6_4 (.tmp 2) = .ptr (s.next + 1) 0 ∧ ev e6_4 (.tmp 3) = .ptr (s.next + 1 + 1) 0 ∧ ev e6_4 (.tmp 4) = .t (.sl 1 [.sl 1 [.v (.int .i64 0)], .sl 1 [.v (.int .i64 0)], .sl 1 [.v (.int .i64 1)]]) ∧ ev e6_4 (.tmp 5) = I 0 ∧ ev e6_4 (.tmp 6) = .t (b0q [0, 0]) ∧ ev e6_4 (.tmp 7) = I 0 ∧ ev e6_4 (.tmp 9) = I 12 ∧ ev e6_4 (.tmp 105) = Bo true := by
  (repeat' (with_reducible refine And.intro ?_ ?_)) <;> (rw [hE]; simp only [lpv, hl6_3, a4q, Nat.reduceBEq, s4_1, s4_2, s4_3, s4_4, s4_5, s4_6, s4_7, s4_9, a0q, Nat.reduceLT])
 clear hE
 refine f4q 1 61 6 0 [(60, 105)] [.pur (Bo true)] (by decide +kernel) (by decide) fun ops' KC hgs hKC => ?_
 have g60_ : gtmp ops' 60 = some 105 := hgs (60, 105) (by simp)
 simp only [bs, Nat.reduceAdd, ↓vopx, ↓vop, Nat.reduceBEq, flat, Nat.reduceLT, a7q, a8q, hl6_4, s5_2, s5_3, s5_4, s5_g, reB, reC, g60_, wocs, ↓goc, ↓woc, ↓e7q, ↓c4q, ↓g1q, a6q, Tryd.ag25, Tryd.ag62, Tryd.sz25, Tryd.sz62, List.append_eq]
 repeat ((with_reducible refine And.intro ?_ ?_); · exact ⟨Tryd.is51, kc9_l⟩)
 refine hKC _ _ ?_
 clear g60_
 clear hgs hKC KC ops'
 refine c7z ?_
 try simp only [a1q]
 refine hK7 _ _ ?_
 refine b3q ?_
 refine hQ _ _ _ (.inr rfl) (b2q ?_ fun n b hn h => (hkre n hn).trans h)
 try simp only [a0q, lpv, hl6_4, Nat.reduceLT]
end Go.Proofs

open Go Go.V
namespace Go.Proofs
theorem k5x {i x y : List Int} (hi : ∀ z ∈ i, 0 ≤ z ∧ z < (x.length : Int)) (hx : ∀ z ∈ x, 0 ≤ z ∧ z < (y.length : Int)) : (thenS i (thenS x y).1).1 = (thenS (thenS i x).1 y).1 := by
 rw [h0q hx, h0q hi]
 rw [h0q (fun z hz => by rw [List.length_map]; exact hi z hz), h0q (f := i.map _) (fun z hz => by
  obtain ⟨w, hw, rfl⟩ := List.mem_map.1 hz
  have := hi w hw
  rw [List.getD_eq_getElem?_getD, List.getElem?_eq_getElem (show w.toNat < x.length by omega)]
  exact hx _ (List.getElem_mem _))]
 simp only [List.map_map]
 refine List.map_congr_left fun w hw => ?_
 have := hi w hw
 simp [List.getD_eq_getElem?_getD, List.getElem?_eq_getElem (show w.toNat < x.length by omega)]
end Go.Proofs

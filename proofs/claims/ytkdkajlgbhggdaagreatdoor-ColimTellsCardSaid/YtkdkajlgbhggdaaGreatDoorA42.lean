/- Lemmas on the way to the statement of this claim; no conditions. -/
import Derived.Shelf.Sort.AssemblyIn
import Derived.Shelf.Slices.In.SortNone
import Derived.Test.YtkdkajlgbhggdaaGreatDoorA29
import Derived.Test.YtkdkajlgbhggdaaGreatDoorA30
import Derived.Test.YtkdkajlgbhggdaaGreatDoorA31
import Derived.Test.YtkdkajlgbhggdaaGreatDoorA32
import Derived.Test.YtkdkajlgbhggdaaGreatDoorA34
import Derived.Test.YtkdkajlgbhggdaaGreatDoorA36
import Derived.Test.YtkdkajlgbhggdaaGreatDoorA40
import Derived.Test.YtkdkajlgbhggdaaGreatDoorA41
open Go Go.V
namespace Go.Proofs
theorem f2x (f g : List Int) : (thenS f g).1.length ≤ f.length := by
 unfold thenS; split <;> simp
end Go.Proofs

open Go Go.V
namespace Go.Proofs
abbrev r0x (a b c : Ob) (f g : List Int) : Ob × List Int × Int := eqS a (k7q b c) (thenS f (legT b.labels.length 0)).1 (thenS g (legT c.labels.length b.labels.length)).1
def pushS (a b c : Ob) (f g : List Int) : Ob × List Int × List Int × Int :=
 if t7q [a] = true ∨ t7q [b, c] = true then (⟨[], []⟩, [], [], 11) else if arrS a b f = true ∧ arrS a c g = true then
  (if (r0x a b c f g).2.2 = 0 then ((r0x a b c f g).1, (thenS (legT b.labels.length 0) (r0x a b c f g).2.1).1, (thenS (legT c.labels.length b.labels.length) (r0x a b c f g).2.1).1, 0) else (⟨[], []⟩, [], [], (r0x a b c f g).2.2))
 else (⟨[], []⟩, [], [], 10)
end Go.Proofs

open Go Go.V
namespace Go.Proofs
theorem n4z {o : Ob} (h : fewS o = true) : o.labels.length ≤ 50 ∧ o.pairs.length ≤ 200 := by
 unfold fewS at h
 simp only [Bool.and_eq_true, decide_eq_true_eq] at h
 exact ⟨h.1.2, h.2⟩
end Go.Proofs

open Go Go.V
namespace Go.Proofs
abbrev gAt (g : List Int) (y : Int) : Int := g.getD y.toNat 0
def gdB (g : List Int) (y : Int) : Bool := decide (0 ≤ y) && decide (y < g.length)
theorem j2x {f g : List Int} (h : f.all (gdB g) = true) : thenS f g = (f.map (gAt g), true) := by unfold thenS; exact if_pos h
theorem x8z {f g : List Int} (h : f.all (gdB g) = false) : thenS f g = ([], false) := by unfold thenS; exact if_neg (by show ¬ (f.all (gdB g) = true); rw [h]; simp)
theorem far_bb (x y : Operand) (b : Bool) : b6z .eql (Bo b) (Bo b) Tryz.prog 4 x y (.bool true) := .inl ⟨.bool b, .bool b, rfl, rfl, by
 unfold vbin eqGuard Go.binOp
 cases b
 ·simp only []; kernel_rfl
 ·simp only []; kernel_rfl⟩
set_option maxRecDepth 20000 in
theorem a6j (f g : List Int) (hf : f.length < 100000000) (_hg : g.length < 1000000000) : f7q Tryz.prog 36 [.t (c0q f), .t (c0q g)] (.tup [.t (c0q (thenS f g).1), Bo (thenS f g).2]) := by
 refine b4q Tryz.func36 rfl fun s Q hQ => ?_
 obtain ⟨e, he, hl, h0, h1⟩ : ∃ e : Env, ([.t (c0q f), .t (c0q g)] ++ List.replicate (Tryz.f36.ntmps - ([.t (c0q f), .t (c0q g)] : List V).length) .junk) = e ∧ e.length = 39 ∧ ev e (.tmp 0) = .t (c0q f) ∧ ev e (.tmp 1) = .t (c0q g) := ⟨_, rfl, rfl, rfl, rfl⟩
 rw [he]
 clear he
 refine vsk fun K1 hK1 => ?_
 refine a3q 0 [] ?_
 simp only [bs, ↓vopx, ↓vop, a1q, flat, wocs, ↓goc, ↓woc, ↓a2q]
 refine hK1 _ _ ?_
 refine vsk fun K2 hK2 => ?_
 refine a3q 0 [] ?_
 simp only [bs, ↓vopx, ↓vop, a1q, flat, wocs, ↓goc, ↓woc, ↓a2q]
 refine hK2 _ _ ?_
 refine vsk fun K3 hK3 => ?_
 refine vsk fun K4 hK4 => ?_
 refine VW.name 6 1 3 (by omega) (by simp only [a0q, lpv, hl, Nat.reduceLT]) ?_
 refine a3q 0 [] ?_
 simp only [bs, ↓vopx, ↓vop, a1q, flat, wocs, ↓goc, ↓woc, ↓a2q]
 refine hK4 _ _ ?_
 refine a5q ?_
 refine c2q (fun mm e' s' => ∃ i : Nat, mm = f.length - i ∧ i ≤ f.length ∧ e'.length = 39 ∧ ev e' (.tmp 0) = .t (c0q f) ∧ ev e' (.tmp 1) = .t (c0q g) ∧ ev e' (.tmp 7) = I i ∧ True ∧ ∃ m, ev e' (.tmp 6) = .loc m 0 ((f.take i).map (gAt g)).length ∧ p3z s s' m ((f.take i).map (gAt g)) ∧ Keep s s' ∧ s.next ≤ s'.next ∧ (f.take i).all (gdB g) = true) (⟨0, rfl, Nat.zero_le _, ?_⟩) ?_
 ·try simp only [a0q, a4q, Nat.reduceBEq, lpv, hl, h0, h1, Nat.reduceLT, true_and]
  repeat ((with_reducible refine And.intro ?_ ?_); · trivial)
  exact ⟨s.next, rfl, p3z.new s, (Keep.refl s).add (Nat.le_refl _) _, by simp [Sg.add], rfl⟩
 rintro mm e s1 ⟨i, rfl, hle_i, hl, h0, h1, h_i, hst, ⟨m, hm6, hgr, hkeep, hnx, hall⟩⟩
 refine vsk fun K5 hK5 => ?_
 refine vsk fun K6 hK6 => ?_
 refine a3q 0 [] ?_
 simp only [bs, ↓vopx, ↓vop, Nat.reduceBEq, a1q, Nat.reduceLT, opII, hl, h0, h_i, wocs, ↓goc, ↓woc, ↓a2q, e2q, Tryz.underlying40]
 refine hK6 _ _ ?_
 refine vck fun A B hA hB => ?_
 simp only [b2q, a0q, lpv, Nat.reduceLT, decide_eq_true_eq, decide_eq_false_iff_not, hl]
 refine ⟨fun hc11 => hA ?_, fun hc11 => hB ?_⟩
 ·clear hA hB A B
  refine a9q ?_
  refine hK5 _ _ ?_
  refine vsk fun K7 hK7 => ?_
  refine a5q ?_
  refine vsk fun K8 hK8 => ?_
  refine vsk fun K9 hK9 => ?_
  have hlt : i < f.length := by omega
  obtain ⟨y, hy⟩ : ∃ y, f[i]? = some y := ⟨_, List.getElem?_eq_getElem hlt⟩
  rcases Int.lt_or_le y 0 with hneg | hneg
  ·refine a3q 0 [] ?_
   simp only [bs, ↓vopx, ↓vop, Nat.reduceBEq, a1q, flat, Nat.reduceLT, a8q, b0q, opII, gtmp, hl, h0, h_i, wocs, ↓goc, ↓woc, ↓a2q, ↓e5q, Tryz.ag3, Tryz.sz3, Tryz.un40, hy, hneg]
   repeat ((with_reducible refine And.intro ?_ ?_); · (with_reducible assumption))
   refine hK9 _ _ ?_
   refine vck fun A B hA hB => ?_
   simp only [b2q, a0q, lpv, Nat.reduceLT, true_implies, reduceCtorEq, false_implies, and_true, hl]
   refine hA ?_
   clear hA hB A B
   refine vsk fun K10 hK10 => ?_
   refine a3q 0 [] ?_
   simp only [bs, ↓vopx, ↓vop, a1q, flat, wocs, ↓goc, ↓woc, ↓a2q]
   refine hK10 _ _ ?_
   refine b1q ?_
   have hbad : f.all (gdB g) = false := List.all_eq_false.2 ⟨y, List.mem_of_getElem? hy, by unfold gdB; simp; omega⟩
   have hres := x8z hbad
   rw [hres] at hQ
   refine hQ _ _ _ (.inr rfl) (g3q (by omega) ?_ ?_ hkeep)
   try simp only [a0q, a4q, Nat.reduceBEq, lpv, hl, Nat.reduceLT]
   try simp only [a0q, lpv, hl, Nat.reduceLT]
  ·refine a3q 0 [] ?_
   simp only [bs, ↓vopx, ↓vop, Nat.reduceBEq, a1q, flat, Nat.reduceLT, a8q, b0q, opII, gtmp, hl, h0, h1, h_i, wocs, ↓goc, ↓woc, ↓a2q, ↓c8q, Tryz.ag3, Tryz.sz3, Tryz.un40, e2q, hy, Int.not_lt.2 hneg]
   repeat ((with_reducible refine And.intro ?_ ?_); · (with_reducible assumption))
   refine hK9 _ _ ?_
   refine vck fun A B hA hB => ?_
   simp only [b2q, a0q, lpv, Nat.reduceLT, decide_eq_true_eq, decide_eq_false_iff_not, hl]
   refine ⟨fun hc27 => hA ?_, fun hc27 => hB ?_⟩
   ·clear hA hB A B
    refine vsk fun K11 hK11 => ?_
    refine a3q 0 [] ?_
    simp only [bs, ↓vopx, ↓vop, a1q, flat, wocs, ↓goc, ↓woc, ↓a2q]
    refine hK11 _ _ ?_
    refine b1q ?_
    have hbad : f.all (gdB g) = false := List.all_eq_false.2 ⟨y, List.mem_of_getElem? hy, by unfold gdB; simp; omega⟩
    have hres := x8z hbad
    rw [hres] at hQ
    refine hQ _ _ _ (.inr rfl) (g3q (by omega) ?_ ?_ hkeep)
    try simp only [a0q, a4q, Nat.reduceBEq, lpv, hl, Nat.reduceLT]
    try simp only [a0q, lpv, hl, Nat.reduceLT]
   ·clear hA hB A B
    refine a9q ?_
    refine hK8 _ _ ?_
    obtain ⟨z, hz⟩ : ∃ z, g[y.toNat]? = some z := ⟨_, List.getElem?_eq_getElem (by omega)⟩
    have hne : ¬ m = s1.next := by have := hgr.2.2; omega
    have hg0 := hgr.1
    have hmn : min i f.length = i := by omega
    refine a3q 0 [] ?_
    simp only [bs, dstT, srcT, Nat.reduceLeDiff, d9q, g7q, repl, Sg.frzP, ↓vopx, ↓vop, Nat.reduceBEq, a1q, b5q, Nat.reduceLT, V.cells, a8q, b0q, Sg.frzL, Sg.frz1, hl, h0, h1, h_i, hm6, wocs, ↓goc, ↓woc, ↓a2q, Tryz.ag3, Tryz.sl40, Tryz.sz3, Tryz.un40, hy, hz, hg0, hne, List.length_take, hmn, Nat.div_one]
    repeat ((with_reducible refine And.intro ?_ ?_); · first | (with_reducible assumption) | omega)
    refine hK7 _ _ ?_
    refine a3q 0 [] ?_
    simp only [bs, ↓vopx, ↓vop, Nat.reduceBEq, a1q, flat, Nat.reduceLT, opII, hl, h0, h1, h_i, wocs, ↓goc, ↓woc, ↓a2q]
    repeat ((with_reducible refine And.intro ?_ ?_); · exact ⟨by omega, by omega⟩)
    refine ⟨f.length - (i + 1), by omega, i + 1, rfl, by omega, ?_⟩
    try simp only [a0q, a4q, Nat.reduceBEq, lpv, hl, h0, h1, h_i, hm6, if_true, if_false, Nat.reduceEqDiff, Nat.reduceLT, true_and, and_true]
    repeat ((with_reducible refine And.intro ?_ ?_); · trivial)
    have htk : f.take (i + 1) = f.take i ++ [y] := by rw [List.take_add_one, hy]; rfl
    have htm : (f.take (i + 1)).map (gAt g) = (f.take i).map (gAt g) ++ [z] := by rw [htk, List.map_append]; simp [gAt, List.getD_eq_getElem?_getD, hz]
    exact ⟨s1.next + 1, by simp [Nat.min_eq_left (show i + 1 ≤ f.length by omega)], by rw [htm]; exact hgr.push hnx _ _, hgr.keep hkeep hnx _ _, by omega, by rw [htk, List.all_append, hall]; simp [gdB]; omega⟩
 ·clear hA hB A B
  have han : i = f.length := by omega
  rw [han, List.take_length] at hm6 hgr hall
  refine c1q ?_
  simp only [a1q, b5q, if_true]
  refine hK3 _ _ ?_
  refine vsk fun K12 hK12 => ?_
  refine a3q 0 [] ?_
  simp only [bs, ↓vopx, ↓vop, Nat.reduceBEq, a1q, flat, Nat.reduceLT, hl, hm6, wocs, ↓goc, ↓woc, ↓a2q]
  refine hK12 _ _ ?_
  refine b1q ?_
  have hres := j2x hall
  rw [hres] at hQ
  refine hQ _ _ _ (.inr rfl) (s8q (n := m) (len := (f.map (gAt g)).length) ?_ ?_ hgr.1 ?_ hgr.2.1 hkeep)
  all_goals try simp only [a0q, a4q, Nat.reduceBEq, lpv, hl, Nat.reduceLT]
  all_goals (try simp)
end Go.Proofs

open Go Go.V
namespace Go.Proofs
def m0z (n i : Nat) : List Int := List.replicate i (-1) ++ List.replicate (n - i) 0
theorem m4x {n i : Nat} (h : i ≤ n) : (m0z n i).length = n := by simp [m0z]; omega
theorem m5x {n i : Nat} (h : i < n) : (m0z n i).set i (-1) = m0z n (i + 1) := by
 unfold m0z
 rw [List.set_append_right _ _ (by simp), List.length_replicate, Nat.sub_self, show n - i = (n - (i + 1)) + 1 by omega, List.replicate_succ, List.set_cons_zero, List.replicate_succ', List.append_assoc]; rfl
theorem h2x (n : Nat) : repl [TI 0] n = (m0z n 0).map TI := by
 rw [l9q]; simp [m0z]
theorem h1x (n : Nat) : m0z n n = List.replicate n (-1) := by simp [m0z]
def putL (o l w : List Int) : Nat → List Int
 | 0 => o
 | x + 1 => (putL o l w x).set (l.getD x 0).toNat (w.getD x 0)
theorem t3q (o l w : List Int) : ∀ x, (putL o l w x).length = o.length
 | 0 => rfl
 | x + 1 => by simp [putL, t3q o l w x]
theorem z8q {o l w : List Int} {x : Nat} {y z : Int} (hy : l[x]? = some y) (hz : w[x]? = some z) : putL o l w (x + 1) = (putL o l w x).set y.toNat z := by
 show (putL o l w x).set (l.getD x 0).toNat (w.getD x 0) = _
 rw [f9q hy, f9q hz]
def outK (n : Nat) (legs ways : List (List Int)) : Nat → List Int
 | 0 => List.replicate n (-1)
 | i + 1 => if (legs.getD i []).length = (ways.getD i []).length then putL (outK n legs ways i) (legs.getD i []) (ways.getD i []) (legs.getD i []).length else outK n legs ways i
theorem w5q (n : Nat) (legs ways : List (List Int)) : ∀ i, (outK n legs ways i).length = n
 | 0 => by simp [outK]
 | i + 1 => by unfold outK; split <;> simp [t3q, w5q n legs ways i]
theorem w8z {n : Nat} {legs ways : List (List Int)} {i : Nat} {l w : List Int} (hl : legs[i]? = some l) (hw : ways[i]? = some w) (h : l.length ≠ w.length) : outK n legs ways (i + 1) = outK n legs ways i := by
 show (if (legs.getD i []).length = (ways.getD i []).length then _ else _) = _
 rw [List.getD_eq_getElem?_getD, List.getD_eq_getElem?_getD, hl, hw]
 exact if_neg h
theorem r6z {n : Nat} {legs ways : List (List Int)} {i : Nat} {l w : List Int} (hl : legs[i]? = some l) (hw : ways[i]? = some w) (h : l.length = w.length) : outK n legs ways (i + 1) = putL (outK n legs ways i) l w l.length := by
 show (if (legs.getD i []).length = (ways.getD i []).length then putL _ (legs.getD i []) (ways.getD i []) (legs.getD i []).length else _) = _
 rw [List.getD_eq_getElem?_getD, List.getD_eq_getElem?_getD, hl, hw]
 exact if_pos h
def outS (n : Nat) (legs ways : List (List Int)) : List Int := outK n legs ways legs.length
theorem mneg (z : Int) : (T.v (Value.int .i64 z)) = TI z := rfl
set_option maxRecDepth 20000 in
set_option maxHeartbeats 4000000 in
theorem out_ (n : Nat) (hn : n ≤ 1000) (legs ways : List (List Int)) (hlw : legs.length ≤ ways.length) (hll : legs.length ≤ 1000) (hsz : ∀ l ∈ legs, l.length ≤ 1000) (hin : ∀ l ∈ legs, ∀ y ∈ l, 0 ≤ y ∧ y < (n : Int)) : f7q Tryz.prog 29 [I n, .t (tMat legs), .t (tMat ways)] (.t (c0q (outS n legs ways))) := by
 refine b4q Tryz.func29 rfl fun s Q hQ => ?_
 obtain ⟨e, he, hl, h0, h1, h2⟩ : ∃ e : Env, ([I n, .t (tMat legs), .t (tMat ways)] ++ List.replicate (Tryz.f29.ntmps - ([I n, .t (tMat legs), .t (tMat ways)] : List V).length) .junk) = e ∧ e.length = 59 ∧ ev e (.tmp 0) = I n ∧ ev e (.tmp 1) = .t (tMat legs) ∧ ev e (.tmp 2) = .t (tMat ways) := ⟨_, rfl, rfl, rfl, rfl, rfl⟩
 rw [he]
 clear he
 refine vsk fun K1 hK1 => ?_
 refine a3q 0 [] ?_
 simp only [bs, ↓vopx, ↓vop, a1q, flat, wocs, ↓goc, ↓woc, ↓a2q]
 refine hK1 _ _ ?_
 refine f7x ?_
 refine vsk fun K2 hK2 => ?_
 refine a3q 0 [] ?_
 simp only [bs, ↓vopx, ↓vop, Nat.reduceBEq, a1q, Nat.reduceLT, hl, h0, wocs, ↓goc, ↓woc, ↓a2q, Tryz.sl40, h2x]
 repeat ((with_reducible refine And.intro ?_ ?_); · omega)
 refine hK2 _ _ ?_
 refine vsk fun K3 hK3 => ?_
 refine vsk fun K4 hK4 => ?_
 refine a3q 0 [] ?_
 simp only [bs, ↓vopx, ↓vop, a1q, flat, Nat.reduceLT, hl, wocs, ↓goc, ↓woc, ↓a2q]
 refine hK4 _ _ ?_
 refine a5q ?_
 refine c2q (fun mm e' s' => ∃ i : Nat, mm = n - i ∧ i ≤ n ∧ e'.length = 59 ∧ ev e' (.tmp 1) = .t (tMat legs) ∧ ev e' (.tmp 2) = .t (tMat ways) ∧ ev e' (.tmp 7) = .loc s.next 0 n ∧ ev e' (.tmp 16) = I n ∧ ev e' (.tmp 17) = I i ∧ True ∧ s'.m s.next = some (.arr 1 3 ((m0z n i).map TI)) ∧ ∀ j, j < s.next → s'.m j = s.m j) (⟨0, rfl, Nat.zero_le _, ?_⟩) ?_
 ·try simp only [a0q, a4q, Nat.reduceBEq, lpv, hl, h1, h2, Nat.reduceLT, true_and]
  repeat ((with_reducible refine And.intro ?_ ?_); · trivial)
  exact ⟨p5q _ _, fun j hj => by rw [b7q, if_neg (by omega)]⟩
 rintro mm e s1 ⟨i, rfl, hle_i, hl, k1, k2, k7, k16, h_i, hst, ⟨hM, hSm⟩⟩
 refine vsk fun K5 hK5 => ?_
 refine a3q 0 [] ?_
 simp only [a1q, opII, k16, h_i, wocs, ↓goc, ↓woc]
 refine hK5 _ _ ?_
 refine vsk fun K6 hK6 => ?_
 refine vck fun A B hA hB => ?_
 simp only [b2q, a0q, Nat.reduceLT, decide_eq_true_eq, decide_eq_false_iff_not, hl]
 refine ⟨fun hc18 => hA ?_, fun hc18 => hB ?_⟩
 ·clear hA hB A B
  refine a9q ?_
  refine hK6 _ _ ?_
  refine vsk fun K7 hK7 => ?_
  refine a5q ?_
  refine vsk fun K8 hK8 => ?_
  refine a3q 0 [] ?_
  simp only [bs, ↓vopx, ↓vop, Nat.reduceBEq, a1q, Nat.reduceLT, hl, h_i, wocs, ↓goc, ↓woc, ↓a2q]
  refine hK8 _ _ ?_
  have hfl := m4x hle_i
  have hin1 : i < n := by omega
  refine a3q 0 [] ?_
  simp only [bs, ↓vopx, ↓vop, Nat.reduceBEq, a1q, b5q, flat, Nat.reduceLT, V.cells, Sg.frzL, Sg.frz1, hl, k7, wocs, ↓goc, ↓woc, ↓a2q, Tryz.sz3, Tryz.un40, hM, hfl]
  repeat ((with_reducible refine And.intro ?_ ?_); · first | (with_reducible assumption) | omega)
  refine hK7 _ _ ?_
  refine a3q 0 [] ?_
  simp only [bs, ↓vopx, ↓vop, Nat.reduceBEq, a1q, flat, Nat.reduceLT, opII, hl, k1, k2, k7, k16, h_i, wocs, ↓goc, ↓woc, ↓a2q, tMat]
  repeat ((with_reducible refine And.intro ?_ ?_); · exact ⟨by omega, by omega⟩)
  refine ⟨n - (i + 1), by omega, i + 1, rfl, by omega, ?_⟩
  try simp only [a0q, a4q, Nat.reduceBEq, lpv, hl, k1, k2, k7, k16, h_i, if_true, if_false, Nat.reduceEqDiff, Nat.reduceLT, true_and, and_true]
  repeat ((with_reducible refine And.intro ?_ ?_); · trivial)
  exact ⟨by rw [mneg, r9q _ (by omega), m5x hin1], fun j hj => by rw [if_neg (by omega)]; exact hSm j hj⟩
 ·clear hA hB A B
  refine c1q ?_
  simp only [a1q, b5q, noGoto, if_true]
  refine hK3 _ _ ?_
  refine vsk fun K9 hK9 => ?_
  refine f5x ?_
  try simp only [a1q]
  refine hK9 _ _ ?_
  refine vsk fun K10 hK10 => ?_
  refine vsk fun K11 hK11 => ?_
  refine a3q 0 [] ?_
  simp only [bs, ↓vopx, ↓vop, Nat.reduceBEq, a1q, flat, Nat.reduceLT, hl, k1, wocs, ↓goc, ↓woc, ↓a2q, j7q, tMat]
  refine hK11 _ _ ?_
  refine a5q ?_
  refine c2q (fun mm e' s' => ∃ i2 : Nat, mm = legs.length - i2 ∧ i2 ≤ legs.length ∧ e'.length = 59 ∧ ev e' (.tmp 2) = .t (tMat ways) ∧ ev e' (.tmp 7) = .loc s.next 0 n ∧ ev e' (.tmp 24) = .t (tMat legs) ∧ ev e' (.tmp 25) = I legs.length ∧ ev e' (.tmp 26) = I i2 ∧ True ∧ s'.m s.next = some (.arr 1 3 ((outK n legs ways i2).map TI)) ∧ ∀ j, j < s.next → s'.m j = s.m j) (⟨0, rfl, Nat.zero_le _, ?_⟩) ?_
  ·try simp only [a0q, a4q, Nat.reduceBEq, lpv, hl, k2, k7, Nat.reduceLT, true_and]
   repeat ((with_reducible refine And.intro ?_ ?_); · trivial)
   have hiN : i = n := by omega
   subst hiN
   rw [h1x] at hM
   exact ⟨hM, hSm⟩
  rintro mm e s1 ⟨i2, rfl, hle_i2, hl, m2, m7, m24, m25, h_i2, hst, ⟨hM, hSm⟩⟩
  refine vsk fun K12 hK12 => ?_
  refine a3q 0 [] ?_
  simp only [a1q, opII, m25, h_i2, wocs, ↓goc, ↓woc]
  refine hK12 _ _ ?_
  refine vsk fun K13 hK13 => ?_
  refine vck fun A B hA hB => ?_
  simp only [b2q, a0q, Nat.reduceLT, decide_eq_true_eq, decide_eq_false_iff_not, hl]
  refine ⟨fun hc27 => hA ?_, fun hc27 => hB ?_⟩
  ·clear hA hB A B
   refine a9q ?_
   refine hK13 _ _ ?_
   refine vsk fun K14 hK14 => ?_
   refine a5q ?_
   refine vsk fun K15 hK15 => ?_
   obtain ⟨l, hl9⟩ : ∃ l, legs[i2]? = some l := ⟨_, List.getElem?_eq_getElem (by omega)⟩
   obtain ⟨w, hw9⟩ : ∃ w, ways[i2]? = some w := ⟨_, List.getElem?_eq_getElem (by omega)⟩
   have hls := hsz l (List.mem_of_getElem? hl9)
   have hi2 : i2 < legs.length := by omega
   have hi3 : i2 < ways.length := by omega
   refine a3q 0 [] ?_
   simp only [bs, ↓vopx, ↓vop, Nat.reduceBEq, a1q, Nat.reduceLT, a8q, b0q, hl, m24, h_i2, wocs, ↓goc, ↓woc, ↓a2q, Tryz.ag40, Tryz.sz40, Tryz.un30, tMat, hl9]
   repeat ((with_reducible refine And.intro ?_ ?_); · (with_reducible assumption))
   refine hK15 _ _ ?_
   refine vsk fun K16 hK16 => ?_
   refine vsk fun K17 hK17 => ?_
   refine a3q 0 [] ?_
   simp only [bs, ↓vopx, ↓vop, Nat.reduceBEq, a1q, Nat.reduceLT, a8q, b0q, opII, hl, m2, wocs, ↓goc, ↓woc, ↓a2q, Tryz.ag40, Tryz.sz40, Tryz.un40, Tryz.un30, e2q, tMat, hw9]
   repeat ((with_reducible refine And.intro ?_ ?_); · (with_reducible assumption))
   refine hK17 _ _ ?_
   refine vck fun A B hA hB => ?_
   simp only [b2q, a0q, lpv, Nat.reduceLT, bne_iff_ne, bne_eq_false_iff_eq, ne_eq, hl]
   refine ⟨fun hc38 => hA ?_, fun hc38 => hB ?_⟩
   ·clear hA hB A B
    refine c1q ?_
    simp only [a1q, b5q, noGoto, if_true, if_false, Nat.reduceEqDiff]
    refine hK14 _ _ ?_
    refine a3q 0 [] ?_
    simp only [bs, ↓vopx, ↓vop, Nat.reduceBEq, a1q, flat, Nat.reduceLT, opII, hl, m2, m7, m24, m25, h_i2, wocs, ↓goc, ↓woc, ↓a2q, tMat]
    repeat ((with_reducible refine And.intro ?_ ?_); · exact ⟨by omega, by omega⟩)
    refine ⟨legs.length - (i2 + 1), by omega, i2 + 1, rfl, by omega, ?_⟩
    try simp only [a0q, a4q, Nat.reduceBEq, lpv, hl, m2, m7, m24, m25, h_i2, if_true, if_false, Nat.reduceEqDiff, Nat.reduceLT, true_and, and_true]
    repeat ((with_reducible refine And.intro ?_ ?_); · trivial)
    first
     | exact ⟨by rw [w8z hl9 hw9 (by omega)]; exact hM, hSm⟩
     | exact ⟨by rw [r6z hl9 hw9 (by omega), show l.length = j from by omega]; exact hM, hSm⟩
   ·clear hA hB A B
    refine a9q ?_
    refine hK16 _ _ ?_
    refine vsk fun K18 hK18 => ?_
    refine a3q 0 [] ?_
    simp only [bs, ↓vopx, ↓vop, Nat.reduceBEq, a1q, flat, Nat.reduceLT, hl, wocs, ↓goc, ↓woc, ↓a2q, e2q]
    refine hK18 _ _ ?_
    refine a5q ?_
    refine c2q (fun mm e' s' => ∃ j : Nat, mm = l.length - j ∧ j ≤ l.length ∧ e'.length = 59 ∧ ev e' (.tmp 2) = .t (tMat ways) ∧ ev e' (.tmp 7) = .loc s.next 0 n ∧ ev e' (.tmp 9) = I i2 ∧ ev e' (.tmp 24) = .t (tMat legs) ∧ ev e' (.tmp 25) = I legs.length ∧ ev e' (.tmp 26) = I i2 ∧ ev e' (.tmp 39) = .t (c0q l) ∧ ev e' (.tmp 40) = I l.length ∧ ev e' (.tmp 41) = I j ∧ True ∧ s'.m s.next = some (.arr 1 3 ((putL (outK n legs ways i2) l w j).map TI)) ∧ ∀ j, j < s.next → s'.m j = s.m j) (⟨0, rfl, Nat.zero_le _, ?_⟩) ?_
    ·try simp only [a0q, a4q, Nat.reduceBEq, lpv, hl, m2, m7, m24, m25, Nat.reduceLT, true_and]
     repeat ((with_reducible refine And.intro ?_ ?_); · trivial)
     exact hSm
    rintro mm e s1 ⟨j, rfl, hle_j, hl, p2, p7, p9, p24, p25, p26, p39, p40, h_j, hst, ⟨hM, hSm⟩⟩
    refine vsk fun K19 hK19 => ?_
    refine a3q 0 [] ?_
    simp only [a1q, opII, p40, h_j, wocs, ↓goc, ↓woc]
    refine hK19 _ _ ?_
    refine vsk fun K20 hK20 => ?_
    refine vck fun A B hA hB => ?_
    simp only [b2q, a0q, Nat.reduceLT, decide_eq_true_eq, decide_eq_false_iff_not, hl]
    refine ⟨fun hc42 => hA ?_, fun hc42 => hB ?_⟩
    ·clear hA hB A B
     refine a9q ?_
     refine hK20 _ _ ?_
     refine vsk fun K21 hK21 => ?_
     refine a5q ?_
     refine vsk fun K22 hK22 => ?_
     obtain ⟨y, hy⟩ : ∃ y, l[j]? = some y := ⟨_, List.getElem?_eq_getElem (by omega)⟩
     obtain ⟨z, hz⟩ : ∃ z, w[j]? = some z := ⟨_, List.getElem?_eq_getElem (by omega)⟩
     have hjl : j < l.length := by omega
     have hjw : j < w.length := by omega
     have hyb := hin l (List.mem_of_getElem? hl9) y (List.mem_of_getElem? hy)
     refine a3q 0 [] ?_
     simp only [bs, ↓vopx, ↓vop, Nat.reduceBEq, a1q, Nat.reduceLT, a8q, b0q, hl, p39, h_j, wocs, ↓goc, ↓woc, ↓a2q, Tryz.ag3, Tryz.sz3, Tryz.un40, hy]
     repeat ((with_reducible refine And.intro ?_ ?_); · (with_reducible assumption))
     refine hK22 _ _ ?_
     have hpl := t3q (outK n legs ways i2) l w j
     have hol := w5q n legs ways i2
     refine a3q 0 [] ?_
     simp only [bs, ↓vopx, ↓vop, Nat.reduceBEq, a1q, b5q, Nat.reduceLT, V.cells, a8q, b0q, Sg.frzL, Sg.frz1, hl, p2, p7, p9, wocs, ↓goc, ↓woc, ↓a2q, Tryz.ag40, Tryz.ag3, Tryz.sz40, Tryz.sz3, Tryz.un40, Tryz.un30, tMat, hM, hz, hw9, hpl, hol]
     repeat ((with_reducible refine And.intro ?_ ?_); · first | (with_reducible assumption) | omega)
     refine hK21 _ _ ?_
     refine a3q 0 [] ?_
     simp only [bs, ↓vopx, ↓vop, Nat.reduceBEq, a1q, flat, Nat.reduceLT, opII, hl, p2, p7, p9, p24, p25, p26, p39, p40, h_j, wocs, ↓goc, ↓woc, ↓a2q, tMat]
     repeat ((with_reducible refine And.intro ?_ ?_); · exact ⟨by omega, by omega⟩)
     refine ⟨l.length - (j + 1), by omega, j + 1, rfl, by omega, ?_⟩
     try simp only [a0q, a4q, Nat.reduceBEq, lpv, hl, p2, p7, p9, p24, p25, p26, p39, p40, h_j, if_true, if_false, Nat.reduceEqDiff, Nat.reduceLT, true_and, and_true]
     repeat ((with_reducible refine And.intro ?_ ?_); · trivial)
     exact ⟨by rw [r9q _ (by rw [hpl, hol]; omega), z8q hy hz], fun j hj => by rw [if_neg (by omega)]; exact hSm j hj⟩
    ·clear hA hB A B
     refine c1q ?_
     simp only [a1q, b5q, noGoto, if_true, if_false, Nat.reduceEqDiff]
     refine hK14 _ _ ?_
     refine a3q 0 [] ?_
     simp only [bs, ↓vopx, ↓vop, Nat.reduceBEq, a1q, flat, Nat.reduceLT, opII, hl, p2, p7, p24, p25, p26, wocs, ↓goc, ↓woc, ↓a2q, tMat]
     repeat ((with_reducible refine And.intro ?_ ?_); · exact ⟨by omega, by omega⟩)
     refine ⟨legs.length - (i2 + 1), by omega, i2 + 1, rfl, by omega, ?_⟩
     try simp only [a0q, a4q, Nat.reduceBEq, lpv, hl, m2, m7, m24, m25, h_i2, if_true, if_false, Nat.reduceEqDiff, Nat.reduceLT, true_and, and_true]
     repeat ((with_reducible refine And.intro ?_ ?_); · trivial)
     first
      | exact ⟨by rw [w8z hl9 hw9 (by omega)]; exact hM, hSm⟩
      | exact ⟨by rw [r6z hl9 hw9 (by omega), show l.length = j from by omega]; exact hM, hSm⟩
  ·clear hA hB A B
   refine c1q ?_
   simp only [a1q, b5q, noGoto, if_true]
   refine hK10 _ _ ?_
   refine vsk fun K23 hK23 => ?_
   refine a3q 0 [] ?_
   simp only [bs, ↓vopx, ↓vop, Nat.reduceBEq, a1q, Nat.reduceLT, hl, m7, wocs, ↓goc, ↓woc, ↓a2q]
   refine hK23 _ _ ?_
   refine b1q ?_
   have hiL : i2 = legs.length := by omega
   subst hiL
   refine hQ _ _ _ (.inr rfl) (f0z (n := s.next) (len := n) ?_ hM ?_ (Nat.le_refl _) fun m b hl h => (hSm m hl).trans h)
   ·simp only [a0q, lpv, hl, Nat.reduceLT]
   ·show ((outS n legs ways).map TI).length = n * 1; rw [List.length_map, show outS n legs ways = outK n legs ways legs.length from rfl, w5q, Nat.mul_one]
end Go.Proofs

open Go Go.V
namespace Go.Proofs
structure LaI (s : Sg) (o : Ob) (L : List Int) (i m7 : Nat) (s' : Sg) : Prop where
 b2 : s'.m s.next = some (.box 29 [.t (d1q o.labels), .t (b3q o.pairs)])
 b4 : s'.m (s.next + 1) = some (.box 29 [.t (.v (.slice none 0 0)), .t (.v (.slice none 0 0))])
 a7 : s'.m m7 = some (.arr 1 9 ((i4q o L i).map TS))
 same : ∀ j, j < s.next → s'.m j = s.m j
 lo : s.next + 2 ≤ m7
 hi : m7 < s'.next
theorem u9z {o : Ob} {L : List Int} {i : Nat} {z : Int} (hz : L[i]? = some z) (h : z ≠ (i4q o L i).length) : i4q o L (i + 1) = i4q o L i := by
 have hg := f9q hz
 unfold i4q at h ⊢
 rw [List.length_map] at h
 show List.map _ (if L.getD i 0 = (fstL L i).length then fstL L i ++ [i] else fstL L i) = _
 rw [hg, if_neg h]
theorem u8z {o : Ob} {L : List Int} {i : Nat} {z : Int} {lb : ByteArray} (hz : L[i]? = some z) (h : z = (i4q o L i).length) (hl : o.labels[i]? = some lb) : i4q o L (i + 1) = i4q o L i ++ [lb] := by
 have hg := f9q hz
 unfold i4q at h ⊢
 rw [List.length_map] at h
 show List.map _ (if L.getD i 0 = (fstL L i).length then fstL L i ++ [i] else fstL L i) = _
 rw [hg, if_pos h]
 simp [List.getD_eq_getElem?_getD, hl]
theorem d0z (o : Ob) (L : List Int) (i : Nat) : (i4q o L i).length = (fstL L i).length := by simp [i4q]
theorem LaI.old {s : Sg} {o : Ob} {L : List Int} {i m7 : Nat} {s' : Sg} (h : LaI s o L i m7 s') {z : Int} (hz : L[i]? = some z) (hn : z ≠ (i4q o L i).length) : ∃ m, V.loc m7 0 (i4q o L i).length = .loc m 0 (i4q o L (i + 1)).length ∧ LaI s o L (i + 1) m s' := by
 refine ⟨m7, ?_, ?_⟩
 ·rw [u9z hz hn]
 ·obtain ⟨h1, h2, h3, h4, h5, h6⟩ := h
  exact ⟨h1, h2, by rw [u9z hz hn]; exact h3, h4, h5, h6⟩
theorem LaI.new {s : Sg} {o : Ob} {L : List Int} {i m7 : Nat} {s' : Sg} (h : LaI s o L i m7 s') {z : Int} {lb : ByteArray} (hz : L[i]? = some z) (hn : z = (i4q o L i).length) (hl : o.labels[i]? = some lb) (B : Blk) : ∃ m, V.loc (s'.next + 1) 0 ((i4q o L i).length + 1) = .loc m 0 (i4q o L (i + 1)).length ∧ LaI s o L (i + 1) m (((s'.add B).del m7).add (.arr 1 9 ((i4q o L i).map TS ++ [TS lb]))) := by
 have hlo := h.lo
 have hhi := h.hi
 have hfr : ∀ x, x < s'.next → x ≠ m7 → (((s'.add B).del m7).add (.arr 1 9 ((i4q o L i).map TS ++ [TS lb]))).m x = s'.m x := fun x h1 h2 => by
  rw [b7q, if_neg (by simp only [e9q, c6q]; omega), e4q, if_neg h2, b7q, if_neg (by omega)]
 refine ⟨s'.next + 1, ?_, ?_, ?_, ?_, fun j hj => ?_, by omega, by simp only [e9q, c6q]; omega⟩
 ·rw [u8z hz hn hl, List.length_append]; rfl
 ·rw [hfr _ (by omega) (by omega)]; exact h.b2
 ·rw [hfr _ (by omega) (by omega)]; exact h.b4
 ·rw [b7q, if_pos (by simp only [e9q, c6q]), u8z hz hn hl, List.map_append]; rfl
 ·rw [hfr _ (by omega) (by omega)]; exact h.same j hj
set_option maxRecDepth 20000 in
set_option maxHeartbeats 4000000 in
theorem glued_ (s : Sg) (p m : Nat) (l : List Int) (hu : RefU s p m l) (hwf : wfU l) (o : Ob) (ho : IsOb o) (hpo : o.pairs.length < 1000000000) (hll : l.length = o.labels.length) : k0q Tryz.prog 28 [vObj o, .ptr p 0] s (.tup [vObj (l1q o (c3q l)), .t (c0q (c3q l))]) (s) := by
 refine d0q Tryz.func28 rfl fun Q hQ => ?_
 obtain ⟨e, he, hl, h0, h1⟩ : ∃ e : Env, ([vObj o, .ptr p 0] ++ List.replicate (Tryz.f28.ntmps - ([vObj o, .ptr p 0] : List V).length) .junk) = e ∧ e.length = 73 ∧ ev e (.tmp 0) = vObj o ∧ ev e (.tmp 1) = .ptr p 0 := ⟨_, rfl, rfl, rfl, rfl⟩
 rw [he]
 clear he
 have hle := ho.le
 obtain ⟨L, hL⟩ : ∃ L, L = c3q l := ⟨_, rfl⟩
 have hLl : L.length = l.length := by rw [hL, q6q]
 have hok : PlOK L := by rw [hL]; exact v2q hwf
 rw [← hL] at hQ
 refine vsk fun K1 hK1 => ?_
 refine a3q 0 [] ?_
 simp only [bs, ↓vopx, ↓vop, a1q, flat, V.cells, h0, wocs, ↓goc, ↓woc, ↓a2q, Tryz.zv29]
 refine hK1 _ _ ?_
 refine vsk fun K2 hK2 => ?_
 refine p3q fun sa hSa => ?_
 have ha2 : sa.m s.next = some (.box 29 [.t (d1q o.labels), .t (b3q o.pairs)]) := by rw [hSa, b7q, if_neg (by rw [c6q]; omega), b7q, if_pos rfl]
 have ha4 : sa.m (s.next + 1) = some (.box 29 [.t (.v (.slice none 0 0)), .t (.v (.slice none 0 0))]) := by rw [hSa, b7q, if_pos (by rw [c6q])]
 have han : sa.next = s.next + 2 := by rw [hSa]; rfl
 have hak : ∀ j, j < s.next → sa.m j = s.m j := fun j hj => by rw [hSa, b7q, if_neg (by rw [c6q]; omega), b7q, if_neg (by omega)]
 have hua : RefU sa p m l := hu.keep (fun n b hn hb => by rw [hak n hn]; exact hb) (by omega)
 clear hSa
 refine a3q 0 [.stop] ?_
 simp only [bs, ↓vopx, ↓vop, Nat.reduceBEq, a1q, Nat.reduceLT, hl, h1, wocs, ↓goc, ↓woc, ↓a2q, ↓b8q, a6q]
 refine ⟨Tryz.is47, k0q.v (i0x sa p m l hua (by omega) hwf) ?_⟩
 rw [← hL]
 try simp only [bs, Nat.reduceBEq, Nat.reduceLT, hl, h1, Hold]
 refine hK2 _ _ ?_
 refine vsk fun K3 hK3 => ?_
 refine a3q 0 [] ?_
 simp only [bs, ↓vopx, ↓vop, a1q, flat, wocs, ↓goc, ↓woc, ↓a2q]
 refine hK3 _ _ ?_
 refine vsk fun K4 hK4 => ?_
 refine vsk fun K5 hK5 => ?_
 refine VW.name 7 1 9 (by omega) ?_ ?_
 ·try simp only [a0q, lpv, hl, Nat.reduceLT]
 refine p3q fun sb hSb => ?_
 have hLa : LaI s o L 0 sa.next sb := ⟨by rw [hSb, b7q, if_neg (by omega)]; exact ha2, by rw [hSb, b7q, if_neg (by omega)]; exact ha4, by rw [hSb, b7q, if_pos rfl]; rfl, fun j hj => by rw [hSb, b7q, if_neg (by omega)]; exact hak j hj, by omega, by rw [hSb, c6q]; omega⟩
 clear hSb
 refine a3q 0 [] ?_
 simp only [bs, ↓vopx, ↓vop, a1q, flat, wocs, ↓goc, ↓woc, ↓a2q]
 refine hK5 _ _ ?_
 refine a5q ?_
 refine c2q (fun mm e' s' => ∃ i : Nat, mm = L.length - i ∧ i ≤ L.length ∧ e'.length = 73 ∧ ev e' (.tmp 2) = .ptr s.next 0 ∧ ev e' (.tmp 4) = .ptr (s.next + 1) 0 ∧ ev e' (.tmp 6) = .t (c0q L) ∧ ev e' (.tmp 8) = I i ∧ True ∧ ∃ m7, ev e' (.tmp 7) = .loc m7 0 (i4q o L i).length ∧ LaI s o L i m7 s') (⟨0, rfl, Nat.zero_le _, ?_⟩) ?_
 ·try simp only [a0q, a4q, Nat.reduceBEq, lpv, hl, Nat.reduceLT, true_and]
  repeat ((with_reducible refine And.intro ?_ ?_); · trivial)
  exact ⟨_, rfl, hLa⟩
 rintro mm e s1 ⟨i, rfl, hle_i, hl, k2, k4, k6, h_i, hst, ⟨m7, k7, hLa⟩⟩
 refine vsk fun K6 hK6 => ?_
 refine vsk fun K7 hK7 => ?_
 refine a3q 0 [] ?_
 simp only [bs, ↓vopx, ↓vop, Nat.reduceBEq, a1q, Nat.reduceLT, opII, hl, k6, h_i, wocs, ↓goc, ↓woc, ↓a2q, e2q]
 refine hK7 _ _ ?_
 refine vck fun A B hA hB => ?_
 simp only [b2q, a0q, lpv, Nat.reduceLT, decide_eq_true_eq, decide_eq_false_iff_not, hl]
 refine ⟨fun hc16 => hA ?_, fun hc16 => hB ?_⟩
 ·clear hA hB A B
  refine a9q ?_
  refine hK6 _ _ ?_
  refine vsk fun K8 hK8 => ?_
  refine a5q ?_
  refine vsk fun K9 hK9 => ?_
  have hlt : i < L.length := by omega
  obtain ⟨z, hz⟩ : ∃ z, L[i]? = some z := ⟨_, List.getElem?_eq_getElem hlt⟩
  refine a3q 0 [] ?_
  simp only [bs, ↓vopx, ↓vop, Nat.reduceBEq, a1q, Nat.reduceLT, a8q, b0q, opII, hl, k6, h_i, k7, wocs, ↓goc, ↓woc, ↓a2q, Tryz.ag3, Tryz.sz3, Tryz.un40, hz]
  repeat ((with_reducible refine And.intro ?_ ?_); · (with_reducible assumption))
  refine hK9 _ _ ?_
  refine vck fun A B hA hB => ?_
  simp only [b2q, a0q, lpv, Nat.reduceLT, beq_iff_eq, beq_eq_false_iff_ne, ne_eq, hl]
  refine ⟨fun hzc => hA ?_, fun hzc => hB ?_⟩
  ·clear hA hB A B
   obtain ⟨lb, hlb⟩ : ∃ lb, o.labels[i]? = some lb := ⟨_, List.getElem?_eq_getElem (by omega)⟩
   have hb2 := hLa.b2
   have ha7 := hLa.a7
   have hsm := d0z o L i
   have hfs := i1z L i
   have n1 : ¬ m7 = s1.next := by have := hLa.hi; omega
   have n2 : ¬ s.next = s1.next := by have := hLa.hi; have := hLa.lo; omega
   have hil : i < o.labels.length := by omega
   refine a3q 0 [] ?_
   simp only [bs, dstT, srcT, Nat.reduceLeDiff, d9q, g7q, repl, Sg.frzP, ↓vopx, ↓vop, Nat.reduceBEq, a1q, b5q, Nat.reduceLT, V.cells, a8q, b0q, Sg.frzL, Sg.frz1, hl, k2, h_i, k7, wocs, ↓goc, ↓woc, ↓a2q, Tryz.ag26, Tryz.ag9, Tryz.fd29_0, Tryz.sl26, Tryz.sz26, Tryz.sz9, Tryz.un26, hb2, ha7, n1, hlb, Nat.div_one]
   repeat ((with_reducible refine And.intro ?_ ?_); · first | (with_reducible assumption) | omega)
   refine hK8 _ _ ?_
   refine a3q 0 [] ?_
   simp only [bs, ↓vopx, ↓vop, Nat.reduceBEq, a1q, flat, Nat.reduceLT, opII, hl, k2, k4, k6, h_i, wocs, ↓goc, ↓woc, ↓a2q]
   repeat ((with_reducible refine And.intro ?_ ?_); · exact ⟨by omega, by omega⟩)
   refine ⟨L.length - (i + 1), by omega, i + 1, rfl, by omega, ?_⟩
   try simp only [a0q, a4q, Nat.reduceBEq, lpv, hl, k2, k4, k6, h_i, k7, if_true, if_false, Nat.reduceEqDiff, Nat.reduceLT, true_and, and_true]
   repeat ((with_reducible refine And.intro ?_ ?_); · trivial)
   first
    | exact hLa.old hz hzc
    | exact hLa.new hz hzc hlb _
  ·clear hA hB A B
   refine a9q ?_
   refine hK8 _ _ ?_
   refine a3q 0 [] ?_
   simp only [bs, ↓vopx, ↓vop, Nat.reduceBEq, a1q, flat, Nat.reduceLT, opII, hl, k2, k4, k6, h_i, k7, wocs, ↓goc, ↓woc, ↓a2q]
   repeat ((with_reducible refine And.intro ?_ ?_); · exact ⟨by omega, by omega⟩)
   refine ⟨L.length - (i + 1), by omega, i + 1, rfl, by omega, ?_⟩
   try simp only [a0q, a4q, Nat.reduceBEq, lpv, hl, k2, k4, k6, h_i, k7, if_true, if_false, Nat.reduceEqDiff, Nat.reduceLT, true_and, and_true]
   repeat ((with_reducible refine And.intro ?_ ?_); · trivial)
   first
    | exact hLa.old hz hzc
    | exact hLa.new hz hzc hlb _
 ·clear hA hB A B
  have han2 : L.length = i := by omega
  refine c1q ?_
  simp only [a1q, b5q, if_true]
  refine hK4 _ _ ?_
  refine vsk fun K10 hK10 => ?_
  rw [← han2] at hLa k7
  have hla7 := hLa.a7
  have hl7 := hLa.lo
  have hh7 := hLa.hi
  refine VW.freeze 7 (n := m7) (len := (i4q o L L.length).length) (k := 1) (el := 9) (cs := (i4q o L L.length).map TS) ?_ hla7 (by simp) ?_
  ·try simp only [a4q, Nat.reduceBEq, k7]
  refine p3q fun sF hSF => ?_
  have hF2 : sF.m s.next = some (.box 29 [.t (d1q o.labels), .t (b3q o.pairs)]) := by rw [hSF, e4q, if_neg (by omega)]; exact hLa.b2
  have hF4 : sF.m (s.next + 1) = some (.box 29 [.t (.v (.slice none 0 0)), .t (.v (.slice none 0 0))]) := by rw [hSF, e4q, if_neg (by omega)]; exact hLa.b4
  have hFk : ∀ j, j < s.next → sF.m j = s.m j := fun j hj => by rw [hSF, e4q, if_neg (by omega)]; exact hLa.same j hj
  have hFn : s.next + 2 ≤ sF.next := by rw [hSF, e9q]; omega
  clear hSF
  have hgn : (i4q o L L.length).length = glN L := by rw [d0z]; rfl
  have hg40 : glN L ≤ 40 := by have := i1z L L.length; show (fstL L L.length).length ≤ 40; omega
  refine a3q 0 [.stop] ?_
  simp only [bs, ↓vopx, ↓vop, a1q, Nat.reduceLT, hl, wocs, ↓goc, ↓woc, ↓a2q, ↓b8q, a6q, c9q, hgn]
  refine ⟨Tryz.is48, (s0z sF (glN L)).mono fun v s2 hv => ?_⟩
  rw [f4z (by omega)] at hv
  obtain ⟨c, o1, r1, rfl, hR, hFr, hk, hnx⟩ := hv
  try simp only [bs, Nat.reduceLT, hl, Hold]
  refine hK10 _ _ ?_
  refine vsk fun K11 hK11 => ?_
  refine vsk fun K12 hK12 => ?_
  refine a3q 0 [] ?_
  simp only [bs, ↓vopx, ↓vop, a1q, flat, wocs, ↓goc, ↓woc, ↓a2q]
  refine hK12 _ _ ?_
  refine a5q ?_
  refine c2q (fun mm e' s' => ∃ j : Nat, mm = o.pairs.length - j ∧ j ≤ o.pairs.length ∧ e'.length = 73 ∧ ev e' (.tmp 2) = .ptr s.next 0 ∧ ev e' (.tmp 4) = .ptr (s.next + 1) 0 ∧ ev e' (.tmp 6) = .t (c0q L) ∧ ev e' (.tmp 7) = .t (d1q (i4q o L L.length)) ∧ ev e' (.tmp 9) = .ptr c 0 ∧ ev e' (.tmp 10) = I j ∧ True ∧ RefR s' c (glN L) (mxOf ((o.pairs.map (mpP L)).take j)) o1 r1 ∧ Keep sF s' ∧ sF.next ≤ s'.next) (⟨0, rfl, Nat.zero_le _, ?_⟩) ?_
  ·try simp only [a0q, a4q, Nat.reduceBEq, lpv, hl, k2, k4, k6, Nat.reduceLT, true_and]
   repeat ((with_reducible refine And.intro ?_ ?_); · trivial)
   first | exact hnx | exact ⟨hR.congr fun x y hx hy => by simp [mxOf], hk, hnx⟩
  rintro mm e s1 ⟨j, rfl, hle_j, hl, q2, q4, q6, q7, q9, h_j, hst, ⟨hd, hkeep, hnx2⟩⟩
  refine vsk fun K13 hK13 => ?_
  refine vsk fun K14 hK14 => ?_
  have hb2 := hkeep _ _ (by omega) hF2
  refine a3q 0 [] ?_
  simp only [bs, ↓vopx, ↓vop, Nat.reduceBEq, a1q, Nat.reduceLT, a8q, b0q, opII, hl, q2, h_j, wocs, ↓goc, ↓woc, ↓a2q, Tryz.ag27, Tryz.fd29_1, Tryz.sz27, Tryz.un27, g2q, hb2]
  refine hK14 _ _ ?_
  refine vck fun A B hA hB => ?_
  simp only [b2q, a0q, lpv, Nat.reduceLT, decide_eq_true_eq, decide_eq_false_iff_not, hl]
  refine ⟨fun hc41 => hA ?_, fun hc41 => hB ?_⟩
  ·clear hA hB A B
   refine a9q ?_
   refine hK13 _ _ ?_
   refine vsk fun K15 hK15 => ?_
   refine a5q ?_
   have hlt : j < o.pairs.length := by omega
   obtain ⟨p, hp⟩ : ∃ p, o.pairs[j]? = some p := ⟨_, List.getElem?_eq_getElem hlt⟩
   have g0 := a1x hp
   have g1 := a2x hp
   have hfl := d7q o.pairs
   have hin : (0 ≤ p.1 ∧ p.1 < o.labels.length) ∧ (0 ≤ p.2 ∧ p.2 < o.labels.length) := n5q.1 ((List.all_eq_true.1 ho.inb) p (List.mem_of_getElem? hp))
   obtain ⟨za, hza⟩ : ∃ z, L[p.1.toNat]? = some z := ⟨_, List.getElem?_eq_getElem (by omega)⟩
   obtain ⟨zb, hzb⟩ : ∃ z, L[p.2.toNat]? = some z := ⟨_, List.getElem?_eq_getElem (by omega)⟩
   have hla := hok.lt hza
   have hlb := hok.lt hzb
   obtain ⟨a, rfl⟩ : ∃ a : Nat, za = (a : Int) := ⟨za.toNat, by omega⟩
   obtain ⟨b, rfl⟩ : ∃ b : Nat, zb = (b : Int) := ⟨zb.toNat, by omega⟩
   have hmp : mpP L p = ((a : Int), (b : Int)) := by simp only [mpP, f9q hza, f9q hzb]
   have hp2k : (o.pairs.map (mpP L))[j]? = some ((a : Int), (b : Int)) := by rw [List.getElem?_map, hp, ← hmp]; rfl
   have xv : outV (glN L) o1 = .loc o1 0 (glN L) := by simp [outV, show ¬ glN L = 0 from by omega]
   have xo := hd.ho (by omega)
   have xr := hd.hr a (by omega)
   have xg : (List.range (glN L))[a]? = some a := List.getElem?_range (by omega)
   refine c5q Tryz.mixed 24 [0, 0, 0, 1, 0, 0, 1, 0, 1, 0, 1, 1, 1, 1, 1, 0, 0, 1, 0, 1, 0, 1, 1, 1] [] [] 0 (by decide +kernel) (by simp [lpv, hl]) rfl ?_
   simp only [bs, f0q, ↓vopx, ↓vop, Nat.reduceBEq, a1q, b5q, flat, Nat.reduceLT, V.cells, a8q, b0q, Sg.frzL, Sg.frz1, hl, q2, q6, q9, h_j, wocs, ↓goc, ↓woc, ↓a2q, ↓e3q, chn, ↓goq, ↓woq, List.zip_cons_cons, List.zip_nil_right, Tryz.ag91, Tryz.ag27, Tryz.ag3, Tryz.ag90, Tryz.fd93_1, Tryz.fd29_1, Tryz.fd65_0, Tryz.fd65_1, Tryz.sz91, Tryz.sz27, Tryz.sz3, Tryz.sz4, Tryz.sz90, Tryz.sz65, Tryz.un91, Tryz.un27, Tryz.un40, Tryz.un90, xv, xo, xr, xg, g0, g1, hfl, hd.hp, g8q, hza, hzb, hb2]
   repeat ((with_reducible refine And.intro ?_ ?_); · omega)
   refine hK15 _ _ ?_
   refine a3q 0 [] ?_
   simp only [bs, ↓vopx, ↓vop, Nat.reduceBEq, a1q, flat, Nat.reduceLT, opII, hl, q2, q4, q6, q7, q9, h_j, wocs, ↓goc, ↓woc, ↓a2q]
   repeat ((with_reducible refine And.intro ?_ ?_); · exact ⟨by omega, by omega⟩)
   refine ⟨o.pairs.length - (j + 1), by omega, j + 1, rfl, by omega, ?_⟩
   try simp only [a0q, a4q, Nat.reduceBEq, lpv, hl, q2, q4, q6, q7, q9, h_j, if_true, if_false, Nat.reduceEqDiff, Nat.reduceLT, true_and, and_true]
   repeat ((with_reducible refine And.intro ?_ ?_); · trivial)
   exact ⟨by rw [r4q hp2k, c7z]; exact hd.put (by omega) (by omega) true, hkeep.set (hFr.hr _ (by omega)) _, hnx2⟩
  ·clear hA hB A B
   have han3 : o.pairs.length = j := by omega
   refine c1q ?_
   simp only [a1q, b5q, if_true]
   refine hK11 _ _ ?_
   refine vsk fun K16 hK16 => ?_
   have hb4 := hkeep _ _ (by omega) hF4
   rw [← han3, List.take_of_length_le (by simp), n3x] at hd
   refine a3q 0 [.stop] ?_
   simp only [bs, ↓vopx, ↓vop, Nat.reduceBEq, a1q, Nat.reduceLT, V.cells, hl, q7, q9, wocs, ↓goc, ↓woc, ↓a2q, ↓b8q, a6q]
   refine ⟨Tryz.is49, k0q.v (a3j s1 (i4q o L L.length) (by omega) c (glN L) _ o1 r1 hd) ?_⟩
   try simp only [bs, Nat.reduceAdd, Nat.reduceBEq, Nat.reduceLT, hl, q4, q6, q7, q9, Tryz.sz29, hb4, Hold]
   refine hK16 _ _ ?_
   refine b1q ?_
   refine hQ _ _ _ (.inr rfl) (Done.toS ?_)
   refine u8q (vs := [vObj (l1q o L), .t (c0q L)]) ?_ rfl (by simp [pack, nm, nm2, nm1, nm0]) (fun n b hn h => by rw [b9q, if_neg (by omega)]; exact hkeep n b (by omega) (by rw [hFk n hn]; exact h))
   show vres Tryz.prog _ _ [.cell 4 29, .tmp 5] = _
   simp only [j6q, n9q, m1q, a0q, a4q, Nat.reduceBEq, lpv, hl, q4, Tryz.sz29, Tryz.ag29, a8q, b9q, b0q, if_true, Nat.reduceLT, List.drop_zero, List.take_succ_cons, List.take_zero, List.length_cons, List.length_nil, Nat.zero_add, Nat.reduceAdd]
   rfl
end Go.Proofs

open Go Go.V
namespace Go.Proofs
theorem c5j {l : List Int} (h : wfU l) (a b : Nat) : wfU (joinL l a b) := fun i z hz => by
 have nn : ∀ j, 0 ≤ l.getD j 0 := fun j => by
  rw [List.getD_eq_getElem?_getD]
  cases hh : l[j]? with
  | none => exact Int.le_refl _
  | some v => exact (h j v hh).1
 unfold joinL at hz
 rw [List.getElem?_map] at hz
 obtain ⟨w, hw, rfl⟩ := Option.map_eq_some_iff.1 hz
 have h1 := h i w hw
 have h2 := nn a
 have h3 := nn b
 split <;> omega
theorem u5x (n : Nat) : wfU (e8q n) := fun i z hz => by
 have hi : i < n := by have := (List.getElem?_eq_some_iff.1 hz).1; rwa [g4q] at this
 have : (e8q n)[i]? = some (i : Int) := by simp [e8q, hi]
 rw [this] at hz; cases hz
 omega
theorem y5z (n : Nat) (f g : List Int) : ∀ i, wfU (j0q (e8q n) f g i)
 | 0 => u5x n
 | i + 1 => c5j (y5z n f g i) _ _
end Go.Proofs

open Go Go.V
namespace Go.Proofs
theorem half2 (n : Nat) : n * 2 / 2 = n := by omega
theorem keep_da (s : Sg) (m : Nat) (B : Blk) : Keep (s.del m) (s.add B) := fun n b hn hb => by
 rw [e4q] at hb
 split at hb
 ·cases hb
 ·have h2 : n < s.next := hn
  have : ¬ n = s.next := by omega
  rw [b7q, if_neg this]; exact hb
theorem half22 (n : Nat) : (n * 2 + 2) / 2 = n + 1 := by omega
structure BdZ (s : Sg) (b c : Ob) (n6 m1 m2 : Nat) (s' : Sg) : Prop where
 b3 : s'.m (s.next + 1) = some (.box 29 [.t (d1q c.labels), .t (b3q c.pairs)])
 b4 : s'.m (s.next + 1 + 1) = some (.box 29 [.t (.v (.slice none 0 0)), .t (.v (.slice none 0 0))])
 b6 : s'.m n6 = some (.box 29 [.loc m1 0 (b.labels.length + c.labels.length), .loc m2 0 b.pairs.length])
 a1 : s'.m m1 = some (.arr 1 9 (b.labels.map TS ++ c.labels.map TS))
 a2 : s'.m m2 = some (.arr 2 65 (b.pairs.flatMap l2q))
 same : ∀ j, j < s.next → s'.m j = s.m j
 l6 : s.next + 3 ≤ n6 ∧ n6 < s'.next
 l1 : s.next + 3 ≤ m1 ∧ m1 < s'.next
 l2 : s.next + 3 ≤ m2 ∧ m2 < s'.next
 d : n6 ≠ m1 ∧ n6 ≠ m2 ∧ m1 ≠ m2
structure BdI (s : Sg) (b c : Ob) (n6 k m : Nat) (s' : Sg) : Prop where
 b3 : s'.m (s.next + 1) = some (.box 29 [.t (d1q c.labels), .t (b3q c.pairs)])
 b4 : s'.m (s.next + 1 + 1) = some (.box 29 [.t (.v (.slice none 0 0)), .t (.v (.slice none 0 0))])
 b6 : s'.m n6 = some (.box 29 [.t (d1q (b.labels ++ c.labels)), .loc m 0 (b.pairs.length + k)])
 am : s'.m m = some (.arr 2 65 ((b.pairs ++ (c.pairs.take k).map (shP b.labels.length)).flatMap l2q))
 same : ∀ j, j < s.next → s'.m j = s.m j
 l6 : s.next + 3 ≤ n6 ∧ n6 < s'.next
 lm : s.next + 3 ≤ m ∧ m < s'.next
 d : n6 ≠ m
theorem BdI.push {s : Sg} {b c : Ob} {n6 i m : Nat} {s1 : Sg} (h : BdI s b c n6 i m s1) {p : Int × Int} (hp : c.pairs[i]? = some p) (B : Blk) : BdI s b c n6 (i + 1) (s1.next + 1)
 ((((s1.add B).del m).add (.arr 2 65 ((b.pairs ++ (c.pairs.take i).map (shP b.labels.length)).flatMap l2q ++ [TI (p.1 + b.labels.length), TI (p.2 + b.labels.length)]))).set n6 (.box 29 [.t (d1q (b.labels ++ c.labels)), .loc (s1.next + 1) 0 (b.pairs.length + i + 1)])) := by
 obtain ⟨h3, h4, h6, ha, hs, ⟨l6, l6'⟩, ⟨lm, lm'⟩, hd⟩ := h
 have hfr : ∀ x, x < s1.next → x ≠ m → x ≠ n6 → ((((s1.add B).del m).add (.arr 2 65 ((b.pairs ++ (c.pairs.take i).map (shP b.labels.length)).flatMap l2q ++ [TI (p.1 + b.labels.length), TI (p.2 + b.labels.length)]))).set n6 (.box 29 [.t (d1q (b.labels ++ c.labels)), .loc (s1.next + 1) 0 (b.pairs.length + i + 1)])).m x = s1.m x := fun x h1 h2 h5 => by
  rw [b9q, if_neg h5, b7q, if_neg (by simp only [e9q, c6q]; omega), e4q, if_neg h2, b7q, if_neg (by omega)]
 refine ⟨by rw [hfr _ (by omega) (by omega) (by omega)]; exact h3, by rw [hfr _ (by omega) (by omega) (by omega)]; exact h4, by rw [b9q, if_pos rfl]; rfl, ?_, fun j hj => by rw [hfr _ (by omega) (by omega) (by omega)]; exact hs j hj, ⟨l6, by simp only [h9q, c6q, e9q]; omega⟩, ⟨by omega, by simp only [h9q, c6q, e9q]; omega⟩, by omega⟩
 rw [b9q, if_neg (by omega), b7q, if_pos (by simp only [e9q, c6q]), List.take_add_one, hp]
 simp [shP, l2q]
set_option maxRecDepth 20000 in
set_option maxHeartbeats 4000000 in
theorem w0x (b c : Ob) (hb1 : b.labels.length < 1000000000) (hb2 : b.pairs.length < 1000000000) (hc1 : c.labels.length < 1000000000) (hc2 : c.pairs.length < 1000000000) (hcO : IsOb c) : f7q Tryz.prog 25 [vObj b, vObj c] (vObj (k7q b c)) := by
 refine b4q Tryz.func25 rfl fun s Q hQ => ?_
 obtain ⟨e, he, hl, h0, h1⟩ : ∃ e : Env, ([vObj b, vObj c] ++ List.replicate (Tryz.f25.ntmps - ([vObj b, vObj c] : List V).length) .junk) = e ∧ e.length = 51 ∧ ev e (.tmp 0) = vObj b ∧ ev e (.tmp 1) = vObj c := ⟨_, rfl, rfl, rfl, rfl⟩
 rw [he]
 clear he
 refine vsk fun K1 hK1 => ?_
 refine a3q 0 [] ?_
 simp only [bs, ↓vopx, ↓vop, Nat.reduceBEq, a1q, V.cells, h0, h1, wocs, ↓goc, ↓woc, ↓a2q, Tryz.zv29]
 refine hK1 _ _ ?_
 refine vsk fun K2 hK2 => ?_
 refine a3q 0 [] ?_
 simp only [bs, ↓vopx, ↓vop, Nat.reduceBEq, a1q, Nat.reduceLT, a8q, b0q, hl, wocs, ↓goc, ↓woc, ↓a2q, Tryz.ag26, Tryz.fd29_0, Tryz.sz26, Tryz.un26, nns, c9q]
 refine hK2 _ _ ?_
 refine vsk fun K3 hK3 => ?_
 suffices key : ∀ (e2 : Env) (s2 : Sg) (n6 m1 m2 : Nat), e2.length = 51 → ev e2 (.tmp 2) = .ptr s.next 0 → ev e2 (.tmp 3) = .ptr (s.next + 1) 0 → ev e2 (.tmp 4) = .ptr (s.next + 1 + 1) 0 → ev e2 (.tmp 5) = I b.labels.length → ev e2 (.tmp 6) = .ptr n6 0 → BdZ s b c n6 m1 m2 s2 → K3 e2 s2 by
  refine c4x Tryz.mixed 11 [2, 5, 8, 10] (.quiet 0 0 (.quiet 1 2 (.quiet 3 0 (.quiet 4 2 (.quiet 6 0 (.quiet 7 2 (.alt 2 0 (.alt 5 0 (.alt 8 0 (.quiet 9 0 (.alt 10 0 (.leaf) (.none))) (.alt 10 0 (.alt 8 0 (.quiet 9 0 (.leaf)) (.none)) (.none))) (.alt 10 0 (.alt 5 0 (.alt 8 0 (.quiet 9 0 (.leaf)) (.none)) (.none)) (.none))) (.alt 10 0 (.alt 2 0 (.alt 5 0 (.alt 8 0 (.quiet 9 0 (.leaf)) (.none)) (.none)) (.none)) (.none))))))))) [] [] 0 (by decide +kernel) (by simp [lpv, hl]) rfl ?_
  simp only [bs, dstT, srcT, Nat.reduceLeDiff, Nat.reduceAdd, d9q, g7q, ↓vopx, ↓vop, Nat.reduceBEq, a1q, flat, Nat.reduceLT, V.cells, a8q, b0q, hl, trn, wocs, ↓goc, ↓woc, ↓a2q, ↓goq, ↓woq, Tryz.ag26, Tryz.ag27, Tryz.fd29_0, Tryz.fd29_1, Tryz.sl26, Tryz.sl27, Tryz.st29, Tryz.sz26, Tryz.sz27, Tryz.sz29, Tryz.zv29, half2, Nat.div_one, nns, d7q]
  (repeat' (refine And.intro ?_ ?_))
  all_goals first | omega | (repeat' first | exact Keep.refl _ | refine Keep.add ?_ ?_ _ | refine Keep.del ?_ ?_ | refine Keep.set ?_ ?_ _ | exact Nat.le_refl _ | (simp only [c6q, e9q]; omega); done) | skip
  ·refine key _ _ (s.next + 1 + 1 + 1 + 1 + 1 + 1) (s.next + 1 + 1 + 1 + 1) (s.next + 1 + 1 + 1 + 1 + 1) ?_ ?_ ?_ ?_ ?_ ?_ ⟨?_, ?_, ?_, ?_, ?_, fun j hj => ?_, ⟨by omega, ?_⟩, ⟨by omega, ?_⟩, ⟨by omega, ?_⟩, ⟨by omega, by omega, by omega⟩⟩
   ·simp only [lpv, hl]
   ·simp only [a0q, a4q, Nat.reduceBEq, hl, Nat.reduceLT]
   ·simp only [a0q, a4q, Nat.reduceBEq, lpv, hl, Nat.reduceLT]
   ·simp only [a0q, a4q, Nat.reduceBEq, lpv, hl, Nat.reduceLT]
   ·simp only [a0q, a4q, Nat.reduceBEq, lpv, hl, Nat.reduceLT]
   ·simp only [a0q, lpv, hl, Nat.reduceLT]
   ·simp only [b9q, b7q, e4q, c6q, e9q, nns, if_true, if_false]
   ·simp only [b9q, b7q, e4q, c6q, e9q, nns, if_true, if_false]
   ·simp only [b9q, b7q, e4q, c6q, e9q, nns, if_true, if_false]
   ·simp only [b9q, b7q, e4q, c6q, e9q, nns, if_true, if_false]
   ·simp only [b9q, b7q, e4q, c6q, e9q, nns, if_true, if_false]
   ·have z0 : ¬ j = s.next := (by omega); have z1 : ¬ j = s.next + 1 := (by omega); have z2 : ¬ j = s.next + 1 + 1 := (by omega); have z3 : ¬ j = s.next + 1 + 1 + 1 := (by omega); have z4 : ¬ j = s.next + 1 + 1 + 1 + 1 := (by omega); have z5 : ¬ j = s.next + 1 + 1 + 1 + 1 + 1 := (by omega); have z6 : ¬ j = s.next + 1 + 1 + 1 + 1 + 1 + 1 := (by omega)
    simp only [b9q, b7q, e4q, c6q, e9q, z0, z1, z2, z3, z4, z5, z6, if_false]
   ·simp only [c6q, h9q, e9q]; omega
   ·simp only [c6q, h9q, e9q]; omega
   ·simp only [c6q, h9q, e9q]; omega
  ·refine key _ _ (s.next + 1 + 1 + 1 + 1 + 1) (s.next + 1 + 1 + 1 + 1) (s.next + 1 + 1 + 1 + 1 + 1 + 1) ?_ ?_ ?_ ?_ ?_ ?_ ⟨?_, ?_, ?_, ?_, ?_, fun j hj => ?_, ⟨by omega, ?_⟩, ⟨by omega, ?_⟩, ⟨by omega, ?_⟩, ⟨by omega, by omega, by omega⟩⟩
   ·simp only [lpv, hl]
   ·simp only [a0q, a4q, Nat.reduceBEq, hl, Nat.reduceLT]
   ·simp only [a0q, a4q, Nat.reduceBEq, lpv, hl, Nat.reduceLT]
   ·simp only [a0q, a4q, Nat.reduceBEq, lpv, hl, Nat.reduceLT]
   ·simp only [a0q, a4q, Nat.reduceBEq, lpv, hl, Nat.reduceLT]
   ·simp only [a0q, a4q, Nat.reduceBEq, lpv, hl, Nat.reduceLT]
   ·simp only [b9q, b7q, e4q, c6q, e9q, nns, if_true, if_false]
   ·simp only [b9q, b7q, e4q, c6q, e9q, nns, if_true, if_false]
   ·simp only [b9q, b7q, e4q, c6q, e9q, nns, if_true, if_false]
   ·simp only [b9q, b7q, e4q, c6q, e9q, nns, if_true, if_false]
   ·simp only [b9q, b7q, e4q, c6q, e9q, nns, if_true, if_false]
   ·have z0 : ¬ j = s.next := (by omega); have z1 : ¬ j = s.next + 1 := (by omega); have z2 : ¬ j = s.next + 1 + 1 := (by omega); have z3 : ¬ j = s.next + 1 + 1 + 1 := (by omega); have z4 : ¬ j = s.next + 1 + 1 + 1 + 1 := (by omega); have z5 : ¬ j = s.next + 1 + 1 + 1 + 1 + 1 := (by omega); have z6 : ¬ j = s.next + 1 + 1 + 1 + 1 + 1 + 1 := (by omega)
    simp only [b9q, b7q, e4q, c6q, e9q, z0, z1, z2, z3, z4, z5, z6, if_false]
   ·simp only [c6q, h9q, e9q]; omega
   ·simp only [c6q, h9q, e9q]; omega
   ·simp only [c6q, h9q, e9q]; omega
  ·refine key _ _ (s.next + 1 + 1 + 1 + 1) (s.next + 1 + 1 + 1 + 1 + 1) (s.next + 1 + 1 + 1 + 1 + 1 + 1) ?_ ?_ ?_ ?_ ?_ ?_ ⟨?_, ?_, ?_, ?_, ?_, fun j hj => ?_, ⟨by omega, ?_⟩, ⟨by omega, ?_⟩, ⟨by omega, ?_⟩, ⟨by omega, by omega, by omega⟩⟩
   ·simp only [lpv, hl]
   ·simp only [a0q, a4q, Nat.reduceBEq, hl, Nat.reduceLT]
   ·simp only [a0q, a4q, Nat.reduceBEq, lpv, hl, Nat.reduceLT]
   ·simp only [a0q, a4q, Nat.reduceBEq, lpv, hl, Nat.reduceLT]
   ·simp only [a0q, a4q, Nat.reduceBEq, lpv, hl, Nat.reduceLT]
   ·simp only [a0q, a4q, Nat.reduceBEq, lpv, hl, Nat.reduceLT]
   ·simp only [b9q, b7q, e4q, c6q, e9q, nns, if_true, if_false]
   ·simp only [b9q, b7q, e4q, c6q, e9q, nns, if_true, if_false]
   ·simp only [b9q, b7q, e4q, c6q, e9q, nns, if_true, if_false]
   ·simp only [b9q, b7q, e4q, c6q, e9q, nns, if_true, if_false]
   ·simp only [b9q, b7q, e4q, c6q, e9q, nns, if_true, if_false]
   ·have z0 : ¬ j = s.next := (by omega); have z1 : ¬ j = s.next + 1 := (by omega); have z2 : ¬ j = s.next + 1 + 1 := (by omega); have z3 : ¬ j = s.next + 1 + 1 + 1 := (by omega); have z4 : ¬ j = s.next + 1 + 1 + 1 + 1 := (by omega); have z5 : ¬ j = s.next + 1 + 1 + 1 + 1 + 1 := (by omega); have z6 : ¬ j = s.next + 1 + 1 + 1 + 1 + 1 + 1 := (by omega)
    simp only [b9q, b7q, e4q, c6q, e9q, z0, z1, z2, z3, z4, z5, z6, if_false]
   ·simp only [c6q, h9q, e9q]; omega
   ·simp only [c6q, h9q, e9q]; omega
   ·simp only [c6q, h9q, e9q]; omega
  ·refine key _ _ (s.next + 1 + 1 + 1) (s.next + 1 + 1 + 1 + 1 + 1) (s.next + 1 + 1 + 1 + 1 + 1 + 1) ?_ ?_ ?_ ?_ ?_ ?_ ⟨?_, ?_, ?_, ?_, ?_, fun j hj => ?_, ⟨by omega, ?_⟩, ⟨by omega, ?_⟩, ⟨by omega, ?_⟩, ⟨by omega, by omega, by omega⟩⟩
   ·simp only [lpv, hl]
   ·simp only [a0q, a4q, Nat.reduceBEq, hl, Nat.reduceLT]
   ·simp only [a0q, a4q, Nat.reduceBEq, lpv, hl, Nat.reduceLT]
   ·simp only [a0q, a4q, Nat.reduceBEq, lpv, hl, Nat.reduceLT]
   ·simp only [a0q, a4q, Nat.reduceBEq, lpv, hl, Nat.reduceLT]
   ·simp only [a0q, a4q, Nat.reduceBEq, lpv, hl, Nat.reduceLT]
   ·simp only [b9q, b7q, e4q, c6q, e9q, nns, if_true, if_false]
   ·simp only [b9q, b7q, e4q, c6q, e9q, nns, if_true, if_false]
   ·simp only [b9q, b7q, e4q, c6q, e9q, nns, if_true, if_false]
   ·simp only [b9q, b7q, e4q, c6q, e9q, nns, if_true, if_false]
   ·simp only [b9q, b7q, e4q, c6q, e9q, nns, if_true, if_false]
   ·have z0 : ¬ j = s.next := (by omega); have z1 : ¬ j = s.next + 1 := (by omega); have z2 : ¬ j = s.next + 1 + 1 := (by omega); have z3 : ¬ j = s.next + 1 + 1 + 1 := (by omega); have z4 : ¬ j = s.next + 1 + 1 + 1 + 1 := (by omega); have z5 : ¬ j = s.next + 1 + 1 + 1 + 1 + 1 := (by omega); have z6 : ¬ j = s.next + 1 + 1 + 1 + 1 + 1 + 1 := (by omega)
    simp only [b9q, b7q, e4q, c6q, e9q, z0, z1, z2, z3, z4, z5, z6, if_false]
   ·simp only [c6q, h9q, e9q]; omega
   ·simp only [c6q, h9q, e9q]; omega
   ·simp only [c6q, h9q, e9q]; omega
 intro e2 s2 n6 m1 m2 hl2 g2 g3 g4 g5 g6 hZ
 refine hK3 _ _ ?_
 refine vsk fun K4 hK4 => ?_
 refine vsk fun K5 hK5 => ?_
 refine VW.freezeBox n6 0 (n := m1) hZ.b6 rfl hZ.a1 (by simp) ?_
 refine p3q fun s3 hS3 => ?_
 have hI : BdI s b c n6 0 m2 s3 := by
  obtain ⟨z3, z4, z6, za, zb, zs, ⟨zl, zl2⟩, ⟨zm, zm2⟩, ⟨zn, zn2⟩, zd1, zd2, zd3⟩ := hZ
  refine ⟨?_, ?_, ?_, ?_, fun j hj => ?_, ⟨zl, ?_⟩, ⟨zn, ?_⟩, zd2⟩
  ·rw [hS3, b9q, if_neg (by omega), e4q, if_neg (by omega)]; exact z3
  ·rw [hS3, b9q, if_neg (by omega), e4q, if_neg (by omega)]; exact z4
  ·rw [hS3, b9q, if_pos rfl]; simp [d1q]
  ·rw [hS3, b9q, if_neg (by omega), e4q, if_neg (by omega), zb]; simp
  ·rw [hS3, b9q, if_neg (by omega), e4q, if_neg (by omega)]; exact zs j hj
  ·rw [hS3]; exact zl2
  ·rw [hS3]; exact zn2
 clear hS3 hZ
 refine a3q 0 [] ?_
 simp only [bs, ↓vopx, ↓vop, a1q, flat, wocs, ↓goc, ↓woc, ↓a2q]
 refine hK5 _ _ ?_
 refine a5q ?_
 refine c2q (fun mm e' s' => ∃ i : Nat, mm = c.pairs.length - i ∧ i ≤ c.pairs.length ∧ e'.length = 51 ∧ ev e' (.tmp 3) = .ptr (s.next + 1) 0 ∧ ev e' (.tmp 4) = .ptr (s.next + 1 + 1) 0 ∧ ev e' (.tmp 5) = I b.labels.length ∧ ev e' (.tmp 6) = .ptr n6 0 ∧ ev e' (.tmp 7) = I i ∧ True ∧ ∃ m, BdI s b c n6 i m s') (⟨0, rfl, Nat.zero_le _, ?_⟩) ?_
 ·try simp only [a0q, a4q, Nat.reduceBEq, lpv, hl2, g3, g4, g5, g6, Nat.reduceLT, true_and]
  repeat ((with_reducible refine And.intro ?_ ?_); · trivial)
  exact ⟨_, hI⟩
 rintro mm e s1 ⟨i, rfl, hle_i, hl, k3, k4, k5, k6, h_i, hst, ⟨m, hI⟩⟩
 refine vsk fun K6 hK6 => ?_
 refine vsk fun K7 hK7 => ?_
 have hb3 := hI.b3
 refine a3q 0 [] ?_
 simp only [bs, ↓vopx, ↓vop, Nat.reduceBEq, a1q, Nat.reduceLT, a8q, b0q, opII, hl, k3, h_i, wocs, ↓goc, ↓woc, ↓a2q, Tryz.ag27, Tryz.fd29_1, Tryz.sz27, Tryz.un27, nns, g2q, hb3]
 refine hK7 _ _ ?_
 refine vck fun A B hA hB => ?_
 simp only [b2q, a0q, lpv, Nat.reduceLT, decide_eq_true_eq, decide_eq_false_iff_not, hl]
 refine ⟨fun hc25 => hA ?_, fun hc25 => hB ?_⟩
 ·clear hA hB A B
  refine a9q ?_
  refine hK6 _ _ ?_
  refine vsk fun K8 hK8 => ?_
  refine a5q ?_
  obtain ⟨p, hp⟩ : ∃ p, c.pairs[i]? = some p := ⟨_, List.getElem?_eq_getElem (by omega)⟩
  have g0 := a1x hp
  have g1 := a2x hp
  have hfl := d7q c.pairs
  have hb3 := hI.b3
  have hb6 := hI.b6
  have ham := hI.am
  have lm := hI.lm
  have l6 := hI.l6
  have hd6 := hI.d
  have hlp : (b.pairs ++ (c.pairs.take i).map (shP b.labels.length)).length = b.pairs.length + i := by rw [List.length_append, List.length_map, List.length_take]; omega
  have hil : i < c.pairs.length := by omega
  have hin : (0 ≤ p.1 ∧ p.1 < c.labels.length) ∧ (0 ≤ p.2 ∧ p.2 < c.labels.length) := n5q.1 ((List.all_eq_true.1 hcO.inb) p (List.mem_of_getElem? hp))
  have y1 : ¬ s.next + 1 = m := by omega
  have y2 : ¬ n6 = m := hd6
  have y3 : ¬ m = n6 := fun h => hd6 h.symm
  have y4 : ¬ n6 = s1.next := by omega
  have y5 : ¬ m = s1.next := by omega
  have y6 : ¬ s1.next = m := by omega
  have y7 : ¬ n6 = s1.next + 1 := by omega
  refine y3z (m) Tryz.mixed 20 [0, 2, 0, 1, 0, 1, 0, 1, 0, 0, 0, 1, 0, 1, 0, 1, 0, 0, 0, 3] [] [] 0 (by decide +kernel) (by simp [lpv, hl]) rfl ?_
  simp only [bs, dstT, srcT, Nat.reduceLeDiff, Nat.reduceAdd, d9q, g7q, repl, Sg.frzP, ↓vopx, ↓vop, Nat.reduceBEq, a1q, b5q, Nat.reduceLT, V.cells, a8q, b0q, opII, Sg.frzL, Sg.frz1, hl, k3, k5, k6, h_i, wocs, ↓goc, ↓woc, ↓a2q, ↓e3q, chn, ↓goq, ↓woq, List.zip_cons_cons, List.zip_nil_right, Tryz.ag27, Tryz.ag3, Tryz.fd29_1, Tryz.fd65_0, Tryz.fd65_1, Tryz.sl27, Tryz.st65, Tryz.sz27, Tryz.sz3, Tryz.sz65, Tryz.un27, half22, nns, hb3, hb6, ham, hfl, g0, g1, hlp, d7q, y2, y4, y5, y7]
  repeat ((with_reducible refine And.intro ?_ ?_); · first | omega | exact ⟨by omega, by omega⟩ | exact keep_da _ _ _)
  refine hK8 _ _ ?_
  refine a3q 0 [] ?_
  simp only [bs, ↓vopx, ↓vop, Nat.reduceBEq, a1q, flat, Nat.reduceLT, opII, hl, k3, k4, k5, k6, h_i, wocs, ↓goc, ↓woc, ↓a2q]
  repeat ((with_reducible refine And.intro ?_ ?_); · exact ⟨by omega, by omega⟩)
  refine ⟨c.pairs.length - (i + 1), by omega, i + 1, rfl, by omega, ?_⟩
  try simp only [a0q, a4q, Nat.reduceBEq, lpv, hl, k3, k4, k5, k6, h_i, if_true, if_false, Nat.reduceEqDiff, Nat.reduceLT, true_and, and_true]
  repeat ((with_reducible refine And.intro ?_ ?_); · trivial)
  exact ⟨_, hI.push hp _⟩
 ·clear hA hB A B
  refine c1q ?_
  simp only [a1q, b5q, if_true]
  refine hK4 _ _ ?_
  refine vsk fun K9 hK9 => ?_
  have hii : i = c.pairs.length := by omega
  subst hii
  have l6 := hI.l6
  have lm := hI.lm
  have hd6 := hI.d
  have ham := hI.am
  have hb6 := hI.b6
  have hb4 := hI.b4
  have hsm := hI.same
  rw [List.take_of_length_le (Nat.le_refl _)] at ham
  refine VW.freezeBox n6 1 (n := m) hb6 rfl ham (by rw [d7q, List.length_append, List.length_map]) ?_
  have y8 : ¬ s.next + 1 + 1 = n6 := by omega
  have y9 : ¬ s.next + 1 + 1 = m := by omega
  refine a3q 0 [] ?_
  simp only [bs, Nat.reduceAdd, ↓vopx, ↓vop, Nat.reduceBEq, a1q, Nat.reduceLT, V.cells, a8q, b0q, hl, k4, k6, wocs, ↓goc, ↓woc, ↓a2q, Tryz.ag29, Tryz.sz29, hb4, y8, y9, List.set_cons_succ, List.set_cons_zero]
  refine hK9 _ _ ?_
  refine b1q ?_
  refine hQ _ _ _ (.inr rfl) (Done.toS ?_)
  refine u8q (vs := [vObj (k7q b c)]) ?_ rfl (by simp [pack, nm, nm2, nm1, nm0]) (fun n b hn h => by rw [b9q, if_neg (by omega), b9q, if_neg (by omega), e4q, if_neg (by omega)]; exact (hsm n hn).trans h)
  show vres Tryz.prog _ _ [.cell 4 29] = _
  simp only [j6q, m1q, a4q, Nat.reduceBEq, k4, Tryz.sz29, Tryz.ag29, a8q, b9q, b0q, if_true, List.drop_zero, List.take_succ_cons, List.take_zero, List.length_cons, List.length_nil, Nat.zero_add, Nat.reduceAdd]
  rfl
end Go.Proofs

open Go Go.V
namespace Go.Proofs
theorem h3z {α : Type} {p : α → α → Bool} (h : ∀ a, p a a = true) : ∀ l : List α, allZ p l l = true
 | [] => rfl
 | a :: l => by simp [allZ, h a, h3z h l]
theorem i6x (a : Ob) : c3z a a = true := by
 unfold c3z
 rw [h3z (fun x => by simp [seqB]), h3z (fun x => by simp [peqB])]
 rfl
theorem s3x (a : Ob) (ha : a.labels.length < 1000000000) (ha2 : a.pairs.length < 1000000000) : f7q Tryz.prog 12 [vObj a, vObj a] (Bo true) := by
 have := same_ a a ha ha2 ha ha2
 rw [i6x] at this
 exact this
theorem m8z (f : List Int) (hf : f.length < 1000000000) : f7q Tryz.prog 13 [.t (c0q f), .t (c0q f)] (Bo true) := by
 have := x1z f f hf hf
 rw [beq_self_eq_true] at this
 exact this
theorem b1x (n : Nat) (M : Mx) : (g0q n M).length ≤ n * n := by
 unfold g0q
 rw [List.length_flatMap]
 have h : ∀ (l : List Nat), (l.map fun a => (rowOf n M a).length).sum ≤ l.length * n := by
  intro l
  induction l with
  | nil => simp
  | cons a l ih =>
   have h1 : (rowOf n M a).length ≤ n := by
    unfold rowOf
    rw [List.length_map]
    exact Nat.le_trans (List.length_filter_le _ _) (by simp)
   simp only [List.map_cons, List.sum_cons, List.length_cons, Nat.succ_mul]
   omega
 have := h (List.range n)
 rwa [List.length_range] at this
theorem d5j (l : List Int) : glN l ≤ l.length := i1z l l.length
theorem m1z (o : Ob) (l : List Int) : (l1q o l).pairs.length ≤ l.length * l.length :=
 Nat.le_trans (b1x _ _) (Nat.mul_le_mul (d5j l) (d5j l))
theorem sq_le {n m : Nat} (h : n ≤ m) : n * n ≤ m * m := Nat.mul_le_mul h h
end Go.Proofs

open Go Go.V
namespace Go.Proofs
def x5q (R : List Int) : Prop := ∀ (i : Nat) (z : Int), R[i]? = some z → (0 ≤ z ∧ z ≤ i) ∧ R[z.toNat]? = some z
theorem x5q.wf {R : List Int} (h : x5q R) : wfU R := fun i z hz => (h i z hz).1
theorem x5q.range (n : Nat) : x5q (e8q n) := fun i z hz => by
 have hi : i < n := by have := (List.getElem?_eq_some_iff.1 hz).1; rwa [g4q] at this
 rw [c1z hi] at hz
 cases hz
 exact ⟨by omega, by simpa using c1z hi⟩
theorem x5q.join {R : List Int} (h : x5q R) {a b : Nat} {x y : Int} (hx : R[a]? = some x) (hy : R[b]? = some y) : x5q (joinL R a b) := by
 obtain ⟨x1, x2⟩ := h a x hx
 obtain ⟨y1, y2⟩ := h b y hy
 intro i z hz
 unfold joinL at hz ⊢
 rw [f9q hx, f9q hy] at hz ⊢
 rw [List.getElem?_map] at hz
 obtain ⟨w, hw, rfl⟩ := Option.map_eq_some_iff.1 hz
 obtain ⟨w1, w2⟩ := h i w hw
 have hN : R[(min x y).toNat]? = some (min x y) := by
  rcases Int.le_total x y with hle | hle
  ·rw [show min x y = x by omega]; exact x2
  ·rw [show min x y = y by omega]; exact y2
 by_cases hm : w = max x y
 ·rw [if_pos hm]
  refine ⟨by omega, ?_⟩
  rw [List.getElem?_map, hN]
  simp only [Option.map_some]
  split <;> simp
 ·rw [if_neg hm]
  refine ⟨w1, ?_⟩
  rw [List.getElem?_map, w2]
  simp only [Option.map_some, if_neg hm]
theorem w4q (n : Nat) (f g : List Int) (hf : ∀ y ∈ f, 0 ≤ y ∧ y < n) (hg : ∀ y ∈ g, 0 ≤ y ∧ y < n) : ∀ k, k ≤ f.length → k ≤ g.length → x5q (j0q (e8q n) f g k) ∧ (j0q (e8q n) f g k).length = n
 | 0, _, _ => ⟨x5q.range n, g4q n⟩
 | k + 1, h1, h2 => by
  obtain ⟨ih, il⟩ := w4q n f g hf hg k (by omega) (by omega)
  obtain ⟨y, hy⟩ : ∃ y, f[k]? = some y := ⟨_, List.getElem?_eq_getElem (by omega)⟩
  obtain ⟨z, hz⟩ : ∃ z, g[k]? = some z := ⟨_, List.getElem?_eq_getElem (by omega)⟩
  have by_ := hf y (List.mem_of_getElem? hy)
  have bz := hg z (List.mem_of_getElem? hz)
  rw [o8q hy hz]
  refine ⟨ih.join (List.getElem?_eq_getElem (by omega)) (List.getElem?_eq_getElem (by omega)), by rw [v4z]; exact il⟩
theorem v5z {β : Type} (n : Nat) (f g : List Int) (hf : ∀ y ∈ f, 0 ≤ y ∧ y < n) (hg : ∀ y ∈ g, 0 ≤ y ∧ y < n) (h : Nat → β) : ∀ k, k ≤ f.length → k ≤ g.length → (∀ (i : Nat) (y z : Int), i < k → f[i]? = some y → g[i]? = some z → h y.toNat = h z.toNat) →
 ∀ (j : Nat) (r : Int), (j0q (e8q n) f g k)[j]? = some r → h r.toNat = h j
 | 0, _, _, _, j, r, hr => by
  have hj : j < n := by have := (List.getElem?_eq_some_iff.1 hr).1; rwa [show j0q (e8q n) f g 0 = e8q n from rfl, g4q] at this
  rw [show j0q (e8q n) f g 0 = e8q n from rfl, c1z hj] at hr
  cases hr; simp
 | k + 1, h1, h2, he, j, r, hr => by
  have ih := v5z n f g hf hg h k (by omega) (by omega) (fun i y z hi => he i y z (by omega))
  obtain ⟨hok, il⟩ := w4q n f g hf hg k (by omega) (by omega)
  obtain ⟨y, hy⟩ : ∃ y, f[k]? = some y := ⟨_, List.getElem?_eq_getElem (by omega)⟩
  obtain ⟨z, hz⟩ : ∃ z, g[k]? = some z := ⟨_, List.getElem?_eq_getElem (by omega)⟩
  have by_ := hf y (List.mem_of_getElem? hy)
  have bz := hg z (List.mem_of_getElem? hz)
  obtain ⟨a, ha⟩ : ∃ a, (j0q (e8q n) f g k)[y.toNat]? = some a := ⟨_, List.getElem?_eq_getElem (by omega)⟩
  obtain ⟨b, hb⟩ : ∃ b, (j0q (e8q n) f g k)[z.toNat]? = some b := ⟨_, List.getElem?_eq_getElem (by omega)⟩
  rw [o8q hy hz] at hr
  unfold joinL at hr
  rw [f9q ha, f9q hb, List.getElem?_map] at hr
  obtain ⟨w, hw, rfl⟩ := Option.map_eq_some_iff.1 hr
  have e1 := ih _ _ ha
  have e2 := ih _ _ hb
  have e3 := he k y z (by omega) hy hz
  have e4 := ih _ _ hw
  split
  ·rename_i hm
   rw [← e4, hm]
   rcases Int.le_total a b with hle | hle
   ·rw [show min a b = a by omega, show max a b = b by omega, e1, e2, e3]
   ·rw [show min a b = b by omega, show max a b = a by omega, e1, e2, e3]
  ·exact e4
theorem d6x (n : Nat) (f g : List Int) (hf : ∀ y ∈ f, 0 ≤ y ∧ y < n) (hg : ∀ y ∈ g, 0 ≤ y ∧ y < n) : ∀ k, k ≤ f.length → k ≤ g.length → ∀ (i : Nat) (y z : Int), i < k → f[i]? = some y → g[i]? = some z → (j0q (e8q n) f g k)[y.toNat]? = (j0q (e8q n) f g k)[z.toNat]?
 | 0, _, _, i, y, z, hi, _, _ => by omega
 | k + 1, h1, h2, i, y, z, hi, hy, hz => by
  obtain ⟨hok, il⟩ := w4q n f g hf hg k (by omega) (by omega)
  obtain ⟨y', hy'⟩ : ∃ y, f[k]? = some y := ⟨_, List.getElem?_eq_getElem (by omega)⟩
  obtain ⟨z', hz'⟩ : ∃ z, g[k]? = some z := ⟨_, List.getElem?_eq_getElem (by omega)⟩
  rw [o8q hy' hz']
  unfold joinL
  rw [List.getElem?_map, List.getElem?_map]
  by_cases hik : i = k
  ·subst hik
   rw [hy] at hy'; cases hy'
   rw [hz] at hz'; cases hz'
   have by_ := hf y (List.mem_of_getElem? hy)
   have bz := hg z (List.mem_of_getElem? hz)
   obtain ⟨a, ha⟩ : ∃ a, (j0q (e8q n) f g i)[y.toNat]? = some a := ⟨_, List.getElem?_eq_getElem (by omega)⟩
   obtain ⟨b, hb⟩ : ∃ b, (j0q (e8q n) f g i)[z.toNat]? = some b := ⟨_, List.getElem?_eq_getElem (by omega)⟩
   rw [f9q ha, f9q hb, ha, hb]
   simp only [Option.map_some, Option.some.injEq]
   rcases Int.le_total a b with hle | hle
   ·rw [show min a b = a by omega, show max a b = b by omega]; (split <;> split) <;> simp_all
   ·rw [show min a b = b by omega, show max a b = a by omega]; (split <;> split) <;> simp_all
  ·rw [d6x n f g hf hg k (by omega) (by omega) i y z (by omega) hy hz]
theorem y2q (R : List Int) : (c3q R).length = R.length := e6q R _
theorem q6x (R : List Int) {i : Nat} (h : i < R.length) : (c3q R)[i]? = some (if R.getD i 0 = i then ((plS R i).2 : Int) else (plS R i).1.getD (R.getD i 0).toNat 0) := by
 have h1 : (plS R (i + 1)).1 = (plS R i).1 ++ [if R.getD i 0 = i then ((plS R i).2 : Int) else (plS R i).1.getD (R.getD i 0).toNat 0] := by
  show (if R.getD i 0 = i then _ else _ : List Int × Nat).1 = _
  split <;> rfl
 have h2 : (c3q R)[i]? = (plS R (i + 1)).1[i]? := by
  rw [← z7q R (i + 1) R.length h, List.getElem?_take, if_pos (by omega)]; rfl
 rw [h2, h1, List.getElem?_append_right (by rw [e6q]; omega), e6q, Nat.sub_self]; rfl
theorem q4x {R : List Int} (h : x5q R) {i : Nat} {z : Int} (hz : R[i]? = some z) : (c3q R)[i]? = (c3q R)[z.toNat]? := by
 have hi := (List.getElem?_eq_some_iff.1 hz).1
 obtain ⟨h1, h2⟩ := h i z hz
 by_cases hr : z = i
 ·subst hr; simp
 ·rw [q6x R hi, f9q hz, if_neg hr]
  have : (plS R i).1.getD z.toNat 0 = (c3q R).getD z.toNat 0 := by
   rw [← z7q R i R.length (by omega), List.getD_eq_getElem?_getD, List.getElem?_take, if_pos (by omega), List.getD_eq_getElem?_getD]; rfl
  rw [this, List.getD_eq_getElem?_getD, List.getElem?_eq_getElem (by rw [y2q]; omega)]; rfl
theorem q5x {R : List Int} (h : x5q R) {i : Nat} (hz : R[i]? = some (i : Int)) : (c3q R)[i]? = some ((fstL (c3q R) i).length : Int) := by
 have hi := (List.getElem?_eq_some_iff.1 hz).1
 rw [q6x R hi, f9q hz, if_pos rfl, (b2x h.wf i (by omega)).1]
theorem r1z (L : List Int) (i : Nat) : fstL L (i + 1) = if L.getD i 0 = (fstL L i).length then fstL L i ++ [i] else fstL L i := rfl
theorem x5x (L : List Int) {i j : Nat} (h : i ≤ j) {k x : Nat} (hx : (fstL L i)[k]? = some x) : (fstL L j)[k]? = some x := by
 induction h with
 | refl => exact hx
 | step _ ih =>
  rw [r1z]
  split
  ·rw [List.getElem?_append_left (List.getElem?_eq_some_iff.1 ih).1]; exact ih
  ·exact ih
theorem x7x {R : List Int} (h : x5q R) {i : Nat} (hz : R[i]? = some (i : Int)) : (fstL (c3q R) R.length)[(fstL (c3q R) i).length]? = some i := by
 have hi := (List.getElem?_eq_some_iff.1 hz).1
 refine x5x _ (show i + 1 ≤ R.length from hi) ?_
 rw [r1z, f9q (q5x h hz), if_pos rfl, List.getElem?_append_right (Nat.le_refl _), Nat.sub_self]; rfl
theorem fst_at {R : List Int} (h : x5q R) {i : Nat} {z : Int} (hz : R[i]? = some z) : ∃ k : Nat, (c3q R)[i]? = some (k : Int) ∧ (fstL (c3q R) R.length)[k]? = some z.toNat := by
 obtain ⟨h1, h2⟩ := h i z hz
 have hz0 : R[z.toNat]? = some (z.toNat : Int) := by rw [h2]; congr 1; omega
 exact ⟨_, by rw [q4x h hz]; exact q5x h hz0, x7x h hz0⟩
theorem z9z (L : List Int) : ∀ (m k r : Nat), (fstL L m)[k]? = some r → L.getD r 0 = k
 | 0, k, r, h => by simp [fstL] at h
 | m + 1, k, r, h => by
  rw [r1z] at h
  split at h
  ·rename_i hm
   by_cases hk : k < (fstL L m).length
   ·rw [List.getElem?_append_left hk] at h; exact z9z L m k r h
   ·rw [List.getElem?_append_right (by omega)] at h
    have hk0 : k - (fstL L m).length = 0 := by
     rcases Nat.eq_zero_or_pos (k - (fstL L m).length) with h0 | h0
     ·exact h0
     ·rw [List.getElem?_eq_none (by simp only [List.length_cons, List.length_nil]; omega)] at h; cases h
    rw [hk0] at h; simp at h; subst h
    rw [hm]; congr 1; omega
  ·exact z9z L m k r h
theorem pl_onto (L : List Int) {k : Nat} (hk : k < glN L) : ∃ i, i < L.length ∧ L.getD i 0 = k := by
 obtain ⟨r, hr⟩ : ∃ r, (fstL L L.length)[k]? = some r := ⟨_, List.getElem?_eq_getElem hk⟩
 exact ⟨r, i2z L L.length r (List.mem_of_getElem? hr), z9z L _ _ _ hr⟩
theorem i4z (o : Ob) (L : List Int) : (i4q o L L.length).length = glN L := by simp [i4q, glN]
theorem i5z {o : Ob} {L : List Int} (ho : IsOb o) (hl : L.length = o.labels.length) (hok : PlOK L) : u3q (glN L) (glMx o L) := by
 intro x y h
 simp only [glMx, List.any_eq_true, Bool.and_eq_true, beq_iff_eq] at h
 obtain ⟨p, hp, rfl, rfl⟩ := h
 have hin := n5q.1 ((List.all_eq_true.1 ho.inb) p hp)
 obtain ⟨u, hu⟩ : ∃ u, L[p.1.toNat]? = some u := ⟨_, List.getElem?_eq_getElem (by omega)⟩
 obtain ⟨v, hv⟩ : ∃ v, L[p.2.toNat]? = some v := ⟨_, List.getElem?_eq_getElem (by omega)⟩
 have a := hok.lt hu
 have b := hok.lt hv
 unfold atN
 rw [f9q hu, f9q hv]
 omega
theorem y0x {o : Ob} {L : List Int} (ho : IsOb o) (hl : L.length = o.labels.length) (hok : PlOK L) : IsOb (l1q o L) := by
 have hle := ho.le
 have hn := i4z o L
 have hw := i5z ho hl hok
 unfold l1q
 rw [← hn] at hw ⊢
 refine w1z (by have := i1z L L.length; rw [hn]; unfold glN; omega) ?_ hw
 rw [List.all_eq_true]
 intro b hb
 unfold i4q at hb
 obtain ⟨r, hr, rfl⟩ := List.mem_map.1 hb
 have hrl := i2z L L.length r hr
 have : o.labels.getD r ByteArray.empty ∈ o.labels := by
  rw [List.getD_eq_getElem?_getD, List.getElem?_eq_getElem (by omega)]; exact List.getElem_mem _
 exact (List.all_eq_true.1 ho.sz) _ this
theorem n4x {o : Ob} {R : List Int} (ho : IsOb o) (h : x5q R) (hl : R.length = o.labels.length)
 (hlab : ∀ (j : Nat) (r : Int), R[j]? = some r → (o.labels.getD r.toNat ByteArray.empty).toList = (o.labels.getD j ByteArray.empty).toList) : arrS o (l1q o (c3q R)) (c3q R) = true := by
 have hpl := y2q R
 have hok := v2q h.wf
 have hq := y0x ho (by rw [hpl]; exact hl) hok
 refine c6x ho hq (by rw [hpl]; exact hl) (fun i y la hy hla => ?_) fun x y hm => ?_
 ·have hi := (List.getElem?_eq_some_iff.1 hla).1
  obtain ⟨z, hz⟩ : ∃ z, R[i]? = some z := ⟨_, List.getElem?_eq_getElem (by omega)⟩
  obtain ⟨k, hk, hf⟩ := fst_at h hz
  rw [hk] at hy; cases hy
  have hbd := hok.lt hk
  have hqk : (l1q o (c3q R)).labels[k]? = some (o.labels.getD z.toNat ByteArray.empty) := by
   show (i4q o (c3q R) (c3q R).length)[k]? = _
   unfold i4q
   rw [hpl, List.getElem?_map, hf]; rfl
  refine ⟨o.labels.getD z.toNat ByteArray.empty, ⟨by omega, ?_⟩, by rw [Int.toNat_natCast]; exact hqk, ?_⟩
  ·show (k : Int) < ((i4q o (c3q R) (c3q R).length).length : Nat)
   rw [i4z]; omega
  ·rw [hlab i z hz, List.getD_eq_getElem?_getD, hla]; rfl
 ·have hwx := ho.within x y hm
  obtain ⟨u, hu⟩ : ∃ u, (c3q R)[x]? = some u := ⟨_, List.getElem?_eq_getElem (by omega)⟩
  obtain ⟨v, hv⟩ : ∃ v, (c3q R)[y]? = some v := ⟨_, List.getElem?_eq_getElem (by omega)⟩
  have hu0 := hok.lt hu
  have hv0 := hok.lt hv
  refine ⟨u.toNat, v.toNat, by rw [hu]; congr 1; omega, by rw [hv]; congr 1; omega, ?_⟩
  show mxOf (g0q (glN (c3q R)) (cloK (glMx o (c3q R)) (glN (c3q R)))) u.toNat v.toNat = true
  rw [d3z (s7q (i5z ho (by rw [hpl]; exact hl) hok) _)]
  refine q4z ?_ _
  obtain ⟨p, hp, h1, h2⟩ := z4q.1 hm
  simp only [glMx, List.any_eq_true, Bool.and_eq_true, beq_iff_eq]
  refine ⟨p, hp, ?_, ?_⟩
  ·unfold atN; rw [h1, f9q hu]
  ·unfold atN; rw [h2, f9q hv]
end Go.Proofs

open Go Go.V
namespace Go.Proofs
theorem lab_at {a b : Ob} {f : List Int} (h : arrS a b f = true) {k : Nat} {y : Int} (hy : f[k]? = some y) : (b.labels.getD y.toNat ByteArray.empty).toList = (a.labels.getD k ByteArray.empty).toList := by
 obtain ⟨_, _, hmap, _⟩ := f4q.1 h
 have hl := f5q hmap
 have hk := (List.getElem?_eq_some_iff.1 hy).1
 obtain ⟨lb, k1, k2, k3⟩ := v0q.1 (s2q hmap hy (List.getElem?_eq_getElem (show k < a.labels.length by omega)))
 rw [List.getD_eq_getElem?_getD, k2, List.getD_eq_getElem?_getD, List.getElem?_eq_getElem (show k < a.labels.length by omega)]
 exact k3.symm
end Go.Proofs

open Go Go.V
namespace Go.Proofs
def vMed (r : List Int × Int) : V := .tup [.t (c0q r.1), I r.2]
end Go.Proofs

open Go Go.V
namespace Go.Proofs
theorem w9z {o o' l w : List Int} (hl : o.length = o'.length) (hlw : l.length = w.length) (h0 : ∀ y ∈ l, (0 : Int) ≤ y) : ∀ (x : Nat), x ≤ l.length → ∀ p : Nat, ((p : Int) ∈ l.take x ∨ o[p]? = o'[p]?) → (putL o l w x)[p]? = (putL o' l w x)[p]?
 | 0, _, p, h => by
  rcases h with h | h
  ·simp at h
  ·exact h
 | x + 1, hx, p, h => by
  obtain ⟨y, hy⟩ : ∃ y, l[x]? = some y := ⟨_, List.getElem?_eq_getElem (by omega)⟩
  obtain ⟨z, hz⟩ : ∃ z, w[x]? = some z := ⟨_, List.getElem?_eq_getElem (by omega)⟩
  rw [z8q hy hz, z8q hy hz, List.getElem?_set, List.getElem?_set, t3q, t3q, hl]
  split
  ·rfl
  ·rename_i hne
   refine w9z hl hlw h0 x (by omega) p ?_
   rcases h with h | h
   ·rw [List.take_add_one, hy] at h
    rcases List.mem_append.1 h with h | h
    ·exact .inl h
    ·simp at h
     exact absurd (by rw [← h]; omega : y.toNat = p) hne
   ·exact .inr h
theorem b3j (n : Nat) : repl [TI 0] n = (List.replicate n (0 : Int)).map TI := by rw [l9q]; simp
end Go.Proofs

open Go Go.V
namespace Go.Proofs
def gPl (n : Nat) (F G : List Int) : List Int := c3q (j0q (e8q n) F G F.length)
structure GlOK (o : Ob) (F G : List Int) : Prop where
 ob : IsOb o
 bF : ∀ y ∈ F, 0 ≤ y ∧ y < ((o.labels.length : Nat) : Int)
 bG : ∀ y ∈ G, 0 ≤ y ∧ y < ((o.labels.length : Nat) : Int)
 ln : F.length = G.length
 lab : ∀ (k : Nat) (y z : Int), F[k]? = some y → G[k]? = some z → (o.labels.getD y.toNat ByteArray.empty).toList = (o.labels.getD z.toNat ByteArray.empty).toList
section
variable {o : Ob} {F G : List Int}
theorem GlOK.rep (h : GlOK o F G) : x5q (j0q (e8q o.labels.length) F G F.length) ∧ (j0q (e8q o.labels.length) F G F.length).length = o.labels.length :=
 w4q _ F G h.bF h.bG F.length (Nat.le_refl _) (by have := h.ln; omega)
theorem GlOK.len (h : GlOK o F G) : (gPl o.labels.length F G).length = o.labels.length := by
 unfold gPl; rw [y2q]; exact h.rep.2
theorem GlOK.ok (h : GlOK o F G) : PlOK (gPl o.labels.length F G) := v2q h.rep.1.wf
theorem GlOK.arr (h : GlOK o F G) : arrS o (l1q o (gPl o.labels.length F G)) (gPl o.labels.length F G) = true := by
 obtain ⟨hok, hRl⟩ := h.rep
 exact n4x h.ob hok hRl (v5z _ F G h.bF h.bG (fun j => (o.labels.getD j ByteArray.empty).toList) F.length (Nat.le_refl _) (by have := h.ln; omega) (fun i y z _ hy hz => h.lab i y z hy hz))
theorem GlOK.eq (h : GlOK o F G) {k : Nat} {y z : Int} (hy : F[k]? = some y) (hz : G[k]? = some z) : (gPl o.labels.length F G)[y.toNat]? = (gPl o.labels.length F G)[z.toNat]? := by
 obtain ⟨hok, hRl⟩ := h.rep
 have hk := (List.getElem?_eq_some_iff.1 hy).1
 have b1 := h.bF y (List.mem_of_getElem? hy)
 have e0 := d6x _ F G h.bF h.bG F.length (Nat.le_refl _) (by have := h.ln; omega) k y z hk hy hz
 obtain ⟨r, hr⟩ : ∃ r, (j0q (e8q o.labels.length) F G F.length)[y.toNat]? = some r := ⟨_, List.getElem?_eq_getElem (by omega)⟩
 exact (q4x hok hr).trans (q4x hok (e0 ▸ hr)).symm
theorem GlOK.onto (h : GlOK o F G) {k : Nat} (hk : k < (l1q o (gPl o.labels.length F G)).labels.length) : ∃ p : Nat, (gPl o.labels.length F G)[p]? = some (k : Int) := by
 have hk' : k < glN (gPl o.labels.length F G) := by rw [← i4z o]; exact hk
 obtain ⟨x, hx, hxv⟩ := pl_onto _ hk'
 rw [List.getD_eq_getElem?_getD, List.getElem?_eq_getElem hx] at hxv
 exact ⟨x, by rw [List.getElem?_eq_getElem hx]; exact congrArg some hxv⟩
end
def bsB (l : List Ob) (k : Nat) : Nat := (f2q l k).length
theorem e8z {l : List Ob} {k : Nat} {o : Ob} (h : l[k]? = some o) : bsB l (k + 1) = bsB l k + o.labels.length := by
 unfold bsB; rw [m4q h, List.length_append]
theorem v8z {l : List Ob} {k : Nat} (h : l[k]? = none) : f2q l (k + 1) = f2q l k := by
 unfold f2q; rw [List.take_add_one, h]; simp
theorem w3x (l : List Ob) {j k : Nat} (h : j ≤ k) : bsB l j ≤ bsB l k := by
 induction h with
 | refl => exact Nat.le_refl _
 | step _ ih =>
  rename_i m _
  cases hm : l[m]? with
  | none => unfold bsB at ih ⊢; rw [v8z hm]; exact ih
  | some o => rw [e8z hm]; omega
theorem x2q {l : List Ob} {j k : Nat} {o : Ob} (h : l[j]? = some o) (hk : j < k) : bsB l j + o.labels.length ≤ bsB l k := by
 rw [← e8z h]; exact w3x l hk
theorem o4x {l : List Ob} {j k : Nat} (h : j ≤ k) {x : Nat} {b : ByteArray} (hx : (f2q l j)[x]? = some b) : (f2q l k)[x]? = some b := by
 induction h with
 | refl => exact hx
 | step _ ih =>
  rename_i m _
  cases hm : l[m]? with
  | none => rw [v8z hm]; exact ih
  | some o => rw [m4q hm, List.getElem?_append_left (List.getElem?_eq_some_iff.1 ih).1]; exact ih
theorem o3x {l : List Ob} {j k : Nat} {o : Ob} (h : l[j]? = some o) (hk : j < k) {x : Nat} {b : ByteArray} (hx : o.labels[x]? = some b) : (f2q l k)[bsB l j + x]? = some b := by
 refine o4x (show j + 1 ≤ k from hk) ?_
 rw [m4q h, List.getElem?_append_right (by unfold bsB; omega), show bsB l j + x - (f2q l j).length = x by unfold bsB; omega]; exact hx
theorem bs_of (l : List Ob) : ∀ k, k ≤ l.length → ∀ p, p < bsB l k → ∃ (j : Nat) (o : Ob) (x : Nat), j < k ∧ l[j]? = some o ∧ x < o.labels.length ∧ p = bsB l j + x
 | 0, _, p, hp => by simp [bsB, f2q] at hp
 | k + 1, hk, p, hp => by
  obtain ⟨o, ho⟩ : ∃ o, l[k]? = some o := ⟨_, List.getElem?_eq_getElem hk⟩
  by_cases h : p < bsB l k
  ·obtain ⟨j, o', x, h1, h2, h3, h4⟩ := bs_of l k (by omega) p h
   exact ⟨j, o', x, by omega, h2, h3, h4⟩
  ·rw [e8z ho] at hp
   exact ⟨k, o, p - bsB l k, by omega, ho, by omega, by omega⟩
theorem bs_mx {l : List Ob} (hI : ∀ o ∈ l, IsOb o) : ∀ k, k ≤ l.length → ∀ x y, mxOf (prsT l k) x y = true ↔ ∃ (j : Nat) (o : Ob) (u v : Nat), j < k ∧ l[j]? = some o ∧ x = bsB l j + u ∧ y = bsB l j + v ∧ mxOf o.pairs u v = true
 | 0, _, x, y => by
  constructor
  ·intro h; simp [prsT, mxOf] at h
  ·rintro ⟨j, _, _, _, h, _⟩; omega
 | k + 1, hk, x, y => by
  obtain ⟨o, ho⟩ : ∃ o, l[k]? = some o := ⟨_, List.getElem?_eq_getElem hk⟩
  have hio := hI o (List.mem_of_getElem? ho)
  rw [r6q ho, d8x, bs_mx hI k (by omega), p4x hio.nonneg]
  constructor
  ·rintro (⟨j, o', u, v, h1, h2⟩ | ⟨u, v, h1, h2, h3⟩)
   ·exact ⟨j, o', u, v, by omega, h2⟩
   ·exact ⟨k, o, u, v, by omega, ho, by unfold bsB; omega, by unfold bsB; omega, h3⟩
  ·rintro ⟨j, o', u, v, h1, h2, h3, h4, h5⟩
   by_cases hj : j < k
   ·exact .inl ⟨j, o', u, v, hj, h2, h3, h4, h5⟩
   ·have : j = k := by omega
    subst this
    rw [ho] at h2; cases h2
    exact .inr ⟨u, v, by unfold bsB at h3; omega, by unfold bsB at h4; omega, h5⟩
theorem bs_step {l : List Ob} {k : Nat} {o : Ob} (h : l[k]? = some o) : (⟨f2q l (k + 1), prsT l (k + 1)⟩ : Ob) = k7q ⟨f2q l k, prsT l k⟩ o := by
 rw [m4q h, r6q h]; rfl
theorem bs_ob {l : List Ob} (hI : ∀ o ∈ l, IsOb o) (hl : bsB l l.length ≤ 40) : ∀ k, k ≤ l.length → IsOb ⟨f2q l k, prsT l k⟩
 | 0, _ => by
  have := w1z (ls := []) (M := fun _ _ => false) (by simp) (by simp) (fun _ _ h => by cases h)
  simpa [f2q, prsT, g0q] using this
 | k + 1, hk => by
  obtain ⟨o, ho⟩ : ∃ o, l[k]? = some o := ⟨_, List.getElem?_eq_getElem hk⟩
  have h1 := x2q ho hk
  rw [bs_step ho]
  exact k6x (bs_ob hI hl k (by omega)) (hI o (List.mem_of_getElem? ho)) (by unfold bsB at h1 hl; simp only; omega)
end Go.Proofs

open Go Go.V
namespace Go.Proofs
structure Ar where
 fr : Int
 to : Int
 mp : List Int
structure Dia where
 nodes : List Ob
 arrs : List Ar
def noOb : Ob := ⟨[], []⟩
def nodeAt (d : Dia) (z : Int) : Ob := d.nodes.getD z.toNat noOb
def l4q (d : Dia) (z : Int) : Bool := decide (0 ≤ z) && decide (z < (d.nodes.length : Int))
def arOK (d : Dia) (x : Ar) : Bool := l4q d x.fr && (l4q d x.to && arrS (nodeAt d x.fr) (nodeAt d x.to) x.mp)
def diaS (d : Dia) : Bool := decide (d.nodes.length ≤ 6) && (decide (d.arrs.length ≤ 8) && ((d.nodes.all fun o => c4q o == 0) && d.arrs.all (arOK d)))
def bigD (d : Dia) : Bool := decide (6 < d.nodes.length) || (decide (8 < d.arrs.length) || t7q d.nodes)
def colF (d : Dia) : Nat → List Int
 | 0 => []
 | k + 1 => colF d k ++ (match d.arrs[k]? with | some x => legT x.mp.length (bsB d.nodes x.fr.toNat) | none => [])
def colG (d : Dia) : Nat → List Int
 | 0 => []
 | k + 1 => colG d k ++ (match d.arrs[k]? with | some x => x.mp.map (fun w => ((bsB d.nodes x.to.toNat : Nat) : Int) + w) | none => [])
def i8q (d : Dia) : List Int := gPl (bsB d.nodes d.nodes.length) (colF d d.arrs.length) (colG d d.arrs.length)
def d2q (d : Dia) : List (List Int) := (k2q d.nodes d.nodes.length).map fun g => (thenS g (i8q d)).1
def colS (d : Dia) : Ob × List (List Int) × Int := if bigD d = true then (noOb, [], 11) else if diaS d = false then (noOb, [], 10) else (l1q (bsS d.nodes) (i8q d), d2q d, 0)
def alS (d : Dia) (legs : List (List Int)) (x : Ar) : Bool := (thenS x.mp (legs.getD x.to.toNat [])).2 && ((thenS x.mp (legs.getD x.to.toNat [])).1 == legs.getD x.fr.toNat [])
def h7q (d : Dia) (t : Ob) (legs : List (List Int)) : Bool := diaS d && ((c4q t == 0) && (decide (legs.length = d.nodes.length) && (((List.range d.nodes.length).all fun k => arrS (d.nodes.getD k noOb) t (legs.getD k [])) && d.arrs.all (alS d legs))))
def medD (d : Dia) (t : Ob) (legs : List (List Int)) : List Int × Int :=
 if (colS d).2.2 ≠ 0 then ([], (colS d).2.2) else if 40 < t.labels.length then ([], 11) else if h7q d t legs = false then ([], 12) else (outS (colS d).1.labels.length (colS d).2.1 legs, 0)
theorem h7z {o : Ob} : (c4q o == 0) = true ↔ IsOb o := by
 constructor
 ·intro h
  by_cases ha : arrS ⟨[], []⟩ o [] = true
  ·exact (f4q.1 ha).2.1
  ·exfalso; apply ha
   simp only [arrS, h, Bool.and_eq_true]
   exact ⟨by decide, trivial, by simp [allY]⟩
 ·intro h
  have := id_arr h
  simp only [arrS, Bool.and_eq_true] at this
  exact this.1
theorem c1x (l : List Ob) : ∀ k, k ≤ l.length → sumT l k = bsB l k
 | 0, _ => rfl
 | k + 1, hk => by
  obtain ⟨o, ho⟩ : ∃ o, l[k]? = some o := ⟨_, List.getElem?_eq_getElem hk⟩
  rw [e8z ho, ← c1x l k (by omega), a4z ho]
structure DiaOK (d : Dia) : Prop where
 n : d.nodes.length ≤ 6
 m : d.arrs.length ≤ 8
 ob : ∀ o ∈ d.nodes, IsOb o
 ar : ∀ x ∈ d.arrs, ∃ a b, 0 ≤ x.fr ∧ d.nodes[x.fr.toNat]? = some a ∧ 0 ≤ x.to ∧ d.nodes[x.to.toNat]? = some b ∧ arrS a b x.mp = true
theorem v6q {d : Dia} {z : Int} : l4q d z = true ↔ 0 ≤ z ∧ z < (d.nodes.length : Int) := by simp [l4q]
theorem n3q {d : Dia} {z : Int} {o : Ob} (h : d.nodes[z.toNat]? = some o) : nodeAt d z = o := by unfold nodeAt; rw [List.getD_eq_getElem?_getD, h]; rfl
theorem x7q {d : Dia} : diaS d = true ↔ DiaOK d := by
 simp only [diaS, Bool.and_eq_true, decide_eq_true_eq, List.all_eq_true, h7z, arOK, v6q]
 constructor
 ·rintro ⟨h1, h2, h3, h4⟩
  refine ⟨h1, h2, h3, fun x hx => ?_⟩
  obtain ⟨⟨f0, f1⟩, ⟨t0, t1⟩, ha⟩ := h4 x hx
  obtain ⟨a, hA⟩ : ∃ a, d.nodes[x.fr.toNat]? = some a := ⟨_, List.getElem?_eq_getElem (by omega)⟩
  obtain ⟨b, hB⟩ : ∃ b, d.nodes[x.to.toNat]? = some b := ⟨_, List.getElem?_eq_getElem (by omega)⟩
  rw [n3q hA, n3q hB] at ha
  exact ⟨a, b, f0, hA, t0, hB, ha⟩
 ·rintro ⟨h1, h2, h3, h4⟩
  refine ⟨h1, h2, h3, fun x hx => ?_⟩
  obtain ⟨a, b, f0, hA, t0, hB, ha⟩ := h4 x hx
  rw [n3q hA, n3q hB]
  have f1 := (List.getElem?_eq_some_iff.1 hA).1
  have t1 := (List.getElem?_eq_some_iff.1 hB).1
  exact ⟨⟨f0, by omega⟩, ⟨t0, by omega⟩, ha⟩
theorem r2q {d : Dia} {k : Nat} {x : Ar} (h : d.arrs[k]? = some x) : colF d (k + 1) = colF d k ++ legT x.mp.length (bsB d.nodes x.fr.toNat) := by simp only [colF, h]
theorem z0q {d : Dia} {k : Nat} {x : Ar} (h : d.arrs[k]? = some x) : colG d (k + 1) = colG d k ++ x.mp.map (fun w => ((bsB d.nodes x.to.toNat : Nat) : Int) + w) := by simp only [colG, h]
theorem p9q (n b : Nat) : (legT n b).length = n := by simp [legT]
theorem t0q {n b i : Nat} (h : i < n) : (legT n b)[i]? = some (((b + i : Nat)) : Int) := by simp [legT, h]
theorem q6z (d : Dia) : ∀ k, k ≤ d.arrs.length → (colF d k).length = (colG d k).length
 | 0, _ => rfl
 | k + 1, h => by
  obtain ⟨x, hx⟩ : ∃ x, d.arrs[k]? = some x := ⟨_, List.getElem?_eq_getElem h⟩
  rw [r2q hx, z0q hx, List.length_append, List.length_append, q6z d k (by omega), p9q, List.length_map]
theorem d0j (d : Dia) : ∀ k, k ≤ d.arrs.length → ∀ (i : Nat) (y z : Int), (colF d k)[i]? = some y → (colG d k)[i]? = some z → ∃ x ∈ d.arrs, ∃ (t : Nat) (w : Int), x.mp[t]? = some w ∧ y = ((bsB d.nodes x.fr.toNat + t : Nat) : Int) ∧ z = ((bsB d.nodes x.to.toNat : Nat) : Int) + w
 | 0, _, i, y, z, hy, _ => by simp [colF] at hy
 | k + 1, h, i, y, z, hy, hz => by
  obtain ⟨x, hx⟩ : ∃ x, d.arrs[k]? = some x := ⟨_, List.getElem?_eq_getElem h⟩
  have hl := q6z d k (by omega)
  rw [r2q hx] at hy
  rw [z0q hx] at hz
  by_cases hi : i < (colF d k).length
  ·rw [List.getElem?_append_left hi] at hy
   rw [List.getElem?_append_left (by omega)] at hz
   exact d0j d k (by omega) i y z hy hz
  ·rw [List.getElem?_append_right (by omega)] at hy
   rw [List.getElem?_append_right (by omega), ← hl, List.getElem?_map] at hz
   obtain ⟨w, hw, rfl⟩ := Option.map_eq_some_iff.1 hz
   have ht := (List.getElem?_eq_some_iff.1 hw).1
   rw [t0q ht] at hy; cases hy
   exact ⟨x, List.mem_of_getElem? hx, _, w, hw, rfl, rfl⟩
theorem w5x (d : Dia) {j k : Nat} (h : j ≤ k) (hk : k ≤ d.arrs.length) {i : Nat} {y z : Int} (hy : (colF d j)[i]? = some y) (hz : (colG d j)[i]? = some z) : (colF d k)[i]? = some y ∧ (colG d k)[i]? = some z := by
 induction h with
 | refl => exact ⟨hy, hz⟩
 | step _ ih =>
  rename_i m _
  obtain ⟨h1, h2⟩ := ih (by omega)
  obtain ⟨x, hx⟩ : ∃ x, d.arrs[m]? = some x := ⟨_, List.getElem?_eq_getElem hk⟩
  rw [r2q hx, z0q hx, List.getElem?_append_left (List.getElem?_eq_some_iff.1 h1).1, List.getElem?_append_left (List.getElem?_eq_some_iff.1 h2).1]
  exact ⟨h1, h2⟩
theorem z5z {d : Dia} {k : Nat} {x : Ar} (hk : d.arrs[k]? = some x) {t : Nat} {w : Int} (hw : x.mp[t]? = some w) : (colF d d.arrs.length)[(colF d k).length + t]? = some ((bsB d.nodes x.fr.toNat + t : Nat) : Int) ∧ (colG d d.arrs.length)[(colF d k).length + t]? = some (((bsB d.nodes x.to.toNat : Nat) : Int) + w) := by
 have hkl := (List.getElem?_eq_some_iff.1 hk).1
 have hl := q6z d k (by omega)
 have ht := (List.getElem?_eq_some_iff.1 hw).1
 refine w5x d (show k + 1 ≤ d.arrs.length from hkl) (Nat.le_refl _) ?_ ?_
 ·rw [r2q hk, List.getElem?_append_right (by omega), show (colF d k).length + t - (colF d k).length = t by omega, t0q ht]
 ·rw [z0q hk, List.getElem?_append_right (by omega), show (colF d k).length + t - (colG d k).length = t by omega, List.getElem?_map, hw]; rfl
theorem col_at (d : Dia) {x : Ar} (hx : x ∈ d.arrs) {t : Nat} {w : Int} (hw : x.mp[t]? = some w) : ∃ i : Nat, (colF d d.arrs.length)[i]? = some ((bsB d.nodes x.fr.toNat + t : Nat) : Int) ∧ (colG d d.arrs.length)[i]? = some (((bsB d.nodes x.to.toNat : Nat) : Int) + w) := by
 obtain ⟨k, hk⟩ := List.getElem?_of_mem hx
 exact ⟨_, z5z hk hw⟩
theorem h5z (l : List Ob) : (bsS l).labels.length = bsB l l.length := rfl
theorem c7j {l : List Ob} {k : Nat} {o : Ob} (h : l[k]? = some o) {x : Nat} (hx : x < o.labels.length) : (bsS l).labels.getD (bsB l k + x) ByteArray.empty = o.labels.getD x ByteArray.empty := by
 have := o3x h (List.getElem?_eq_some_iff.1 h).1 (List.getElem?_eq_getElem hx)
 rw [List.getD_eq_getElem?_getD, List.getD_eq_getElem?_getD, List.getElem?_eq_getElem hx]
 exact congrArg (fun o => Option.getD o _) this
variable {d : Dia}
theorem DiaOK.gl (h : DiaOK d) (hl : bsB d.nodes d.nodes.length ≤ 40) : GlOK (bsS d.nodes) (colF d d.arrs.length) (colG d d.arrs.length) := by
 have key : ∀ (i : Nat) (y z : Int), (colF d d.arrs.length)[i]? = some y → (colG d d.arrs.length)[i]? = some z → (0 ≤ y ∧ y < ((bsB d.nodes d.nodes.length : Nat) : Int)) ∧ (0 ≤ z ∧ z < ((bsB d.nodes d.nodes.length : Nat) : Int)) ∧ ((bsS d.nodes).labels.getD y.toNat ByteArray.empty).toList = ((bsS d.nodes).labels.getD z.toNat ByteArray.empty).toList := fun i y z hy hz => by
  obtain ⟨x, hx, t, w, hw, rfl, rfl⟩ := d0j d _ (Nat.le_refl _) i y z hy hz
  obtain ⟨a, b, f0, hA, t0, hB, ha⟩ := h.ar x hx
  have ma := (f4q.1 ha).2.2.1
  have la := f5q ma
  have bw := t1q ma w (List.mem_of_getElem? hw)
  have ht := (List.getElem?_eq_some_iff.1 hw).1
  have e1 := x2q hA (List.getElem?_eq_some_iff.1 hA).1
  have e2 := x2q hB (List.getElem?_eq_some_iff.1 hB).1
  refine ⟨⟨by omega, by omega⟩, ⟨by omega, by omega⟩, ?_⟩
  rw [Int.toNat_natCast, show (((bsB d.nodes x.to.toNat : Nat) : Int) + w).toNat = bsB d.nodes x.to.toNat + w.toNat by omega, c7j hA (by omega), c7j hB (by omega)]
  exact (lab_at ha hw).symm
 have hln := q6z d _ (Nat.le_refl _)
 refine ⟨bs_ob h.ob hl _ (Nat.le_refl _), fun y hy => ?_, fun z hz => ?_, hln, fun k y z hy hz => (key k y z hy hz).2.2⟩
 ·obtain ⟨i, hi⟩ := List.getElem?_of_mem hy
  have := (List.getElem?_eq_some_iff.1 hi).1
  obtain ⟨z, hz⟩ : ∃ z, (colG d d.arrs.length)[i]? = some z := ⟨_, List.getElem?_eq_getElem (by omega)⟩
  exact (key i y z hi hz).1
 ·obtain ⟨i, hi⟩ := List.getElem?_of_mem hz
  have := (List.getElem?_eq_some_iff.1 hi).1
  obtain ⟨y, hy⟩ : ∃ y, (colF d d.arrs.length)[i]? = some y := ⟨_, List.getElem?_eq_getElem (by omega)⟩
  exact (key i y z hy hi).2.1
theorem i7z {l : List Ob} : ∀ n, n ≤ l.length → ∀ {k : Nat} {o : Ob}, k < n → l[k]? = some o → (k2q l n)[k]? = some (legT o.labels.length (bsB l k))
 | 0, _, k, o, h, _ => by omega
 | n + 1, hn, k, o, h, ho => by
  obtain ⟨p, hp⟩ : ∃ p, l[n]? = some p := ⟨_, List.getElem?_eq_getElem hn⟩
  have hll := i7q l n (by omega)
  rw [b5z hp]
  by_cases hk : k < n
  ·rw [List.getElem?_append_left (by omega)]; exact i7z n (by omega) hk ho
  ·have : k = n := by omega
   subst this
   rw [ho] at hp; cases hp
   rw [List.getElem?_append_right (by omega), hll, Nat.sub_self]; rfl
theorem h5q : (d2q d).length = d.nodes.length := by unfold d2q; rw [List.length_map, i7q _ _ (Nat.le_refl _)]
theorem DiaOK.leg (h : DiaOK d) (hl : bsB d.nodes d.nodes.length ≤ 40) {k : Nat} {o : Ob} (ho : d.nodes[k]? = some o) :
 ∃ g, (d2q d)[k]? = some g ∧ g.length = o.labels.length ∧ thenS (legT o.labels.length (bsB d.nodes k)) (i8q d) = (g, true) ∧ ∀ x, x < o.labels.length → g[x]? = (i8q d)[bsB d.nodes k + x]? := by
 have hk := (List.getElem?_eq_some_iff.1 ho).1
 have e1 := x2q ho hk
 have hpl : (i8q d).length = bsB d.nodes d.nodes.length := (h.gl hl).len
 have ht : thenS (legT o.labels.length (bsB d.nodes k)) (i8q d) = ((legT o.labels.length (bsB d.nodes k)).map fun y => (i8q d).getD y.toNat 0, true) := s9z fun y hy => by
  obtain ⟨i, hi⟩ := List.getElem?_of_mem hy
  have hil := (List.getElem?_eq_some_iff.1 hi).1
  rw [p9q] at hil
  rw [t0q hil] at hi; cases hi
  exact ⟨by omega, by omega⟩
 refine ⟨(thenS (legT o.labels.length (bsB d.nodes k)) (i8q d)).1, by unfold d2q; rw [List.getElem?_map, i7z _ (Nat.le_refl _) hk ho]; rfl, ?_, ?_, fun x hx => ?_⟩
 ·rw [ht]; simp [legT]
 ·rw [ht]
 ·rw [ht, List.getElem?_map, t0q hx]
  simp only [Option.map_some, Int.toNat_natCast, List.getD_eq_getElem?_getD]
  rw [List.getElem?_eq_getElem (show bsB d.nodes k + x < (i8q d).length by omega)]; rfl
end Go.Proofs

open Go Go.V
namespace Go.Proofs
abbrev g9z (x : Ar) : List T := [TI x.fr, TI x.to, c0q x.mp]
abbrev tArs (l : List Ar) : T := .sl 3 (l.flatMap g9z)
abbrev vDia (d : Dia) : V := .agg [.t (h1q d.nodes), .t (tArs d.arrs)]
theorem i6q (l : List Ar) : (l.flatMap g9z).length = l.length * 3 := by
 induction l with
 | nil => rfl
 | cons a l ih => simp only [List.flatMap_cons, List.length_append, ih, List.length_cons, List.length_nil]; omega
theorem i0q (l : List Ar) : vlen (.t (tArs l)) = some l.length := by
 simp only [vlen, i6q]; congr 1; omega
theorem g8x {l : List Ar} {i : Nat} {x : Ar} (h : l[i]? = some x) : (((l.flatMap g9z).map V.t).drop (i * 3)).take 3 = [.t (TI x.fr), .t (TI x.to), .t (c0q x.mp)] := by
 induction l generalizing i with
 | nil => simp at h
 | cons a l ih =>
  cases i with
  | zero => simp at h; subst h; simp
  | succ i =>
   have := ih (i := i) (by simpa using h)
   rw [show (i + 1) * 3 = i * 3 + 3 by omega]
   simpa using this
structure DiaLim (d : Dia) : Prop where
 n : d.nodes.length < 1000000
 m : d.arrs.length < 1000000
 o1 : ∀ o ∈ d.nodes, o.labels.length < 1000000
 o2 : ∀ o ∈ d.nodes, o.pairs.length < 1000000
 a : ∀ x ∈ d.arrs, x.mp.length < 1000000
structure DiI (s : Sg) (d : Dia) (s' : Sg) : Prop where
 b : s'.m s.next = some (.box 25 [.t (h1q d.nodes), .t (tArs d.arrs)])
 same : ∀ j, j < s.next → s'.m j = s.m j
 nx : s.next < s'.next
theorem DiI.init (s : Sg) (d : Dia) : DiI s d (s.add (.box 25 [.t (h1q d.nodes), .t (tArs d.arrs)])) :=
 ⟨by rw [b7q, if_pos rfl], fun j hj => by rw [b7q, if_neg (by omega)], by rw [c6q]; omega⟩
theorem DiI.add {s : Sg} {d : Dia} {s' : Sg} (h : DiI s d s') (B : Blk) : DiI s d (s'.add B) :=
 ⟨by rw [b7q, if_neg (by have := h.nx; omega)]; exact h.b, fun j hj => by rw [b7q, if_neg (by have := h.nx; omega)]; exact h.same j hj, by rw [c6q]; have := h.nx; omega⟩
theorem DiI.set {s : Sg} {d : Dia} {s' : Sg} (h : DiI s d s') {x : Nat} (hx : s.next < x) (B : Blk) : DiI s d (s'.set x B) :=
 ⟨by rw [b9q, if_neg (by omega)]; exact h.b, fun j hj => by rw [b9q, if_neg (by omega)]; exact h.same j hj, h.nx⟩
theorem dia_n {d : Dia} (h : (d.nodes.length : Int) > 6) : diaS d = false := by
 have : ¬ d.nodes.length ≤ 6 := by omega
 simp [diaS, this]
theorem dia_m {d : Dia} (h : (d.arrs.length : Int) > 8) : diaS d = false := by
 have : ¬ d.arrs.length ≤ 8 := by omega
 simp [diaS, this]
theorem big_n {d : Dia} (h : (d.nodes.length : Int) > 6) : bigD d = true := by
 have : 6 < d.nodes.length := by omega
 simp [bigD, this]
theorem big_m {d : Dia} (h : (d.arrs.length : Int) > 8) : bigD d = true := by
 have : 8 < d.arrs.length := by omega
 simp [bigD, this]
theorem c8x {d : Dia} (h1 : ¬ (d.nodes.length : Int) > 6) (h2 : ¬ (d.arrs.length : Int) > 8) : bigD d = t7q d.nodes := by
 have h3 : ¬ 6 < d.nodes.length := by omega
 have h4 : ¬ 8 < d.arrs.length := by omega
 simp [bigD, h3, h4]
theorem dia_o {d : Dia} {k : Nat} {o : Ob} (h : d.nodes[k]? = some o) (h2 : (c4q o == 0) = false) : diaS d = false := by
 have : (d.nodes.all fun o => c4q o == 0) = false := List.all_eq_false.2 ⟨o, List.mem_of_getElem? h, by rw [h2]; decide⟩
 simp [diaS, this]
theorem u3z {d : Dia} {k : Nat} {x : Ar} (h : d.arrs[k]? = some x) (h2 : arOK d x = false) : diaS d = false := by
 have : (d.arrs.all (arOK d)) = false := List.all_eq_false.2 ⟨x, List.mem_of_getElem? h, by rw [h2]; decide⟩
 simp [diaS, this]
theorem d1j {d : Dia} (h1 : ¬ (d.nodes.length : Int) > 6) (h2 : ¬ (d.arrs.length : Int) > 8) (h3 : ∀ (j : Nat) (o : Ob), j < d.nodes.length → d.nodes[j]? = some o → (c4q o == 0) = true) (h4 : ∀ (j : Nat) (x : Ar), j < d.arrs.length → d.arrs[j]? = some x → arOK d x = true) : diaS d = true := by
 simp only [diaS, Bool.and_eq_true, decide_eq_true_eq, List.all_eq_true]
 refine ⟨by omega, by omega, fun o ho => ?_, fun x hx => ?_⟩
 ·obtain ⟨j, hj⟩ := List.getElem?_of_mem ho
  exact h3 j o (List.getElem?_eq_some_iff.1 hj).1 hj
 ·obtain ⟨j, hj⟩ := List.getElem?_of_mem hx
  exact h4 j x (List.getElem?_eq_some_iff.1 hj).1 hj
set_option maxRecDepth 20000 in
theorem x9z (d : Dia) (z : Int) (hn : d.nodes.length < 1000000000) : f7q Tryz.prog 31 [vDia d, I z] (Bo (l4q d z)) := by
 refine b4q Tryz.func31 rfl fun s Q hQ => ?_
 obtain ⟨e, he, hl, h0, h1⟩ : ∃ e : Env, ([vDia d, I z] ++ List.replicate (Tryz.f31.ntmps - ([vDia d, I z] : List V).length) .junk) = e ∧ e.length = 14 ∧ ev e (.tmp 0) = vDia d ∧ ev e (.tmp 1) = I z := ⟨_, rfl, rfl, rfl, rfl⟩
 rw [he]
 clear he
 refine vsk fun K1 hK1 => ?_
 refine a3q 0 [] ?_
 simp only [bs, ↓vopx, ↓vop, a1q, flat, V.cells, h0, wocs, ↓goc, ↓woc, ↓a2q]
 refine hK1 _ _ ?_
 refine vsk fun K2 hK2 => ?_
 rcases Decidable.em (0 ≤ z) with ha | ha
 ·refine a3q 0 [] ?_
  simp only [bs, ↓vopx, ↓vop, Nat.reduceBEq, a1q, flat, Nat.reduceLT, a8q, b0q, opII, gtmp, hl, h1, wocs, ↓goc, ↓woc, ↓a2q, ↓h3q, Tryz.ag22, Tryz.fd25_0, Tryz.sz22, Tryz.un22, d5q, ha]
  refine hK2 _ _ ?_
  refine b1q ?_
  refine hQ _ _ _ (.inr rfl) (a7q ?_ fun n b hn h => by rw [b7q, if_neg (by omega)]; exact h)
  try simp only [a0q, lpv, hl, Nat.reduceLT]
  simp [l4q, ha]
 ·refine a3q 0 [] ?_
  simp only [bs, ↓vopx, ↓vop, Nat.reduceBEq, a1q, flat, Nat.reduceLT, opII, gtmp, hl, h1, wocs, ↓goc, ↓woc, ↓a2q, ↓m5q, ha]
  refine hK2 _ _ ?_
  refine b1q ?_
  refine hQ _ _ _ (.inr rfl) (a7q ?_ fun n b hn h => by rw [b7q, if_neg (by omega)]; exact h)
  try simp only [a0q, lpv, hl, Nat.reduceLT]
  simp [l4q, ha]
set_option maxRecDepth 20000 in
set_option maxHeartbeats 4000000 in
theorem d1z (d : Dia) (L : DiaLim d) : f7q Tryz.prog 14 [vDia d] (Bo (diaS d)) := by
 refine b4q Tryz.func14 rfl fun s Q hQ => ?_
 obtain ⟨e, he, hl, h0⟩ : ∃ e : Env, ([vDia d] ++ List.replicate (Tryz.f14.ntmps - ([vDia d] : List V).length) .junk) = e ∧ e.length = 66 ∧ ev e (.tmp 0) = vDia d := ⟨_, rfl, rfl, rfl⟩
 rw [he]
 clear he
 have Ln := L.n
 have Lm := L.m
 refine vsk fun K1 hK1 => ?_
 refine a3q 0 [] ?_
 simp only [bs, ↓vopx, ↓vop, a1q, flat, V.cells, h0, wocs, ↓goc, ↓woc, ↓a2q]
 refine hK1 _ _ ?_
 refine vsk fun K2 hK2 => ?_
 refine vsk fun K3 hK3 => ?_
 rcases (show (d.nodes.length : Int) > 6 ∨ (¬ (d.nodes.length : Int) > 6 ∧ (d.arrs.length : Int) > 8) ∨ (¬ (d.nodes.length : Int) > 6 ∧ ¬ (d.arrs.length : Int) > 8) by omega) with h6 | ⟨h6, h8⟩ | ⟨h6, h8⟩
 ·refine a3q 0 [] ?_
  simp only [bs, ↓vopx, ↓vop, Nat.reduceBEq, a1q, flat, Nat.reduceLT, a8q, b0q, opII, gtmp, hl, wocs, ↓goc, ↓woc, ↓a2q, ↓e5q, Tryz.ag22, Tryz.fd25_0, Tryz.sz22, Tryz.un22, d5q, nns, h6]
  refine hK3 _ _ ?_
  refine vck fun A B hA hB => ?_
  simp only [b2q, a0q, lpv, Nat.reduceLT, true_implies, reduceCtorEq, false_implies, and_true, hl]
  refine hA ?_
  clear hA hB A B
  refine vsk fun K4 hK4 => ?_
  refine a3q 0 [] ?_
  simp only [bs, ↓vopx, ↓vop, a1q, flat, wocs, ↓goc, ↓woc, ↓a2q]
  refine hK4 _ _ ?_
  refine b1q ?_
  rw [show diaS d = false from dia_n h6] at hQ
  refine hQ _ _ _ (.inr rfl) (a7q ?_ fun n b hn h => by rw [b7q, if_neg (by omega)]; exact h)
  try simp only [a0q, lpv, hl, Nat.reduceLT]
 ·refine a3q 0 [] ?_
  simp only [bs, ↓vopx, ↓vop, Nat.reduceBEq, a1q, flat, Nat.reduceLT, a8q, b0q, opII, gtmp, hl, wocs, ↓goc, ↓woc, ↓a2q, ↓c8q, Tryz.ag22, Tryz.ag23, Tryz.fd25_0, Tryz.fd25_1, Tryz.sz22, Tryz.sz23, Tryz.un22, Tryz.un23, d5q, i0q, nns, h6, h8]
  refine hK3 _ _ ?_
  refine vck fun A B hA hB => ?_
  simp only [b2q, a0q, lpv, Nat.reduceLT, true_implies, reduceCtorEq, false_implies, and_true, hl]
  refine hA ?_
  clear hA hB A B
  refine vsk fun K5 hK5 => ?_
  refine a3q 0 [] ?_
  simp only [bs, ↓vopx, ↓vop, a1q, flat, wocs, ↓goc, ↓woc, ↓a2q]
  refine hK5 _ _ ?_
  refine b1q ?_
  rw [show diaS d = false from dia_m h8] at hQ
  refine hQ _ _ _ (.inr rfl) (a7q ?_ fun n b hn h => by rw [b7q, if_neg (by omega)]; exact h)
  try simp only [a0q, lpv, hl, Nat.reduceLT]
 ·refine a3q 0 [] ?_
  simp only [bs, ↓vopx, ↓vop, Nat.reduceBEq, a1q, flat, Nat.reduceLT, a8q, b0q, opII, gtmp, hl, wocs, ↓goc, ↓woc, ↓a2q, ↓c8q, Tryz.ag22, Tryz.ag23, Tryz.fd25_0, Tryz.fd25_1, Tryz.sz22, Tryz.sz23, Tryz.un22, Tryz.un23, d5q, i0q, nns, h6, h8]
  refine hK3 _ _ ?_
  refine vck fun A B hA hB => ?_
  simp only [b2q, a0q, lpv, Nat.reduceLT, true_implies, reduceCtorEq, false_implies, true_and, hl]
  refine hB ?_
  clear hA hB A B
  refine a9q ?_
  refine hK2 _ _ ?_
  refine vsk fun K6 hK6 => ?_
  refine vsk fun K7 hK7 => ?_
  refine a3q 0 [] ?_
  simp only [bs, ↓vopx, ↓vop, Nat.reduceBEq, a1q, flat, Nat.reduceLT, a8q, b0q, hl, wocs, ↓goc, ↓woc, ↓a2q, Tryz.ag22, Tryz.fd25_0, Tryz.sz22, Tryz.un22, d5q, nns]
  refine hK7 _ _ ?_
  refine a5q ?_
  refine c2q (fun mm e' s' => ∃ k : Nat, mm = d.nodes.length - k ∧ k ≤ d.nodes.length ∧ e'.length = 66 ∧ ev e' (.tmp 1) = .ptr s.next 0 ∧ ev e' (.tmp 18) = .t (h1q d.nodes) ∧ ev e' (.tmp 19) = I d.nodes.length ∧ ev e' (.tmp 20) = I k ∧ DiI s d s' ∧ ∀ (j : Nat) (o : Ob), j < k → d.nodes[j]? = some o → (c4q o == 0) = true) (⟨0, rfl, Nat.zero_le _, ?_⟩) ?_
  ·try simp only [a0q, a4q, Nat.reduceBEq, lpv, hl, Nat.reduceLT, true_and]
   repeat ((with_reducible refine And.intro ?_ ?_); · trivial)
   exact ⟨DiI.init s d, fun j o hj _ => absurd hj (by omega)⟩
  rintro mm e s1 ⟨k, rfl, hle_k, hl, k1, k18, k19, h_k, hst, hal⟩
  refine vsk fun K8 hK8 => ?_
  refine a3q 0 [] ?_
  simp only [a1q, opII, k19, h_k, wocs, ↓goc, ↓woc]
  refine hK8 _ _ ?_
  refine vsk fun K9 hK9 => ?_
  refine vck fun A B hA hB => ?_
  simp only [b2q, a0q, Nat.reduceLT, decide_eq_true_eq, decide_eq_false_iff_not, hl]
  refine ⟨fun hc21 => hA ?_, fun hc21 => hB ?_⟩
  ·clear hA hB A B
   refine a9q ?_
   refine hK9 _ _ ?_
   refine vsk fun K10 hK10 => ?_
   refine a5q ?_
   refine vsk fun K11 hK11 => ?_
   have hlt : k < d.nodes.length := by omega
   obtain ⟨o, ho⟩ : ∃ o, d.nodes[k]? = some o := ⟨_, List.getElem?_eq_getElem hlt⟩
   have g0 := d8z ho
   have hfl := f6q d.nodes
   have hi2 : k * 2 < d.nodes.length * 2 := by omega
   refine a3q 0 [] ?_
   simp only [bs, Nat.reduceAdd, ↓vopx, ↓vop, Nat.reduceBEq, a1q, Nat.reduceLT, V.cells, a8q, b0q, hl, k18, h_k, wocs, ↓goc, ↓woc, ↓a2q, Tryz.ag29, Tryz.sz29, Tryz.un22, Tryz.zv29, g0, hfl, hi2]
   refine hK11 _ _ ?_
   refine vsk fun K12 hK12 => ?_
   refine d4q fun e2 sb hE2 hSb => ?_
   subst hE2
   have hIb : DiI s d sb := by rw [hSb]; exact (hst.add _).set hst.nx _
   have hbx : sb.m s1.next = some (.box 29 [.t (d1q o.labels), .t (b3q o.pairs)]) := by rw [hSb]; simp only [b9q, if_true]; try rfl
   clear hSb
   have o1 := L.o1 o (List.mem_of_getElem? ho)
   have o2 := L.o2 o (List.mem_of_getElem? ho)
   refine a3q 0 [.pur (Bo (c4q o == 0))] ?_
   simp only [bs, Nat.reduceAdd, ↓vopx, ↓vop, a1q, Nat.reduceLT, a8q, b0q, hl, wocs, ↓goc, ↓woc, ↓a2q, ↓b8q, a6q, Tryz.ag29, Tryz.sz29, hbx]
   repeat ((with_reducible refine And.intro ?_ ?_); · exact ⟨Tryz.is30, d9z o (by omega) (by omega)⟩)
   refine hK12 _ _ ?_
   refine vck fun A B hA hB => ?_
   simp only [b2q, a0q, lpv, Nat.reduceLT, Bool.not_eq_true', Bool.not_eq_false', beq_iff_eq, beq_eq_false_iff_ne, ne_eq, hl]
   refine ⟨fun hc26 => hA ?_, fun hc26 => hB ?_⟩
   ·clear hA hB A B
    refine vsk fun K13 hK13 => ?_
    refine a3q 0 [] ?_
    simp only [bs, ↓vopx, ↓vop, a1q, flat, wocs, ↓goc, ↓woc, ↓a2q]
    refine hK13 _ _ ?_
    refine b1q ?_
    rw [show diaS d = false from dia_o ho (by simp [hc26])] at hQ
    refine hQ _ _ _ (.inr rfl) (a7q ?_ fun n b hn h => (hIb.same n hn).trans h)
    try simp only [a0q, lpv, hl, Nat.reduceLT]
   ·clear hA hB A B
    refine a9q ?_
    refine hK10 _ _ ?_
    refine a3q 0 [] ?_
    simp only [bs, ↓vopx, ↓vop, Nat.reduceBEq, a1q, flat, Nat.reduceLT, opII, hl, k1, k18, k19, h_k, wocs, ↓goc, ↓woc, ↓a2q]
    repeat ((with_reducible refine And.intro ?_ ?_); · exact ⟨by omega, by omega⟩)
    refine ⟨d.nodes.length - (k + 1), by omega, k + 1, rfl, by omega, ?_⟩
    try simp only [a0q, a4q, Nat.reduceBEq, lpv, hl, k1, k18, k19, h_k, if_true, if_false, Nat.reduceEqDiff, Nat.reduceLT, true_and, and_true]
    repeat ((with_reducible refine And.intro ?_ ?_); · trivial)
    intro j o2 hj ho2
    rcases Nat.lt_succ_iff_lt_or_eq.1 hj with h | h
    ·exact hal j o2 h ho2
    ·subst h; rw [ho] at ho2; cases ho2; simp [hc26]
  ·clear hA hB A B
   have hka : k = d.nodes.length := by omega
   refine c1q ?_
   simp only [a1q, b5q, if_true]
   refine hK6 _ _ ?_
   refine vsk fun K14 hK14 => ?_
   refine vsk fun K15 hK15 => ?_
   have hb62 := hst.b
   refine a3q 0 [] ?_
   simp only [bs, ↓vopx, ↓vop, Nat.reduceBEq, a1q, flat, Nat.reduceLT, a8q, b0q, hl, k1, wocs, ↓goc, ↓woc, ↓a2q, Tryz.ag23, Tryz.fd25_1, Tryz.sz23, Tryz.un23, i0q, nns, hb62]
   refine hK15 _ _ ?_
   refine a5q ?_
   refine c2q (fun mm e' s' => ∃ k : Nat, mm = d.arrs.length - k ∧ k ≤ d.arrs.length ∧ e'.length = 66 ∧ ev e' (.tmp 1) = .ptr s.next 0 ∧ ev e' (.tmp 29) = .t (tArs d.arrs) ∧ ev e' (.tmp 30) = I d.arrs.length ∧ ev e' (.tmp 31) = I k ∧ DiI s d s' ∧ ∀ (j : Nat) (x : Ar), j < k → d.arrs[j]? = some x → arOK d x = true) (⟨0, rfl, Nat.zero_le _, ?_⟩) ?_
   ·try simp only [a0q, a4q, Nat.reduceBEq, lpv, hl, k1, Nat.reduceLT, true_and]
    repeat ((with_reducible refine And.intro ?_ ?_); · trivial)
    exact fun j x hj _ => absurd hj (by omega)
   rintro mm e s1 ⟨k, rfl, hle_k, hl, k1, k29, k30, h_k, hst, hal2⟩
   refine vsk fun K16 hK16 => ?_
   refine a3q 0 [] ?_
   simp only [a1q, opII, k30, h_k, wocs, ↓goc, ↓woc]
   refine hK16 _ _ ?_
   refine vsk fun K17 hK17 => ?_
   refine vck fun A B hA hB => ?_
   simp only [b2q, a0q, Nat.reduceLT, decide_eq_true_eq, decide_eq_false_iff_not, hl]
   refine ⟨fun hc32 => hA ?_, fun hc32 => hB ?_⟩
   ·clear hA hB A B
    refine a9q ?_
    refine hK17 _ _ ?_
    refine vsk fun K18 hK18 => ?_
    refine a5q ?_
    refine vsk fun K19 hK19 => ?_
    have hlt : k < d.arrs.length := by omega
    obtain ⟨x, hx⟩ : ∃ x, d.arrs[k]? = some x := ⟨_, List.getElem?_eq_getElem hlt⟩
    have g0 := g8x hx
    have hfl := i6q d.arrs
    have hi2 : k * 3 < d.arrs.length * 3 := by omega
    refine a3q 0 [] ?_
    simp only [bs, Nat.reduceAdd, ↓vopx, ↓vop, Nat.reduceBEq, a1q, Nat.reduceLT, V.cells, a8q, b0q, hl, k29, h_k, wocs, ↓goc, ↓woc, ↓a2q, Tryz.ag49, Tryz.sz49, Tryz.un23, Tryz.zv49, g0, hfl, hi2]
    refine hK19 _ _ ?_
    refine vsk fun K20 hK20 => ?_
    refine d4q fun e2 sb hE2 hSb => ?_
    subst hE2
    have hIb : DiI s d sb := by rw [hSb]; exact (hst.add _).set hst.nx _
    have hbx : sb.m s1.next = some (.box 49 [.t (TI x.fr), .t (TI x.to), .t (c0q x.mp)]) := by rw [hSb]; simp only [b9q, if_true]; try rfl
    clear hSb
    have hb62 := hIb.b
    have la := L.a x (List.mem_of_getElem? hx)
    rcases (show l4q d x.fr = false ∨ (l4q d x.fr = true ∧ l4q d x.to = false) ∨ (l4q d x.fr = true ∧ l4q d x.to = true) by cases l4q d x.fr <;> cases l4q d x.to <;> simp) with q1 | ⟨q1, q2⟩ | ⟨q1, q2⟩
    ·refine c5q Tryz.mixed 27 [1, 0, 1, 0, 0, 0, 1, 0, 1, 0, 0, 0, 0, 0, 1, 0, 1, 1, 1, 0, 1, 0, 1, 1, 1, 0, 1] [.pur (Bo (l4q d x.fr))] [] 0 (by decide +kernel) (by simp [lpv, hl]) rfl ?_
     simp only [bs, Nat.reduceAdd, ↓vopx, ↓vop, Nat.reduceBEq, a1q, flat, Nat.reduceLT, a8q, b0q, gtmp, hl, k1, wocs, ↓goc, ↓woc, ↓a2q, ↓e3q, ↓b8q, ↓e5q, a6q, chn, ↓goq, ↓woq, ↓h6z, List.zip_cons_cons, List.zip_nil_right, Tryz.ag3, Tryz.ag25, Tryz.fd49_0, Tryz.sz3, Tryz.sz25, nns, hbx, hb62, q1]
     repeat ((with_reducible refine And.intro ?_ ?_); · exact ⟨Tryz.is31, by simpa only [q1] using x9z d x.fr (by omega)⟩)
     refine hK20 _ _ ?_
     refine vck fun A B hA hB => ?_
     simp only [b2q, a0q, lpv, Nat.reduceLT, true_implies, reduceCtorEq, false_implies, and_true, hl]
     refine hA ?_
     clear hA hB A B
     refine vsk fun K21 hK21 => ?_
     refine a3q 0 [] ?_
     simp only [bs, ↓vopx, ↓vop, a1q, flat, wocs, ↓goc, ↓woc, ↓a2q]
     refine hK21 _ _ ?_
     refine b1q ?_
     rw [show diaS d = false from u3z hx (by simp [arOK, q1])] at hQ
     refine hQ _ _ _ (.inr rfl) (a7q ?_ fun n b hn h => (hIb.same n hn).trans h)
     try simp only [a0q, lpv, hl, Nat.reduceLT]
    ·refine c5q Tryz.mixed 27 [1, 0, 1, 0, 0, 0, 1, 0, 1, 0, 0, 0, 0, 0, 1, 0, 1, 1, 1, 0, 1, 0, 1, 1, 1, 0, 1] [.pur (Bo (l4q d x.fr)), .pur (Bo (l4q d x.to))] [] 0 (by decide +kernel) (by simp [lpv, hl]) rfl ?_
     simp only [bs, Nat.reduceAdd, ↓vopx, ↓vop, Nat.reduceBEq, a1q, flat, Nat.reduceLT, a8q, b0q, gtmp, hl, k1, wocs, ↓goc, ↓woc, ↓a2q, ↓e3q, ↓b8q, ↓c8q, ↓e5q, a6q, chn, ↓goq, ↓woq, ↓h6z, List.zip_cons_cons, List.zip_nil_right, Tryz.ag3, Tryz.ag25, Tryz.fd49_0, Tryz.fd49_1, Tryz.sz3, Tryz.sz25, nns, hbx, hb62, q1, q2]
     repeat ((with_reducible refine And.intro ?_ ?_); · first | exact ⟨Tryz.is31, by simpa only [q1] using x9z d x.fr (by omega)⟩ | exact ⟨Tryz.is31, by simpa only [q2] using x9z d x.to (by omega)⟩)
     refine hK20 _ _ ?_
     refine vck fun A B hA hB => ?_
     simp only [b2q, a0q, lpv, Nat.reduceLT, true_implies, reduceCtorEq, false_implies, and_true, hl]
     refine hA ?_
     clear hA hB A B
     refine vsk fun K22 hK22 => ?_
     refine a3q 0 [] ?_
     simp only [bs, ↓vopx, ↓vop, a1q, flat, wocs, ↓goc, ↓woc, ↓a2q]
     refine hK22 _ _ ?_
     refine b1q ?_
     rw [show diaS d = false from u3z hx (by simp [arOK, q2])] at hQ
     refine hQ _ _ _ (.inr rfl) (a7q ?_ fun n b hn h => (hIb.same n hn).trans h)
     try simp only [a0q, lpv, hl, Nat.reduceLT]
    ·have i1 := v6q.1 q1
     have i2 := v6q.1 q2
     obtain ⟨a, hA⟩ : ∃ a, d.nodes[x.fr.toNat]? = some a := ⟨_, List.getElem?_eq_getElem (by omega)⟩
     obtain ⟨b, hB⟩ : ∃ b, d.nodes[x.to.toNat]? = some b := ⟨_, List.getElem?_eq_getElem (by omega)⟩
     have g1 := d8z hA
     have g2 := d8z hB
     have hfl := f6q d.nodes
     have j1 : x.fr.toNat * 2 < d.nodes.length * 2 := by omega
     have j2 : x.to.toNat * 2 < d.nodes.length * 2 := by omega
     have a1 := L.o1 a (List.mem_of_getElem? hA)
     have a2 := L.o2 a (List.mem_of_getElem? hA)
     have b1 := L.o1 b (List.mem_of_getElem? hB)
     have b2 := L.o2 b (List.mem_of_getElem? hB)
     have hok : arOK d x = arrS a b x.mp := by simp [arOK, q1, q2, n3q hA, n3q hB]
     refine c5q Tryz.mixed 27 [1, 0, 1, 0, 0, 0, 1, 0, 1, 0, 0, 0, 0, 0, 1, 0, 1, 1, 1, 0, 1, 0, 1, 1, 1, 0, 1] [.pur (Bo (l4q d x.fr)), .pur (Bo (l4q d x.to)), .pur (Bo (arrS a b x.mp))] [] 0 (by decide +kernel) (by simp [lpv, hl]) rfl ?_
     simp only [bs, Nat.reduceAdd, ↓vopx, ↓vop, Nat.reduceBEq, a1q, flat, Nat.reduceLT, a8q, b0q, gtmp, hl, k1, wocs, ↓goc, ↓woc, ↓a2q, ↓e3q, ↓b8q, ↓c8q, a6q, chn, ↓goq, ↓woq, ↓h6z, List.zip_cons_cons, List.zip_nil_right, Tryz.ag29, Tryz.ag40, Tryz.ag3, Tryz.ag22, Tryz.ag25, Tryz.fd25_0, Tryz.fd49_0, Tryz.fd49_1, Tryz.fd49_2, Tryz.sz29, Tryz.sz40, Tryz.sz3, Tryz.sz22, Tryz.sz25, Tryz.un22, nns, hbx, hb62, q1, q2, g1, g2, hfl, j1, j2]
     repeat ((with_reducible refine And.intro ?_ ?_); · first | omega | exact ⟨Tryz.is31, by simpa only [q1] using x9z d x.fr (by omega)⟩ | exact ⟨Tryz.is31, by simpa only [q2] using x9z d x.to (by omega)⟩ | exact ⟨Tryz.is32, c6j a b x.mp (by omega) (by omega) (by omega) (by omega) (by omega)⟩)
     refine hK20 _ _ ?_
     refine vck fun A B hA hB => ?_
     simp only [b2q, a0q, lpv, Nat.reduceLT, Bool.not_eq_true', Bool.not_eq_false', hl]
     refine ⟨fun hc64 => hA ?_, fun hc64 => hB ?_⟩
     ·clear hA hB A B
      refine vsk fun K23 hK23 => ?_
      refine a3q 0 [] ?_
      simp only [bs, ↓vopx, ↓vop, a1q, flat, wocs, ↓goc, ↓woc, ↓a2q]
      refine hK23 _ _ ?_
      refine b1q ?_
      rw [show diaS d = false from u3z hx (by rw [hok]; exact hc64)] at hQ
      refine hQ _ _ _ (.inr rfl) (a7q ?_ fun n b hn h => (hIb.same n hn).trans h)
      try simp only [a0q, lpv, hl, Nat.reduceLT]
     ·clear hA hB A B
      refine a9q ?_
      refine hK18 _ _ ?_
      refine a3q 0 [] ?_
      simp only [bs, ↓vopx, ↓vop, Nat.reduceBEq, a1q, flat, Nat.reduceLT, opII, hl, k1, k29, k30, h_k, wocs, ↓goc, ↓woc, ↓a2q]
      repeat ((with_reducible refine And.intro ?_ ?_); · exact ⟨by omega, by omega⟩)
      refine ⟨d.arrs.length - (k + 1), by omega, k + 1, rfl, by omega, ?_⟩
      try simp only [a0q, a4q, Nat.reduceBEq, lpv, hl, k1, k29, k30, h_k, if_true, if_false, Nat.reduceEqDiff, Nat.reduceLT, true_and, and_true]
      repeat ((with_reducible refine And.intro ?_ ?_); · trivial)
      intro j x2 hj hx2
      rcases Nat.lt_succ_iff_lt_or_eq.1 hj with h | h
      ·exact hal2 j x2 h hx2
      ·subst h; rw [hx] at hx2; cases hx2; rw [hok]; exact hc64
   ·clear hA hB A B
    have hkb : k = d.arrs.length := by omega
    refine c1q ?_
    simp only [a1q, b5q, if_true]
    refine hK14 _ _ ?_
    refine vsk fun K24 hK24 => ?_
    refine a3q 0 [] ?_
    simp only [bs, ↓vopx, ↓vop, a1q, flat, wocs, ↓goc, ↓woc, ↓a2q]
    refine hK24 _ _ ?_
    refine b1q ?_
    rw [d1j h6 h8 (by rw [← hka]; exact hal) (by rw [← hkb]; exact hal2)] at hQ
    refine hQ _ _ _ (.inr rfl) (a7q ?_ fun n b hn h => (hst.same n hn).trans h)
    try simp only [a0q, lpv, hl, Nat.reduceLT]
set_option maxRecDepth 20000 in
set_option maxHeartbeats 4000000 in
theorem bigD_ (d : Dia) (L : DiaLim d) : f7q Tryz.prog 18 [vDia d] (Bo (bigD d)) := by
 refine b4q Tryz.func18 rfl fun s Q hQ => ?_
 obtain ⟨e, he, hl, h0⟩ : ∃ e : Env, ([vDia d] ++ List.replicate (Tryz.f18.ntmps - ([vDia d] : List V).length) .junk) = e ∧ e.length = 31 ∧ ev e (.tmp 0) = vDia d := ⟨_, rfl, rfl, rfl⟩
 rw [he]
 clear he
 have Ln := L.n
 have Lm := L.m
 refine vsk fun K1 hK1 => ?_
 refine a3q 0 [] ?_
 simp only [bs, ↓vopx, ↓vop, a1q, flat, V.cells, h0, wocs, ↓goc, ↓woc, ↓a2q]
 refine hK1 _ _ ?_
 refine f7x ?_
 refine vsk fun K2 hK2 => ?_
 refine vsk fun K3 hK3 => ?_
 rcases (show (d.nodes.length : Int) > 6 ∨ (¬ (d.nodes.length : Int) > 6 ∧ (d.arrs.length : Int) > 8) ∨ (¬ (d.nodes.length : Int) > 6 ∧ ¬ (d.arrs.length : Int) > 8) by omega) with h6 | ⟨h6, h8⟩ | ⟨h6, h8⟩
 ·refine a3q 0 [] ?_
  simp only [bs, ↓vopx, ↓vop, Nat.reduceBEq, a1q, flat, Nat.reduceLT, a8q, b0q, opII, gtmp, hl, wocs, ↓goc, ↓woc, ↓a2q, ↓e5q, Tryz.ag22, Tryz.fd25_0, Tryz.sz22, Tryz.un22, d5q, nns, h6]
  refine hK3 _ _ ?_
  refine vck fun A B hA hB => ?_
  simp only [b2q, a0q, lpv, Nat.reduceLT, true_implies, reduceCtorEq, false_implies, and_true, hl]
  refine hA ?_
  clear hA hB A B
  refine vsk fun K4 hK4 => ?_
  refine a3q 0 [] ?_
  simp only [bs, ↓vopx, ↓vop, a1q, flat, wocs, ↓goc, ↓woc, ↓a2q]
  refine hK4 _ _ ?_
  refine b1q ?_
  change Q _ _ _
  rw [show bigD d = true from big_n h6] at hQ
  refine hQ _ _ _ (.inr rfl) (a7q ?_ fun n b hn h => by rw [b7q, if_neg (by omega)]; exact h)
  try simp only [a0q, lpv, hl, Nat.reduceLT]
 ·refine a3q 0 [] ?_
  simp only [bs, ↓vopx, ↓vop, Nat.reduceBEq, a1q, flat, Nat.reduceLT, a8q, b0q, opII, gtmp, hl, wocs, ↓goc, ↓woc, ↓a2q, ↓c8q, Tryz.ag22, Tryz.ag23, Tryz.fd25_0, Tryz.fd25_1, Tryz.sz22, Tryz.sz23, Tryz.un22, Tryz.un23, d5q, i0q, nns, h6, h8]
  refine hK3 _ _ ?_
  refine vck fun A B hA hB => ?_
  simp only [b2q, a0q, lpv, Nat.reduceLT, true_implies, reduceCtorEq, false_implies, and_true, hl]
  refine hA ?_
  clear hA hB A B
  refine vsk fun K5 hK5 => ?_
  refine a3q 0 [] ?_
  simp only [bs, ↓vopx, ↓vop, a1q, flat, wocs, ↓goc, ↓woc, ↓a2q]
  refine hK5 _ _ ?_
  refine b1q ?_
  change Q _ _ _
  rw [show bigD d = true from big_m h8] at hQ
  refine hQ _ _ _ (.inr rfl) (a7q ?_ fun n b hn h => by rw [b7q, if_neg (by omega)]; exact h)
  try simp only [a0q, lpv, hl, Nat.reduceLT]
 ·refine a3q 0 [] ?_
  simp only [bs, ↓vopx, ↓vop, Nat.reduceBEq, a1q, flat, Nat.reduceLT, a8q, b0q, opII, gtmp, hl, wocs, ↓goc, ↓woc, ↓a2q, ↓c8q, Tryz.ag22, Tryz.ag23, Tryz.fd25_0, Tryz.fd25_1, Tryz.sz22, Tryz.sz23, Tryz.un22, Tryz.un23, d5q, i0q, nns, h6, h8]
  refine hK3 _ _ ?_
  refine vck fun A B hA hB => ?_
  simp only [b2q, a0q, lpv, Nat.reduceLT, true_implies, reduceCtorEq, false_implies, true_and, hl]
  refine hB ?_
  clear hA hB A B
  refine a9q ?_
  refine hK2 _ _ ?_
  refine vsk fun K6 hK6 => ?_
  refine a3q 0 [] ?_
  simp only [bs, ↓vopx, ↓vop, a1q, flat, wocs, ↓goc, ↓woc, ↓a2q]
  refine hK6 _ _ ?_
  refine vsk fun K7 hK7 => ?_
  refine f5x ?_
  try simp only [a1q]
  refine hK7 _ _ ?_
  refine vsk fun K8 hK8 => ?_
  refine vsk fun K9 hK9 => ?_
  refine a3q 0 [] ?_
  simp only [bs, ↓vopx, ↓vop, Nat.reduceBEq, a1q, flat, Nat.reduceLT, a8q, b0q, hl, wocs, ↓goc, ↓woc, ↓a2q, Tryz.ag22, Tryz.fd25_0, Tryz.sz22, Tryz.un22, d5q, nns]
  refine hK9 _ _ ?_
  refine a5q ?_
  refine c2q (fun mm e' s' => ∃ k : Nat, mm = d.nodes.length - k ∧ k ≤ d.nodes.length ∧ e'.length = 31 ∧ ev e' (.tmp 1) = .ptr s.next 0 ∧ ev e' (.tmp 3) = I (40 - (sumT d.nodes k : Int)) ∧ ev e' (.tmp 17) = .t (h1q d.nodes) ∧ ev e' (.tmp 18) = I d.nodes.length ∧ ev e' (.tmp 19) = I k ∧ DiI s d s' ∧ sumT d.nodes k ≤ 40) (⟨0, rfl, Nat.zero_le _, ?_⟩) ?_
  ·try simp only [a0q, a4q, Nat.reduceBEq, lpv, hl, Nat.reduceLT, true_and]
   repeat ((with_reducible refine And.intro ?_ ?_); · trivial)
   exact ⟨DiI.init s d, by simp [sumT]⟩
  rintro mm e s1 ⟨k, rfl, hle_k, hl, k1, k3, k17, k18, h_k, hst, hsk⟩
  refine vsk fun K10 hK10 => ?_
  refine a3q 0 [] ?_
  simp only [a1q, opII, k18, h_k, wocs, ↓goc, ↓woc]
  refine hK10 _ _ ?_
  refine vsk fun K11 hK11 => ?_
  refine vck fun A B hA hB => ?_
  simp only [b2q, a0q, Nat.reduceLT, decide_eq_true_eq, decide_eq_false_iff_not, hl]
  refine ⟨fun hc20 => hA ?_, fun hc20 => hB ?_⟩
  ·clear hA hB A B
   refine a9q ?_
   refine hK11 _ _ ?_
   refine vsk fun K12 hK12 => ?_
   refine a5q ?_
   refine vsk fun K13 hK13 => ?_
   have hlt : k < d.nodes.length := by omega
   obtain ⟨o, ho⟩ : ∃ o, d.nodes[k]? = some o := ⟨_, List.getElem?_eq_getElem hlt⟩
   have g0 := d8z ho
   have hfl := f6q d.nodes
   have hi2 : k * 2 < d.nodes.length * 2 := by omega
   refine a3q 0 [] ?_
   simp only [bs, Nat.reduceAdd, ↓vopx, ↓vop, Nat.reduceBEq, a1q, Nat.reduceLT, V.cells, a8q, b0q, hl, k17, h_k, wocs, ↓goc, ↓woc, ↓a2q, Tryz.ag29, Tryz.sz29, Tryz.un22, Tryz.zv29, g0, hfl, hi2]
   refine hK13 _ _ ?_
   refine vsk fun K14 hK14 => ?_
   refine vsk fun K15 hK15 => ?_
   refine d4q fun e2 sb hE2 hSb => ?_
   subst hE2
   have hIb : DiI s d sb := by rw [hSb]; exact (hst.add _).set hst.nx _
   have hbx : sb.m s1.next = some (.box 29 [.t (d1q o.labels), .t (b3q o.pairs)]) := by rw [hSb]; simp only [b9q, if_true]; try rfl
   clear hSb
   have o1 := L.o1 o (List.mem_of_getElem? ho)
   have hss := a4z ho
   refine a3q 0 [] ?_
   simp only [bs, ↓vopx, ↓vop, Nat.reduceBEq, a1q, Nat.reduceLT, a8q, b0q, opII, hl, k3, wocs, ↓goc, ↓woc, ↓a2q, Tryz.ag26, Tryz.fd29_0, Tryz.sz26, Tryz.un26, c9q, nns, hbx]
   repeat ((with_reducible refine And.intro ?_ ?_); · exact ⟨by omega, by omega⟩)
   refine hK15 _ _ ?_
   refine vsk fun K16 hK16 => ?_
   refine a3q 0 [] ?_
   simp only [bs, ↓vopx, ↓vop, a1q, flat, Nat.reduceLT, opII, hl, wocs, ↓goc, ↓woc, ↓a2q]
   refine hK16 _ _ ?_
   refine vck fun A B hA hB => ?_
   simp only [b2q, a0q, lpv, Nat.reduceLT, decide_eq_true_eq, decide_eq_false_iff_not, hl]
   refine ⟨fun hc29 => hA ?_, fun hc29 => hB ?_⟩
   ·clear hA hB A B
    refine c1q ?_
    simp only [a1q, b5q, noGoto, if_true, if_false, reduceCtorEq]
    refine hK12 _ _ ?_
    refine a3q 0 [] ?_
    simp only [bs, ↓vopx, ↓vop, Nat.reduceBEq, a1q, flat, Nat.reduceLT, opII, hl, k1, k17, k18, h_k, wocs, ↓goc, ↓woc, ↓a2q]
    repeat ((with_reducible refine And.intro ?_ ?_); · exact ⟨by omega, by omega⟩)
    refine ⟨d.nodes.length - (k + 1), by omega, k + 1, rfl, by omega, ?_⟩
    try simp only [a0q, a4q, Nat.reduceBEq, lpv, hl, k1, k3, k17, k18, h_k, if_true, if_false, Nat.reduceEqDiff, Nat.reduceLT, true_and, and_true]
    exact ⟨by rw [hss, show (40 - ((sumT d.nodes k : Nat) : Int) - (o.labels.length : Int)) = 40 - ((sumT d.nodes k + o.labels.length : Nat) : Int) by omega], by push_cast; rfl, hIb, by rw [hss]; omega⟩
   ·clear hA hB A B
    refine a9q ?_
    refine hK14 _ _ ?_
    refine vsk fun K17 hK17 => ?_
    refine a3q 0 [] ?_
    simp only [bs, ↓vopx, ↓vop, a1q, flat, wocs, ↓goc, ↓woc, ↓a2q]
    refine hK17 _ _ ?_
    refine b1q ?_
    change Q _ _ _
    rw [show bigD d = true from by rw [c8x h6 h8]; have := t8x d.nodes (k + 1); rw [hss] at this; unfold t7q; simp only [decide_eq_true_eq]; omega] at hQ
    refine hQ _ _ _ (.inr rfl) (a7q ?_ fun n b hn h => (hIb.same n hn).trans h)
    try simp only [a0q, lpv, hl, Nat.reduceLT]
  ·clear hA hB A B
   have hka : k = d.nodes.length := by omega
   refine c1q ?_
   simp only [a1q, b5q, noGoto, if_true]
   refine hK8 _ _ ?_
   refine vsk fun K18 hK18 => ?_
   refine a3q 0 [] ?_
   simp only [bs, ↓vopx, ↓vop, a1q, flat, wocs, ↓goc, ↓woc, ↓a2q]
   refine hK18 _ _ ?_
   refine b1q ?_
   change Q _ _ _
   rw [show bigD d = false from by rw [c8x h6 h8]; unfold t7q; rw [← hka]; simp only [decide_eq_false_iff_not]; omega] at hQ
   refine hQ _ _ _ (.inr rfl) (a7q ?_ fun n b hn h => (hst.same n hn).trans h)
   try simp only [a0q, lpv, hl, Nat.reduceLT]
end Go.Proofs

open Go Go.V
namespace Go.Proofs
def vCol (r : Ob × List (List Int) × Int) : V := .tup [vObj r.1, .t (tMat r.2.1), I r.2.2]
def mixL (d : Dia) (pl : List Int) (j : Nat) : List (List Int) := ((k2q d.nodes d.nodes.length).take j).map (fun g => (thenS g pl).1) ++ (k2q d.nodes d.nodes.length).drop j
theorem d7x (d : Dia) (pl : List Int) (j : Nat) : (mixL d pl j).length = d.nodes.length := by
 have := i7q d.nodes d.nodes.length (Nat.le_refl _)
 simp [mixL]; omega
theorem mixL_at {d : Dia} {pl : List Int} {j : Nat} {g : List Int} (h : (k2q d.nodes d.nodes.length)[j]? = some g) : (mixL d pl j)[j]? = some g := by
 have hl := (List.getElem?_eq_some_iff.1 h).1
 unfold mixL
 rw [List.getElem?_append_right (by simp; omega), List.length_map, List.length_take, Nat.min_eq_left (by omega), Nat.sub_self, List.getElem?_drop]; exact h
theorem y8x {d : Dia} {pl : List Int} {j : Nat} {g : List Int} (h : (k2q d.nodes d.nodes.length)[j]? = some g) : (mixL d pl j).set j (thenS g pl).1 = mixL d pl (j + 1) := by
 have hl := (List.getElem?_eq_some_iff.1 h).1
 unfold mixL
 rw [List.set_append_right _ _ (by simp; omega), List.length_map, List.length_take, Nat.min_eq_left (by omega), Nat.sub_self]
 rw [List.take_add_one, h, List.drop_eq_getElem_cons hl, List.set_cons_zero]
 simp
theorem y7x (d : Dia) (pl : List Int) : mixL d pl d.nodes.length = (k2q d.nodes d.nodes.length).map fun g => (thenS g pl).1 := by
 have := i7q d.nodes d.nodes.length (Nat.le_refl _)
 have h1 : (k2q d.nodes d.nodes.length).take d.nodes.length = k2q d.nodes d.nodes.length := List.take_of_length_le (by omega)
 have h2 : (k2q d.nodes d.nodes.length).drop d.nodes.length = [] := List.drop_eq_nil_of_le (by omega)
 simp only [mixL, h1, h2, List.append_nil]
theorem p2x (d : Dia) (pl : List Int) : mixL d pl 0 = k2q d.nodes d.nodes.length := by simp [mixL]
theorem i7x {l : List (List Int)} {i : Nat} (h : i < l.length) (g : List Int) : setAll (l.map c0q) i [c0q g] = (l.set i g).map c0q := by
 rw [show setAll (l.map c0q) i [c0q g] = (l.map c0q).set i (c0q g) from h4q _ _ _ (by simpa using h), List.map_set]
structure CoI (s sV : Sg) (d : Dia) (m p um : Nat) (k : Nat) (s' : Sg) : Prop where
 pr : ProR s' p um (j0q (e8q (bsB d.nodes d.nodes.length)) (colF d d.arrs.length) (colG d d.arrs.length) k)
 keep : Keep sV s'
 nx : sV.next ≤ s'.next
theorem CoI.step {s sV : Sg} {d : Dia} {m p um k : Nat} {s1 s2 : Sg} (h : CoI s sV d m p um k s1) (hk : Keep s1 s2) (hn : s1.next ≤ s2.next) : CoI s sV d m p um k s2 :=
 ⟨h.pr.keep hk hn, h.keep.trans h.nx hk, Nat.le_trans h.nx hn⟩
theorem c9j {d : Dia} (h : bigD d = false) : bsB d.nodes d.nodes.length ≤ 40 := by
 simp only [bigD, Bool.or_eq_false_iff, t7q, decide_eq_false_iff_not, c1x _ _ (Nat.le_refl _)] at h
 omega
theorem c8j {l : List Ob} (h : BsOK l) : (bsS l).pairs.length ≤ 10000 := by
 have h1 := h.prs l.length
 have h2 := h.n
 show (prsT l l.length).length ≤ _
 omega
set_option maxRecDepth 20000 in
set_option maxHeartbeats 8000000 in
theorem l7x (d : Dia) (L : DiaLim d) (hp2 : ∀ o ∈ d.nodes, o.pairs.length ≤ 1000) : f7q Tryz.prog 8 [vDia d] (vCol (colS d)) := by
 refine b4q Tryz.func8 rfl fun s Q hQ => ?_
 obtain ⟨e, he, hl, h0⟩ : ∃ e : Env, ([vDia d] ++ List.replicate (Tryz.f8.ntmps - ([vDia d] : List V).length) .junk) = e ∧ e.length = 95 ∧ ev e (.tmp 0) = vDia d := ⟨_, rfl, rfl, rfl⟩
 rw [he]
 clear he
 have Ln := L.n
 have Lm := L.m
 refine vsk fun K1 hK1 => ?_
 refine a3q 0 [] ?_
 simp only [bs, ↓vopx, ↓vop, a1q, flat, V.cells, h0, wocs, ↓goc, ↓woc, ↓a2q, Tryz.zv29]
 refine hK1 _ _ ?_
 refine vsk fun K2 hK2 => ?_
 refine a5q ?_
 refine vsk fun K3 hK3 => ?_
 refine p3q fun sN hSN => ?_
 have hn62 : sN.m s.next = some (.box 25 [.t (h1q d.nodes), .t (tArs d.arrs)]) := by rw [hSN, b7q, if_neg (by simp only [c6q]; omega), b7q, if_pos rfl]
 have hn2 : sN.m (s.next + 1) = some (.box 29 [.t (.v (.slice none 0 0)), .t (.v (.slice none 0 0))]) := by rw [hSN, b7q, if_pos (by simp only [c6q])]
 have hnn : sN.next = s.next + 2 := by rw [hSN]; rfl
 have hnk : ∀ j, j < s.next → sN.m j = s.m j := fun j hj => by rw [hSN, b7q, if_neg (by simp only [c6q]; omega), b7q, if_neg (by omega)]
 clear hSN
 rcases (show bigD d = true ∨ bigD d = false by cases bigD d <;> simp) with kb | kb
 ·refine a3q 0 [.pur (Bo (bigD d))] ?_
  simp only [bs, Nat.reduceAdd, ↓vopx, ↓vop, Nat.reduceBEq, a1q, Nat.reduceLT, a8q, b0q, hl, wocs, ↓goc, ↓woc, ↓a2q, ↓b8q, a6q, Tryz.ag25, Tryz.sz25, hn62, kb]
  repeat ((with_reducible refine And.intro ?_ ?_); · exact ⟨Tryz.is18, by simpa only [kb] using bigD_ d L⟩)
  refine hK3 _ _ ?_
  refine vck fun A B hA hB => ?_
  simp only [b2q, a0q, lpv, Nat.reduceLT, true_implies, reduceCtorEq, false_implies, and_true, hl]
  refine hA ?_
  clear hA hB A B
  refine vsk fun K4 hK4 => ?_
  refine a3q 0 [] ?_
  simp only [bs, Nat.reduceAdd, d9q, g7q, ↓vopx, ↓vop, Nat.reduceBEq, a1q, flat, Nat.reduceLT, V.cells, hl, wocs, ↓goc, ↓woc, ↓a2q, Tryz.st29, Tryz.sz29, hn2]
  refine hK4 _ _ ?_
  refine b1q ?_
  have hres : vCol (colS d) = pack [vObj ⟨[], []⟩, .t (tMat []), I 11] := by simp [colS, vCol, noOb, kb]; rfl
  rw [hres] at hQ
  refine hQ _ _ _ (.inr rfl) (q7z (vs := [.agg [.t (.v (.slice none 0 0)), .t (.v (.slice none 0 0))], .t (.v (.slice none 0 0)), I 11]) (vs' := [vObj ⟨[], []⟩, .t (tMat []), I 11]) ?_ rfl (f1z _ _) (by simp [pack, nm, nm2, nm1, nm0]) ?_)
  ·show vres Tryz.prog _ _ [.cell 2 29, .tmp 3, .tmp 4] = _
   simp only [j6q, n9q, m1q, a0q, a4q, Nat.reduceBEq, lpv, hl, hn2, Tryz.sz29, Tryz.ag29, a8q, b9q, b0q, if_true, Nat.reduceLT, List.drop_zero, List.take_succ_cons, List.take_zero, List.length_cons, List.length_nil, Nat.zero_add, Nat.reduceAdd]
   try rfl
  ·exact fun n x hn h => by rw [b9q, if_neg (by omega), hnk n hn]; exact h
 ·refine a3q 0 [.pur (Bo (bigD d))] ?_
  simp only [bs, Nat.reduceAdd, ↓vopx, ↓vop, Nat.reduceBEq, a1q, Nat.reduceLT, a8q, b0q, hl, wocs, ↓goc, ↓woc, ↓a2q, ↓b8q, a6q, Tryz.ag25, Tryz.sz25, hn62, kb]
  repeat ((with_reducible refine And.intro ?_ ?_); · exact ⟨Tryz.is18, by simpa only [kb] using bigD_ d L⟩)
  refine hK3 _ _ ?_
  refine vck fun A B hA hB => ?_
  simp only [b2q, a0q, lpv, Nat.reduceLT, true_implies, reduceCtorEq, false_implies, true_and, hl]
  refine hB ?_
  clear hA hB A B
  refine vsk fun K5 hK5 => ?_
  rcases (show diaS d = false ∨ diaS d = true by cases diaS d <;> simp) with kd | kd
  ·refine a3q 0 [.pur (Bo (diaS d))] ?_
   simp only [bs, Nat.reduceAdd, ↓vopx, ↓vop, Nat.reduceBEq, a1q, Nat.reduceLT, a8q, b0q, hl, wocs, ↓goc, ↓woc, ↓a2q, ↓b8q, a6q, Tryz.ag25, Tryz.sz25, hn62, kd]
   repeat ((with_reducible refine And.intro ?_ ?_); · exact ⟨Tryz.is14, by simpa only [kd] using d1z d L⟩)
   refine hK5 _ _ ?_
   refine vck fun A B hA hB => ?_
   simp only [b2q, a0q, lpv, Nat.reduceLT, true_implies, reduceCtorEq, false_implies, and_true, hl]
   refine hA ?_
   clear hA hB A B
   refine vsk fun K6 hK6 => ?_
   refine a3q 0 [] ?_
   simp only [bs, Nat.reduceAdd, d9q, g7q, ↓vopx, ↓vop, Nat.reduceBEq, a1q, flat, Nat.reduceLT, V.cells, hl, wocs, ↓goc, ↓woc, ↓a2q, Tryz.st29, Tryz.sz29, hn2]
   refine hK6 _ _ ?_
   refine b1q ?_
   have hres : vCol (colS d) = pack [vObj ⟨[], []⟩, .t (tMat []), I 10] := by simp [colS, vCol, noOb, kb, kd]; rfl
   rw [hres] at hQ
   refine hQ _ _ _ (.inr rfl) (q7z (vs := [.agg [.t (.v (.slice none 0 0)), .t (.v (.slice none 0 0))], .t (.v (.slice none 0 0)), I 10]) (vs' := [vObj ⟨[], []⟩, .t (tMat []), I 10]) ?_ rfl (f1z _ _) (by simp [pack, nm, nm2, nm1, nm0]) ?_)
   ·show vres Tryz.prog _ _ [.cell 2 29, .tmp 3, .tmp 4] = _
    simp only [j6q, n9q, m1q, a0q, a4q, Nat.reduceBEq, lpv, hl, hn2, Tryz.sz29, Tryz.ag29, a8q, b9q, b0q, if_true, Nat.reduceLT, List.drop_zero, List.take_succ_cons, List.take_zero, List.length_cons, List.length_nil, Nat.zero_add, Nat.reduceAdd]
    try rfl
   ·exact fun n x hn h => by rw [b9q, if_neg (by omega), hnk n hn]; exact h
  ·refine a3q 0 [.pur (Bo (diaS d))] ?_
   simp only [bs, Nat.reduceAdd, ↓vopx, ↓vop, Nat.reduceBEq, a1q, Nat.reduceLT, a8q, b0q, hl, wocs, ↓goc, ↓woc, ↓a2q, ↓b8q, a6q, Tryz.ag25, Tryz.sz25, hn62, kd]
   repeat ((with_reducible refine And.intro ?_ ?_); · exact ⟨Tryz.is14, by simpa only [kd] using d1z d L⟩)
   refine hK5 _ _ ?_
   refine vck fun A B hA hB => ?_
   simp only [b2q, a0q, lpv, Nat.reduceLT, true_implies, reduceCtorEq, false_implies, true_and, hl]
   refine hB ?_
   clear hA hB A B
   refine a9q ?_
   refine hK2 _ _ ?_
   refine vsk fun K7 hK7 => ?_
   have hD := x7q.1 kd
   have hBs : BsOK d.nodes := ⟨by have := hD.n; omega, hD.ob, hp2⟩
   have h40 : bsB d.nodes d.nodes.length ≤ 40 := c9j kb
   have hgl := hD.gl h40
   have hll := i7q d.nodes d.nodes.length (Nat.le_refl _)
   refine a3q 0 [.stop] ?_
   simp only [bs, Nat.reduceAdd, ↓vopx, ↓vop, Nat.reduceBEq, a1q, Nat.reduceLT, V.cells, a8q, b0q, hl, wocs, ↓goc, ↓woc, ↓a2q, ↓b8q, a6q, Tryz.ag22, Tryz.fd25_0, Tryz.sz22, nns, hn62]
   refine ⟨Tryz.is19, (w1x sN d.nodes hBs).mono fun v sU hv => ?_⟩
   obtain ⟨m, rfl, hum, hml, hmu, huk⟩ := hv
   try simp only [bs, Nat.reduceAdd, Nat.reduceBEq, Nat.reduceLT, hl, Tryz.sz29, Tryz.zv29, Hold]
   refine hK7 _ _ ?_
   refine vsk fun K8 hK8 => ?_
   refine p3q fun sV hSV => ?_
   have hv5 : sV.m sU.next = some (.box 29 [.t (d1q (bsS d.nodes).labels), .t (b3q (bsS d.nodes).pairs)]) := by rw [hSV, b9q, if_pos rfl]
   have hvs : ∀ j, j < sU.next → sV.m j = sU.m j := fun j hj => by rw [hSV, b9q, if_neg (by omega), b7q, if_neg (by omega)]
   have hvn : sV.next = sU.next + 1 := by rw [hSV]; rfl
   clear hSV
   have hvm : sV.m m = some (.arr 1 40 ((k2q d.nodes d.nodes.length).map c0q)) := by rw [hvs _ hmu]; exact hum
   have hv62 : sV.m s.next = some (.box 25 [.t (h1q d.nodes), .t (tArs d.arrs)]) := by rw [hvs _ (by omega), huk _ (by omega)]; exact hn62
   have hv2 : sV.m (s.next + 1) = some (.box 29 [.t (.v (.slice none 0 0)), .t (.v (.slice none 0 0))]) := by rw [hvs _ (by omega), huk _ (by omega)]; exact hn2
   have hvk : ∀ j, j < s.next → sV.m j = s.m j := fun j hj => by rw [hvs _ (by omega), huk _ (by omega)]; exact hnk j hj
   have hbl := h5z d.nodes
   refine a3q 0 [.stop] ?_
   simp only [bs, Nat.reduceAdd, ↓vopx, ↓vop, Nat.reduceBEq, a1q, Nat.reduceLT, a8q, b0q, hl, wocs, ↓goc, ↓woc, ↓a2q, ↓b8q, a6q, Tryz.ag26, Tryz.fd29_0, Tryz.sz26, Tryz.un26, c9q, nns, hv5, hbl]
   refine ⟨Tryz.is20, (unNew_ sV (bsB d.nodes d.nodes.length) (by omega)).mono fun v sW hv => ?_⟩
   obtain ⟨p, um, rfl, hpr, hup, hum2, hkw, hwn⟩ := hv
   try simp only [bs, Nat.reduceLT, hl, Hold]
   refine hK8 _ _ ?_
   refine vsk fun K9 hK9 => ?_
   refine vsk fun K10 hK10 => ?_
   have hw62 := hkw _ _ (by omega) hv62
   refine a3q 0 [] ?_
   simp only [bs, ↓vopx, ↓vop, Nat.reduceBEq, a1q, flat, Nat.reduceLT, a8q, b0q, hl, wocs, ↓goc, ↓woc, ↓a2q, Tryz.ag23, Tryz.fd25_1, Tryz.sz23, Tryz.un23, i0q, nns, hw62]
   refine hK10 _ _ ?_
   refine a5q ?_
   refine c2q (fun mm e' s' => ∃ k : Nat, mm = d.arrs.length - k ∧ k ≤ d.arrs.length ∧ e'.length = 95 ∧ ev e' (.tmp 1) = .ptr s.next 0 ∧ ev e' (.tmp 2) = .ptr (s.next + 1) 0 ∧ ev e' (.tmp 5) = .ptr sU.next 0 ∧ ev e' (.tmp 6) = .loc m 0 d.nodes.length ∧ ev e' (.tmp 7) = .ptr p 0 ∧ ev e' (.tmp 35) = .t (tArs d.arrs) ∧ ev e' (.tmp 36) = I d.arrs.length ∧ ev e' (.tmp 37) = I k ∧ True ∧ CoI s sV d m p um (colF d k).length s') (⟨0, rfl, Nat.zero_le _, ?_⟩) ?_
   ·try simp only [a0q, a4q, Nat.reduceBEq, lpv, hl, Nat.reduceLT, true_and]
    repeat ((with_reducible refine And.intro ?_ ?_); · trivial)
    exact ⟨hpr, hkw, hwn⟩
   rintro mm e s1 ⟨k, rfl, hle_k, hl, k1, k2, k5, k6, k7, k35, k36, h_k, hst, hC⟩
   refine vsk fun K11 hK11 => ?_
   refine a3q 0 [] ?_
   simp only [a1q, opII, k36, h_k, wocs, ↓goc, ↓woc]
   refine hK11 _ _ ?_
   refine vsk fun K12 hK12 => ?_
   refine vck fun A B hA hB => ?_
   simp only [b2q, a0q, Nat.reduceLT, decide_eq_true_eq, decide_eq_false_iff_not, hl]
   refine ⟨fun hc38 => hA ?_, fun hc38 => hB ?_⟩
   ·clear hA hB A B
    refine a9q ?_
    refine hK12 _ _ ?_
    refine vsk fun K13 hK13 => ?_
    refine a5q ?_
    refine vsk fun K14 hK14 => ?_
    have hlt : k < d.arrs.length := by omega
    obtain ⟨x, hx⟩ : ∃ x, d.arrs[k]? = some x := ⟨_, List.getElem?_eq_getElem hlt⟩
    have g0 := g8x hx
    have hfl := i6q d.arrs
    have hi2 : k * 3 < d.arrs.length * 3 := by omega
    obtain ⟨a, b, f0, hA, t0, hB, hab⟩ := hD.ar x (List.mem_of_getElem? hx)
    have hmp := f5q (f4q.1 hab).2.2.1
    have ha40 := (f4q.1 hab).1.le
    refine a3q 0 [] ?_
    simp only [bs, Nat.reduceAdd, ↓vopx, ↓vop, Nat.reduceBEq, a1q, Nat.reduceLT, V.cells, a8q, b0q, hl, k35, h_k, wocs, ↓goc, ↓woc, ↓a2q, Tryz.ag49, Tryz.sz49, Tryz.un23, Tryz.zv49, g0, hfl, hi2]
    refine hK14 _ _ ?_
    refine vsk fun K15 hK15 => ?_
    refine d4q fun e2 s9_ hE2 hSb => ?_
    subst hE2
    have hbx : s9_.m s1.next = some (.box 49 [.t (TI x.fr), .t (TI x.to), .t (c0q x.mp)]) := by rw [hSb]; simp only [b9q, if_true]; try rfl
    have hC9 : CoI s sV d m p um (colF d k).length s9_ := by rw [hSb]; exact hC.step (((Keep.refl _).add (Nat.le_refl _) _).set (Nat.le_refl _) _) (by simp only [h9q, c6q]; omega)
    have hb9 : s1.next < s9_.next := by rw [hSb]; simp only [h9q, c6q]; omega
    have hv9 : sV.next ≤ s1.next := hC.nx
    have hu9 : um < s1.next := hC.pr.elim fun l h => h.1.lm
    clear hSb
    obtain ⟨n9, hn9⟩ : ∃ n, n = s1.next := ⟨_, rfl⟩
    rw [← hn9] at hbx hb9 hv9 hu9
    refine a3q 0 [] ?_
    simp only [bs, ↓vopx, ↓vop, a1q, flat, Nat.reduceLT, a8q, b0q, hl, wocs, ↓goc, ↓woc, ↓a2q, Tryz.ag40, Tryz.fd49_2, Tryz.sz40, Tryz.un40, e2q, nns, hbx, ← hn9]
    refine hK15 _ _ ?_
    refine a5q ?_
    refine c2q (fun mm e' s' => ∃ i : Nat, mm = x.mp.length - i ∧ i ≤ x.mp.length ∧ e'.length = 95 ∧ ev e' (.tmp 1) = .ptr s.next 0 ∧ ev e' (.tmp 2) = .ptr (s.next + 1) 0 ∧ ev e' (.tmp 5) = .ptr sU.next 0 ∧ ev e' (.tmp 6) = .loc m 0 d.nodes.length ∧ ev e' (.tmp 7) = .ptr p 0 ∧ ev e' (.tmp 35) = .t (tArs d.arrs) ∧ ev e' (.tmp 36) = I d.arrs.length ∧ ev e' (.tmp 9) = .ptr n9 0 ∧ ev e' (.tmp 37) = I k ∧ ev e' (.tmp 42) = .t (c0q x.mp) ∧ ev e' (.tmp 43) = I x.mp.length ∧ ev e' (.tmp 44) = I i ∧ True ∧ CoI s sV d m p um ((colF d k).length + i) s' ∧ s'.m n9 = some (.box 49 [.t (TI x.fr), .t (TI x.to), .t (c0q x.mp)]) ∧ n9 < s'.next) (⟨0, rfl, Nat.zero_le _, ?_⟩) ?_
    ·try simp only [a0q, a4q, Nat.reduceBEq, lpv, hl, k1, k2, k5, k6, k7, k35, k36, h_k, Nat.reduceLT, true_and]
     repeat ((with_reducible refine And.intro ?_ ?_); · trivial)
     exact hb9
    rintro mm e s1 ⟨i, rfl, hle_i, hl, q1, q2, q5, q6, q7, q35, q36, q9, q37, q42, q43, h_i, hst, ⟨hC3, hb3, hn3⟩⟩
    refine vsk fun K16 hK16 => ?_
    refine a3q 0 [] ?_
    simp only [a1q, opII, q43, h_i, wocs, ↓goc, ↓woc]
    refine hK16 _ _ ?_
    refine vsk fun K17 hK17 => ?_
    refine vck fun A B hA hB => ?_
    simp only [b2q, a0q, Nat.reduceLT, decide_eq_true_eq, decide_eq_false_iff_not, hl]
    refine ⟨fun hc45 => hA ?_, fun hc45 => hB ?_⟩
    ·clear hA hB A B
     refine a9q ?_
     refine hK17 _ _ ?_
     refine vsk fun K18 hK18 => ?_
     refine a5q ?_
     refine vsk fun K19 hK19 => ?_
     obtain ⟨w, hw⟩ : ∃ w, x.mp[i]? = some w := ⟨_, List.getElem?_eq_getElem (by omega)⟩
     refine a3q 0 [] ?_
     simp only [bs, ↓vopx, ↓vop, Nat.reduceBEq, a1q, Nat.reduceLT, a8q, b0q, hl, q42, h_i, wocs, ↓goc, ↓woc, ↓a2q, Tryz.ag3, Tryz.sz3, Tryz.un40, hw]
     repeat ((with_reducible refine And.intro ?_ ?_); · omega)
     refine hK19 _ _ ?_
     have hlA := (List.getElem?_eq_some_iff.1 hA).1
     have hlB := (List.getElem?_eq_some_iff.1 hB).1
     have hm3 := hC3.keep _ _ (by omega) hvm
     have hcp := z5z hx hw
     have bw := t1q (f4q.1 hab).2.2.1 w (List.mem_of_getElem? hw)
     have g1 := i7z d.nodes.length (Nat.le_refl _) hlA hA
     have g2 := i7z d.nodes.length (Nat.le_refl _) hlB hB
     have g3 : (legT a.labels.length (bsB d.nodes x.fr.toNat))[i]? = _ := t0q (by omega)
     have g4 : (legT b.labels.length (bsB d.nodes x.to.toNat))[w.toNat]? = _ := t0q (by omega)
     have l1 := p9q a.labels.length (bsB d.nodes x.fr.toNat)
     have l2 := p9q b.labels.length (bsB d.nodes x.to.toNat)
     have bA := x2q hA hlA
     have bB := x2q hB hlB
     have hRl := (w4q _ (colF d d.arrs.length) (colG d d.arrs.length) hgl.bF hgl.bG ((colF d k).length + i) (by have := (List.getElem?_eq_some_iff.1 hcp.1).1; omega) (by have := (List.getElem?_eq_some_iff.1 hcp.2).1; omega)).2
     rw [h5z] at hRl
     refine c5q Tryz.mixed 17 [0, 0, 0, 1, 1, 1, 0, 1, 1, 0, 0, 1, 1, 1, 0, 1, 1] [] [.stop] 0 (by decide +kernel) (by simp [lpv, hl]) rfl ?_
     simp only [bs, Nat.reduceAdd, ↓vopx, ↓vop, Nat.reduceBEq, a1q, b5q, Nat.reduceLT, a8q, b0q, hl, q6, q7, q9, wocs, ↓goc, ↓woc, ↓e3q, ↓b8q, a6q, chn, ↓goq, ↓woq, List.zip_cons_cons, List.zip_nil_right, Tryz.ag40, Tryz.ag3, Tryz.fd49_0, Tryz.fd49_1, Tryz.sz40, Tryz.sz3, Tryz.un40, Tryz.un30, nns, hb3, hm3, g1, g2, g3, g4, l1, l2, Int.toNat_natCast]
     repeat (refine And.intro (by omega) ?_)
     refine ⟨Tryz.is21, (unJoin_ s1 p um _ hC3.pr (bsB d.nodes x.fr.toNat + i) (bsB d.nodes x.to.toNat + w.toNat) (by omega) (by omega)).mono fun v s2 hv => ?_⟩
     obtain ⟨⟨bb, rfl⟩, hj2, hbt⟩ := hv
     try simp only [bs, Nat.reduceBEq, Nat.reduceLT, hl, q6, q7, Hold]
     refine hK18 _ _ ?_
     refine a3q 0 [] ?_
     simp only [bs, ↓vopx, ↓vop, Nat.reduceBEq, a1q, flat, Nat.reduceLT, opII, hl, q1, q2, q5, q6, q7, q35, q36, q9, q37, q42, q43, h_i, wocs, ↓goc, ↓woc, ↓a2q]
     repeat ((with_reducible refine And.intro ?_ ?_); · exact ⟨by omega, by omega⟩)
     refine ⟨x.mp.length - (i + 1), by omega, i + 1, rfl, by omega, ?_⟩
     try simp only [a0q, a4q, Nat.reduceBEq, lpv, hl, q1, q2, q5, q6, q7, q35, q36, q9, q37, q42, q43, h_i, if_true, if_false, Nat.reduceEqDiff, Nat.reduceLT, true_and, and_true]
     repeat ((with_reducible refine And.intro ?_ ?_); · trivial)
     refine ⟨⟨?_, hbt.keep hum2 hC3.keep hC3.nx, Nat.le_trans hC3.nx hbt.2⟩, ?_, by have := hbt.2; omega⟩
     ·rw [show (colF d k).length + (i + 1) = (colF d k).length + i + 1 from rfl, o8q hcp.1 hcp.2, Int.toNat_natCast, show (((bsB d.nodes x.to.toNat : Nat) : Int) + w).toNat = bsB d.nodes x.to.toNat + w.toNat by omega]; exact hj2
     ·rw [hbt.1 _ hn3 (by omega)]; exact hb3
    ·clear hA hB A B
     have hie : i = x.mp.length := by omega
     refine c1q ?_
     simp only [a1q, b5q, if_true, if_false, Nat.reduceEqDiff]
     refine hK13 _ _ ?_
     refine a3q 0 [] ?_
     simp only [bs, ↓vopx, ↓vop, Nat.reduceBEq, a1q, flat, Nat.reduceLT, opII, hl, q1, q2, q5, q6, q7, q35, q36, q37, wocs, ↓goc, ↓woc, ↓a2q]
     repeat ((with_reducible refine And.intro ?_ ?_); · exact ⟨by omega, by omega⟩)
     refine ⟨d.arrs.length - (k + 1), by omega, k + 1, rfl, by omega, ?_⟩
     try simp only [a0q, a4q, Nat.reduceBEq, lpv, hl, k1, k2, k5, k6, k7, k35, k36, h_k, if_true, if_false, Nat.reduceEqDiff, Nat.reduceLT, true_and, and_true]
     repeat ((with_reducible refine And.intro ?_ ?_); · trivial)
     rw [r2q hx, List.length_append, p9q, ← hie]; exact hC3
   ·clear hA hB A B
    have hka : k = d.arrs.length := by omega
    refine c1q ?_
    simp only [a1q, b5q, if_true]
    refine hK9 _ _ ?_
    refine vsk fun K20 hK20 => ?_
    have h5_ := hC.keep _ _ (by omega) hv5
    have hpl : ∀ q, q = d.arrs.length → c3q (j0q (e8q (bsB d.nodes d.nodes.length)) (colF d d.arrs.length) (colG d d.arrs.length) (colF d q).length) = (i8q d) := fun q hq => by subst hq; rfl
    have hRl := hgl.rep.2
    refine a3q 0 [.stop] ?_
    simp only [bs, Nat.reduceAdd, ↓vopx, ↓vop, Nat.reduceBEq, a1q, Nat.reduceLT, V.cells, a8q, b0q, hl, k5, k7, wocs, ↓goc, ↓woc, ↓a2q, ↓b8q, a6q, Tryz.ag29, Tryz.sz29, h5_]
    refine ⟨Tryz.is22, (folded_ s1 p um _ hC.pr (bsS d.nodes) hgl.ob (by have := c8j hBs; omega) (by rw [hka]; exact hRl)).mono fun v s8 hv => ?_⟩
    rw [hpl k hka] at hv
    obtain ⟨rfl, h8k, h8n⟩ := hv
    try simp only [bs, Nat.reduceAdd, Nat.reduceBEq, Nat.reduceLT, hl, k7, Tryz.sz29, Tryz.zv29, Hold]
    refine hK20 _ _ ?_
    refine vsk fun K21 hK21 => ?_
    refine vsk fun K22 hK22 => ?_
    refine p3q fun sX hSX => ?_
    have hx12 : sX.m s8.next = some (.box 29 [.t (d1q (l1q (bsS d.nodes) (i8q d)).labels), .t (b3q (l1q (bsS d.nodes) (i8q d)).pairs)]) := by rw [hSX, b9q, if_pos rfl]
    have hxs : ∀ j, j < s8.next → sX.m j = s8.m j := fun j hj => by rw [hSX, b9q, if_neg (by omega), b7q, if_neg (by omega)]
    clear hSX
    have hnV := hC.nx
    have hxm : sX.m m = some (.arr 1 40 ((mixL d (i8q d) 0).map c0q)) := by rw [p2x, hxs _ (by omega)]; exact h8k _ _ (by omega) (by omega) (hC.keep _ _ (by omega) hvm)
    have hx2 : sX.m (s.next + 1) = some (.box 29 [.t (.v (.slice none 0 0)), .t (.v (.slice none 0 0))]) := by rw [hxs _ (by omega)]; exact h8k _ _ (by omega) (by omega) (hC.keep _ _ (by omega) hv2)
    have hxk : ∀ j c, j < s.next → s.m j = some c → sX.m j = some c := fun j c hj hc => by rw [hxs _ (by omega)]; exact h8k _ _ (by omega) (by omega) (hC.keep _ _ (by omega) (by rw [hvk j hj]; exact hc))
    have hpll : ((i8q d)).length = bsB d.nodes d.nodes.length := hgl.len
    refine a3q 0 [] ?_
    simp only [bs, ↓vopx, ↓vop, Nat.reduceBEq, a1q, flat, Nat.reduceLT, hl, k6, wocs, ↓goc, ↓woc, ↓a2q]
    refine hK22 _ _ ?_
    refine a5q ?_
    refine c2q (fun mm e' s' => ∃ i5 : Nat, mm = d.nodes.length - i5 ∧ i5 ≤ d.nodes.length ∧ e'.length = 95 ∧ ev e' (.tmp 2) = .ptr (s.next + 1) 0 ∧ ev e' (.tmp 6) = .loc m 0 d.nodes.length ∧ ev e' (.tmp 12) = .ptr s8.next 0 ∧ ev e' (.tmp 13) = .t (c0q (i8q d)) ∧ ev e' (.tmp 76) = I d.nodes.length ∧ ev e' (.tmp 77) = I i5 ∧ True ∧ s'.m m = some (.arr 1 40 ((mixL d (i8q d) i5).map c0q)) ∧ (∀ j, j ≠ m → s'.m j = sX.m j) ∧ s'.next = sX.next) (⟨0, rfl, Nat.zero_le _, ?_⟩) ?_
    ·try simp only [a0q, a4q, Nat.reduceBEq, lpv, hl, k2, k6, Nat.reduceLT, true_and, and_true]
     repeat ((with_reducible refine And.intro ?_ ?_); · trivial)
     exact fun _ _ => trivial
    rintro mm e s1 ⟨i5, rfl, hle_i5, hl, z2, z6, z12, z13, z76, h_i5, hst, ⟨hm5, hs5, hn5⟩⟩
    refine vsk fun K23 hK23 => ?_
    refine a3q 0 [] ?_
    simp only [a1q, opII, z76, h_i5, wocs, ↓goc, ↓woc]
    refine hK23 _ _ ?_
    refine vsk fun K24 hK24 => ?_
    refine vck fun A B hA hB => ?_
    simp only [b2q, a0q, Nat.reduceLT, decide_eq_true_eq, decide_eq_false_iff_not, hl]
    refine ⟨fun hc78 => hA ?_, fun hc78 => hB ?_⟩
    ·clear hA hB A B
     refine a9q ?_
     refine hK24 _ _ ?_
     refine vsk fun K25 hK25 => ?_
     refine a5q ?_
     refine vsk fun K26 hK26 => ?_
     refine a3q 0 [] ?_
     simp only [bs, ↓vopx, ↓vop, Nat.reduceBEq, a1q, Nat.reduceLT, hl, h_i5, wocs, ↓goc, ↓woc, ↓a2q]
     refine hK26 _ _ ?_
     have hlt : i5 < d.nodes.length := by omega
     obtain ⟨o, ho⟩ : ∃ o, d.nodes[i5]? = some o := ⟨_, List.getElem?_eq_getElem hlt⟩
     have g5 := i7z d.nodes.length (Nat.le_refl _) hlt ho
     have g6 := mixL_at (pl := (i8q d)) g5
     have hml5 := d7x d (i8q d) i5
     have l5 := p9q o.labels.length (bsB d.nodes i5)
     have o40 := (hD.ob o (List.mem_of_getElem? ho)).le
     refine a3q 0 [.pur (.tup [.t (c0q (thenS (legT o.labels.length (bsB d.nodes i5)) (i8q d)).1), Bo (thenS (legT o.labels.length (bsB d.nodes i5)) (i8q d)).2])] ?_
     simp only [bs, ↓vopx, ↓vop, Nat.reduceBEq, a1q, b5q, Nat.reduceLT, V.cells, a8q, b0q, Sg.frzL, Sg.frz1, hl, z6, z13, wocs, ↓goc, ↓woc, ↓a2q, ↓b8q, a6q, Tryz.ag40, Tryz.sz40, Tryz.un30, hm5, g6, hml5]
     repeat ((with_reducible refine And.intro ?_ ?_); · first | (with_reducible assumption) | omega | exact ⟨Tryz.is23, then_ _ _ (by omega) (by omega)⟩)
     refine hK25 _ _ ?_
     refine a3q 0 [] ?_
     simp only [bs, ↓vopx, ↓vop, Nat.reduceBEq, a1q, flat, Nat.reduceLT, opII, hl, z2, z6, z12, z13, z76, h_i5, wocs, ↓goc, ↓woc, ↓a2q]
     repeat ((with_reducible refine And.intro ?_ ?_); · exact ⟨by omega, by omega⟩)
     refine ⟨d.nodes.length - (i5 + 1), by omega, i5 + 1, rfl, by omega, ?_⟩
     try simp only [a0q, a4q, Nat.reduceBEq, lpv, hl, z2, z6, z12, z13, z76, h_i5, if_true, if_false, Nat.reduceEqDiff, Nat.reduceLT, true_and, and_true]
     repeat ((with_reducible refine And.intro ?_ ?_); · trivial)
     rw [i7x (by omega), y8x g5]
     exact ⟨rfl, fun j hj => by rw [if_neg hj]; exact hs5 j hj, hn5⟩
    ·clear hA hB A B
     have hi5 : i5 = d.nodes.length := by omega
     refine c1q ?_
     simp only [a1q, b5q, if_true]
     refine hK21 _ _ ?_
     refine vsk fun K27 hK27 => ?_
     have hml5 := d7x d (i8q d) i5
     refine VW.freeze 6 (n := m) (len := d.nodes.length) (k := 1) (el := 40) (cs := (mixL d (i8q d) i5).map c0q) ?_ ?_ (by simp [hml5]) ?_
     ·simp only [a4q, Nat.reduceBEq, z6]
     ·exact hm5
     have z9 : ¬ s8.next = m := by omega
     have h12 : s1.m s8.next = _ := (hs5 _ z9).trans hx12
     have h2_ : s1.m (s.next + 1) = _ := (hs5 _ (by omega)).trans hx2
     have z8 : ¬ s.next + 1 = m := by omega
     refine a3q 0 [] ?_
     simp only [bs, Nat.reduceAdd, ↓vopx, ↓vop, Nat.reduceBEq, a1q, flat, Nat.reduceLT, V.cells, a8q, b0q, hl, z2, z12, wocs, ↓goc, ↓woc, ↓a2q, Tryz.ag29, Tryz.sz29, h12, h2_, z8, z9]
     refine hK27 _ _ ?_
     refine b1q ?_
     have hres : vCol (colS d) = pack [vObj (l1q (bsS d.nodes) (i8q d)), .t (tMat (mixL d (i8q d) i5)), I 0] := by rw [hi5, y7x]; simp [colS, vCol, d2q, kb, kd]; rfl
     rw [hres] at hQ
     refine hQ _ _ _ (.inr rfl) ?_
     refine u8q (vs := [vObj (l1q (bsS d.nodes) (i8q d)), .t (tMat (mixL d (i8q d) i5)), I 0]) ?_ rfl (by simp [pack, nm, nm2, nm1, nm0]) (fun n x hn h => by rw [b9q, if_neg (by omega), e4q, if_neg (by omega), hs5 _ (by omega)]; exact hxk n x hn h)
     show vres Tryz.prog _ _ [.cell 2 29, .tmp 3, .tmp 4] = _
     simp only [j6q, n9q, m1q, a0q, a4q, Nat.reduceBEq, lpv, hl, z2, Tryz.sz29, Tryz.ag29, a8q, b9q, b0q, if_true, Nat.reduceLT, List.drop_zero, List.take_succ_cons, List.take_zero, List.length_cons, List.length_nil, Nat.zero_add, Nat.reduceAdd]
end Go.Proofs

open Go Go.V
namespace Go.Proofs
theorem fAtL {l : List (List Int)} {k : Nat} {g : List Int} (h : l[k]? = some g) : l.getD k [] = g := by rw [List.getD_eq_getElem?_getD, h]; rfl
theorem fAtO {l : List Ob} {k : Nat} {g : Ob} (h : l[k]? = some g) : l.getD k noOb = g := by rw [List.getD_eq_getElem?_getD, h]; rfl
theorem lg_d {d : Dia} {t : Ob} {ls : List (List Int)} (h : diaS d = false) : h7q d t ls = false := by simp [h7q, h]
theorem lg_t {d : Dia} {t : Ob} {ls : List (List Int)} (h : (c4q t == 0) = false) : h7q d t ls = false := by
 unfold h7q; rw [h]; simp
theorem lg_n {d : Dia} {t : Ob} {ls : List (List Int)} (h : ¬ (ls.length : Int) = d.nodes.length) : h7q d t ls = false := by
 have : ¬ ls.length = d.nodes.length := by omega
 simp [h7q, this]
theorem lg_o {d : Dia} {t : Ob} {ls : List (List Int)} {k : Nat} {o : Ob} {g : List Int} (h1 : d.nodes[k]? = some o) (h2 : ls[k]? = some g) (h : arrS o t g = false) : h7q d t ls = false := by
 have : ((List.range d.nodes.length).all fun k => arrS (d.nodes.getD k noOb) t (ls.getD k [])) = false :=
  List.all_eq_false.2 ⟨k, List.mem_range.2 (List.getElem?_eq_some_iff.1 h1).1, by rw [fAtO h1, fAtL h2, h]; decide⟩
 unfold h7q; rw [this]; simp
theorem lg_a {d : Dia} {t : Ob} {ls : List (List Int)} {k : Nat} {x : Ar} (h1 : d.arrs[k]? = some x) (h : alS d ls x = false) : h7q d t ls = false := by
 have : (d.arrs.all (alS d ls)) = false := List.all_eq_false.2 ⟨x, List.mem_of_getElem? h1, by rw [h]; decide⟩
 simp [h7q, this]
theorem lg_ok {d : Dia} {t : Ob} {ls : List (List Int)} (h1 : diaS d = true) (h2 : (c4q t == 0) = true) (h3 : (ls.length : Int) = d.nodes.length) (h4 : ∀ (j : Nat) (o : Ob) (g : List Int), j < d.nodes.length → d.nodes[j]? = some o → ls[j]? = some g → arrS o t g = true) (h5 : ∀ (j : Nat) (x : Ar), j < d.arrs.length → d.arrs[j]? = some x → alS d ls x = true) : h7q d t ls = true := by
 have h3' : ls.length = d.nodes.length := by omega
 simp only [h7q, h1, h2, h3', decide_true, Bool.true_and, Bool.and_eq_true, List.all_eq_true, List.mem_range]
 refine ⟨fun k hk => ?_, fun x hx => ?_⟩
 ·obtain ⟨o, ho⟩ : ∃ o, d.nodes[k]? = some o := ⟨_, List.getElem?_eq_getElem hk⟩
  obtain ⟨g, hg⟩ : ∃ g, ls[k]? = some g := ⟨_, List.getElem?_eq_getElem (by omega)⟩
  rw [fAtO ho, fAtL hg]; exact h4 k o g hk ho hg
 ·obtain ⟨j, hj⟩ := List.getElem?_of_mem hx
  exact h5 j x (List.getElem?_eq_some_iff.1 hj).1 hj
theorem z3q {d : Dia} {t : Ob} {ls : List (List Int)} : h7q d t ls = true ↔ DiaOK d ∧ IsOb t ∧ ls.length = d.nodes.length ∧ (∀ (k : Nat) (o : Ob), d.nodes[k]? = some o → ∃ g, ls[k]? = some g ∧ arrS o t g = true) ∧
 ∀ x ∈ d.arrs, ∃ gf gt, ls[x.fr.toNat]? = some gf ∧ ls[x.to.toNat]? = some gt ∧ thenS x.mp gt = (gf, true) := by
 constructor
 ·intro h
  simp only [h7q, Bool.and_eq_true, x7q, h7z, decide_eq_true_eq, List.all_eq_true, List.mem_range] at h
  obtain ⟨h1, h2, h3, h4, h5⟩ := h
  refine ⟨h1, h2, h3, fun k o ho => ?_, fun x hx => ?_⟩
  ·have hk := (List.getElem?_eq_some_iff.1 ho).1
   obtain ⟨g, hg⟩ : ∃ g, ls[k]? = some g := ⟨_, List.getElem?_eq_getElem (by omega)⟩
   have := h4 k hk
   rw [fAtO ho, fAtL hg] at this
   exact ⟨g, hg, this⟩
  ·obtain ⟨a, b, f0, hA, t0, hB, _⟩ := h1.ar x hx
   have hlA := (List.getElem?_eq_some_iff.1 hA).1
   have hlB := (List.getElem?_eq_some_iff.1 hB).1
   obtain ⟨gf, hgf⟩ : ∃ g, ls[x.fr.toNat]? = some g := ⟨_, List.getElem?_eq_getElem (by omega)⟩
   obtain ⟨gt, hgt⟩ : ∃ g, ls[x.to.toNat]? = some g := ⟨_, List.getElem?_eq_getElem (by omega)⟩
   have := h5 x hx
   simp only [alS, fAtL hgf, fAtL hgt, Bool.and_eq_true, beq_iff_eq] at this
   exact ⟨gf, gt, hgf, hgt, Prod.ext this.2 this.1⟩
 ·rintro ⟨h1, h2, h3, h4, h5⟩
  refine lg_ok (x7q.2 h1) (h7z.2 h2) (by omega) (fun j o g _ ho hg => ?_) fun j x _ hx => ?_
  ·obtain ⟨g', hg', ha⟩ := h4 j o ho
   rw [hg] at hg'; cases hg'; exact ha
  ·obtain ⟨gf, gt, hgf, hgt, ht⟩ := h5 x (List.mem_of_getElem? hx)
   unfold alS; rw [fAtL hgf, fAtL hgt, ht]; simp
theorem w6x {d : Dia} (h : bigD d = false) : bsB d.nodes d.nodes.length ≤ 40 := by
 simp only [bigD, Bool.or_eq_false_iff, t7q, decide_eq_false_iff_not, c1x _ _ (Nat.le_refl _)] at h
 omega
abbrev j4q (d : Dia) : Ob := l1q (bsS d.nodes) (i8q d)
theorem z1q (d : Dia) : (∃ e : Int, e ≠ 0 ∧ colS d = (noOb, [], e)) ∨ (colS d = (j4q d, d2q d, 0) ∧ DiaOK d ∧ bsB d.nodes d.nodes.length ≤ 40) := by
 unfold colS
 by_cases h1 : bigD d = true
 ·rw [if_pos h1]; exact .inl ⟨11, by decide, rfl⟩
 ·rw [if_neg h1]
  by_cases h2 : diaS d = false
  ·rw [if_pos h2]; exact .inl ⟨10, by decide, rfl⟩
  ·rw [if_neg h2]
   exact .inr ⟨rfl, x7q.1 (by simpa using h2), w6x (by simpa using h1)⟩
theorem inc_arr {l : List Ob} (hI : ∀ o ∈ l, IsOb o) (hl : bsB l l.length ≤ 40) {k : Nat} {o : Ob} (ho : l[k]? = some o) : arrS o (bsS l) (legT o.labels.length (bsB l k)) = true := by
 have hk := (List.getElem?_eq_some_iff.1 ho).1
 have e1 := x2q ho hk
 refine c6x (hI o (List.mem_of_getElem? ho)) (bs_ob hI hl _ (Nat.le_refl _)) (p9q _ _) (fun i y la hy hla => ?_) fun x y hm => ?_
 ·have hi := (List.getElem?_eq_some_iff.1 hla).1
  rw [t0q hi] at hy; cases hy
  have := o3x ho hk hla
  refine ⟨la, ⟨by omega, ?_⟩, by rw [Int.toNat_natCast]; exact this, rfl⟩
  rw [h5z]; omega
 ·obtain ⟨b1, b2⟩ := (hI o (List.mem_of_getElem? ho)).within _ _ hm
  exact ⟨_, _, t0q b1, t0q b2, (bs_mx hI _ (Nat.le_refl _) _ _).2 ⟨k, o, x, y, hk, ho, rfl, rfl, hm⟩⟩
section
variable {d : Dia}
theorem DiaOK.legArr (h : DiaOK d) (hl : bsB d.nodes d.nodes.length ≤ 40) {k : Nat} {o : Ob} (ho : d.nodes[k]? = some o) : ∃ g, (d2q d)[k]? = some g ∧ arrS o (j4q d) g = true := by
 obtain ⟨g, g1, g2, g3, g4⟩ := h.leg hl ho
 refine ⟨g, g1, ?_⟩
 have hpa : arrS (bsS d.nodes) (j4q d) (i8q d) = true := (h.gl hl).arr
 have hinc := inc_arr h.ob hl ho
 have hc := b9j hinc hpa
 have hpl : (i8q d).length = bsB d.nodes d.nodes.length := (h.gl hl).len
 have ht := s9z (f := legT o.labels.length (bsB d.nodes k)) (g := i8q d) (fun y hy => by have := t1q (f4q.1 hinc).2.2.1 y hy; rw [h5z] at this; omega)
 rw [ht] at g3
 rw [(Prod.mk.inj g3).1] at hc
 exact hc
theorem DiaOK.legs (h : DiaOK d) (hl : bsB d.nodes d.nodes.length ≤ 40) : h7q d (j4q d) (d2q d) = true := by
 have hg := h.gl hl
 refine z3q.2 ⟨h, (f4q.1 hg.arr).2.1, h5q, fun k o ho => h.legArr hl ho, fun x hx => ?_⟩
 obtain ⟨a, b, f0, hA, t0, hB, ha⟩ := h.ar x hx
 obtain ⟨gf, f1, f2, _, f4⟩ := h.leg hl hA
 obtain ⟨gt, t1, t2, _, t4⟩ := h.leg hl hB
 have mm := (f4q.1 ha).2.2.1
 have ml := f5q mm
 refine ⟨gf, gt, f1, t1, ?_⟩
 rw [s9z fun y hy => by have := t1q mm y hy; omega]
 congr 1
 apply List.ext_getElem?
 intro i
 rw [List.getElem?_map]
 by_cases hi : i < x.mp.length
 ·obtain ⟨w, hw⟩ : ∃ w, x.mp[i]? = some w := ⟨_, List.getElem?_eq_getElem hi⟩
  have bw := t1q mm w (List.mem_of_getElem? hw)
  obtain ⟨j, j1, j2⟩ := col_at d hx hw
  have he : (i8q d)[_]? = (i8q d)[_]? := hg.eq j1 j2
  rw [Int.toNat_natCast, show (((bsB d.nodes x.to.toNat : Nat) : Int) + w).toNat = bsB d.nodes x.to.toNat + w.toNat by omega, ← f4 i (by omega), ← t4 w.toNat (by omega)] at he
  rw [hw, he, Option.map_some, List.getD_eq_getElem?_getD, List.getElem?_eq_getElem (show w.toNat < gt.length by omega)]; rfl
 ·rw [List.getElem?_eq_none (by omega), List.getElem?_eq_none (by omega)]; rfl
end
end Go.Proofs

open Go Go.V
namespace Go.Proofs
structure DjI (s : Sg) (d : Dia) (t : Ob) (s' : Sg) : Prop where
 b : s'.m s.next = some (.box 25 [.t (h1q d.nodes), .t (tArs d.arrs)])
 c : s'.m (s.next + 1) = some (.box 29 [.t (d1q t.labels), .t (b3q t.pairs)])
 same : ∀ j, j < s.next → s'.m j = s.m j
 nx : s.next + 1 < s'.next
theorem DjI.init (s : Sg) (d : Dia) (t : Ob) : DjI s d t ((s.add (.box 25 [.t (h1q d.nodes), .t (tArs d.arrs)])).add (.box 29 [.t (d1q t.labels), .t (b3q t.pairs)])) :=
 ⟨by rw [b7q, if_neg (by simp only [c6q]; omega), b7q, if_pos rfl], by rw [b7q, if_pos (by simp only [c6q])], fun j hj => by rw [b7q, if_neg (by simp only [c6q]; omega), b7q, if_neg (by omega)], by simp only [c6q]; omega⟩
theorem DjI.add {s : Sg} {d : Dia} {t : Ob} {s' : Sg} (h : DjI s d t s') (B : Blk) : DjI s d t (s'.add B) :=
 ⟨by rw [b7q, if_neg (by have := h.nx; omega)]; exact h.b, by rw [b7q, if_neg (by have := h.nx; omega)]; exact h.c, fun j hj => by rw [b7q, if_neg (by have := h.nx; omega)]; exact h.same j hj, by rw [c6q]; have := h.nx; omega⟩
theorem DjI.set {s : Sg} {d : Dia} {t : Ob} {s' : Sg} (h : DjI s d t s') {x : Nat} (hx : s.next + 1 < x) (B : Blk) : DjI s d t (s'.set x B) :=
 ⟨by rw [b9q, if_neg (by omega)]; exact h.b, by rw [b9q, if_neg (by omega)]; exact h.c, fun j hj => by rw [b9q, if_neg (by omega)]; exact h.same j hj, h.nx⟩
theorem x9x {d : Dia} (h : DiaOK d) (hl : bsB d.nodes d.nodes.length ≤ 40) : IsOb (j4q d) := (f4q.1 (h.gl hl).arr).2.1
theorem out_cl {d : Dia} (h : DiaOK d) (hl : bsB d.nodes d.nodes.length ≤ 40) {ls : List (List Int)} (hn : ls.length = d.nodes.length) : f7q Tryz.prog 29 [I (j4q d).labels.length, .t (tMat (d2q d)), .t (tMat ls)] (.t (c0q (outS (j4q d).labels.length (d2q d) ls))) := by
 have h40 := (x9x h hl).le
 have hn6 := h.n
 have hb : ∀ l ∈ d2q d, l.length ≤ 40 ∧ ∀ y ∈ l, 0 ≤ y ∧ y < ((j4q d).labels.length : Int) := fun l hlm => by
  obtain ⟨k, hk⟩ := List.getElem?_of_mem hlm
  have hkl := (List.getElem?_eq_some_iff.1 hk).1
  rw [h5q] at hkl
  obtain ⟨o, ho⟩ : ∃ o, d.nodes[k]? = some o := ⟨_, List.getElem?_eq_getElem hkl⟩
  obtain ⟨g, g1, g2⟩ := h.legArr hl ho
  rw [hk] at g1; cases g1
  have mm := (f4q.1 g2).2.2.1
  have := f5q mm
  have := (h.ob o (List.mem_of_getElem? ho)).le
  exact ⟨by omega, t1q mm⟩
 have hcl := h5q (d := d)
 exact out_ _ (by omega) (d2q d) ls (by omega) (by omega) (fun l hlm => by have := (hb l hlm).1; omega) (fun l hlm => (hb l hlm).2)
set_option maxRecDepth 20000 in
set_option maxHeartbeats 8000000 in
theorem y6x (d : Dia) (L : DiaLim d) (t : Ob) (ls : List (List Int)) (ht1 : t.labels.length < 1000000) (ht2 : t.pairs.length < 1000000) (hl0 : ls.length < 1000000) (hls : ∀ g ∈ ls, g.length < 1000000) : f7q Tryz.prog 16 [vDia d, vObj t, .t (tMat ls)] (Bo (h7q d t ls)) := by
 refine b4q Tryz.func16 rfl fun s Q hQ => ?_
 obtain ⟨e, he, hl, h0, h1, h2⟩ : ∃ e : Env, ([vDia d, vObj t, .t (tMat ls)] ++ List.replicate (Tryz.f16.ntmps - ([vDia d, vObj t, .t (tMat ls)] : List V).length) .junk) = e ∧ e.length = 77 ∧ ev e (.tmp 0) = vDia d ∧ ev e (.tmp 1) = vObj t ∧ ev e (.tmp 2) = .t (tMat ls) := ⟨_, rfl, rfl, rfl, rfl, rfl⟩
 rw [he]
 clear he
 have Ln := L.n
 have Lm := L.m
 refine vsk fun K1 hK1 => ?_
 refine a3q 0 [] ?_
 simp only [bs, ↓vopx, ↓vop, Nat.reduceBEq, a1q, flat, V.cells, h0, h1, wocs, ↓goc, ↓woc, ↓a2q]
 refine hK1 _ _ ?_
 refine vsk fun K2 hK2 => ?_
 refine vsk fun K3 hK3 => ?_
 rcases (show diaS d = false ∨ (diaS d = true ∧ (c4q t == 0) = false) ∨ (diaS d = true ∧ (c4q t == 0) = true ∧ ¬ (ls.length : Int) = d.nodes.length) ∨ (diaS d = true ∧ (c4q t == 0) = true ∧ (ls.length : Int) = d.nodes.length) by cases diaS d <;> cases (c4q t == 0) <;> simp <;> omega) with r1 | ⟨r1, r2⟩ | ⟨r1, r2, r3⟩ | ⟨r1, r2, r3⟩
 ·refine a3q 0 [.pur (Bo (diaS d))] ?_
  simp only [bs, Nat.reduceAdd, ↓vopx, ↓vop, Nat.reduceBEq, a1q, flat, Nat.reduceLT, a8q, b0q, gtmp, hl, wocs, ↓goc, ↓woc, ↓a2q, ↓b8q, ↓e5q, a6q, Tryz.ag25, Tryz.sz25, nns, r1]
  repeat ((with_reducible refine And.intro ?_ ?_); · exact ⟨Tryz.is14, by simpa only [r1] using d1z d L⟩)
  refine hK3 _ _ ?_
  refine vck fun A B hA hB => ?_
  simp only [b2q, a0q, lpv, Nat.reduceLT, true_implies, reduceCtorEq, false_implies, and_true, hl]
  refine hA ?_
  clear hA hB A B
  refine vsk fun K4 hK4 => ?_
  refine a3q 0 [] ?_
  simp only [bs, ↓vopx, ↓vop, a1q, flat, wocs, ↓goc, ↓woc, ↓a2q]
  refine hK4 _ _ ?_
  refine b1q ?_
  rw [show h7q d t ls = false from lg_d r1] at hQ
  refine hQ _ _ _ (.inr rfl) (a7q ?_ fun n b hn h => by rw [b7q, if_neg (by simp only [c6q]; omega), b7q, if_neg (by omega)]; exact h)
  try simp only [a0q, lpv, hl, Nat.reduceLT]
 ·refine a3q 0 [.pur (Bo (diaS d)), .pur (Bo (c4q t == 0))] ?_
  simp only [bs, Nat.reduceAdd, ↓vopx, ↓vop, Nat.reduceBEq, a1q, flat, Nat.reduceLT, a8q, b0q, gtmp, hl, wocs, ↓goc, ↓woc, ↓a2q, ↓b8q, ↓c8q, ↓e5q, a6q, Tryz.ag29, Tryz.ag25, Tryz.sz29, Tryz.sz25, nns, r1, r2]
  repeat ((with_reducible refine And.intro ?_ ?_); · first | exact ⟨Tryz.is14, by simpa only [r1] using d1z d L⟩ | exact ⟨Tryz.is30, by simpa only [r2] using d9z t (by omega) (by omega)⟩)
  refine hK3 _ _ ?_
  refine vck fun A B hA hB => ?_
  simp only [b2q, a0q, lpv, Nat.reduceLT, true_implies, reduceCtorEq, false_implies, and_true, hl]
  refine hA ?_
  clear hA hB A B
  refine vsk fun K5 hK5 => ?_
  refine a3q 0 [] ?_
  simp only [bs, ↓vopx, ↓vop, a1q, flat, wocs, ↓goc, ↓woc, ↓a2q]
  refine hK5 _ _ ?_
  refine b1q ?_
  rw [show h7q d t ls = false from lg_t r2] at hQ
  refine hQ _ _ _ (.inr rfl) (a7q ?_ fun n b hn h => by rw [b7q, if_neg (by simp only [c6q]; omega), b7q, if_neg (by omega)]; exact h)
  try simp only [a0q, lpv, hl, Nat.reduceLT]
 ·refine a3q 0 [.pur (Bo (diaS d)), .pur (Bo (c4q t == 0))] ?_
  simp only [bs, Nat.reduceAdd, ↓vopx, ↓vop, Nat.reduceBEq, a1q, flat, Nat.reduceLT, a8q, b0q, opII, gtmp, hl, h2, wocs, ↓goc, ↓woc, ↓a2q, ↓b8q, ↓c8q, a6q, Tryz.ag29, Tryz.ag22, Tryz.ag25, Tryz.fd25_0, Tryz.sz29, Tryz.sz22, Tryz.sz25, Tryz.un22, d5q, j7q, nns, r1, r2]
  repeat ((with_reducible refine And.intro ?_ ?_); · first | exact ⟨Tryz.is14, by simpa only [r1] using d1z d L⟩ | exact ⟨Tryz.is30, by simpa only [r2] using d9z t (by omega) (by omega)⟩)
  refine hK3 _ _ ?_
  refine vck fun A B hA hB => ?_
  simp only [b2q, a0q, lpv, Nat.reduceLT, bne_iff_ne, bne_eq_false_iff_eq, ne_eq, true_implies, false_implies, and_true, hl, r3, not_false_eq_true, false_implies, true_implies, and_true]
  refine hA ?_
  clear hA hB A B
  refine vsk fun K6 hK6 => ?_
  refine a3q 0 [] ?_
  simp only [bs, ↓vopx, ↓vop, a1q, flat, wocs, ↓goc, ↓woc, ↓a2q]
  refine hK6 _ _ ?_
  refine b1q ?_
  rw [show h7q d t ls = false from lg_n r3] at hQ
  refine hQ _ _ _ (.inr rfl) (a7q ?_ fun n b hn h => by rw [b7q, if_neg (by simp only [c6q]; omega), b7q, if_neg (by omega)]; exact h)
  try simp only [a0q, lpv, hl, Nat.reduceLT]
 ·refine a3q 0 [.pur (Bo (diaS d)), .pur (Bo (c4q t == 0))] ?_
  simp only [bs, Nat.reduceAdd, ↓vopx, ↓vop, Nat.reduceBEq, a1q, flat, Nat.reduceLT, a8q, b0q, opII, gtmp, hl, h2, wocs, ↓goc, ↓woc, ↓a2q, ↓b8q, ↓c8q, a6q, Tryz.ag29, Tryz.ag22, Tryz.ag25, Tryz.fd25_0, Tryz.sz29, Tryz.sz22, Tryz.sz25, Tryz.un22, d5q, j7q, nns, r1, r2, r3]
  repeat ((with_reducible refine And.intro ?_ ?_); · first | exact ⟨Tryz.is14, by simpa only [r1] using d1z d L⟩ | exact ⟨Tryz.is30, by simpa only [r2] using d9z t (by omega) (by omega)⟩)
  refine hK3 _ _ ?_
  refine vck fun A B hA hB => ?_
  simp only [b2q, a0q, lpv, Nat.reduceLT, bne_iff_ne, bne_eq_false_iff_eq, ne_eq, true_implies, false_implies, true_and, hl, not_true_eq_false, false_implies, true_implies, true_and]
  refine hB ?_
  clear hA hB A B
  refine a9q ?_
  refine hK2 _ _ ?_
  refine vsk fun K7 hK7 => ?_
  refine vsk fun K8 hK8 => ?_
  refine a3q 0 [] ?_
  simp only [bs, ↓vopx, ↓vop, Nat.reduceBEq, a1q, flat, Nat.reduceLT, a8q, b0q, hl, wocs, ↓goc, ↓woc, ↓a2q, Tryz.ag22, Tryz.fd25_0, Tryz.sz22, Tryz.un22, d5q, nns]
  refine hK8 _ _ ?_
  refine a5q ?_
  refine c2q (fun mm e' s' => ∃ k : Nat, mm = d.nodes.length - k ∧ k ≤ d.nodes.length ∧ e'.length = 77 ∧ ev e' (.tmp 2) = .t (tMat ls) ∧ ev e' (.tmp 3) = .ptr s.next 0 ∧ ev e' (.tmp 4) = .ptr (s.next + 1) 0 ∧ ev e' (.tmp 30) = .t (h1q d.nodes) ∧ ev e' (.tmp 31) = I d.nodes.length ∧ ev e' (.tmp 32) = I k ∧ DjI s d t s' ∧ ∀ (j : Nat) (o : Ob) (g : List Int), j < k → d.nodes[j]? = some o → ls[j]? = some g → arrS o t g = true) (⟨0, rfl, Nat.zero_le _, ?_⟩) ?_
  ·try simp only [a0q, a4q, Nat.reduceBEq, lpv, hl, h2, Nat.reduceLT, true_and]
   repeat ((with_reducible refine And.intro ?_ ?_); · trivial)
   exact ⟨DjI.init s d t, fun j o g hj _ _ => absurd hj (by omega)⟩
  rintro mm e s1 ⟨k, rfl, hle_k, hl, k2, k3, k4, k30, k31, h_k, hst, hal1⟩
  refine vsk fun K9 hK9 => ?_
  refine a3q 0 [] ?_
  simp only [a1q, opII, k31, h_k, wocs, ↓goc, ↓woc]
  refine hK9 _ _ ?_
  refine vsk fun K10 hK10 => ?_
  refine vck fun A B hA hB => ?_
  simp only [b2q, a0q, Nat.reduceLT, decide_eq_true_eq, decide_eq_false_iff_not, hl]
  refine ⟨fun hc33 => hA ?_, fun hc33 => hB ?_⟩
  ·clear hA hB A B
   refine a9q ?_
   refine hK10 _ _ ?_
   refine vsk fun K11 hK11 => ?_
   refine a5q ?_
   refine vsk fun K12 hK12 => ?_
   have hlt : k < d.nodes.length := by omega
   obtain ⟨o, ho⟩ : ∃ o, d.nodes[k]? = some o := ⟨_, List.getElem?_eq_getElem hlt⟩
   have g0 := d8z ho
   have hfl := f6q d.nodes
   have hi2 : k * 2 < d.nodes.length * 2 := by omega
   refine a3q 0 [] ?_
   simp only [bs, Nat.reduceAdd, ↓vopx, ↓vop, Nat.reduceBEq, a1q, Nat.reduceLT, V.cells, a8q, b0q, hl, k30, h_k, wocs, ↓goc, ↓woc, ↓a2q, Tryz.ag29, Tryz.sz29, Tryz.un22, Tryz.zv29, g0, hfl, hi2]
   refine hK12 _ _ ?_
   refine vsk fun K13 hK13 => ?_
   refine d4q fun e2 sb hE2 hSb => ?_
   subst hE2
   have hIb : DjI s d t sb := by rw [hSb]; exact (hst.add _).set hst.nx _
   have hbx : sb.m s1.next = some (.box 29 [.t (d1q o.labels), .t (b3q o.pairs)]) := by rw [hSb]; simp only [b9q, if_true]; try rfl
   clear hSb
   have hbt := hIb.c
   have o1 := L.o1 o (List.mem_of_getElem? ho)
   have o2 := L.o2 o (List.mem_of_getElem? ho)
   obtain ⟨g, hg⟩ : ∃ g, ls[k]? = some g := ⟨_, List.getElem?_eq_getElem (by omega)⟩
   have hgl := hls g (List.mem_of_getElem? hg)
   refine c5q Tryz.mixed 6 [1, 1, 0, 0, 1, 1] [.pur (Bo (arrS o t g))] [] 0 (by decide +kernel) (by simp [lpv, hl]) rfl ?_
   simp only [bs, Nat.reduceAdd, ↓vopx, ↓vop, Nat.reduceBEq, a1q, Nat.reduceLT, a8q, b0q, hl, k2, k4, wocs, ↓goc, ↓woc, ↓a2q, ↓e3q, ↓b8q, a6q, chn, ↓goq, ↓woq, List.zip_cons_cons, List.zip_nil_right, Tryz.ag29, Tryz.ag40, Tryz.sz29, Tryz.sz40, Tryz.un30, hbx, hbt, hg]
   repeat ((with_reducible refine And.intro ?_ ?_); · first | omega | exact ⟨Tryz.is32, c6j o t g (by omega) (by omega) (by omega) (by omega) (by omega)⟩)
   refine hK13 _ _ ?_
   refine vck fun A B hA hB => ?_
   simp only [b2q, a0q, lpv, Nat.reduceLT, Bool.not_eq_true', Bool.not_eq_false', hl]
   refine ⟨fun hc44 => hA ?_, fun hc44 => hB ?_⟩
   ·clear hA hB A B
    refine vsk fun K14 hK14 => ?_
    refine a3q 0 [] ?_
    simp only [bs, ↓vopx, ↓vop, a1q, flat, wocs, ↓goc, ↓woc, ↓a2q]
    refine hK14 _ _ ?_
    refine b1q ?_
    rw [show h7q d t ls = false from lg_o ho hg hc44] at hQ
    refine hQ _ _ _ (.inr rfl) (a7q ?_ fun n b hn h => (hIb.same n hn).trans h)
    try simp only [a0q, lpv, hl, Nat.reduceLT]
   ·clear hA hB A B
    refine a9q ?_
    refine hK11 _ _ ?_
    refine a3q 0 [] ?_
    simp only [bs, ↓vopx, ↓vop, Nat.reduceBEq, a1q, flat, Nat.reduceLT, opII, hl, k2, k3, k4, k30, k31, h_k, wocs, ↓goc, ↓woc, ↓a2q]
    repeat ((with_reducible refine And.intro ?_ ?_); · exact ⟨by omega, by omega⟩)
    refine ⟨d.nodes.length - (k + 1), by omega, k + 1, rfl, by omega, ?_⟩
    try simp only [a0q, a4q, Nat.reduceBEq, lpv, hl, k2, k3, k4, k30, k31, h_k, if_true, if_false, Nat.reduceEqDiff, Nat.reduceLT, true_and, and_true]
    repeat ((with_reducible refine And.intro ?_ ?_); · trivial)
    intro j o2 g2 hj ho2 hg2
    rcases Nat.lt_succ_iff_lt_or_eq.1 hj with h | h
    ·exact hal1 j o2 g2 h ho2 hg2
    ·subst h; rw [ho] at ho2; cases ho2; rw [hg] at hg2; cases hg2; exact hc44
  ·clear hA hB A B
   have hka : k = d.nodes.length := by omega
   refine c1q ?_
   simp only [a1q, b5q, if_true]
   refine hK7 _ _ ?_
   refine vsk fun K15 hK15 => ?_
   refine vsk fun K16 hK16 => ?_
   have hb62 := hst.b
   refine a3q 0 [] ?_
   simp only [bs, ↓vopx, ↓vop, Nat.reduceBEq, a1q, flat, Nat.reduceLT, a8q, b0q, hl, k3, wocs, ↓goc, ↓woc, ↓a2q, Tryz.ag23, Tryz.fd25_1, Tryz.sz23, Tryz.un23, i0q, nns, hb62]
   refine hK16 _ _ ?_
   refine a5q ?_
   refine c2q (fun mm e' s' => ∃ k : Nat, mm = d.arrs.length - k ∧ k ≤ d.arrs.length ∧ e'.length = 77 ∧ ev e' (.tmp 2) = .t (tMat ls) ∧ ev e' (.tmp 3) = .ptr s.next 0 ∧ ev e' (.tmp 4) = .ptr (s.next + 1) 0 ∧ ev e' (.tmp 47) = .t (tArs d.arrs) ∧ ev e' (.tmp 48) = I d.arrs.length ∧ ev e' (.tmp 49) = I k ∧ DjI s d t s' ∧ ∀ (j : Nat) (x : Ar), j < k → d.arrs[j]? = some x → alS d ls x = true) (⟨0, rfl, Nat.zero_le _, ?_⟩) ?_
   ·try simp only [a0q, a4q, Nat.reduceBEq, lpv, hl, k2, k3, k4, Nat.reduceLT, true_and]
    repeat ((with_reducible refine And.intro ?_ ?_); · trivial)
    exact fun j x hj _ => absurd hj (by omega)
   rintro mm e s1 ⟨k, rfl, hle_k, hl, q2, q3, q4, q47, q48, h_k, hst, hal2⟩
   refine vsk fun K17 hK17 => ?_
   refine a3q 0 [] ?_
   simp only [a1q, opII, q48, h_k, wocs, ↓goc, ↓woc]
   refine hK17 _ _ ?_
   refine vsk fun K18 hK18 => ?_
   refine vck fun A B hA hB => ?_
   simp only [b2q, a0q, Nat.reduceLT, decide_eq_true_eq, decide_eq_false_iff_not, hl]
   refine ⟨fun hc50 => hA ?_, fun hc50 => hB ?_⟩
   ·clear hA hB A B
    refine a9q ?_
    refine hK18 _ _ ?_
    refine vsk fun K19 hK19 => ?_
    refine a5q ?_
    refine vsk fun K20 hK20 => ?_
    have hlt : k < d.arrs.length := by omega
    obtain ⟨x, hx⟩ : ∃ x, d.arrs[k]? = some x := ⟨_, List.getElem?_eq_getElem hlt⟩
    have g0 := g8x hx
    have hfl := i6q d.arrs
    have hi2 : k * 3 < d.arrs.length * 3 := by omega
    refine a3q 0 [] ?_
    simp only [bs, Nat.reduceAdd, ↓vopx, ↓vop, Nat.reduceBEq, a1q, Nat.reduceLT, V.cells, a8q, b0q, hl, q47, h_k, wocs, ↓goc, ↓woc, ↓a2q, Tryz.ag49, Tryz.sz49, Tryz.un23, Tryz.zv49, g0, hfl, hi2]
    refine hK20 _ _ ?_
    refine vsk fun K21 hK21 => ?_
    refine d4q fun e2 sb hE2 hSb => ?_
    subst hE2
    have hIb : DjI s d t sb := by rw [hSb]; exact (hst.add _).set hst.nx _
    have hbx : sb.m s1.next = some (.box 49 [.t (TI x.fr), .t (TI x.to), .t (c0q x.mp)]) := by rw [hSb]; simp only [b9q, if_true]; try rfl
    clear hSb
    have la := L.a x (List.mem_of_getElem? hx)
    obtain ⟨a, b, f0, hA, t0, hB, hab⟩ := (x7q.1 r1).ar x (List.mem_of_getElem? hx)
    have hlA := (List.getElem?_eq_some_iff.1 hA).1
    have hlB := (List.getElem?_eq_some_iff.1 hB).1
    obtain ⟨gf, hgf⟩ : ∃ g, ls[x.fr.toNat]? = some g := ⟨_, List.getElem?_eq_getElem (by omega)⟩
    obtain ⟨gt, hgt⟩ : ∃ g, ls[x.to.toNat]? = some g := ⟨_, List.getElem?_eq_getElem (by omega)⟩
    have hgtl := hls gt (List.mem_of_getElem? hgt)
    have hgfl := hls gf (List.mem_of_getElem? hgf)
    have hal : alS d ls x = ((thenS x.mp gt).2 && ((thenS x.mp gt).1 == gf)) := by unfold alS; rw [fAtL hgf, fAtL hgt]
    have htl := f2x x.mp gt
    refine c5q Tryz.mixed 12 [0, 1, 0, 0, 1, 1, 1, 0, 0, 0, 0, 0] [.pur (.tup [.t (c0q (thenS x.mp gt).1), Bo (thenS x.mp gt).2])] [] 0 (by decide +kernel) (by simp [lpv, hl]) rfl ?_
    simp only [bs, ↓vopx, ↓vop, Nat.reduceBEq, a1q, Nat.reduceLT, a8q, b0q, hl, q2, wocs, ↓goc, ↓woc, ↓a2q, ↓e3q, a6q, chn, ↓goq, ↓woq, ↓h6z, List.zip_cons_cons, List.zip_nil_right, Tryz.ag40, Tryz.ag3, Tryz.fd49_1, Tryz.fd49_2, Tryz.sz40, Tryz.sz3, Tryz.un30, nns, hbx, hgt]
    repeat ((with_reducible refine And.intro ?_ ?_); · first | (with_reducible assumption) | omega | exact ⟨Tryz.is23, then_ x.mp gt (by omega) (by omega)⟩)
    refine hK21 _ _ ?_
    refine vsk fun K22 hK22 => ?_
    rcases (show (thenS x.mp gt).2 = false ∨ (thenS x.mp gt).2 = true by cases (thenS x.mp gt).2 <;> simp) with r4 | r4
    ·refine a3q 0 [] ?_
     simp only [bs, ↓vopx, ↓vop, Nat.reduceBEq, a1q, flat, Nat.reduceLT, gtmp, hl, wocs, ↓goc, ↓woc, ↓a2q, ↓e5q, r4]
     refine hK22 _ _ ?_
     refine vck fun A B hA hB => ?_
     simp only [b2q, a0q, lpv, Nat.reduceLT, true_implies, reduceCtorEq, false_implies, and_true, hl]
     refine hA ?_
     clear hA hB A B
     refine vsk fun K23 hK23 => ?_
     refine a3q 0 [] ?_
     simp only [bs, ↓vopx, ↓vop, a1q, flat, wocs, ↓goc, ↓woc, ↓a2q]
     refine hK23 _ _ ?_
     refine b1q ?_
     rw [show h7q d t ls = false from lg_a hx (by rw [hal, r4]; rfl)] at hQ
     refine hQ _ _ _ (.inr rfl) (a7q ?_ fun n b hn h => (hIb.same n hn).trans h)
     try simp only [a0q, lpv, hl, Nat.reduceLT]
    ·refine a3q 0 [.pur (Bo ((thenS x.mp gt).1 == gf))] ?_
     simp only [bs, ↓vopx, ↓vop, Nat.reduceBEq, a1q, flat, Nat.reduceLT, a8q, b0q, gtmp, hl, q2, wocs, ↓goc, ↓woc, ↓a2q, ↓b8q, ↓c8q, a6q, Tryz.ag40, Tryz.ag3, Tryz.fd49_0, Tryz.sz40, Tryz.sz3, Tryz.un30, nns, hbx, hgf, r4]
     repeat ((with_reducible refine And.intro ?_ ?_); · first | (with_reducible assumption) | omega | exact ⟨Tryz.is35, g5x (thenS x.mp gt).1 gf (by omega) (by omega)⟩)
     refine hK22 _ _ ?_
     refine vck fun A B hA hB => ?_
     simp only [b2q, a0q, lpv, Nat.reduceLT, Bool.not_eq_true', Bool.not_eq_false', beq_iff_eq, beq_eq_false_iff_ne, ne_eq, hl]
     refine ⟨fun hc75 => hA ?_, fun hc75 => hB ?_⟩
     ·clear hA hB A B
      refine vsk fun K24 hK24 => ?_
      refine a3q 0 [] ?_
      simp only [bs, ↓vopx, ↓vop, a1q, flat, wocs, ↓goc, ↓woc, ↓a2q]
      refine hK24 _ _ ?_
      refine b1q ?_
      rw [show h7q d t ls = false from lg_a hx (by rw [hal, r4]; simp [hc75])] at hQ
      refine hQ _ _ _ (.inr rfl) (a7q ?_ fun n b hn h => (hIb.same n hn).trans h)
      try simp only [a0q, lpv, hl, Nat.reduceLT]
     ·clear hA hB A B
      refine a9q ?_
      refine hK19 _ _ ?_
      refine a3q 0 [] ?_
      simp only [bs, ↓vopx, ↓vop, Nat.reduceBEq, a1q, flat, Nat.reduceLT, opII, hl, q2, q3, q4, q47, q48, h_k, wocs, ↓goc, ↓woc, ↓a2q]
      repeat ((with_reducible refine And.intro ?_ ?_); · exact ⟨by omega, by omega⟩)
      refine ⟨d.arrs.length - (k + 1), by omega, k + 1, rfl, by omega, ?_⟩
      try simp only [a0q, a4q, Nat.reduceBEq, lpv, hl, q2, q3, q4, q47, q48, h_k, if_true, if_false, Nat.reduceEqDiff, Nat.reduceLT, true_and, and_true]
      repeat ((with_reducible refine And.intro ?_ ?_); · trivial)
      intro j x2 hj hx2
      rcases Nat.lt_succ_iff_lt_or_eq.1 hj with h | h
      ·exact hal2 j x2 h hx2
      ·subst h; rw [hx] at hx2; cases hx2; rw [hal, r4]; simp [hc75]
   ·clear hA hB A B
    have hkb : k = d.arrs.length := by omega
    refine c1q ?_
    simp only [a1q, b5q, if_true]
    refine hK15 _ _ ?_
    refine vsk fun K25 hK25 => ?_
    refine a3q 0 [] ?_
    simp only [bs, ↓vopx, ↓vop, a1q, flat, wocs, ↓goc, ↓woc, ↓a2q]
    refine hK25 _ _ ?_
    refine b1q ?_
    rw [lg_ok r1 r2 r3 (by rw [← hka]; exact hal1) (by rw [← hkb]; exact hal2)] at hQ
    refine hQ _ _ _ (.inr rfl) (a7q ?_ fun n b hn h => (hst.same n hn).trans h)
    try simp only [a0q, lpv, hl, Nat.reduceLT]
set_option maxRecDepth 20000 in
set_option maxHeartbeats 8000000 in
theorem i8z (d : Dia) (L : DiaLim d) (hp2 : ∀ o ∈ d.nodes, o.pairs.length ≤ 1000) (t : Ob) (ls : List (List Int)) (ht1 : t.labels.length < 1000000) (ht2 : t.pairs.length < 1000000) (hl0 : ls.length < 1000000) (hls : ∀ g ∈ ls, g.length < 1000000) : f7q Tryz.prog 10 [vDia d, vObj t, .t (tMat ls)] (vMed (medD d t ls)) := by
 refine b4q Tryz.func10 rfl fun s Q hQ => ?_
 obtain ⟨e, he, hl, h0, h1, h2⟩ : ∃ e : Env, ([vDia d, vObj t, .t (tMat ls)] ++ List.replicate (Tryz.f10.ntmps - ([vDia d, vObj t, .t (tMat ls)] : List V).length) .junk) = e ∧ e.length = 38 ∧ ev e (.tmp 0) = vDia d ∧ ev e (.tmp 1) = vObj t ∧ ev e (.tmp 2) = .t (tMat ls) := ⟨_, rfl, rfl, rfl, rfl, rfl⟩
 rw [he]
 clear he
 refine vsk fun K1 hK1 => ?_
 refine a3q 0 [] ?_
 simp only [bs, ↓vopx, ↓vop, Nat.reduceBEq, a1q, flat, V.cells, h0, h1, wocs, ↓goc, ↓woc, ↓a2q]
 refine hK1 _ _ ?_
 refine vsk fun K2 hK2 => ?_
 refine x1q fun eqa hE => ?_
 obtain ⟨hlqa, qa_2, qa_3, qa_4⟩ : eqa.length = 38 ∧ ev eqa (.tmp 2) = .t (tMat ls) ∧ ev eqa (.tmp 3) = .ptr s.next 0 ∧ ev eqa (.tmp 4) = .ptr (s.next + 1) 0 := by
  (repeat' (with_reducible refine And.intro ?_ ?_)) <;> (rw [hE]; simp only [lpv, hl, a4q, Nat.reduceBEq, h2, a0q, Nat.reduceLT])
 clear hE
 refine p3q fun sqa hS => ?_
 obtain ⟨qaB0, qaB1, hnqa⟩ : sqa.m (s.next) = some (.box 25 [.t (h1q d.nodes), .t (tArs d.arrs)]) ∧ sqa.m (s.next + 1) = some (.box 29 [.t (d1q t.labels), .t (b3q t.pairs)]) ∧ sqa.next = s.next + 1 + 1 := by
  (repeat' (with_reducible refine And.intro ?_ ?_)) <;> (rw [hS]; simp only [b7q, c6q, nns, if_true, if_false])
 have hkqa : ∀ j, j < s.next → sqa.m j = s.m j := fun j hj => by have z0 : ¬ j = s.next := (by omega); have z1 : ¬ j = s.next + 1 := (by omega); rw [hS]; simp only [b7q, c6q, z0, z1, if_false]
 clear hS
 obtain ⟨q, own, ec, hR⟩ : ∃ q own ec, colS d = (q, own, ec) := ⟨_, _, _, rfl⟩
 have hcs := z1q d
 have hm0 : medD d t ls = if ec ≠ 0 then ([], ec) else if 40 < t.labels.length then ([], 11) else if h7q d t ls = false then ([], 12) else (outS q.labels.length own ls, 0) := by unfold medD; rw [hR]
 rw [hR] at hcs
 refine a3q 0 [.pur (.tup [vObj q, .t (tMat own), I ec])] ?_
 simp only [bs, Nat.reduceAdd, ↓vopx, ↓vop, Nat.reduceBEq, a1q, Nat.reduceLT, V.cells, a8q, b0q, hlqa, qa_3, qaB0, hnqa, wocs, ↓goc, ↓woc, ↓a2q, ↓b8q, a6q, Tryz.ag25, Tryz.sz29, Tryz.sz25, Tryz.zv29]
 repeat ((with_reducible refine And.intro ?_ ?_); · exact ⟨Tryz.is8, by have := l7x d L hp2; rw [hR] at this; exact this⟩)
 refine hK2 _ _ ?_
 refine vsk fun K3 hK3 => ?_
 refine a5q ?_
 refine vsk fun K4 hK4 => ?_
 refine x1q fun eqb hE => ?_
 obtain ⟨hlqb, qb_2, qb_3, qb_4, qb_8, qb_9, qb_10⟩ : eqb.length = 38 ∧ ev eqb (.tmp 2) = .t (tMat ls) ∧ ev eqb (.tmp 3) = .ptr s.next 0 ∧ ev eqb (.tmp 4) = .ptr (s.next + 1) 0 ∧ ev eqb (.tmp 8) = .ptr (s.next + 1 + 1) 0 ∧ ev eqb (.tmp 9) = .t (tMat own) ∧ ev eqb (.tmp 10) = I ec := by
  (repeat' (with_reducible refine And.intro ?_ ?_)) <;> (rw [hE]; simp only [lpv, hlqa, a4q, Nat.reduceBEq, qa_2, qa_3, qa_4, a0q, Nat.reduceLT])
 clear hE
 refine p3q fun sqb hS => ?_
 obtain ⟨qbB0, qbB1, qbB2, hnqb⟩ : sqb.m (s.next) = some (.box 25 [.t (h1q d.nodes), .t (tArs d.arrs)]) ∧ sqb.m (s.next + 1) = some (.box 29 [.t (d1q t.labels), .t (b3q t.pairs)]) ∧ sqb.m (s.next + 1 + 1) = some (.box 29 [.t (d1q q.labels), .t (b3q q.pairs)]) ∧ sqb.next = s.next + 1 + 1 + 1 := by
  (repeat' (with_reducible refine And.intro ?_ ?_)) <;> (rw [hS]; simp only [b9q, b7q, nns, if_false, qaB0, hnqa, qaB1, if_true, c6q, h9q])
 have hkqb : ∀ j, j < s.next → sqb.m j = s.m j := fun j hj => by have z0 : ¬ j = s.next := (by omega); have z1 : ¬ j = s.next + 1 := (by omega); have z2 : ¬ j = s.next + 1 + 1 := (by omega); rw [hS]; simp only [b9q, b7q, hnqa, z2, if_false, hkqa j hj]
 clear hS
 rcases hcs with ⟨e, he0, hcs⟩ | ⟨hcs, hD, h40⟩
 ·obtain ⟨rfl, rfl, rfl⟩ : q = noOb ∧ own = [] ∧ ec = e := by simpa only [Prod.mk.injEq] using hcs
  refine a3q 0 [] ?_
  simp only [bs, ↓vopx, ↓vop, a1q, flat, Nat.reduceLT, opII, hlqb, qb_10, wocs, ↓goc, ↓woc, ↓a2q]
  refine hK4 _ _ ?_
  refine vck fun A B hA hB => ?_
  simp only [b2q, a0q, lpv, Nat.reduceLT, bne_iff_ne, bne_eq_false_iff_eq, ne_eq, true_implies, false_implies, and_true, hlqb, he0, not_false_eq_true]
  refine hA ?_
  clear hA hB A B
  refine vsk fun K5 hK5 => ?_
  refine a3q 0 [] ?_
  simp only [bs, ↓vopx, ↓vop, Nat.reduceBEq, a1q, flat, Nat.reduceLT, hlqb, qb_10, wocs, ↓goc, ↓woc, ↓a2q]
  refine hK5 _ _ ?_
  refine b1q ?_
  rw [show medD d t ls = ([], ec) from by rw [hm0, if_pos he0]] at hQ
  refine hQ _ _ _ (.inr rfl) (g3q (by omega) ?_ ?_ fun n b hn h => (hkqb n hn).trans h)
  ·simp only [a0q, a4q, Nat.reduceBEq, lpv, hlqb, Nat.reduceLT]
  ·simp only [a0q, lpv, hlqb, Nat.reduceLT]; try rfl
 ·obtain ⟨rfl, rfl, rfl⟩ : q = j4q d ∧ own = d2q d ∧ ec = 0 := by simpa only [Prod.mk.injEq] using hcs
  refine a3q 0 [] ?_
  simp only [bs, ↓vopx, ↓vop, a1q, flat, Nat.reduceLT, opII, hlqb, qb_10, wocs, ↓goc, ↓woc, ↓a2q]
  refine hK4 _ _ ?_
  refine vck fun A B hA hB => ?_
  simp only [b2q, a0q, lpv, Nat.reduceLT, bne_iff_ne, bne_eq_false_iff_eq, ne_eq, true_implies, false_implies, true_and, hlqb, not_true_eq_false]
  refine hB ?_
  clear hA hB A B
  refine vsk fun K6 hK6 => ?_
  rcases (show (t.labels.length : Int) > 40 ∨ ¬ (t.labels.length : Int) > 40 by omega) with hd0 | hd0
  ·refine a3q 0 [] ?_
   simp only [bs, ↓vopx, ↓vop, Nat.reduceBEq, a1q, flat, Nat.reduceLT, a8q, b0q, opII, hlqb, qb_4, qbB1, wocs, ↓goc, ↓woc, ↓a2q, Tryz.ag26, Tryz.fd29_0, Tryz.sz26, Tryz.un26, c9q, nns, hd0]
   refine hK6 _ _ ?_
   refine vck fun A B hA hB => ?_
   simp only [b2q, a0q, lpv, Nat.reduceLT, true_implies, reduceCtorEq, false_implies, and_true, hlqb]
   refine hA ?_
   clear hA hB A B
   refine vsk fun K7 hK7 => ?_
   refine a3q 0 [] ?_
   simp only [bs, ↓vopx, ↓vop, a1q, flat, wocs, ↓goc, ↓woc, ↓a2q]
   refine hK7 _ _ ?_
   refine b1q ?_
   rw [show medD d t ls = ([], 11) from by rw [hm0, if_neg (by simp), if_pos (by omega)]] at hQ
   refine hQ _ _ _ (.inr rfl) (g3q (by omega) ?_ ?_ fun n b hn h => (hkqb n hn).trans h)
   ·simp only [a0q, a4q, Nat.reduceBEq, lpv, hlqb, Nat.reduceLT]
   ·simp only [a0q, lpv, hlqb, Nat.reduceLT]; try rfl
  ·refine a3q 0 [] ?_
   simp only [bs, ↓vopx, ↓vop, Nat.reduceBEq, a1q, flat, Nat.reduceLT, a8q, b0q, opII, hlqb, qb_4, qbB1, wocs, ↓goc, ↓woc, ↓a2q, Tryz.ag26, Tryz.fd29_0, Tryz.sz26, Tryz.un26, c9q, nns, hd0]
   refine hK6 _ _ ?_
   refine vck fun A B hA hB => ?_
   simp only [b2q, a0q, lpv, Nat.reduceLT, true_implies, reduceCtorEq, false_implies, true_and, hlqb]
   refine hB ?_
   clear hA hB A B
   refine vsk fun K8 hK8 => ?_
   rcases (show h7q d t ls = false ∨ h7q d t ls = true by cases h7q d t ls <;> simp) with hc0 | hc0
   ·refine a3q 0 [.pur (Bo (h7q d t ls))] ?_
    simp only [bs, Nat.reduceAdd, ↓vopx, ↓vop, Nat.reduceBEq, a1q, Nat.reduceLT, a8q, b0q, hlqb, qb_2, qb_3, qb_4, qbB0, qbB1, wocs, ↓goc, ↓woc, ↓a2q, ↓b8q, a6q, Tryz.ag29, Tryz.ag25, Tryz.sz29, Tryz.sz25, hc0]
    repeat ((with_reducible refine And.intro ?_ ?_); · exact ⟨Tryz.is16, by simpa only [hc0] using y6x d L t ls ht1 ht2 hl0 hls⟩)
    refine hK8 _ _ ?_
    refine vck fun A B hA hB => ?_
    simp only [b2q, a0q, lpv, Nat.reduceLT, true_implies, reduceCtorEq, false_implies, and_true, hlqb]
    refine hA ?_
    clear hA hB A B
    refine vsk fun K9 hK9 => ?_
    refine a3q 0 [] ?_
    simp only [bs, ↓vopx, ↓vop, a1q, flat, wocs, ↓goc, ↓woc, ↓a2q]
    refine hK9 _ _ ?_
    refine b1q ?_
    rw [show medD d t ls = ([], 12) from by rw [hm0, if_neg (by simp), if_neg (by omega), if_pos hc0]] at hQ
    refine hQ _ _ _ (.inr rfl) (g3q (by omega) ?_ ?_ fun n b hn h => (hkqb n hn).trans h)
    ·simp only [a0q, a4q, Nat.reduceBEq, lpv, hlqb, Nat.reduceLT]
    ·simp only [a0q, lpv, hlqb, Nat.reduceLT]; try rfl
   ·refine a3q 0 [.pur (Bo (h7q d t ls))] ?_
    simp only [bs, Nat.reduceAdd, ↓vopx, ↓vop, Nat.reduceBEq, a1q, Nat.reduceLT, a8q, b0q, hlqb, qb_2, qb_3, qb_4, qbB0, qbB1, wocs, ↓goc, ↓woc, ↓a2q, ↓b8q, a6q, Tryz.ag29, Tryz.ag25, Tryz.sz29, Tryz.sz25, hc0]
    repeat ((with_reducible refine And.intro ?_ ?_); · exact ⟨Tryz.is16, by simpa only [hc0] using y6x d L t ls ht1 ht2 hl0 hls⟩)
    refine hK8 _ _ ?_
    refine vck fun A B hA hB => ?_
    simp only [b2q, a0q, lpv, Nat.reduceLT, true_implies, reduceCtorEq, false_implies, true_and, hlqb]
    refine hB ?_
    clear hA hB A B
    refine a9q ?_
    refine hK3 _ _ ?_
    refine vsk fun K10 hK10 => ?_
    have hob := x9x hD h40
    refine a3q 0 [.pur (.t (c0q (outS (j4q d).labels.length (d2q d) ls)))] ?_
    simp only [bs, ↓vopx, ↓vop, Nat.reduceBEq, a1q, flat, Nat.reduceLT, a8q, b0q, hlqb, qb_2, qb_8, qb_9, qbB2, wocs, ↓goc, ↓woc, ↓a2q, ↓b8q, a6q, Tryz.ag26, Tryz.fd29_0, Tryz.sz26, Tryz.un26, c9q, nns]
    repeat ((with_reducible refine And.intro ?_ ?_); · exact ⟨Tryz.is29, out_cl hD h40 (z3q.1 hc0).2.2.1⟩)
    refine hK10 _ _ ?_
    refine b1q ?_
    rw [show medD d t ls = (outS (j4q d).labels.length (d2q d) ls, 0) from by rw [hm0, if_neg (by simp), if_neg (by omega), if_neg (by rw [hc0]; simp)]] at hQ
    refine hQ _ _ _ (.inr rfl) (l9x ?_ ?_ fun n b hn h => (hkqb n hn).trans h)
    ·simp only [a0q, a4q, Nat.reduceBEq, lpv, hlqb, Nat.reduceLT]
    ·simp only [a0q, lpv, hlqb, Nat.reduceLT]; try rfl
end Go.Proofs

open Go Go.V
namespace Go.Proofs
abbrev k7x : ByteArray := ⟨#[120]⟩
abbrev k7y : ByteArray := ⟨#[121]⟩
abbrev k7z : ByteArray := ⟨#[122]⟩
abbrev k7A : Ob := ⟨[k7x], []⟩
abbrev k7B : Ob := ⟨[k7x, k7y], [(0, 1)]⟩
abbrev k7C : Ob := ⟨[k7z, k7x], [(0, 1)]⟩
end Go.Proofs

open Go Go.V
namespace Go.Proofs
def q7 : Ob × List Int × List Int × Int := pushS k7A k7B k7C [0] [0]
theorem x1q {P : Program} {c : Code} {Q : Exit → Env → Sg → Prop} {e : Env} {s : Sg} (h : ∀ e1, e1 = e → VW P c Q e1 s) : VW P c Q e s := h e rfl
end Go.Proofs

open Go Go.V
namespace Go.Proofs
abbrev k9D : Dia := ⟨[k7A, k7A, k7A], [⟨0, 1, [0]⟩]⟩
abbrev k9Q : Ob := ⟨[k7x, k7x], []⟩
theorem k9_c : (colS k9D).1.labels = [k7x, k7x] ∧ (colS k9D).1.pairs = [] ∧ (colS k9D).2.1 = [[0], [0], [1]] ∧ (colS k9D).2.2 = 0 := by decide +kernel
theorem k9_m1 : medD k9D k7A [[0], [0], [0]] = ([0, 0], 0) := by decide +kernel
theorem k9_m2 : medD k9D k7A [[0], [0]] = ([], 12) := by decide +kernel
theorem k9_d : diaS k9D = true := by decide +kernel
theorem k9_l : h7q k9D k9Q [[0], [0], [1]] = true := by decide +kernel
theorem v6z : DiaLim k9D := ⟨by decide, by decide, by decide, by decide, by decide⟩
theorem a4x : ∀ o ∈ k9D.nodes, o.pairs.length ≤ 1000 := by decide
theorem kc9_of : f7q Tryz.prog 8 [vDia k9D] (.tup [vObj k9Q, .t (tMat [[0], [0], [1]]), I 0]) := by
 have h := l7x k9D v6z a4x
 have e : colS k9D = (k9Q, [[0], [0], [1]], 0) := by
  obtain ⟨h1, h2, h3, h4⟩ := k9_c
  generalize colS k9D = r at h1 h2 h3 h4
  obtain ⟨⟨a, b⟩, c, e⟩ := r
  simp only at h1 h2 h3 h4
  rw [h1, h2, h3, h4]
 rw [e] at h
 exact h
theorem kc9_m1 : f7q Tryz.prog 10 [vDia k9D, vObj k7A, .t (tMat [[0], [0], [0]])] (.tup [.t (c0q [0, 0]), I 0]) := by
 have h := i8z k9D v6z a4x k7A [[0], [0], [0]] (by decide) (by decide) (by decide) (by decide)
 rw [k9_m1] at h
 exact h
theorem kc9_m2 : f7q Tryz.prog 10 [vDia k9D, vObj k7A, .t (tMat [[0], [0]])] (.tup [.t (c0q []), I 12]) := by
 have h := i8z k9D v6z a4x k7A [[0], [0]] (by decide) (by decide) (by decide) (by decide)
 rw [k9_m2] at h
 exact h
theorem kc9_d : f7q Tryz.prog 14 [vDia k9D] (Bo true) := by
 have h := d1z k9D v6z
 rw [k9_d] at h
 exact h
theorem kc9_l : f7q Tryz.prog 16 [vDia k9D, vObj k9Q, .t (tMat [[0], [0], [1]])] (Bo true) := by
 have h := y6x k9D v6z k9Q [[0], [0], [1]] (by decide) (by decide) (by decide) (by decide)
 rw [k9_l] at h
 exact h
theorem g6z (cs : List T) : vlen (.t (.sl 1 cs)) = some cs.length := by simp [vlen]
theorem tn2 : Int.toNat 2 = 2 := rfl
theorem nd1' : ((1 : Nat) : Int) = 1 := rfl
theorem nd2' : ((2 : Nat) : Int) = 2 := rfl
theorem nd3' : ((3 : Nat) : Int) = 3 := rfl
structure DiaBig (d : Dia) : Prop where
 n : d.nodes.length ≤ 9223372036854775807
 m : d.arrs.length ≤ 9223372036854775807
 o1 : ∀ o ∈ d.nodes, o.labels.length ≤ 9223372036854775807
 o2 : ∀ o ∈ d.nodes, o.pairs.length ≤ 9223372036854775807
 a : ∀ x ∈ d.arrs, x.mp.length ≤ 9223372036854775807
theorem getA2 {l : List Ar} {k : Nat} {x : Ar} (h : l[k]? = some x) : (l.flatMap g9z)[k * 3 + 2]? = some (c0q x.mp) := by
 induction l generalizing k with
 | nil => simp at h
 | cons a l ih =>
  cases k with
  | zero => simp at h; subst h; rfl
  | succ k =>
   have := ih (k := k) (by simpa using h)
   rw [show (k + 1) * 3 + 2 = k * 3 + 2 + 3 by omega]
   simpa using this
def fewD (d : Dia) : Bool := (d.nodes.all fewS && d.arrs.all fun x => decide (x.mp.length ≤ 60)) && (decide (d.nodes.length ≤ 10) && decide (d.arrs.length ≤ 12))
theorem s6a {α : Type} (a b c d e f x y : α) : setAll [a, b, c, d, e, f] 0 [x, y] = [x, y, c, d, e, f] := rfl
theorem s6b {α : Type} (a b c d e f x y : α) : setAll [a, b, c, d, e, f] 2 [x, y] = [a, b, x, y, e, f] := rfl
theorem s6c {α : Type} (a b c d e f x y : α) : setAll [a, b, c, d, e, f] 4 [x, y] = [a, b, c, d, x, y] := rfl
theorem s3a {α : Type} (a b c x y z : α) : setAll [a, b, c] 0 [x, y, z] = [x, y, z] := rfl
def fewM (l : List (List Int)) : Bool := (l.all fun x => decide (x.length ≤ 60)) && decide (l.length ≤ 10)
theorem fewD_o {d : Dia} {k : Nat} {o : Ob} (h : d.nodes[k]? = some o) (h2 : fewS o = false) : fewD d = false := by
 have : d.nodes.all fewS = false := List.all_eq_false.2 ⟨o, List.mem_of_getElem? h, by rw [h2]; decide⟩
 simp [fewD, this]
theorem fewD_a {d : Dia} {k : Nat} {x : Ar} (h : d.arrs[k]? = some x) (h2 : (x.mp.length : Int) > 60) : fewD d = false := by
 have : (d.arrs.all fun x => decide (x.mp.length ≤ 60)) = false := List.all_eq_false.2 ⟨x, List.mem_of_getElem? h, by simp; omega⟩
 simp [fewD, this]
theorem m3x {d : Dia} (h1 : ∀ (j : Nat) (o : Ob), j < d.nodes.length → d.nodes[j]? = some o → fewS o = true) (h2 : ∀ (j : Nat) (x : Ar), j < d.arrs.length → d.arrs[j]? = some x → ¬ (x.mp.length : Int) > 60) : fewD d = (decide (d.nodes.length ≤ 10) && decide (d.arrs.length ≤ 12)) := by
 have e1 : d.nodes.all fewS = true := List.all_eq_true.2 fun o ho => by
  obtain ⟨j, hj⟩ := List.getElem?_of_mem ho
  exact h1 j o (List.getElem?_eq_some_iff.1 hj).1 hj
 have e2 : (d.arrs.all fun x => decide (x.mp.length ≤ 60)) = true := List.all_eq_true.2 fun x hx => by
  obtain ⟨j, hj⟩ := List.getElem?_of_mem hx
  have := h2 j x (List.getElem?_eq_some_iff.1 hj).1 hj
  simp; omega
 simp [fewD, e1, e2]
theorem fewM_a {l : List (List Int)} {k : Nat} {x : List Int} (h : l[k]? = some x) (h2 : (x.length : Int) > 60) : fewM l = false := by
 have : (l.all fun x => decide (x.length ≤ 60)) = false := List.all_eq_false.2 ⟨x, List.mem_of_getElem? h, by simp; omega⟩
 simp [fewM, this]
theorem fewM_ok {l : List (List Int)} (h2 : ∀ (j : Nat) (x : List Int), j < l.length → l[j]? = some x → ¬ (x.length : Int) > 60) : fewM l = decide ((l.length : Int) ≤ 10) := by
 have e2 : (l.all fun x => decide (x.length ≤ 60)) = true := List.all_eq_true.2 fun x hx => by
  obtain ⟨j, hj⟩ := List.getElem?_of_mem hx
  have := h2 j x (List.getElem?_eq_some_iff.1 hj).1 hj
  simp; omega
 unfold fewM
 rw [e2, Bool.true_and]
 simp only [decide_eq_decide]; omega
theorem r0z {d : Dia} (h : fewD d = true) : DiaLim d ∧ (∀ o ∈ d.nodes, o.pairs.length ≤ 1000) ∧ (∀ o ∈ d.nodes, o.labels.length ≤ 50) ∧ d.nodes.length ≤ 10 ∧ d.arrs.length ≤ 12 ∧ ∀ x ∈ d.arrs, x.mp.length ≤ 60 := by
 simp only [fewD, Bool.and_eq_true, List.all_eq_true, decide_eq_true_eq] at h
 obtain ⟨⟨h1, h2⟩, h3, h4⟩ := h
 exact ⟨⟨by omega, by omega, fun o ho => by have := n4z (h1 o ho); omega, fun o ho => by have := n4z (h1 o ho); omega, fun x hx => by have := h2 x hx; omega⟩, fun o ho => by have := n4z (h1 o ho); omega, fun o ho => (n4z (h1 o ho)).1, h3, h4, h2⟩
theorem x3x {l : List (List Int)} (h : fewM l = true) : l.length ≤ 10 ∧ ∀ x ∈ l, x.length ≤ 60 := by
 simp only [fewM, Bool.and_eq_true, List.all_eq_true, decide_eq_true_eq] at h
 exact ⟨h.2, h.1⟩
set_option maxRecDepth 20000 in
set_option maxHeartbeats 8000000 in
theorem known9_  : f7q Tryz.prog 4 [] (Bo true) := by
 refine b4q Tryz.func4 rfl fun s Q hQ => ?_
 obtain ⟨e, he, hl⟩ : ∃ e : Env, ([] ++ List.replicate (Tryz.f4.ntmps - ([] : List V).length) .junk) = e ∧ e.length = 111 := ⟨_, rfl, rfl⟩
 rw [he]
 clear he
 refine vsk fun K1 hK1 => ?_
 refine a3q 0 [] ?_
 simp only [bs, ↓vopx, ↓vop, a1q, flat, wocs, ↓goc, ↓woc, ↓a2q]
 refine hK1 _ _ ?_
 refine vsk fun K2 hK2 => ?_
 refine f4x 4 rfl ?_
 refine j3q 1 0 2 2 [] [] (by decide +kernel) (by decide) fun ops' KC hgs hKC => ?_
 simp only [bs, Nat.reduceLeDiff, Nat.reduceAdd, d9q, g7q, repl, Sg.frzP, ↓vopx, flat, Nat.reduceLT, V.cells, Sg.frzL, Sg.frz1, hl, wocs, ↓goc, ↓woc, ↓e3q, Tryz.sl26, Tryz.st29]
 refine hKC _ _ ?_
 clear hgs hKC KC ops'
 refine x4q fun e1_0 hE => ?_
 obtain ⟨hl1_0, q11⟩ : e1_0.length = 111 ∧ ev e1_0 (.tmp 11) = .agg [.t (.sl 1 [.v (.string k7x)]), .t (.v (.slice none 0 0))] := by
  (repeat' (with_reducible refine And.intro ?_ ?_)) <;> (rw [hE]; simp only [lpv, hl, a0q, Nat.reduceLT])
 clear hE
 refine j3q 1 2 2 0 [] [] (by decide +kernel) (by decide) fun ops' KC hgs hKC => ?_
 simp only [bs, Nat.reduceAdd, ↓vopx, ↓vop, Nat.reduceBEq, Nat.reduceLT, V.cells, hl1_0, q11, wocs, ↓goc, ↓woc, ↓e3q, Tryz.sz29, Tryz.zv29]
 refine hKC _ _ ?_
 clear hgs hKC KC ops'
 refine l4z ?_
 try simp only [a1q]
 refine hK2 _ _ ?_
 refine vsk fun K3 hK3 => ?_
 refine VW.nilBox (s.next) 1 2 (by omega) (ty := 29) (vs := [.t (.sl 1 [.v (.string k7x)]), .t (.v (.slice none 0 0))]) (by simp only [b9q, b7q, if_true]) rfl ?_
 refine x1q fun era hE => ?_
 obtain ⟨hlra, ra_1⟩ : era.length = 111 ∧ ev era (.tmp 1) = .ptr (s.next) 0 := by
  (repeat' (with_reducible refine And.intro ?_ ?_)) <;> (rw [hE]; simp only [lpv, hl1_0, a0q, Nat.reduceLT])
 clear hE
 refine p3q fun sra hS => ?_
 obtain ⟨raA, hnra⟩ : sra.m (s.next) = some (.box 29 [.t (.sl 1 [.v (.string k7x)]), .t (.sl 2 [])]) ∧ sra.next = s.next + 1 := by
  (repeat' (with_reducible refine And.intro ?_ ?_)) <;> (rw [hS]; simp only [b9q, b7q, if_true, List.set_cons_zero, List.set_cons_succ, c6q, h9q])
 have hkra : ∀ j, j < s.next → sra.m j = s.m j := fun j hj => by have z0 : ¬ j = s.next := (by omega); rw [hS]; simp only [b9q, b7q, z0, if_false]
 clear hS
 refine f4x 10 rfl ?_
 refine j3q 1 0 4 6 [] [] (by decide +kernel) (by decide) fun ops' KC hgs hKC => ?_
 simp only [bs, Nat.reduceLeDiff, Nat.reduceAdd, d9q, g7q, repl, Sg.frzP, ↓vopx, ↓vop, Nat.reduceBEq, Nat.reduceLT, V.cells, a8q, b0q, Sg.frzL, Sg.frz1, hlra, ra_1, raA, hnra, wocs, ↓goc, ↓woc, ↓e3q, Tryz.ag29, Tryz.sl22, Tryz.sz29, s6a, s6b, s6c, Nat.reduceMul]
 refine hKC _ _ ?_
 clear hgs hKC KC ops'
 refine x4q fun e2_0 hE => ?_
 obtain ⟨hl2_0, q15, q1⟩ : e2_0.length = 111 ∧ ev e2_0 (.tmp 15) = .t (.sl 2 [.sl 1 [.v (.string k7x)], .sl 2 [], .sl 1 [.v (.string k7x)], .sl 2 [], .sl 1 [.v (.string k7x)], .sl 2 []]) ∧ ev e2_0 (.tmp 1) = .ptr (s.next) 0 := by
  (repeat' (with_reducible refine And.intro ?_ ?_)) <;> (rw [hE]; simp only [lpv, hlra, a0q, Nat.reduceLT, a4q, Nat.reduceBEq, ra_1])
 clear hE
 refine j3q 1 4 3 3 [] [] (by decide +kernel) (by decide) fun ops' KC hgs hKC => ?_
 simp only [bs, Nat.reduceLeDiff, Nat.reduceAdd, d9q, g7q, repl, Sg.frzP, ↓vopx, flat, Nat.reduceLT, V.cells, Sg.frzL, Sg.frz1, hl2_0, hnra, wocs, ↓goc, ↓woc, ↓e3q, Tryz.sl40, Tryz.sl23, Tryz.st49, s3a, Nat.reduceMul]
 refine hKC _ _ ?_
 clear hgs hKC KC ops'
 refine x4q fun e2_1 hE => ?_
 obtain ⟨hl2_1, p15, p18, p1⟩ : e2_1.length = 111 ∧ ev e2_1 (.tmp 15) = .t (.sl 2 [.sl 1 [.v (.string k7x)], .sl 2 [], .sl 1 [.v (.string k7x)], .sl 2 [], .sl 1 [.v (.string k7x)], .sl 2 []]) ∧ ev e2_1 (.tmp 18) = .t (.sl 3 [.v (.int .i64 0), .v (.int .i64 1), .sl 1 [.v (.int .i64 0)]]) ∧ ev e2_1 (.tmp 1) = .ptr (s.next) 0 := by
  (repeat' (with_reducible refine And.intro ?_ ?_)) <;> (rw [hE]; simp only [lpv, hl2_0, a4q, Nat.reduceBEq, q15, a0q, Nat.reduceLT, q1])
 clear hE
 refine j3q 1 7 1 2 [] [] (by decide +kernel) (by decide) fun ops' KC hgs hKC => ?_
 simp only [bs, Nat.reduceLeDiff, Nat.reduceAdd, d9q, g7q, ↓vopx, V.cells, p15, p18, wocs, ↓goc, ↓woc, ↓e3q, Tryz.st25]
 refine hKC _ _ ?_
 clear hgs hKC KC ops'
 refine x4q fun e2_2 hE => ?_
 obtain ⟨hl2_2, t19, t1⟩ : e2_2.length = 111 ∧ ev e2_2 (.tmp 19) = .agg [.t (.sl 2 [.sl 1 [.v (.string k7x)], .sl 2 [], .sl 1 [.v (.string k7x)], .sl 2 [], .sl 1 [.v (.string k7x)], .sl 2 []]), .t (.sl 3 [.v (.int .i64 0), .v (.int .i64 1), .sl 1 [.v (.int .i64 0)]])] ∧ ev e2_2 (.tmp 1) = .ptr (s.next) 0 := by
  (repeat' (with_reducible refine And.intro ?_ ?_)) <;> (rw [hE]; simp only [lpv, hl2_1, a0q, Nat.reduceLT, a4q, Nat.reduceBEq, p1])
 clear hE
 refine j3q 1 8 2 0 [] [] (by decide +kernel) (by decide) fun ops' KC hgs hKC => ?_
 simp only [bs, Nat.reduceAdd, ↓vopx, ↓vop, Nat.reduceBEq, Nat.reduceLT, V.cells, hl2_2, t19, hnra, wocs, ↓goc, ↓woc, ↓e3q, Tryz.sz25, Tryz.zv25]
 refine hKC _ _ ?_
 clear hgs hKC KC ops'
 refine l4z ?_
 try simp only [a1q]
 refine hK3 _ _ ?_
 refine vsk fun K4 hK4 => ?_
 refine x1q fun erb hE => ?_
 obtain ⟨hlrb, rb_1, rb_2⟩ : erb.length = 111 ∧ ev erb (.tmp 1) = .ptr (s.next) 0 ∧ ev erb (.tmp 2) = .ptr (s.next + 1) 0 := by
  (repeat' (with_reducible refine And.intro ?_ ?_)) <;> (rw [hE]; simp only [lpv, hl2_2, a4q, Nat.reduceBEq, t1, a0q, Nat.reduceLT])
 clear hE
 refine p3q fun srb hS => ?_
 obtain ⟨rbA, rbB, hnrb⟩ : srb.m (s.next) = some (.box 29 [.t (.sl 1 [.v (.string k7x)]), .t (.sl 2 [])]) ∧ srb.m (s.next + 1) = some (.box 25 [.t (.sl 2 [.sl 1 [.v (.string k7x)], .sl 2 [], .sl 1 [.v (.string k7x)], .sl 2 [], .sl 1 [.v (.string k7x)], .sl 2 []]), .t (.sl 3 [.v (.int .i64 0), .v (.int .i64 1), .sl 1 [.v (.int .i64 0)]])]) ∧ srb.next = s.next + 1 + 1 := by
  (repeat' (with_reducible refine And.intro ?_ ?_)) <;> (rw [hS]; simp only [b9q, b7q, nns, if_false, raA, hnra, if_true, c6q, h9q])
 have hkrb : ∀ j, j < s.next → srb.m j = s.m j := fun j hj => by have z0 : ¬ j = s.next := (by omega); have z1 : ¬ j = s.next + 1 := (by omega); rw [hS]; simp only [b9q, b7q, hnra, z1, if_false, hkra j hj]
 clear hS
 refine a3q 1 [.pur (.tup [vObj k9Q, .t (.sl 1 [.sl 1 [.v (.int .i64 0)], .sl 1 [.v (.int .i64 0)], .sl 1 [.v (.int .i64 1)]]), I 0])] ?_
 simp only [bs, Nat.reduceAdd, ↓vopx, ↓vop, Nat.reduceBEq, a1q, Nat.reduceLT, V.cells, a8q, b0q, hlrb, rb_2, rbB, hnrb, wocs, ↓goc, ↓woc, ↓e3q, ↓b8q, a6q, Tryz.ag25, Tryz.sz29, Tryz.sz25, Tryz.zv29]
 repeat ((with_reducible refine And.intro ?_ ?_); · exact ⟨Tryz.is8, kc9_of⟩)
 refine hK4 _ _ ?_
 refine vsk fun K5 hK5 => ?_
 refine x1q fun erc hE => ?_
 obtain ⟨hlrc, rc_1, rc_2, rc_3, rc_4, rc_5⟩ : erc.length = 111 ∧ ev erc (.tmp 1) = .ptr (s.next) 0 ∧ ev erc (.tmp 2) = .ptr (s.next + 1) 0 ∧ ev erc (.tmp 3) = .ptr (s.next + 1 + 1) 0 ∧ ev erc (.tmp 4) = .t (.sl 1 [.sl 1 [.v (.int .i64 0)], .sl 1 [.v (.int .i64 0)], .sl 1 [.v (.int .i64 1)]]) ∧ ev erc (.tmp 5) = I 0 := by
  (repeat' (with_reducible refine And.intro ?_ ?_)) <;> (rw [hE]; simp only [lpv, hlrb, a4q, Nat.reduceBEq, rb_1, rb_2, a0q, Nat.reduceLT])
 clear hE
 refine p3q fun src hS => ?_
 obtain ⟨rcA, rcB, rcC, hnrc⟩ : src.m (s.next) = some (.box 29 [.t (.sl 1 [.v (.string k7x)]), .t (.sl 2 [])]) ∧ src.m (s.next + 1) = some (.box 25 [.t (.sl 2 [.sl 1 [.v (.string k7x)], .sl 2 [], .sl 1 [.v (.string k7x)], .sl 2 [], .sl 1 [.v (.string k7x)], .sl 2 []]), .t (.sl 3 [.v (.int .i64 0), .v (.int .i64 1), .sl 1 [.v (.int .i64 0)]])]) ∧ src.m (s.next + 1 + 1) = some (.box 29 [.t (d1q [k7x, k7x]), .t (b3q [])]) ∧ src.next = s.next + 1 + 1 + 1 := by
  (repeat' (with_reducible refine And.intro ?_ ?_)) <;> (rw [hS]; simp only [b9q, b7q, nns, if_false, rbA, hnrb, rbB, if_true, c6q, h9q])
 have hkrc : ∀ j, j < s.next → src.m j = s.m j := fun j hj => by have z0 : ¬ j = s.next := (by omega); have z1 : ¬ j = s.next + 1 := (by omega); have z2 : ¬ j = s.next + 1 + 1 := (by omega); rw [hS]; simp only [b9q, b7q, hnrb, z2, if_false, hkrb j hj]
 clear hS
 refine a3q 1 [.pur (.tup [.t (c0q [0, 0]), I 0])] ?_
 simp only [bs, Nat.reduceLeDiff, Nat.reduceAdd, d9q, g7q, repl, Sg.frzP, ↓vopx, ↓vop, Nat.reduceBEq, a1q, flat, Nat.reduceLT, V.cells, a8q, b0q, Sg.frzL, Sg.frz1, hlrc, rc_1, rc_2, rcA, rcB, hnrc, wocs, ↓goc, ↓woc, ↓e3q, ↓b8q, a6q, Tryz.ag29, Tryz.ag25, Tryz.sl40, Tryz.sl30, Tryz.sz29, Tryz.sz25, nns]
 repeat ((with_reducible refine And.intro ?_ ?_); · exact ⟨Tryz.is10, kc9_m1⟩)
 refine hK5 _ _ ?_
 refine vsk fun K6 hK6 => ?_
 refine x1q fun erd hE => ?_
 obtain ⟨hlrd, rd_1, rd_2, rd_3, rd_4, rd_5, rd_6, rd_7⟩ : erd.length = 111 ∧ ev erd (.tmp 1) = .ptr (s.next) 0 ∧ ev erd (.tmp 2) = .ptr (s.next + 1) 0 ∧ ev erd (.tmp 3) = .ptr (s.next + 1 + 1) 0 ∧ ev erd (.tmp 4) = .t (.sl 1 [.sl 1 [.v (.int .i64 0)], .sl 1 [.v (.int .i64 0)], .sl 1 [.v (.int .i64 1)]]) ∧ ev erd (.tmp 5) = I 0 ∧ ev erd (.tmp 6) = .t (c0q [0, 0]) ∧ ev erd (.tmp 7) = I 0 := by
  (repeat' (with_reducible refine And.intro ?_ ?_)) <;> (rw [hE]; simp only [lpv, hlrc, a4q, Nat.reduceBEq, rc_1, rc_2, rc_3, rc_4, rc_5, a0q, Nat.reduceLT])
 clear hE
 refine p3q fun srd hS => ?_
 obtain ⟨rdA, rdB, rdC, hnrd⟩ : srd.m (s.next) = some (.box 29 [.t (.sl 1 [.v (.string k7x)]), .t (.sl 2 [])]) ∧ srd.m (s.next + 1) = some (.box 25 [.t (.sl 2 [.sl 1 [.v (.string k7x)], .sl 2 [], .sl 1 [.v (.string k7x)], .sl 2 [], .sl 1 [.v (.string k7x)], .sl 2 []]), .t (.sl 3 [.v (.int .i64 0), .v (.int .i64 1), .sl 1 [.v (.int .i64 0)]])]) ∧ srd.m (s.next + 1 + 1) = some (.box 29 [.t (d1q [k7x, k7x]), .t (b3q [])]) ∧ srd.next = s.next + 1 + 1 + 1 := by
  (repeat' (with_reducible refine And.intro ?_ ?_)) <;> (rw [hS]; simp only [rcA, rcB, rcC, hnrc])
 have hkrd : ∀ j, j < s.next → srd.m j = s.m j := fun j hj => by have z0 : ¬ j = s.next := (by omega); have z1 : ¬ j = s.next + 1 := (by omega); have z2 : ¬ j = s.next + 1 + 1 := (by omega); rw [hS]; simp only [hkrc j hj]
 clear hS
 refine a3q 1 [.pur (.tup [.t (c0q []), I 12])] ?_
 simp only [bs, Nat.reduceLeDiff, Nat.reduceAdd, d9q, g7q, repl, Sg.frzP, ↓vopx, ↓vop, Nat.reduceBEq, a1q, flat, Nat.reduceLT, V.cells, a8q, b0q, Sg.frzL, Sg.frz1, hlrd, rd_1, rd_2, rdA, rdB, hnrd, wocs, ↓goc, ↓woc, ↓e3q, ↓b8q, a6q, Tryz.ag29, Tryz.ag25, Tryz.sl40, Tryz.sl30, Tryz.sz29, Tryz.sz25, nns]
 repeat ((with_reducible refine And.intro ?_ ?_); · exact ⟨Tryz.is10, kc9_m2⟩)
 refine hK6 _ _ ?_
 refine vsk fun K7 hK7 => ?_
 refine x1q fun ere hE => ?_
 obtain ⟨hlre, re_1, re_2, re_3, re_4, re_5, re_6, re_7, re_9⟩ : ere.length = 111 ∧ ev ere (.tmp 1) = .ptr (s.next) 0 ∧ ev ere (.tmp 2) = .ptr (s.next + 1) 0 ∧ ev ere (.tmp 3) = .ptr (s.next + 1 + 1) 0 ∧ ev ere (.tmp 4) = .t (.sl 1 [.sl 1 [.v (.int .i64 0)], .sl 1 [.v (.int .i64 0)], .sl 1 [.v (.int .i64 1)]]) ∧ ev ere (.tmp 5) = I 0 ∧ ev ere (.tmp 6) = .t (c0q [0, 0]) ∧ ev ere (.tmp 7) = I 0 ∧ ev ere (.tmp 9) = I 12 := by
  (repeat' (with_reducible refine And.intro ?_ ?_)) <;> (rw [hE]; simp only [lpv, hlrd, a4q, Nat.reduceBEq, rd_1, rd_2, rd_3, rd_4, rd_5, rd_6, rd_7, a0q, Nat.reduceLT])
 clear hE
 refine p3q fun sre hS => ?_
 obtain ⟨reA, reB, reC, hnre⟩ : sre.m (s.next) = some (.box 29 [.t (.sl 1 [.v (.string k7x)]), .t (.sl 2 [])]) ∧ sre.m (s.next + 1) = some (.box 25 [.t (.sl 2 [.sl 1 [.v (.string k7x)], .sl 2 [], .sl 1 [.v (.string k7x)], .sl 2 [], .sl 1 [.v (.string k7x)], .sl 2 []]), .t (.sl 3 [.v (.int .i64 0), .v (.int .i64 1), .sl 1 [.v (.int .i64 0)]])]) ∧ sre.m (s.next + 1 + 1) = some (.box 29 [.t (d1q [k7x, k7x]), .t (b3q [])]) ∧ sre.next = s.next + 1 + 1 + 1 := by
  (repeat' (with_reducible refine And.intro ?_ ?_)) <;> (rw [hS]; simp only [rdA, rdB, rdC, hnrd])
 have hkre : ∀ j, j < s.next → sre.m j = s.m j := fun j hj => by have z0 : ¬ j = s.next := (by omega); have z1 : ¬ j = s.next + 1 := (by omega); have z2 : ¬ j = s.next + 1 + 1 := (by omega); rw [hS]; simp only [hkrd j hj]
 clear hS
 refine f4x 67 rfl ?_
 refine j3q 1 0 9 58 [(2, 47)] [] (by decide +kernel) (by decide) fun ops' KC hgs hKC => ?_
 have g2_ : gtmp ops' 2 = some 47 := hgs (2, 47) (by simp)
 simp only [bs, Nat.reduceAdd, ↓vopx, ↓vop, Nat.reduceBEq, flat, Nat.reduceLT, a8q, b0q, opII, hlre, re_3, re_5, reC, g2_, wocs, ↓goc, ↓woc, ↓e3q, ↓h3q, Tryz.ag26, Tryz.fd29_0, Tryz.sz26, Tryz.un26, nns, g6z, nd2', beq_self_eq_true, List.append_eq]
 refine hKC _ _ ?_
 clear g2_
 clear hgs hKC KC ops'
 refine x4q fun e6_0 hE => ?_
 obtain ⟨hl6_0, s1_1, s1_2, s1_3, s1_4, s1_5, s1_6, s1_7, s1_9, s1_g⟩ : e6_0.length = 111 ∧ ev e6_0 (.tmp 1) = .ptr (s.next) 0 ∧ ev e6_0 (.tmp 2) = .ptr (s.next + 1) 0 ∧ ev e6_0 (.tmp 3) = .ptr (s.next + 1 + 1) 0 ∧ ev e6_0 (.tmp 4) = .t (.sl 1 [.sl 1 [.v (.int .i64 0)], .sl 1 [.v (.int .i64 0)], .sl 1 [.v (.int .i64 1)]]) ∧ ev e6_0 (.tmp 5) = I 0 ∧ ev e6_0 (.tmp 6) = .t (c0q [0, 0]) ∧ ev e6_0 (.tmp 7) = I 0 ∧ ev e6_0 (.tmp 9) = I 12 ∧ ev e6_0 (.tmp 53) = Bo true := by
  (repeat' (with_reducible refine And.intro ?_ ?_)) <;> (rw [hE]; simp only [lpv, hlre, a4q, Nat.reduceBEq, re_1, re_2, re_3, re_4, re_5, re_6, re_7, re_9, a0q, Nat.reduceLT])
 clear hE
 refine j3q 1 9 12 46 [(8, 53), (13, 58)] [] (by decide +kernel) (by decide) fun ops' KC hgs hKC => ?_
 have g8_ : gtmp ops' 8 = some 53 := hgs (8, 53) (by simp)
 have g13_ : gtmp ops' 13 = some 58 := hgs (13, 58) (by simp)
 simp only [bs, Nat.reduceAdd, ↓vopx, ↓vop, Nat.reduceBEq, flat, Nat.reduceLT, a8q, b0q, opII, hl6_0, s1_4, s1_g, g8_, g13_, wocs, ↓goc, ↓woc, ↓e3q, ↓h3q, Tryz.ag40, Tryz.sz40, Tryz.un40, Tryz.un30, g6z, nd1', nd3', Int.toNat_one, beq_self_eq_true, List.append_eq]
 repeat ((with_reducible refine And.intro ?_ ?_); · omega)
 refine hKC _ _ ?_
 clear g8_
 clear g13_
 clear hgs hKC KC ops'
 refine x4q fun e6_1 hE => ?_
 obtain ⟨hl6_1, s2_1, s2_2, s2_3, s2_4, s2_5, s2_6, s2_7, s2_9, s2_g⟩ : e6_1.length = 111 ∧ ev e6_1 (.tmp 1) = .ptr (s.next) 0 ∧ ev e6_1 (.tmp 2) = .ptr (s.next + 1) 0 ∧ ev e6_1 (.tmp 3) = .ptr (s.next + 1 + 1) 0 ∧ ev e6_1 (.tmp 4) = .t (.sl 1 [.sl 1 [.v (.int .i64 0)], .sl 1 [.v (.int .i64 0)], .sl 1 [.v (.int .i64 1)]]) ∧ ev e6_1 (.tmp 5) = I 0 ∧ ev e6_1 (.tmp 6) = .t (c0q [0, 0]) ∧ ev e6_1 (.tmp 7) = I 0 ∧ ev e6_1 (.tmp 9) = I 12 ∧ ev e6_1 (.tmp 65) = Bo true := by
  (repeat' (with_reducible refine And.intro ?_ ?_)) <;> (rw [hE]; simp only [lpv, hl6_0, a4q, Nat.reduceBEq, s1_1, s1_2, s1_3, s1_4, s1_5, s1_6, s1_7, s1_9, a0q, Nat.reduceLT])
 clear hE
 refine j3q 1 21 15 31 [(20, 65), (27, 72)] [] (by decide +kernel) (by decide) fun ops' KC hgs hKC => ?_
 have g20_ : gtmp ops' 20 = some 65 := hgs (20, 65) (by simp)
 have g27_ : gtmp ops' 27 = some 72 := hgs (27, 72) (by simp)
 simp only [bs, Nat.reduceAdd, ↓vopx, ↓vop, Nat.reduceBEq, flat, Nat.reduceLT, a8q, b0q, opII, hl6_1, s2_4, s2_g, g20_, g27_, wocs, ↓goc, ↓woc, ↓e3q, ↓h3q, Tryz.ag40, Tryz.ag3, Tryz.sz40, Tryz.sz3, Tryz.un40, Tryz.un30, g6z, nd1', Int.toNat_zero, Int.toNat_one, beq_self_eq_true, List.append_eq, tn2]
 repeat ((with_reducible refine And.intro ?_ ?_); · omega)
 refine hKC _ _ ?_
 clear g20_
 clear g27_
 clear hgs hKC KC ops'
 refine x4q fun e6_2 hE => ?_
 obtain ⟨hl6_2, s3_1, s3_2, s3_3, s3_4, s3_5, s3_6, s3_7, s3_9, s3_g⟩ : e6_2.length = 111 ∧ ev e6_2 (.tmp 1) = .ptr (s.next) 0 ∧ ev e6_2 (.tmp 2) = .ptr (s.next + 1) 0 ∧ ev e6_2 (.tmp 3) = .ptr (s.next + 1 + 1) 0 ∧ ev e6_2 (.tmp 4) = .t (.sl 1 [.sl 1 [.v (.int .i64 0)], .sl 1 [.v (.int .i64 0)], .sl 1 [.v (.int .i64 1)]]) ∧ ev e6_2 (.tmp 5) = I 0 ∧ ev e6_2 (.tmp 6) = .t (c0q [0, 0]) ∧ ev e6_2 (.tmp 7) = I 0 ∧ ev e6_2 (.tmp 9) = I 12 ∧ ev e6_2 (.tmp 80) = Bo true := by
  (repeat' (with_reducible refine And.intro ?_ ?_)) <;> (rw [hE]; simp only [lpv, hl6_1, a4q, Nat.reduceBEq, s2_1, s2_2, s2_3, s2_4, s2_5, s2_6, s2_7, s2_9, a0q, Nat.reduceLT])
 clear hE
 refine j3q 1 36 12 19 [(35, 80), (43, 88)] [] (by decide +kernel) (by decide) fun ops' KC hgs hKC => ?_
 have g35_ : gtmp ops' 35 = some 80 := hgs (35, 80) (by simp)
 have g43_ : gtmp ops' 43 = some 88 := hgs (43, 88) (by simp)
 simp only [bs, Nat.reduceAdd, ↓vopx, ↓vop, Nat.reduceBEq, flat, Nat.reduceLT, a8q, b0q, opII, hl6_2, s3_4, s3_7, s3_g, g35_, g43_, wocs, ↓goc, ↓woc, ↓e3q, ↓h3q, Tryz.ag40, Tryz.ag3, Tryz.sz40, Tryz.sz3, Tryz.un40, Tryz.un30, Int.toNat_zero, beq_self_eq_true, List.append_eq, tn2]
 repeat ((with_reducible refine And.intro ?_ ?_); · omega)
 refine hKC _ _ ?_
 clear g35_
 clear g43_
 clear hgs hKC KC ops'
 refine x4q fun e6_3 hE => ?_
 obtain ⟨hl6_3, s4_1, s4_2, s4_3, s4_4, s4_5, s4_6, s4_7, s4_9, s4_g⟩ : e6_3.length = 111 ∧ ev e6_3 (.tmp 1) = .ptr (s.next) 0 ∧ ev e6_3 (.tmp 2) = .ptr (s.next + 1) 0 ∧ ev e6_3 (.tmp 3) = .ptr (s.next + 1 + 1) 0 ∧ ev e6_3 (.tmp 4) = .t (.sl 1 [.sl 1 [.v (.int .i64 0)], .sl 1 [.v (.int .i64 0)], .sl 1 [.v (.int .i64 1)]]) ∧ ev e6_3 (.tmp 5) = I 0 ∧ ev e6_3 (.tmp 6) = .t (c0q [0, 0]) ∧ ev e6_3 (.tmp 7) = I 0 ∧ ev e6_3 (.tmp 9) = I 12 ∧ ev e6_3 (.tmp 92) = Bo true := by
  (repeat' (with_reducible refine And.intro ?_ ?_)) <;> (rw [hE]; simp only [lpv, hl6_2, a4q, Nat.reduceBEq, s3_1, s3_2, s3_3, s3_4, s3_5, s3_6, s3_7, s3_9, a0q, Nat.reduceLT])
 clear hE
 refine j3q 1 48 13 6 [(47, 92), (52, 97), (56, 101)] [.pur (Bo true)] (by decide +kernel) (by decide) fun ops' KC hgs hKC => ?_
 have g47_ : gtmp ops' 47 = some 92 := hgs (47, 92) (by simp)
 have g52_ : gtmp ops' 52 = some 97 := hgs (52, 97) (by simp)
 have g56_ : gtmp ops' 56 = some 101 := hgs (56, 101) (by simp)
 simp only [bs, Nat.reduceAdd, ↓vopx, ↓vop, Nat.reduceBEq, flat, Nat.reduceLT, a8q, b0q, opII, hl6_3, s4_2, s4_6, s4_9, s4_g, reB, g47_, g52_, g56_, wocs, ↓goc, ↓woc, ↓e3q, ↓b8q, ↓h3q, a6q, Tryz.ag25, Tryz.sz25, g6z, Tryz.underlying40, nd2', beq_self_eq_true, c0q, List.append_eq]
 repeat ((with_reducible refine And.intro ?_ ?_); · exact ⟨Tryz.is14, kc9_d⟩)
 refine hKC _ _ ?_
 clear g47_
 clear g52_
 clear g56_
 clear hgs hKC KC ops'
 refine x4q fun e6_4 hE => ?_
 obtain ⟨hl6_4, s5_1, s5_2, s5_3, s5_4, s5_5, s5_6, s5_7, s5_9, s5_g⟩ : e6_4.length = 111 ∧ ev e6_4 (.tmp 1) = .ptr (s.next) 0 ∧ ev e6_4 (.tmp 2) = .ptr (s.next + 1) 0 ∧ ev e6_4 (.tmp 3) = .ptr (s.next + 1 + 1) 0 ∧ ev e6_4 (.tmp 4) = .t (.sl 1 [.sl 1 [.v (.int .i64 0)], .sl 1 [.v (.int .i64 0)], .sl 1 [.v (.int .i64 1)]]) ∧ ev e6_4 (.tmp 5) = I 0 ∧ ev e6_4 (.tmp 6) = .t (c0q [0, 0]) ∧ ev e6_4 (.tmp 7) = I 0 ∧ ev e6_4 (.tmp 9) = I 12 ∧ ev e6_4 (.tmp 105) = Bo true := by
  (repeat' (with_reducible refine And.intro ?_ ?_)) <;> (rw [hE]; simp only [lpv, hl6_3, a4q, Nat.reduceBEq, s4_1, s4_2, s4_3, s4_4, s4_5, s4_6, s4_7, s4_9, a0q, Nat.reduceLT])
 clear hE
 refine j3q 1 61 6 0 [(60, 105)] [.pur (Bo true)] (by decide +kernel) (by decide) fun ops' KC hgs hKC => ?_
 have g60_ : gtmp ops' 60 = some 105 := hgs (60, 105) (by simp)
 simp only [bs, Nat.reduceAdd, ↓vopx, ↓vop, Nat.reduceBEq, flat, Nat.reduceLT, a8q, b0q, hl6_4, s5_2, s5_3, s5_4, s5_g, reB, reC, g60_, wocs, ↓goc, ↓woc, ↓e3q, ↓b8q, ↓h3q, a6q, Tryz.ag29, Tryz.ag25, Tryz.sz29, Tryz.sz25, List.append_eq]
 repeat ((with_reducible refine And.intro ?_ ?_); · exact ⟨Tryz.is16, kc9_l⟩)
 refine hKC _ _ ?_
 clear g60_
 clear hgs hKC KC ops'
 refine l4z ?_
 try simp only [a1q]
 refine hK7 _ _ ?_
 refine b1q ?_
 refine hQ _ _ _ (.inr rfl) (a7q ?_ fun n b hn h => (hkre n hn).trans h)
 try simp only [a0q, lpv, hl6_4, Nat.reduceLT]
set_option maxRecDepth 20000 in
set_option maxHeartbeats 4000000 in
theorem q9z (d : Dia) (L : DiaBig d) : f7q Tryz.prog 5 [vDia d] (Bo (fewD d)) := by
 refine b4q Tryz.func5 rfl fun s Q hQ => ?_
 obtain ⟨e, he, hl, h0⟩ : ∃ e : Env, ([vDia d] ++ List.replicate (Tryz.f5.ntmps - ([vDia d] : List V).length) .junk) = e ∧ e.length = 44 ∧ ev e (.tmp 0) = vDia d := ⟨_, rfl, rfl, rfl⟩
 rw [he]
 clear he
 have Ln := L.n
 have Lm := L.m
 refine vsk fun K1 hK1 => ?_
 refine a3q 0 [] ?_
 simp only [bs, ↓vopx, ↓vop, a1q, flat, V.cells, h0, wocs, ↓goc, ↓woc, ↓a2q]
 refine hK1 _ _ ?_
 refine vsk fun K2 hK2 => ?_
 refine vsk fun K3 hK3 => ?_
 refine a3q 0 [] ?_
 simp only [bs, ↓vopx, ↓vop, a1q, flat, wocs, ↓goc, ↓woc, ↓a2q]
 refine hK3 _ _ ?_
 refine a5q ?_
 refine c2q (fun mm e' s' => ∃ k : Nat, mm = d.nodes.length - k ∧ k ≤ d.nodes.length ∧ e'.length = 44 ∧ ev e' (.tmp 1) = .ptr s.next 0 ∧ ev e' (.tmp 3) = I k ∧ s' = s.add (.box 25 [.t (h1q d.nodes), .t (tArs d.arrs)]) ∧ ∀ (j : Nat) (o : Ob), j < k → d.nodes[j]? = some o → fewS o = true) (⟨0, rfl, Nat.zero_le _, ?_⟩) ?_
 ·try simp only [a0q, a4q, Nat.reduceBEq, lpv, hl, Nat.reduceLT, true_and]
  repeat ((with_reducible refine And.intro ?_ ?_); · trivial)
  exact fun j o hj _ => absurd hj (by omega)
 rintro mm e _ ⟨k, rfl, hle_k, hl, k1, h_k, rfl, hal1⟩
 refine vsk fun K4 hK4 => ?_
 refine vsk fun K5 hK5 => ?_
 refine a3q 0 [] ?_
 simp only [bs, ↓vopx, ↓vop, Nat.reduceBEq, a1q, Nat.reduceLT, a8q, b0q, opII, hl, k1, h_k, wocs, ↓goc, ↓woc, ↓a2q, Tryz.ag22, Tryz.fd25_0, Tryz.sz22, Tryz.un22, d5q, nns]
 refine hK5 _ _ ?_
 refine vck fun A B hA hB => ?_
 simp only [b2q, a0q, lpv, Nat.reduceLT, decide_eq_true_eq, decide_eq_false_iff_not, hl]
 refine ⟨fun hc9 => hA ?_, fun hc9 => hB ?_⟩
 ·clear hA hB A B
  refine a9q ?_
  refine hK4 _ _ ?_
  refine vsk fun K6 hK6 => ?_
  refine a5q ?_
  refine vsk fun K7 hK7 => ?_
  have hlt : k < d.nodes.length := by omega
  obtain ⟨o, ho⟩ : ∃ o, d.nodes[k]? = some o := ⟨_, List.getElem?_eq_getElem hlt⟩
  have g0 := d8z ho
  have hfl := f6q d.nodes
  have hi2 : k * 2 < d.nodes.length * 2 := by omega
  have o1 := L.o1 o (List.mem_of_getElem? ho)
  have o2 := L.o2 o (List.mem_of_getElem? ho)
  refine a3q 0 [.pur (Bo (fewS o))] ?_
  simp only [bs, Nat.reduceAdd, ↓vopx, ↓vop, Nat.reduceBEq, a1q, Nat.reduceLT, a8q, b0q, hl, k1, h_k, wocs, ↓goc, ↓woc, ↓a2q, ↓b8q, a6q, Tryz.ag29, Tryz.ag22, Tryz.fd25_0, Tryz.sz29, Tryz.sz22, Tryz.un22, nns, g0, hfl, hi2]
  repeat ((with_reducible refine And.intro ?_ ?_); · exact ⟨Tryz.is6, x2x o (by omega) (by omega)⟩)
  refine hK7 _ _ ?_
  refine vck fun A B hA hB => ?_
  simp only [b2q, a0q, lpv, Nat.reduceLT, Bool.not_eq_true', Bool.not_eq_false', hl]
  refine ⟨fun hc18 => hA ?_, fun hc18 => hB ?_⟩
  ·clear hA hB A B
   refine vsk fun K8 hK8 => ?_
   refine a3q 0 [] ?_
   simp only [bs, ↓vopx, ↓vop, a1q, flat, wocs, ↓goc, ↓woc, ↓a2q]
   refine hK8 _ _ ?_
   refine b1q ?_
   rw [fewD_o ho hc18] at hQ
   refine hQ _ _ _ (.inr rfl) (a7q ?_ fun n b hn h => by rw [b7q, if_neg (by omega)]; exact h)
   try simp only [a0q, lpv, hl, Nat.reduceLT]
  ·clear hA hB A B
   refine a9q ?_
   refine hK6 _ _ ?_
   refine a3q 0 [] ?_
   simp only [bs, ↓vopx, ↓vop, Nat.reduceBEq, a1q, flat, Nat.reduceLT, opII, hl, k1, h_k, wocs, ↓goc, ↓woc, ↓a2q]
   repeat ((with_reducible refine And.intro ?_ ?_); · exact ⟨by omega, by omega⟩)
   refine ⟨d.nodes.length - (k + 1), by omega, k + 1, rfl, by omega, ?_⟩
   try simp only [a0q, a4q, Nat.reduceBEq, lpv, hl, k1, h_k, if_true, if_false, Nat.reduceEqDiff, Nat.reduceLT, true_and, and_true]
   repeat ((with_reducible refine And.intro ?_ ?_); · trivial)
   intro j o2 hj ho2
   rcases Nat.lt_succ_iff_lt_or_eq.1 hj with h | h
   ·exact hal1 j o2 h ho2
   ·subst h; rw [ho] at ho2; cases ho2; exact hc18
 ·clear hA hB A B
  have hka : k = d.nodes.length := by omega
  refine c1q ?_
  simp only [a1q, b5q, if_true]
  refine hK2 _ _ ?_
  refine vsk fun K9 hK9 => ?_
  refine vsk fun K10 hK10 => ?_
  refine a3q 0 [] ?_
  simp only [bs, ↓vopx, ↓vop, a1q, flat, wocs, ↓goc, ↓woc, ↓a2q]
  refine hK10 _ _ ?_
  refine a5q ?_
  refine c2q (fun mm e' s' => ∃ k : Nat, mm = d.arrs.length - k ∧ k ≤ d.arrs.length ∧ e'.length = 44 ∧ ev e' (.tmp 1) = .ptr s.next 0 ∧ ev e' (.tmp 4) = I k ∧ s' = s.add (.box 25 [.t (h1q d.nodes), .t (tArs d.arrs)]) ∧ ∀ (j : Nat) (x : Ar), j < k → d.arrs[j]? = some x → ¬ (x.mp.length : Int) > 60) (⟨0, rfl, Nat.zero_le _, ?_⟩) ?_
  ·try simp only [a0q, a4q, Nat.reduceBEq, lpv, hl, k1, Nat.reduceLT, true_and]
   repeat ((with_reducible refine And.intro ?_ ?_); · trivial)
   exact fun j x hj _ => absurd hj (by omega)
  rintro mm e _ ⟨k, rfl, hle_k, hl, q1, h_k, rfl, hal2⟩
  refine vsk fun K11 hK11 => ?_
  refine vsk fun K12 hK12 => ?_
  refine a3q 0 [] ?_
  simp only [bs, ↓vopx, ↓vop, Nat.reduceBEq, a1q, Nat.reduceLT, a8q, b0q, opII, hl, q1, h_k, wocs, ↓goc, ↓woc, ↓a2q, Tryz.ag23, Tryz.fd25_1, Tryz.sz23, Tryz.un23, i0q, nns]
  refine hK12 _ _ ?_
  refine vck fun A B hA hB => ?_
  simp only [b2q, a0q, lpv, Nat.reduceLT, decide_eq_true_eq, decide_eq_false_iff_not, hl]
  refine ⟨fun hc23 => hA ?_, fun hc23 => hB ?_⟩
  ·clear hA hB A B
   refine a9q ?_
   refine hK11 _ _ ?_
   refine vsk fun K13 hK13 => ?_
   refine a5q ?_
   refine vsk fun K14 hK14 => ?_
   have hlt : k < d.arrs.length := by omega
   obtain ⟨x, hx⟩ : ∃ x, d.arrs[k]? = some x := ⟨_, List.getElem?_eq_getElem hlt⟩
   have g0 := g8x hx
   have hfl := i6q d.arrs
   have hi2 : k * 3 < d.arrs.length * 3 := by omega
   have hi3 : k * 3 + 2 < d.arrs.length * 3 := by omega
   have xa := L.a x (List.mem_of_getElem? hx)
   have g1 := getA2 hx
   refine a3q 0 [] ?_
   simp only [bs, ↓vopx, ↓vop, Nat.reduceBEq, a1q, flat, Nat.reduceLT, a8q, b0q, opII, hl, q1, h_k, wocs, ↓goc, ↓woc, ↓a2q, Tryz.ag40, Tryz.ag23, Tryz.fd25_1, Tryz.fd49_2, Tryz.sz40, Tryz.sz23, Tryz.sz49, Tryz.un40, Tryz.un23, e2q, nns, g1, hfl, hi2]
   refine hK14 _ _ ?_
   refine vck fun A B hA hB => ?_
   simp only [b2q, a0q, lpv, Nat.reduceLT, decide_eq_true_eq, decide_eq_false_iff_not, hl]
   refine ⟨fun hc33 => hA ?_, fun hc33 => hB ?_⟩
   ·clear hA hB A B
    refine vsk fun K15 hK15 => ?_
    refine a3q 0 [] ?_
    simp only [bs, ↓vopx, ↓vop, a1q, flat, wocs, ↓goc, ↓woc, ↓a2q]
    refine hK15 _ _ ?_
    refine b1q ?_
    rw [fewD_a hx hc33] at hQ
    refine hQ _ _ _ (.inr rfl) (a7q ?_ fun n b hn h => by rw [b7q, if_neg (by omega)]; exact h)
    try simp only [a0q, lpv, hl, Nat.reduceLT]
   ·clear hA hB A B
    refine a9q ?_
    refine hK13 _ _ ?_
    refine a3q 0 [] ?_
    simp only [bs, ↓vopx, ↓vop, Nat.reduceBEq, a1q, flat, Nat.reduceLT, opII, hl, q1, h_k, wocs, ↓goc, ↓woc, ↓a2q]
    repeat ((with_reducible refine And.intro ?_ ?_); · exact ⟨by omega, by omega⟩)
    refine ⟨d.arrs.length - (k + 1), by omega, k + 1, rfl, by omega, ?_⟩
    try simp only [a0q, a4q, Nat.reduceBEq, lpv, hl, q1, h_k, if_true, if_false, Nat.reduceEqDiff, Nat.reduceLT, true_and, and_true]
    repeat ((with_reducible refine And.intro ?_ ?_); · trivial)
    intro j x2 hj hx2
    rcases Nat.lt_succ_iff_lt_or_eq.1 hj with h | h
    ·exact hal2 j x2 h hx2
    ·subst h; rw [hx] at hx2; cases hx2; exact hc33
  ·clear hA hB A B
   have hkb : k = d.arrs.length := by omega
   refine c1q ?_
   simp only [a1q, b5q, if_true]
   refine hK9 _ _ ?_
   refine vsk fun K16 hK16 => ?_
   rcases (show (d.nodes.length : Int) ≤ 10 ∨ ¬ (d.nodes.length : Int) ≤ 10 by omega) with h10 | h10
   ·refine a3q 0 [] ?_
    simp only [bs, ↓vopx, ↓vop, Nat.reduceBEq, a1q, flat, Nat.reduceLT, a8q, b0q, opII, gtmp, hl, q1, wocs, ↓goc, ↓woc, ↓a2q, ↓h3q, Tryz.ag22, Tryz.ag23, Tryz.fd25_0, Tryz.fd25_1, Tryz.sz22, Tryz.sz23, Tryz.un22, Tryz.un23, d5q, i0q, nns, h10]
    refine hK16 _ _ ?_
    refine b1q ?_
    rw [m3x (by rw [← hka]; exact hal1) (by rw [← hkb]; exact hal2)] at hQ
    refine hQ _ _ _ (.inr rfl) (a7q ?_ fun n b hn h => by rw [b7q, if_neg (by omega)]; exact h)
    try simp only [a0q, lpv, hl, Nat.reduceLT]
    first | done | (refine congrArg (fun b => V.t (T.v (Value.bool b))) ?_; rw [Bool.eq_iff_iff]; simp; omega)
   ·refine a3q 0 [] ?_
    simp only [bs, ↓vopx, ↓vop, Nat.reduceBEq, a1q, flat, Nat.reduceLT, a8q, b0q, opII, gtmp, hl, q1, wocs, ↓goc, ↓woc, ↓a2q, ↓m5q, Tryz.ag22, Tryz.fd25_0, Tryz.sz22, Tryz.un22, d5q, nns, h10]
    refine hK16 _ _ ?_
    refine b1q ?_
    rw [m3x (by rw [← hka]; exact hal1) (by rw [← hkb]; exact hal2)] at hQ
    refine hQ _ _ _ (.inr rfl) (a7q ?_ fun n b hn h => by rw [b7q, if_neg (by omega)]; exact h)
    try simp only [a0q, lpv, hl, Nat.reduceLT]
    first | done | (refine congrArg (fun b => V.t (T.v (Value.bool b))) ?_; rw [Bool.eq_iff_iff]; simp; omega)
set_option maxRecDepth 20000 in
set_option maxHeartbeats 4000000 in
theorem d3x (l : List (List Int)) (L : l.length ≤ 9223372036854775807) (L2 : ∀ x ∈ l, x.length ≤ 9223372036854775807) : f7q Tryz.prog 7 [.t (tMat l)] (Bo (fewM l)) := by
 refine b4q Tryz.func7 rfl fun s Q hQ => ?_
 obtain ⟨e, he, hl, h0⟩ : ∃ e : Env, ([.t (tMat l)] ++ List.replicate (Tryz.f7.ntmps - ([.t (tMat l)] : List V).length) .junk) = e ∧ e.length = 19 ∧ ev e (.tmp 0) = .t (tMat l) := ⟨_, rfl, rfl, rfl⟩
 rw [he]
 clear he
 refine vsk fun K1 hK1 => ?_
 refine a3q 0 [] ?_
 simp only [bs, ↓vopx, ↓vop, a1q, flat, wocs, ↓goc, ↓woc, ↓a2q]
 refine hK1 _ _ ?_
 refine vsk fun K2 hK2 => ?_
 refine vsk fun K3 hK3 => ?_
 refine a3q 0 [] ?_
 simp only [bs, ↓vopx, ↓vop, a1q, flat, wocs, ↓goc, ↓woc, ↓a2q]
 refine hK3 _ _ ?_
 refine a5q ?_
 refine c2q (fun mm e' s' => ∃ k : Nat, mm = l.length - k ∧ k ≤ l.length ∧ e'.length = 19 ∧ ev e' (.tmp 0) = .t (tMat l) ∧ ev e' (.tmp 3) = I k ∧ s = s' ∧ ∀ (j : Nat) (x : List Int), j < k → l[j]? = some x → ¬ (x.length : Int) > 60) (⟨0, rfl, Nat.zero_le _, ?_⟩) ?_
 ·try simp only [a0q, a4q, Nat.reduceBEq, lpv, hl, h0, Nat.reduceLT, true_and]
  repeat ((with_reducible refine And.intro ?_ ?_); · trivial)
  exact fun j x hj _ => absurd hj (by omega)
 rintro mm e _ ⟨k, rfl, hle_k, hl, k0, h_k, rfl, hal2⟩
 refine vsk fun K4 hK4 => ?_
 refine vsk fun K5 hK5 => ?_
 refine a3q 0 [] ?_
 simp only [bs, ↓vopx, ↓vop, Nat.reduceBEq, a1q, Nat.reduceLT, opII, hl, k0, h_k, wocs, ↓goc, ↓woc, ↓a2q, j7q]
 refine hK5 _ _ ?_
 refine vck fun A B hA hB => ?_
 simp only [b2q, a0q, lpv, Nat.reduceLT, decide_eq_true_eq, decide_eq_false_iff_not, hl]
 refine ⟨fun hc7 => hA ?_, fun hc7 => hB ?_⟩
 ·clear hA hB A B
  refine a9q ?_
  refine hK4 _ _ ?_
  refine vsk fun K6 hK6 => ?_
  refine a5q ?_
  refine vsk fun K7 hK7 => ?_
  have hlt : k < l.length := by omega
  obtain ⟨x, hx⟩ : ∃ x, l[k]? = some x := ⟨_, List.getElem?_eq_getElem hlt⟩
  have xa := L2 x (List.mem_of_getElem? hx)
  refine a3q 0 [] ?_
  simp only [bs, ↓vopx, ↓vop, Nat.reduceBEq, a1q, flat, Nat.reduceLT, a8q, b0q, opII, hl, k0, h_k, wocs, ↓goc, ↓woc, ↓a2q, Tryz.ag40, Tryz.sz40, Tryz.un40, Tryz.un30, e2q, hx]
  repeat ((with_reducible refine And.intro ?_ ?_); · (with_reducible assumption))
  refine hK7 _ _ ?_
  refine vck fun A B hA hB => ?_
  simp only [b2q, a0q, lpv, Nat.reduceLT, decide_eq_true_eq, decide_eq_false_iff_not, hl]
  refine ⟨fun hc15 => hA ?_, fun hc15 => hB ?_⟩
  ·clear hA hB A B
   refine vsk fun K8 hK8 => ?_
   refine a3q 0 [] ?_
   simp only [bs, ↓vopx, ↓vop, a1q, flat, wocs, ↓goc, ↓woc, ↓a2q]
   refine hK8 _ _ ?_
   refine b1q ?_
   rw [fewM_a hx hc15] at hQ
   refine hQ _ _ _ (.inr rfl) (a7q ?_ fun n b hn h => h)
   try simp only [a0q, lpv, hl, Nat.reduceLT]
  ·clear hA hB A B
   refine a9q ?_
   refine hK6 _ _ ?_
   refine a3q 0 [] ?_
   simp only [bs, ↓vopx, ↓vop, Nat.reduceBEq, a1q, flat, Nat.reduceLT, opII, hl, k0, h_k, wocs, ↓goc, ↓woc, ↓a2q]
   repeat ((with_reducible refine And.intro ?_ ?_); · exact ⟨by omega, by omega⟩)
   refine ⟨l.length - (k + 1), by omega, k + 1, rfl, by omega, ?_⟩
   try simp only [a0q, a4q, Nat.reduceBEq, lpv, hl, k0, h_k, if_true, if_false, Nat.reduceEqDiff, Nat.reduceLT, true_and, and_true]
   repeat ((with_reducible refine And.intro ?_ ?_); · trivial)
   intro j x2 hj hx2
   rcases Nat.lt_succ_iff_lt_or_eq.1 hj with h | h
   ·exact hal2 j x2 h hx2
   ·subst h; rw [hx] at hx2; cases hx2; exact hc15
 ·clear hA hB A B
  have hka : k = l.length := by omega
  refine c1q ?_
  simp only [a1q, b5q, if_true]
  refine hK2 _ _ ?_
  refine vsk fun K9 hK9 => ?_
  refine a3q 0 [] ?_
  simp only [bs, ↓vopx, ↓vop, Nat.reduceBEq, a1q, flat, Nat.reduceLT, opII, hl, k0, wocs, ↓goc, ↓woc, ↓a2q, j7q]
  refine hK9 _ _ ?_
  refine b1q ?_
  rw [fewM_ok (by rw [← hka]; exact hal2)] at hQ
  refine hQ _ _ _ (.inr rfl) (a7q ?_ fun n b hn h => h)
  try simp only [a0q, lpv, hl, Nat.reduceLT]
end Go.Proofs

open Go Go.V
namespace Go.Proofs
theorem d7j {d : Dia} (h : DiaOK d) (hl : bsB d.nodes d.nodes.length ≤ 40) {k : Nat} {g : List Int} (hg : (d2q d)[k]? = some g) : g.length ≤ 40 := by
 have hkl := (List.getElem?_eq_some_iff.1 hg).1
 rw [h5q] at hkl
 obtain ⟨o, ho⟩ : ∃ o, d.nodes[k]? = some o := ⟨_, List.getElem?_eq_getElem hkl⟩
 obtain ⟨g', g1, g2⟩ := h.legArr hl ho
 rw [hg] at g1; cases g1
 have := f5q (f4q.1 g2).2.2.1
 have := (h.ob o (List.mem_of_getElem? ho)).le
 omega
theorem c9x {d : Dia} (h : DiaOK d) (hl : bsB d.nodes d.nodes.length ≤ 40) : (j4q d).labels.length ≤ 40 ∧ (j4q d).pairs.length ≤ 1600 := by
 have h40 := (x9x h hl).le
 have h1 := m1z (bsS d.nodes) (i8q d)
 have hpl : (i8q d).length = bsB d.nodes d.nodes.length := (h.gl hl).len
 rw [hpl] at h1
 have h2 := sq_le hl
 exact ⟨h40, Nat.le_trans h1 h2⟩
end Go.Proofs

open Go Go.V
namespace Go.Proofs
theorem p7z {d : Dia} {x : Ar} (h : x.fr < 0 ∨ x.fr ≥ (d.nodes.length : Int) ∨ x.to < 0 ∨ x.to ≥ (d.nodes.length : Int)) : arOK d x = false := by
 simp only [arOK, l4q]
 rcases h with h | h | h | h
 ·have : ¬ 0 ≤ x.fr := by omega
  simp [this]
 ·have : ¬ x.fr < (d.nodes.length : Int) := by omega
  simp [this]
 ·have : ¬ 0 ≤ x.to := by omega
  simp [this]
 ·have : ¬ x.to < (d.nodes.length : Int) := by omega
  simp [this]
theorem d2j {l : List Ob} {i : Nat} {o : Ob} (h : l[i]? = some o) : (l.flatMap w2z)[i * 2]? = some (d1q o.labels) := by
 induction l generalizing i with
 | nil => simp at h
 | cons a l ih =>
  cases i with
  | zero => simp at h; subst h; rfl
  | succ i =>
   have := ih (i := i) (by simpa using h)
   rw [show (i + 1) * 2 = i * 2 + 2 by omega]
   simpa using this
theorem getA1 {l : List Ar} {k : Nat} {x : Ar} (h : l[k]? = some x) : (l.flatMap g9z)[k * 3 + 1]? = some (TI x.to) := by
 induction l generalizing k with
 | nil => simp at h
 | cons a l ih =>
  cases k with
  | zero => simp at h; subst h; rfl
  | succ k =>
   have := ih (k := k) (by simpa using h)
   rw [show (k + 1) * 3 + 1 = k * 3 + 1 + 3 by omega]
   simpa using this
theorem getA0 {l : List Ar} {k : Nat} {x : Ar} (h : l[k]? = some x) : (l.flatMap g9z)[k * 3]? = some (TI x.fr) := by
 induction l generalizing k with
 | nil => simp at h
 | cons a l ih =>
  cases k with
  | zero => simp at h; subst h; rfl
  | succ k =>
   have := ih (k := k) (by simpa using h)
   rw [show (k + 1) * 3 = k * 3 + 3 by omega]
   simpa using this
set_option maxRecDepth 20000 in
set_option maxHeartbeats 4000000 in
theorem bigR_ (d : Dia) (L : DiaLim d) : f7q Tryz.prog 24 [vDia d] (Bo (bigD d)) := by
 refine b4q Tryz.func24 rfl fun s Q hQ => ?_
 obtain ⟨e, he, hl, h0⟩ : ∃ e : Env, ([vDia d] ++ List.replicate (Tryz.f24.ntmps - ([vDia d] : List V).length) .junk) = e ∧ e.length = 41 ∧ ev e (.tmp 0) = vDia d := ⟨_, rfl, rfl, rfl⟩
 rw [he]
 clear he
 have Ln := L.n
 have Lm := L.m
 refine vsk fun K1 hK1 => ?_
 refine a3q 0 [] ?_
 simp only [bs, ↓vopx, ↓vop, a1q, flat, V.cells, h0, wocs, ↓goc, ↓woc, ↓a2q]
 refine hK1 _ _ ?_
 refine vsk fun K2 hK2 => ?_
 refine vsk fun K3 hK3 => ?_
 rcases (show (d.nodes.length : Int) > 6 ∨ (¬ (d.nodes.length : Int) > 6 ∧ (d.arrs.length : Int) > 8) ∨ (¬ (d.nodes.length : Int) > 6 ∧ ¬ (d.arrs.length : Int) > 8) by omega) with h6 | ⟨h6, h8⟩ | ⟨h6, h8⟩
 ·refine a3q 0 [] ?_
  simp only [bs, ↓vopx, ↓vop, Nat.reduceBEq, a1q, flat, Nat.reduceLT, a8q, b0q, opII, gtmp, hl, wocs, ↓goc, ↓woc, ↓a2q, ↓e5q, Tryz.ag22, Tryz.fd25_0, Tryz.sz22, Tryz.un22, d5q, nns, h6]
  refine hK3 _ _ ?_
  refine vck fun A B hA hB => ?_
  simp only [b2q, a0q, lpv, Nat.reduceLT, true_implies, reduceCtorEq, false_implies, and_true, hl]
  refine hA ?_
  clear hA hB A B
  refine vsk fun K4 hK4 => ?_
  refine a3q 0 [] ?_
  simp only [bs, ↓vopx, ↓vop, a1q, flat, wocs, ↓goc, ↓woc, ↓a2q]
  refine hK4 _ _ ?_
  refine b1q ?_
  rw [show bigD d = true from big_n h6] at hQ
  refine hQ _ _ _ (.inr rfl) (a7q ?_ fun n b hn h => by rw [b7q, if_neg (by omega)]; exact h)
  try simp only [a0q, lpv, hl, Nat.reduceLT]
 ·refine a3q 0 [] ?_
  simp only [bs, ↓vopx, ↓vop, Nat.reduceBEq, a1q, flat, Nat.reduceLT, a8q, b0q, opII, gtmp, hl, wocs, ↓goc, ↓woc, ↓a2q, ↓c8q, Tryz.ag22, Tryz.ag23, Tryz.fd25_0, Tryz.fd25_1, Tryz.sz22, Tryz.sz23, Tryz.un22, Tryz.un23, d5q, i0q, nns, h6, h8]
  refine hK3 _ _ ?_
  refine vck fun A B hA hB => ?_
  simp only [b2q, a0q, lpv, Nat.reduceLT, true_implies, reduceCtorEq, false_implies, and_true, hl]
  refine hA ?_
  clear hA hB A B
  refine vsk fun K5 hK5 => ?_
  refine a3q 0 [] ?_
  simp only [bs, ↓vopx, ↓vop, a1q, flat, wocs, ↓goc, ↓woc, ↓a2q]
  refine hK5 _ _ ?_
  refine b1q ?_
  rw [show bigD d = true from big_m h8] at hQ
  refine hQ _ _ _ (.inr rfl) (a7q ?_ fun n b hn h => by rw [b7q, if_neg (by omega)]; exact h)
  try simp only [a0q, lpv, hl, Nat.reduceLT]
 ·refine a3q 0 [] ?_
  simp only [bs, ↓vopx, ↓vop, Nat.reduceBEq, a1q, flat, Nat.reduceLT, a8q, b0q, opII, gtmp, hl, wocs, ↓goc, ↓woc, ↓a2q, ↓c8q, Tryz.ag22, Tryz.ag23, Tryz.fd25_0, Tryz.fd25_1, Tryz.sz22, Tryz.sz23, Tryz.un22, Tryz.un23, d5q, i0q, nns, h6, h8]
  refine hK3 _ _ ?_
  refine vck fun A B hA hB => ?_
  simp only [b2q, a0q, lpv, Nat.reduceLT, true_implies, reduceCtorEq, false_implies, true_and, hl]
  refine hB ?_
  clear hA hB A B
  refine a9q ?_
  refine hK2 _ _ ?_
  refine vsk fun K6 hK6 => ?_
  refine a3q 0 [] ?_
  simp only [bs, ↓vopx, ↓vop, a1q, flat, wocs, ↓goc, ↓woc, ↓a2q]
  refine hK6 _ _ ?_
  refine vsk fun K7 hK7 => ?_
  refine vsk fun K8 hK8 => ?_
  refine a3q 0 [] ?_
  simp only [bs, ↓vopx, ↓vop, a1q, flat, wocs, ↓goc, ↓woc, ↓a2q]
  refine hK8 _ _ ?_
  refine a5q ?_
  refine c2q (fun mm e' s' => ∃ k : Nat, mm = d.nodes.length - k ∧ k ≤ d.nodes.length ∧ e'.length = 41 ∧ ev e' (.tmp 1) = .ptr s.next 0 ∧ ev e' (.tmp 3) = I (sumT d.nodes k) ∧ ev e' (.tmp 4) = I k ∧ s' = s.add (.box 25 [.t (h1q d.nodes), .t (tArs d.arrs)]) ∧ sumT d.nodes k ≤ 40) (⟨0, rfl, Nat.zero_le _, ?_⟩) ?_
  ·try simp only [a0q, a4q, Nat.reduceBEq, lpv, hl, Nat.reduceLT, true_and]
   repeat ((with_reducible refine And.intro ?_ ?_); · trivial)
   simp [sumT]
  rintro mm e _ ⟨k, rfl, hle_k, hl, k1, k3, h_k, rfl, hsk⟩
  refine vsk fun K9 hK9 => ?_
  refine vsk fun K10 hK10 => ?_
  refine a3q 0 [] ?_
  simp only [bs, ↓vopx, ↓vop, Nat.reduceBEq, a1q, Nat.reduceLT, a8q, b0q, opII, hl, k1, h_k, wocs, ↓goc, ↓woc, ↓a2q, Tryz.ag22, Tryz.fd25_0, Tryz.sz22, Tryz.un22, d5q, nns]
  refine hK10 _ _ ?_
  refine vck fun A B hA hB => ?_
  simp only [b2q, a0q, lpv, Nat.reduceLT, decide_eq_true_eq, decide_eq_false_iff_not, hl]
  refine ⟨fun hc19 => hA ?_, fun hc19 => hB ?_⟩
  ·clear hA hB A B
   refine a9q ?_
   refine hK9 _ _ ?_
   refine vsk fun K11 hK11 => ?_
   refine a5q ?_
   refine vsk fun K12 hK12 => ?_
   refine vsk fun K13 hK13 => ?_
   have hlt : k < d.nodes.length := by omega
   obtain ⟨o, ho⟩ : ∃ o, d.nodes[k]? = some o := ⟨_, List.getElem?_eq_getElem hlt⟩
   have g0 := d2j ho
   have hfl := f6q d.nodes
   have hi2 : k * 2 < d.nodes.length * 2 := by omega
   have o1 := L.o1 o (List.mem_of_getElem? ho)
   have hss := a4z ho
   refine a3q 0 [] ?_
   simp only [bs, ↓vopx, ↓vop, Nat.reduceBEq, a1q, flat, Nat.reduceLT, a8q, b0q, opII, hl, k1, k3, h_k, wocs, ↓goc, ↓woc, ↓a2q, Tryz.ag22, Tryz.ag26, Tryz.fd25_0, Tryz.fd29_0, Tryz.sz22, Tryz.sz26, Tryz.sz29, Tryz.un22, Tryz.un26, c9q, nns, g0, hfl, hi2]
   repeat ((with_reducible refine And.intro ?_ ?_); · exact ⟨by omega, by omega⟩)
   refine hK13 _ _ ?_
   refine vck fun A B hA hB => ?_
   simp only [b2q, a0q, lpv, Nat.reduceLT, decide_eq_true_eq, decide_eq_false_iff_not, hl]
   refine ⟨fun hc31 => hA ?_, fun hc31 => hB ?_⟩
   ·clear hA hB A B
    refine vsk fun K14 hK14 => ?_
    refine a3q 0 [] ?_
    simp only [bs, ↓vopx, ↓vop, a1q, flat, wocs, ↓goc, ↓woc, ↓a2q]
    refine hK14 _ _ ?_
    refine b1q ?_
    rw [show bigD d = true from by rw [c8x h6 h8]; have := t8x d.nodes (k + 1); rw [hss] at this; unfold t7q; simp only [decide_eq_true_eq]; omega] at hQ
    refine hQ _ _ _ (.inr rfl) (a7q ?_ fun n b hn h => by rw [b7q, if_neg (by omega)]; exact h)
    try simp only [a0q, lpv, hl, Nat.reduceLT]
   ·clear hA hB A B
    refine a9q ?_
    refine hK12 _ _ ?_
    refine a3q 0 [] ?_
    simp only [bs, ↓vopx, ↓vop, Nat.reduceBEq, a1q, b5q, Nat.reduceLT, a8q, b0q, opII, hl, k1, k3, h_k, wocs, ↓goc, ↓woc, ↓a2q, Tryz.ag22, Tryz.ag26, Tryz.fd25_0, Tryz.fd29_0, Tryz.sz22, Tryz.sz26, Tryz.sz29, Tryz.un22, Tryz.un26, c9q, nns, g0, hfl, hi2]
    repeat ((with_reducible refine And.intro ?_ ?_); · exact ⟨by omega, by omega⟩)
    refine hK11 _ _ ?_
    refine a3q 0 [] ?_
    simp only [bs, ↓vopx, ↓vop, Nat.reduceBEq, a1q, flat, Nat.reduceLT, opII, hl, k1, h_k, wocs, ↓goc, ↓woc, ↓a2q]
    repeat ((with_reducible refine And.intro ?_ ?_); · exact ⟨by omega, by omega⟩)
    refine ⟨d.nodes.length - (k + 1), by omega, k + 1, rfl, by omega, ?_⟩
    try simp only [a0q, a4q, Nat.reduceBEq, lpv, hl, k1, k3, h_k, if_true, if_false, Nat.reduceEqDiff, Nat.reduceLT, true_and, and_true]
    exact ⟨by rw [hss]; push_cast; rfl, by push_cast; rfl, by rw [hss]; omega⟩
  ·clear hA hB A B
   have hka : k = d.nodes.length := by omega
   refine c1q ?_
   simp only [a1q, b5q, if_true]
   refine hK7 _ _ ?_
   refine vsk fun K15 hK15 => ?_
   refine a3q 0 [] ?_
   simp only [bs, ↓vopx, ↓vop, a1q, flat, wocs, ↓goc, ↓woc, ↓a2q]
   refine hK15 _ _ ?_
   refine b1q ?_
   rw [show bigD d = false from by rw [c8x h6 h8]; unfold t7q; rw [← hka]; simp only [decide_eq_false_iff_not]; omega] at hQ
   refine hQ _ _ _ (.inr rfl) (a7q ?_ fun n b hn h => by rw [b7q, if_neg (by omega)]; exact h)
   try simp only [a0q, lpv, hl, Nat.reduceLT]
set_option maxRecDepth 20000 in
set_option maxHeartbeats 4000000 in
theorem x9q (d : Dia) (L : DiaLim d) : f7q Tryz.prog 15 [vDia d] (Bo (diaS d)) := by
 refine b4q Tryz.func15 rfl fun s Q hQ => ?_
 obtain ⟨e, he, hl, h0⟩ : ∃ e : Env, ([vDia d] ++ List.replicate (Tryz.f15.ntmps - ([vDia d] : List V).length) .junk) = e ∧ e.length = 84 ∧ ev e (.tmp 0) = vDia d := ⟨_, rfl, rfl, rfl⟩
 rw [he]
 clear he
 have Ln := L.n
 have Lm := L.m
 refine vsk fun K1 hK1 => ?_
 refine a3q 0 [] ?_
 simp only [bs, ↓vopx, ↓vop, a1q, flat, V.cells, h0, wocs, ↓goc, ↓woc, ↓a2q]
 refine hK1 _ _ ?_
 refine vsk fun K2 hK2 => ?_
 refine vsk fun K3 hK3 => ?_
 rcases (show (d.nodes.length : Int) > 6 ∨ (¬ (d.nodes.length : Int) > 6 ∧ (d.arrs.length : Int) > 8) ∨ (¬ (d.nodes.length : Int) > 6 ∧ ¬ (d.arrs.length : Int) > 8) by omega) with h6 | ⟨h6, h8⟩ | ⟨h6, h8⟩
 ·refine a3q 0 [] ?_
  simp only [bs, ↓vopx, ↓vop, Nat.reduceBEq, a1q, flat, Nat.reduceLT, a8q, b0q, opII, gtmp, hl, wocs, ↓goc, ↓woc, ↓a2q, ↓e5q, Tryz.ag22, Tryz.fd25_0, Tryz.sz22, Tryz.un22, d5q, nns, h6]
  refine hK3 _ _ ?_
  refine vck fun A B hA hB => ?_
  simp only [b2q, a0q, lpv, Nat.reduceLT, true_implies, reduceCtorEq, false_implies, and_true, hl]
  refine hA ?_
  clear hA hB A B
  refine vsk fun K4 hK4 => ?_
  refine a3q 0 [] ?_
  simp only [bs, ↓vopx, ↓vop, a1q, flat, wocs, ↓goc, ↓woc, ↓a2q]
  refine hK4 _ _ ?_
  refine b1q ?_
  rw [show diaS d = false from dia_n h6] at hQ
  refine hQ _ _ _ (.inr rfl) (a7q ?_ fun n b hn h => by rw [b7q, if_neg (by omega)]; exact h)
  try simp only [a0q, lpv, hl, Nat.reduceLT]
 ·refine a3q 0 [] ?_
  simp only [bs, ↓vopx, ↓vop, Nat.reduceBEq, a1q, flat, Nat.reduceLT, a8q, b0q, opII, gtmp, hl, wocs, ↓goc, ↓woc, ↓a2q, ↓c8q, Tryz.ag22, Tryz.ag23, Tryz.fd25_0, Tryz.fd25_1, Tryz.sz22, Tryz.sz23, Tryz.un22, Tryz.un23, d5q, i0q, nns, h6, h8]
  refine hK3 _ _ ?_
  refine vck fun A B hA hB => ?_
  simp only [b2q, a0q, lpv, Nat.reduceLT, true_implies, reduceCtorEq, false_implies, and_true, hl]
  refine hA ?_
  clear hA hB A B
  refine vsk fun K5 hK5 => ?_
  refine a3q 0 [] ?_
  simp only [bs, ↓vopx, ↓vop, a1q, flat, wocs, ↓goc, ↓woc, ↓a2q]
  refine hK5 _ _ ?_
  refine b1q ?_
  rw [show diaS d = false from dia_m h8] at hQ
  refine hQ _ _ _ (.inr rfl) (a7q ?_ fun n b hn h => by rw [b7q, if_neg (by omega)]; exact h)
  try simp only [a0q, lpv, hl, Nat.reduceLT]
 ·refine a3q 0 [] ?_
  simp only [bs, ↓vopx, ↓vop, Nat.reduceBEq, a1q, flat, Nat.reduceLT, a8q, b0q, opII, gtmp, hl, wocs, ↓goc, ↓woc, ↓a2q, ↓c8q, Tryz.ag22, Tryz.ag23, Tryz.fd25_0, Tryz.fd25_1, Tryz.sz22, Tryz.sz23, Tryz.un22, Tryz.un23, d5q, i0q, nns, h6, h8]
  refine hK3 _ _ ?_
  refine vck fun A B hA hB => ?_
  simp only [b2q, a0q, lpv, Nat.reduceLT, true_implies, reduceCtorEq, false_implies, true_and, hl]
  refine hB ?_
  clear hA hB A B
  refine a9q ?_
  refine hK2 _ _ ?_
  refine vsk fun K6 hK6 => ?_
  refine vsk fun K7 hK7 => ?_
  refine a3q 0 [] ?_
  simp only [bs, ↓vopx, ↓vop, a1q, flat, wocs, ↓goc, ↓woc, ↓a2q]
  refine hK7 _ _ ?_
  refine a5q ?_
  refine c2q (fun mm e' s' => ∃ k : Nat, mm = d.nodes.length - k ∧ k ≤ d.nodes.length ∧ e'.length = 84 ∧ ev e' (.tmp 1) = .ptr s.next 0 ∧ ev e' (.tmp 3) = I k ∧ s' = s.add (.box 25 [.t (h1q d.nodes), .t (tArs d.arrs)]) ∧ ∀ (j : Nat) (o : Ob), j < k → d.nodes[j]? = some o → (c4q o == 0) = true) (⟨0, rfl, Nat.zero_le _, ?_⟩) ?_
  ·try simp only [a0q, a4q, Nat.reduceBEq, lpv, hl, Nat.reduceLT, true_and]
   repeat ((with_reducible refine And.intro ?_ ?_); · trivial)
   exact fun j o hj _ => absurd hj (by omega)
  rintro mm e _ ⟨k, rfl, hle_k, hl, k1, h_k, rfl, hal⟩
  refine vsk fun K8 hK8 => ?_
  refine vsk fun K9 hK9 => ?_
  refine a3q 0 [] ?_
  simp only [bs, ↓vopx, ↓vop, Nat.reduceBEq, a1q, Nat.reduceLT, a8q, b0q, opII, hl, k1, h_k, wocs, ↓goc, ↓woc, ↓a2q, Tryz.ag22, Tryz.fd25_0, Tryz.sz22, Tryz.un22, d5q, nns]
  refine hK9 _ _ ?_
  refine vck fun A B hA hB => ?_
  simp only [b2q, a0q, lpv, Nat.reduceLT, decide_eq_true_eq, decide_eq_false_iff_not, hl]
  refine ⟨fun hc20 => hA ?_, fun hc20 => hB ?_⟩
  ·clear hA hB A B
   refine a9q ?_
   refine hK8 _ _ ?_
   refine vsk fun K10 hK10 => ?_
   refine a5q ?_
   refine vsk fun K11 hK11 => ?_
   have hlt : k < d.nodes.length := by omega
   obtain ⟨o, ho⟩ : ∃ o, d.nodes[k]? = some o := ⟨_, List.getElem?_eq_getElem hlt⟩
   have g0 := d8z ho
   have hfl := f6q d.nodes
   have hi2 : k * 2 < d.nodes.length * 2 := by omega
   have o1 := L.o1 o (List.mem_of_getElem? ho)
   have o2 := L.o2 o (List.mem_of_getElem? ho)
   refine a3q 0 [.pur (Bo (c4q o == 0))] ?_
   simp only [bs, Nat.reduceAdd, ↓vopx, ↓vop, Nat.reduceBEq, a1q, Nat.reduceLT, a8q, b0q, hl, k1, h_k, wocs, ↓goc, ↓woc, ↓a2q, ↓b8q, a6q, Tryz.ag22, Tryz.ag29, Tryz.fd25_0, Tryz.sz22, Tryz.sz29, Tryz.un22, nns, g0, hfl, hi2]
   repeat ((with_reducible refine And.intro ?_ ?_); · exact ⟨Tryz.is33, k6q o (by omega) (by omega)⟩)
   refine hK11 _ _ ?_
   refine vck fun A B hA hB => ?_
   simp only [b2q, a0q, lpv, Nat.reduceLT, Bool.not_eq_true', Bool.not_eq_false', beq_iff_eq, beq_eq_false_iff_ne, ne_eq, hl]
   refine ⟨fun hc29 => hA ?_, fun hc29 => hB ?_⟩
   ·clear hA hB A B
    refine vsk fun K12 hK12 => ?_
    refine a3q 0 [] ?_
    simp only [bs, ↓vopx, ↓vop, a1q, flat, wocs, ↓goc, ↓woc, ↓a2q]
    refine hK12 _ _ ?_
    refine b1q ?_
    rw [show diaS d = false from dia_o ho (by simp [hc29])] at hQ
    refine hQ _ _ _ (.inr rfl) (a7q ?_ fun n b hn h => by rw [b7q, if_neg (by omega)]; exact h)
    try simp only [a0q, lpv, hl, Nat.reduceLT]
   ·clear hA hB A B
    refine a9q ?_
    refine hK10 _ _ ?_
    refine a3q 0 [] ?_
    simp only [bs, ↓vopx, ↓vop, Nat.reduceBEq, a1q, flat, Nat.reduceLT, opII, hl, k1, h_k, wocs, ↓goc, ↓woc, ↓a2q]
    repeat ((with_reducible refine And.intro ?_ ?_); · exact ⟨by omega, by omega⟩)
    refine ⟨d.nodes.length - (k + 1), by omega, k + 1, rfl, by omega, ?_⟩
    try simp only [a0q, a4q, Nat.reduceBEq, lpv, hl, k1, h_k, if_true, if_false, Nat.reduceEqDiff, Nat.reduceLT, true_and, and_true]
    repeat ((with_reducible refine And.intro ?_ ?_); · trivial)
    intro j o2 hj ho2
    rcases Nat.lt_succ_iff_lt_or_eq.1 hj with h | h
    ·exact hal j o2 h ho2
    ·subst h; rw [ho] at ho2; cases ho2; simp [hc29]
  ·clear hA hB A B
   have hka : k = d.nodes.length := by omega
   refine c1q ?_
   simp only [a1q, b5q, if_true]
   refine hK6 _ _ ?_
   refine vsk fun K13 hK13 => ?_
   refine vsk fun K14 hK14 => ?_
   refine a3q 0 [] ?_
   simp only [bs, ↓vopx, ↓vop, a1q, flat, wocs, ↓goc, ↓woc, ↓a2q]
   refine hK14 _ _ ?_
   refine a5q ?_
   refine c2q (fun mm e' s' => ∃ k : Nat, mm = d.arrs.length - k ∧ k ≤ d.arrs.length ∧ e'.length = 84 ∧ ev e' (.tmp 1) = .ptr s.next 0 ∧ ev e' (.tmp 4) = I k ∧ DiI s d s' ∧ ∀ (j : Nat) (x : Ar), j < k → d.arrs[j]? = some x → arOK d x = true) (⟨0, rfl, Nat.zero_le _, ?_⟩) ?_
   ·try simp only [a0q, a4q, Nat.reduceBEq, lpv, hl, k1, Nat.reduceLT, true_and]
    repeat ((with_reducible refine And.intro ?_ ?_); · trivial)
    exact ⟨DiI.init s d, fun j x hj _ => absurd hj (by omega)⟩
   rintro mm e s1 ⟨k, rfl, hle_k, hl, q1_, h_k, hst, hal2⟩
   refine vsk fun K15 hK15 => ?_
   refine vsk fun K16 hK16 => ?_
   have hb62 := hst.b
   refine a3q 0 [] ?_
   simp only [bs, ↓vopx, ↓vop, Nat.reduceBEq, a1q, Nat.reduceLT, a8q, b0q, opII, hl, q1_, h_k, wocs, ↓goc, ↓woc, ↓a2q, Tryz.ag23, Tryz.fd25_1, Tryz.sz23, Tryz.un23, i0q, nns, hb62]
   refine hK16 _ _ ?_
   refine vck fun A B hA hB => ?_
   simp only [b2q, a0q, lpv, Nat.reduceLT, decide_eq_true_eq, decide_eq_false_iff_not, hl]
   refine ⟨fun hc34 => hA ?_, fun hc34 => hB ?_⟩
   ·clear hA hB A B
    refine a9q ?_
    refine hK15 _ _ ?_
    refine vsk fun K17 hK17 => ?_
    refine a5q ?_
    refine vsk fun K18 hK18 => ?_
    have hb62 := hst.b
    have hlt : k < d.arrs.length := by omega
    obtain ⟨x, hx⟩ : ∃ x, d.arrs[k]? = some x := ⟨_, List.getElem?_eq_getElem hlt⟩
    have g0 := g8x hx
    have hfl := i6q d.arrs
    have hi2 : k * 3 < d.arrs.length * 3 := by omega
    refine a3q 0 [] ?_
    simp only [bs, Nat.reduceAdd, ↓vopx, ↓vop, Nat.reduceBEq, a1q, Nat.reduceLT, V.cells, a8q, b0q, hl, q1_, h_k, wocs, ↓goc, ↓woc, ↓a2q, Tryz.ag23, Tryz.ag49, Tryz.fd25_1, Tryz.sz23, Tryz.sz49, Tryz.un23, Tryz.zv49, nns, hb62, g0, hfl, hi2]
    refine hK18 _ _ ?_
    refine vsk fun K19 hK19 => ?_
    refine d4q fun e2 sb hE2 hSb => ?_
    subst hE2
    have hIb : DiI s d sb := by rw [hSb]; exact (hst.add _).set hst.nx _
    have hbx : sb.m s1.next = some (.box 49 [.t (TI x.fr), .t (TI x.to), .t (c0q x.mp)]) := by rw [hSb]; simp only [b9q, if_true]; try rfl
    clear hSb
    have hb62 := hIb.b
    have la := L.a x (List.mem_of_getElem? hx)
    rcases (show x.fr < 0 ∨ (¬ x.fr < 0 ∧ x.fr ≥ (d.nodes.length : Int)) ∨ (¬ x.fr < 0 ∧ ¬ x.fr ≥ (d.nodes.length : Int) ∧ x.to < 0) ∨ (¬ x.fr < 0 ∧ ¬ x.fr ≥ (d.nodes.length : Int) ∧ ¬ x.to < 0 ∧ x.to ≥ (d.nodes.length : Int)) ∨ (¬ x.fr < 0 ∧ ¬ x.fr ≥ (d.nodes.length : Int) ∧ ¬ x.to < 0 ∧ ¬ x.to ≥ (d.nodes.length : Int)) by omega) with q1 | ⟨q1, q2⟩ | ⟨q1, q2, q3⟩ | ⟨q1, q2, q3, q4⟩ | ⟨q1, q2, q3, q4⟩
    ·refine c5q Tryz.mixed 39 [0, 1, 0, 0, 0, 1, 0, 1, 0, 0, 0, 0, 0, 1, 0, 0, 0, 0, 1, 0, 1, 0, 0, 0, 0, 0, 1, 0, 1, 1, 1, 0, 1, 0, 1, 1, 1, 0, 1] [] [] 0 (by decide +kernel) (by simp [lpv, hl]) rfl ?_
     simp only [bs, ↓vopx, ↓vop, Nat.reduceBEq, a1q, flat, Nat.reduceLT, a8q, b0q, opII, gtmp, hl, wocs, ↓goc, ↓woc, ↓a2q, ↓e3q, ↓b8q, ↓e5q, a6q, chn, ↓goq, ↓woq, List.zip_cons_cons, List.zip_nil_right, Tryz.ag3, Tryz.fd49_0, Tryz.sz3, nns, hbx, q1]
     refine hK19 _ _ ?_
     refine vck fun A B hA hB => ?_
     simp only [b2q, a0q, lpv, Nat.reduceLT, true_implies, reduceCtorEq, false_implies, and_true, hl]
     refine hA ?_
     clear hA hB A B
     refine vsk fun K20 hK20 => ?_
     refine a3q 0 [] ?_
     simp only [bs, ↓vopx, ↓vop, a1q, flat, wocs, ↓goc, ↓woc, ↓a2q]
     refine hK20 _ _ ?_
     refine b1q ?_
     rw [show diaS d = false from u3z hx (p7z (.inl q1))] at hQ
     refine hQ _ _ _ (.inr rfl) (a7q ?_ fun n b hn h => (hIb.same n hn).trans h)
     try simp only [a0q, lpv, hl, Nat.reduceLT]
    ·refine c5q Tryz.mixed 39 [0, 1, 0, 0, 0, 1, 0, 1, 0, 0, 0, 0, 0, 1, 0, 0, 0, 0, 1, 0, 1, 0, 0, 0, 0, 0, 1, 0, 1, 1, 1, 0, 1, 0, 1, 1, 1, 0, 1] [] [] 0 (by decide +kernel) (by simp [lpv, hl]) rfl ?_
     simp only [bs, ↓vopx, ↓vop, Nat.reduceBEq, a1q, flat, Nat.reduceLT, a8q, b0q, opII, gtmp, hl, q1_, wocs, ↓goc, ↓woc, ↓a2q, ↓e3q, ↓b8q, ↓c8q, ↓e5q, a6q, chn, ↓goq, ↓woq, List.zip_cons_cons, List.zip_nil_right, Tryz.ag22, Tryz.ag3, Tryz.fd25_0, Tryz.fd49_0, Tryz.sz22, Tryz.sz3, Tryz.un22, d5q, nns, hbx, hb62, q1, q2]
     refine hK19 _ _ ?_
     refine vck fun A B hA hB => ?_
     simp only [b2q, a0q, lpv, Nat.reduceLT, true_implies, reduceCtorEq, false_implies, and_true, hl]
     refine hA ?_
     clear hA hB A B
     refine vsk fun K21 hK21 => ?_
     refine a3q 0 [] ?_
     simp only [bs, ↓vopx, ↓vop, a1q, flat, wocs, ↓goc, ↓woc, ↓a2q]
     refine hK21 _ _ ?_
     refine b1q ?_
     rw [show diaS d = false from u3z hx (p7z (.inr (.inl q2)))] at hQ
     refine hQ _ _ _ (.inr rfl) (a7q ?_ fun n b hn h => (hIb.same n hn).trans h)
     try simp only [a0q, lpv, hl, Nat.reduceLT]
    ·refine c5q Tryz.mixed 39 [0, 1, 0, 0, 0, 1, 0, 1, 0, 0, 0, 0, 0, 1, 0, 0, 0, 0, 1, 0, 1, 0, 0, 0, 0, 0, 1, 0, 1, 1, 1, 0, 1, 0, 1, 1, 1, 0, 1] [] [] 0 (by decide +kernel) (by simp [lpv, hl]) rfl ?_
     simp only [bs, ↓vopx, ↓vop, Nat.reduceBEq, a1q, flat, Nat.reduceLT, a8q, b0q, opII, gtmp, hl, q1_, wocs, ↓goc, ↓woc, ↓a2q, ↓e3q, ↓b8q, ↓c8q, ↓e5q, a6q, chn, ↓goq, ↓woq, List.zip_cons_cons, List.zip_nil_right, Tryz.ag22, Tryz.ag3, Tryz.fd25_0, Tryz.fd49_0, Tryz.fd49_1, Tryz.sz22, Tryz.sz3, Tryz.un22, d5q, nns, hbx, hb62, q1, q2, q3]
     refine hK19 _ _ ?_
     refine vck fun A B hA hB => ?_
     simp only [b2q, a0q, lpv, Nat.reduceLT, true_implies, reduceCtorEq, false_implies, and_true, hl]
     refine hA ?_
     clear hA hB A B
     refine vsk fun K22 hK22 => ?_
     refine a3q 0 [] ?_
     simp only [bs, ↓vopx, ↓vop, a1q, flat, wocs, ↓goc, ↓woc, ↓a2q]
     refine hK22 _ _ ?_
     refine b1q ?_
     rw [show diaS d = false from u3z hx (p7z (.inr (.inr (.inl q3))))] at hQ
     refine hQ _ _ _ (.inr rfl) (a7q ?_ fun n b hn h => (hIb.same n hn).trans h)
     try simp only [a0q, lpv, hl, Nat.reduceLT]
    ·refine c5q Tryz.mixed 39 [0, 1, 0, 0, 0, 1, 0, 1, 0, 0, 0, 0, 0, 1, 0, 0, 0, 0, 1, 0, 1, 0, 0, 0, 0, 0, 1, 0, 1, 1, 1, 0, 1, 0, 1, 1, 1, 0, 1] [] [] 0 (by decide +kernel) (by simp [lpv, hl]) rfl ?_
     simp only [bs, ↓vopx, ↓vop, Nat.reduceBEq, a1q, flat, Nat.reduceLT, a8q, b0q, opII, gtmp, hl, q1_, wocs, ↓goc, ↓woc, ↓a2q, ↓e3q, ↓b8q, ↓c8q, ↓e5q, a6q, chn, ↓goq, ↓woq, List.zip_cons_cons, List.zip_nil_right, Tryz.ag22, Tryz.ag3, Tryz.fd25_0, Tryz.fd49_0, Tryz.fd49_1, Tryz.sz22, Tryz.sz3, Tryz.un22, d5q, nns, hbx, hb62, q1, q2, q3, q4]
     refine hK19 _ _ ?_
     refine vck fun A B hA hB => ?_
     simp only [b2q, a0q, lpv, Nat.reduceLT, true_implies, reduceCtorEq, false_implies, and_true, hl]
     refine hA ?_
     clear hA hB A B
     refine vsk fun K23 hK23 => ?_
     refine a3q 0 [] ?_
     simp only [bs, ↓vopx, ↓vop, a1q, flat, wocs, ↓goc, ↓woc, ↓a2q]
     refine hK23 _ _ ?_
     refine b1q ?_
     rw [show diaS d = false from u3z hx (p7z (.inr (.inr (.inr q4))))] at hQ
     refine hQ _ _ _ (.inr rfl) (a7q ?_ fun n b hn h => (hIb.same n hn).trans h)
     try simp only [a0q, lpv, hl, Nat.reduceLT]
    ·obtain ⟨a, hA⟩ : ∃ a, d.nodes[x.fr.toNat]? = some a := ⟨_, List.getElem?_eq_getElem (by omega)⟩
     obtain ⟨b, hB⟩ : ∃ b, d.nodes[x.to.toNat]? = some b := ⟨_, List.getElem?_eq_getElem (by omega)⟩
     have g1 := d8z hA
     have g2 := d8z hB
     have hfl := f6q d.nodes
     have j1 : x.fr.toNat * 2 < d.nodes.length * 2 := by omega
     have j2 : x.to.toNat * 2 < d.nodes.length * 2 := by omega
     have a1 := L.o1 a (List.mem_of_getElem? hA)
     have a2 := L.o2 a (List.mem_of_getElem? hA)
     have b1 := L.o1 b (List.mem_of_getElem? hB)
     have b2 := L.o2 b (List.mem_of_getElem? hB)
     have hok : arOK d x = arrS a b x.mp := by simp only [arOK]; rw [v6q.2 ⟨by omega, by omega⟩, v6q.2 ⟨by omega, by omega⟩, n3q hA, n3q hB]; simp
     refine c5q Tryz.mixed 39 [0, 1, 0, 0, 0, 1, 0, 1, 0, 0, 0, 0, 0, 1, 0, 0, 0, 0, 1, 0, 1, 0, 0, 0, 0, 0, 1, 0, 1, 1, 1, 0, 1, 0, 1, 1, 1, 0, 1] [.pur (Bo (arrS a b x.mp))] [] 0 (by decide +kernel) (by simp [lpv, hl]) rfl ?_
     simp only [bs, Nat.reduceAdd, ↓vopx, ↓vop, Nat.reduceBEq, a1q, flat, Nat.reduceLT, a8q, b0q, opII, gtmp, hl, q1_, wocs, ↓goc, ↓woc, ↓a2q, ↓e3q, ↓b8q, ↓c8q, a6q, chn, ↓goq, ↓woq, List.zip_cons_cons, List.zip_nil_right, Tryz.ag22, Tryz.ag29, Tryz.ag3, Tryz.ag40, Tryz.fd25_0, Tryz.fd49_0, Tryz.fd49_1, Tryz.fd49_2, Tryz.sz22, Tryz.sz29, Tryz.sz3, Tryz.sz40, Tryz.un22, d5q, nns, hbx, hb62, q1, q2, q3, q4, g1, g2, hfl, j1, j2]
     repeat ((with_reducible refine And.intro ?_ ?_); · first | omega | exact ⟨Tryz.is34, x2z a b x.mp (by omega) (by omega) (by omega) (by omega) (by omega)⟩)
     refine hK19 _ _ ?_
     refine vck fun A B hA hB => ?_
     simp only [b2q, a0q, lpv, Nat.reduceLT, Bool.not_eq_true', Bool.not_eq_false', hl]
     refine ⟨fun hc83 => hA ?_, fun hc83 => hB ?_⟩
     ·clear hA hB A B
      refine vsk fun K24 hK24 => ?_
      refine a3q 0 [] ?_
      simp only [bs, ↓vopx, ↓vop, a1q, flat, wocs, ↓goc, ↓woc, ↓a2q]
      refine hK24 _ _ ?_
      refine b1q ?_
      rw [show diaS d = false from u3z hx (by rw [hok]; exact hc83)] at hQ
      refine hQ _ _ _ (.inr rfl) (a7q ?_ fun n b hn h => (hIb.same n hn).trans h)
      try simp only [a0q, lpv, hl, Nat.reduceLT]
     ·clear hA hB A B
      refine a9q ?_
      refine hK17 _ _ ?_
      refine a3q 0 [] ?_
      simp only [bs, ↓vopx, ↓vop, Nat.reduceBEq, a1q, flat, Nat.reduceLT, opII, hl, q1_, h_k, wocs, ↓goc, ↓woc, ↓a2q]
      repeat ((with_reducible refine And.intro ?_ ?_); · exact ⟨by omega, by omega⟩)
      refine ⟨d.arrs.length - (k + 1), by omega, k + 1, rfl, by omega, ?_⟩
      try simp only [a0q, a4q, Nat.reduceBEq, lpv, hl, q1_, h_k, if_true, if_false, Nat.reduceEqDiff, Nat.reduceLT, true_and, and_true]
      repeat ((with_reducible refine And.intro ?_ ?_); · trivial)
      intro j x2 hj hx2
      rcases Nat.lt_succ_iff_lt_or_eq.1 hj with h | h
      ·exact hal2 j x2 h hx2
      ·subst h; rw [hx] at hx2; cases hx2; rw [hok]; exact hc83
   ·clear hA hB A B
    have hkb : k = d.arrs.length := by omega
    refine c1q ?_
    simp only [a1q, b5q, if_true]
    refine hK13 _ _ ?_
    refine vsk fun K25 hK25 => ?_
    refine a3q 0 [] ?_
    simp only [bs, ↓vopx, ↓vop, a1q, flat, wocs, ↓goc, ↓woc, ↓a2q]
    refine hK25 _ _ ?_
    refine b1q ?_
    rw [d1j h6 h8 (by rw [← hka]; exact hal) (by rw [← hkb]; exact hal2)] at hQ
    refine hQ _ _ _ (.inr rfl) (a7q ?_ fun n b hn h => (hst.same n hn).trans h)
    try simp only [a0q, lpv, hl, Nat.reduceLT]
end Go.Proofs

open Go Go.V
namespace Go.Proofs
set_option maxRecDepth 20000 in
set_option maxHeartbeats 8000000 in
theorem o7x (d : Dia) (L : DiaLim d) (t : Ob) (ls : List (List Int)) (ht1 : t.labels.length < 1000000) (ht2 : t.pairs.length < 1000000) (hl0 : ls.length < 1000000) (hls : ∀ g ∈ ls, g.length < 1000000) : f7q Tryz.prog 17 [vDia d, vObj t, .t (tMat ls)] (Bo (h7q d t ls)) := by
 refine b4q Tryz.func17 rfl fun s Q hQ => ?_
 obtain ⟨e, he, hl, h0, h1, h2⟩ : ∃ e : Env, ([vDia d, vObj t, .t (tMat ls)] ++ List.replicate (Tryz.f17.ntmps - ([vDia d, vObj t, .t (tMat ls)] : List V).length) .junk) = e ∧ e.length = 87 ∧ ev e (.tmp 0) = vDia d ∧ ev e (.tmp 1) = vObj t ∧ ev e (.tmp 2) = .t (tMat ls) := ⟨_, rfl, rfl, rfl, rfl, rfl⟩
 rw [he]
 clear he
 have Ln := L.n
 have Lm := L.m
 refine vsk fun K1 hK1 => ?_
 refine a3q 0 [] ?_
 simp only [bs, ↓vopx, ↓vop, Nat.reduceBEq, a1q, flat, V.cells, h0, h1, wocs, ↓goc, ↓woc, ↓a2q]
 refine hK1 _ _ ?_
 refine vsk fun K2 hK2 => ?_
 refine vsk fun K3 hK3 => ?_
 rcases (show diaS d = false ∨ (diaS d = true ∧ (c4q t == 0) = false) ∨ (diaS d = true ∧ (c4q t == 0) = true ∧ ¬ (ls.length : Int) = d.nodes.length) ∨ (diaS d = true ∧ (c4q t == 0) = true ∧ (ls.length : Int) = d.nodes.length) by cases diaS d <;> cases (c4q t == 0) <;> simp <;> omega) with r1 | ⟨r1, r2⟩ | ⟨r1, r2, r3⟩ | ⟨r1, r2, r3⟩
 ·refine a3q 0 [.pur (Bo (diaS d))] ?_
  simp only [bs, Nat.reduceAdd, ↓vopx, ↓vop, Nat.reduceBEq, a1q, flat, Nat.reduceLT, a8q, b0q, gtmp, hl, wocs, ↓goc, ↓woc, ↓a2q, ↓b8q, ↓e5q, a6q, Tryz.ag25, Tryz.sz25, nns, r1]
  repeat ((with_reducible refine And.intro ?_ ?_); · exact ⟨Tryz.is15, by simpa only [r1] using x9q d L⟩)
  refine hK3 _ _ ?_
  refine vck fun A B hA hB => ?_
  simp only [b2q, a0q, lpv, Nat.reduceLT, true_implies, reduceCtorEq, false_implies, and_true, hl]
  refine hA ?_
  clear hA hB A B
  refine vsk fun K4 hK4 => ?_
  refine a3q 0 [] ?_
  simp only [bs, ↓vopx, ↓vop, a1q, flat, wocs, ↓goc, ↓woc, ↓a2q]
  refine hK4 _ _ ?_
  refine b1q ?_
  rw [show h7q d t ls = false from lg_d r1] at hQ
  refine hQ _ _ _ (.inr rfl) (a7q ?_ fun n b hn h => by rw [b7q, if_neg (by simp only [c6q]; omega), b7q, if_neg (by omega)]; exact h)
  try simp only [a0q, lpv, hl, Nat.reduceLT]
 ·refine a3q 0 [.pur (Bo (diaS d)), .pur (Bo (c4q t == 0))] ?_
  simp only [bs, Nat.reduceAdd, ↓vopx, ↓vop, Nat.reduceBEq, a1q, flat, Nat.reduceLT, a8q, b0q, gtmp, hl, wocs, ↓goc, ↓woc, ↓a2q, ↓b8q, ↓c8q, ↓e5q, a6q, Tryz.ag25, Tryz.ag29, Tryz.sz25, Tryz.sz29, nns, r1, r2]
  repeat ((with_reducible refine And.intro ?_ ?_); · first | exact ⟨Tryz.is15, by simpa only [r1] using x9q d L⟩ | exact ⟨Tryz.is33, by simpa only [r2] using k6q t (by omega) (by omega)⟩)
  refine hK3 _ _ ?_
  refine vck fun A B hA hB => ?_
  simp only [b2q, a0q, lpv, Nat.reduceLT, true_implies, reduceCtorEq, false_implies, and_true, hl]
  refine hA ?_
  clear hA hB A B
  refine vsk fun K5 hK5 => ?_
  refine a3q 0 [] ?_
  simp only [bs, ↓vopx, ↓vop, a1q, flat, wocs, ↓goc, ↓woc, ↓a2q]
  refine hK5 _ _ ?_
  refine b1q ?_
  rw [show h7q d t ls = false from lg_t r2] at hQ
  refine hQ _ _ _ (.inr rfl) (a7q ?_ fun n b hn h => by rw [b7q, if_neg (by simp only [c6q]; omega), b7q, if_neg (by omega)]; exact h)
  try simp only [a0q, lpv, hl, Nat.reduceLT]
 ·refine a3q 0 [.pur (Bo (diaS d)), .pur (Bo (c4q t == 0))] ?_
  simp only [bs, Nat.reduceAdd, ↓vopx, ↓vop, Nat.reduceBEq, a1q, flat, Nat.reduceLT, a8q, b0q, opII, gtmp, hl, h2, wocs, ↓goc, ↓woc, ↓a2q, ↓b8q, ↓c8q, a6q, Tryz.ag22, Tryz.ag25, Tryz.ag29, Tryz.fd25_0, Tryz.sz22, Tryz.sz25, Tryz.sz29, Tryz.un22, d5q, j7q, nns, r1, r2]
  repeat ((with_reducible refine And.intro ?_ ?_); · first | exact ⟨Tryz.is15, by simpa only [r1] using x9q d L⟩ | exact ⟨Tryz.is33, by simpa only [r2] using k6q t (by omega) (by omega)⟩)
  refine hK3 _ _ ?_
  refine vck fun A B hA hB => ?_
  simp only [b2q, a0q, lpv, Nat.reduceLT, bne_iff_ne, bne_eq_false_iff_eq, ne_eq, true_implies, false_implies, and_true, hl, r3, not_false_eq_true, false_implies, true_implies, and_true]
  refine hA ?_
  clear hA hB A B
  refine vsk fun K6 hK6 => ?_
  refine a3q 0 [] ?_
  simp only [bs, ↓vopx, ↓vop, a1q, flat, wocs, ↓goc, ↓woc, ↓a2q]
  refine hK6 _ _ ?_
  refine b1q ?_
  rw [show h7q d t ls = false from lg_n r3] at hQ
  refine hQ _ _ _ (.inr rfl) (a7q ?_ fun n b hn h => by rw [b7q, if_neg (by simp only [c6q]; omega), b7q, if_neg (by omega)]; exact h)
  try simp only [a0q, lpv, hl, Nat.reduceLT]
 ·refine a3q 0 [.pur (Bo (diaS d)), .pur (Bo (c4q t == 0))] ?_
  simp only [bs, Nat.reduceAdd, ↓vopx, ↓vop, Nat.reduceBEq, a1q, flat, Nat.reduceLT, a8q, b0q, opII, gtmp, hl, h2, wocs, ↓goc, ↓woc, ↓a2q, ↓b8q, ↓c8q, a6q, Tryz.ag22, Tryz.ag25, Tryz.ag29, Tryz.fd25_0, Tryz.sz22, Tryz.sz25, Tryz.sz29, Tryz.un22, d5q, j7q, nns, r1, r2, r3]
  repeat ((with_reducible refine And.intro ?_ ?_); · first | exact ⟨Tryz.is15, by simpa only [r1] using x9q d L⟩ | exact ⟨Tryz.is33, by simpa only [r2] using k6q t (by omega) (by omega)⟩)
  refine hK3 _ _ ?_
  refine vck fun A B hA hB => ?_
  simp only [b2q, a0q, lpv, Nat.reduceLT, bne_iff_ne, bne_eq_false_iff_eq, ne_eq, true_implies, false_implies, true_and, hl, not_true_eq_false, false_implies, true_implies, true_and]
  refine hB ?_
  clear hA hB A B
  refine a9q ?_
  refine hK2 _ _ ?_
  refine vsk fun K7 hK7 => ?_
  refine vsk fun K8 hK8 => ?_
  refine a3q 0 [] ?_
  simp only [bs, ↓vopx, ↓vop, a1q, flat, wocs, ↓goc, ↓woc, ↓a2q]
  refine hK8 _ _ ?_
  refine a5q ?_
  refine c2q (fun mm e' s' => ∃ k : Nat, mm = ls.length - k ∧ k ≤ ls.length ∧ e'.length = 87 ∧ ev e' (.tmp 2) = .t (tMat ls) ∧ ev e' (.tmp 3) = .ptr s.next 0 ∧ ev e' (.tmp 4) = .ptr (s.next + 1) 0 ∧ ev e' (.tmp 7) = I k ∧ s' = (s.add (.box 25 [.t (h1q d.nodes), .t (tArs d.arrs)])).add (.box 29 [.t (d1q t.labels), .t (b3q t.pairs)]) ∧ ∀ (j : Nat) (o : Ob) (g : List Int), j < k → d.nodes[j]? = some o → ls[j]? = some g → arrS o t g = true) (⟨0, rfl, Nat.zero_le _, ?_⟩) ?_
  ·try simp only [a0q, a4q, Nat.reduceBEq, lpv, hl, h2, Nat.reduceLT, true_and]
   repeat ((with_reducible refine And.intro ?_ ?_); · trivial)
   exact fun j o g hj _ _ => absurd hj (by omega)
  rintro mm e _ ⟨k, rfl, hle_k, hl, k2, k3, k4, h_k, rfl, hal1⟩
  refine vsk fun K9 hK9 => ?_
  refine vsk fun K10 hK10 => ?_
  refine a3q 0 [] ?_
  simp only [bs, ↓vopx, ↓vop, Nat.reduceBEq, a1q, Nat.reduceLT, opII, hl, k2, h_k, wocs, ↓goc, ↓woc, ↓a2q, j7q]
  refine hK10 _ _ ?_
  refine vck fun A B hA hB => ?_
  simp only [b2q, a0q, lpv, Nat.reduceLT, decide_eq_true_eq, decide_eq_false_iff_not, hl]
  refine ⟨fun hc30 => hA ?_, fun hc30 => hB ?_⟩
  ·clear hA hB A B
   refine a9q ?_
   refine hK9 _ _ ?_
   refine vsk fun K11 hK11 => ?_
   refine a5q ?_
   refine vsk fun K12 hK12 => ?_
   have hlt : k < ls.length := by omega
   obtain ⟨o, ho⟩ : ∃ o, d.nodes[k]? = some o := ⟨_, List.getElem?_eq_getElem (by omega)⟩
   have g0 := d8z ho
   have hfl := f6q d.nodes
   have hi2 : k * 2 < d.nodes.length * 2 := by omega
   have o1 := L.o1 o (List.mem_of_getElem? ho)
   have o2 := L.o2 o (List.mem_of_getElem? ho)
   obtain ⟨g, hg⟩ : ∃ g, ls[k]? = some g := ⟨_, List.getElem?_eq_getElem hlt⟩
   have hgl := hls g (List.mem_of_getElem? hg)
   refine c5q Tryz.mixed 10 [0, 1, 0, 1, 1, 1, 0, 0, 1, 1] [.pur (Bo (arrS o t g))] [] 0 (by decide +kernel) (by simp [lpv, hl]) rfl ?_
   simp only [bs, Nat.reduceAdd, ↓vopx, ↓vop, Nat.reduceBEq, a1q, Nat.reduceLT, a8q, b0q, hl, k2, k3, k4, h_k, wocs, ↓goc, ↓woc, ↓a2q, ↓e3q, ↓b8q, a6q, chn, ↓goq, ↓woq, List.zip_cons_cons, List.zip_nil_right, Tryz.ag22, Tryz.ag29, Tryz.ag40, Tryz.fd25_0, Tryz.sz22, Tryz.sz29, Tryz.sz40, Tryz.un22, Tryz.un30, nns, g0, hfl, hi2, hg]
   repeat ((with_reducible refine And.intro ?_ ?_); · first | (with_reducible assumption) | exact ⟨Tryz.is34, x2z o t g (by omega) (by omega) (by omega) (by omega) (by omega)⟩)
   refine hK12 _ _ ?_
   refine vck fun A B hA hB => ?_
   simp only [b2q, a0q, lpv, Nat.reduceLT, Bool.not_eq_true', Bool.not_eq_false', hl]
   refine ⟨fun hc44 => hA ?_, fun hc44 => hB ?_⟩
   ·clear hA hB A B
    refine vsk fun K13 hK13 => ?_
    refine a3q 0 [] ?_
    simp only [bs, ↓vopx, ↓vop, a1q, flat, wocs, ↓goc, ↓woc, ↓a2q]
    refine hK13 _ _ ?_
    refine b1q ?_
    rw [show h7q d t ls = false from lg_o ho hg hc44] at hQ
    refine hQ _ _ _ (.inr rfl) (a7q ?_ fun n b hn h => by rw [b7q, if_neg (by simp only [c6q]; omega), b7q, if_neg (by omega)]; exact h)
    try simp only [a0q, lpv, hl, Nat.reduceLT]
   ·clear hA hB A B
    refine a9q ?_
    refine hK11 _ _ ?_
    refine a3q 0 [] ?_
    simp only [bs, ↓vopx, ↓vop, Nat.reduceBEq, a1q, flat, Nat.reduceLT, opII, hl, k2, k3, k4, h_k, wocs, ↓goc, ↓woc, ↓a2q]
    repeat ((with_reducible refine And.intro ?_ ?_); · exact ⟨by omega, by omega⟩)
    refine ⟨ls.length - (k + 1), by omega, k + 1, rfl, by omega, ?_⟩
    try simp only [a0q, a4q, Nat.reduceBEq, lpv, hl, k2, k3, k4, h_k, if_true, if_false, Nat.reduceEqDiff, Nat.reduceLT, true_and, and_true]
    repeat ((with_reducible refine And.intro ?_ ?_); · trivial)
    intro j o2 g2 hj ho2 hg2
    rcases Nat.lt_succ_iff_lt_or_eq.1 hj with h | h
    ·exact hal1 j o2 g2 h ho2 hg2
    ·subst h; rw [ho] at ho2; cases ho2; rw [hg] at hg2; cases hg2; exact hc44
  ·clear hA hB A B
   have hka : k = d.nodes.length := by omega
   refine c1q ?_
   simp only [a1q, b5q, if_true]
   refine hK7 _ _ ?_
   refine vsk fun K14 hK14 => ?_
   refine vsk fun K15 hK15 => ?_
   refine a3q 0 [] ?_
   simp only [bs, ↓vopx, ↓vop, a1q, flat, wocs, ↓goc, ↓woc, ↓a2q]
   refine hK15 _ _ ?_
   refine a5q ?_
   refine c2q (fun mm e' s' => ∃ k : Nat, mm = d.arrs.length - k ∧ k ≤ d.arrs.length ∧ e'.length = 87 ∧ ev e' (.tmp 2) = .t (tMat ls) ∧ ev e' (.tmp 3) = .ptr s.next 0 ∧ ev e' (.tmp 4) = .ptr (s.next + 1) 0 ∧ ev e' (.tmp 8) = I k ∧ s' = (s.add (.box 25 [.t (h1q d.nodes), .t (tArs d.arrs)])).add (.box 29 [.t (d1q t.labels), .t (b3q t.pairs)]) ∧ ∀ (j : Nat) (x : Ar), j < k → d.arrs[j]? = some x → alS d ls x = true) (⟨0, rfl, Nat.zero_le _, ?_⟩) ?_
   ·try simp only [a0q, a4q, Nat.reduceBEq, lpv, hl, k2, k3, k4, Nat.reduceLT, true_and]
    repeat ((with_reducible refine And.intro ?_ ?_); · trivial)
    exact fun j x hj _ => absurd hj (by omega)
   rintro mm e _ ⟨k, rfl, hle_k, hl, q2, q3, q4, h_k, rfl, hal2⟩
   refine vsk fun K16 hK16 => ?_
   refine vsk fun K17 hK17 => ?_
   refine a3q 0 [] ?_
   simp only [bs, ↓vopx, ↓vop, Nat.reduceBEq, a1q, Nat.reduceLT, a8q, b0q, opII, hl, q3, h_k, wocs, ↓goc, ↓woc, ↓a2q, Tryz.ag23, Tryz.fd25_1, Tryz.sz23, Tryz.un23, i0q, nns]
   refine hK17 _ _ ?_
   refine vck fun A B hA hB => ?_
   simp only [b2q, a0q, lpv, Nat.reduceLT, decide_eq_true_eq, decide_eq_false_iff_not, hl]
   refine ⟨fun hc49 => hA ?_, fun hc49 => hB ?_⟩
   ·clear hA hB A B
    refine a9q ?_
    refine hK16 _ _ ?_
    refine vsk fun K18 hK18 => ?_
    refine a5q ?_
    refine vsk fun K19 hK19 => ?_
    have hlt : k < d.arrs.length := by omega
    obtain ⟨x, hx⟩ : ∃ x, d.arrs[k]? = some x := ⟨_, List.getElem?_eq_getElem hlt⟩
    have g2 := getA2 hx
    have g1 := getA1 hx
    have g0 := getA0 hx
    have hfl := i6q d.arrs
    have hi2 : k * 3 < d.arrs.length * 3 := by omega
    have hi3 : k * 3 + 1 < d.arrs.length * 3 := by omega
    have hi4 : k * 3 + 2 < d.arrs.length * 3 := by omega
    have la := L.a x (List.mem_of_getElem? hx)
    obtain ⟨a, b, f0, hA, t0, hB, hab⟩ := (x7q.1 r1).ar x (List.mem_of_getElem? hx)
    have hlA := (List.getElem?_eq_some_iff.1 hA).1
    have hlB := (List.getElem?_eq_some_iff.1 hB).1
    obtain ⟨gf, hgf⟩ : ∃ g, ls[x.fr.toNat]? = some g := ⟨_, List.getElem?_eq_getElem (by omega)⟩
    obtain ⟨gt, hgt⟩ : ∃ g, ls[x.to.toNat]? = some g := ⟨_, List.getElem?_eq_getElem (by omega)⟩
    have hgtl := hls gt (List.mem_of_getElem? hgt)
    have hgfl := hls gf (List.mem_of_getElem? hgf)
    have hal : alS d ls x = ((thenS x.mp gt).2 && ((thenS x.mp gt).1 == gf)) := by unfold alS; rw [fAtL hgf, fAtL hgt]
    have htl := f2x x.mp gt
    refine c5q Tryz.mixed 20 [0, 1, 0, 1, 0, 1, 0, 0, 1, 0, 1, 0, 1, 1, 1, 0, 0, 0, 0, 0] [.pur (.tup [.t (c0q (thenS x.mp gt).1), Bo (thenS x.mp gt).2])] [] 0 (by decide +kernel) (by simp [lpv, hl]) rfl ?_
    simp only [bs, ↓vopx, ↓vop, Nat.reduceBEq, a1q, Nat.reduceLT, a8q, b0q, hl, q2, q3, h_k, wocs, ↓goc, ↓woc, ↓a2q, ↓e3q, a6q, chn, ↓goq, ↓woq, ↓h6z, List.zip_cons_cons, List.zip_nil_right, Tryz.ag23, Tryz.ag3, Tryz.ag40, Tryz.fd25_1, Tryz.fd49_1, Tryz.fd49_2, Tryz.sz23, Tryz.sz3, Tryz.sz40, Tryz.sz49, Tryz.un23, Tryz.un30, nns, g1, g2, hfl, hi2, hgt]
    repeat ((with_reducible refine And.intro ?_ ?_); · first | (with_reducible assumption) | omega | exact ⟨Tryz.is36, a6j x.mp gt (by omega) (by omega)⟩)
    refine hK19 _ _ ?_
    refine vsk fun K20 hK20 => ?_
    rcases (show (thenS x.mp gt).2 = false ∨ (thenS x.mp gt).2 = true by cases (thenS x.mp gt).2 <;> simp) with r4 | r4
    ·refine a3q 0 [] ?_
     simp only [bs, ↓vopx, ↓vop, Nat.reduceBEq, a1q, flat, Nat.reduceLT, gtmp, hl, wocs, ↓goc, ↓woc, ↓a2q, ↓e5q, r4]
     refine hK20 _ _ ?_
     refine vck fun A B hA hB => ?_
     simp only [b2q, a0q, lpv, Nat.reduceLT, true_implies, reduceCtorEq, false_implies, and_true, hl]
     refine hA ?_
     clear hA hB A B
     refine vsk fun K21 hK21 => ?_
     refine a3q 0 [] ?_
     simp only [bs, ↓vopx, ↓vop, a1q, flat, wocs, ↓goc, ↓woc, ↓a2q]
     refine hK21 _ _ ?_
     refine b1q ?_
     rw [show h7q d t ls = false from lg_a hx (by rw [hal, r4]; rfl)] at hQ
     refine hQ _ _ _ (.inr rfl) (a7q ?_ fun n b hn h => by rw [b7q, if_neg (by simp only [c6q]; omega), b7q, if_neg (by omega)]; exact h)
     try simp only [a0q, lpv, hl, Nat.reduceLT]
    ·refine a3q 0 [.pur (Bo ((thenS x.mp gt).1 == gf))] ?_
     simp only [bs, ↓vopx, ↓vop, Nat.reduceBEq, a1q, flat, Nat.reduceLT, a8q, b0q, gtmp, hl, q2, q3, h_k, wocs, ↓goc, ↓woc, ↓a2q, ↓b8q, ↓c8q, a6q, Tryz.ag23, Tryz.ag3, Tryz.ag40, Tryz.fd25_1, Tryz.fd49_0, Tryz.sz23, Tryz.sz3, Tryz.sz40, Tryz.sz49, Tryz.un23, Tryz.un30, nns, g0, hfl, hi2, hgf, r4]
     repeat ((with_reducible refine And.intro ?_ ?_); · first | (with_reducible assumption) | omega | exact ⟨Tryz.is13, x1z (thenS x.mp gt).1 gf (by omega) (by omega)⟩)
     refine hK20 _ _ ?_
     refine vck fun A B hA hB => ?_
     simp only [b2q, a0q, lpv, Nat.reduceLT, Bool.not_eq_true', Bool.not_eq_false', beq_iff_eq, beq_eq_false_iff_ne, ne_eq, hl]
     refine ⟨fun hc86 => hA ?_, fun hc86 => hB ?_⟩
     ·clear hA hB A B
      refine vsk fun K22 hK22 => ?_
      refine a3q 0 [] ?_
      simp only [bs, ↓vopx, ↓vop, a1q, flat, wocs, ↓goc, ↓woc, ↓a2q]
      refine hK22 _ _ ?_
      refine b1q ?_
      rw [show h7q d t ls = false from lg_a hx (by rw [hal, r4]; simp [hc86])] at hQ
      refine hQ _ _ _ (.inr rfl) (a7q ?_ fun n b hn h => by rw [b7q, if_neg (by simp only [c6q]; omega), b7q, if_neg (by omega)]; exact h)
      try simp only [a0q, lpv, hl, Nat.reduceLT]
     ·clear hA hB A B
      refine a9q ?_
      refine hK18 _ _ ?_
      refine a3q 0 [] ?_
      simp only [bs, ↓vopx, ↓vop, Nat.reduceBEq, a1q, flat, Nat.reduceLT, opII, hl, q2, q3, q4, h_k, wocs, ↓goc, ↓woc, ↓a2q]
      repeat ((with_reducible refine And.intro ?_ ?_); · exact ⟨by omega, by omega⟩)
      refine ⟨d.arrs.length - (k + 1), by omega, k + 1, rfl, by omega, ?_⟩
      try simp only [a0q, a4q, Nat.reduceBEq, lpv, hl, q2, q3, q4, h_k, if_true, if_false, Nat.reduceEqDiff, Nat.reduceLT, true_and, and_true]
      repeat ((with_reducible refine And.intro ?_ ?_); · trivial)
      intro j x2 hj hx2
      rcases Nat.lt_succ_iff_lt_or_eq.1 hj with h | h
      ·exact hal2 j x2 h hx2
      ·subst h; rw [hx] at hx2; cases hx2; rw [hal, r4]; simp [hc86]
   ·clear hA hB A B
    have hkb : k = d.arrs.length := by omega
    refine c1q ?_
    simp only [a1q, b5q, if_true]
    refine hK14 _ _ ?_
    refine vsk fun K23 hK23 => ?_
    refine a3q 0 [] ?_
    simp only [bs, ↓vopx, ↓vop, a1q, flat, wocs, ↓goc, ↓woc, ↓a2q]
    refine hK23 _ _ ?_
    refine b1q ?_
    rw [lg_ok r1 r2 r3 (by rw [← hka]; exact hal1) (by rw [← hkb]; exact hal2)] at hQ
    refine hQ _ _ _ (.inr rfl) (a7q ?_ fun n b hn h => by rw [b7q, if_neg (by simp only [c6q]; omega), b7q, if_neg (by omega)]; exact h)
    try simp only [a0q, lpv, hl, Nat.reduceLT]
end Go.Proofs

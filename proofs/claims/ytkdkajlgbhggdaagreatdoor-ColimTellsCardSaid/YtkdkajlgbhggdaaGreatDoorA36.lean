/- Lemmas on the way to the statement of this claim; no conditions. -/
import Derived.Laws.StructEq
import Derived.KernelRfl
import Derived.Test.YtkdkajlgbhggdaaGreatDoorA26
import Derived.Test.YtkdkajlgbhggdaaGreatDoorA27
import Derived.Test.YtkdkajlgbhggdaaGreatDoorA33
import Derived.Test.YtkdkajlgbhggdaaGreatDoorA34
open Go Go.V
namespace Go.Proofs
theorem Tryz.si65 : Tryz.prog.stoodInHeld 65 = false := by kernel_rfl
theorem g0z (w : World) (l : List Value) (i : Nat) (z : Value) (h : l[i]? = some z) (_h1 : ∀ k a, z = .int k a → True) (_hz : ∃ a, z = .int .i64 a) : (part 3 ⟨l⟩ i).run Tryz.prog w = .ok z w := by
 have := r3q (P := Tryz.prog) Tryz.ag3 w
 have h2 := i1q (P := Tryz.prog) Tryz.sz3 w
 unfold part
 simp [Sem.run_bind, this, Result.andThen, h]
theorem d3j (w : World) (d : Nat) (a b : Int) : (Op.equalIn (d + 1) 3 (.int .i64 a) (.int .i64 b)).run Tryz.prog w = .ok (a == b) w := by
 simp [Op.equalIn, run_underlying Tryz.underlying3]
theorem pair_eq (a b c d : Int) (w : World) : (Op.equal 65 (.agg ⟨[.int .i64 a, .int .i64 b]⟩) (.agg ⟨[.int .i64 c, .int .i64 d]⟩)).run Tryz.prog w = .ok (a == c && b == d) w := by
 have h1 := run_equalIn_struct (P := Tryz.prog) (w := w) 9999 65 ⟨[.int .i64 a, .int .i64 b]⟩ ⟨[.int .i64 c, .int .i64 d]⟩ (by kernel_rfl) Tryz.si65
 have hf : (Tryz.prog.fieldsOf 65).toList = [{ name := "A", type := 3, offset := 0, embedded := false, tag := "", pkgPath := "", byteOffset := 0 }, { name := "B", type := 3, offset := 1, embedded := false, tag := "", pkgPath := "", byteOffset := 8 }] := by
  simp [Program.fieldsOf, Tryz.underlying65]
 rw [hf] at h1
 unfold Op.equal
 refine h1.trans ?_
 have p1 := g0z w [.int .i64 a, .int .i64 b] 0 (.int .i64 a) rfl (fun _ _ _ => trivial) ⟨a, rfl⟩
 have p2 := g0z w [.int .i64 a, .int .i64 b] 1 (.int .i64 b) rfl (fun _ _ _ => trivial) ⟨b, rfl⟩
 have p3 := g0z w [.int .i64 c, .int .i64 d] 0 (.int .i64 c) rfl (fun _ _ _ => trivial) ⟨c, rfl⟩
 have p4 := g0z w [.int .i64 c, .int .i64 d] 1 (.int .i64 d) rfl (fun _ _ _ => trivial) ⟨d, rfl⟩
 have e1 := d3j w 9998 a c
 have e2 := d3j w 9998 b d
 simp only [Op.eqFields, Sem.run_bind, p1, p3, Result.andThen_ok, ne_eq, String.reduceEq, not_false_eq_true, if_true, e1]
 cases h : (a == c) <;> cases h' : (b == d) <;> simp [p2, p4, e2, h', Result.andThen, Sem.run_bind]
theorem a0j (x y : Operand) (a b c d : Int) (w : World) : (do eqGuard .neq 65 x y (.agg ⟨[.int .i64 a, .int .i64 b]⟩) (.agg ⟨[.int .i64 c, .int .i64 d]⟩); Go.binOp .neq 65 (.agg ⟨[.int .i64 a, .int .i64 b]⟩) (.agg ⟨[.int .i64 c, .int .i64 d]⟩) : Sem Value).run Tryz.prog w = .ok (.bool (!(a == c && b == d))) w := by
 simp only [eqGuard, Go.binOp, Sem.run_bind, pair_eq]
 simp [Sem.run, program]
end Go.Proofs

open Go Go.V
namespace Go.Proofs
def seqB (a b : ByteArray) : Bool := a.toList == b.toList
def peqB (p q : Int × Int) : Bool := p.1 == q.1 && p.2 == q.2
def allZ {α : Type} (r : α → α → Bool) : List α → List α → Bool
 | [], [] => true
 | a :: l, b :: m => r a b && allZ r l m
 | _, _ => false
theorem p5z {α : Type} {r : α → α → Bool} : ∀ {l m : List α}, l.length ≠ m.length → allZ r l m = false
 | [], [], h => absurd rfl h
 | [], _ :: _, _ => rfl
 | _ :: _, [], _ => rfl
 | a :: l, b :: m, h => by simp [allZ, p5z (r := r) (l := l) (m := m) (by simpa using h)]
theorem p4z {α : Type} {r : α → α → Bool} : ∀ {l m : List α} {i : Nat} {a b : α}, l[i]? = some a → m[i]? = some b → r a b = false → allZ r l m = false
 | [], _, i, a, b, h, _, _ => by simp at h
 | _ :: _, [], i, a, b, _, h, _ => by simp at h
 | a :: l, b :: m, 0, x, y, h1, h2, h3 => by simp at h1 h2; subst h1; subst h2; simp [allZ, h3]
 | a :: l, b :: m, i + 1, x, y, h1, h2, h3 => by simp [allZ, p4z (r := r) (l := l) (m := m) (by simpa using h1) (by simpa using h2) h3]
theorem h2z {α : Type} {r : α → α → Bool} : ∀ {l m : List α}, l.length = m.length → (∀ (i : Nat) (a b : α), l[i]? = some a → m[i]? = some b → r a b = true) → allZ r l m = true
 | [], [], _, _ => rfl
 | [], _ :: _, h, _ => by simp at h
 | _ :: _, [], h, _ => by simp at h
 | a :: l, b :: m, h, hh => by
  simp only [allZ, Bool.and_eq_true]
  exact ⟨hh 0 a b rfl rfl, h2z (by simpa using h) fun i x y h1 h2 => hh (i + 1) x y (by simpa using h1) (by simpa using h2)⟩
theorem z7z {l : List (Int × Int)} {i : Nat} {p : Int × Int} (h : l[i]? = some p) : (((l.flatMap l2q).map V.t).drop (i * 2)).take 2 = [I p.1, I p.2] := by
 induction l generalizing i with
 | nil => simp at h
 | cons a l ih =>
  cases i with
  | zero => simp at h; subst h; simp
  | succ i =>
   have := ih (i := i) (by simpa using h)
   rw [show (i + 1) * 2 = i * 2 + 2 by omega]
   simpa using this
def c3z (a b : Ob) : Bool := allZ seqB a.labels b.labels && allZ peqB a.pairs b.pairs
theorem v5x (s : Sg) (b c : Blk) : ((s.add b).add c).m s.next = some b := by simp [Sg.add]
theorem k4q (s : Sg) (c d : Blk) {n : Nat} {b : Blk} (hn : n < s.next) (h : s.m n = some b) : ((s.add c).add d).m n = some b := l6q _ d (Nat.lt_succ_of_lt hn) (l6q s c hn h)
set_option maxRecDepth 20000 in
theorem same_ (a b : Ob) (ha : a.labels.length < 1000000000) (_ha2 : a.pairs.length < 1000000000) (_hb : b.labels.length < 1000000000) (hb2 : b.pairs.length < 1000000000) : f7q Tryz.prog 12 [vObj a, vObj b] (Bo (c3z a b)) := by
 refine b4q Tryz.func12 rfl fun s Q hQ => ?_
 obtain ⟨e, he, hl, h0, h1⟩ : ∃ e : Env, ([vObj a, vObj b] ++ List.replicate (Tryz.f12.ntmps - ([vObj a, vObj b] : List V).length) .junk) = e ∧ e.length = 59 ∧ ev e (.tmp 0) = vObj a ∧ ev e (.tmp 1) = vObj b := ⟨_, rfl, rfl, rfl, rfl⟩
 rw [he]
 clear he
 have hm2 := v5x s (.box 29 [.t (d1q a.labels), .t (b3q a.pairs)]) (.box 29 [.t (d1q b.labels), .t (b3q b.pairs)])
 have hm3 := p5q (s.add (.box 29 [.t (d1q a.labels), .t (b3q a.pairs)])) (.box 29 [.t (d1q b.labels), .t (b3q b.pairs)])
 refine vsk fun K1 hK1 => ?_
 refine j9q false ?_
 simp only [wops, gow, wop, vopx, vop, d3q, e7q, a1q, flat, if_true, if_false, Nat.reduceEqDiff, Nat.reduceLT, V.cells, hl, h0, h1]
 refine hK1 _ _ ?_
 refine vsk fun K2 hK2 => ?_
 refine vsk fun K3 hK3 => ?_
 rcases Decidable.em (a.labels.length = b.labels.length) with hlab | hlab
 ·refine j9q false ?_
  simp only [wops, gow, wop, vopx, vop, d3q, e7q, lpv, a1q, flat, if_true, if_false, Nat.reduceEqDiff, Nat.reduceLT, a8q, b0q, opII, gtmp, List.getElem?_toArray, List.getElem?_cons_zero, List.getElem?_cons_succ, Nat.add_zero, Nat.zero_add, ne_eq, not_false_eq_true, true_and, and_true, Nat.succ_ne_zero, true_implies, false_implies, not_true_eq_false, Bool.false_eq_true, hl, Tryz.ag26, Tryz.ag27, Tryz.fd29_0, Tryz.fd29_1, Tryz.sz26, Tryz.sz27, Tryz.un26, Tryz.un27, c9q, g2q, hm2, hm3, hlab, bne_self_eq_false]
  refine hK3 _ _ ?_
  refine vck fun A B hA hB => ?_
  simp only [b2q, d3q, lpv, if_true, if_false, Nat.reduceEqDiff, Nat.reduceLT, bne_iff_ne, bne_eq_false_iff_eq, ne_eq, hl]
  refine ⟨fun hc22 => hA ?_, fun hc22 => hB ?_⟩
  ·clear hA hB A B
   refine vsk fun K4 hK4 => ?_
   refine j9q false ?_
   simp only [wops, gow, wop, vopx, vop, e7q, a1q, flat, if_true]
   refine hK4 _ _ ?_
   refine b1q ?_
   have hres : c3z a b = false := by simp [c3z, p5z (l := a.pairs) (m := b.pairs) (by omega)]
   refine hQ _ _ _ (.inr rfl) (a7q ?_ fun n b hn h => k4q s _ _ hn h)
   simp only [d3q, lpv, hl, if_true, if_false, Nat.reduceEqDiff, Nat.reduceLT]
   rw [hres]
  ·clear hA hB A B
   refine a9q ?_
   refine hK2 _ _ ?_
   refine vsk fun K5 hK5 => ?_
   refine vsk fun K6 hK6 => ?_
   refine j9q false ?_
   simp only [wops, gow, wop, vopx, vop, e7q, a1q, flat, if_true]
   refine hK6 _ _ ?_
   refine a5q ?_
   have hpl : a.pairs.length = b.pairs.length := by omega
   refine c2q (fun n e' s' => ∃ i : Nat, n = a.labels.length - i ∧ i ≤ a.labels.length ∧ e'.length = 59 ∧ ev e' (.tmp 2) = .ptr s.next 0 ∧ ev e' (.tmp 3) = .ptr (s.add (.box 29 [.t (d1q a.labels), .t (b3q a.pairs)])).next 0 ∧ ev e' (.tmp 5) = I i ∧ s' = (s.add (.box 29 [.t (d1q a.labels), .t (b3q a.pairs)])).add (.box 29 [.t (d1q b.labels), .t (b3q b.pairs)]) ∧ ∀ (j : Nat) (x y : ByteArray), j < i → a.labels[j]? = some x → b.labels[j]? = some y → seqB x y = true) (⟨0, rfl, Nat.zero_le _, ?_⟩) ?_
   ·simp only [d3q, lpv, hl, if_true, if_false, Nat.reduceEqDiff, Nat.reduceLT]
    exact ⟨trivial, trivial, trivial, rfl, trivial, fun j x y h => by omega⟩
   clear hl h0 h1 e
   rintro n e _ ⟨i, rfl, hi, hl, h2, h3, h5, rfl, hall⟩
   refine vsk fun K7 hK7 => ?_
   refine vsk fun K8 hK8 => ?_
   refine j9q false ?_
   simp only [wops, gow, wop, vopx, vop, d3q, lpv, a1q, if_true, if_false, Nat.reduceEqDiff, Nat.reduceLT, a8q, b0q, opII, List.getElem?_cons_zero, Nat.add_zero, ne_eq, not_false_eq_true, true_and, Nat.succ_ne_zero, hl, h2, h5, Tryz.ag26, Tryz.fd29_0, Tryz.sz26, Tryz.un26, c9q, hm2]
   refine hK8 _ _ ?_
   refine vck fun A B hA hB => ?_
   simp only [b2q, d3q, lpv, if_true, if_false, Nat.reduceEqDiff, Nat.reduceLT, decide_eq_true_eq, decide_eq_false_iff_not, hl]
   refine ⟨fun hc27 => hA ?_, fun hc27 => hB ?_⟩
   ·clear hA hB A B
    refine a9q ?_
    refine hK7 _ _ ?_
    refine vsk fun K9 hK9 => ?_
    refine a5q ?_
    refine vsk fun K10 hK10 => ?_
    have hlt : i < a.labels.length := by omega
    have hga : a.labels[i]? = some a.labels[i] := List.getElem?_eq_getElem hlt
    have hgb : b.labels[i]? = some (b.labels[i]'(by omega)) := List.getElem?_eq_getElem (by omega)
    refine f8x Tryz.mixed 10 (by decide +kernel) (by simp [lpv, hl]) ?_
    simp only [vops, gop, vopx, vop, d3q, lpv, a1q, if_true, if_false, Nat.reduceEqDiff, Nat.reduceLT, a8q, b0q, opSS, List.getElem?_cons_zero, Nat.add_zero, Nat.mul_one, ne_eq, not_false_eq_true, true_and, Nat.succ_ne_zero, Int.toNat_natCast, List.getElem?_map, Option.map_some, List.length_map, Int.natCast_nonneg, hl, h2, h3, h5, Tryz.ag26, Tryz.ag9, Tryz.fd29_0, Tryz.sz26, Tryz.sz9, Tryz.un26, hm2, hm3, hga, hgb]
    refine ⟨hlt, by omega, ?_⟩
    refine hK10 _ _ ?_
    refine vck fun A B hA hB => ?_
    simp only [b2q, d3q, lpv, if_true, if_false, Nat.reduceEqDiff, Nat.reduceLT, Bool.not_eq_true', Bool.not_eq_false', beq_iff_eq, beq_eq_false_iff_ne, ne_eq, hl]
    refine ⟨fun hc40 => hA ?_, fun hc40 => hB ?_⟩
    ·clear hA hB A B
     refine vsk fun K11 hK11 => ?_
     refine j9q false ?_
     simp only [wops, gow, wop, vopx, vop, e7q, a1q, flat, if_true]
     refine hK11 _ _ ?_
     refine b1q ?_
     have hres : c3z a b = false := by simp [c3z, p4z (r := seqB) hga hgb (by simpa [seqB] using hc40)]
     refine hQ _ _ _ (.inr rfl) (a7q ?_ fun n b hn h => k4q s _ _ hn h)
     simp only [d3q, lpv, hl, if_true, if_false, Nat.reduceEqDiff, Nat.reduceLT]
     rw [hres]
    ·clear hA hB A B
     refine a9q ?_
     refine hK9 _ _ ?_
     refine j9q false ?_
     simp only [wops, gow, wop, vopx, vop, d3q, e7q, lpv, a1q, flat, if_true, if_false, Nat.reduceEqDiff, Nat.reduceLT, opII, true_and, hl, h2, h3, h5]
     refine ⟨⟨by omega, by omega⟩, a.labels.length - (i + 1), by omega, i + 1, rfl, by omega, by push_cast; rfl, fun j x y hj h1 h2 => ?_⟩
     rcases Nat.lt_succ_iff_lt_or_eq.1 hj with hj | rfl
     ·exact hall j x y hj h1 h2
     ·rw [hga] at h1; rw [hgb] at h2; cases h1; cases h2; simpa [seqB] using hc40
   ·clear hA hB A B
    refine c1q ?_
    simp only [a1q, b5q, if_true]
    refine hK5 _ _ ?_
    refine vsk fun K12 hK12 => ?_
    refine vsk fun K13 hK13 => ?_
    refine j9q false ?_
    simp only [wops, gow, wop, vopx, vop, e7q, a1q, flat, if_true]
    refine hK13 _ _ ?_
    refine a5q ?_
    have hil : i = a.labels.length := by omega
    have hlabs : allZ seqB a.labels b.labels = true := h2z hlab fun j x y h1 h2 => hall j x y (by have := (List.getElem?_eq_some_iff.1 h1).1; omega) h1 h2
    refine c2q (fun n e' s' => ∃ i : Nat, n = a.pairs.length - i ∧ i ≤ a.pairs.length ∧ e'.length = 59 ∧ ev e' (.tmp 2) = .ptr s.next 0 ∧ ev e' (.tmp 3) = .ptr (s.add (.box 29 [.t (d1q a.labels), .t (b3q a.pairs)])).next 0 ∧ ev e' (.tmp 6) = I i ∧ s' = (s.add (.box 29 [.t (d1q a.labels), .t (b3q a.pairs)])).add (.box 29 [.t (d1q b.labels), .t (b3q b.pairs)]) ∧ ∀ (j : Nat) (x y : Int × Int), j < i → a.pairs[j]? = some x → b.pairs[j]? = some y → peqB x y = true) (⟨0, rfl, Nat.zero_le _, ?_⟩) ?_
    ·simp only [d3q, lpv, hl, h2, h3, if_true, if_false, Nat.reduceEqDiff, Nat.reduceLT]
     exact ⟨trivial, trivial, trivial, rfl, trivial, fun j x y h => by omega⟩
    rintro n e _ ⟨i, rfl, hi, hl, h2, h3, h6, rfl, hall⟩
    refine vsk fun K14 hK14 => ?_
    refine vsk fun K15 hK15 => ?_
    refine j9q false ?_
    simp only [wops, gow, wop, vopx, vop, d3q, lpv, a1q, if_true, if_false, Nat.reduceEqDiff, Nat.reduceLT, a8q, b0q, opII, List.getElem?_cons_zero, List.getElem?_cons_succ, Nat.zero_add, ne_eq, not_false_eq_true, true_and, Nat.succ_ne_zero, hl, h2, h6, Tryz.ag27, Tryz.fd29_1, Tryz.sz27, Tryz.un27, g2q, hm2]
    refine hK15 _ _ ?_
    refine vck fun A B hA hB => ?_
    simp only [b2q, d3q, lpv, if_true, if_false, Nat.reduceEqDiff, Nat.reduceLT, decide_eq_true_eq, decide_eq_false_iff_not, hl]
    refine ⟨fun hc45 => hA ?_, fun hc45 => hB ?_⟩
    ·clear hA hB A B
     refine a9q ?_
     refine hK14 _ _ ?_
     refine vsk fun K16 hK16 => ?_
     refine a5q ?_
     refine vsk fun K17 hK17 => ?_
     have hlt : i < a.pairs.length := by omega
     have hga : a.pairs[i]? = some a.pairs[i] := List.getElem?_eq_getElem hlt
     have hgb : b.pairs[i]? = some (b.pairs[i]'(by omega)) := List.getElem?_eq_getElem (by omega)
     have hda := z7z hga
     have hdb := z7z hgb
     refine f8x Tryz.mixed 10 (by decide +kernel) (by simp [lpv, hl]) ?_
     simp only [vops, gop, vopx, vop, d3q, lpv, a1q, if_true, if_false, Nat.reduceEqDiff, Nat.reduceLT, a8q, b0q, List.getElem?_cons_zero, List.getElem?_cons_succ, List.length_cons, List.length_nil, Nat.zero_add, ne_eq, not_false_eq_true, true_and, Nat.succ_ne_zero, Int.toNat_natCast, Int.natCast_nonneg, hl, h2, h3, h6, Tryz.ag27, Tryz.ag65, Tryz.fd29_1, Tryz.sz27, Tryz.sz65, Tryz.un27, hm2, hm3, hda, hdb, d7q]
     refine ⟨by omega, by omega, _, .inr (.inl ⟨_, _, [.int .i64 a.pairs[i].1, .int .i64 a.pairs[i].2], [.int .i64 (b.pairs[i]'(by omega)).1, .int .i64 (b.pairs[i]'(by omega)).2], rfl, rfl, rfl, rfl, rfl, fun w => a0j _ _ _ _ _ _ w⟩), ?_⟩
     refine hK17 _ _ ?_
     refine vck fun A B hA hB => ?_
     simp only [b2q, d3q, lpv, if_true, if_false, Nat.reduceEqDiff, Nat.reduceLT, Bool.not_eq_true', Bool.not_eq_false', hl]
     refine ⟨fun hc58 => hA ?_, fun hc58 => hB ?_⟩
     ·clear hA hB A B
      refine vsk fun K18 hK18 => ?_
      refine j9q false ?_
      simp only [wops, gow, wop, vopx, vop, e7q, a1q, flat, if_true]
      refine hK18 _ _ ?_
      refine b1q ?_
      have hres : c3z a b = false := by simp [c3z, p4z (r := peqB) hga hgb (by simpa [peqB] using hc58)]
      refine hQ _ _ _ (.inr rfl) (a7q ?_ fun n b hn h => k4q s _ _ hn h)
      simp only [d3q, lpv, hl, if_true, if_false, Nat.reduceEqDiff, Nat.reduceLT]
      rw [hres]
     ·clear hA hB A B
      refine a9q ?_
      refine hK16 _ _ ?_
      refine j9q false ?_
      simp only [wops, gow, wop, vopx, vop, d3q, e7q, lpv, a1q, flat, if_true, if_false, Nat.reduceEqDiff, Nat.reduceLT, opII, true_and, hl, h2, h3, h6]
      refine ⟨⟨by omega, by omega⟩, a.pairs.length - (i + 1), by omega, i + 1, rfl, by omega, by push_cast; rfl, fun j x y hj h1 h2 => ?_⟩
      rcases Nat.lt_succ_iff_lt_or_eq.1 hj with hj | rfl
      ·exact hall j x y hj h1 h2
      ·rw [hga] at h1; rw [hgb] at h2; cases h1; cases h2; simpa [peqB] using hc58
    ·clear hA hB A B
     refine c1q ?_
     simp only [a1q, b5q, if_true]
     refine hK12 _ _ ?_
     refine vsk fun K19 hK19 => ?_
     refine j9q false ?_
     simp only [wops, gow, wop, vopx, vop, e7q, a1q, flat, if_true]
     refine hK19 _ _ ?_
     refine b1q ?_
     have hprs : allZ peqB a.pairs b.pairs = true := h2z hpl fun j x y h1 h2 => hall j x y (by have := (List.getElem?_eq_some_iff.1 h1).1; omega) h1 h2
     have hres : c3z a b = true := by simp [c3z, hlabs, hprs]
     refine hQ _ _ _ (.inr rfl) (a7q ?_ fun n b hn h => k4q s _ _ hn h)
     simp only [d3q, lpv, hl, if_true, if_false, Nat.reduceEqDiff, Nat.reduceLT]
     rw [hres]
 ·refine j9q false ?_
  simp only [wops, gow, wop, vopx, vop, d3q, e7q, lpv, a1q, flat, if_true, if_false, Nat.reduceEqDiff, Nat.reduceLT, a8q, b0q, opII, gtmp, List.getElem?_toArray, List.getElem?_cons_zero, List.getElem?_cons_succ, Nat.add_zero, Nat.zero_add, ne_eq, not_false_eq_true, true_and, Nat.succ_ne_zero, true_implies, false_implies, reduceCtorEq, hl, Tryz.ag26, Tryz.ag27, Tryz.fd29_0, Tryz.fd29_1, Tryz.sz26, Tryz.sz27, Tryz.un26, Tryz.un27, c9q, g2q, hm2, hm3, show (((a.labels.length : Int) != b.labels.length) = true) from by simp only [bne_iff_ne, ne_eq, Int.natCast_inj]; exact hlab]
  refine hK3 _ _ ?_
  refine vck fun A B hA hB => ?_
  simp only [b2q, d3q, lpv, if_true, if_false, Nat.reduceEqDiff, Nat.reduceLT, true_implies, reduceCtorEq, false_implies, and_true, hl]
  refine hA ?_
  clear hA hB A B
  refine vsk fun K20 hK20 => ?_
  refine j9q false ?_
  simp only [wops, gow, wop, vopx, vop, e7q, a1q, flat, if_true]
  refine hK20 _ _ ?_
  refine b1q ?_
  have hres : c3z a b = false := by simp [c3z, p5z hlab]
  refine hQ _ _ _ (.inr rfl) (a7q ?_ fun n b hn h => k4q s _ _ hn h)
  simp only [d3q, lpv, hl, if_true, if_false, Nat.reduceEqDiff, Nat.reduceLT]
  rw [hres]
end Go.Proofs

open Go Go.V
namespace Go.Proofs
abbrev Mx := Nat → Nat → Bool
def fwk (M : Mx) (k : Nat) : Mx := fun a b => M a b || (M a k && M k b)
def cloK (M : Mx) (k : Nat) : Mx := (List.range k).foldl fwk M
def t0z (n : Nat) (M : Mx) : Bool := (List.range n).all fun a => (List.range n).all fun b => M a b == cloK M n a b
def rowOf (n : Nat) (M : Mx) (a : Nat) : List (Int × Int) := ((List.range n).filter fun b => M a b).map fun (b : Nat) => ((a : Int), (b : Int))
def g0q (n : Nat) (M : Mx) : List (Int × Int) := (List.range n).flatMap (rowOf n M)
def inB (n : Nat) (p : Int × Int) : Bool := decide (0 ≤ p.1 ∧ p.1 < n) && decide (0 ≤ p.2 ∧ p.2 < n)
def mxOf (l : List (Int × Int)) : Mx := fun a b => l.any fun p => p.1.toNat == a && p.2.toNat == b
theorem o7q (M : Mx) (k : Nat) : cloK M (k + 1) = fwk (cloK M k) k := by simp [cloK, List.range_succ]
theorem q4z {M : Mx} {a b : Nat} (h : M a b = true) : ∀ k, cloK M k a b = true
 | 0 => h
 | k + 1 => by rw [o7q]; simp [fwk, q4z h k]
theorem u0z {M : Mx} {j : Nat} : ∀ {k : Nat}, j ≤ k → ∀ {a b : Nat}, cloK M j a b = true → cloK M k a b = true
 | 0, h, a, b, hh => by obtain rfl : j = 0 := by omega
                        exact hh
 | k + 1, h, a, b, hh => by
  rcases Nat.lt_or_ge k j with h1 | h1
  ·obtain rfl : j = k + 1 := by omega
   exact hh
  ·rw [o7q]; simp [fwk, u0z h1 hh]
def u3q (n : Nat) (M : Mx) : Prop := ∀ a b, M a b = true → a < n ∧ b < n
theorem h4x {n : Nat} {M : Mx} {k : Nat} (h : u3q n M) : u3q n (fwk M k) := by
 intro a b hab
 simp only [fwk, Bool.or_eq_true, Bool.and_eq_true] at hab
 rcases hab with h1 | ⟨h1, h2⟩
 ·exact h a b h1
 ·exact ⟨(h _ _ h1).1, (h _ _ h2).2⟩
theorem s7q {n : Nat} {M : Mx} (h : u3q n M) : ∀ k, u3q n (cloK M k)
 | 0 => h
 | k + 1 => by rw [o7q]; exact h4x (s7q h k)
def j9x (M : Mx) : Prop := ∀ a k b, M a k = true → M k b = true → M a b = true
theorem n2x {M : Mx} (h : j9x M) (k : Nat) : fwk M k = M := by
 funext a b
 simp only [fwk]
 cases hab : M a b with
 | true => rfl
 | false =>
  cases h1 : M a k with
  | false => rfl
  | true =>
   cases h2 : M k b with
   | false => rfl
   | true => rw [h a k b h1 h2] at hab; cases hab
theorem n2z {M : Mx} (h : j9x M) : ∀ k, cloK M k = M
 | 0 => rfl
 | k + 1 => by rw [o7q, n2z h k, n2x h]
theorem l0z {n : Nat} {M : Mx} (hw : u3q n M) : t0z n M = true ↔ j9x M := by
 constructor
 ·intro h a k b h1 h2
  simp only [t0z, List.all_eq_true, List.mem_range, beq_iff_eq] at h
  have ha := (hw _ _ h1).1
  have hk := (hw _ _ h1).2
  have hb := (hw _ _ h2).2
  rw [h a ha b hb]
  refine u0z (j := k + 1) (by omega) ?_
  rw [o7q]
  simp [fwk, q4z h1, q4z h2]
 ·intro h
  simp only [t0z, List.all_eq_true, List.mem_range, beq_iff_eq]
  intro a _ b _
  rw [n2z h]
theorem i9z (l m : List (Int × Int)) : mxOf (l ++ m) = fun a b => mxOf l a b || mxOf m a b := by
 funext a b; simp [mxOf]
theorem r4q {l : List (Int × Int)} {i : Nat} {p : Int × Int} (h : l[i]? = some p) : mxOf (l.take (i + 1)) = fun a b => mxOf (l.take i) a b || (p.1.toNat == a && p.2.toNat == b) := by
 rw [List.take_add_one, h, i9z]
 funext a b; simp [mxOf]
theorem t2q {n : Nat} {l : List (Int × Int)} (h : ∀ p ∈ l, inB n p = true) : u3q n (mxOf l) := by
 intro a b hab
 simp only [mxOf, List.any_eq_true, Bool.and_eq_true, beq_iff_eq] at hab
 obtain ⟨p, hp, rfl, rfl⟩ := hab
 have := h p hp
 simp only [inB, Bool.and_eq_true, decide_eq_true_eq] at this
 omega
theorem y1q {n : Nat} {M : Mx} {p : Int × Int} : p ∈ g0q n M ↔ ∃ a b : Nat, a < n ∧ b < n ∧ M a b = true ∧ p = ((a : Int), (b : Int)) := by
 simp only [g0q, rowOf, List.mem_flatMap, List.mem_range, List.mem_map, List.mem_filter]
 constructor
 ·rintro ⟨a, ha, b, ⟨hb, hm⟩, rfl⟩; exact ⟨a, b, ha, hb, hm, rfl⟩
 ·rintro ⟨a, b, ha, hb, hm, rfl⟩; exact ⟨a, ha, b, ⟨hb, hm⟩, rfl⟩
def pltB (p q : Int × Int) : Bool := decide (p.1 < q.1) || (decide (p.1 = q.1) && decide (p.2 < q.2))
def i9q : List (Int × Int) → Bool
 | p :: q :: l => pltB p q && i9q (q :: l)
 | _ => true
theorem r8q : ∀ {l : List (Int × Int)} {i : Nat} {p q : Int × Int}, l[i]? = some p → l[i + 1]? = some q → pltB p q = false → i9q l = false
 | [], i, p, q, h, _, _ => by simp at h
 | [x], i, p, q, _, h, _ => by simp at h
 | x :: y :: l, 0, p, q, h1, h2, h3 => by simp at h1 h2; subst h1; subst h2; simp [i9q, h3]
 | x :: y :: l, i + 1, p, q, h1, h2, h3 => by simp [i9q, r8q (l := y :: l) (i := i) (by simpa using h1) (by simpa using h2) h3]
theorem t4q : ∀ {l : List (Int × Int)}, (∀ (i : Nat) (p q : Int × Int), l[i]? = some p → l[i + 1]? = some q → pltB p q = true) → i9q l = true
 | [], _ => rfl
 | [x], _ => rfl
 | x :: y :: l, h => by
  simp only [i9q, Bool.and_eq_true]
  exact ⟨h 0 x y rfl rfl, t4q fun i p q h1 h2 => h (i + 1) p q (by simpa using h1) (by simpa using h2)⟩
end Go.Proofs

open Go Go.V
namespace Go.Proofs
def outV (n o : Nat) : V := if n = 0 then .t (.v (.slice none 0 0)) else .loc o 0 n
abbrev TBo (b : Bool) : T := .v (.bool b)
def bRow (n : Nat) (M : Mx) (a : Nat) : List T := (List.range n).map fun b => TBo (M a b)
structure RefR (s : Sg) (p n : Nat) (M : Mx) (o : Nat) (r : Nat → Nat) : Prop where
 hp : s.m p = some (.box 93 [I n, outV n o])
 ho : 0 < n → s.m o = some (.box 90 ((List.range n).map fun i => .loc (r i) 0 n))
 hr : ∀ i, i < n → s.m (r i) = some (.arr 1 4 (bRow n M i))
 inj : ∀ i j, i < n → j < n → r i = r j → i = j
 le : n ≤ 200
 lp : p < s.next
 lo : 0 < n → o < s.next
 lr : ∀ i, i < n → r i < s.next
theorem i3z {α : Type} (f : Nat → α) {n i : Nat} (h : i < n) : ((List.range n).map f)[i]? = some (f i) := by
 rw [List.getElem?_map, List.getElem?_range h]; rfl
set_option maxRecDepth 20000 in
theorem u0q (s : Sg) (p n : Nat) (v : V) (a : Int) (hp : s.m p = some (.box 93 [I n, v])) : k0q Tryz.prog 81 [.ptr p 0, I a] s (Bo (decide (0 ≤ a ∧ a < n))) (s) := by
 refine d0q Tryz.func81 rfl fun Q hQ => ?_
 obtain ⟨e, he, hl, h0, h1⟩ : ∃ e : Env, ([.ptr p 0, I a] ++ List.replicate (Tryz.f81.ntmps - ([.ptr p 0, I a] : List V).length) .junk) = e ∧ e.length = 15 ∧ ev e (.tmp 0) = .ptr p 0 ∧ ev e (.tmp 1) = I a := ⟨_, rfl, rfl, rfl, rfl⟩
 rw [he]
 clear he
 refine vsk fun K1 hK1 => ?_
 refine a3q 0 [] ?_
 simp only [bs, ↓vopx, ↓vop, a1q, flat, wocs, ↓goc, ↓woc, ↓a2q]
 refine hK1 _ _ ?_
 refine vsk fun K2 hK2 => ?_
 rcases Decidable.em (0 ≤ a) with ha | ha
 ·refine a3q 0 [] ?_
  simp only [bs, f0q, ↓vopx, ↓vop, Nat.reduceBEq, a1q, flat, Nat.reduceLT, a8q, b0q, opII, gtmp, hl, h0, h1, wocs, ↓goc, ↓woc, ↓a2q, ↓h3q, Tryz.ag3, Tryz.fd93_0, Tryz.sz3, hp, ha]
  refine hK2 _ _ ?_
  refine b1q ?_
  refine hQ _ _ _ (.inr rfl) (Done.toS (a7q ?_ fun n b hn h => h))
  simp only [a0q, lpv, hl, Nat.reduceLT]
  simp [ha]
 ·refine a3q 0 [] ?_
  simp only [bs, ↓vopx, ↓vop, Nat.reduceBEq, a1q, flat, Nat.reduceLT, opII, gtmp, hl, h1, wocs, ↓goc, ↓woc, ↓a2q, ↓m5q, ha]
  refine hK2 _ _ ?_
  refine b1q ?_
  refine hQ _ _ _ (.inr rfl) (Done.toS (a7q ?_ fun n b hn h => h))
  simp only [a0q, lpv, hl, Nat.reduceLT]
  simp [ha]
set_option maxRecDepth 20000 in
theorem refHas_ (s : Sg) (p n : Nat) (M : Mx) (o : Nat) (r : Nat → Nat) (h : RefR s p n M o r) (a b : Int) : k0q Tryz.prog 57 [.ptr p 0, I a, I b] s (Bo (decide (0 ≤ a ∧ a < n) && decide (0 ≤ b ∧ b < n) && M a.toNat b.toNat)) (s) := by
 refine d0q Tryz.func57 rfl fun Q hQ => ?_
 obtain ⟨e, he, hl, h0, h1, h2⟩ : ∃ e : Env, ([.ptr p 0, I a, I b] ++ List.replicate (Tryz.f57.ntmps - ([.ptr p 0, I a, I b] : List V).length) .junk) = e ∧ e.length = 27 ∧ ev e (.tmp 0) = .ptr p 0 ∧ ev e (.tmp 1) = I a ∧ ev e (.tmp 2) = I b := ⟨_, rfl, rfl, rfl, rfl, rfl⟩
 rw [he]
 clear he
 refine vsk fun K1 hK1 => ?_
 refine a3q 0 [] ?_
 simp only [bs, ↓vopx, ↓vop, a1q, flat, wocs, ↓goc, ↓woc, ↓a2q]
 refine hK1 _ _ ?_
 refine vsk fun K2 hK2 => ?_
 rcases (show (¬ (0 ≤ a ∧ a < n)) ∨ ((0 ≤ a ∧ a < n) ∧ ¬ (0 ≤ b ∧ b < n)) ∨ ((0 ≤ a ∧ a < n) ∧ (0 ≤ b ∧ b < n)) by omega) with ha | ⟨ha, hb⟩ | ⟨ha, hb⟩
 ·refine a3q 0 [.det (Bo (decide (0 ≤ a ∧ a < n))) s] ?_
  simp only [bs, ↓vopx, ↓vop, Nat.reduceBEq, a1q, flat, Nat.reduceLT, gtmp, hl, h0, h1, wocs, ↓goc, ↓woc, ↓a2q, ↓b8q, ↓m5q, a6q, ha]
  repeat ((with_reducible refine And.intro ?_ ?_); · exact ⟨Tryz.is81, by simpa [*] using u0q s p n _ a h.hp⟩)
  refine hK2 _ _ ?_
  refine b1q ?_
  refine hQ _ _ _ (.inr rfl) (Done.toS (a7q ?_ fun n b hn h => h))
  simp only [a0q, lpv, hl, Nat.reduceLT]
  simp [*]
 ·refine a3q 0 [.det (Bo (decide (0 ≤ a ∧ a < n))) s, .det (Bo (decide (0 ≤ b ∧ b < n))) s] ?_
  simp only [bs, ↓vopx, ↓vop, Nat.reduceBEq, a1q, flat, Nat.reduceLT, gtmp, hl, h0, h1, h2, wocs, ↓goc, ↓woc, ↓a2q, ↓b8q, ↓h3q, ↓m5q, a6q, ha, hb]
  repeat ((with_reducible refine And.intro ?_ ?_); · first | exact ⟨Tryz.is81, by simpa [*] using u0q s p n _ a h.hp⟩ | exact ⟨Tryz.is81, by simpa [*] using u0q s p n _ b h.hp⟩)
  refine hK2 _ _ ?_
  refine b1q ?_
  refine hQ _ _ _ (.inr rfl) (Done.toS (a7q ?_ fun n b hn h => h))
  simp only [a0q, lpv, hl, Nat.reduceLT]
  simp [*]
 ·have hn : ¬ n = 0 := by omega
  have ho := h.ho (by omega)
  have hr := h.hr a.toNat (by omega)
  have ga : (List.range n)[a.toNat]? = some a.toNat := List.getElem?_range (by omega)
  have gb : (List.range n)[b.toNat]? = some b.toNat := List.getElem?_range (by omega)
  refine a3q 0 [.det (Bo (decide (0 ≤ a ∧ a < n))) s, .det (Bo (decide (0 ≤ b ∧ b < n))) s] ?_
  simp only [bs, f0q, ↓vopx, ↓vop, Nat.reduceBEq, a1q, flat, Nat.reduceLT, a8q, b0q, gtmp, hl, h0, h1, h2, wocs, ↓goc, ↓woc, ↓a2q, ↓b8q, ↓h3q, a6q, Tryz.ag91, Tryz.ag4, Tryz.ag90, Tryz.fd93_1, Tryz.sz91, Tryz.sz4, Tryz.sz90, Tryz.un91, Tryz.un90, h.hp, ha, hb, outV, hn, ho, hr, ga, gb, bRow]
  repeat ((with_reducible refine And.intro ?_ ?_); · first | exact ⟨Tryz.is81, by simpa [*] using u0q s p n _ a h.hp⟩ | exact ⟨Tryz.is81, by simpa [*] using u0q s p n _ b h.hp⟩)
  refine hK2 _ _ ?_
  refine b1q ?_
  refine hQ _ _ _ (.inr rfl) (Done.toS (a7q ?_ fun n b hn h => h))
  simp only [a0q, lpv, hl, Nat.reduceLT]
  simp [*]
end Go.Proofs

open Go Go.V
namespace Go.Proofs
theorem d2x (x y : Operand) (a b : Bool) : b6z .neq (Bo a) (Bo b) Tryz.prog 4 x y (.bool (a != b)) := .inl ⟨_, _, rfl, rfl, by cases a <;> cases b <;> kernel_rfl⟩
def m2z (n : Nat) (M M' : Mx) : Bool := (List.range n).all fun a => (List.range n).all fun b => M a b == M' a b
theorem y9x {n : Nat} {M M' : Mx} {a b : Nat} (ha : a < n) (hb : b < n) (h : M a b ≠ M' a b) : m2z n M M' = false := by
 rw [Bool.eq_false_iff]
 intro hh
 simp only [m2z, List.all_eq_true, List.mem_range, beq_iff_eq] at hh
 exact h (hh a ha b hb)
theorem p3x {n : Nat} {M M' : Mx} (h : ∀ a b, a < n → b < n → M a b = M' a b) : m2z n M M' = true := by
 simp only [m2z, List.all_eq_true, List.mem_range, beq_iff_eq]
 exact fun a ha b hb => h a b ha hb
set_option maxRecDepth 20000 in
theorem a4j (s : Sg) (p n : Nat) (M : Mx) (o : Nat) (r : Nat → Nat) (h : RefR s p n M o r) (p1 : Nat) (M1 : Mx) (o1 : Nat) (r1 : Nat → Nat) (h' : RefR s p1 n M1 o1 r1) : k0q Tryz.prog 93 [.ptr p 0, .ptr p1 0] s (Bo (m2z n M M1)) (s) := by
 refine d0q Tryz.func93 rfl fun Q hQ => ?_
 obtain ⟨e, he, hl, h0, h1⟩ : ∃ e : Env, ([.ptr p 0, .ptr p1 0] ++ List.replicate (Tryz.f93.ntmps - ([.ptr p 0, .ptr p1 0] : List V).length) .junk) = e ∧ e.length = 53 ∧ ev e (.tmp 0) = .ptr p 0 ∧ ev e (.tmp 1) = .ptr p1 0 := ⟨_, rfl, rfl, rfl, rfl⟩
 rw [he]
 clear he
 have hnle := h.le
 refine vsk fun K1 hK1 => ?_
 refine a3q 0 [] ?_
 simp only [bs, ↓vopx, ↓vop, a1q, flat, wocs, ↓goc, ↓woc, ↓a2q]
 refine hK1 _ _ ?_
 refine vsk fun K2 hK2 => ?_
 refine vsk fun K3 hK3 => ?_
 refine c5q Tryz.mixed 8 [0, 0, 0, 1, 0, 0, 0, 1] [] [] 0 (by decide +kernel) (by simp [lpv, hl]) rfl ?_
 simp only [bs, f0q, ↓vopx, ↓vop, Nat.reduceBEq, a1q, Nat.reduceLT, a8q, b0q, opII, opSS, hl, h0, h1, wocs, ↓goc, ↓woc, ↓e3q, ↓farC, chn, ↓goq, ↓woq, List.zip_cons_cons, List.zip_nil_right, Tryz.ag3, Tryz.fd93_0, Tryz.sz3, h.hp, h'.hp, bne_self_eq_false]
 refine hK3 _ _ ?_
 refine vck fun A B hA hB => ?_
 simp only [b2q, a0q, lpv, Nat.reduceLT, true_implies, reduceCtorEq, false_implies, true_and, hl]
 refine hB ?_
 clear hA hB A B
 refine a9q ?_
 refine hK2 _ _ ?_
 refine vsk fun K4 hK4 => ?_
 refine vsk fun K5 hK5 => ?_
 refine a3q 0 [] ?_
 simp only [bs, ↓vopx, ↓vop, a1q, flat, wocs, ↓goc, ↓woc, ↓a2q]
 refine hK5 _ _ ?_
 refine a5q ?_
 refine c2q (fun mm e' s' => ∃ a : Nat, mm = n - a ∧ a ≤ n ∧ e'.length = 53 ∧ ev e' (.tmp 0) = .ptr p 0 ∧ ev e' (.tmp 1) = .ptr p1 0 ∧ ev e' (.tmp 5) = I a ∧ s = s' ∧ ∀ x y, x < a → y < n → M x y = M1 x y) (⟨0, rfl, Nat.zero_le _, ?_⟩) ?_
 ·try simp only [a0q, a4q, Nat.reduceBEq, lpv, hl, h0, h1, Nat.reduceLT, true_and]
  repeat ((with_reducible refine And.intro ?_ ?_); · trivial)
  exact fun x y hx => by omega
 rintro mm e _ ⟨a, rfl, hle_a, hl, h0, h1, h_a, rfl, ha⟩
 refine vsk fun K6 hK6 => ?_
 refine vsk fun K7 hK7 => ?_
 refine a3q 0 [] ?_
 simp only [bs, f0q, ↓vopx, ↓vop, Nat.reduceBEq, a1q, Nat.reduceLT, a8q, b0q, opII, hl, h0, h_a, wocs, ↓goc, ↓woc, ↓a2q, Tryz.ag3, Tryz.fd93_0, Tryz.sz3, h.hp]
 refine hK7 _ _ ?_
 refine vck fun A B hA hB => ?_
 simp only [b2q, a0q, lpv, Nat.reduceLT, decide_eq_true_eq, decide_eq_false_iff_not, hl]
 refine ⟨fun hc21 => hA ?_, fun hc21 => hB ?_⟩
 ·clear hA hB A B
  refine a9q ?_
  refine hK6 _ _ ?_
  refine vsk fun K8 hK8 => ?_
  refine a5q ?_
  refine vsk fun K9 hK9 => ?_
  refine a3q 0 [] ?_
  simp only [bs, ↓vopx, ↓vop, a1q, flat, wocs, ↓goc, ↓woc, ↓a2q]
  refine hK9 _ _ ?_
  refine a5q ?_
  refine c2q (fun mm e' s' => ∃ b : Nat, mm = n - b ∧ b ≤ n ∧ e'.length = 53 ∧ ev e' (.tmp 0) = .ptr p 0 ∧ ev e' (.tmp 1) = .ptr p1 0 ∧ ev e' (.tmp 5) = I a ∧ ev e' (.tmp 6) = I b ∧ s = s' ∧ ∀ y, y < b → M a y = M1 a y) (⟨0, rfl, Nat.zero_le _, ?_⟩) ?_
  ·try simp only [a0q, a4q, Nat.reduceBEq, lpv, hl, h0, h1, h_a, Nat.reduceLT, true_and]
   repeat ((with_reducible refine And.intro ?_ ?_); · trivial)
   exact fun y hy => by omega
  rintro mm e _ ⟨b, rfl, hle_b, hl, h0, h1, h_a, h_b, rfl, hb⟩
  refine vsk fun K10 hK10 => ?_
  refine vsk fun K11 hK11 => ?_
  refine a3q 0 [] ?_
  simp only [bs, f0q, ↓vopx, ↓vop, Nat.reduceBEq, a1q, Nat.reduceLT, a8q, b0q, opII, hl, h0, h_b, wocs, ↓goc, ↓woc, ↓a2q, Tryz.ag3, Tryz.fd93_0, Tryz.sz3, h.hp]
  refine hK11 _ _ ?_
  refine vck fun A B hA hB => ?_
  simp only [b2q, a0q, lpv, Nat.reduceLT, decide_eq_true_eq, decide_eq_false_iff_not, hl]
  refine ⟨fun hc29 => hA ?_, fun hc29 => hB ?_⟩
  ·clear hA hB A B
   refine a9q ?_
   refine hK10 _ _ ?_
   refine vsk fun K12 hK12 => ?_
   refine a5q ?_
   refine vsk fun K13 hK13 => ?_
   have hn : ¬ n = 0 := by omega
   have ho := h.ho (by omega)
   have hr := h.hr a (by omega)
   have ho1 := h'.ho (by omega)
   have hr1 := h'.hr a (by omega)
   have ga : (List.range n)[a]? = some a := List.getElem?_range (by omega)
   have gb : (List.range n)[b]? = some b := List.getElem?_range (by omega)
   refine c5q Tryz.mixed 20 [0, 0, 0, 1, 0, 1, 1, 0, 1, 1, 0, 0, 0, 1, 0, 1, 1, 0, 1, 1] [.far (.bool (M a b != M1 a b))] [] 0 (by decide +kernel) (by simp [lpv, hl]) rfl ?_
   simp only [bs, f0q, ↓vopx, ↓vop, Nat.reduceBEq, a1q, Nat.reduceLT, a8q, b0q, opII, opSS, hl, h0, h1, h_a, h_b, wocs, ↓goc, ↓woc, ↓e3q, ↓farC, chn, ↓goq, ↓woq, List.zip_cons_cons, List.zip_nil_right, Tryz.ag91, Tryz.ag4, Tryz.ag90, Tryz.fd93_1, Tryz.sz91, Tryz.sz4, Tryz.sz90, Tryz.un91, Tryz.un90, h.hp, h'.hp, outV, hn, ho, hr, ho1, hr1, ga, gb, bRow]
   repeat ((with_reducible refine And.intro ?_ ?_); · first | (with_reducible assumption) | exact d2x _ _ _ _)
   refine hK13 _ _ ?_
   refine vck fun A B hA hB => ?_
   simp only [b2q, a0q, lpv, Nat.reduceLT, bne_iff_ne, bne_eq_false_iff_eq, ne_eq, hl]
   refine ⟨fun hc52 => hA ?_, fun hc52 => hB ?_⟩
   ·clear hA hB A B
    refine vsk fun K14 hK14 => ?_
    refine a3q 0 [] ?_
    simp only [bs, ↓vopx, ↓vop, a1q, flat, wocs, ↓goc, ↓woc, ↓a2q]
    refine hK14 _ _ ?_
    refine b1q ?_
    refine hQ _ _ _ (.inr rfl) (Done.toS (a7q ?_ fun n b hn h => h))
    try simp only [a0q, lpv, hl, Nat.reduceLT]
    rw [y9x (a := a) (b := b) (by omega) (by omega) hc52]
   ·clear hA hB A B
    refine a9q ?_
    refine hK12 _ _ ?_
    refine a3q 0 [] ?_
    simp only [bs, ↓vopx, ↓vop, Nat.reduceBEq, a1q, flat, Nat.reduceLT, opII, hl, h0, h1, h_a, h_b, wocs, ↓goc, ↓woc, ↓a2q]
    repeat ((with_reducible refine And.intro ?_ ?_); · exact ⟨by omega, by omega⟩)
    refine ⟨n - (b + 1), by omega, b + 1, rfl, by omega, ?_⟩
    try simp only [a0q, a4q, Nat.reduceBEq, lpv, hl, h0, h1, h_a, h_b, if_true, if_false, Nat.reduceEqDiff, Nat.reduceLT, true_and, and_true]
    repeat ((with_reducible refine And.intro ?_ ?_); · trivial)
    intro y hy
    rcases Nat.lt_succ_iff_lt_or_eq.1 hy with hy | rfl
    ·exact hb y hy
    ·exact hc52
  ·clear hA hB A B
   have hbn : b = n := by omega
   refine c1q ?_
   simp only [a1q, b5q, if_true, if_false, Nat.reduceEqDiff, reduceCtorEq]
   refine hK8 _ _ ?_
   refine a3q 0 [] ?_
   simp only [bs, ↓vopx, ↓vop, Nat.reduceBEq, a1q, flat, Nat.reduceLT, opII, hl, h0, h1, h_a, wocs, ↓goc, ↓woc, ↓a2q]
   repeat ((with_reducible refine And.intro ?_ ?_); · exact ⟨by omega, by omega⟩)
   refine ⟨n - (a + 1), by omega, a + 1, rfl, by omega, ?_⟩
   try simp only [a0q, a4q, Nat.reduceBEq, lpv, hl, h0, h1, h_a, if_true, if_false, Nat.reduceEqDiff, Nat.reduceLT, true_and, and_true]
   repeat ((with_reducible refine And.intro ?_ ?_); · trivial)
   intro x y hx hy
   rcases Nat.lt_succ_iff_lt_or_eq.1 hx with hx | rfl
   ·exact ha x y hx hy
   ·exact hb y (by omega)
 ·clear hA hB A B
  have han : a = n := by omega
  subst han
  refine c1q ?_
  simp only [a1q, b5q, if_true]
  refine hK4 _ _ ?_
  refine vsk fun K15 hK15 => ?_
  refine a3q 0 [] ?_
  simp only [bs, ↓vopx, ↓vop, a1q, flat, wocs, ↓goc, ↓woc, ↓a2q]
  refine hK15 _ _ ?_
  refine b1q ?_
  refine hQ _ _ _ (.inr rfl) (Done.toS (a7q ?_ fun n b hn h => h))
  try simp only [a0q, lpv, hl, Nat.reduceLT]
  rw [p3x fun x y hx hy => ha x y hx hy]
end Go.Proofs

open Go Go.V
namespace Go.Proofs
structure FreshR (s : Sg) (p n o : Nat) (r : Nat → Nat) : Prop where
 hp : s.next ≤ p
 ho : 0 < n → s.next ≤ o
 hr : ∀ i, i < n → s.next ≤ r i
def NewR (s : Sg) (n : Nat) (M : Mx) (v : V) (s' : Sg) : Prop := ∃ p o r, v = .ptr p 0 ∧ RefR s' p n M o r ∧ FreshR s p n o r ∧ Keep s s' ∧ s.next ≤ s'.next
theorem g8q (n : Nat) (M : Mx) (a : Nat) : (bRow n M a).length = n := by simp [bRow]
theorem l7q {n : Nat} {M : Mx} {a b : Nat} (hb : b < n) : (bRow n M a)[b]? = some (TBo (M a b)) := i3z _ hb
theorem n0z {n : Nat} {M M' : Mx} {a : Nat} (h : ∀ b, b < n → M a b = M' a b) : bRow n M a = bRow n M' a := by
 apply List.ext_getElem?
 intro j
 by_cases hj : j < n
 ·rw [l7q hj, l7q hj, h j hj]
 ·rw [List.getElem?_eq_none (by rw [g8q]; omega), List.getElem?_eq_none (by rw [g8q]; omega)]
theorem v9q (n a : Nat) : repl [TBo false] n = bRow n (fun _ _ => false) a := by
 rw [l9q]
 apply List.ext_getElem?
 intro j
 by_cases hj : j < n
 ·rw [l7q hj]; simp [hj]
 ·rw [List.getElem?_eq_none (by simp; omega), List.getElem?_eq_none (by rw [g8q]; omega)]
def updM (M : Mx) (a b : Nat) (v : Bool) : Mx := fun x y => if x = a ∧ y = b then v else M x y
theorem v9x {n : Nat} {M : Mx} {a b : Nat} {v : Bool} (hb : b < n) : setAll (bRow n M a) b [TBo v] = bRow n (updM M a b v) a := by
 rw [h4q _ _ _ (by rw [g8q]; exact hb)]
 apply List.ext_getElem?
 intro j
 by_cases hj : j < n
 ·rw [l7q hj, List.getElem?_set, g8q, l7q hj]
  by_cases hbj : b = j
  ·subst hbj; simp [updM, hb]
  ·simp [updM, hbj, Ne.symm hbj]
 ·rw [List.getElem?_eq_none (by rw [List.length_set, g8q]; omega), List.getElem?_eq_none (by rw [g8q]; omega)]
theorem RefR.congr {s : Sg} {p n : Nat} {M M' : Mx} {o : Nat} {r : Nat → Nat} (h : RefR s p n M o r) (hm : ∀ x y, x < n → y < n → M x y = M' x y) : RefR s p n M' o r :=
 ⟨h.hp, h.ho, fun i hi => by rw [h.hr i hi, n0z fun b hb => hm i b hi hb], h.inj, h.le, h.lp, h.lo, h.lr⟩
theorem RefR.put {s : Sg} {p n : Nat} {M : Mx} {o : Nat} {r : Nat → Nat} (h : RefR s p n M o r) {a b : Nat} (ha : a < n) (hb : b < n) (v : Bool) :
 RefR (s.set (r a) (.arr 1 4 (setAll (bRow n M a) b [TBo v]))) p n (updM M a b v) o r := by
 have h1 : p ≠ r a := fun e => by have := h.hp; rw [e, h.hr a ha] at this; cases this
 have h2 : o ≠ r a := fun e => by have := h.ho (by omega); rw [e, h.hr a ha] at this; cases this
 refine ⟨by simp [Sg.set, h1, h.hp], fun hn => by simp [Sg.set, h2, h.ho hn], fun i hi => ?_, h.inj, h.le, h.lp, h.lo, h.lr⟩
 by_cases hia : i = a
 ·subst hia
  simp only [Sg.set, if_true]
  rw [v9x hb]
 ·have h3 : r i ≠ r a := fun e => hia (h.inj i a hi ha e)
  simp only [Sg.set, h3, if_false]
  rw [h.hr i hi, n0z fun y hy => ?_]
  simp [updM, hia]
theorem RefR.keep {s s' : Sg} {p n : Nat} {M : Mx} {o : Nat} {r : Nat → Nat} (h : RefR s p n M o r) (hk : Keep s s') (hn : s.next ≤ s'.next) : RefR s' p n M o r :=
 ⟨hk _ _ h.lp h.hp, fun hn0 => hk _ _ (h.lo hn0) (h.ho hn0), fun i hi => hk _ _ (h.lr i hi) (h.hr i hi), h.inj, h.le, Nat.lt_of_lt_of_le h.lp hn, fun hn0 => Nat.lt_of_lt_of_le (h.lo hn0) hn, fun i hi => Nat.lt_of_lt_of_le (h.lr i hi) hn⟩
structure PartR (s : Sg) (N p n i o : Nat) (r : Nat → Nat) : Prop where
 hp : s.m p = some (.box 93 [I n, outV i o])
 ho : 0 < i → s.m o = some (.box 90 ((List.range i).map fun i => .loc (r i) 0 n))
 hr : ∀ j, j < i → s.m (r j) = some (.arr 1 4 (bRow n (fun _ _ => false) j))
 inj : ∀ j k, j < i → k < i → r j = r k → j = k
 lp : p < s.next
 lo : 0 < i → o < s.next
 lr : ∀ j, j < i → r j < s.next
 fp : N ≤ p
 fo : 0 < i → N ≤ o
 fr : ∀ j, j < i → N ≤ r j
def newN (n : Int) : Nat := (max 0 (min n 200)).toNat
theorem w0z (n : Int) : ((newN n : Nat) : Int) = max 0 (min n 200) := by unfold newN; omega
theorem newN_le (n : Int) : newN n ≤ 200 := by unfold newN; omega
theorem f4z {n : Nat} (h : n ≤ 200) : newN n = n := by unfold newN; omega
theorem PartR.step {s : Sg} {N p n i o : Nat} {r : Nat → Nat} (h : PartR s N p n i o r) {cells : List V} (hc : cells = (List.range i).map fun i => .loc (r i) 0 n) {s1 : Sg} (hs1n : s1.next = s.next + 2)
 (hs1 : ∀ m, m < s.next → m ≠ o → s1.m m = s.m m) (hs2 : s1.m s.next = some (.arr 1 4 (bRow n (fun _ _ => false) i))) :
 PartR ((s1.add (.box 90 (cells ++ [.loc s.next 0 n]))).set p (.box 93 [I n, .loc s1.next 0 (i + 1)])) N p n (i + 1) s1.next (fun j => if j = i then s.next else r j) := by
 subst hc
 have hpn := h.lp
 have hpr : ∀ j, j < i → r j ≠ p := fun j hj e => by have := h.hr j hj; rw [e, h.hp] at this; cases this
 have hor : ∀ j, j < i → r j ≠ o := fun j hj e => by have := h.hr j hj; rw [e, h.ho (by omega)] at this; cases this
 refine ⟨?_, fun _ => ?_, fun j hj => ?_, fun j k hj hk e => ?_, ?_, fun _ => ?_, fun j hj => ?_, h.fp, fun _ => ?_, fun j hj => ?_⟩
 ·simp [Sg.set, outV]
 ·have e1 : s1.next ≠ p := by omega
  simp only [Sg.set, Sg.add, e1, if_false, if_true]
  rw [List.range_succ, List.map_append, List.map_singleton, if_pos rfl]
  congr 3
  apply List.map_congr_left
  intro j hj
  have : j ≠ i := by have := List.mem_range.1 hj; omega
  rw [if_neg this]
 ·by_cases hji : j = i
  ·subst hji
   have e1 : s.next ≠ p := by omega
   have e2 : s.next ≠ s1.next := by omega
   simp only [Sg.set, Sg.add, if_true, e1, e2, if_false]
   exact hs2
  ·have hj' : j < i := by omega
   have l1 := h.lr j hj'
   have e2 : r j ≠ s1.next := by omega
   simp only [Sg.set, Sg.add, hji, hpr j hj', e2, if_false]
   rw [hs1 _ l1 (hor j hj')]
   exact h.hr j hj'
 ·by_cases hji : j = i <;> by_cases hki : k = i
  ·omega
  ·have := h.lr k (by omega); simp only [hji, hki, if_true, if_false] at e; omega
  ·have := h.lr j (by omega); simp only [hji, hki, if_true, if_false] at e; omega
  ·simp only [hji, hki, if_false] at e
   exact h.inj j k (by omega) (by omega) e
 ·simp only [Sg.set, Sg.add]; omega
 ·simp only [Sg.set, Sg.add]; omega
 ·by_cases hji : j = i
  ·simp only [hji, if_true, Sg.set, Sg.add]; omega
  ·have := h.lr j (by omega); simp only [hji, if_false, Sg.set, Sg.add]; omega
 ·have := h.fp; omega
 ·by_cases hji : j = i
  ·have := h.fp; simp only [hji, if_true]; omega
  ·simp only [hji, if_false]; exact h.fr j (by omega)
theorem PartR.done {s : Sg} {N p n o : Nat} {r : Nat → Nat} (h : PartR s N p n n o r) (hn : n ≤ 200) : RefR s p n (fun _ _ => false) o r := ⟨h.hp, h.ho, h.hr, h.inj, hn, h.lp, h.lo, h.lr⟩
set_option maxRecDepth 20000 in
theorem s0z (s : Sg) (n : Int) : f8q Tryz.prog 48 [I n] s (NewR s (newN n) (fun _ _ => false)) := by
 refine b6q Tryz.func48 rfl fun Q hQ => ?_
 obtain ⟨e, he, hl, h0⟩ : ∃ e : Env, ([I n] ++ List.replicate (Tryz.f48.ntmps - ([I n] : List V).length) .junk) = e ∧ e.length = 33 ∧ ev e (.tmp 0) = I n := ⟨_, rfl, rfl, rfl⟩
 rw [he]
 clear he
 have hnc := w0z n
 have hnl := newN_le n
 refine vsk fun K1 hK1 => ?_
 refine a3q 0 [] ?_
 simp only [bs, ↓vopx, ↓vop, a1q, flat, wocs, ↓goc, ↓woc, ↓a2q]
 refine hK1 _ _ ?_
 refine vsk fun K2 hK2 => ?_
 refine a3q 0 [] ?_
 simp only [bs, Nat.reduceLeDiff, Nat.reduceAdd, d9q, g7q, ↓vopx, ↓vop, Nat.reduceBEq, a1q, flat, Nat.reduceLT, V.cells, hl, h0, wocs, ↓goc, ↓woc, ↓a2q, Tryz.st93, ← w0z]
 refine hK2 _ _ ?_
 refine vsk fun K3 hK3 => ?_
 refine vsk fun K4 hK4 => ?_
 refine a3q 0 [] ?_
 simp only [bs, ↓vopx, ↓vop, a1q, flat, wocs, ↓goc, ↓woc, ↓a2q]
 refine hK4 _ _ ?_
 refine a5q ?_
 refine c2q (fun mm e' s' => ∃ i : Nat, mm = newN n - i ∧ i ≤ newN n ∧ e'.length = 33 ∧ ev e' (.tmp 3) = .ptr s.next 0 ∧ ev e' (.tmp 4) = I i ∧ True ∧ ∃ o r, PartR s' s.next s.next (newN n) i o r ∧ Keep s s' ∧ s.next ≤ s'.next) (⟨0, rfl, Nat.zero_le _, ?_⟩) ?_
 ·try simp only [a0q, a4q, Nat.reduceBEq, lpv, hl, Nat.reduceLT, true_and]
  repeat ((with_reducible refine And.intro ?_ ?_); · trivial)
  exact ⟨0, fun _ => 0, ⟨by simp [Sg.add, outV], fun h => by omega, fun j h => by omega, fun j k h => by omega, by simp [Sg.add], fun h => by omega, fun j h => by omega, Nat.le_refl _, fun h => by omega, fun j h => by omega⟩, (Keep.refl s).add (Nat.le_refl _) _, by simp [Sg.add]⟩
 rintro mm e s1 ⟨i, rfl, hle_i, hl, h3, h_i, hst, ⟨o, r, hpart, hkeep, hnx⟩⟩
 refine vsk fun K5 hK5 => ?_
 refine vsk fun K6 hK6 => ?_
 refine a3q 0 [] ?_
 simp only [bs, f0q, ↓vopx, ↓vop, Nat.reduceBEq, a1q, Nat.reduceLT, a8q, b0q, opII, hl, h3, h_i, wocs, ↓goc, ↓woc, ↓a2q, Tryz.ag3, Tryz.fd93_0, Tryz.sz3, hpart.hp]
 refine hK6 _ _ ?_
 refine vck fun A B hA hB => ?_
 simp only [b2q, a0q, lpv, Nat.reduceLT, decide_eq_true_eq, decide_eq_false_iff_not, hl]
 refine ⟨fun hc15 => hA ?_, fun hc15 => hB ?_⟩
 ·clear hA hB A B
  refine a9q ?_
  refine hK5 _ _ ?_
  refine vsk fun K7 hK7 => ?_
  refine a5q ?_
  have hlp := hpart.lp
  have hne0 : ¬ s.next = s1.next := by omega
  have hne1 : ¬ s.next = s1.next + 1 := by omega
  have hne2 : ¬ s.next = s1.next + 2 := by omega
  have hne3 : ¬ s.next = s1.next + 3 := by omega
  rcases Nat.eq_zero_or_pos i with hi0 | hi0
  ·have ho0 : outV i o = .t (.v (.slice none 0 0)) := by simp [outV, hi0]
   refine c5q Tryz.mixed 12 [0, 0, 0, 0, 2, 0, 0, 0, 1, 3, 4, 6] [] [] 0 (by decide +kernel) (by simp [lpv, hl]) rfl ?_
   simp only [bs, Nat.reduceLeDiff, Nat.reduceAdd, d9q, g7q, repl, f0q, ↓vopx, ↓vop, Nat.reduceBEq, a1q, b5q, Nat.reduceLT, V.cells, a8q, b0q, hl, h3, wocs, ↓goc, ↓woc, ↓a2q, ↓e3q, ↓j6x, chn, ↓goq, ↓woq, List.zip_cons_cons, List.zip_nil_right, ↓vopb, srcB, dstB, Tryz.ag91, Tryz.ag3, Tryz.fd93_0, Tryz.fd93_1, Tryz.sl91, Tryz.sl90, Tryz.sz91, Tryz.sz3, Nat.add_assoc, hne0, hne1, hne2, ho0, hpart.hp]
   repeat ((with_reducible refine And.intro ?_ ?_); · first | omega | (repeat' first | exact Keep.refl _ | refine Keep.add ?_ ?_ _ | refine Keep.set ?_ ?_ _ | exact Nat.le_refl _ | (simp only [Sg.add]; omega)))
   refine hK7 _ _ ?_
   refine a3q 0 [] ?_
   simp only [bs, ↓vopx, ↓vop, Nat.reduceBEq, a1q, flat, Nat.reduceLT, opII, hl, h3, h_i, wocs, ↓goc, ↓woc, ↓a2q]
   repeat ((with_reducible refine And.intro ?_ ?_); · exact ⟨by omega, by omega⟩)
   refine ⟨newN n - (i + 1), by omega, i + 1, rfl, by omega, ?_⟩
   try simp only [a0q, a4q, Nat.reduceBEq, lpv, hl, h3, h_i, if_true, if_false, Nat.reduceEqDiff, Nat.reduceLT, true_and, and_true]
   repeat ((with_reducible refine And.intro ?_ ?_); · trivial)
   first
   | (subst hi0; exact ⟨_, _, hpart.step (cells := []) rfl (s1 := (s1.add (.arr 1 4 (repl [TBo false] (newN n)))).add (.box 90 [.loc s1.next 0 (newN n)])) rfl (fun m h1 h2 => by simp [Sg.add, show ¬ m = s1.next from by omega, show ¬ m = s1.next + 1 from by omega]) (by simp [Sg.add, v9q _ 0]), (((hkeep.add hnx _).add (by simp only [c6q]; omega) _).add (by simp only [c6q]; omega) _).set (Nat.le_refl _) _, by omega⟩)
   | exact ⟨_, _, hpart.step rfl (s1 := ((s1.add (.arr 1 4 (repl [TBo false] (newN n)))).add (.box 90 [.loc s1.next 0 (newN n)])).del o) rfl (fun m h1 h2 => by simp [Sg.add, Sg.del, h2, show ¬ m = s1.next from by omega, show ¬ m = s1.next + 1 from by omega]) (by simp [Sg.add, Sg.del, v9q _ i, show ¬ s1.next = o from by omega]), ((((hkeep.add hnx _).add (by simp only [c6q]; omega) _).del (hpart.fo hi0)).add (by simp only [c6q, e9q]; omega) _).set (Nat.le_refl _) _, by omega⟩
  ·have hlo := hpart.lo hi0
   have hoo := hpart.ho hi0
   have hi1 : outV i o = .loc o 0 i := by simp [outV, show ¬ i = 0 from by omega]
   have hpo : ¬ s.next = o := fun e => by have := hpart.hp; rw [e, hoo] at this; cases this
   have hno0 : ¬ o = s1.next := by omega
   have hno1 : ¬ o = s1.next + 1 := by omega
   refine c5q Tryz.mixed 12 [0, 0, 0, 0, 2, 0, 0, 0, 1, 3, 4, 6] [] [] 0 (by decide +kernel) (by simp [lpv, hl]) rfl ?_
   simp only [bs, Nat.reduceLeDiff, Nat.reduceAdd, d9q, g7q, repl, f0q, ↓vopx, ↓vop, Nat.reduceBEq, a1q, b5q, Nat.reduceLT, V.cells, a8q, b0q, hl, h3, wocs, ↓goc, ↓woc, ↓a2q, ↓e3q, ↓j6x, chn, ↓goq, ↓woq, List.zip_cons_cons, List.zip_nil_right, ↓vopb, srcB, dstB, Tryz.ag91, Tryz.ag3, Tryz.fd93_0, Tryz.fd93_1, Tryz.sl91, Tryz.sl90, Tryz.sz91, Tryz.sz3, Nat.add_assoc, hne0, hne1, hne2, hpart.hp, hi1, hoo, hpo, hno0, hno1]
   repeat ((with_reducible refine And.intro ?_ ?_); · first | omega | (repeat' first | exact Keep.refl _ | refine Keep.add ?_ ?_ _ | refine Keep.set ?_ ?_ _ | exact Nat.le_refl _ | (simp only [Sg.add]; omega)))
   refine hK7 _ _ ?_
   refine a3q 0 [] ?_
   simp only [bs, ↓vopx, ↓vop, Nat.reduceBEq, a1q, flat, Nat.reduceLT, opII, hl, h3, h_i, wocs, ↓goc, ↓woc, ↓a2q]
   repeat ((with_reducible refine And.intro ?_ ?_); · exact ⟨by omega, by omega⟩)
   refine ⟨newN n - (i + 1), by omega, i + 1, rfl, by omega, ?_⟩
   try simp only [a0q, a4q, Nat.reduceBEq, lpv, hl, h3, h_i, if_true, if_false, Nat.reduceEqDiff, Nat.reduceLT, true_and, and_true]
   repeat ((with_reducible refine And.intro ?_ ?_); · trivial)
   first
   | (subst hi0; exact ⟨_, _, hpart.step (cells := []) rfl (s1 := (s1.add (.arr 1 4 (repl [TBo false] (newN n)))).add (.box 90 [.loc s1.next 0 (newN n)])) rfl (fun m h1 h2 => by simp [Sg.add, show ¬ m = s1.next from by omega, show ¬ m = s1.next + 1 from by omega]) (by simp [Sg.add, v9q _ 0]), (((hkeep.add hnx _).add (by simp only [c6q]; omega) _).add (by simp only [c6q]; omega) _).set (Nat.le_refl _) _, by omega⟩)
   | exact ⟨_, _, hpart.step rfl (s1 := ((s1.add (.arr 1 4 (repl [TBo false] (newN n)))).add (.box 90 [.loc s1.next 0 (newN n)])).del o) rfl (fun m h1 h2 => by simp [Sg.add, Sg.del, h2, show ¬ m = s1.next from by omega, show ¬ m = s1.next + 1 from by omega]) (by simp [Sg.add, Sg.del, v9q _ i, show ¬ s1.next = o from by omega]), ((((hkeep.add hnx _).add (by simp only [c6q]; omega) _).del (hpart.fo hi0)).add (by simp only [c6q, e9q]; omega) _).set (Nat.le_refl _) _, by omega⟩
 ·clear hA hB A B
  have hin : i = newN n := by omega
  subst hin
  refine c1q ?_
  simp only [a1q, b5q, if_true]
  refine hK3 _ _ ?_
  refine vsk fun K8 hK8 => ?_
  refine a3q 0 [] ?_
  simp only [bs, ↓vopx, ↓vop, Nat.reduceBEq, a1q, Nat.reduceLT, hl, h3, wocs, ↓goc, ↓woc, ↓a2q]
  refine hK8 _ _ ?_
  refine b1q ?_
  refine hQ _ _ _ (.inr rfl) (d6q (v := .ptr s.next 0) ?_ rfl ⟨s.next, o, r, rfl, hpart.done hnl, ⟨hpart.fp, hpart.fo, hpart.fr⟩, hkeep, hnx⟩)
  try simp only [a0q, lpv, hl, Nat.reduceLT]
end Go.Proofs

open Go Go.V
namespace Go.Proofs
def cpB (M : Mx) (a b : Nat) : Mx := fun x y => decide (x < a ∨ (x = a ∧ y < b)) && M x y
theorem cpB_put (M : Mx) (a b : Nat) (x y : Nat) : updM (cpB M a b) a b (M a b) x y = cpB M a (b + 1) x y := by
 unfold updM cpB
 by_cases h : x = a ∧ y = b
 ·obtain ⟨rfl, rfl⟩ := h; simp
 ·rw [if_neg h]
  congr 1
  apply decide_eq_decide.2
  omega
set_option maxRecDepth 20000 in
theorem a2j (s : Sg) (p n : Nat) (M : Mx) (o : Nat) (r : Nat → Nat) (h : RefR s p n M o r) : f8q Tryz.prog 87 [.ptr p 0] s (NewR s n M) := by
 refine b6q Tryz.func87 rfl fun Q hQ => ?_
 obtain ⟨e, he, hl, h0⟩ : ∃ e : Env, ([.ptr p 0] ++ List.replicate (Tryz.f87.ntmps - ([.ptr p 0] : List V).length) .junk) = e ∧ e.length = 47 ∧ ev e (.tmp 0) = .ptr p 0 := ⟨_, rfl, rfl, rfl⟩
 rw [he]
 clear he
 have hnl := h.le
 have hnn := f4z hnl
 refine vsk fun K1 hK1 => ?_
 refine a3q 0 [] ?_
 simp only [bs, ↓vopx, ↓vop, a1q, flat, wocs, ↓goc, ↓woc, ↓a2q]
 refine hK1 _ _ ?_
 refine vsk fun K2 hK2 => ?_
 refine a3q 0 [.stop] ?_
 simp only [bs, Nat.reduceAdd, f0q, ↓vopx, ↓vop, Nat.reduceBEq, a1q, Nat.reduceLT, a8q, b0q, hl, h0, wocs, ↓goc, ↓woc, ↓a2q, ↓b8q, a6q, Tryz.ag3, Tryz.fd93_0, Tryz.sz3, h.hp]
 refine ⟨Tryz.is48, (s0z s n).mono fun v s2 hv => ?_⟩
 rw [hnn] at hv
 obtain ⟨c, o1, r1, rfl, hR, hF, hk, hnx⟩ := hv
 try simp only [bs, Nat.reduceBEq, Nat.reduceLT, hl, h0, Hold]
 refine hK2 _ _ ?_
 refine vsk fun K3 hK3 => ?_
 refine vsk fun K4 hK4 => ?_
 refine a3q 0 [] ?_
 simp only [bs, ↓vopx, ↓vop, a1q, flat, wocs, ↓goc, ↓woc, ↓a2q]
 refine hK4 _ _ ?_
 refine a5q ?_
 refine c2q (fun mm e' s' => ∃ a : Nat, mm = n - a ∧ a ≤ n ∧ e'.length = 47 ∧ ev e' (.tmp 0) = .ptr p 0 ∧ ev e' (.tmp 3) = .ptr c 0 ∧ ev e' (.tmp 4) = I a ∧ True ∧ RefR s' c n (cpB M a 0) o1 r1 ∧ Keep s s' ∧ s.next ≤ s'.next) (⟨0, rfl, Nat.zero_le _, ?_⟩) ?_
 ·try simp only [a0q, a4q, Nat.reduceBEq, lpv, hl, h0, Nat.reduceLT, true_and]
  repeat ((with_reducible refine And.intro ?_ ?_); · trivial)
  exact ⟨hR.congr fun x y hx hy => by simp [cpB], hk, hnx⟩
 rintro mm e s1 ⟨a, rfl, hle_a, hl, h0, h3, h_a, hst, ⟨hd, hkeep, hnx⟩⟩
 refine vsk fun K5 hK5 => ?_
 refine vsk fun K6 hK6 => ?_
 have hs := h.keep hkeep hnx
 refine a3q 0 [] ?_
 simp only [bs, f0q, ↓vopx, ↓vop, Nat.reduceBEq, a1q, Nat.reduceLT, a8q, b0q, opII, hl, h0, h_a, wocs, ↓goc, ↓woc, ↓a2q, Tryz.ag3, Tryz.fd93_0, Tryz.sz3, hs.hp]
 refine hK6 _ _ ?_
 refine vck fun A B hA hB => ?_
 simp only [b2q, a0q, lpv, Nat.reduceLT, decide_eq_true_eq, decide_eq_false_iff_not, hl]
 refine ⟨fun hc16 => hA ?_, fun hc16 => hB ?_⟩
 ·clear hA hB A B
  refine a9q ?_
  refine hK5 _ _ ?_
  refine vsk fun K7 hK7 => ?_
  refine a5q ?_
  refine vsk fun K8 hK8 => ?_
  refine a3q 0 [] ?_
  simp only [bs, ↓vopx, ↓vop, a1q, flat, wocs, ↓goc, ↓woc, ↓a2q]
  refine hK8 _ _ ?_
  refine a5q ?_
  refine c2q (fun mm e' s' => ∃ b : Nat, mm = n - b ∧ b ≤ n ∧ e'.length = 47 ∧ ev e' (.tmp 0) = .ptr p 0 ∧ ev e' (.tmp 3) = .ptr c 0 ∧ ev e' (.tmp 4) = I a ∧ ev e' (.tmp 5) = I b ∧ True ∧ RefR s' c n (cpB M a b) o1 r1 ∧ Keep s s' ∧ s.next ≤ s'.next) (⟨0, rfl, Nat.zero_le _, ?_⟩) ?_
  ·try simp only [a0q, a4q, Nat.reduceBEq, lpv, hl, h0, h3, h_a, Nat.reduceLT, true_and]
   repeat ((with_reducible refine And.intro ?_ ?_); · trivial)
   first | exact hnx | exact ⟨hd, hkeep, hnx⟩
  rintro mm e s1 ⟨b, rfl, hle_b, hl, h0, h3, h4, h_b, hst, ⟨hd, hkeep, hnx⟩⟩
  refine vsk fun K9 hK9 => ?_
  refine vsk fun K10 hK10 => ?_
  have hs := h.keep hkeep hnx
  refine a3q 0 [] ?_
  simp only [bs, f0q, ↓vopx, ↓vop, Nat.reduceBEq, a1q, Nat.reduceLT, a8q, b0q, opII, hl, h0, h_b, wocs, ↓goc, ↓woc, ↓a2q, Tryz.ag3, Tryz.fd93_0, Tryz.sz3, hs.hp]
  refine hK10 _ _ ?_
  refine vck fun A B hA hB => ?_
  simp only [b2q, a0q, lpv, Nat.reduceLT, decide_eq_true_eq, decide_eq_false_iff_not, hl]
  refine ⟨fun hc24 => hA ?_, fun hc24 => hB ?_⟩
  ·clear hA hB A B
   refine a9q ?_
   refine hK9 _ _ ?_
   refine vsk fun K11 hK11 => ?_
   refine a5q ?_
   have hs := h.keep hkeep hnx
   have xp := hs.hp
   have xv : outV n o = .loc o 0 n := by simp [outV, show ¬ n = 0 from by omega]
   have xo := hs.ho (by omega)
   have xr := hs.hr a (by omega)
   have xb := l7q (n := n) (M := M) (a := a) (b := b) (by omega)
   have xg : (List.range n)[a]? = some a := List.getElem?_range (by omega)
   have yp := hd.hp
   have yv : outV n o1 = .loc o1 0 n := by simp [outV, show ¬ n = 0 from by omega]
   have yo := hd.ho (by omega)
   have yr := hd.hr a (by omega)
   have yb := l7q (n := n) (M := cpB M a b) (a := a) (b := b) (by omega)
   have yg : (List.range n)[a]? = some a := List.getElem?_range (by omega)
   refine c5q Tryz.mixed 18 [0, 0, 0, 1, 0, 1, 1, 0, 0, 0, 0, 1, 0, 1, 1, 0, 1, 1] [] [] 0 (by decide +kernel) (by simp [lpv, hl]) rfl ?_
   simp only [bs, f0q, ↓vopx, ↓vop, Nat.reduceBEq, a1q, b5q, Nat.reduceLT, V.cells, a8q, b0q, Sg.frzL, Sg.frz1, hl, h0, h3, h4, h_b, wocs, ↓goc, ↓woc, ↓a2q, ↓e3q, chn, ↓goq, ↓woq, List.zip_cons_cons, List.zip_nil_right, Tryz.ag91, Tryz.ag4, Tryz.ag90, Tryz.fd93_1, Tryz.sz91, Tryz.sz4, Tryz.sz90, Tryz.un91, Tryz.un90, xp, xv, xo, xr, xb, xg, g8q, yp, yv, yo, yr]
   repeat ((with_reducible refine And.intro ?_ ?_); · first | (with_reducible assumption) | omega)
   refine hK11 _ _ ?_
   refine a3q 0 [] ?_
   simp only [bs, ↓vopx, ↓vop, Nat.reduceBEq, a1q, flat, Nat.reduceLT, opII, hl, h0, h3, h4, h_b, wocs, ↓goc, ↓woc, ↓a2q]
   repeat ((with_reducible refine And.intro ?_ ?_); · exact ⟨by omega, by omega⟩)
   refine ⟨n - (b + 1), by omega, b + 1, rfl, by omega, ?_⟩
   try simp only [a0q, a4q, Nat.reduceBEq, lpv, hl, h0, h3, h4, h_b, if_true, if_false, Nat.reduceEqDiff, Nat.reduceLT, true_and, and_true]
   repeat ((with_reducible refine And.intro ?_ ?_); · trivial)
   exact ⟨(hd.put (by omega) (by omega) _).congr fun x y hx hy => cpB_put M a b x y, hkeep.set (hF.hr a (by omega)) _, hnx⟩
  ·clear hA hB A B
   have hbn : n = b := by omega
   subst hbn
   refine c1q ?_
   simp only [a1q, b5q, if_true, if_false, Nat.reduceEqDiff, reduceCtorEq]
   refine hK7 _ _ ?_
   refine a3q 0 [] ?_
   simp only [bs, ↓vopx, ↓vop, Nat.reduceBEq, a1q, flat, Nat.reduceLT, opII, hl, h0, h3, h4, wocs, ↓goc, ↓woc, ↓a2q]
   repeat ((with_reducible refine And.intro ?_ ?_); · exact ⟨by omega, by omega⟩)
   refine ⟨n - (a + 1), by omega, a + 1, rfl, by omega, ?_⟩
   try simp only [a0q, a4q, Nat.reduceBEq, lpv, hl, h0, h3, h_a, if_true, if_false, Nat.reduceEqDiff, Nat.reduceLT, true_and, and_true]
   repeat ((with_reducible refine And.intro ?_ ?_); · trivial)
   exact ⟨hd.congr fun x y hx hy => by unfold cpB; congr 1; apply decide_eq_decide.2; omega, hkeep, hnx⟩
 ·clear hA hB A B
  have han : n = a := by omega
  subst han
  refine c1q ?_
  simp only [a1q, b5q, if_true]
  refine hK3 _ _ ?_
  refine vsk fun K12 hK12 => ?_
  refine a3q 0 [] ?_
  simp only [bs, ↓vopx, ↓vop, Nat.reduceBEq, a1q, Nat.reduceLT, hl, h3, wocs, ↓goc, ↓woc, ↓a2q]
  refine hK12 _ _ ?_
  refine b1q ?_
  refine hQ _ _ _ (.inr rfl) (d6q (v := .ptr c 0) ?_ rfl ⟨c, o1, r1, rfl, hd.congr fun x y hx hy => by simp [cpB, hx], hF, hkeep, hnx⟩)
  try simp only [a0q, lpv, hl, Nat.reduceLT]
end Go.Proofs

open Go Go.V
namespace Go.Proofs
def fwB (M : Mx) (k a b : Nat) : Mx := fun x y => if x < a ∨ (x = a ∧ y < b) then fwk M k x y else M x y
theorem d5x (M : Mx) (k : Nat) (x y : Nat) : M x y = fwB M k 0 0 x y := by simp [fwB]
theorem f2z (M : Mx) (k a : Nat) : fwB M k a 0 a k = M a k := by simp [fwB]
theorem z2q (M : Mx) (k a b : Nat) : fwB M k a b k b = M k b := by
 unfold fwB
 split
 ·unfold fwk; cases M k b <;> simp
 ·rfl
theorem n0x {M : Mx} {k a b : Nat} (h1 : M a k = true) (h2 : M k b = true) (x y : Nat) : updM (fwB M k a b) a b true x y = fwB M k a (b + 1) x y := by
 unfold updM
 by_cases h : x = a ∧ y = b
 ·obtain ⟨rfl, rfl⟩ := h; simp [fwB, fwk, h1, h2]
 ·rw [if_neg h]
  unfold fwB
  have : (x < a ∨ (x = a ∧ y < b)) ↔ (x < a ∨ (x = a ∧ y < b + 1)) := by omega
  simp only [this]
theorem m9x {M : Mx} {k a b : Nat} (h2 : M k b = false) (x y : Nat) : fwB M k a b x y = fwB M k a (b + 1) x y := by
 unfold fwB
 by_cases h : x = a ∧ y = b
 ·obtain ⟨rfl, rfl⟩ := h; simp [fwk, h2]
 ·have : (x < a ∨ (x = a ∧ y < b)) ↔ (x < a ∨ (x = a ∧ y < b + 1)) := by omega
  simp only [this]
theorem n1x {M : Mx} {k a n : Nat} (x y : Nat) (hy : y < n) : fwB M k a n x y = fwB M k (a + 1) 0 x y := by
 unfold fwB
 have : (x < a ∨ (x = a ∧ y < n)) ↔ (x < a + 1 ∨ (x = a + 1 ∧ y < 0)) := by omega
 simp only [this]
theorem f3z {M : Mx} {k a : Nat} (h1 : M a k = false) (x y : Nat) : fwB M k a 0 x y = fwB M k (a + 1) 0 x y := by
 unfold fwB
 by_cases h : x = a
 ·subst h; simp [fwk, h1]
 ·have : (x < a ∨ (x = a ∧ y < 0)) ↔ (x < a + 1 ∨ (x = a + 1 ∧ y < 0)) := by omega
  simp only [this]
theorem d4x {M : Mx} {k n : Nat} (x y : Nat) (hx : x < n) : fwB (cloK M k) k n 0 x y = cloK M (k + 1) x y := by
 rw [o7q]; simp [fwB, hx]
set_option maxRecDepth 20000 in
theorem j8z (s : Sg) (p n : Nat) (M : Mx) (o : Nat) (r : Nat → Nat) (h : RefR s p n M o r) : f8q Tryz.prog 69 [.ptr p 0] s (NewR s n (cloK M n)) := by
 refine b6q Tryz.func69 rfl fun Q hQ => ?_
 obtain ⟨e, he, hl, h0⟩ : ∃ e : Env, ([.ptr p 0] ++ List.replicate (Tryz.f69.ntmps - ([.ptr p 0] : List V).length) .junk) = e ∧ e.length = 64 ∧ ev e (.tmp 0) = .ptr p 0 := ⟨_, rfl, rfl, rfl⟩
 rw [he]
 clear he
 have hnl := h.le
 refine vsk fun K1 hK1 => ?_
 refine a3q 0 [] ?_
 simp only [bs, ↓vopx, ↓vop, a1q, flat, wocs, ↓goc, ↓woc, ↓a2q]
 refine hK1 _ _ ?_
 refine vsk fun K2 hK2 => ?_
 refine a3q 0 [.stop] ?_
 simp only [bs, ↓vopx, ↓vop, Nat.reduceBEq, a1q, Nat.reduceLT, hl, h0, wocs, ↓goc, ↓woc, ↓a2q, ↓b8q, a6q]
 refine ⟨Tryz.is87, (a2j s p n M o r h).mono fun v s2 hv => ?_⟩
 obtain ⟨c, o1, r1, rfl, hR, hF, hk, hnx⟩ := hv
 try simp only [bs, Nat.reduceBEq, Nat.reduceLT, hl, h0, Hold]
 refine hK2 _ _ ?_
 refine vsk fun K3 hK3 => ?_
 refine vsk fun K4 hK4 => ?_
 refine a3q 0 [] ?_
 simp only [bs, ↓vopx, ↓vop, a1q, flat, wocs, ↓goc, ↓woc, ↓a2q]
 refine hK4 _ _ ?_
 refine a5q ?_
 refine c2q (fun mm e' s' => ∃ k : Nat, mm = n - k ∧ k ≤ n ∧ e'.length = 64 ∧ ev e' (.tmp 3) = .ptr c 0 ∧ ev e' (.tmp 4) = I k ∧ True ∧ RefR s' c n (cloK M k) o1 r1 ∧ Keep s s' ∧ s.next ≤ s'.next) (⟨0, rfl, Nat.zero_le _, ?_⟩) ?_
 ·try simp only [a0q, a4q, Nat.reduceBEq, lpv, hl, Nat.reduceLT, true_and]
  repeat ((with_reducible refine And.intro ?_ ?_); · trivial)
  first | exact hnx | exact ⟨hR, hk, hnx⟩
 rintro mm e s1 ⟨k, rfl, hle_k, hl, h3, h_k, hst, ⟨hd, hkeep, hnx⟩⟩
 refine vsk fun K5 hK5 => ?_
 refine vsk fun K6 hK6 => ?_
 refine a3q 0 [] ?_
 simp only [bs, f0q, ↓vopx, ↓vop, Nat.reduceBEq, a1q, Nat.reduceLT, a8q, b0q, opII, hl, h3, h_k, wocs, ↓goc, ↓woc, ↓a2q, Tryz.ag3, Tryz.fd93_0, Tryz.sz3, hd.hp]
 refine hK6 _ _ ?_
 refine vck fun A B hA hB => ?_
 simp only [b2q, a0q, lpv, Nat.reduceLT, decide_eq_true_eq, decide_eq_false_iff_not, hl]
 refine ⟨fun hc14 => hA ?_, fun hc14 => hB ?_⟩
 ·clear hA hB A B
  refine a9q ?_
  refine hK5 _ _ ?_
  refine vsk fun K7 hK7 => ?_
  refine a5q ?_
  refine vsk fun K8 hK8 => ?_
  refine a3q 0 [] ?_
  simp only [bs, ↓vopx, ↓vop, a1q, flat, wocs, ↓goc, ↓woc, ↓a2q]
  refine hK8 _ _ ?_
  refine a5q ?_
  refine c2q (fun mm e' s' => ∃ a : Nat, mm = n - a ∧ a ≤ n ∧ e'.length = 64 ∧ ev e' (.tmp 3) = .ptr c 0 ∧ ev e' (.tmp 4) = I k ∧ ev e' (.tmp 5) = I a ∧ True ∧ RefR s' c n (fwB (cloK M k) k a 0) o1 r1 ∧ Keep s s' ∧ s.next ≤ s'.next) (⟨0, rfl, Nat.zero_le _, ?_⟩) ?_
  ·try simp only [a0q, a4q, Nat.reduceBEq, lpv, hl, h3, h_k, Nat.reduceLT, true_and]
   repeat ((with_reducible refine And.intro ?_ ?_); · trivial)
   exact ⟨hd.congr fun x y hx hy => d5x _ _ x y, hkeep, hnx⟩
  rintro mm e s1 ⟨a, rfl, hle_a, hl, h3, h4, h_a, hst, ⟨hd, hkeep, hnx⟩⟩
  refine vsk fun K9 hK9 => ?_
  refine vsk fun K10 hK10 => ?_
  refine a3q 0 [] ?_
  simp only [bs, f0q, ↓vopx, ↓vop, Nat.reduceBEq, a1q, Nat.reduceLT, a8q, b0q, opII, hl, h3, h_a, wocs, ↓goc, ↓woc, ↓a2q, Tryz.ag3, Tryz.fd93_0, Tryz.sz3, hd.hp]
  refine hK10 _ _ ?_
  refine vck fun A B hA hB => ?_
  simp only [b2q, a0q, lpv, Nat.reduceLT, decide_eq_true_eq, decide_eq_false_iff_not, hl]
  refine ⟨fun hc22 => hA ?_, fun hc22 => hB ?_⟩
  ·clear hA hB A B
   refine a9q ?_
   refine hK9 _ _ ?_
   refine vsk fun K11 hK11 => ?_
   refine a5q ?_
   refine vsk fun K12 hK12 => ?_
   refine vsk fun K13 hK13 => ?_
   have xp := hd.hp
   have xv : outV n o1 = .loc o1 0 n := by simp [outV, show ¬ n = 0 from by omega]
   have xo := hd.ho (by omega)
   have xr := hd.hr a (by omega)
   have xb := l7q (n := n) (M := fwB (cloK M k) k a 0) (a := a) (b := k) (by omega)
   have xg : (List.range n)[a]? = some a := List.getElem?_range (by omega)
   refine a3q 0 [] ?_
   simp only [bs, f0q, ↓vopx, ↓vop, Nat.reduceBEq, a1q, Nat.reduceLT, a8q, b0q, hl, h3, h4, h_a, wocs, ↓goc, ↓woc, ↓a2q, Tryz.ag91, Tryz.ag4, Tryz.ag90, Tryz.fd93_1, Tryz.sz91, Tryz.sz4, Tryz.sz90, Tryz.un91, Tryz.un90, xp, xv, xo, xr, xb, xg]
   repeat ((with_reducible refine And.intro ?_ ?_); · (with_reducible assumption))
   refine hK13 _ _ ?_
   refine vck fun A B hA hB => ?_
   simp only [b2q, a0q, lpv, Nat.reduceLT, Bool.not_eq_true', Bool.not_eq_false', hl]
   refine ⟨fun hc35 => hA ?_, fun hc35 => hB ?_⟩
   ·clear hA hB A B
    refine c1q ?_
    simp only [a1q, b5q, if_true, if_false, Nat.reduceEqDiff, reduceCtorEq]
    refine hK11 _ _ ?_
    refine a3q 0 [] ?_
    simp only [bs, ↓vopx, ↓vop, Nat.reduceBEq, a1q, flat, Nat.reduceLT, opII, hl, h3, h4, h_a, wocs, ↓goc, ↓woc, ↓a2q]
    repeat ((with_reducible refine And.intro ?_ ?_); · exact ⟨by omega, by omega⟩)
    refine ⟨n - (a + 1), by omega, a + 1, rfl, by omega, ?_⟩
    try simp only [a0q, a4q, Nat.reduceBEq, lpv, hl, h3, h4, h_a, if_true, if_false, Nat.reduceEqDiff, Nat.reduceLT, true_and, and_true]
    repeat ((with_reducible refine And.intro ?_ ?_); · trivial)
    first | exact ⟨hd.congr fun x y hx hy => n1x x y hy, hkeep, hnx⟩ | exact ⟨hd.congr fun x y hx hy => f3z (by simpa [f2z] using hc35) x y, hkeep, hnx⟩
   ·clear hA hB A B
    have hak : cloK M k a k = true := by simpa [f2z] using hc35
    refine a9q ?_
    refine hK12 _ _ ?_
    refine vsk fun K14 hK14 => ?_
    refine a3q 0 [] ?_
    simp only [bs, ↓vopx, ↓vop, a1q, flat, wocs, ↓goc, ↓woc, ↓a2q]
    refine hK14 _ _ ?_
    refine a5q ?_
    refine c2q (fun mm e' s' => ∃ b : Nat, mm = n - b ∧ b ≤ n ∧ e'.length = 64 ∧ ev e' (.tmp 3) = .ptr c 0 ∧ ev e' (.tmp 4) = I k ∧ ev e' (.tmp 5) = I a ∧ ev e' (.tmp 6) = I b ∧ True ∧ RefR s' c n (fwB (cloK M k) k a b) o1 r1 ∧ Keep s s' ∧ s.next ≤ s'.next) (⟨0, rfl, Nat.zero_le _, ?_⟩) ?_
    ·try simp only [a0q, a4q, Nat.reduceBEq, lpv, hl, h3, h4, h_a, Nat.reduceLT, true_and]
     repeat ((with_reducible refine And.intro ?_ ?_); · trivial)
     first | exact hnx | exact ⟨hd, hkeep, hnx⟩
    rintro mm e s1 ⟨b, rfl, hle_b, hl, h3, h4, h5, h_b, hst, ⟨hd, hkeep, hnx⟩⟩
    refine vsk fun K15 hK15 => ?_
    refine vsk fun K16 hK16 => ?_
    refine a3q 0 [] ?_
    simp only [bs, f0q, ↓vopx, ↓vop, Nat.reduceBEq, a1q, Nat.reduceLT, a8q, b0q, opII, hl, h3, h_b, wocs, ↓goc, ↓woc, ↓a2q, Tryz.ag3, Tryz.fd93_0, Tryz.sz3, hd.hp]
    refine hK16 _ _ ?_
    refine vck fun A B hA hB => ?_
    simp only [b2q, a0q, lpv, Nat.reduceLT, decide_eq_true_eq, decide_eq_false_iff_not, hl]
    refine ⟨fun hc41 => hA ?_, fun hc41 => hB ?_⟩
    ·clear hA hB A B
     refine a9q ?_
     refine hK15 _ _ ?_
     refine vsk fun K17 hK17 => ?_
     refine a5q ?_
     refine vsk fun K18 hK18 => ?_
     have xp := hd.hp
     have xv : outV n o1 = .loc o1 0 n := by simp [outV, show ¬ n = 0 from by omega]
     have xo := hd.ho (by omega)
     have xr := hd.hr k (by omega)
     have xb := l7q (n := n) (M := fwB (cloK M k) k a b) (a := k) (b := b) (by omega)
     have xg : (List.range n)[k]? = some k := List.getElem?_range (by omega)
     refine a3q 0 [] ?_
     simp only [bs, f0q, ↓vopx, ↓vop, Nat.reduceBEq, a1q, Nat.reduceLT, a8q, b0q, hl, h3, h4, h_b, wocs, ↓goc, ↓woc, ↓a2q, Tryz.ag91, Tryz.ag4, Tryz.ag90, Tryz.fd93_1, Tryz.sz91, Tryz.sz4, Tryz.sz90, Tryz.un91, Tryz.un90, xp, xv, xo, xr, xb, xg]
     repeat ((with_reducible refine And.intro ?_ ?_); · (with_reducible assumption))
     refine hK18 _ _ ?_
     refine vck fun A B hA hB => ?_
     simp only [b2q, a0q, lpv, Nat.reduceLT, hl]
     refine ⟨fun hc53 => hA ?_, fun hc53 => hB ?_⟩
     ·clear hA hB A B
      have xp := hd.hp
      have xv : outV n o1 = .loc o1 0 n := by simp [outV, show ¬ n = 0 from by omega]
      have xo := hd.ho (by omega)
      have xr := hd.hr a (by omega)
      have xb := l7q (n := n) (M := fwB (cloK M k) k a b) (a := a) (b := b) (by omega)
      have xg : (List.range n)[a]? = some a := List.getElem?_range (by omega)
      refine a3q 0 [] ?_
      simp only [bs, f0q, ↓vopx, ↓vop, Nat.reduceBEq, a1q, b5q, flat, Nat.reduceLT, V.cells, a8q, b0q, Sg.frzL, Sg.frz1, hl, h3, h5, h_b, wocs, ↓goc, ↓woc, ↓a2q, Tryz.ag91, Tryz.ag90, Tryz.fd93_1, Tryz.sz91, Tryz.sz4, Tryz.sz90, Tryz.un91, Tryz.un90, xp, xv, xo, xr, xg, g8q]
      repeat ((with_reducible refine And.intro ?_ ?_); · first | (with_reducible assumption) | omega)
      refine hK17 _ _ ?_
      refine a3q 0 [] ?_
      simp only [bs, ↓vopx, ↓vop, Nat.reduceBEq, a1q, flat, Nat.reduceLT, opII, hl, h3, h4, h5, h_b, wocs, ↓goc, ↓woc, ↓a2q]
      repeat ((with_reducible refine And.intro ?_ ?_); · exact ⟨by omega, by omega⟩)
      refine ⟨n - (b + 1), by omega, b + 1, rfl, by omega, ?_⟩
      try simp only [a0q, a4q, Nat.reduceBEq, lpv, hl, h3, h4, h5, h_b, if_true, if_false, Nat.reduceEqDiff, Nat.reduceLT, true_and, and_true]
      repeat ((with_reducible refine And.intro ?_ ?_); · trivial)
      first | exact ⟨(hd.put (by omega) (by omega) _).congr fun x y hx hy => n0x hak (by simpa [z2q] using hc53) x y, hkeep.set (hF.hr a (by omega)) _, hnx⟩ | exact ⟨hd.congr fun x y hx hy => m9x (by simpa [z2q] using hc53) x y, hkeep, hnx⟩
     ·clear hA hB A B
      refine a9q ?_
      refine hK17 _ _ ?_
      refine a3q 0 [] ?_
      simp only [bs, ↓vopx, ↓vop, Nat.reduceBEq, a1q, flat, Nat.reduceLT, opII, hl, h3, h4, h5, h_b, wocs, ↓goc, ↓woc, ↓a2q]
      repeat ((with_reducible refine And.intro ?_ ?_); · exact ⟨by omega, by omega⟩)
      refine ⟨n - (b + 1), by omega, b + 1, rfl, by omega, ?_⟩
      try simp only [a0q, a4q, Nat.reduceBEq, lpv, hl, h3, h4, h5, h_b, if_true, if_false, Nat.reduceEqDiff, Nat.reduceLT, true_and, and_true]
      repeat ((with_reducible refine And.intro ?_ ?_); · trivial)
      first | exact ⟨(hd.put (by omega) (by omega) _).congr fun x y hx hy => n0x hak (by simpa [z2q] using hc53) x y, hkeep.set (hF.hr a (by omega)) _, hnx⟩ | exact ⟨hd.congr fun x y hx hy => m9x (by simpa [z2q] using hc53) x y, hkeep, hnx⟩
    ·clear hA hB A B
     have hbn : n = b := by omega
     subst hbn
     refine c1q ?_
     simp only [a1q, b5q, if_true, if_false, Nat.reduceEqDiff, reduceCtorEq]
     refine hK11 _ _ ?_
     refine a3q 0 [] ?_
     simp only [bs, ↓vopx, ↓vop, Nat.reduceBEq, a1q, flat, Nat.reduceLT, opII, hl, h3, h4, h5, wocs, ↓goc, ↓woc, ↓a2q]
     repeat ((with_reducible refine And.intro ?_ ?_); · exact ⟨by omega, by omega⟩)
     refine ⟨n - (a + 1), by omega, a + 1, rfl, by omega, ?_⟩
     try simp only [a0q, a4q, Nat.reduceBEq, lpv, hl, h3, h4, h_a, if_true, if_false, Nat.reduceEqDiff, Nat.reduceLT, true_and, and_true]
     repeat ((with_reducible refine And.intro ?_ ?_); · trivial)
     first | exact ⟨hd.congr fun x y hx hy => n1x x y hy, hkeep, hnx⟩ | exact ⟨hd.congr fun x y hx hy => f3z (by simpa [f2z] using hc35) x y, hkeep, hnx⟩
  ·clear hA hB A B
   have han : n = a := by omega
   subst han
   refine c1q ?_
   simp only [a1q, b5q, if_true, if_false, Nat.reduceEqDiff, reduceCtorEq]
   refine hK7 _ _ ?_
   refine a3q 0 [] ?_
   simp only [bs, ↓vopx, ↓vop, Nat.reduceBEq, a1q, flat, Nat.reduceLT, opII, hl, h3, h4, wocs, ↓goc, ↓woc, ↓a2q]
   repeat ((with_reducible refine And.intro ?_ ?_); · exact ⟨by omega, by omega⟩)
   refine ⟨n - (k + 1), by omega, k + 1, rfl, by omega, ?_⟩
   try simp only [a0q, a4q, Nat.reduceBEq, lpv, hl, h3, h_k, if_true, if_false, Nat.reduceEqDiff, Nat.reduceLT, true_and, and_true]
   repeat ((with_reducible refine And.intro ?_ ?_); · trivial)
   exact ⟨hd.congr fun x y hx hy => d4x x y hx, hkeep, hnx⟩
 ·clear hA hB A B
  have han : n = k := by omega
  subst han
  refine c1q ?_
  simp only [a1q, b5q, if_true]
  refine hK3 _ _ ?_
  refine vsk fun K19 hK19 => ?_
  refine a3q 0 [] ?_
  simp only [bs, ↓vopx, ↓vop, Nat.reduceBEq, a1q, Nat.reduceLT, hl, h3, wocs, ↓goc, ↓woc, ↓a2q]
  refine hK19 _ _ ?_
  refine b1q ?_
  refine hQ _ _ _ (.inr rfl) (d6q (v := .ptr c 0) ?_ rfl ⟨c, o1, r1, rfl, hd, hF, hkeep, hnx⟩)
  try simp only [a0q, lpv, hl, Nat.reduceLT]
set_option maxRecDepth 20000 in
theorem r4x (s : Sg) (p n : Nat) (M : Mx) (o : Nat) (r : Nat → Nat) (h : RefR s p n M o r) : k0q Tryz.prog 79 [.ptr p 0] s (Bo (t0z n M)) (s) := by
 refine d0q Tryz.func79 rfl fun Q hQ => ?_
 obtain ⟨e, he, hl, h0⟩ : ∃ e : Env, ([.ptr p 0] ++ List.replicate (Tryz.f79.ntmps - ([.ptr p 0] : List V).length) .junk) = e ∧ e.length = 7 ∧ ev e (.tmp 0) = .ptr p 0 := ⟨_, rfl, rfl, rfl⟩
 rw [he]
 clear he
 refine vsk fun K1 hK1 => ?_
 refine a3q 0 [] ?_
 simp only [bs, ↓vopx, ↓vop, a1q, flat, wocs, ↓goc, ↓woc, ↓a2q]
 refine hK1 _ _ ?_
 refine vsk fun K2 hK2 => ?_
 refine a3q 0 [.stop, .stop] ?_
 simp only [bs, ↓vopx, ↓vop, Nat.reduceBEq, a1q, Nat.reduceLT, hl, h0, wocs, ↓goc, ↓woc, ↓a2q, ↓b8q, a6q, ↓m2q]
 refine ⟨Tryz.is69, (j8z s p n M o r h).mono fun v s2 hv => ?_⟩
 obtain ⟨c, o1, r1, rfl, hR, hF, hk, hnx⟩ := hv
 try simp only [bs, Nat.reduceBEq, Nat.reduceLT, hl, h0, Hold]
 refine ⟨Tryz.is93, (a4j s2 p n M o r (h.keep hk hnx) c _ o1 r1 hR).v ?_⟩
 try simp only [bs, dstT, srcT, Nat.reduceLeDiff, Nat.reduceAdd, d9q, g7q, repl, Sg.frzP, f0q, wops, ↓gow, ↓wop, vops, ↓gop, ↓vopx, ↓vop, Nat.reduceBEq, a1q, b5q, flat, Nat.reduceEqDiff, Nat.reduceLT, V.cells, a8q, b0q, opII, opSS, gtmp, Sg.frzL, Sg.frz1, reduceCtorEq, hl, h0, wocs, ↓goc, ↓woc, ↓a2q, ↓e3q, ↓j6x, ↓b8q, ↓h3q, ↓c8q, ↓e5q, ↓m5q, a6q, ↓m2q, ↓farC, List.append_nil, Hold]
 refine hK2 _ _ ?_
 refine b1q ?_
 refine hQ _ _ _ (.inr rfl) (Done.toS (a7q ?_ hk))
 try simp only [a0q, lpv, hl, Nat.reduceLT]
 rfl
end Go.Proofs

open Go Go.V
namespace Go.Proofs
def rowK (M : Mx) (a b : Nat) : List (Int × Int) := ((List.range b).filter fun y => M a y).map fun (y : Nat) => ((a : Int), (y : Int))
def prB (n : Nat) (M : Mx) (a b : Nat) : List (Int × Int) := (List.range a).flatMap (rowOf n M) ++ rowK M a b
theorem k1z (M : Mx) (a b : Nat) : (rowK M a b).length ≤ b := by
 have := List.length_filter_le (fun y => M a y) (List.range b)
 simpa [rowK] using this
theorem b9z (n : Nat) (M : Mx) : ∀ a b, (prB n M a b).length ≤ a * n + b
 | 0, b => by simpa [prB] using k1z M 0 b
 | a + 1, b => by
  have h1 := b9z n M a n
  have h2 := k1z M (a + 1) b
  have h3 : rowOf n M a = rowK M a n := rfl
  unfold prB at h1 ⊢
  rw [List.range_succ, List.flatMap_append, List.flatMap_singleton, List.length_append, h3, Nat.add_mul, Nat.one_mul]
  omega
theorem c0z {n : Nat} {M : Mx} {a b : Nat} (h : M a b = true) : prB n M a (b + 1) = prB n M a b ++ [((a : Int), (b : Int))] := by
 simp [prB, rowK, List.range_succ, h]
theorem j6z {n : Nat} {M : Mx} {a b : Nat} (h : M a b = false) : prB n M a (b + 1) = prB n M a b := by
 simp [prB, rowK, List.range_succ, h]
theorem b3x (n : Nat) (M : Mx) (a : Nat) : prB n M a n = prB n M (a + 1) 0 := by
 simp only [prB, List.range_succ, List.flatMap_append, List.flatMap_singleton]
 simp [rowK, rowOf]
theorem r8z (n : Nat) (M : Mx) : prB n M n 0 = g0q n M := by simp [prB, rowK, g0q]
def z0z (s0 s : Sg) (m : Nat) (l : List (Int × Int)) : Prop := s.m m = some (.arr 2 65 (l.flatMap l2q)) ∧ s0.next ≤ m ∧ m < s.next
theorem z0z.push {s0 s1 : Sg} {m : Nat} {l : List (Int × Int)} (_h : z0z s0 s1 m l) (hn : s0.next ≤ s1.next) (X : Blk) (p : Int × Int) :
 z0z s0 (((s1.add X).del m).add (.arr 2 65 (l.flatMap l2q ++ [TI p.1, TI p.2]))) (s1.next + 1) (l ++ [p]) := by
 refine ⟨?_, by omega, by simp [Sg.add, Sg.del]⟩
 simp [Sg.add, Sg.del, List.flatMap_append]
theorem z0z.keep {s0 s1 : Sg} {m : Nat} {l : List (Int × Int)} (h : z0z s0 s1 m l) (hk : Keep s0 s1) (hn : s0.next ≤ s1.next) (X Y : Blk) : Keep s0 (((s1.add X).del m).add Y) :=
 ((hk.add hn X).del h.2.1).add (by simp only [c6q, e9q]; omega) Y
set_option maxRecDepth 20000 in
theorem r3x (s : Sg) (p n : Nat) (M : Mx) (o : Nat) (r : Nat → Nat) (h : RefR s p n M o r) : k0q Tryz.prog 70 [.ptr p 0] s (.t (b3q (g0q n M))) (s) := by
 refine d0q Tryz.func70 rfl fun Q hQ => ?_
 obtain ⟨e, he, hl, h0⟩ : ∃ e : Env, ([.ptr p 0] ++ List.replicate (Tryz.f70.ntmps - ([.ptr p 0] : List V).length) .junk) = e ∧ e.length = 39 ∧ ev e (.tmp 0) = .ptr p 0 := ⟨_, rfl, rfl, rfl⟩
 rw [he]
 clear he
 have hnl := h.le
 refine vsk fun K1 hK1 => ?_
 refine a3q 0 [] ?_
 simp only [bs, ↓vopx, ↓vop, a1q, flat, wocs, ↓goc, ↓woc, ↓a2q]
 refine hK1 _ _ ?_
 refine vsk fun K2 hK2 => ?_
 refine a3q 0 [] ?_
 simp only [bs, ↓vopx, ↓vop, a1q, flat, wocs, ↓goc, ↓woc, ↓a2q]
 refine hK2 _ _ ?_
 refine vsk fun K3 hK3 => ?_
 refine vsk fun K4 hK4 => ?_
 refine VW.name 3 2 65 (by omega) (by simp only [a0q, lpv, hl, Nat.reduceLT]) ?_
 refine a3q 0 [] ?_
 simp only [bs, ↓vopx, ↓vop, a1q, flat, wocs, ↓goc, ↓woc, ↓a2q]
 refine hK4 _ _ ?_
 refine a5q ?_
 refine c2q (fun mm e' s' => ∃ a : Nat, mm = n - a ∧ a ≤ n ∧ e'.length = 39 ∧ ev e' (.tmp 0) = .ptr p 0 ∧ ev e' (.tmp 4) = I a ∧ True ∧ ∃ m, ev e' (.tmp 3) = .loc m 0 (prB n M a 0).length ∧ z0z s s' m (prB n M a 0) ∧ Keep s s' ∧ s.next ≤ s'.next) (⟨0, rfl, Nat.zero_le _, ?_⟩) ?_
 ·try simp only [a0q, a4q, Nat.reduceBEq, lpv, hl, h0, Nat.reduceLT, true_and]
  repeat ((with_reducible refine And.intro ?_ ?_); · trivial)
  exact ⟨s.next, rfl, ⟨by simp [Sg.add, prB, rowK], Nat.le_refl _, by simp [Sg.add]⟩, (Keep.refl s).add (Nat.le_refl _) _, by simp [Sg.add]⟩
 rintro mm e s1 ⟨a, rfl, hle_a, hl, h0, h_a, hst, ⟨m, hm3, hgr, hkeep, hnx⟩⟩
 refine vsk fun K5 hK5 => ?_
 refine vsk fun K6 hK6 => ?_
 have hs := h.keep hkeep hnx
 refine a3q 0 [] ?_
 simp only [bs, f0q, ↓vopx, ↓vop, Nat.reduceBEq, a1q, Nat.reduceLT, a8q, b0q, opII, hl, h0, h_a, wocs, ↓goc, ↓woc, ↓a2q, Tryz.ag3, Tryz.fd93_0, Tryz.sz3, hs.hp]
 refine hK6 _ _ ?_
 refine vck fun A B hA hB => ?_
 simp only [b2q, a0q, lpv, Nat.reduceLT, decide_eq_true_eq, decide_eq_false_iff_not, hl]
 refine ⟨fun hc11 => hA ?_, fun hc11 => hB ?_⟩
 ·clear hA hB A B
  refine a9q ?_
  refine hK5 _ _ ?_
  refine vsk fun K7 hK7 => ?_
  refine a5q ?_
  refine vsk fun K8 hK8 => ?_
  refine a3q 0 [] ?_
  simp only [bs, ↓vopx, ↓vop, a1q, flat, wocs, ↓goc, ↓woc, ↓a2q]
  refine hK8 _ _ ?_
  refine a5q ?_
  refine c2q (fun mm e' s' => ∃ b : Nat, mm = n - b ∧ b ≤ n ∧ e'.length = 39 ∧ ev e' (.tmp 0) = .ptr p 0 ∧ ev e' (.tmp 4) = I a ∧ ev e' (.tmp 5) = I b ∧ True ∧ ∃ m, ev e' (.tmp 3) = .loc m 0 (prB n M a b).length ∧ z0z s s' m (prB n M a b) ∧ Keep s s' ∧ s.next ≤ s'.next) (⟨0, rfl, Nat.zero_le _, ?_⟩) ?_
  ·try simp only [a0q, a4q, Nat.reduceBEq, lpv, hl, h0, h_a, hm3, Nat.reduceLT, true_and]
   repeat ((with_reducible refine And.intro ?_ ?_); · trivial)
   exact ⟨m, rfl, hgr, hkeep, hnx⟩
  rintro mm e s1 ⟨b, rfl, hle_b, hl, h0, h4, h_b, hst, ⟨m, hm3, hgr, hkeep, hnx⟩⟩
  refine vsk fun K9 hK9 => ?_
  refine vsk fun K10 hK10 => ?_
  have hs := h.keep hkeep hnx
  refine a3q 0 [] ?_
  simp only [bs, f0q, ↓vopx, ↓vop, Nat.reduceBEq, a1q, Nat.reduceLT, a8q, b0q, opII, hl, h0, h_b, wocs, ↓goc, ↓woc, ↓a2q, Tryz.ag3, Tryz.fd93_0, Tryz.sz3, hs.hp]
  refine hK10 _ _ ?_
  refine vck fun A B hA hB => ?_
  simp only [b2q, a0q, lpv, Nat.reduceLT, decide_eq_true_eq, decide_eq_false_iff_not, hl]
  refine ⟨fun hc19 => hA ?_, fun hc19 => hB ?_⟩
  ·clear hA hB A B
   refine a9q ?_
   refine hK9 _ _ ?_
   refine vsk fun K11 hK11 => ?_
   refine a5q ?_
   refine vsk fun K12 hK12 => ?_
   have hs := h.keep hkeep hnx
   have xp := hs.hp
   have xv : outV n o = .loc o 0 n := by simp [outV, show ¬ n = 0 from by omega]
   have xo := hs.ho (by omega)
   have xr := hs.hr a (by omega)
   have xb := l7q (n := n) (M := M) (a := a) (b := b) (by omega)
   have xg : (List.range n)[a]? = some a := List.getElem?_range (by omega)
   refine a3q 0 [] ?_
   simp only [bs, f0q, ↓vopx, ↓vop, Nat.reduceBEq, a1q, Nat.reduceLT, a8q, b0q, hl, h0, h4, h_b, wocs, ↓goc, ↓woc, ↓a2q, Tryz.ag91, Tryz.ag4, Tryz.ag90, Tryz.fd93_1, Tryz.sz91, Tryz.sz4, Tryz.sz90, Tryz.un91, Tryz.un90, xp, xv, xo, xr, xb, xg]
   repeat ((with_reducible refine And.intro ?_ ?_); · (with_reducible assumption))
   refine hK12 _ _ ?_
   refine vck fun A B hA hB => ?_
   simp only [b2q, a0q, lpv, Nat.reduceLT, hl]
   refine ⟨fun hc31 => hA ?_, fun hc31 => hB ?_⟩
   ·clear hA hB A B
    have hne : ¬ m = s1.next := by have := hgr.2.2; omega
    have hbd := b9z n M a b
    have hsq : a * n ≤ 200 * 200 := Nat.mul_le_mul (by omega) hnl
    refine a3q 0 [] ?_
    simp only [bs, dstT, srcT, Nat.reduceLeDiff, Nat.reduceAdd, d9q, g7q, repl, Sg.frzP, ↓vopx, ↓vop, Nat.reduceBEq, a1q, b5q, Nat.reduceLT, V.cells, Sg.frzL, Sg.frz1, hl, h4, h_b, hm3, wocs, ↓goc, ↓woc, ↓a2q, Tryz.sl27, Tryz.st65, hgr.1, hne, d7q]
    repeat ((with_reducible refine And.intro ?_ ?_); · omega)
    refine hK11 _ _ ?_
    refine a3q 0 [] ?_
    simp only [bs, ↓vopx, ↓vop, Nat.reduceBEq, a1q, flat, Nat.reduceLT, opII, hl, h0, h4, h_b, wocs, ↓goc, ↓woc, ↓a2q]
    repeat ((with_reducible refine And.intro ?_ ?_); · exact ⟨by omega, by omega⟩)
    refine ⟨n - (b + 1), by omega, b + 1, rfl, by omega, ?_⟩
    try simp only [a0q, a4q, Nat.reduceBEq, lpv, hl, h0, h4, h_b, hm3, if_true, if_false, Nat.reduceEqDiff, Nat.reduceLT, true_and, and_true]
    repeat ((with_reducible refine And.intro ?_ ?_); · trivial)
    first
    | exact ⟨m, by rw [j6z hc31], by rw [j6z hc31]; exact hgr, hkeep, hnx⟩
    | exact ⟨s1.next + 1, by rw [c0z hc31, List.length_append, List.length_singleton, show ((prB n M a b).length * 2 + 2) / 2 = (prB n M a b).length + 1 from by omega], by rw [c0z hc31]; exact hgr.push hnx _ ((a : Int), (b : Int)), hgr.keep hkeep hnx _ _, by omega⟩
   ·clear hA hB A B
    refine a9q ?_
    refine hK11 _ _ ?_
    refine a3q 0 [] ?_
    simp only [bs, ↓vopx, ↓vop, Nat.reduceBEq, a1q, flat, Nat.reduceLT, opII, hl, h0, h4, h_b, hm3, wocs, ↓goc, ↓woc, ↓a2q]
    repeat ((with_reducible refine And.intro ?_ ?_); · exact ⟨by omega, by omega⟩)
    refine ⟨n - (b + 1), by omega, b + 1, rfl, by omega, ?_⟩
    try simp only [a0q, a4q, Nat.reduceBEq, lpv, hl, h0, h4, h_b, hm3, if_true, if_false, Nat.reduceEqDiff, Nat.reduceLT, true_and, and_true]
    repeat ((with_reducible refine And.intro ?_ ?_); · trivial)
    first
    | exact ⟨m, by rw [j6z hc31], by rw [j6z hc31]; exact hgr, hkeep, hnx⟩
    | exact ⟨s1.next + 1, by rw [c0z hc31, List.length_append, List.length_singleton, show ((prB n M a b).length * 2 + 2) / 2 = (prB n M a b).length + 1 from by omega], by rw [c0z hc31]; exact hgr.push hnx _ ((a : Int), (b : Int)), hgr.keep hkeep hnx _ _, by omega⟩
  ·clear hA hB A B
   have han : n = b := by omega
   subst han
   refine c1q ?_
   simp only [a1q, b5q, if_true, if_false, Nat.reduceEqDiff, reduceCtorEq]
   refine hK7 _ _ ?_
   refine a3q 0 [] ?_
   simp only [bs, ↓vopx, ↓vop, Nat.reduceBEq, a1q, flat, Nat.reduceLT, opII, hl, h0, h4, hm3, wocs, ↓goc, ↓woc, ↓a2q]
   repeat ((with_reducible refine And.intro ?_ ?_); · exact ⟨by omega, by omega⟩)
   refine ⟨n - (a + 1), by omega, a + 1, rfl, by omega, ?_⟩
   try simp only [a0q, a4q, Nat.reduceBEq, lpv, hl, h0, h_a, hm3, if_true, if_false, Nat.reduceEqDiff, Nat.reduceLT, true_and, and_true]
   repeat ((with_reducible refine And.intro ?_ ?_); · trivial)
   exact ⟨m, by rw [b3x], by rw [← b3x]; exact hgr, hkeep, hnx⟩
 ·clear hA hB A B
  have han : n = a := by omega
  subst han
  refine c1q ?_
  simp only [a1q, b5q, if_true]
  refine hK3 _ _ ?_
  refine vsk fun K13 hK13 => ?_
  refine a3q 0 [] ?_
  simp only [bs, ↓vopx, ↓vop, Nat.reduceBEq, a1q, Nat.reduceLT, hl, hm3, wocs, ↓goc, ↓woc, ↓a2q]
  refine hK13 _ _ ?_
  refine b1q ?_
  rw [r8z] at hgr
  refine hQ _ _ _ (.inr rfl) (Done.toS (f0z (n := m) (len := (prB n M n 0).length) ?_ hgr.1 ?_ hgr.2.1 hkeep))
  try simp only [a0q, lpv, hl, Nat.reduceLT]
  rw [d7q, r8z]
end Go.Proofs

open Go Go.V
namespace Go.Proofs
theorem a1x {l : List (Int × Int)} {i : Nat} {p : Int × Int} (h : l[i]? = some p) : (l.flatMap l2q)[i * 2]? = some (TI p.1) := by
 induction l generalizing i with
 | nil => simp at h
 | cons a l ih =>
  cases i with
  | zero => simp at h; subst h; simp
  | succ i => simpa [Nat.add_mul] using ih (i := i) (by simpa using h)
theorem a2x {l : List (Int × Int)} {i : Nat} {p : Int × Int} (h : l[i]? = some p) : (l.flatMap l2q)[i * 2 + 1]? = some (TI p.2) := by
 induction l generalizing i with
 | nil => simp at h
 | cons a l ih =>
  cases i with
  | zero => simp at h; subst h; simp
  | succ i =>
   have := ih (i := i) (by simpa using h)
   rw [show (i + 1) * 2 + 1 = (i * 2 + 1) + 2 by omega]
   simpa using this
theorem e5z {α : Type} {f : α → Bool} {l : List α} {i : Nat} {p : α} (h : l[i]? = some p) (ha : (l.take i).all f = true) (hp : f p = true) : (l.take (i + 1)).all f = true := by
 rw [List.take_add_one, h]; simp only [List.all_append, ha, Option.toList_some, List.all_cons, List.all_nil, hp]; rfl
theorem b0z {α : Type} {f : α → Bool} {l : List α} {i : Nat} {p : α} (h : l[i]? = some p) (hp : f p = false) : l.all f = false := by
 rw [List.all_eq_false]; exact ⟨p, List.mem_of_getElem? h, by simp [hp]⟩
theorem c7z (M : Mx) (p : Int × Int) : (fun a b => M a b || (p.1.toNat == a && p.2.toNat == b)) = updM M p.1.toNat p.2.toNat true := by
 funext a b
 unfold updM
 by_cases h : a = p.1.toNat ∧ b = p.2.toNat
 ·obtain ⟨rfl, rfl⟩ := h; simp
 ·rw [if_neg h]
  have : (p.1.toNat == a && p.2.toNat == b) = false := by
   rw [Bool.eq_false_iff]; intro hh; simp at hh; exact h ⟨hh.1.symm, hh.2.symm⟩
  rw [this, Bool.or_false]
def OfR (s : Sg) (n : Nat) (l : List (Int × Int)) (v : V) (s' : Sg) : Prop :=
 (l.all (inB n) = true ∧ ∃ p o r, v = .tup [.ptr p 0, I 0] ∧ RefR s' p n (mxOf l) o r ∧ FreshR s p n o r ∧ Keep s s' ∧ s.next ≤ s'.next) ∨
 (l.all (inB n) = false ∧ v = .tup [.t (.v (.pointer none)), I 10] ∧ Keep s s' ∧ s.next ≤ s'.next)
set_option maxRecDepth 20000 in
theorem refOf_ (s : Sg) (n : Nat) (hn : n ≤ 200) (l : List (Int × Int)) (hl0 : l.length < 1000000000) : f8q Tryz.prog 77 [I n, .t (b3q l)] s (OfR s n l) := by
 refine b6q Tryz.func77 rfl fun Q hQ => ?_
 obtain ⟨e, he, hl, h0, h1⟩ : ∃ e : Env, ([I n, .t (b3q l)] ++ List.replicate (Tryz.f77.ntmps - ([I n, .t (b3q l)] : List V).length) .junk) = e ∧ e.length = 58 ∧ ev e (.tmp 0) = I n ∧ ev e (.tmp 1) = .t (b3q l) := ⟨_, rfl, rfl, rfl, rfl⟩
 rw [he]
 clear he
 have hnn := f4z hn
 have hn1 : ¬ ((n : Int) < 0) := by omega
 have hn2 : ¬ ((n : Int) > 200) := by omega
 refine vsk fun K1 hK1 => ?_
 refine a3q 0 [] ?_
 simp only [bs, ↓vopx, ↓vop, a1q, flat, wocs, ↓goc, ↓woc, ↓a2q]
 refine hK1 _ _ ?_
 refine vsk fun K2 hK2 => ?_
 refine vsk fun K3 hK3 => ?_
 refine a3q 0 [] ?_
 simp only [bs, ↓vopx, ↓vop, Nat.reduceBEq, a1q, flat, Nat.reduceLT, opII, gtmp, hl, h0, wocs, ↓goc, ↓woc, ↓a2q, ↓c8q, hn1, hn2]
 refine hK3 _ _ ?_
 refine vck fun A B hA hB => ?_
 simp only [b2q, a0q, lpv, Nat.reduceLT, true_implies, reduceCtorEq, false_implies, true_and, hl]
 refine hB ?_
 clear hA hB A B
 refine a9q ?_
 refine hK2 _ _ ?_
 refine vsk fun K4 hK4 => ?_
 refine a3q 0 [.stop] ?_
 simp only [bs, ↓vopx, ↓vop, Nat.reduceBEq, a1q, Nat.reduceLT, hl, h0, wocs, ↓goc, ↓woc, ↓a2q, ↓b8q, a6q]
 refine ⟨Tryz.is48, (s0z s n).mono fun v s2 hv => ?_⟩
 rw [hnn] at hv
 obtain ⟨c, o1, r1, rfl, hR, hF, hk, hnx⟩ := hv
 try simp only [bs, Nat.reduceBEq, Nat.reduceLT, hl, h0, Hold]
 refine hK4 _ _ ?_
 refine vsk fun K5 hK5 => ?_
 refine vsk fun K6 hK6 => ?_
 refine a3q 0 [] ?_
 simp only [bs, ↓vopx, ↓vop, a1q, flat, wocs, ↓goc, ↓woc, ↓a2q]
 refine hK6 _ _ ?_
 refine a5q ?_
 refine c2q (fun mm e' s' => ∃ i : Nat, mm = l.length - i ∧ i ≤ l.length ∧ e'.length = 58 ∧ ev e' (.tmp 1) = .t (b3q l) ∧ ev e' (.tmp 6) = .ptr c 0 ∧ ev e' (.tmp 7) = I i ∧ True ∧ RefR s' c n (mxOf (l.take i)) o1 r1 ∧ (l.take i).all (inB n) = true ∧ Keep s s' ∧ s.next ≤ s'.next) (⟨0, rfl, Nat.zero_le _, ?_⟩) ?_
 ·try simp only [a0q, a4q, Nat.reduceBEq, lpv, hl, h1, Nat.reduceLT, true_and]
  repeat ((with_reducible refine And.intro ?_ ?_); · trivial)
  first | exact hnx | exact ⟨hR.congr fun x y hx hy => by simp [mxOf], by simp, hk, hnx⟩
 rintro mm e s1 ⟨i, rfl, hle_i, hl, h1, h6, h_i, hst, ⟨hd, hall, hkeep, hnx⟩⟩
 refine vsk fun K7 hK7 => ?_
 refine vsk fun K8 hK8 => ?_
 refine a3q 0 [] ?_
 simp only [bs, ↓vopx, ↓vop, Nat.reduceBEq, a1q, Nat.reduceLT, opII, hl, h1, h_i, wocs, ↓goc, ↓woc, ↓a2q, g2q]
 refine hK8 _ _ ?_
 refine vck fun A B hA hB => ?_
 simp only [b2q, a0q, lpv, Nat.reduceLT, decide_eq_true_eq, decide_eq_false_iff_not, hl]
 refine ⟨fun hc19 => hA ?_, fun hc19 => hB ?_⟩
 ·clear hA hB A B
  refine a9q ?_
  refine hK7 _ _ ?_
  refine vsk fun K9 hK9 => ?_
  refine a5q ?_
  refine vsk fun K10 hK10 => ?_
  refine vsk fun K11 hK11 => ?_
  have hlt : i < l.length := by omega
  obtain ⟨p, hp⟩ : ∃ p, l[i]? = some p := ⟨_, List.getElem?_eq_getElem hlt⟩
  have g0 := a1x hp
  have g1 := a2x hp
  have hfl := d7q l
  rcases (show (¬ (0 ≤ p.1 ∧ p.1 < n)) ∨ ((0 ≤ p.1 ∧ p.1 < n) ∧ ¬ (0 ≤ p.2 ∧ p.2 < n)) ∨ ((0 ≤ p.1 ∧ p.1 < n) ∧ (0 ≤ p.2 ∧ p.2 < n)) by omega) with ha | ⟨ha, hb⟩ | hin
  ·have hbad : inB n p = false := by simp only [inB, ha, decide_false, Bool.false_and]
   refine a3q 0 [.det (Bo (decide (0 ≤ p.1 ∧ p.1 < n))) s1] ?_
   simp only [bs, ↓vopx, ↓vop, Nat.reduceBEq, a1q, flat, Nat.reduceLT, a8q, b0q, gtmp, hl, h1, h6, h_i, wocs, ↓goc, ↓woc, ↓a2q, ↓b8q, ↓e5q, a6q, Tryz.ag3, Tryz.fd65_0, Tryz.sz3, Tryz.sz65, Tryz.un27, g0, hfl, ha]
   repeat ((with_reducible refine And.intro ?_ ?_); · first | omega | exact ⟨Tryz.is81, by simpa [*] using u0q s1 c n _ p.1 hd.hp⟩)
   refine hK11 _ _ ?_
   refine vck fun A B hA hB => ?_
   simp only [b2q, a0q, lpv, Nat.reduceLT, true_implies, reduceCtorEq, false_implies, and_true, hl]
   refine hA ?_
   clear hA hB A B
   refine vsk fun K12 hK12 => ?_
   refine a3q 0 [] ?_
   simp only [bs, ↓vopx, ↓vop, a1q, flat, wocs, ↓goc, ↓woc, ↓a2q]
   refine hK12 _ _ ?_
   refine b1q ?_
   refine hQ _ _ _ (.inr rfl) (o3q (v := .t (.v (.pointer none))) (v' := I 10) ?_ ?_ rfl rfl (.inr ⟨b0z hp hbad, rfl, hkeep, hnx⟩))
   try simp only [a0q, a4q, Nat.reduceBEq, lpv, hl, Nat.reduceLT]
   try simp only [a0q, lpv, hl, Nat.reduceLT]
  ·have hbad : inB n p = false := by simp only [inB, hb, decide_false, Bool.and_false]
   refine a3q 0 [.det (Bo (decide (0 ≤ p.1 ∧ p.1 < n))) s1, .det (Bo (decide (0 ≤ p.2 ∧ p.2 < n))) s1] ?_
   simp only [bs, ↓vopx, ↓vop, Nat.reduceBEq, a1q, flat, Nat.reduceLT, a8q, b0q, gtmp, hl, h1, h6, h_i, wocs, ↓goc, ↓woc, ↓a2q, ↓b8q, ↓c8q, a6q, Tryz.ag3, Tryz.fd65_0, Tryz.fd65_1, Tryz.sz3, Tryz.sz65, Tryz.un27, g0, g1, hfl, ha, hb]
   repeat ((with_reducible refine And.intro ?_ ?_); · first | omega | exact ⟨Tryz.is81, by simpa [*] using u0q s1 c n _ p.1 hd.hp⟩ | exact ⟨Tryz.is81, by simpa [*] using u0q s1 c n _ p.2 hd.hp⟩)
   refine hK11 _ _ ?_
   refine vck fun A B hA hB => ?_
   simp only [b2q, a0q, lpv, Nat.reduceLT, true_implies, reduceCtorEq, false_implies, and_true, hl]
   refine hA ?_
   clear hA hB A B
   refine vsk fun K13 hK13 => ?_
   refine a3q 0 [] ?_
   simp only [bs, ↓vopx, ↓vop, a1q, flat, wocs, ↓goc, ↓woc, ↓a2q]
   refine hK13 _ _ ?_
   refine b1q ?_
   refine hQ _ _ _ (.inr rfl) (o3q (v := .t (.v (.pointer none))) (v' := I 10) ?_ ?_ rfl rfl (.inr ⟨b0z hp hbad, rfl, hkeep, hnx⟩))
   try simp only [a0q, a4q, Nat.reduceBEq, lpv, hl, Nat.reduceLT]
   try simp only [a0q, lpv, hl, Nat.reduceLT]
  ·refine a3q 0 [.det (Bo (decide (0 ≤ p.1 ∧ p.1 < n))) s1, .det (Bo (decide (0 ≤ p.2 ∧ p.2 < n))) s1] ?_
   simp only [bs, ↓vopx, ↓vop, Nat.reduceBEq, a1q, flat, Nat.reduceLT, a8q, b0q, gtmp, hl, h1, h6, h_i, wocs, ↓goc, ↓woc, ↓a2q, ↓b8q, ↓c8q, a6q, Tryz.ag3, Tryz.fd65_0, Tryz.fd65_1, Tryz.sz3, Tryz.sz65, Tryz.un27, g0, g1, hfl, hin]
   repeat ((with_reducible refine And.intro ?_ ?_); · first | omega | exact ⟨Tryz.is81, by simpa [*] using u0q s1 c n _ p.1 hd.hp⟩ | exact ⟨Tryz.is81, by simpa [*] using u0q s1 c n _ p.2 hd.hp⟩)
   refine hK11 _ _ ?_
   refine vck fun A B hA hB => ?_
   simp only [b2q, a0q, lpv, Nat.reduceLT, true_implies, reduceCtorEq, false_implies, true_and, hl]
   refine hB ?_
   clear hA hB A B
   refine a9q ?_
   refine hK10 _ _ ?_
   have xv : outV n o1 = .loc o1 0 n := by simp [outV, show ¬ n = 0 from by omega]
   have xo := hd.ho (by omega)
   have xr := hd.hr p.1.toNat (by omega)
   have xg : (List.range n)[p.1.toNat]? = some p.1.toNat := List.getElem?_range (by omega)
   refine c5q Tryz.mixed 16 [0, 0, 0, 1, 0, 0, 1, 0, 1, 1, 1, 0, 0, 1, 0, 1] [] [] 0 (by decide +kernel) (by simp [lpv, hl]) rfl ?_
   simp only [bs, f0q, ↓vopx, ↓vop, Nat.reduceBEq, a1q, b5q, flat, Nat.reduceLT, V.cells, a8q, b0q, Sg.frzL, Sg.frz1, hl, h1, h6, h_i, wocs, ↓goc, ↓woc, ↓a2q, ↓e3q, chn, ↓goq, ↓woq, List.zip_cons_cons, List.zip_nil_right, Tryz.ag91, Tryz.ag3, Tryz.ag90, Tryz.fd93_1, Tryz.fd65_0, Tryz.fd65_1, Tryz.sz91, Tryz.sz3, Tryz.sz4, Tryz.sz90, Tryz.sz65, Tryz.un91, Tryz.un27, Tryz.un90, xv, xo, xr, xg, g0, g1, hfl, hd.hp, g8q, hin]
   repeat ((with_reducible refine And.intro ?_ ?_); · omega)
   refine hK9 _ _ ?_
   refine a3q 0 [] ?_
   simp only [bs, ↓vopx, ↓vop, Nat.reduceBEq, a1q, flat, Nat.reduceLT, opII, hl, h1, h6, h_i, wocs, ↓goc, ↓woc, ↓a2q]
   repeat ((with_reducible refine And.intro ?_ ?_); · exact ⟨by omega, by omega⟩)
   refine ⟨l.length - (i + 1), by omega, i + 1, rfl, by omega, ?_⟩
   try simp only [a0q, a4q, Nat.reduceBEq, lpv, hl, h1, h6, h_i, if_true, if_false, Nat.reduceEqDiff, Nat.reduceLT, true_and, and_true]
   repeat ((with_reducible refine And.intro ?_ ?_); · trivial)
   obtain ⟨hin1, hin2⟩ := hin
   exact ⟨by rw [r4q hp, c7z]; exact hd.put (by omega) (by omega) true, e5z hp hall (by simp [inB, hin1, hin2]), hkeep.set (hF.hr _ (by omega)) _, hnx⟩
 ·clear hA hB A B
  have han : i = l.length := by omega
  rw [han, List.take_length] at hall hd
  refine c1q ?_
  simp only [a1q, b5q, if_true]
  refine hK5 _ _ ?_
  refine vsk fun K14 hK14 => ?_
  refine a3q 0 [] ?_
  simp only [bs, ↓vopx, ↓vop, Nat.reduceBEq, a1q, flat, Nat.reduceLT, hl, h6, wocs, ↓goc, ↓woc, ↓a2q]
  refine hK14 _ _ ?_
  refine b1q ?_
  refine hQ _ _ _ (.inr rfl) (o3q (v := .ptr c 0) (v' := I 0) ?_ ?_ rfl rfl (.inl ⟨hall, c, o1, r1, rfl, hd, hF, hkeep, hnx⟩))
  try simp only [a0q, a4q, Nat.reduceBEq, lpv, hl, Nat.reduceLT]
  try simp only [a0q, lpv, hl, Nat.reduceLT]
end Go.Proofs

open Go Go.V
namespace Go.Proofs
set_option maxRecDepth 20000 in
theorem a5j (s : Sg) (n : Nat) (hn : n ≤ 200) (l : List (Int × Int)) (hl0 : l.length < 1000000000) (hal : l.all (inB n) = true) : f8q Tryz.prog 80 [I n, .t (b3q l)] s (NewR s n (mxOf l)) := by
 refine b6q Tryz.func80 rfl fun Q hQ => ?_
 obtain ⟨e, he, hl, h0, h1⟩ : ∃ e : Env, ([I n, .t (b3q l)] ++ List.replicate (Tryz.f80.ntmps - ([I n, .t (b3q l)] : List V).length) .junk) = e ∧ e.length = 49 ∧ ev e (.tmp 0) = I n ∧ ev e (.tmp 1) = .t (b3q l) := ⟨_, rfl, rfl, rfl, rfl⟩
 rw [he]
 clear he
 have hnn := f4z hn
 refine vsk fun K1 hK1 => ?_
 refine a3q 0 [] ?_
 simp only [bs, ↓vopx, ↓vop, a1q, flat, wocs, ↓goc, ↓woc, ↓a2q]
 refine hK1 _ _ ?_
 refine vsk fun K2 hK2 => ?_
 refine a3q 0 [.stop] ?_
 simp only [bs, ↓vopx, ↓vop, Nat.reduceBEq, a1q, Nat.reduceLT, hl, h0, wocs, ↓goc, ↓woc, ↓a2q, ↓b8q, a6q]
 refine ⟨Tryz.is48, (s0z s n).mono fun v s2 hv => ?_⟩
 rw [hnn] at hv
 obtain ⟨c, o1, r1, rfl, hR, hF, hk, hnx⟩ := hv
 try simp only [bs, Nat.reduceBEq, Nat.reduceLT, hl, h0, Hold]
 refine hK2 _ _ ?_
 refine vsk fun K3 hK3 => ?_
 refine vsk fun K4 hK4 => ?_
 refine a3q 0 [] ?_
 simp only [bs, ↓vopx, ↓vop, a1q, flat, wocs, ↓goc, ↓woc, ↓a2q]
 refine hK4 _ _ ?_
 refine a5q ?_
 refine c2q (fun mm e' s' => ∃ i : Nat, mm = l.length - i ∧ i ≤ l.length ∧ e'.length = 49 ∧ ev e' (.tmp 1) = .t (b3q l) ∧ ev e' (.tmp 5) = .ptr c 0 ∧ ev e' (.tmp 6) = I i ∧ True ∧ RefR s' c n (mxOf (l.take i)) o1 r1 ∧ Keep s s' ∧ s.next ≤ s'.next) (⟨0, rfl, Nat.zero_le _, ?_⟩) ?_
 ·try simp only [a0q, a4q, Nat.reduceBEq, lpv, hl, h1, Nat.reduceLT, true_and]
  repeat ((with_reducible refine And.intro ?_ ?_); · trivial)
  first | exact hnx | exact ⟨hR.congr fun x y hx hy => by simp [mxOf], hk, hnx⟩
 rintro mm e s1 ⟨i, rfl, hle_i, hl, h1, h5, h_i, hst, ⟨hd, hkeep, hnx⟩⟩
 refine vsk fun K5 hK5 => ?_
 refine vsk fun K6 hK6 => ?_
 refine a3q 0 [] ?_
 simp only [bs, ↓vopx, ↓vop, Nat.reduceBEq, a1q, Nat.reduceLT, opII, hl, h1, h_i, wocs, ↓goc, ↓woc, ↓a2q, g2q]
 refine hK6 _ _ ?_
 refine vck fun A B hA hB => ?_
 simp only [b2q, a0q, lpv, Nat.reduceLT, decide_eq_true_eq, decide_eq_false_iff_not, hl]
 refine ⟨fun hc12 => hA ?_, fun hc12 => hB ?_⟩
 ·clear hA hB A B
  refine a9q ?_
  refine hK5 _ _ ?_
  refine vsk fun K7 hK7 => ?_
  refine a5q ?_
  refine vsk fun K8 hK8 => ?_
  have hlt : i < l.length := by omega
  obtain ⟨p, hp⟩ : ∃ p, l[i]? = some p := ⟨_, List.getElem?_eq_getElem hlt⟩
  have g0 := a1x hp
  have g1 := a2x hp
  have hfl := d7q l
  have hin : (0 ≤ p.1 ∧ p.1 < n) ∧ (0 ≤ p.2 ∧ p.2 < n) := by have := (List.all_eq_true.1 hal) p (List.mem_of_getElem? hp); simpa only [inB, Bool.and_eq_true, decide_eq_true_eq] using this
  refine a3q 0 [.det (Bo (decide (0 ≤ p.1 ∧ p.1 < n))) s1, .det (Bo (decide (0 ≤ p.2 ∧ p.2 < n))) s1] ?_
  simp only [bs, ↓vopx, ↓vop, Nat.reduceBEq, a1q, flat, Nat.reduceLT, a8q, b0q, gtmp, hl, h1, h5, h_i, wocs, ↓goc, ↓woc, ↓a2q, ↓b8q, ↓h3q, a6q, Tryz.ag3, Tryz.fd65_0, Tryz.fd65_1, Tryz.sz3, Tryz.sz65, Tryz.un27, g0, g1, hfl, hin]
  repeat ((with_reducible refine And.intro ?_ ?_); · first | omega | exact ⟨Tryz.is81, by simpa [*] using u0q s1 c n _ p.1 hd.hp⟩ | exact ⟨Tryz.is81, by simpa [*] using u0q s1 c n _ p.2 hd.hp⟩)
  refine hK8 _ _ ?_
  refine vck fun A B hA hB => ?_
  simp only [b2q, a0q, lpv, Nat.reduceLT, true_implies, reduceCtorEq, false_implies, and_true, hl]
  refine hA ?_
  clear hA hB A B
  have xv : outV n o1 = .loc o1 0 n := by simp [outV, show ¬ n = 0 from by omega]
  have xo := hd.ho (by omega)
  have xr := hd.hr p.1.toNat (by omega)
  have xg : (List.range n)[p.1.toNat]? = some p.1.toNat := List.getElem?_range (by omega)
  refine c5q Tryz.mixed 16 [0, 0, 0, 1, 0, 0, 1, 0, 1, 1, 1, 0, 0, 1, 0, 1] [] [] 0 (by decide +kernel) (by simp [lpv, hl]) rfl ?_
  simp only [bs, f0q, ↓vopx, ↓vop, Nat.reduceBEq, a1q, b5q, flat, Nat.reduceLT, V.cells, a8q, b0q, Sg.frzL, Sg.frz1, hl, h1, h5, h_i, wocs, ↓goc, ↓woc, ↓a2q, ↓e3q, chn, ↓goq, ↓woq, List.zip_cons_cons, List.zip_nil_right, Tryz.ag91, Tryz.ag3, Tryz.ag90, Tryz.fd93_1, Tryz.fd65_0, Tryz.fd65_1, Tryz.sz91, Tryz.sz3, Tryz.sz4, Tryz.sz90, Tryz.sz65, Tryz.un91, Tryz.un27, Tryz.un90, xv, xo, xr, xg, g0, g1, hfl, hd.hp, g8q, hin]
  repeat ((with_reducible refine And.intro ?_ ?_); · omega)
  refine hK7 _ _ ?_
  refine a3q 0 [] ?_
  simp only [bs, ↓vopx, ↓vop, Nat.reduceBEq, a1q, flat, Nat.reduceLT, opII, hl, h1, h5, h_i, wocs, ↓goc, ↓woc, ↓a2q]
  repeat ((with_reducible refine And.intro ?_ ?_); · exact ⟨by omega, by omega⟩)
  refine ⟨l.length - (i + 1), by omega, i + 1, rfl, by omega, ?_⟩
  try simp only [a0q, a4q, Nat.reduceBEq, lpv, hl, h1, h5, h_i, if_true, if_false, Nat.reduceEqDiff, Nat.reduceLT, true_and, and_true]
  repeat ((with_reducible refine And.intro ?_ ?_); · trivial)
  obtain ⟨hin1, hin2⟩ := hin
  exact ⟨by rw [r4q hp, c7z]; exact hd.put (by omega) (by omega) true, hkeep.set (hF.hr _ (by omega)) _, hnx⟩
 ·clear hA hB A B
  have han : i = l.length := by omega
  rw [han, List.take_length] at hd
  refine c1q ?_
  simp only [a1q, b5q, if_true]
  refine hK3 _ _ ?_
  refine vsk fun K9 hK9 => ?_
  refine a3q 0 [] ?_
  simp only [bs, ↓vopx, ↓vop, Nat.reduceBEq, a1q, Nat.reduceLT, hl, h5, wocs, ↓goc, ↓woc, ↓a2q]
  refine hK9 _ _ ?_
  refine b1q ?_
  refine hQ _ _ _ (.inr rfl) (d6q (v := .ptr c 0) ?_ rfl ⟨c, o1, r1, rfl, hd, hF, hkeep, hnx⟩)
  try simp only [a0q, lpv, hl, Nat.reduceLT]
end Go.Proofs

open Go Go.V
namespace Go.Proofs
set_option maxRecDepth 20000 in
theorem o4z (l : List (Int × Int)) (hl0 : l.length < 1000000000) : f7q Tryz.prog 78 [.t (b3q l)] (Bo (i9q l)) := by
 refine b4q Tryz.func78 rfl fun s Q hQ => ?_
 obtain ⟨e, he, hl, h0⟩ : ∃ e : Env, ([.t (b3q l)] ++ List.replicate (Tryz.f78.ntmps - ([.t (b3q l)] : List V).length) .junk) = e ∧ e.length = 50 ∧ ev e (.tmp 0) = .t (b3q l) := ⟨_, rfl, rfl, rfl⟩
 rw [he]
 clear he
 refine vsk fun K1 hK1 => ?_
 refine a3q 0 [] ?_
 simp only [bs, ↓vopx, ↓vop, a1q, flat, wocs, ↓goc, ↓woc, ↓a2q]
 refine hK1 _ _ ?_
 refine vsk fun K2 hK2 => ?_
 refine vsk fun K3 hK3 => ?_
 refine a3q 0 [] ?_
 simp only [bs, ↓vopx, ↓vop, a1q, flat, wocs, ↓goc, ↓woc, ↓a2q]
 refine hK3 _ _ ?_
 refine a5q ?_
 refine c2q (fun mm e' s' => ∃ i : Nat, mm = l.length - i ∧ i ≤ l.length ∧ e'.length = 50 ∧ ev e' (.tmp 0) = .t (b3q l) ∧ ev e' (.tmp 3) = I ((i : Int) + 1) ∧ s = s' ∧ ∀ (j : Nat) (p q : Int × Int), j < i → l[j]? = some p → l[j + 1]? = some q → pltB p q = true) (⟨0, rfl, Nat.zero_le _, ?_⟩) ?_
 ·try simp only [a0q, a4q, Nat.reduceBEq, lpv, hl, h0, Nat.reduceLT, true_and]
  repeat ((with_reducible refine And.intro ?_ ?_); · trivial)
  exact fun j p q h => by omega
 rintro mm e _ ⟨i, rfl, hle_i, hl, h0, h_i, rfl, hall⟩
 refine vsk fun K4 hK4 => ?_
 refine vsk fun K5 hK5 => ?_
 refine a3q 0 [] ?_
 simp only [bs, ↓vopx, ↓vop, Nat.reduceBEq, a1q, Nat.reduceLT, opII, hl, h0, h_i, wocs, ↓goc, ↓woc, ↓a2q, g2q]
 refine hK5 _ _ ?_
 refine vck fun A B hA hB => ?_
 simp only [b2q, a0q, lpv, Nat.reduceLT, decide_eq_true_eq, decide_eq_false_iff_not, hl]
 refine ⟨fun hc7 => hA ?_, fun hc7 => hB ?_⟩
 ·clear hA hB A B
  refine a9q ?_
  refine hK4 _ _ ?_
  refine vsk fun K6 hK6 => ?_
  refine a5q ?_
  refine vsk fun K7 hK7 => ?_
  have hlt : i + 1 < l.length := by omega
  obtain ⟨p, hp⟩ : ∃ p, l[i]? = some p := ⟨_, List.getElem?_eq_getElem (by omega)⟩
  obtain ⟨q, hq⟩ : ∃ q, l[i + 1]? = some q := ⟨_, List.getElem?_eq_getElem hlt⟩
  have g0 := a1x hp
  have g1 := a2x hp
  have g2 := a1x hq
  have g3 := a2x hq
  have hfl := d7q l
  have ht : ((i : Int) + 1).toNat = i + 1 := by omega
  have hs1 : (i : Int) + 1 - 1 = i := by omega
  have hs2 : (0 : Int) ≤ (i : Int) + 1 := by omega
  have hs3 : (i + 1) * 2 < l.length * 2 := by omega
  have hs4 : i * 2 < l.length * 2 := by omega
  rcases (show q.1 < p.1 ∨ (¬ q.1 < p.1 ∧ q.1 = p.1) ∨ (¬ q.1 < p.1 ∧ ¬ q.1 = p.1) by omega) with ha | ⟨ha, hb⟩ | ⟨ha, hb⟩
  ·refine c5q Tryz.mixed 37 [0, 0, 1, 0, 1, 0, 0, 0, 1, 0, 1, 0, 0, 0, 0, 1, 0, 1, 0, 0, 0, 1, 0, 1, 0, 0, 0, 0, 1, 0, 1, 0, 0, 0, 1, 0, 1] [] [] 0 (by decide +kernel) (by simp [lpv, hl]) rfl ?_
   simp only [bs, ↓vopx, ↓vop, Nat.reduceBEq, a1q, flat, Nat.reduceLT, a8q, b0q, opII, opSS, gtmp, hl, h0, h_i, wocs, ↓goc, ↓woc, ↓a2q, ↓e3q, ↓e5q, ↓farC, chn, ↓goq, ↓woq, List.zip_cons_cons, List.zip_nil_right, Tryz.ag3, Tryz.fd65_0, Tryz.sz3, Tryz.sz65, Tryz.un27, g0, g2, hfl, ht, hs1, hs2, hs3, hs4, ha]
   repeat ((with_reducible refine And.intro ?_ ?_); · exact ⟨by omega, by omega⟩)
   refine hK7 _ _ ?_
   refine vck fun A B hA hB => ?_
   simp only [b2q, a0q, lpv, Nat.reduceLT, true_implies, reduceCtorEq, false_implies, and_true, hl]
   refine hA ?_
   clear hA hB A B
   refine vsk fun K8 hK8 => ?_
   refine a3q 0 [] ?_
   simp only [bs, ↓vopx, ↓vop, a1q, flat, wocs, ↓goc, ↓woc, ↓a2q]
   refine hK8 _ _ ?_
   refine b1q ?_
   refine hQ _ _ _ (.inr rfl) (a7q ?_ fun n b hn h => h)
   try simp only [a0q, lpv, hl, Nat.reduceLT]
   rw [r8q hp hq (by unfold pltB; simp; omega)]
  ·have hbe : (q.1 == p.1) = true := by simp [hb]
   refine c5q Tryz.mixed 37 [0, 0, 1, 0, 1, 0, 0, 0, 1, 0, 1, 0, 0, 0, 0, 1, 0, 1, 0, 0, 0, 1, 0, 1, 0, 0, 0, 0, 1, 0, 1, 0, 0, 0, 1, 0, 1] [] [] 0 (by decide +kernel) (by simp [lpv, hl]) rfl ?_
   simp only [bs, ↓vopx, ↓vop, Nat.reduceBEq, a1q, flat, Nat.reduceLT, a8q, b0q, opII, opSS, gtmp, hl, h0, h_i, wocs, ↓goc, ↓woc, ↓a2q, ↓e3q, ↓h3q, ↓c8q, ↓farC, chn, ↓goq, ↓woq, List.zip_cons_cons, List.zip_nil_right, Tryz.ag3, Tryz.fd65_0, Tryz.fd65_1, Tryz.sz3, Tryz.sz65, Tryz.un27, g0, g1, g2, g3, hfl, ht, hs1, hs2, hs3, hs4, ha, hbe]
   repeat ((with_reducible refine And.intro ?_ ?_); · exact ⟨by omega, by omega⟩)
   refine hK7 _ _ ?_
   refine vck fun A B hA hB => ?_
   simp only [b2q, a0q, lpv, Nat.reduceLT, decide_eq_true_eq, decide_eq_false_iff_not, hl]
   refine ⟨fun hc49 => hA ?_, fun hc49 => hB ?_⟩
   ·clear hA hB A B
    refine vsk fun K9 hK9 => ?_
    refine a3q 0 [] ?_
    simp only [bs, ↓vopx, ↓vop, a1q, flat, wocs, ↓goc, ↓woc, ↓a2q]
    refine hK9 _ _ ?_
    refine b1q ?_
    refine hQ _ _ _ (.inr rfl) (a7q ?_ fun n b hn h => h)
    try simp only [a0q, lpv, hl, Nat.reduceLT]
    rw [r8q hp hq (by unfold pltB; simp; omega)]
   ·clear hA hB A B
    have hgood : pltB p q = true := by unfold pltB; simp; omega
    refine a9q ?_
    refine hK6 _ _ ?_
    refine a3q 0 [] ?_
    simp only [bs, ↓vopx, ↓vop, Nat.reduceBEq, a1q, flat, Nat.reduceLT, opII, hl, h0, h_i, wocs, ↓goc, ↓woc, ↓a2q]
    repeat ((with_reducible refine And.intro ?_ ?_); · exact ⟨by omega, by omega⟩)
    refine ⟨l.length - (i + 1), by omega, i + 1, rfl, by omega, ?_⟩
    try simp only [a0q, a4q, Nat.reduceBEq, lpv, hl, h0, h_i, if_true, if_false, Nat.reduceEqDiff, Nat.reduceLT, true_and, and_true]
    repeat ((with_reducible refine And.intro ?_ ?_); · trivial)
    intro j x y hj h1 h2
    rcases Nat.lt_succ_iff_lt_or_eq.1 hj with hj | rfl
    ·exact hall j x y hj h1 h2
    ·rw [hp] at h1; rw [hq] at h2; cases h1; cases h2; exact hgood
  ·have hbe : (q.1 == p.1) = false := by simp [hb]
   have hgood : pltB p q = true := by unfold pltB; simp; omega
   refine c5q Tryz.mixed 37 [0, 0, 1, 0, 1, 0, 0, 0, 1, 0, 1, 0, 0, 0, 0, 1, 0, 1, 0, 0, 0, 1, 0, 1, 0, 0, 0, 0, 1, 0, 1, 0, 0, 0, 1, 0, 1] [] [] 0 (by decide +kernel) (by simp [lpv, hl]) rfl ?_
   simp only [bs, ↓vopx, ↓vop, Nat.reduceBEq, a1q, flat, Nat.reduceLT, a8q, b0q, opII, opSS, gtmp, hl, h0, h_i, wocs, ↓goc, ↓woc, ↓a2q, ↓e3q, ↓c8q, ↓m5q, ↓farC, chn, ↓goq, ↓woq, List.zip_cons_cons, List.zip_nil_right, Tryz.ag3, Tryz.fd65_0, Tryz.sz3, Tryz.sz65, Tryz.un27, g0, g2, hfl, ht, hs1, hs2, hs3, hs4, ha, hbe]
   repeat ((with_reducible refine And.intro ?_ ?_); · exact ⟨by omega, by omega⟩)
   refine hK7 _ _ ?_
   refine vck fun A B hA hB => ?_
   simp only [b2q, a0q, lpv, Nat.reduceLT, true_implies, reduceCtorEq, false_implies, true_and, hl]
   refine hB ?_
   clear hA hB A B
   refine a9q ?_
   refine hK6 _ _ ?_
   refine a3q 0 [] ?_
   simp only [bs, ↓vopx, ↓vop, Nat.reduceBEq, a1q, flat, Nat.reduceLT, opII, hl, h0, h_i, wocs, ↓goc, ↓woc, ↓a2q]
   repeat ((with_reducible refine And.intro ?_ ?_); · exact ⟨by omega, by omega⟩)
   refine ⟨l.length - (i + 1), by omega, i + 1, rfl, by omega, ?_⟩
   try simp only [a0q, a4q, Nat.reduceBEq, lpv, hl, h0, h_i, if_true, if_false, Nat.reduceEqDiff, Nat.reduceLT, true_and, and_true]
   repeat ((with_reducible refine And.intro ?_ ?_); · trivial)
   intro j x y hj h1 h2
   rcases Nat.lt_succ_iff_lt_or_eq.1 hj with hj | rfl
   ·exact hall j x y hj h1 h2
   ·rw [hp] at h1; rw [hq] at h2; cases h1; cases h2; exact hgood
 ·clear hA hB A B
  refine c1q ?_
  simp only [a1q, b5q, if_true]
  refine hK2 _ _ ?_
  refine vsk fun K10 hK10 => ?_
  refine a3q 0 [] ?_
  simp only [bs, ↓vopx, ↓vop, a1q, flat, wocs, ↓goc, ↓woc, ↓a2q]
  refine hK10 _ _ ?_
  refine b1q ?_
  refine hQ _ _ _ (.inr rfl) (a7q ?_ fun n b hn h => h)
  try simp only [a0q, lpv, hl, Nat.reduceLT]
  rw [t4q fun j x y h1 h2 => hall j x y (by have := (List.getElem?_eq_some_iff.1 h2).1; omega) h1 h2]
end Go.Proofs

open Go Go.V
namespace Go.Proofs
def c4q (o : Ob) : Int := if 40 < o.labels.length then 11 else if (o.labels.all fun b => decide (b.size ≤ 60)) && (o.pairs.all (inB o.labels.length) && (i9q o.pairs && t0z o.labels.length (mxOf o.pairs))) then 0 else 10
structure IsOb (o : Ob) : Prop where
 le : o.labels.length ≤ 40
 sz : (o.labels.all fun b => decide (b.size ≤ 60)) = true
 inb : o.pairs.all (inB o.labels.length) = true
 ris : i9q o.pairs = true
 tran : t0z o.labels.length (mxOf o.pairs) = true
theorem k8q {o : Ob} : c4q o = 0 ↔ IsOb o := by
 unfold c4q
 constructor
 ·intro h
  split at h
  ·cases h
  ·split at h
   ·rename_i h1 h2
    simp only [Bool.and_eq_true] at h2
    exact ⟨by omega, h2.1, h2.2.1, h2.2.2.1, h2.2.2.2⟩
   ·cases h
 ·intro h
  rw [if_neg (by have := h.le; omega), h.sz, h.inb, h.ris, h.tran]; rfl
theorem OfR.split {s : Sg} {n : Nat} {l : List (Int × Int)} {v : V} {s' : Sg} (h : OfR s n l v s') : ∃ (pv : V) (ec : Int), v = .tup [pv, I ec] ∧ Keep s s' ∧ s.next ≤ s'.next ∧
 ((l.all (inB n) = true ∧ ec = 0 ∧ ∃ p o r, pv = .ptr p 0 ∧ RefR s' p n (mxOf l) o r) ∨ (l.all (inB n) = false ∧ ec = 10)) := by
 rcases h with ⟨h1, p, o, r, rfl, h2, _, h3, h4⟩ | ⟨h1, rfl, h3, h4⟩
 ·exact ⟨_, _, rfl, h3, h4, .inl ⟨h1, rfl, p, o, r, rfl, h2⟩⟩
 ·exact ⟨_, _, rfl, h3, h4, .inr ⟨h1, rfl⟩⟩
theorem three {A : Prop} (b : Bool) {B : Prop} (h : A ∨ B) : B ∨ (A ∧ b = false) ∨ (A ∧ b = true) := by
 rcases h with h | h
 ·cases b
  ·exact .inr (.inl ⟨h, rfl⟩)
  ·exact .inr (.inr ⟨h, rfl⟩)
 ·exact .inl h
theorem NewR.of_keep {s s1 : Sg} (hk : Keep s s1) (hn : s.next ≤ s1.next) {n : Nat} {M : Mx} {v : V} {s' : Sg} (h : NewR s1 n M v s') : NewR s n M v s' := by
 obtain ⟨p, o, r, rfl, h1, h2, h3, h4⟩ := h
 exact ⟨p, o, r, rfl, h1, ⟨Nat.le_trans hn h2.hp, fun h => Nat.le_trans hn (h2.ho h), fun i hi => Nat.le_trans hn (h2.hr i hi)⟩, hk.trans hn h3, Nat.le_trans hn h4⟩
set_option maxRecDepth 20000 in
theorem r2x (o : Ob) (hs1 : o.labels.length < 1000000000) (hs2 : o.pairs.length < 1000000000) : f7q Tryz.prog 55 [vObj o] (I (c4q o)) := by
 refine b4q Tryz.func55 rfl fun s Q hQ => ?_
 obtain ⟨e, he, hl, h0⟩ : ∃ e : Env, ([vObj o] ++ List.replicate (Tryz.f55.ntmps - ([vObj o] : List V).length) .junk) = e ∧ e.length = 46 ∧ ev e (.tmp 0) = vObj o := ⟨_, rfl, rfl, rfl⟩
 rw [he]
 clear he
 refine vsk fun K1 hK1 => ?_
 refine a3q 0 [] ?_
 simp only [bs, ↓vopx, ↓vop, a1q, flat, V.cells, h0, wocs, ↓goc, ↓woc, ↓a2q]
 refine hK1 _ _ ?_
 refine vsk fun K2 hK2 => ?_
 refine vsk fun K3 hK3 => ?_
 refine a3q 0 [] ?_
 simp only [bs, ↓vopx, ↓vop, Nat.reduceBEq, a1q, flat, Nat.reduceLT, a8q, b0q, opII, hl, wocs, ↓goc, ↓woc, ↓a2q, Tryz.ag26, Tryz.fd29_0, Tryz.sz26, Tryz.un26, c9q]
 refine hK3 _ _ ?_
 refine vck fun A B hA hB => ?_
 simp only [b2q, a0q, lpv, Nat.reduceLT, decide_eq_true_eq, decide_eq_false_iff_not, hl]
 refine ⟨fun hc9 => hA ?_, fun hc9 => hB ?_⟩
 ·clear hA hB A B
  refine vsk fun K4 hK4 => ?_
  refine a3q 0 [] ?_
  simp only [bs, ↓vopx, ↓vop, a1q, flat, wocs, ↓goc, ↓woc, ↓a2q]
  refine hK4 _ _ ?_
  refine b1q ?_
  refine hQ _ _ _ (.inr rfl) (a7q ?_ fun n b hn h => l6q s _ hn h)
  try simp only [a0q, lpv, hl, Nat.reduceLT]
  rw [show c4q o = 11 from by unfold c4q; rw [if_pos (by omega)]]
 ·clear hA hB A B
  refine a9q ?_
  refine hK2 _ _ ?_
  refine vsk fun K5 hK5 => ?_
  refine vsk fun K6 hK6 => ?_
  refine a3q 0 [] ?_
  simp only [bs, ↓vopx, ↓vop, a1q, flat, wocs, ↓goc, ↓woc, ↓a2q]
  refine hK6 _ _ ?_
  refine a5q ?_
  refine c2q (fun mm e' s' => ∃ i : Nat, mm = o.labels.length - i ∧ i ≤ o.labels.length ∧ e'.length = 46 ∧ ev e' (.tmp 1) = .ptr s.next 0 ∧ ev e' (.tmp 3) = I i ∧ s' = s.add (.box 29 [.t (d1q o.labels), .t (b3q o.pairs)]) ∧ (o.labels.take i).all (fun b => decide (b.size ≤ 60)) = true) (⟨0, rfl, Nat.zero_le _, ?_⟩) ?_
  ·try simp only [a0q, a4q, Nat.reduceBEq, lpv, hl, Nat.reduceLT, true_and]
   repeat ((with_reducible refine And.intro ?_ ?_); · trivial)
   first | trivial | rfl | simp
  rintro mm e _ ⟨i, rfl, hle_i, hl, hb1, h_i, rfl, hall0⟩
  refine vsk fun K7 hK7 => ?_
  refine vsk fun K8 hK8 => ?_
  refine a3q 0 [] ?_
  simp only [bs, ↓vopx, ↓vop, Nat.reduceBEq, a1q, Nat.reduceLT, a8q, b0q, opII, hl, hb1, h_i, wocs, ↓goc, ↓woc, ↓a2q, Tryz.ag26, Tryz.fd29_0, Tryz.sz26, Tryz.un26, c9q]
  refine hK8 _ _ ?_
  refine vck fun A B hA hB => ?_
  simp only [b2q, a0q, lpv, Nat.reduceLT, decide_eq_true_eq, decide_eq_false_iff_not, hl]
  refine ⟨fun hc14 => hA ?_, fun hc14 => hB ?_⟩
  ·clear hA hB A B
   refine a9q ?_
   refine hK7 _ _ ?_
   refine vsk fun K9 hK9 => ?_
   refine a5q ?_
   refine vsk fun K10 hK10 => ?_
   have hlt : i < o.labels.length := by omega
   obtain ⟨b, hb⟩ : ∃ b, o.labels[i]? = some b := ⟨_, List.getElem?_eq_getElem hlt⟩
   refine a3q 0 [] ?_
   simp only [bs, ↓vopx, ↓vop, Nat.reduceBEq, a1q, flat, Nat.reduceLT, a8q, b0q, opII, hl, hb1, h_i, wocs, ↓goc, ↓woc, ↓a2q, Tryz.ag26, Tryz.ag9, Tryz.fd29_0, Tryz.sz26, Tryz.sz9, Tryz.un26, hb, Tryz.underlying9]
   repeat ((with_reducible refine And.intro ?_ ?_); · (with_reducible assumption))
   refine hK10 _ _ ?_
   refine vck fun A B hA hB => ?_
   simp only [b2q, a0q, lpv, Nat.reduceLT, decide_eq_true_eq, decide_eq_false_iff_not, hl]
   refine ⟨fun hc23 => hA ?_, fun hc23 => hB ?_⟩
   ·clear hA hB A B
    refine vsk fun K11 hK11 => ?_
    refine a3q 0 [] ?_
    simp only [bs, ↓vopx, ↓vop, a1q, flat, wocs, ↓goc, ↓woc, ↓a2q]
    refine hK11 _ _ ?_
    refine b1q ?_
    refine hQ _ _ _ (.inr rfl) (a7q ?_ fun n b hn h => l6q s _ hn h)
    try simp only [a0q, lpv, hl, Nat.reduceLT]
    rw [show c4q o = 10 from by unfold c4q; rw [if_neg (by omega), b0z hb (by simp; omega)]; simp]
   ·clear hA hB A B
    refine a9q ?_
    refine hK9 _ _ ?_
    refine a3q 0 [] ?_
    simp only [bs, ↓vopx, ↓vop, Nat.reduceBEq, a1q, flat, Nat.reduceLT, opII, hl, hb1, h_i, wocs, ↓goc, ↓woc, ↓a2q]
    repeat ((with_reducible refine And.intro ?_ ?_); · exact ⟨by omega, by omega⟩)
    refine ⟨o.labels.length - (i + 1), by omega, i + 1, rfl, by omega, ?_⟩
    try simp only [a0q, a4q, Nat.reduceBEq, lpv, hl, hb1, h_i, if_true, if_false, Nat.reduceEqDiff, Nat.reduceLT, true_and, and_true]
    repeat ((with_reducible refine And.intro ?_ ?_); · trivial)
    exact e5z hb hall0 (by simp; omega)
  ·clear hA hB A B
   have han : i = o.labels.length := by omega
   rw [han, List.take_length] at hall0
   refine c1q ?_
   simp only [a1q, b5q, if_true]
   refine hK5 _ _ ?_
   refine vsk fun K12 hK12 => ?_
   refine a3q 0 [.stop] ?_
   simp only [bs, Nat.reduceAdd, ↓vopx, ↓vop, Nat.reduceBEq, a1q, Nat.reduceLT, a8q, b0q, hl, hb1, wocs, ↓goc, ↓woc, ↓a2q, ↓b8q, a6q, Tryz.ag26, Tryz.ag27, Tryz.fd29_0, Tryz.fd29_1, Tryz.sz26, Tryz.sz27, Tryz.un26, c9q]
   refine ⟨Tryz.is77, (refOf_ _ o.labels.length (by omega) o.pairs hs2).mono fun v s2 hv => ?_⟩
   obtain ⟨pv, ec, rfl, hk, hnx, hcase⟩ := hv.split
   try simp only [bs, Nat.reduceBEq, Nat.reduceLT, hl, Hold]
   refine hK12 _ _ ?_
   refine vsk fun K13 hK13 => ?_
   refine vsk fun K14 hK14 => ?_
   have hks : Keep s s2 := ((Keep.refl s).add (Nat.le_refl _) _).trans (by simp [Sg.add]) hk
   have hm2 : s2.m s.next = some (.box 29 [.t (d1q o.labels), .t (b3q o.pairs)]) := hk _ _ (by simp [Sg.add]) (p5q _ _)
   rcases three (i9q o.pairs) hcase with ⟨hall, rfl⟩ | ⟨⟨hall, rfl, hR⟩, hri⟩ | ⟨⟨hall, rfl, c, o1, r1, rfl, hR⟩, hri⟩
   ·refine a3q 0 [] ?_
    simp only [bs, ↓vopx, ↓vop, Nat.reduceBEq, a1q, flat, Nat.reduceLT, opII, gtmp, hl, wocs, ↓goc, ↓woc, ↓a2q, ↓e5q, Int.reduceBNe]
    refine hK14 _ _ ?_
    refine vck fun A B hA hB => ?_
    simp only [b2q, a0q, lpv, Nat.reduceLT, true_implies, reduceCtorEq, false_implies, and_true, hl]
    refine hA ?_
    clear hA hB A B
    refine vsk fun K15 hK15 => ?_
    refine a3q 0 [] ?_
    simp only [bs, ↓vopx, ↓vop, a1q, flat, wocs, ↓goc, ↓woc, ↓a2q]
    refine hK15 _ _ ?_
    refine b1q ?_
    refine hQ _ _ _ (.inr rfl) (a7q ?_ hks)
    try simp only [a0q, lpv, hl, Nat.reduceLT]
    rw [show c4q o = 10 from by unfold c4q; rw [if_neg (by omega), hall]; simp]
   ·refine a3q 0 [.pur (Bo (i9q o.pairs))] ?_
    simp only [bs, ↓vopx, ↓vop, Nat.reduceBEq, a1q, flat, Nat.reduceLT, a8q, b0q, opII, gtmp, hl, hb1, wocs, ↓goc, ↓woc, ↓a2q, ↓b8q, ↓c8q, ↓e5q, a6q, Tryz.ag27, Tryz.fd29_1, Tryz.sz27, bne_self_eq_false, hm2, hri]
    repeat ((with_reducible refine And.intro ?_ ?_); · exact ⟨Tryz.is78, by simpa only [hri] using o4z o.pairs hs2⟩)
    refine hK14 _ _ ?_
    refine vck fun A B hA hB => ?_
    simp only [b2q, a0q, lpv, Nat.reduceLT, true_implies, reduceCtorEq, false_implies, and_true, hl]
    refine hA ?_
    clear hA hB A B
    refine vsk fun K16 hK16 => ?_
    refine a3q 0 [] ?_
    simp only [bs, ↓vopx, ↓vop, a1q, flat, wocs, ↓goc, ↓woc, ↓a2q]
    refine hK16 _ _ ?_
    refine b1q ?_
    refine hQ _ _ _ (.inr rfl) (a7q ?_ hks)
    try simp only [a0q, lpv, hl, Nat.reduceLT]
    rw [show c4q o = 10 from by unfold c4q; rw [if_neg (by omega), hri]; simp]
   ·refine a3q 0 [.pur (Bo (i9q o.pairs)), .det (Bo (t0z o.labels.length (mxOf o.pairs))) s2] ?_
    simp only [bs, ↓vopx, ↓vop, Nat.reduceBEq, a1q, flat, Nat.reduceLT, a8q, b0q, opII, gtmp, hl, hb1, wocs, ↓goc, ↓woc, ↓a2q, ↓b8q, ↓c8q, a6q, Tryz.ag27, Tryz.fd29_1, Tryz.sz27, bne_self_eq_false, hm2, hri]
    repeat ((with_reducible refine And.intro ?_ ?_); · first | exact ⟨Tryz.is78, by simpa only [hri] using o4z o.pairs hs2⟩ | exact ⟨Tryz.is79, r4x _ _ _ _ _ _ hR⟩)
    refine hK14 _ _ ?_
    refine vck fun A B hA hB => ?_
    simp only [b2q, a0q, lpv, Nat.reduceLT, Bool.not_eq_true', Bool.not_eq_false', hl]
    refine ⟨fun hc45 => hA ?_, fun hc45 => hB ?_⟩
    ·clear hA hB A B
     refine vsk fun K17 hK17 => ?_
     refine a3q 0 [] ?_
     simp only [bs, ↓vopx, ↓vop, a1q, flat, wocs, ↓goc, ↓woc, ↓a2q]
     refine hK17 _ _ ?_
     refine b1q ?_
     refine hQ _ _ _ (.inr rfl) (a7q ?_ hks)
     try simp only [a0q, lpv, hl, Nat.reduceLT]
     rw [show c4q o = 10 from by unfold c4q; rw [if_neg (by omega), hc45]; simp]
    ·clear hA hB A B
     refine a9q ?_
     refine hK13 _ _ ?_
     refine vsk fun K18 hK18 => ?_
     refine a3q 0 [] ?_
     simp only [bs, ↓vopx, ↓vop, a1q, flat, wocs, ↓goc, ↓woc, ↓a2q]
     refine hK18 _ _ ?_
     refine b1q ?_
     refine hQ _ _ _ (.inr rfl) (a7q ?_ hks)
     try simp only [a0q, lpv, hl, Nat.reduceLT]
     rw [show c4q o = 0 from by unfold c4q; rw [if_neg (by omega), hall0, hall, hri, hc45]; rfl]
set_option maxRecDepth 20000 in
theorem k6q (o : Ob) (hs1 : o.labels.length < 1000000000) (hs2 : o.pairs.length < 1000000000) : f7q Tryz.prog 33 [vObj o] (Bo (c4q o == 0)) := by
 refine b4q Tryz.func33 rfl fun s Q hQ => ?_
 obtain ⟨e, he, hl, h0⟩ : ∃ e : Env, ([vObj o] ++ List.replicate (Tryz.f33.ntmps - ([vObj o] : List V).length) .junk) = e ∧ e.length = 6 ∧ ev e (.tmp 0) = vObj o := ⟨_, rfl, rfl, rfl⟩
 rw [he]
 clear he
 refine vsk fun K1 hK1 => ?_
 refine a3q 0 [] ?_
 simp only [bs, ↓vopx, ↓vop, a1q, flat, V.cells, h0, wocs, ↓goc, ↓woc, ↓a2q]
 refine hK1 _ _ ?_
 refine vsk fun K2 hK2 => ?_
 refine a3q 0 [.pur (I (c4q o))] ?_
 simp only [bs, Nat.reduceAdd, ↓vopx, ↓vop, Nat.reduceBEq, a1q, flat, Nat.reduceLT, a8q, b0q, opII, hl, wocs, ↓goc, ↓woc, ↓a2q, ↓b8q, a6q, Tryz.ag29, Tryz.sz29]
 repeat ((with_reducible refine And.intro ?_ ?_); · exact ⟨Tryz.is55, r2x o hs1 hs2⟩)
 refine hK2 _ _ ?_
 refine b1q ?_
 refine hQ _ _ _ (.inr rfl) (a7q ?_ fun n b hn h => l6q s _ hn h)
 try simp only [a0q, lpv, hl, Nat.reduceLT]
set_option maxRecDepth 20000 in
theorem refRel_ (s : Sg) (o : Ob) (hs1 : o.labels.length < 1000000000) (hs2 : o.pairs.length < 1000000000) (ho : IsOb o) : f8q Tryz.prog 56 [vObj o] s (NewR s o.labels.length (mxOf o.pairs)) := by
 refine b6q Tryz.func56 rfl fun Q hQ => ?_
 obtain ⟨e, he, hl, h0⟩ : ∃ e : Env, ([vObj o] ++ List.replicate (Tryz.f56.ntmps - ([vObj o] : List V).length) .junk) = e ∧ e.length = 13 ∧ ev e (.tmp 0) = vObj o := ⟨_, rfl, rfl, rfl⟩
 rw [he]
 clear he
 have hcb : (c4q o == 0) = true := by simp [k8q.2 ho]
 have hle := ho.le
 refine vsk fun K1 hK1 => ?_
 refine a3q 0 [] ?_
 simp only [bs, ↓vopx, ↓vop, a1q, flat, V.cells, h0, wocs, ↓goc, ↓woc, ↓a2q]
 refine hK1 _ _ ?_
 refine vsk fun K2 hK2 => ?_
 refine vsk fun K3 hK3 => ?_
 refine a3q 0 [.pur (Bo (c4q o == 0))] ?_
 simp only [bs, Nat.reduceAdd, ↓vopx, ↓vop, Nat.reduceBEq, a1q, Nat.reduceLT, a8q, b0q, hl, wocs, ↓goc, ↓woc, ↓a2q, ↓b8q, a6q, Tryz.ag29, Tryz.sz29, hcb]
 repeat ((with_reducible refine And.intro ?_ ?_); · exact ⟨Tryz.is33, by simpa only [hcb] using k6q o hs1 hs2⟩)
 refine hK3 _ _ ?_
 refine vck fun A B hA hB => ?_
 simp only [b2q, a0q, lpv, Nat.reduceLT, true_implies, reduceCtorEq, false_implies, true_and, hl]
 refine hB ?_
 clear hA hB A B
 refine a9q ?_
 refine hK2 _ _ ?_
 refine vsk fun K4 hK4 => ?_
 refine a3q 0 [.stop] ?_
 simp only [bs, Nat.reduceAdd, ↓vopx, ↓vop, Nat.reduceBEq, a1q, Nat.reduceLT, a8q, b0q, hl, wocs, ↓goc, ↓woc, ↓a2q, ↓b8q, a6q, Tryz.ag26, Tryz.ag27, Tryz.fd29_0, Tryz.fd29_1, Tryz.sz26, Tryz.sz27, Tryz.un26, c9q]
 refine ⟨Tryz.is80, (a5j _ o.labels.length (by omega) o.pairs hs2 ho.inb).mono fun v s2 hv => ?_⟩
 have hv := hv.of_keep ((Keep.refl s).add (Nat.le_refl _) _) (by simp [Sg.add])
 obtain ⟨c, o1, r1, rfl, hR, hF, hk, hnx⟩ := hv
 try simp only [bs, Nat.reduceLT, hl, Hold]
 refine hK4 _ _ ?_
 refine b1q ?_
 refine hQ _ _ _ (.inr rfl) (d6q (v := .ptr c 0) ?_ rfl ⟨c, o1, r1, rfl, hR, hF, hk, hnx⟩)
 try simp only [a0q, lpv, hl, Nat.reduceLT]
end Go.Proofs

open Go Go.V
namespace Go.Proofs
def allY {α β : Type} (r : α → β → Bool) : List α → List β → Bool
 | [], [] => true
 | a :: l, b :: m => r a b && allY r l m
 | _, _ => false
theorem e4z {α β : Type} {r : α → β → Bool} : ∀ {l : List α} {m : List β}, l.length ≠ m.length → allY r l m = false
 | [], [], h => absurd rfl h
 | [], _ :: _, _ => rfl
 | _ :: _, [], _ => rfl
 | a :: l, b :: m, h => by simp [allY, e4z (r := r) (l := l) (m := m) (by simpa using h)]
theorem s5q {α β : Type} {r : α → β → Bool} : ∀ {l : List α} {m : List β} {i : Nat} {a : α} {b : β}, l[i]? = some a → m[i]? = some b → r a b = false → allY r l m = false
 | [], _, i, a, b, h, _, _ => by simp at h
 | _ :: _, [], i, a, b, _, h, _ => by simp at h
 | a :: l, b :: m, 0, x, y, h1, h2, h3 => by simp at h1 h2; subst h1; subst h2; simp [allY, h3]
 | a :: l, b :: m, i + 1, x, y, h1, h2, h3 => by simp [allY, s5q (r := r) (l := l) (m := m) (by simpa using h1) (by simpa using h2) h3]
theorem y6q {α β : Type} {r : α → β → Bool} : ∀ {l : List α} {m : List β}, l.length = m.length → (∀ (i : Nat) (a : α) (b : β), l[i]? = some a → m[i]? = some b → r a b = true) → allY r l m = true
 | [], [], _, _ => rfl
 | [], _ :: _, h, _ => by simp at h
 | _ :: _, [], h, _ => by simp at h
 | a :: l, b :: m, h, hh => by
  simp only [allY, Bool.and_eq_true]
  exact ⟨hh 0 a b rfl rfl, y6q (by simpa using h) fun i x y h1 h2 => hh (i + 1) x y (by simpa using h1) (by simpa using h2)⟩
theorem s2q {α β : Type} {r : α → β → Bool} : ∀ {l : List α} {m : List β}, allY r l m = true → ∀ {i : Nat} {a : α} {b : β}, l[i]? = some a → m[i]? = some b → r a b = true
 | [], _, _, i, a, b, h, _ => by simp at h
 | _ :: _, [], h, i, a, b, _, _ => by simp [allY] at h
 | x :: l, y :: m, h, 0, a, b, h1, h2 => by simp at h1 h2; subst h1; subst h2; simp only [allY, Bool.and_eq_true] at h; exact h.1
 | x :: l, y :: m, h, i + 1, a, b, h1, h2 => by simp only [allY, Bool.and_eq_true] at h; exact s2q h.2 (by simpa using h1) (by simpa using h2)
theorem f5q {α β : Type} {r : α → β → Bool} {l : List α} {m : List β} (h : allY r l m = true) : l.length = m.length := Decidable.byContradiction fun hn => by rw [e4z hn] at h; cases h
def n7q (b : Ob) (y : Int) (la : ByteArray) : Bool := decide (0 ≤ y ∧ y < b.labels.length) && (match b.labels[y.toNat]? with | some lb => seqB la lb | none => false)
def fAt (f : List Int) (z : Int) : Nat := ((f[z.toNat]?).getD 0).toNat
def arrS (a b : Ob) (f : List Int) : Bool := (c4q a == 0) && ((c4q b == 0) && (allY (n7q b) f a.labels && a.pairs.all fun p => mxOf b.pairs (fAt f p.1) (fAt f p.2)))
set_option maxRecDepth 20000 in
theorem x2z (a b : Ob) (f : List Int) (ha1 : a.labels.length < 1000000000) (ha2 : a.pairs.length < 1000000000) (hb1 : b.labels.length < 1000000000) (hb2 : b.pairs.length < 1000000000) (_hfl : f.length < 1000000000) : f7q Tryz.prog 34 [vObj a, vObj b, .t (c0q f)] (Bo (arrS a b f)) := by
 refine b4q Tryz.func34 rfl fun s Q hQ => ?_
 obtain ⟨e, he, hl, h0, h1, h2⟩ : ∃ e : Env, ([vObj a, vObj b, .t (c0q f)] ++ List.replicate (Tryz.f34.ntmps - ([vObj a, vObj b, .t (c0q f)] : List V).length) .junk) = e ∧ e.length = 93 ∧ ev e (.tmp 0) = vObj a ∧ ev e (.tmp 1) = vObj b ∧ ev e (.tmp 2) = .t (c0q f) := ⟨_, rfl, rfl, rfl, rfl, rfl⟩
 rw [he]
 clear he
 have hne1 : ¬ s.next = s.next + 1 := by omega
 refine vsk fun K1 hK1 => ?_
 refine a3q 0 [] ?_
 simp only [bs, ↓vopx, ↓vop, Nat.reduceBEq, a1q, flat, V.cells, h0, h1, wocs, ↓goc, ↓woc, ↓a2q]
 refine hK1 _ _ ?_
 refine vsk fun K2 hK2 => ?_
 refine vsk fun K3 hK3 => ?_
 rcases (show (c4q a == 0) = false ∨ ((c4q a == 0) = true ∧ (c4q b == 0) = false) ∨ ((c4q a == 0) = true ∧ (c4q b == 0) = true ∧ f.length ≠ a.labels.length) ∨ ((c4q a == 0) = true ∧ (c4q b == 0) = true ∧ f.length = a.labels.length) by cases (c4q a == 0) <;> cases (c4q b == 0) <;> simp; omega) with hca | ⟨hca, hcb⟩ | ⟨hca, hcb, hlen⟩ | ⟨hca, hcb, hlen⟩
 ·refine a3q 0 [.pur (Bo (c4q a == 0))] ?_
  simp only [bs, Nat.reduceAdd, ↓vopx, ↓vop, Nat.reduceBEq, a1q, flat, Nat.reduceLT, a8q, b0q, gtmp, hl, wocs, ↓goc, ↓woc, ↓a2q, ↓b8q, ↓e5q, a6q, Tryz.ag29, Tryz.sz29, hne1, hca]
  repeat ((with_reducible refine And.intro ?_ ?_); · exact ⟨Tryz.is33, by simpa only [hca] using k6q a ha1 ha2⟩)
  refine hK3 _ _ ?_
  refine vck fun A B hA hB => ?_
  simp only [b2q, a0q, lpv, Nat.reduceLT, true_implies, reduceCtorEq, false_implies, and_true, hl]
  refine hA ?_
  clear hA hB A B
  refine vsk fun K4 hK4 => ?_
  refine a3q 0 [] ?_
  simp only [bs, ↓vopx, ↓vop, a1q, flat, wocs, ↓goc, ↓woc, ↓a2q]
  refine hK4 _ _ ?_
  refine b1q ?_
  refine hQ _ _ _ (.inr rfl) (a7q ?_ fun n b hn h => k4q s _ _ hn h)
  try simp only [a0q, lpv, hl, Nat.reduceLT]
  rw [show arrS a b f = false from by simp [arrS, hca]]
 ·refine a3q 0 [.pur (Bo (c4q a == 0)), .pur (Bo (c4q b == 0))] ?_
  simp only [bs, Nat.reduceAdd, ↓vopx, ↓vop, Nat.reduceBEq, a1q, flat, Nat.reduceLT, a8q, b0q, gtmp, hl, wocs, ↓goc, ↓woc, ↓a2q, ↓b8q, ↓c8q, ↓e5q, a6q, Tryz.ag29, Tryz.sz29, hne1, hca, hcb]
  repeat ((with_reducible refine And.intro ?_ ?_); · first | exact ⟨Tryz.is33, by simpa only [hca] using k6q a ha1 ha2⟩ | exact ⟨Tryz.is33, by simpa only [hcb] using k6q b hb1 hb2⟩)
  refine hK3 _ _ ?_
  refine vck fun A B hA hB => ?_
  simp only [b2q, a0q, lpv, Nat.reduceLT, true_implies, reduceCtorEq, false_implies, and_true, hl]
  refine hA ?_
  clear hA hB A B
  refine vsk fun K5 hK5 => ?_
  refine a3q 0 [] ?_
  simp only [bs, ↓vopx, ↓vop, a1q, flat, wocs, ↓goc, ↓woc, ↓a2q]
  refine hK5 _ _ ?_
  refine b1q ?_
  refine hQ _ _ _ (.inr rfl) (a7q ?_ fun n b hn h => k4q s _ _ hn h)
  try simp only [a0q, lpv, hl, Nat.reduceLT]
  rw [show arrS a b f = false from by simp [arrS, hcb]]
 ·have hlb : ((f.length : Int) != (a.labels.length : Int)) = true := by simp; omega
  refine a3q 0 [.pur (Bo (c4q a == 0)), .pur (Bo (c4q b == 0))] ?_
  simp only [bs, Nat.reduceAdd, ↓vopx, ↓vop, Nat.reduceBEq, a1q, flat, Nat.reduceLT, a8q, b0q, opII, gtmp, hl, h2, wocs, ↓goc, ↓woc, ↓a2q, ↓b8q, ↓c8q, a6q, Tryz.ag26, Tryz.ag29, Tryz.fd29_0, Tryz.sz26, Tryz.sz29, Tryz.un26, c9q, e2q, hne1, hca, hcb, hlb]
  repeat ((with_reducible refine And.intro ?_ ?_); · first | exact ⟨Tryz.is33, by simpa only [hca] using k6q a ha1 ha2⟩ | exact ⟨Tryz.is33, by simpa only [hcb] using k6q b hb1 hb2⟩)
  refine hK3 _ _ ?_
  refine vck fun A B hA hB => ?_
  simp only [b2q, a0q, lpv, Nat.reduceLT, true_implies, reduceCtorEq, false_implies, and_true, hl]
  refine hA ?_
  clear hA hB A B
  refine vsk fun K6 hK6 => ?_
  refine a3q 0 [] ?_
  simp only [bs, ↓vopx, ↓vop, a1q, flat, wocs, ↓goc, ↓woc, ↓a2q]
  refine hK6 _ _ ?_
  refine b1q ?_
  refine hQ _ _ _ (.inr rfl) (a7q ?_ fun n b hn h => k4q s _ _ hn h)
  try simp only [a0q, lpv, hl, Nat.reduceLT]
  rw [show arrS a b f = false from by simp [arrS, e4z hlen]]
 ·have hlb : ((f.length : Int) != (a.labels.length : Int)) = false := by simp [hlen]
  refine a3q 0 [.pur (Bo (c4q a == 0)), .pur (Bo (c4q b == 0))] ?_
  simp only [bs, Nat.reduceAdd, ↓vopx, ↓vop, Nat.reduceBEq, a1q, flat, Nat.reduceLT, a8q, b0q, opII, gtmp, hl, h2, wocs, ↓goc, ↓woc, ↓a2q, ↓b8q, ↓c8q, a6q, Tryz.ag26, Tryz.ag29, Tryz.fd29_0, Tryz.sz26, Tryz.sz29, Tryz.un26, c9q, e2q, hne1, hca, hcb, hlb]
  repeat ((with_reducible refine And.intro ?_ ?_); · first | exact ⟨Tryz.is33, by simpa only [hca] using k6q a ha1 ha2⟩ | exact ⟨Tryz.is33, by simpa only [hcb] using k6q b hb1 hb2⟩)
  refine hK3 _ _ ?_
  refine vck fun A B hA hB => ?_
  simp only [b2q, a0q, lpv, Nat.reduceLT, true_implies, reduceCtorEq, false_implies, true_and, hl]
  refine hB ?_
  clear hA hB A B
  refine a9q ?_
  refine hK2 _ _ ?_
  refine vsk fun K7 hK7 => ?_
  refine vsk fun K8 hK8 => ?_
  refine a3q 0 [] ?_
  simp only [bs, ↓vopx, ↓vop, a1q, flat, wocs, ↓goc, ↓woc, ↓a2q]
  refine hK8 _ _ ?_
  refine a5q ?_
  refine c2q (fun mm e' s' => ∃ i : Nat, mm = f.length - i ∧ i ≤ f.length ∧ e'.length = 93 ∧ ev e' (.tmp 2) = .t (c0q f) ∧ ev e' (.tmp 3) = .ptr s.next 0 ∧ ev e' (.tmp 4) = .ptr (s.next + 1) 0 ∧ ev e' (.tmp 7) = I i ∧ s' = ((s.add (.box 29 [.t (d1q a.labels), .t (b3q a.pairs)])).add (.box 29 [.t (d1q b.labels), .t (b3q b.pairs)])) ∧ ∀ (j : Nat) (y : Int) (la : ByteArray), j < i → f[j]? = some y → a.labels[j]? = some la → n7q b y la = true) (⟨0, rfl, Nat.zero_le _, ?_⟩) ?_
  ·try simp only [a0q, a4q, Nat.reduceBEq, lpv, hl, h2, Nat.reduceLT, true_and]
   repeat ((with_reducible refine And.intro ?_ ?_); · trivial)
   exact fun j y la h => by omega
  rintro mm e _ ⟨i, rfl, hle_i, hl, hf2, hb3, hb4, h_i, rfl, hall⟩
  refine vsk fun K9 hK9 => ?_
  refine vsk fun K10 hK10 => ?_
  refine a3q 0 [] ?_
  simp only [bs, ↓vopx, ↓vop, Nat.reduceBEq, a1q, Nat.reduceLT, opII, hl, hf2, h_i, wocs, ↓goc, ↓woc, ↓a2q, e2q]
  refine hK10 _ _ ?_
  refine vck fun A B hA hB => ?_
  simp only [b2q, a0q, lpv, Nat.reduceLT, decide_eq_true_eq, decide_eq_false_iff_not, hl]
  refine ⟨fun hc29 => hA ?_, fun hc29 => hB ?_⟩
  ·clear hA hB A B
   refine a9q ?_
   refine hK9 _ _ ?_
   refine vsk fun K11 hK11 => ?_
   refine a5q ?_
   refine vsk fun K12 hK12 => ?_
   have hlt : i < f.length := by omega
   obtain ⟨y, hy⟩ : ∃ y, f[i]? = some y := ⟨_, List.getElem?_eq_getElem hlt⟩
   obtain ⟨la, hla⟩ : ∃ x, a.labels[i]? = some x := ⟨_, List.getElem?_eq_getElem (by omega)⟩
   rcases (show y < 0 ∨ (¬ y < 0 ∧ y ≥ b.labels.length) ∨ (¬ y < 0 ∧ ¬ y ≥ b.labels.length) by omega) with hy1 | ⟨hy1, hy2⟩ | ⟨hy1, hy2⟩
   ·refine c5q Tryz.mixed 29 [0, 0, 1, 1, 0, 0, 0, 0, 1, 1, 0, 1, 0, 0, 0, 0, 0, 1, 0, 1, 1, 0, 1, 0, 0, 1, 1, 1, 1] [] [] 0 (by decide +kernel) (by simp [lpv, hl]) rfl ?_
    simp only [bs, ↓vopx, ↓vop, Nat.reduceBEq, a1q, flat, Nat.reduceLT, a8q, b0q, opII, opSS, gtmp, hl, hf2, h_i, wocs, ↓goc, ↓woc, ↓a2q, ↓e3q, ↓e5q, ↓farC, chn, ↓goq, ↓woq, List.zip_cons_cons, List.zip_nil_right, Tryz.ag3, Tryz.sz3, Tryz.un40, hy, hy1]
    repeat ((with_reducible refine And.intro ?_ ?_); · (with_reducible assumption))
    refine hK12 _ _ ?_
    refine vck fun A B hA hB => ?_
    simp only [b2q, a0q, lpv, Nat.reduceLT, true_implies, reduceCtorEq, false_implies, and_true, hl]
    refine hA ?_
    clear hA hB A B
    refine vsk fun K13 hK13 => ?_
    refine a3q 0 [] ?_
    simp only [bs, ↓vopx, ↓vop, a1q, flat, wocs, ↓goc, ↓woc, ↓a2q]
    refine hK13 _ _ ?_
    refine b1q ?_
    refine hQ _ _ _ (.inr rfl) (a7q ?_ fun n b hn h => k4q s _ _ hn h)
    try simp only [a0q, lpv, hl, Nat.reduceLT]
    rw [show arrS a b f = false from by unfold arrS; rw [s5q hy hla (by unfold n7q; simp; omega)]; simp]
   ·refine c5q Tryz.mixed 29 [0, 0, 1, 1, 0, 0, 0, 0, 1, 1, 0, 1, 0, 0, 0, 0, 0, 1, 0, 1, 1, 0, 1, 0, 0, 1, 1, 1, 1] [] [] 0 (by decide +kernel) (by simp [lpv, hl]) rfl ?_
    simp only [bs, ↓vopx, ↓vop, Nat.reduceBEq, a1q, flat, Nat.reduceLT, a8q, b0q, opII, opSS, gtmp, hl, hf2, hb4, h_i, wocs, ↓goc, ↓woc, ↓a2q, ↓e3q, ↓c8q, ↓e5q, ↓farC, chn, ↓goq, ↓woq, List.zip_cons_cons, List.zip_nil_right, Tryz.ag26, Tryz.ag3, Tryz.fd29_0, Tryz.sz26, Tryz.sz3, Tryz.un26, Tryz.un40, c9q, hy, hy1, hy2]
    repeat ((with_reducible refine And.intro ?_ ?_); · (with_reducible assumption))
    refine hK12 _ _ ?_
    refine vck fun A B hA hB => ?_
    simp only [b2q, a0q, lpv, Nat.reduceLT, true_implies, reduceCtorEq, false_implies, and_true, hl]
    refine hA ?_
    clear hA hB A B
    refine vsk fun K14 hK14 => ?_
    refine a3q 0 [] ?_
    simp only [bs, ↓vopx, ↓vop, a1q, flat, wocs, ↓goc, ↓woc, ↓a2q]
    refine hK14 _ _ ?_
    refine b1q ?_
    refine hQ _ _ _ (.inr rfl) (a7q ?_ fun n b hn h => k4q s _ _ hn h)
    try simp only [a0q, lpv, hl, Nat.reduceLT]
    rw [show arrS a b f = false from by unfold arrS; rw [s5q hy hla (by unfold n7q; simp; omega)]; simp]
   ·have hyr : 0 ≤ y := by omega
    obtain ⟨lb, hlb2⟩ : ∃ x, b.labels[y.toNat]? = some x := ⟨_, List.getElem?_eq_getElem (by omega)⟩
    refine c5q Tryz.mixed 29 [0, 0, 1, 1, 0, 0, 0, 0, 1, 1, 0, 1, 0, 0, 0, 0, 0, 1, 0, 1, 1, 0, 1, 0, 0, 1, 1, 1, 1] [] [] 0 (by decide +kernel) (by simp [lpv, hl]) rfl ?_
    simp only [bs, ↓vopx, ↓vop, Nat.reduceBEq, a1q, flat, Nat.reduceLT, a8q, b0q, opII, opSS, gtmp, hl, hf2, hb3, hb4, h_i, wocs, ↓goc, ↓woc, ↓a2q, ↓e3q, ↓c8q, ↓farC, chn, ↓goq, ↓woq, List.zip_cons_cons, List.zip_nil_right, Tryz.ag26, Tryz.ag3, Tryz.ag9, Tryz.fd29_0, Tryz.sz26, Tryz.sz3, Tryz.sz9, Tryz.un26, Tryz.un40, c9q, hne1, hy, hla, hy1, hy2, hlb2]
    repeat ((with_reducible refine And.intro ?_ ?_); · first | (with_reducible assumption) | omega)
    refine hK12 _ _ ?_
    refine vck fun A B hA hB => ?_
    simp only [b2q, a0q, lpv, Nat.reduceLT, Bool.not_eq_true', Bool.not_eq_false', beq_iff_eq, beq_eq_false_iff_ne, ne_eq, hl]
    refine ⟨fun hc62 => hA ?_, fun hc62 => hB ?_⟩
    ·clear hA hB A B
     refine vsk fun K15 hK15 => ?_
     refine a3q 0 [] ?_
     simp only [bs, ↓vopx, ↓vop, a1q, flat, wocs, ↓goc, ↓woc, ↓a2q]
     refine hK15 _ _ ?_
     refine b1q ?_
     refine hQ _ _ _ (.inr rfl) (a7q ?_ fun n b hn h => k4q s _ _ hn h)
     try simp only [a0q, lpv, hl, Nat.reduceLT]
     rw [show arrS a b f = false from by unfold arrS; rw [s5q hy hla (by unfold n7q; rw [hlb2]; simp [seqB, hc62])]; simp]
    ·clear hA hB A B
     have hgood : n7q b y la = true := by unfold n7q; rw [hlb2]; simp [seqB, hc62]; omega
     refine a9q ?_
     refine hK11 _ _ ?_
     refine a3q 0 [] ?_
     simp only [bs, ↓vopx, ↓vop, Nat.reduceBEq, a1q, flat, Nat.reduceLT, opII, hl, hf2, hb3, hb4, h_i, wocs, ↓goc, ↓woc, ↓a2q]
     repeat ((with_reducible refine And.intro ?_ ?_); · exact ⟨by omega, by omega⟩)
     refine ⟨f.length - (i + 1), by omega, i + 1, rfl, by omega, ?_⟩
     try simp only [a0q, a4q, Nat.reduceBEq, lpv, hl, hf2, hb3, hb4, h_i, if_true, if_false, Nat.reduceEqDiff, Nat.reduceLT, true_and, and_true]
     repeat ((with_reducible refine And.intro ?_ ?_); · trivial)
     intro j x z hj h1 h2
     rcases Nat.lt_succ_iff_lt_or_eq.1 hj with hj | rfl
     ·exact hall j x z hj h1 h2
     ·rw [hy] at h1; rw [hla] at h2; cases h1; cases h2; exact hgood
  ·clear hA hB A B
   have han : i = f.length := by omega
   subst han
   refine c1q ?_
   simp only [a1q, b5q, if_true]
   refine hK7 _ _ ?_
   refine vsk fun K16 hK16 => ?_
   have hmap : allY (n7q b) f a.labels = true := y6q hlen fun j y la h1 h2 => hall j y la (by have := (List.getElem?_eq_some_iff.1 h1).1; omega) h1 h2
   have hoa := k8q.1 (by simpa using hca)
   have hob := k8q.1 (by simpa using hcb)
   refine a3q 0 [.stop] ?_
   simp only [bs, Nat.reduceAdd, ↓vopx, ↓vop, Nat.reduceBEq, a1q, Nat.reduceLT, a8q, b0q, hl, hb4, wocs, ↓goc, ↓woc, ↓a2q, ↓b8q, a6q, Tryz.ag29, Tryz.sz29]
   refine ⟨Tryz.is56, (refRel_ _ b hb1 hb2 hob).mono fun v s2 hv => ?_⟩
   obtain ⟨c, o1, r1, rfl, hR, hF, hk, hnx⟩ := hv
   have hmA : s2.m s.next = some (.box 29 [.t (d1q a.labels), .t (b3q a.pairs)]) := hk _ _ (by simp [Sg.add]; omega) (by simp [Sg.add])
   have hks : Keep s s2 := (((Keep.refl s).add (Nat.le_refl _) _).add (by simp [Sg.add]) _).trans (by simp [Sg.add]; omega) hk
   try simp only [bs, Nat.reduceLT, hl, Hold]
   refine hK16 _ _ ?_
   refine vsk fun K17 hK17 => ?_
   refine vsk fun K18 hK18 => ?_
   refine a3q 0 [] ?_
   simp only [bs, ↓vopx, ↓vop, a1q, flat, wocs, ↓goc, ↓woc, ↓a2q]
   refine hK18 _ _ ?_
   refine a5q ?_
   refine c2q (fun mm e' s' => ∃ i : Nat, mm = a.pairs.length - i ∧ i ≤ a.pairs.length ∧ e'.length = 93 ∧ ev e' (.tmp 2) = .t (c0q f) ∧ ev e' (.tmp 3) = .ptr s.next 0 ∧ ev e' (.tmp 8) = .ptr c 0 ∧ ev e' (.tmp 9) = I i ∧ s2 = s' ∧ (a.pairs.take i).all (fun p => mxOf b.pairs (fAt f p.1) (fAt f p.2)) = true) (⟨0, rfl, Nat.zero_le _, ?_⟩) ?_
   ·try simp only [a0q, a4q, Nat.reduceBEq, lpv, hl, hf2, hb3, Nat.reduceLT, true_and]
    repeat ((with_reducible refine And.intro ?_ ?_); · trivial)
    first | trivial | simp
   rintro mm e _ ⟨i, rfl, hle_i, hl, hf2, hb3, hc8, h_i, rfl, hal2⟩
   refine vsk fun K19 hK19 => ?_
   refine vsk fun K20 hK20 => ?_
   refine a3q 0 [] ?_
   simp only [bs, ↓vopx, ↓vop, Nat.reduceBEq, a1q, Nat.reduceLT, a8q, b0q, opII, hl, hb3, h_i, wocs, ↓goc, ↓woc, ↓a2q, Tryz.ag27, Tryz.fd29_1, Tryz.sz27, Tryz.un27, g2q, hmA]
   refine hK20 _ _ ?_
   refine vck fun A B hA hB => ?_
   simp only [b2q, a0q, lpv, Nat.reduceLT, decide_eq_true_eq, decide_eq_false_iff_not, hl]
   refine ⟨fun hc69 => hA ?_, fun hc69 => hB ?_⟩
   ·clear hA hB A B
    refine a9q ?_
    refine hK19 _ _ ?_
    refine vsk fun K21 hK21 => ?_
    refine a5q ?_
    refine vsk fun K22 hK22 => ?_
    have hlt : i < a.pairs.length := by omega
    obtain ⟨p, hp⟩ : ∃ p, a.pairs[i]? = some p := ⟨_, List.getElem?_eq_getElem hlt⟩
    have g0 := a1x hp
    have g1 := a2x hp
    have hfp := d7q a.pairs
    have hin : (0 ≤ p.1 ∧ p.1 < a.labels.length) ∧ (0 ≤ p.2 ∧ p.2 < a.labels.length) := by have := (List.all_eq_true.1 hoa.inb) p (List.mem_of_getElem? hp); simpa only [inB, Bool.and_eq_true, decide_eq_true_eq] using this
    obtain ⟨x, hx⟩ : ∃ x, f[p.1.toNat]? = some x := ⟨_, List.getElem?_eq_getElem (by omega)⟩
    obtain ⟨y, hy⟩ : ∃ x, f[p.2.toNat]? = some x := ⟨_, List.getElem?_eq_getElem (by omega)⟩
    have hxr : 0 ≤ x ∧ x < b.labels.length := by have := s2q hmap hx (List.getElem?_eq_getElem (show p.1.toNat < a.labels.length by omega)); simp only [n7q, Bool.and_eq_true, decide_eq_true_eq] at this; exact this.1
    have hyr : 0 ≤ y ∧ y < b.labels.length := by have := s2q hmap hy (List.getElem?_eq_getElem (show p.2.toNat < a.labels.length by omega)); simp only [n7q, Bool.and_eq_true, decide_eq_true_eq] at this; exact this.1
    have hfx : fAt f p.1 = x.toNat := by simp [fAt, hx]
    have hfy : fAt f p.2 = y.toNat := by simp [fAt, hy]
    have hi2 : i * 2 < a.pairs.length * 2 := by omega
    have hp1 : p.1.toNat < f.length := by omega
    have hp2 : p.2.toNat < f.length := by omega
    refine c5q Tryz.mixed 19 [0, 0, 0, 1, 0, 1, 0, 1, 1, 1, 0, 0, 1, 0, 1, 0, 1, 1, 1] [.det (Bo (mxOf b.pairs x.toNat y.toNat)) s2] [] 0 (by decide +kernel) (by simp [lpv, hl]) rfl ?_
    simp only [bs, ↓vopx, ↓vop, Nat.reduceBEq, a1q, Nat.reduceLT, a8q, b0q, hl, hf2, hb3, hc8, h_i, wocs, ↓goc, ↓woc, ↓a2q, ↓e3q, ↓b8q, a6q, chn, ↓goq, ↓woq, List.zip_cons_cons, List.zip_nil_right, Tryz.ag27, Tryz.ag3, Tryz.fd29_1, Tryz.fd65_0, Tryz.fd65_1, Tryz.sz27, Tryz.sz3, Tryz.sz65, Tryz.un27, Tryz.un40, hmA, g0, g1, hfp, hx, hy, hin, hi2, hp1, hp2]
    repeat ((with_reducible refine And.intro ?_ ?_); · exact ⟨Tryz.is57, by simpa [hxr, hyr] using refHas_ s2 c _ _ o1 r1 hR x y⟩)
    refine hK22 _ _ ?_
    refine vck fun A B hA hB => ?_
    simp only [b2q, a0q, lpv, Nat.reduceLT, Bool.not_eq_true', Bool.not_eq_false', hl]
    refine ⟨fun hc92 => hA ?_, fun hc92 => hB ?_⟩
    ·clear hA hB A B
     refine vsk fun K23 hK23 => ?_
     refine a3q 0 [] ?_
     simp only [bs, ↓vopx, ↓vop, a1q, flat, wocs, ↓goc, ↓woc, ↓a2q]
     refine hK23 _ _ ?_
     refine b1q ?_
     refine hQ _ _ _ (.inr rfl) (a7q ?_ hks)
     try simp only [a0q, lpv, hl, Nat.reduceLT]
     rw [show arrS a b f = false from by unfold arrS; rw [b0z hp (by rw [hfx, hfy]; exact hc92)]; simp]
    ·clear hA hB A B
     have hgood2 : mxOf b.pairs (fAt f p.1) (fAt f p.2) = true := by rw [hfx, hfy]; exact hc92
     refine a9q ?_
     refine hK21 _ _ ?_
     refine a3q 0 [] ?_
     simp only [bs, ↓vopx, ↓vop, Nat.reduceBEq, a1q, flat, Nat.reduceLT, opII, hl, hf2, hb3, hc8, h_i, wocs, ↓goc, ↓woc, ↓a2q]
     repeat ((with_reducible refine And.intro ?_ ?_); · exact ⟨by omega, by omega⟩)
     refine ⟨a.pairs.length - (i + 1), by omega, i + 1, rfl, by omega, ?_⟩
     try simp only [a0q, a4q, Nat.reduceBEq, lpv, hl, hf2, hb3, hc8, h_i, if_true, if_false, Nat.reduceEqDiff, Nat.reduceLT, true_and, and_true]
     repeat ((with_reducible refine And.intro ?_ ?_); · trivial)
     exact e5z hp hal2 hgood2
   ·clear hA hB A B
    have han2 : i = a.pairs.length := by omega
    rw [han2, List.take_length] at hal2
    refine c1q ?_
    simp only [a1q, b5q, if_true]
    refine hK17 _ _ ?_
    refine vsk fun K24 hK24 => ?_
    refine a3q 0 [] ?_
    simp only [bs, ↓vopx, ↓vop, a1q, flat, wocs, ↓goc, ↓woc, ↓a2q]
    refine hK24 _ _ ?_
    refine b1q ?_
    refine hQ _ _ _ (.inr rfl) (a7q ?_ hks)
    try simp only [a0q, lpv, hl, Nat.reduceLT]
    rw [show arrS a b f = true from by simp [arrS, hca, hcb, hmap, hal2]]
end Go.Proofs

open Go Go.V
namespace Go.Proofs
structure RefU (s : Sg) (p m : Nat) (l : List Int) : Prop where
 hp : s.m p = some (.box 87 [.loc m 0 l.length])
 hm : s.m m = some (.arr 1 3 (l.map TI))
 lp : p < s.next
 lm : m < s.next
theorem RefU.ne {s : Sg} {p m : Nat} {l : List Int} (h : RefU s p m l) : p ≠ m := fun e => by have := h.hp; rw [e, h.hm] at this; cases this
theorem RefU.push {s : Sg} {p m : Nat} {l : List Int} (h : RefU s p m l) (X : Blk) (z : Int) :
 RefU ((((s.add X).del m).add (.arr 1 3 (l.map TI ++ [TI z]))).set p (.box 87 [.loc (s.next + 1) 0 (l.length + 1)])) p (s.next + 1) (l ++ [z]) := by
 have h1 := h.lp
 have h2 := h.lm
 refine ⟨by simp [Sg.set], ?_, by simp [Sg.set, Sg.add, Sg.del]; omega, by simp [Sg.set, Sg.add, Sg.del]⟩
 have e1 : s.next + 1 ≠ p := by omega
 simp [Sg.set, Sg.add, Sg.del, e1]
theorem RefU.keep {s s' : Sg} {p m : Nat} {l : List Int} (h : RefU s p m l) (hk : Keep s s') (hn : s.next ≤ s'.next) : RefU s' p m l :=
 ⟨hk _ _ h.lp h.hp, hk _ _ h.lm h.hm, Nat.lt_of_lt_of_le h.lp hn, Nat.lt_of_lt_of_le h.lm hn⟩
theorem RefU.put {s : Sg} {p m : Nat} {l : List Int} (h : RefU s p m l) {i : Nat} (hi : i < l.length) (x : Int) : RefU (s.set m (.arr 1 3 (setAll (l.map TI) i [TI x]))) p m (l.set i x) := by
 refine ⟨by simp [Sg.set, h.ne, h.hp], ?_, h.lp, h.lm⟩
 rw [h4q _ _ _ (by simpa using hi)]
 simp [Sg.set, List.map_set]
def e8q (n : Nat) : List Int := (List.range n).map fun (i : Nat) => (i : Int)
theorem g4q (n : Nat) : (e8q n).length = n := by simp [e8q]
theorem j7z (n : Nat) : e8q (n + 1) = e8q n ++ [(n : Int)] := by simp [e8q, List.range_succ]
def NewU (s : Sg) (n : Nat) (v : V) (s' : Sg) : Prop := ∃ p m, v = .ptr p 0 ∧ RefU s' p m (e8q n) ∧ s.next ≤ p ∧ s.next ≤ m ∧ Keep s s' ∧ s.next ≤ s'.next
def joinL (l : List Int) (a b : Nat) : List Int := l.map fun z => if z = max (l.getD a 0) (l.getD b 0) then min (l.getD a 0) (l.getD b 0) else z
def y0q (l : List Int) (x y : Int) (i : Nat) : List Int := ((l.take i).map fun z => if z = y then x else z) ++ l.drop i
theorem n1q (l : List Int) (x y : Int) (i : Nat) : (y0q l x y i).length = l.length := by simp [y0q]; omega
theorem o2x {l : List Int} {x y : Int} {i : Nat} (h : i < l.length) : (y0q l x y i)[i]? = l[i]? := by
 unfold y0q
 rw [List.getElem?_append_right (by simp; omega)]
 simp [Nat.min_eq_left (Nat.le_of_lt h)]
theorem v2z {l : List Int} {x y z : Int} {i : Nat} (h : l[i]? = some z) (hz : z ≠ y) : y0q l x y i = y0q l x y (i + 1) := by
 have hi : i < l.length := (List.getElem?_eq_some_iff.1 h).1
 have hz' := (List.getElem?_eq_some_iff.1 h).2
 unfold y0q
 rw [List.take_add_one, h, List.map_append, List.append_assoc]
 congr 1
 rw [List.drop_eq_getElem_cons hi, hz']
 simp [hz]
theorem v3z {l : List Int} {x y : Int} {i : Nat} (h : l[i]? = some y) : (y0q l x y i).set i x = y0q l x y (i + 1) := by
 have hi : i < l.length := (List.getElem?_eq_some_iff.1 h).1
 unfold y0q
 have e1 : ((l.take i).map fun z => if z = y then x else z).length = i := by simp; omega
 rw [List.set_append_right _ _ (by omega), e1, Nat.sub_self, List.drop_eq_getElem_cons hi, List.set_cons_zero, List.take_add_one, h]
 simp
theorem h6x (l : List Int) (x y : Int) : y0q l x y 0 = l := by simp [y0q]
theorem o1x (l : List Int) (a b : Nat) : y0q l (min (l.getD a 0) (l.getD b 0)) (max (l.getD a 0) (l.getD b 0)) l.length = joinL l a b := by simp [y0q, joinL]
theorem o0z {l : List Int} {a b : Nat} (h : l.getD a 0 = l.getD b 0) : joinL l a b = l := by
 unfold joinL
 rw [h, Int.max_self, Int.min_self]
 have : (fun z : Int => if z = l.getD b 0 then l.getD b 0 else z) = id := by funext z; split <;> simp_all
 rw [this, List.map_id]
def v2x (s : Sg) (p m : Nat) (l : List Int) (v : V) (s' : Sg) : Prop := (∃ b, v = Bo b) ∧ RefU s' p m l ∧ (∀ j, j ≠ m → s'.m j = s.m j) ∧ s'.next = s.next
theorem v2x.keep {s0 s : Sg} {p m : Nat} {l : List Int} {v : V} {s' : Sg} (h : v2x s p m l v s') (hm : s0.next ≤ m) (hk : Keep s0 s) : Keep s0 s' := fun n b hn hb => by
 rw [h.2.2.1 n (by omega)]; exact hk n b hn hb
set_option maxRecDepth 20000 in
theorem a7j (s : Sg) (n : Nat) (hn : n ≤ 1000) : f8q Tryz.prog 26 [I n] s (NewU s n) := by
 refine b6q Tryz.func26 rfl fun Q hQ => ?_
 obtain ⟨e, he, hl, h0⟩ : ∃ e : Env, ([I n] ++ List.replicate (Tryz.f26.ntmps - ([I n] : List V).length) .junk) = e ∧ e.length = 24 ∧ ev e (.tmp 0) = I n := ⟨_, rfl, rfl, rfl⟩
 rw [he]
 clear he
 have hmin : min (n : Int) 1000 = n := by omega
 refine vsk fun K1 hK1 => ?_
 refine a3q 0 [] ?_
 simp only [bs, ↓vopx, ↓vop, a1q, flat, wocs, ↓goc, ↓woc, ↓a2q]
 refine hK1 _ _ ?_
 refine vsk fun K2 hK2 => ?_
 refine a3q 0 [] ?_
 simp only [bs, d9q, g7q, ↓vopx, ↓vop, a1q, Nat.reduceLT, V.cells, hl, wocs, ↓goc, ↓woc, ↓a2q, Tryz.st87]
 refine hK2 _ _ ?_
 refine vsk fun K3 hK3 => ?_
 refine vsk fun K4 hK4 => ?_
 refine VW.nameBox s.next 0 1 3 (by omega) (ty := 87) (cs := [.t (.v (.slice none 0 0))]) (by simp [Sg.add]) rfl ?_
 refine a3q 0 [] ?_
 simp only [bs, ↓vopx, ↓vop, a1q, flat, wocs, ↓goc, ↓woc, ↓a2q]
 refine hK4 _ _ ?_
 refine a5q ?_
 refine c2q (fun mm e' s' => ∃ i : Nat, mm = n - i ∧ i ≤ n ∧ e'.length = 24 ∧ ev e' (.tmp 0) = I n ∧ ev e' (.tmp 3) = .ptr s.next 0 ∧ ev e' (.tmp 4) = I i ∧ True ∧ ∃ m, RefU s' s.next m (e8q i) ∧ s.next ≤ m ∧ Keep s s' ∧ s.next ≤ s'.next) (⟨0, rfl, Nat.zero_le _, ?_⟩) ?_
 ·try simp only [a0q, a4q, Nat.reduceBEq, lpv, hl, h0, Nat.reduceLT, true_and]
  repeat ((with_reducible refine And.intro ?_ ?_); · trivial)
  refine ⟨s.next + 1, ⟨by simp [Sg.set, Sg.add, e8q], by simp [Sg.set, Sg.add, e8q], by simp [Sg.set, Sg.add]; omega, by simp [Sg.set, Sg.add]⟩, by omega, (((Keep.refl s).add (Nat.le_refl _) _).add (by simp [Sg.add]) _).set (Nat.le_refl _) _, by simp [Sg.set, Sg.add]; omega⟩
 rintro mm e s1 ⟨i, rfl, hle_i, hl, h0, h3, h_i, hst, ⟨m, hu, hm, hkeep, hnx⟩⟩
 refine vsk fun K5 hK5 => ?_
 refine vsk fun K6 hK6 => ?_
 refine a3q 0 [] ?_
 simp only [bs, ↓vopx, ↓vop, Nat.reduceBEq, a1q, flat, Nat.reduceLT, opII, hl, h0, h_i, wocs, ↓goc, ↓woc, ↓a2q, hmin]
 refine hK6 _ _ ?_
 refine vck fun A B hA hB => ?_
 simp only [b2q, a0q, lpv, Nat.reduceLT, decide_eq_true_eq, decide_eq_false_iff_not, hl]
 refine ⟨fun hc10 => hA ?_, fun hc10 => hB ?_⟩
 ·clear hA hB A B
  refine a9q ?_
  refine hK5 _ _ ?_
  refine vsk fun K7 hK7 => ?_
  refine a5q ?_
  have hlp := hu.lp
  have hlm := hu.lm
  have hne := hu.ne
  have hne1 : ¬ m = s1.next := by omega
  have hne2 : ¬ s.next = s1.next := by omega
  have hne3 : ¬ s.next = s1.next + 1 := by omega
  have hp0 := hu.hp
  have hm0 := hu.hm
  refine a3q 0 [] ?_
  simp only [bs, dstT, srcT, Nat.reduceLeDiff, d9q, g7q, repl, Sg.frzP, f0q, ↓vopx, ↓vop, Nat.reduceBEq, a1q, b5q, Nat.reduceLT, V.cells, a8q, b0q, Sg.frzL, Sg.frz1, hl, h3, h_i, wocs, ↓goc, ↓woc, ↓a2q, Tryz.ag40, Tryz.fd87_0, Tryz.sl40, Tryz.sz40, hp0, hm0, hne, hne1, hne2, hne3, g4q, Nat.div_one]
  repeat ((with_reducible refine And.intro ?_ ?_); · omega)
  refine hK7 _ _ ?_
  refine a3q 0 [] ?_
  simp only [bs, ↓vopx, ↓vop, Nat.reduceBEq, a1q, flat, Nat.reduceLT, opII, hl, h0, h3, h_i, wocs, ↓goc, ↓woc, ↓a2q]
  repeat ((with_reducible refine And.intro ?_ ?_); · exact ⟨by omega, by omega⟩)
  refine ⟨n - (i + 1), by omega, i + 1, rfl, by omega, ?_⟩
  try simp only [a0q, a4q, Nat.reduceBEq, lpv, hl, h0, h3, h_i, if_true, if_false, Nat.reduceEqDiff, Nat.reduceLT, true_and, and_true]
  repeat ((with_reducible refine And.intro ?_ ?_); · trivial)
  refine ⟨s1.next + 1, ?_, by omega, (((hkeep.add hnx _).del hm).add (by simp only [c6q, e9q]; omega) _).set (Nat.le_refl _) _, by omega⟩
  rw [j7z]
  have := hu.push (.arr 1 3 [TI i]) i
  rw [g4q] at this
  exact this
 ·clear hA hB A B
  have han : n = i := by omega
  subst han
  refine c1q ?_
  simp only [a1q, b5q, if_true]
  refine hK3 _ _ ?_
  refine vsk fun K8 hK8 => ?_
  refine a3q 0 [] ?_
  simp only [bs, ↓vopx, ↓vop, Nat.reduceBEq, a1q, Nat.reduceLT, hl, h3, wocs, ↓goc, ↓woc, ↓a2q]
  refine hK8 _ _ ?_
  refine b1q ?_
  refine hQ _ _ _ (.inr rfl) (d6q (v := .ptr s.next 0) ?_ rfl ⟨s.next, m, rfl, hu, Nat.le_refl _, hm, hkeep, hnx⟩)
  try simp only [a0q, lpv, hl, Nat.reduceLT]
set_option maxRecDepth 20000 in
theorem r5x (s : Sg) (p m : Nat) (l : List Int) (hu : RefU s p m l) (hll : l.length ≤ 1000) (a b : Nat) (ha : a < l.length) (hb : b < l.length) : f8q Tryz.prog 27 [.ptr p 0, I a, I b] s (v2x s p m (joinL l a b)) := by
 refine b6q Tryz.func27 rfl fun Q hQ => ?_
 obtain ⟨e, he, hl, h0, h1, h2⟩ : ∃ e : Env, ([.ptr p 0, I a, I b] ++ List.replicate (Tryz.f27.ntmps - ([.ptr p 0, I a, I b] : List V).length) .junk) = e ∧ e.length = 106 ∧ ev e (.tmp 0) = .ptr p 0 ∧ ev e (.tmp 1) = I a ∧ ev e (.tmp 2) = I b := ⟨_, rfl, rfl, rfl, rfl, rfl⟩
 rw [he]
 clear he
 obtain ⟨x, hx⟩ : ∃ x, l[a]? = some x := ⟨_, List.getElem?_eq_getElem ha⟩
 obtain ⟨y, hy⟩ : ∃ x, l[b]? = some x := ⟨_, List.getElem?_eq_getElem hb⟩
 have hgx : l.getD a 0 = x := by rw [List.getD_eq_getElem?_getD, hx]; rfl
 have hgy : l.getD b 0 = y := by rw [List.getD_eq_getElem?_getD, hy]; rfl
 have n1 : ¬ ((a : Int) < 0) := by omega
 have n2 : ¬ ((b : Int) < 0) := by omega
 have n3 : ¬ ((a : Int) ≥ l.length) := by omega
 have n4 : ¬ ((b : Int) ≥ l.length) := by omega
 refine vsk fun K1 hK1 => ?_
 refine a3q 0 [] ?_
 simp only [bs, ↓vopx, ↓vop, a1q, flat, wocs, ↓goc, ↓woc, ↓a2q]
 refine hK1 _ _ ?_
 refine vsk fun K2 hK2 => ?_
 refine vsk fun K3 hK3 => ?_
 have hne := hu.ne
 have hp0 := hu.hp
 have hm0 := hu.hm
 rcases Decidable.em (x = y) with hxy | hxy
 ·have hxe : (x == y) = true := by simp [hxy]
  refine c5q Tryz.mixed 39 [0, 0, 0, 0, 0, 0, 0, 0, 0, 0, 0, 1, 0, 0, 0, 0, 0, 0, 0, 0, 1, 0, 0, 0, 0, 0, 0, 0, 1, 0, 1, 1, 0, 0, 0, 1, 0, 1, 1] [] [] 0 (by decide +kernel) (by simp [lpv, hl]) rfl ?_
  simp only [bs, f0q, ↓vopx, ↓vop, Nat.reduceBEq, a1q, flat, Nat.reduceLT, a8q, b0q, opII, opSS, gtmp, hl, h0, h1, h2, wocs, ↓goc, ↓woc, ↓a2q, ↓e3q, ↓c8q, ↓farC, chn, ↓goq, ↓woq, List.zip_cons_cons, List.zip_nil_right, Tryz.ag40, Tryz.ag3, Tryz.fd87_0, Tryz.sz40, Tryz.sz3, Tryz.un40, n1, n2, n3, n4, hx, hy, hp0, hm0, hxe]
  repeat ((with_reducible refine And.intro ?_ ?_); · omega)
  refine hK3 _ _ ?_
  refine vck fun A B hA hB => ?_
  simp only [b2q, a0q, lpv, Nat.reduceLT, true_implies, reduceCtorEq, false_implies, and_true, hl]
  refine hA ?_
  clear hA hB A B
  refine vsk fun K4 hK4 => ?_
  refine a3q 0 [] ?_
  simp only [bs, ↓vopx, ↓vop, a1q, flat, wocs, ↓goc, ↓woc, ↓a2q]
  refine hK4 _ _ ?_
  refine b1q ?_
  refine hQ _ _ _ (.inr rfl) (d6q (v := Bo false) ?_ rfl ⟨⟨_, rfl⟩, by rw [o0z (by rw [hgx, hgy, hxy])]; exact hu, fun _ _ => rfl, rfl⟩)
  try simp only [a0q, lpv, hl, Nat.reduceLT]
 ·have hxe : (x == y) = false := by simp [hxy]
  refine c5q Tryz.mixed 39 [0, 0, 0, 0, 0, 0, 0, 0, 0, 0, 0, 1, 0, 0, 0, 0, 0, 0, 0, 0, 1, 0, 0, 0, 0, 0, 0, 0, 1, 0, 1, 1, 0, 0, 0, 1, 0, 1, 1] [] [] 0 (by decide +kernel) (by simp [lpv, hl]) rfl ?_
  simp only [bs, f0q, ↓vopx, ↓vop, Nat.reduceBEq, a1q, flat, Nat.reduceLT, a8q, b0q, opII, opSS, gtmp, hl, h0, h1, h2, wocs, ↓goc, ↓woc, ↓a2q, ↓e3q, ↓c8q, ↓farC, chn, ↓goq, ↓woq, List.zip_cons_cons, List.zip_nil_right, Tryz.ag40, Tryz.ag3, Tryz.fd87_0, Tryz.sz40, Tryz.sz3, Tryz.un40, n1, n2, n3, n4, hx, hy, hp0, hm0, hxe]
  repeat ((with_reducible refine And.intro ?_ ?_); · omega)
  refine hK3 _ _ ?_
  refine vck fun A B hA hB => ?_
  simp only [b2q, a0q, lpv, Nat.reduceLT, true_implies, reduceCtorEq, false_implies, true_and, hl]
  refine hB ?_
  clear hA hB A B
  refine a9q ?_
  refine hK2 _ _ ?_
  refine vsk fun K5 hK5 => ?_
  refine c5q Tryz.mixed 31 [0, 0, 0, 1, 0, 1, 1, 0, 0, 0, 1, 0, 1, 1, 0, 0, 0, 0, 1, 0, 1, 1, 0, 0, 0, 1, 0, 1, 1, 0, 0] [] [] 0 (by decide +kernel) (by simp [lpv, hl]) rfl ?_
  simp only [bs, f0q, ↓vopx, ↓vop, Nat.reduceBEq, a1q, Nat.reduceLT, a8q, b0q, hl, h0, h1, h2, wocs, ↓goc, ↓woc, ↓a2q, ↓e3q, chn, ↓goq, ↓woq, List.zip_cons_cons, List.zip_nil_right, Tryz.ag40, Tryz.ag3, Tryz.fd87_0, Tryz.sz40, Tryz.sz3, Tryz.un40, hx, hy, hp0, hm0]
  repeat ((with_reducible refine And.intro ?_ ?_); · omega)
  refine hK5 _ _ ?_
  refine vsk fun K6 hK6 => ?_
  refine vsk fun K7 hK7 => ?_
  refine a3q 0 [] ?_
  simp only [bs, ↓vopx, ↓vop, a1q, flat, wocs, ↓goc, ↓woc, ↓a2q]
  refine hK7 _ _ ?_
  refine a5q ?_
  refine c2q (fun mm e' s' => ∃ i : Nat, mm = l.length - i ∧ i ≤ l.length ∧ e'.length = 106 ∧ ev e' (.tmp 0) = .ptr p 0 ∧ ev e' (.tmp 7) = I (min x y) ∧ ev e' (.tmp 8) = I (max x y) ∧ ev e' (.tmp 9) = I i ∧ True ∧ v2x s p m (y0q l (min x y) (max x y) i) (Bo true) s') (⟨0, rfl, Nat.zero_le _, ?_⟩) ?_
  ·try simp only [a0q, a4q, Nat.reduceBEq, lpv, hl, h0, Nat.reduceLT, true_and]
   repeat ((with_reducible refine And.intro ?_ ?_); · trivial)
   exact ⟨⟨_, rfl⟩, by rw [h6x]; exact hu, fun _ _ => rfl, rfl⟩
  rintro mm e s1 ⟨i, rfl, hle_i, hl, h0, h7, h8, h_i, hst, hj⟩
  refine vsk fun K8 hK8 => ?_
  refine vsk fun K9 hK9 => ?_
  have hp1 := hj.2.1.hp
  refine a3q 0 [] ?_
  simp only [bs, f0q, ↓vopx, ↓vop, Nat.reduceBEq, a1q, Nat.reduceLT, a8q, b0q, opII, hl, h0, h_i, wocs, ↓goc, ↓woc, ↓a2q, Tryz.ag40, Tryz.fd87_0, Tryz.sz40, Tryz.un40, hp1, n1q]
  refine hK9 _ _ ?_
  refine vck fun A B hA hB => ?_
  simp only [b2q, a0q, lpv, Nat.reduceLT, decide_eq_true_eq, decide_eq_false_iff_not, hl]
  refine ⟨fun hc87 => hA ?_, fun hc87 => hB ?_⟩
  ·clear hA hB A B
   refine a9q ?_
   refine hK8 _ _ ?_
   refine vsk fun K10 hK10 => ?_
   refine a5q ?_
   refine vsk fun K11 hK11 => ?_
   have hp1 := hj.2.1.hp
   have hm1 := hj.2.1.hm
   have hlt : i < l.length := by omega
   obtain ⟨z, hz⟩ : ∃ z, l[i]? = some z := ⟨_, List.getElem?_eq_getElem hlt⟩
   have hzk := (o2x (x := min x y) (y := max x y) hlt).trans hz
   refine a3q 0 [] ?_
   simp only [bs, f0q, ↓vopx, ↓vop, Nat.reduceBEq, a1q, Nat.reduceLT, a8q, b0q, opII, hl, h0, h8, h_i, wocs, ↓goc, ↓woc, ↓a2q, Tryz.ag40, Tryz.ag3, Tryz.fd87_0, Tryz.sz40, Tryz.sz3, Tryz.un40, hp1, hm1, n1q, hzk]
   repeat ((with_reducible refine And.intro ?_ ?_); · (with_reducible assumption))
   refine hK11 _ _ ?_
   refine vck fun A B hA hB => ?_
   simp only [b2q, a0q, lpv, Nat.reduceLT, beq_iff_eq, beq_eq_false_iff_ne, ne_eq, hl]
   refine ⟨fun hc98 => hA ?_, fun hc98 => hB ?_⟩
   ·clear hA hB A B
    refine a3q 0 [] ?_
    simp only [bs, f0q, ↓vopx, ↓vop, Nat.reduceBEq, a1q, b5q, Nat.reduceLT, V.cells, a8q, b0q, Sg.frzL, Sg.frz1, hl, h0, h7, h_i, wocs, ↓goc, ↓woc, ↓a2q, Tryz.ag40, Tryz.fd87_0, Tryz.sz40, Tryz.sz3, Tryz.un40, hp1, hm1, n1q]
    repeat ((with_reducible refine And.intro ?_ ?_); · first | (with_reducible assumption) | omega)
    refine hK10 _ _ ?_
    refine a3q 0 [] ?_
    simp only [bs, ↓vopx, ↓vop, Nat.reduceBEq, a1q, flat, Nat.reduceLT, opII, hl, h0, h7, h8, h_i, wocs, ↓goc, ↓woc, ↓a2q]
    repeat ((with_reducible refine And.intro ?_ ?_); · exact ⟨by omega, by omega⟩)
    refine ⟨l.length - (i + 1), by omega, i + 1, rfl, by omega, ?_⟩
    try simp only [a0q, a4q, Nat.reduceBEq, lpv, hl, h0, h7, h8, h_i, if_true, if_false, Nat.reduceEqDiff, Nat.reduceLT, true_and, and_true]
    repeat ((with_reducible refine And.intro ?_ ?_); · trivial)
    first
    | exact ⟨⟨_, rfl⟩, by rw [← v2z hz hc98]; exact hj.2.1, hj.2.2⟩
    | (subst hc98; exact ⟨⟨_, rfl⟩, by rw [← v3z hz]; exact hj.2.1.put (by rw [n1q]; omega) _, fun j hj1 => by simp [Sg.set, hj1, hj.2.2.1 j hj1], hj.2.2.2⟩)
   ·clear hA hB A B
    refine a9q ?_
    refine hK10 _ _ ?_
    refine a3q 0 [] ?_
    simp only [bs, ↓vopx, ↓vop, Nat.reduceBEq, a1q, flat, Nat.reduceLT, opII, hl, h0, h7, h8, h_i, wocs, ↓goc, ↓woc, ↓a2q]
    repeat ((with_reducible refine And.intro ?_ ?_); · exact ⟨by omega, by omega⟩)
    refine ⟨l.length - (i + 1), by omega, i + 1, rfl, by omega, ?_⟩
    try simp only [a0q, a4q, Nat.reduceBEq, lpv, hl, h0, h7, h8, h_i, if_true, if_false, Nat.reduceEqDiff, Nat.reduceLT, true_and, and_true]
    repeat ((with_reducible refine And.intro ?_ ?_); · trivial)
    first
    | exact ⟨⟨_, rfl⟩, by rw [← v2z hz hc98]; exact hj.2.1, hj.2.2⟩
    | (subst hc98; exact ⟨⟨_, rfl⟩, by rw [← v3z hz]; exact hj.2.1.put (by rw [n1q]; omega) _, fun j hj1 => by simp [Sg.set, hj1, hj.2.2.1 j hj1], hj.2.2.2⟩)
  ·clear hA hB A B
   have han : i = l.length := by omega
   rw [han, ← hgx, ← hgy, o1x] at hj
   refine c1q ?_
   simp only [a1q, b5q, if_true]
   refine hK6 _ _ ?_
   refine vsk fun K12 hK12 => ?_
   refine a3q 0 [] ?_
   simp only [bs, ↓vopx, ↓vop, a1q, flat, wocs, ↓goc, ↓woc, ↓a2q]
   refine hK12 _ _ ?_
   refine b1q ?_
   refine hQ _ _ _ (.inr rfl) (d6q (v := Bo true) ?_ rfl ⟨⟨_, rfl⟩, hj.2⟩)
   try simp only [a0q, lpv, hl, Nat.reduceLT]
end Go.Proofs

open Go Go.V
namespace Go.Proofs
def p3z (s0 s : Sg) (m : Nat) (l : List Int) : Prop := s.m m = some (.arr 1 3 (l.map TI)) ∧ s0.next ≤ m ∧ m < s.next
theorem p3z.push {s0 s1 : Sg} {m : Nat} {l : List Int} (_h : p3z s0 s1 m l) (hn : s0.next ≤ s1.next) (X : Blk) (z : Int) :
 p3z s0 (((s1.add X).del m).add (.arr 1 3 (l.map TI ++ [TI z]))) (s1.next + 1) (l ++ [z]) := by
 refine ⟨?_, by omega, by simp [Sg.add, Sg.del]⟩
 simp [Sg.add, Sg.del]
theorem p3z.keep {s0 s1 : Sg} {m : Nat} {l : List Int} (h : p3z s0 s1 m l) (hk : Keep s0 s1) (hn : s0.next ≤ s1.next) (X Y : Blk) : Keep s0 (((s1.add X).del m).add Y) :=
 ((hk.add hn X).del h.2.1).add (by simp only [c6q, e9q]; omega) Y
theorem p3z.new (s : Sg) : p3z s (s.add (.arr 1 3 [])) s.next [] := ⟨by simp [Sg.add], Nat.le_refl _, by simp [Sg.add]⟩
def wfU (l : List Int) : Prop := ∀ (i : Nat) (z : Int), l[i]? = some z → 0 ≤ z ∧ z ≤ i
def plS (l : List Int) : Nat → List Int × Nat
 | 0 => ([], 0)
 | k + 1 => if l.getD k 0 = k then ((plS l k).1 ++ [((plS l k).2 : Int)], (plS l k).2 + 1) else ((plS l k).1 ++ [(plS l k).1.getD (l.getD k 0).toNat 0], (plS l k).2)
theorem e6q (l : List Int) : ∀ k, (plS l k).1.length = k
 | 0 => rfl
 | k + 1 => by unfold plS; split <;> simp [e6q l k]
theorem q3x (l : List Int) : ∀ k, (plS l k).2 ≤ k
 | 0 => Nat.le_refl _
 | k + 1 => by have := q3x l k; unfold plS; split <;> simp <;> omega
def plO (l : List Int) (i : Nat) : List Int := (plS l i).1 ++ List.replicate (l.length - i) 0
theorem o5q {l : List Int} {i : Nat} (h : i ≤ l.length) : (plO l i).length = l.length := by simp [plO, e6q]; omega
theorem q2x {l : List Int} {i : Nat} (h : i < l.length) (v : Int) : (plO l i).set i v = (plS l i).1 ++ v :: List.replicate (l.length - (i + 1)) 0 := by
 unfold plO
 rw [List.set_append_right _ _ (by rw [e6q]; omega), e6q, Nat.sub_self, show l.length - i = (l.length - (i + 1)) + 1 by omega, List.replicate_succ, List.set_cons_zero]
theorem g1z {l : List Int} {i : Nat} (h : i < l.length) (hz : l.getD i 0 = i) : (plO l i).set i (plS l i).2 = plO l (i + 1) := by
 rw [q2x h]
 show _ = (if l.getD i 0 = i then _ else _ : List Int × Nat).1 ++ _
 rw [if_pos hz]; simp
theorem z6q {l : List Int} {i : Nat} (h : i < l.length) (hz : l.getD i 0 ≠ i) : (plO l i).set i ((plS l i).1.getD (l.getD i 0).toNat 0) = plO l (i + 1) := by
 rw [q2x h]
 show _ = (if l.getD i 0 = i then _ else _ : List Int × Nat).1 ++ _
 rw [if_neg hz]; simp
theorem v1q {l : List Int} {i : Nat} (hz : l.getD i 0 = i) : (plS l (i + 1)).2 = (plS l i).2 + 1 := by
 show (if l.getD i 0 = i then _ else _ : List Int × Nat).2 = _
 rw [if_pos hz]
theorem r5q {l : List Int} {i : Nat} (hz : l.getD i 0 ≠ i) : (plS l (i + 1)).2 = (plS l i).2 := by
 show (if l.getD i 0 = i then _ else _ : List Int × Nat).2 = _
 rw [if_neg hz]
theorem q1x {l : List Int} {i j : Nat} (h : j < i) : (plO l i)[j]? = some ((plS l i).1.getD j 0) := by
 have hj : j < (plS l i).1.length := by rw [e6q]; exact h
 unfold plO
 rw [List.getElem?_append_left hj, List.getD_eq_getElem?_getD, List.getElem?_eq_getElem hj]; rfl
def c3q (l : List Int) : List Int := (plS l l.length).1
theorem q0x (l : List Int) : plO l l.length = c3q l := by simp [plO, c3q]
theorem e4x (l : List Int) : plO l 0 = List.replicate l.length 0 := by simp [plO, plS]
set_option maxRecDepth 20000 in
theorem i0x (s : Sg) (p m : Nat) (l : List Int) (hu : RefU s p m l) (hll : l.length ≤ 1000) (hwf : wfU l) : k0q Tryz.prog 47 [.ptr p 0] s (.t (c0q (c3q l))) (s) := by
 refine d0q Tryz.func47 rfl fun Q hQ => ?_
 obtain ⟨e, he, hl, h0⟩ : ∃ e : Env, ([.ptr p 0] ++ List.replicate (Tryz.f47.ntmps - ([.ptr p 0] : List V).length) .junk) = e ∧ e.length = 50 ∧ ev e (.tmp 0) = .ptr p 0 := ⟨_, rfl, rfl, rfl⟩
 rw [he]
 clear he
 have hp0 := hu.hp
 have hm0 := hu.hm
 have hlp := hu.lp
 have hlm := hu.lm
 have hnp : ¬ p = s.next := by omega
 have hnm : ¬ m = s.next := by omega
 have hrep : repl [TI 0] l.length = (List.replicate l.length (0 : Int)).map TI := by rw [l9q]; simp
 refine vsk fun K1 hK1 => ?_
 refine a3q 0 [] ?_
 simp only [bs, ↓vopx, ↓vop, a1q, flat, wocs, ↓goc, ↓woc, ↓a2q]
 refine hK1 _ _ ?_
 refine vsk fun K2 hK2 => ?_
 refine a3q 0 [] ?_
 simp only [bs, f0q, ↓vopx, ↓vop, Nat.reduceBEq, a1q, Nat.reduceLT, a8q, b0q, hl, h0, wocs, ↓goc, ↓woc, ↓a2q, Tryz.ag40, Tryz.fd87_0, Tryz.sl40, Tryz.sz40, Tryz.un40, hp0]
 repeat ((with_reducible refine And.intro ?_ ?_); · omega)
 refine hK2 _ _ ?_
 refine vsk fun K3 hK3 => ?_
 refine a3q 0 [] ?_
 simp only [bs, ↓vopx, ↓vop, a1q, flat, wocs, ↓goc, ↓woc, ↓a2q]
 refine hK3 _ _ ?_
 refine vsk fun K4 hK4 => ?_
 refine vsk fun K5 hK5 => ?_
 refine a3q 0 [] ?_
 simp only [bs, ↓vopx, ↓vop, a1q, flat, wocs, ↓goc, ↓woc, ↓a2q]
 refine hK5 _ _ ?_
 refine a5q ?_
 refine c2q (fun mm e' s' => ∃ i : Nat, mm = l.length - i ∧ i ≤ l.length ∧ e'.length = 50 ∧ ev e' (.tmp 0) = .ptr p 0 ∧ ev e' (.tmp 3) = .loc s.next 0 l.length ∧ ev e' (.tmp 4) = I (plS l i).2 ∧ ev e' (.tmp 5) = I i ∧ s' = s.add (.arr 1 3 ((plO l i).map TI)) ∧ True) (⟨0, rfl, Nat.zero_le _, ?_⟩) ?_
 ·try simp only [a0q, a4q, Nat.reduceBEq, lpv, hl, h0, Nat.reduceLT, true_and, and_true]
  repeat ((with_reducible refine And.intro ?_ ?_); · trivial)
  rw [e4x, ← hrep]
 rintro mm e _ ⟨i, rfl, hle_i, hl, h0, h3, h4, h_i, rfl, _⟩
 refine vsk fun K6 hK6 => ?_
 refine vsk fun K7 hK7 => ?_
 refine a3q 0 [] ?_
 simp only [bs, f0q, ↓vopx, ↓vop, Nat.reduceBEq, a1q, Nat.reduceLT, a8q, b0q, opII, hl, h0, h_i, wocs, ↓goc, ↓woc, ↓a2q, Tryz.ag40, Tryz.fd87_0, Tryz.sz40, Tryz.un40, hp0, hnp]
 refine hK7 _ _ ?_
 refine vck fun A B hA hB => ?_
 simp only [b2q, a0q, lpv, Nat.reduceLT, decide_eq_true_eq, decide_eq_false_iff_not, hl]
 refine ⟨fun hc18 => hA ?_, fun hc18 => hB ?_⟩
 ·clear hA hB A B
  refine a9q ?_
  refine hK6 _ _ ?_
  refine vsk fun K8 hK8 => ?_
  refine a5q ?_
  refine vsk fun K9 hK9 => ?_
  have hlt : i < l.length := by omega
  obtain ⟨z, hz⟩ : ∃ z, l[i]? = some z := ⟨_, List.getElem?_eq_getElem hlt⟩
  have hzb := hwf i z hz
  have hgz : l.getD i 0 = z := by rw [List.getD_eq_getElem?_getD, hz]; rfl
  have hple := q3x l i
  refine a3q 0 [] ?_
  simp only [bs, f0q, ↓vopx, ↓vop, Nat.reduceBEq, a1q, Nat.reduceLT, a8q, b0q, opII, hl, h0, h_i, wocs, ↓goc, ↓woc, ↓a2q, Tryz.ag40, Tryz.ag3, Tryz.fd87_0, Tryz.sz40, Tryz.sz3, Tryz.un40, hp0, hm0, hnp, hnm, hz]
  repeat ((with_reducible refine And.intro ?_ ?_); · (with_reducible assumption))
  refine hK9 _ _ ?_
  refine vck fun A B hA hB => ?_
  simp only [b2q, a0q, lpv, Nat.reduceLT, beq_iff_eq, beq_eq_false_iff_ne, ne_eq, hl]
  refine ⟨fun hc29 => hA ?_, fun hc29 => hB ?_⟩
  ·clear hA hB A B
   refine vsk fun K10 hK10 => ?_
   have hlo := o5q (l := l) (i := i) (by omega)
   refine a3q 0 [] ?_
   simp only [bs, ↓vopx, ↓vop, Nat.reduceBEq, a1q, Nat.reduceLT, V.cells, Sg.frzL, Sg.frz1, hl, h3, h4, h_i, wocs, ↓goc, ↓woc, ↓a2q, Tryz.sz3, Tryz.un40, hlo]
   repeat ((with_reducible refine And.intro ?_ ?_); · first | (with_reducible assumption) | omega)
   refine hK10 _ _ ?_
   refine a3q 0 [] ?_
   simp only [bs, ↓vopx, ↓vop, Nat.reduceBEq, a1q, b5q, flat, Nat.reduceLT, opII, hl, h4, wocs, ↓goc, ↓woc, ↓a2q]
   repeat ((with_reducible refine And.intro ?_ ?_); · exact ⟨by omega, by omega⟩)
   refine hK8 _ _ ?_
   refine a3q 0 [] ?_
   simp only [bs, ↓vopx, ↓vop, Nat.reduceBEq, a1q, flat, Nat.reduceLT, opII, hl, h0, h3, h_i, wocs, ↓goc, ↓woc, ↓a2q]
   repeat ((with_reducible refine And.intro ?_ ?_); · exact ⟨by omega, by omega⟩)
   refine ⟨l.length - (i + 1), by omega, i + 1, rfl, by omega, ?_⟩
   try simp only [a0q, a4q, Nat.reduceBEq, lpv, hl, h0, h3, h4, h_i, if_true, if_false, Nat.reduceEqDiff, Nat.reduceLT, true_and, and_true]
   rw [h0z, h4q _ _ _ (by rw [List.length_map, o5q]; omega; omega), ← List.map_set]
   first
   | (rw [g1z hlt (by rw [hgz]; exact hc29), v1q (by rw [hgz]; exact hc29)]; exact ⟨by push_cast; rfl, by push_cast; rfl, rfl⟩)
   | (rw [← z6q hlt (by rw [hgz]; exact hc29), r5q (by rw [hgz]; exact hc29), hgz]; exact ⟨rfl, by push_cast; rfl, rfl⟩)
  ·clear hA hB A B
   have hzi : z.toNat < i := by omega
   have hpg := q1x (l := l) hzi
   have hlo := o5q (l := l) (i := i) (by omega)
   refine a3q 0 [] ?_
   simp only [bs, f0q, ↓vopx, ↓vop, Nat.reduceBEq, a1q, b5q, Nat.reduceLT, V.cells, a8q, b0q, Sg.frzL, Sg.frz1, hl, h0, h3, h_i, wocs, ↓goc, ↓woc, ↓a2q, Tryz.ag40, Tryz.ag3, Tryz.fd87_0, Tryz.sz40, Tryz.sz3, Tryz.un40, hp0, hm0, hnp, hnm, hz, hpg, hlo]
   repeat ((with_reducible refine And.intro ?_ ?_); · first | (with_reducible assumption) | omega)
   refine hK8 _ _ ?_
   refine a3q 0 [] ?_
   simp only [bs, ↓vopx, ↓vop, Nat.reduceBEq, a1q, flat, Nat.reduceLT, opII, hl, h0, h3, h4, h_i, wocs, ↓goc, ↓woc, ↓a2q]
   repeat ((with_reducible refine And.intro ?_ ?_); · exact ⟨by omega, by omega⟩)
   refine ⟨l.length - (i + 1), by omega, i + 1, rfl, by omega, ?_⟩
   try simp only [a0q, a4q, Nat.reduceBEq, lpv, hl, h0, h3, h4, h_i, if_true, if_false, Nat.reduceEqDiff, Nat.reduceLT, true_and, and_true]
   rw [h0z, h4q _ _ _ (by rw [List.length_map, o5q]; omega; omega), ← List.map_set]
   first
   | (rw [g1z hlt (by rw [hgz]; exact hc29), v1q (by rw [hgz]; exact hc29)]; exact ⟨by push_cast; rfl, by push_cast; rfl, rfl⟩)
   | (rw [← z6q hlt (by rw [hgz]; exact hc29), r5q (by rw [hgz]; exact hc29), hgz]; exact ⟨rfl, by push_cast; rfl, rfl⟩)
 ·clear hA hB A B
  have han : i = l.length := by omega
  subst han
  refine c1q ?_
  simp only [a1q, b5q, if_true]
  refine hK4 _ _ ?_
  refine vsk fun K11 hK11 => ?_
  refine a3q 0 [] ?_
  simp only [bs, ↓vopx, ↓vop, Nat.reduceBEq, a1q, Nat.reduceLT, hl, h3, wocs, ↓goc, ↓woc, ↓a2q]
  refine hK11 _ _ ?_
  refine b1q ?_
  refine hQ _ _ _ (.inr rfl) (Done.toS (f0z (n := s.next) (len := l.length) (cs := (c3q l).map TI) (el := 3) ?_ (by simp [Sg.add, q0x]) ?_ (Nat.le_refl _) ((Keep.refl s).add (Nat.le_refl _) _)))
  try simp only [a0q, lpv, hl, Nat.reduceLT]
  simp [c3q, e6q]
set_option maxRecDepth 20000 in
theorem a3j (s : Sg) (ls : List ByteArray) (hls : ls.length ≤ 1000) (p n : Nat) (M : Mx) (o : Nat) (r : Nat → Nat) (h : RefR s p n M o r) : k0q Tryz.prog 49 [.t (d1q ls), .ptr p 0] s (vObj ⟨ls, g0q n (cloK M n)⟩) (s) := by
 refine d0q Tryz.func49 rfl fun Q hQ => ?_
 obtain ⟨e, he, hl, h0, h1⟩ : ∃ e : Env, ([.t (d1q ls), .ptr p 0] ++ List.replicate (Tryz.f49.ntmps - ([.t (d1q ls), .ptr p 0] : List V).length) .junk) = e ∧ e.length = 11 ∧ ev e (.tmp 0) = .t (d1q ls) ∧ ev e (.tmp 1) = .ptr p 0 := ⟨_, rfl, rfl, rfl, rfl⟩
 rw [he]
 clear he
 refine vsk fun K1 hK1 => ?_
 refine a3q 0 [] ?_
 simp only [bs, ↓vopx, ↓vop, a1q, wocs, ↓goc, ↓woc, ↓a2q, Tryz.zv29]
 refine hK1 _ _ ?_
 refine vsk fun K2 hK2 => ?_
 have hsk : Keep s (s.add (.box 29 [.t (.v (.slice none 0 0)), .t (.v (.slice none 0 0))])) := (Keep.refl s).add (Nat.le_refl _) _
 have hR0 := h.keep hsk (by simp [Sg.add])
 refine a3q 1 [.stop, .stop] ?_
 simp only [bs, dstT, srcT, d9q, ↓vopx, ↓vop, Nat.reduceBEq, a1q, flat, Nat.reduceLT, V.cells, hl, h0, h1, wocs, ↓goc, ↓woc, ↓e3q, ↓b8q, a6q, ↓m2q, Tryz.sl26, Nat.div_one]
 refine ⟨by omega, by omega, Tryz.is69, (j8z _ p n M o r hR0).mono fun v s2 hv => ?_⟩
 obtain ⟨c, o1, r1, rfl, hR, hF, hk, hnx⟩ := hv
 try simp only [bs, Nat.reduceBEq, Nat.reduceLT, hl, h0, h1, Tryz.st29, Tryz.sz29, Hold]
 refine ⟨Tryz.is70, (r3x s2 c n _ o1 r1 hR).v ?_⟩
 have hb2 := hk _ _ (by simp [Sg.add]) (p5q s (.box 29 [.t (.v (.slice none 0 0)), .t (.v (.slice none 0 0))]))
 try simp only [bs, Nat.reduceLeDiff, Nat.reduceAdd, g7q, Sg.frzL, Sg.frz1]
 simp only [hb2, o7z, List.length_cons, List.length_nil, Nat.le_refl, true_and, Nat.reduceAdd, Nat.zero_add]
 refine hK2 _ _ ?_
 refine b1q ?_
 refine hQ _ _ _ (.inr rfl) (Done.toS ?_)
 refine u8q (vs := [vObj ⟨ls, g0q n (cloK M n)⟩]) ?_ rfl (by simp [pack, nm, nm2, nm1, nm0]) ((hsk.trans (by simp [Sg.add]) hk).set (Nat.le_refl _) _)
 show vres Tryz.prog _ _ [.cell 4 29] = _
 simp only [j6q, m1q, a0q, a4q, Nat.reduceBEq, hl, Tryz.sz29, Tryz.ag29, a8q, b9q, b0q, if_true, Nat.reduceLT, List.drop_zero, List.take_succ_cons, List.take_zero, List.length_cons, List.length_nil, Nat.zero_add, Nat.reduceAdd]
end Go.Proofs

open Go Go.V
namespace Go.Proofs
theorem f4q {a b : Ob} {f : List Int} : arrS a b f = true ↔ IsOb a ∧ IsOb b ∧ allY (n7q b) f a.labels = true ∧ ∀ p ∈ a.pairs, mxOf b.pairs (fAt f p.1) (fAt f p.2) = true := by
 unfold arrS
 simp only [Bool.and_eq_true, beq_iff_eq, k8q, List.all_eq_true]
theorem f0x {a b : ByteArray} : seqB a b = true ↔ a.toList = b.toList := by unfold seqB; exact beq_iff_eq
theorem v0q {b : Ob} {y : Int} {la : ByteArray} : n7q b y la = true ↔ ∃ lb, (0 ≤ y ∧ y < b.labels.length) ∧ b.labels[y.toNat]? = some lb ∧ la.toList = lb.toList := by
 unfold n7q
 constructor
 ·intro h
  simp only [Bool.and_eq_true, decide_eq_true_eq] at h
  obtain ⟨h1, h2⟩ := h
  cases hb : b.labels[y.toNat]? with
  | none => rw [hb] at h2; cases h2
  | some lb => rw [hb] at h2; exact ⟨lb, h1, rfl, f0x.1 h2⟩
 ·rintro ⟨lb, h1, h2, h3⟩
  rw [h2]
  simp only [Bool.and_eq_true, decide_eq_true_eq]
  exact ⟨h1, f0x.2 h3⟩
theorem o9x {a b : Ob} {f : List Int} (h : allY (n7q b) f a.labels = true) {i : Nat} {y : Int} (hy : f[i]? = some y) : 0 ≤ y ∧ y < b.labels.length := by
 have hl := f5q h
 have hi : i < a.labels.length := by rw [← hl]; exact (List.getElem?_eq_some_iff.1 hy).1
 obtain ⟨lb, h1, _⟩ := v0q.1 (s2q h hy (List.getElem?_eq_getElem hi))
 exact h1
theorem t1q {a b : Ob} {f : List Int} (h : allY (n7q b) f a.labels = true) : ∀ y ∈ f, 0 ≤ y ∧ y < b.labels.length := fun y hy => by
 obtain ⟨i, hi⟩ := List.getElem?_of_mem hy
 exact o9x h hi
theorem s9z {f g : List Int} (h : ∀ y ∈ f, 0 ≤ y ∧ y < g.length) : thenS f g = (f.map fun y => g.getD y.toNat 0, true) := by
 unfold thenS
 rw [if_pos]
 simp only [List.all_eq_true, Bool.and_eq_true, decide_eq_true_eq]
 exact h
theorem c7x {a b : Ob} {f : List Int} (h : arrS a b f = true) {x y : Nat} (hm : mxOf a.pairs x y = true) : ∃ u v : Nat, f[x]? = some (u : Int) ∧ f[y]? = some (v : Int) ∧ mxOf b.pairs u v = true := by
 obtain ⟨ha, hb, hmap, hp⟩ := f4q.1 h
 have hl := f5q hmap
 simp only [mxOf, List.any_eq_true, Bool.and_eq_true, beq_iff_eq] at hm
 obtain ⟨p, hpm, rfl, rfl⟩ := hm
 have hin := (List.all_eq_true.1 ha.inb) p hpm
 simp only [inB, Bool.and_eq_true, decide_eq_true_eq] at hin
 obtain ⟨u, hu⟩ : ∃ u, f[p.1.toNat]? = some u := ⟨_, List.getElem?_eq_getElem (by omega)⟩
 obtain ⟨v, hv⟩ : ∃ v, f[p.2.toNat]? = some v := ⟨_, List.getElem?_eq_getElem (by omega)⟩
 have hu0 := o9x hmap hu
 have hv0 := o9x hmap hv
 have := hp p hpm
 simp only [fAt, hu, hv, Option.getD_some] at this
 exact ⟨u.toNat, v.toNat, by rw [hu]; congr 1; omega, by rw [hv]; congr 1; omega, this⟩
theorem c6x {a b : Ob} {f : List Int} (ha : IsOb a) (hb : IsOb b) (hl : f.length = a.labels.length) (hlab : ∀ (i : Nat) (y : Int) (la : ByteArray), f[i]? = some y → a.labels[i]? = some la → ∃ lb, (0 ≤ y ∧ y < b.labels.length) ∧ b.labels[y.toNat]? = some lb ∧ la.toList = lb.toList)
 (hp : ∀ (x y : Nat), mxOf a.pairs x y = true → ∃ u v : Nat, f[x]? = some (u : Int) ∧ f[y]? = some (v : Int) ∧ mxOf b.pairs u v = true) : arrS a b f = true := by
 refine f4q.2 ⟨ha, hb, y6q hl fun i y la h1 h2 => v0q.2 (hlab i y la h1 h2), fun p hpm => ?_⟩
 obtain ⟨u, v, h1, h2, h3⟩ := hp p.1.toNat p.2.toNat (by simp only [mxOf, List.any_eq_true, Bool.and_eq_true, beq_iff_eq]; exact ⟨p, hpm, rfl, rfl⟩)
 simp [fAt, h1, h2, h3]
theorem b9j {a b c : Ob} {f g : List Int} (h : arrS a b f = true) (k : arrS b c g = true) : arrS a c (f.map fun y => g.getD y.toNat 0) = true := by
 obtain ⟨ha, hb, hmap, _⟩ := f4q.1 h
 obtain ⟨_, hc, hmap2, _⟩ := f4q.1 k
 refine c6x ha hc (by rw [List.length_map]; exact f5q hmap) (fun i z la hz hla => ?_) fun x y hm => ?_
 ·rw [List.getElem?_map] at hz
  cases hy : f[i]? with
  | none => rw [hy] at hz; cases hz
  | some y =>
   rw [hy] at hz
   simp only [Option.map_some, Option.some.injEq] at hz
   obtain ⟨lb, h1, h2, h3⟩ := v0q.1 (s2q hmap hy hla)
   have hgl : y.toNat < g.length := by rw [f5q hmap2]; omega
   rw [List.getD_eq_getElem?_getD, List.getElem?_eq_getElem hgl, Option.getD_some] at hz
   obtain ⟨lc, k1, k2, k3⟩ := v0q.1 (s2q hmap2 (List.getElem?_eq_getElem hgl) h2)
   rw [hz] at k1 k2
   exact ⟨lc, k1, k2, h3.trans k3⟩
 ·obtain ⟨u, v, h1, h2, h3⟩ := c7x h hm
  obtain ⟨u', v', k1, k2, k3⟩ := c7x k h3
  refine ⟨u', v', ?_, ?_, k3⟩
  ·rw [List.getElem?_map, h1]; simp [List.getD_eq_getElem?_getD, k1]
  ·rw [List.getElem?_map, h2]; simp [List.getD_eq_getElem?_getD, k2]
theorem n6x {n : Nat} (h : n ≤ 40) : idS (n : Int) = (List.range n).map fun (j : Nat) => (j : Int) := by
 have : idN (n : Int) = n := by unfold idN; omega
 unfold idS; rw [this]
theorem a3x {n i : Nat} (h : n ≤ 40) (hi : i < n) : (idS (n : Int))[i]? = some (i : Int) := by
 rw [n6x h, List.getElem?_map, List.getElem?_range hi]; rfl
theorem idS_len {n : Nat} (h : n ≤ 40) : (idS (n : Int)).length = n := by rw [n6x h]; simp
theorem id_arr {a : Ob} (h : IsOb a) : arrS a a (idS (a.labels.length : Int)) = true := by
 have hl := h.le
 refine c6x h h (idS_len hl) (fun i y la hy hla => ?_) fun x y hm => ?_
 ·have hi := (List.getElem?_eq_some_iff.1 hla).1
  rw [a3x hl hi] at hy
  cases hy
  exact ⟨la, by omega, by simpa using hla, rfl⟩
 ·have hw := t2q (fun p hp => (List.all_eq_true.1 h.inb) p hp) x y hm
  exact ⟨x, y, a3x hl hw.1, a3x hl hw.2, hm⟩
end Go.Proofs

open Go Go.V
namespace Go.Proofs
def shP (n : Nat) (p : Int × Int) : Int × Int := (p.1 + n, p.2 + n)
def k7q (b c : Ob) : Ob := ⟨b.labels ++ c.labels, b.pairs ++ c.pairs.map (shP b.labels.length)⟩
theorem c2z {l : List (Int × Int)} : i9q l = true ↔ ∀ (i : Nat) (p q : Int × Int), l[i]? = some p → l[i + 1]? = some q → pltB p q = true := by
 constructor
 ·intro h i p q h1 h2
  cases hp : pltB p q with
  | true => rfl
  | false => rw [r8q h1 h2 hp] at h; cases h
 ·exact t4q
theorem n5q {n : Nat} {p : Int × Int} : inB n p = true ↔ (0 ≤ p.1 ∧ p.1 < n) ∧ (0 ≤ p.2 ∧ p.2 < n) := by
 simp only [inB, Bool.and_eq_true, decide_eq_true_eq]
theorem z4q {l : List (Int × Int)} {x y : Nat} : mxOf l x y = true ↔ ∃ p ∈ l, p.1.toNat = x ∧ p.2.toNat = y := by
 simp only [mxOf, List.any_eq_true, Bool.and_eq_true, beq_iff_eq]
theorem p4x {n : Nat} {l : List (Int × Int)} (h : ∀ p ∈ l, 0 ≤ p.1 ∧ 0 ≤ p.2) {x y : Nat} : mxOf (l.map (shP n)) x y = true ↔ ∃ u v : Nat, x = u + n ∧ y = v + n ∧ mxOf l u v = true := by
 rw [z4q]
 constructor
 ·rintro ⟨q, hq, h1, h2⟩
  obtain ⟨p, hp, rfl⟩ := List.mem_map.1 hq
  have := h p hp
  simp only [shP] at h1 h2
  exact ⟨p.1.toNat, p.2.toNat, by omega, by omega, z4q.2 ⟨p, hp, rfl, rfl⟩⟩
 ·rintro ⟨u, v, rfl, rfl, hm⟩
  obtain ⟨p, hp, h1, h2⟩ := z4q.1 hm
  have := h p hp
  exact ⟨shP n p, List.mem_map.2 ⟨p, hp, rfl⟩, by simp only [shP]; omega, by simp only [shP]; omega⟩
theorem d8x {l m : List (Int × Int)} {x y : Nat} : mxOf (l ++ m) x y = true ↔ mxOf l x y = true ∨ mxOf m x y = true := by
 rw [i9z]; simp
theorem IsOb.within {o : Ob} (h : IsOb o) : u3q o.labels.length (mxOf o.pairs) := t2q fun p hp => (List.all_eq_true.1 h.inb) p hp
theorem IsOb.trans {o : Ob} (h : IsOb o) : j9x (mxOf o.pairs) := (l0z h.within).1 h.tran
theorem IsOb.nonneg {o : Ob} (h : IsOb o) : ∀ p ∈ o.pairs, 0 ≤ p.1 ∧ 0 ≤ p.2 := fun p hp => by
 have := n5q.1 ((List.all_eq_true.1 h.inb) p hp); omega
theorem k5x {b c : Ob} (hc : IsOb c) {x y : Nat} : mxOf (k7q b c).pairs x y = true ↔ mxOf b.pairs x y = true ∨ ∃ u v : Nat, x = u + b.labels.length ∧ y = v + b.labels.length ∧ mxOf c.pairs u v = true := by
 unfold k7q
 rw [d8x, p4x hc.nonneg]
theorem k6x {b c : Ob} (hb : IsOb b) (hc : IsOb c) (hl : b.labels.length + c.labels.length ≤ 40) : IsOb (k7q b c) := by
 have hin : (k7q b c).pairs.all (inB (k7q b c).labels.length) = true := by
  rw [List.all_eq_true]
  intro p hp
  simp only [k7q, List.mem_append, List.mem_map] at hp
  rw [n5q]
  simp only [k7q, List.length_append]
  rcases hp with hp | ⟨q, hq, rfl⟩
  ·have := n5q.1 ((List.all_eq_true.1 hb.inb) p hp); push_cast; omega
  ·have := n5q.1 ((List.all_eq_true.1 hc.inb) q hq); simp only [shP]; push_cast; omega
 refine ⟨by simpa [k7q] using hl, ?_, hin, c2z.2 fun i p q h1 h2 => ?_, (l0z (t2q fun p hp => (List.all_eq_true.1 hin) p hp)).2 fun x k y h1 h2 => ?_⟩
 ·simp only [k7q, List.all_append, hb.sz, hc.sz, Bool.and_self]
 ·simp only [k7q] at h1 h2
  by_cases hi : i + 1 < b.pairs.length
  ·rw [List.getElem?_append_left (by omega)] at h1 h2
   exact c2z.1 hb.ris i p q h1 h2
  ·by_cases hi2 : i < b.pairs.length
   ·rw [List.getElem?_append_left (by omega)] at h1
    rw [List.getElem?_append_right (by omega), List.getElem?_map] at h2
    obtain ⟨z, hz, rfl⟩ := Option.map_eq_some_iff.1 h2
    have k1 := n5q.1 ((List.all_eq_true.1 hb.inb) p (List.mem_of_getElem? h1))
    have k2 := n5q.1 ((List.all_eq_true.1 hc.inb) z (List.mem_of_getElem? hz))
    simp only [pltB, shP, Bool.or_eq_true]
    exact .inl (decide_eq_true (show p.1 < z.1 + (b.labels.length : Int) by omega))
   ·rw [List.getElem?_append_right (by omega), List.getElem?_map] at h1 h2
    obtain ⟨z, hz, rfl⟩ := Option.map_eq_some_iff.1 h1
    obtain ⟨z', hz', rfl⟩ := Option.map_eq_some_iff.1 h2
    have := c2z.1 hc.ris (i - b.pairs.length) z z' hz (by rw [show i - b.pairs.length + 1 = i + 1 - b.pairs.length by omega]; exact hz')
    simp only [pltB, shP, Bool.or_eq_true, Bool.and_eq_true, decide_eq_true_eq] at this ⊢
    rcases this with h | ⟨h, h'⟩
    ·exact .inl (decide_eq_true (show z.1 + (b.labels.length : Int) < z'.1 + (b.labels.length : Int) by omega))
    ·exact .inr ⟨decide_eq_true (show z.1 + (b.labels.length : Int) = z'.1 + (b.labels.length : Int) by omega), decide_eq_true (show z.2 + (b.labels.length : Int) < z'.2 + (b.labels.length : Int) by omega)⟩
 ·rw [k5x hc] at h1 h2 ⊢
  rcases h1 with h1 | ⟨u, v, rfl, rfl, h1⟩
  ·rcases h2 with h2 | ⟨u', v', rfl, rfl, h2⟩
   ·exact .inl (hb.trans _ _ _ h1 h2)
   ·have := hb.within _ _ h1; omega
  ·rcases h2 with h2 | ⟨u', v', h3, rfl, h2⟩
   ·have := hb.within _ _ h2; omega
   ·obtain rfl : v = u' := by omega
    exact .inr ⟨u, v', rfl, rfl, hc.trans _ _ _ h1 h2⟩
def fstL (l : List Int) : Nat → List Nat
 | 0 => []
 | i + 1 => if l.getD i 0 = (fstL l i).length then fstL l i ++ [i] else fstL l i
def PlOK (l : List Int) : Prop := ∀ (i : Nat) (z : Int), l[i]? = some z → 0 ≤ z ∧ z ≤ (fstL l i).length
def atN (l : List Int) (z : Int) : Nat := (l.getD z.toNat 0).toNat
def glMx (o : Ob) (l : List Int) : Mx := fun x y => o.pairs.any fun p => atN l p.1 == x && atN l p.2 == y
def glN (l : List Int) : Nat := (fstL l l.length).length
def i4q (o : Ob) (l : List Int) (i : Nat) : List ByteArray := (fstL l i).map fun i => o.labels.getD i ByteArray.empty
def l1q (o : Ob) (l : List Int) : Ob := ⟨i4q o l l.length, g0q (glN l) (cloK (glMx o l) (glN l))⟩
theorem i1z (l : List Int) : ∀ i, (fstL l i).length ≤ i
 | 0 => Nat.le_refl _
 | i + 1 => by have := i1z l i; unfold fstL; split <;> simp <;> omega
theorem x6x (l : List Int) (i : Nat) : (fstL l i).length ≤ (fstL l (i + 1)).length := by
 show _ ≤ (if l.getD i 0 = (fstL l i).length then fstL l i ++ [i] else fstL l i).length
 split <;> simp
theorem z8z (l : List Int) {i j : Nat} (h : i ≤ j) : (fstL l i).length ≤ (fstL l j).length := by
 induction h with
 | refl => exact Nat.le_refl _
 | step _ ih => exact Nat.le_trans ih (x6x l _)
theorem PlOK.lt {l : List Int} (h : PlOK l) {i : Nat} {z : Int} (hz : l[i]? = some z) : 0 ≤ z ∧ z < glN l := by
 have h1 := h i z hz
 have hi := (List.getElem?_eq_some_iff.1 hz).1
 have h2 : z < ((fstL l (i + 1)).length : Nat) := by
  show z < (((if l.getD i 0 = (fstL l i).length then fstL l i ++ [i] else fstL l i).length : Nat) : Int)
  have hg : l.getD i 0 = z := by rw [List.getD_eq_getElem?_getD, hz]; rfl
  rw [hg]
  split
  ·simp; omega
  ·omega
 have h3 := z8z l (show i + 1 ≤ l.length from hi)
 unfold glN
 omega
theorem i2z (l : List Int) : ∀ i j, j ∈ fstL l i → j < i
 | 0, j, h => by simp [fstL] at h
 | i + 1, j, h => by
  unfold fstL at h
  split at h
  ·simp only [List.mem_append, List.mem_singleton] at h
   rcases h with h | rfl
   ·have := i2z l i j h; omega
   ·omega
  ·have := i2z l i j h; omega
theorem z7q (l : List Int) : ∀ i j, i ≤ j → (plS l j).1.take i = (plS l i).1
 | i, 0, h => by obtain rfl : i = 0 := by omega
                 simp [plS]
 | i, j + 1, h => by
  by_cases hij : i = j + 1
  ·subst hij; exact List.take_of_length_le (by rw [e6q]; omega)
  ·have ih := z7q l i j (by omega)
   have e : (plS l (j + 1)).1 = (plS l j).1 ++ [if l.getD j 0 = j then ((plS l j).2 : Int) else (plS l j).1.getD (l.getD j 0).toNat 0] := by
    show (if l.getD j 0 = j then _ else _ : List Int × Nat).1 = _
    split <;> rfl
   rw [e, List.take_append_of_le_length (by rw [e6q]; omega)]; exact ih
theorem b2x {l : List Int} (hwf : wfU l) : ∀ i, i ≤ l.length → (fstL (c3q l) i).length = (plS l i).2 ∧ ∀ (j : Nat) (z : Int), j < i → (c3q l)[j]? = some z → 0 ≤ z ∧ z ≤ (fstL (c3q l) j).length ∧ z < (plS l i).2
 | 0, _ => ⟨rfl, fun j z h => by omega⟩
 | i + 1, hi => by
  obtain ⟨h1, h2⟩ := b2x hwf i (by omega)
  have hlen : (c3q l).length = l.length := e6q l _
  obtain ⟨z, hz⟩ : ∃ z, (c3q l)[i]? = some z := ⟨_, List.getElem?_eq_getElem (by omega)⟩
  have hg : (c3q l).getD i 0 = z := by rw [List.getD_eq_getElem?_getD, hz]; rfl
  have hz2 : (plS l (i + 1)).1[i]? = some z := by
   rw [← z7q l (i + 1) l.length hi, List.getElem?_take, if_pos (by omega)]; exact hz
  have hfe : (fstL (c3q l) (i + 1)).length = if z = (fstL (c3q l) i).length then (fstL (c3q l) i).length + 1 else (fstL (c3q l) i).length := by
   show (if (c3q l).getD i 0 = (fstL (c3q l) i).length then fstL (c3q l) i ++ [i] else fstL (c3q l) i).length = _
   rw [hg]; split <;> simp
  by_cases hr : l.getD i 0 = i
  ·have e2 : (plS l (i + 1)).2 = (plS l i).2 + 1 := v1q hr
   have e1 : (plS l (i + 1)).1 = (plS l i).1 ++ [((plS l i).2 : Int)] := by
    show (if l.getD i 0 = i then _ else _ : List Int × Nat).1 = _
    rw [if_pos hr]
   rw [e1, List.getElem?_append_right (by rw [e6q]; omega), e6q] at hz2
   simp at hz2
   subst hz2
   refine ⟨by rw [hfe, h1, if_pos rfl, e2], fun j z hj hzj => ?_⟩
   by_cases hji : j = i
   ·subst hji; rw [hz] at hzj; cases hzj; rw [h1, e2]; omega
   ·have := h2 j z (by omega) hzj; rw [e2]; omega
  ·have e2 : (plS l (i + 1)).2 = (plS l i).2 := r5q hr
   have e1 : (plS l (i + 1)).1 = (plS l i).1 ++ [(plS l i).1.getD (l.getD i 0).toNat 0] := by
    show (if l.getD i 0 = i then _ else _ : List Int × Nat).1 = _
    rw [if_neg hr]
   rw [e1, List.getElem?_append_right (by rw [e6q]; omega), e6q] at hz2
   simp only [Nat.sub_self, List.getElem?_cons_zero, Option.some.injEq] at hz2
   obtain ⟨y, hy⟩ : ∃ y, l[i]? = some y := ⟨_, List.getElem?_eq_getElem (by omega)⟩
   have hgy : l.getD i 0 = y := by rw [List.getD_eq_getElem?_getD, hy]; rfl
   have hyw := hwf i y hy
   rw [hgy] at hz2 hr
   have hk : y.toNat < i := by omega
   have hz3 : (c3q l)[y.toNat]? = some z := by
    have : (plS l i).1[y.toNat]? = some z := by
     rw [← hz2, List.getD_eq_getElem?_getD, List.getElem?_eq_getElem (by rw [e6q]; omega)]; rfl
    rw [← z7q l i l.length (by omega), List.getElem?_take, if_pos hk] at this
    exact this
   have hb := h2 y.toNat z hk hz3
   refine ⟨by rw [hfe, if_neg (by omega), h1, e2], fun j z' hj hzj => ?_⟩
   by_cases hji : j = i
   ·subst hji; rw [hz] at hzj; cases hzj; rw [e2]; omega
   ·have := h2 j z' (by omega) hzj; rw [e2]; exact this
theorem v2q {l : List Int} (hwf : wfU l) : PlOK (c3q l) := fun i z hz => by
 have hi : i < l.length := by have := (List.getElem?_eq_some_iff.1 hz).1; rwa [show (c3q l).length = l.length from e6q l _] at this
 have := (b2x hwf l.length (Nat.le_refl _)).2 i z hi hz
 omega
end Go.Proofs

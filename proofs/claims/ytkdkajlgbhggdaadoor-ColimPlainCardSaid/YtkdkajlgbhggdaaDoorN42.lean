/- Lemmas on the way to the statement of this claim; no conditions. -/
import Derived.Laws.StructEq
import Derived.KernelRfl
import Derived.Test.YtkdkajlgbhggdaaDoorN28
import Derived.Test.YtkdkajlgbhggdaaDoorN29
import Derived.Test.YtkdkajlgbhggdaaDoorN30
import Derived.Test.YtkdkajlgbhggdaaDoorN39
import Derived.Test.YtkdkajlgbhggdaaDoorN40
open Go Go.V
namespace Go.Proofs
theorem Tryd.si84 : Tryd.prog.stoodInHeld 84 = false := by kernel_rfl
theorem part_int (w : World) (l : List Value) (i : Nat) (z : Value) (h : l[i]? = some z) (_h1 : ∀ k a, z = .int k a → True) (_hz : ∃ a, z = .int .i64 a) : (part 3 ⟨l⟩ i).run Tryd.prog w = .ok z w := by
  have := isAgg_run (P := Tryd.prog) Tryd.ag3 w
  have h2 := szOf_run (P := Tryd.prog) Tryd.sz3 w
  unfold part
  simp [Sem.run_bind, this, Result.andThen, h]
theorem eq_int (w : World) (d : Nat) (a b : Int) : (Op.equalIn (d + 1) 3 (.int .i64 a) (.int .i64 b)).run Tryd.prog w = .ok (a == b) w := by
  simp [Op.equalIn, run_underlying Tryd.underlying3]
theorem pair_eq (a b c d : Int) (w : World) : (Op.equal 84 (.agg ⟨[.int .i64 a, .int .i64 b]⟩) (.agg ⟨[.int .i64 c, .int .i64 d]⟩)).run Tryd.prog w = .ok (a == c && b == d) w := by
  have h1 := run_equalIn_struct (P := Tryd.prog) (w := w) 9999 84 ⟨[.int .i64 a, .int .i64 b]⟩ ⟨[.int .i64 c, .int .i64 d]⟩ (by kernel_rfl) Tryd.si84
  have hf : (Tryd.prog.fieldsOf 84).toList = [{ name := "A", type := 3, offset := 0, embedded := false, tag := "", pkgPath := "", byteOffset := 0 }, { name := "B", type := 3, offset := 1, embedded := false, tag := "", pkgPath := "", byteOffset := 8 }] := by
    simp [Program.fieldsOf, Tryd.underlying84]
  rw [hf] at h1
  unfold Op.equal
  refine h1.trans ?_
  have p1 := part_int w [.int .i64 a, .int .i64 b] 0 (.int .i64 a) rfl (fun _ _ _ => trivial) ⟨a, rfl⟩
  have p2 := part_int w [.int .i64 a, .int .i64 b] 1 (.int .i64 b) rfl (fun _ _ _ => trivial) ⟨b, rfl⟩
  have p3 := part_int w [.int .i64 c, .int .i64 d] 0 (.int .i64 c) rfl (fun _ _ _ => trivial) ⟨c, rfl⟩
  have p4 := part_int w [.int .i64 c, .int .i64 d] 1 (.int .i64 d) rfl (fun _ _ _ => trivial) ⟨d, rfl⟩
  have e1 := eq_int w 9998 a c
  have e2 := eq_int w 9998 b d
  simp only [Op.eqFields, Sem.run_bind, p1, p3, Result.andThen_ok, ne_eq, String.reduceEq, not_false_eq_true, if_true, e1]
  cases h : (a == c) <;> cases h' : (b == d) <;> simp [p2, p4, e2, h', Result.andThen, Sem.run_bind]
theorem pair_neq (x y : Operand) (a b c d : Int) (w : World) : (do eqGuard .neq 84 x y (.agg ⟨[.int .i64 a, .int .i64 b]⟩) (.agg ⟨[.int .i64 c, .int .i64 d]⟩); Go.binOp .neq 84 (.agg ⟨[.int .i64 a, .int .i64 b]⟩) (.agg ⟨[.int .i64 c, .int .i64 d]⟩) : Sem Value).run Tryd.prog w = .ok (.bool (!(a == c && b == d))) w := by
  simp only [eqGuard, Go.binOp, Sem.run_bind, pair_eq]
  simp [Sem.run, program]
end Go.Proofs

open Go Go.V
namespace Go.Proofs
def seqB (a b : ByteArray) : Bool := a.toList == b.toList
def peqB (p q : Int × Int) : Bool := p.1 == q.1 && p.2 == q.2
def allZ {α : Type} (r : α → α → Bool) : List α → List α → Bool
  | [], [] => true
  | a :: l, b :: m => r a b && allZ r l m
  | _, _ => false
theorem allZ_len {α : Type} {r : α → α → Bool} : ∀ {l m : List α}, l.length ≠ m.length → allZ r l m = false
  | [], [], h => absurd rfl h
  | [], _ :: _, _ => rfl
  | _ :: _, [], _ => rfl
  | a :: l, b :: m, h => by simp [allZ, allZ_len (r := r) (l := l) (m := m) (by simpa using h)]
theorem allZ_bad {α : Type} {r : α → α → Bool} : ∀ {l m : List α} {i : Nat} {a b : α}, l[i]? = some a → m[i]? = some b → r a b = false → allZ r l m = false
  | [], _, i, a, b, h, _, _ => by simp at h
  | _ :: _, [], i, a, b, _, h, _ => by simp at h
  | a :: l, b :: m, 0, x, y, h1, h2, h3 => by simp at h1 h2; subst h1; subst h2; simp [allZ, h3]
  | a :: l, b :: m, i + 1, x, y, h1, h2, h3 => by simp [allZ, allZ_bad (r := r) (l := l) (m := m) (by simpa using h1) (by simpa using h2) h3]
theorem allZ_good {α : Type} {r : α → α → Bool} : ∀ {l m : List α}, l.length = m.length → (∀ (i : Nat) (a b : α), l[i]? = some a → m[i]? = some b → r a b = true) → allZ r l m = true
  | [], [], _, _ => rfl
  | [], _ :: _, h, _ => by simp at h
  | _ :: _, [], h, _ => by simp at h
  | a :: l, b :: m, h, hh => by
    simp only [allZ, Bool.and_eq_true]
    exact ⟨hh 0 a b rfl rfl, allZ_good (by simpa using h) fun i x y h1 h2 => hh (i + 1) x y (by simpa using h1) (by simpa using h2)⟩
theorem dropP {l : List (Int × Int)} {i : Nat} {p : Int × Int} (h : l[i]? = some p) : (((l.flatMap pcells).map V.t).drop (i * 2)).take 2 = [I p.1, I p.2] := by
  induction l generalizing i with
  | nil => simp at h
  | cons a l ih =>
    cases i with
    | zero => simp at h; subst h; simp
    | succ i =>
      have := ih (i := i) (by simpa using h)
      rw [show (i + 1) * 2 = i * 2 + 2 by omega]
      simpa using this
def sameS (a b : Ob) : Bool := allZ seqB a.labels b.labels && allZ peqB a.pairs b.pairs
theorem add_prev (s : Sg) (b c : Blk) : ((s.add b).add c).m s.next = some b := by simp [Sg.add]
theorem add_old2 (s : Sg) (c d : Blk) {n : Nat} {b : Blk} (hn : n < s.next) (h : s.m n = some b) : ((s.add c).add d).m n = some b := add_old _ d (Nat.lt_succ_of_lt hn) (add_old s c hn h)
set_option maxRecDepth 20000 in
theorem same_ (a b : Ob) (ha : a.labels.length < 1000000000) (_ha2 : a.pairs.length < 1000000000) (_hb : b.labels.length < 1000000000) (hb2 : b.pairs.length < 1000000000) : PCall Tryd.prog 24 [vObj a, vObj b] (Bo (sameS a b)) := by
  refine pcall_of_body Tryd.func24 rfl fun s Q hQ => ?_
  obtain ⟨e, he, hl, h0, h1⟩ : ∃ e : Env, ([vObj a, vObj b] ++ List.replicate (Tryd.f24.ntmps - ([vObj a, vObj b] : List V).length) .junk) = e ∧ e.length = 59 ∧ ev e (.tmp 0) = vObj a ∧ ev e (.tmp 1) = vObj b := ⟨_, rfl, rfl, rfl, rfl⟩
  rw [he]
  clear he
  have hm2 := add_prev s (.box 25 [.t (tStrs a.labels), .t (tPairs a.pairs)]) (.box 25 [.t (tStrs b.labels), .t (tPairs b.pairs)])
  have hm3 := add_self (s.add (.box 25 [.t (tStrs a.labels), .t (tPairs a.pairs)])) (.box 25 [.t (tStrs b.labels), .t (tPairs b.pairs)])
  refine vsk fun K1 hK1 => ?_
  refine vw_go false ?_
  simp only [wops, gow, wop, vopx, vop, ev_putv, ev_const, thenV, flat, if_true, if_false, Nat.reduceEqDiff, Nat.reduceLT, V.cells, hl, h0, h1]
  refine hK1 _ _ ?_
  refine vsk fun K2 hK2 => ?_
  refine vsk fun K3 hK3 => ?_
  rcases Decidable.em (a.labels.length = b.labels.length) with hlab | hlab
  · refine vw_go false ?_
    simp only [wops, gow, wop, vopx, vop, ev_putv, ev_const, lpv, thenV, flat, if_true, if_false, Nat.reduceEqDiff, Nat.reduceLT, dLoad, vpart, opII, gtmp, List.getElem?_toArray, List.getElem?_cons_zero, List.getElem?_cons_succ, Nat.add_zero, Nat.zero_add, ne_eq, not_false_eq_true, true_and, and_true, Nat.succ_ne_zero, true_implies, false_implies, not_true_eq_false, Bool.false_eq_true, hl, Tryd.ag22, Tryd.ag23, Tryd.fd25_0, Tryd.fd25_1, Tryd.sz22, Tryd.sz23, Tryd.un22, Tryd.un23, len_tStrs, len_tPairs, hm2, hm3, hlab, bne_self_eq_false]
    refine hK3 _ _ ?_
    refine vck fun A B hA hB => ?_
    simp only [condV, ev_putv, lpv, if_true, if_false, Nat.reduceEqDiff, Nat.reduceLT, bne_iff_ne, bne_eq_false_iff_eq, ne_eq, hl]
    refine ⟨fun hc22 => hA ?_, fun hc22 => hB ?_⟩
    · clear hA hB A B
      refine vsk fun K4 hK4 => ?_
      refine vw_go false ?_
      simp only [wops, gow, wop, vopx, vop, ev_const, thenV, flat, if_true]
      refine hK4 _ _ ?_
      refine vw_ret ?_
      have hres : sameS a b = false := by simp [sameS, allZ_len (l := a.pairs) (m := b.pairs) (by omega)]
      refine hQ _ _ _ (.inr rfl) (done_tmp ?_ fun n b hn h => add_old2 s _ _ hn h)
      simp only [ev_putv, lpv, hl, if_true, if_false, Nat.reduceEqDiff, Nat.reduceLT]
      rw [hres]
    · clear hA hB A B
      refine vw_skip ?_
      refine hK2 _ _ ?_
      refine vsk fun K5 hK5 => ?_
      refine vsk fun K6 hK6 => ?_
      refine vw_go false ?_
      simp only [wops, gow, wop, vopx, vop, ev_const, thenV, flat, if_true]
      refine hK6 _ _ ?_
      refine vw_block ?_
      have hpl : a.pairs.length = b.pairs.length := by omega
      refine vw_loop (fun n e' s' => ∃ i : Nat, n = a.labels.length - i ∧ i ≤ a.labels.length ∧ e'.length = 59 ∧ ev e' (.tmp 2) = .ptr s.next 0 ∧ ev e' (.tmp 3) = .ptr (s.add (.box 25 [.t (tStrs a.labels), .t (tPairs a.pairs)])).next 0 ∧ ev e' (.tmp 5) = I i ∧ s' = (s.add (.box 25 [.t (tStrs a.labels), .t (tPairs a.pairs)])).add (.box 25 [.t (tStrs b.labels), .t (tPairs b.pairs)]) ∧ ∀ (j : Nat) (x y : ByteArray), j < i → a.labels[j]? = some x → b.labels[j]? = some y → seqB x y = true) (⟨0, rfl, Nat.zero_le _, ?_⟩) ?_
      · simp only [ev_putv, lpv, hl, if_true, if_false, Nat.reduceEqDiff, Nat.reduceLT]
        exact ⟨trivial, trivial, trivial, rfl, trivial, fun j x y h => by omega⟩
      clear hl h0 h1 e
      rintro n e _ ⟨i, rfl, hi, hl, h2, h3, h5, rfl, hall⟩
      refine vsk fun K7 hK7 => ?_
      refine vsk fun K8 hK8 => ?_
      refine vw_go false ?_
      simp only [wops, gow, wop, vopx, vop, ev_putv, lpv, thenV, if_true, if_false, Nat.reduceEqDiff, Nat.reduceLT, dLoad, vpart, opII, List.getElem?_cons_zero, Nat.add_zero, ne_eq, not_false_eq_true, true_and, Nat.succ_ne_zero, hl, h2, h5, Tryd.ag22, Tryd.fd25_0, Tryd.sz22, Tryd.un22, len_tStrs, hm2]
      refine hK8 _ _ ?_
      refine vck fun A B hA hB => ?_
      simp only [condV, ev_putv, lpv, if_true, if_false, Nat.reduceEqDiff, Nat.reduceLT, decide_eq_true_eq, decide_eq_false_iff_not, hl]
      refine ⟨fun hc27 => hA ?_, fun hc27 => hB ?_⟩
      · clear hA hB A B
        refine vw_skip ?_
        refine hK7 _ _ ?_
        refine vsk fun K9 hK9 => ?_
        refine vw_block ?_
        refine vsk fun K10 hK10 => ?_
        have hlt : i < a.labels.length := by omega
        have hga : a.labels[i]? = some a.labels[i] := List.getElem?_eq_getElem hlt
        have hgb : b.labels[i]? = some (b.labels[i]'(by omega)) := List.getElem?_eq_getElem (by omega)
        refine vw_still Tryd.mixed 10 (by decide +kernel) (by simp [lpv, hl]) ?_
        simp only [vops, gop, vopx, vop, ev_putv, lpv, thenV, if_true, if_false, Nat.reduceEqDiff, Nat.reduceLT, dLoad, vpart, opSS, List.getElem?_cons_zero, Nat.add_zero, Nat.mul_one, ne_eq, not_false_eq_true, true_and, Nat.succ_ne_zero, Int.toNat_natCast, List.getElem?_map, Option.map_some, List.length_map, Int.natCast_nonneg, hl, h2, h3, h5, Tryd.ag22, Tryd.ag9, Tryd.fd25_0, Tryd.sz22, Tryd.sz9, Tryd.un22, hm2, hm3, hga, hgb]
        refine ⟨hlt, by omega, ?_⟩
        refine hK10 _ _ ?_
        refine vck fun A B hA hB => ?_
        simp only [condV, ev_putv, lpv, if_true, if_false, Nat.reduceEqDiff, Nat.reduceLT, Bool.not_eq_true', Bool.not_eq_false', beq_iff_eq, beq_eq_false_iff_ne, ne_eq, hl]
        refine ⟨fun hc40 => hA ?_, fun hc40 => hB ?_⟩
        · clear hA hB A B
          refine vsk fun K11 hK11 => ?_
          refine vw_go false ?_
          simp only [wops, gow, wop, vopx, vop, ev_const, thenV, flat, if_true]
          refine hK11 _ _ ?_
          refine vw_ret ?_
          have hres : sameS a b = false := by simp [sameS, allZ_bad (r := seqB) hga hgb (by simpa [seqB] using hc40)]
          refine hQ _ _ _ (.inr rfl) (done_tmp ?_ fun n b hn h => add_old2 s _ _ hn h)
          simp only [ev_putv, lpv, hl, if_true, if_false, Nat.reduceEqDiff, Nat.reduceLT]
          rw [hres]
        · clear hA hB A B
          refine vw_skip ?_
          refine hK9 _ _ ?_
          refine vw_go false ?_
          simp only [wops, gow, wop, vopx, vop, ev_putv, ev_const, lpv, thenV, flat, if_true, if_false, Nat.reduceEqDiff, Nat.reduceLT, opII, true_and, hl, h2, h3, h5]
          refine ⟨⟨by omega, by omega⟩, a.labels.length - (i + 1), by omega, i + 1, rfl, by omega, by push_cast; rfl, fun j x y hj h1 h2 => ?_⟩
          rcases Nat.lt_succ_iff_lt_or_eq.1 hj with hj | rfl
          · exact hall j x y hj h1 h2
          · rw [hga] at h1; rw [hgb] at h2; cases h1; cases h2; simpa [seqB] using hc40
      · clear hA hB A B
        refine vw_exit ?_
        simp only [thenV, blockV, if_true]
        refine hK5 _ _ ?_
        refine vsk fun K12 hK12 => ?_
        refine vsk fun K13 hK13 => ?_
        refine vw_go false ?_
        simp only [wops, gow, wop, vopx, vop, ev_const, thenV, flat, if_true]
        refine hK13 _ _ ?_
        refine vw_block ?_
        have hil : i = a.labels.length := by omega
        have hlabs : allZ seqB a.labels b.labels = true := allZ_good hlab fun j x y h1 h2 => hall j x y (by have := (List.getElem?_eq_some_iff.1 h1).1; omega) h1 h2
        refine vw_loop (fun n e' s' => ∃ i : Nat, n = a.pairs.length - i ∧ i ≤ a.pairs.length ∧ e'.length = 59 ∧ ev e' (.tmp 2) = .ptr s.next 0 ∧ ev e' (.tmp 3) = .ptr (s.add (.box 25 [.t (tStrs a.labels), .t (tPairs a.pairs)])).next 0 ∧ ev e' (.tmp 6) = I i ∧ s' = (s.add (.box 25 [.t (tStrs a.labels), .t (tPairs a.pairs)])).add (.box 25 [.t (tStrs b.labels), .t (tPairs b.pairs)]) ∧ ∀ (j : Nat) (x y : Int × Int), j < i → a.pairs[j]? = some x → b.pairs[j]? = some y → peqB x y = true) (⟨0, rfl, Nat.zero_le _, ?_⟩) ?_
        · simp only [ev_putv, lpv, hl, h2, h3, if_true, if_false, Nat.reduceEqDiff, Nat.reduceLT]
          exact ⟨trivial, trivial, trivial, rfl, trivial, fun j x y h => by omega⟩
        rintro n e _ ⟨i, rfl, hi, hl, h2, h3, h6, rfl, hall⟩
        refine vsk fun K14 hK14 => ?_
        refine vsk fun K15 hK15 => ?_
        refine vw_go false ?_
        simp only [wops, gow, wop, vopx, vop, ev_putv, lpv, thenV, if_true, if_false, Nat.reduceEqDiff, Nat.reduceLT, dLoad, vpart, opII, List.getElem?_cons_zero, List.getElem?_cons_succ, Nat.zero_add, ne_eq, not_false_eq_true, true_and, Nat.succ_ne_zero, hl, h2, h6, Tryd.ag23, Tryd.fd25_1, Tryd.sz23, Tryd.un23, len_tPairs, hm2]
        refine hK15 _ _ ?_
        refine vck fun A B hA hB => ?_
        simp only [condV, ev_putv, lpv, if_true, if_false, Nat.reduceEqDiff, Nat.reduceLT, decide_eq_true_eq, decide_eq_false_iff_not, hl]
        refine ⟨fun hc45 => hA ?_, fun hc45 => hB ?_⟩
        · clear hA hB A B
          refine vw_skip ?_
          refine hK14 _ _ ?_
          refine vsk fun K16 hK16 => ?_
          refine vw_block ?_
          refine vsk fun K17 hK17 => ?_
          have hlt : i < a.pairs.length := by omega
          have hga : a.pairs[i]? = some a.pairs[i] := List.getElem?_eq_getElem hlt
          have hgb : b.pairs[i]? = some (b.pairs[i]'(by omega)) := List.getElem?_eq_getElem (by omega)
          have hda := dropP hga
          have hdb := dropP hgb
          refine vw_still Tryd.mixed 10 (by decide +kernel) (by simp [lpv, hl]) ?_
          simp only [vops, gop, vopx, vop, ev_putv, lpv, thenV, if_true, if_false, Nat.reduceEqDiff, Nat.reduceLT, dLoad, vpart, List.getElem?_cons_zero, List.getElem?_cons_succ, List.length_cons, List.length_nil, Nat.zero_add, ne_eq, not_false_eq_true, true_and, Nat.succ_ne_zero, Int.toNat_natCast, Int.natCast_nonneg, hl, h2, h3, h6, Tryd.ag23, Tryd.ag84, Tryd.fd25_1, Tryd.sz23, Tryd.sz84, Tryd.un23, hm2, hm3, hda, hdb, flat_length]
          refine ⟨by omega, by omega, _, .inr (.inl ⟨_, _, [.int .i64 a.pairs[i].1, .int .i64 a.pairs[i].2], [.int .i64 (b.pairs[i]'(by omega)).1, .int .i64 (b.pairs[i]'(by omega)).2], rfl, rfl, rfl, rfl, rfl, fun w => pair_neq _ _ _ _ _ _ w⟩), ?_⟩
          refine hK17 _ _ ?_
          refine vck fun A B hA hB => ?_
          simp only [condV, ev_putv, lpv, if_true, if_false, Nat.reduceEqDiff, Nat.reduceLT, Bool.not_eq_true', Bool.not_eq_false', hl]
          refine ⟨fun hc58 => hA ?_, fun hc58 => hB ?_⟩
          · clear hA hB A B
            refine vsk fun K18 hK18 => ?_
            refine vw_go false ?_
            simp only [wops, gow, wop, vopx, vop, ev_const, thenV, flat, if_true]
            refine hK18 _ _ ?_
            refine vw_ret ?_
            have hres : sameS a b = false := by simp [sameS, allZ_bad (r := peqB) hga hgb (by simpa [peqB] using hc58)]
            refine hQ _ _ _ (.inr rfl) (done_tmp ?_ fun n b hn h => add_old2 s _ _ hn h)
            simp only [ev_putv, lpv, hl, if_true, if_false, Nat.reduceEqDiff, Nat.reduceLT]
            rw [hres]
          · clear hA hB A B
            refine vw_skip ?_
            refine hK16 _ _ ?_
            refine vw_go false ?_
            simp only [wops, gow, wop, vopx, vop, ev_putv, ev_const, lpv, thenV, flat, if_true, if_false, Nat.reduceEqDiff, Nat.reduceLT, opII, true_and, hl, h2, h3, h6]
            refine ⟨⟨by omega, by omega⟩, a.pairs.length - (i + 1), by omega, i + 1, rfl, by omega, by push_cast; rfl, fun j x y hj h1 h2 => ?_⟩
            rcases Nat.lt_succ_iff_lt_or_eq.1 hj with hj | rfl
            · exact hall j x y hj h1 h2
            · rw [hga] at h1; rw [hgb] at h2; cases h1; cases h2; simpa [peqB] using hc58
        · clear hA hB A B
          refine vw_exit ?_
          simp only [thenV, blockV, if_true]
          refine hK12 _ _ ?_
          refine vsk fun K19 hK19 => ?_
          refine vw_go false ?_
          simp only [wops, gow, wop, vopx, vop, ev_const, thenV, flat, if_true]
          refine hK19 _ _ ?_
          refine vw_ret ?_
          have hprs : allZ peqB a.pairs b.pairs = true := allZ_good hpl fun j x y h1 h2 => hall j x y (by have := (List.getElem?_eq_some_iff.1 h1).1; omega) h1 h2
          have hres : sameS a b = true := by simp [sameS, hlabs, hprs]
          refine hQ _ _ _ (.inr rfl) (done_tmp ?_ fun n b hn h => add_old2 s _ _ hn h)
          simp only [ev_putv, lpv, hl, if_true, if_false, Nat.reduceEqDiff, Nat.reduceLT]
          rw [hres]
  · refine vw_go false ?_
    simp only [wops, gow, wop, vopx, vop, ev_putv, ev_const, lpv, thenV, flat, if_true, if_false, Nat.reduceEqDiff, Nat.reduceLT, dLoad, vpart, opII, gtmp, List.getElem?_toArray, List.getElem?_cons_zero, List.getElem?_cons_succ, Nat.add_zero, Nat.zero_add, ne_eq, not_false_eq_true, true_and, Nat.succ_ne_zero, true_implies, false_implies, reduceCtorEq, hl, Tryd.ag22, Tryd.ag23, Tryd.fd25_0, Tryd.fd25_1, Tryd.sz22, Tryd.sz23, Tryd.un22, Tryd.un23, len_tStrs, len_tPairs, hm2, hm3, show (((a.labels.length : Int) != b.labels.length) = true) from by simp only [bne_iff_ne, ne_eq, Int.natCast_inj]; exact hlab]
    refine hK3 _ _ ?_
    refine vck fun A B hA hB => ?_
    simp only [condV, ev_putv, lpv, if_true, if_false, Nat.reduceEqDiff, Nat.reduceLT, true_implies, reduceCtorEq, false_implies, and_true, hl]
    refine hA ?_
    clear hA hB A B
    refine vsk fun K20 hK20 => ?_
    refine vw_go false ?_
    simp only [wops, gow, wop, vopx, vop, ev_const, thenV, flat, if_true]
    refine hK20 _ _ ?_
    refine vw_ret ?_
    have hres : sameS a b = false := by simp [sameS, allZ_len hlab]
    refine hQ _ _ _ (.inr rfl) (done_tmp ?_ fun n b hn h => add_old2 s _ _ hn h)
    simp only [ev_putv, lpv, hl, if_true, if_false, Nat.reduceEqDiff, Nat.reduceLT]
    rw [hres]
end Go.Proofs

open Go Go.V
namespace Go.Proofs
abbrev Mx := Nat → Nat → Bool
def fwk (M : Mx) (k : Nat) : Mx := fun a b => M a b || (M a k && M k b)
def cloK (M : Mx) (k : Nat) : Mx := (List.range k).foldl fwk M
def tranB (n : Nat) (M : Mx) : Bool := (List.range n).all fun a => (List.range n).all fun b => M a b == cloK M n a b
def rowOf (n : Nat) (M : Mx) (a : Nat) : List (Int × Int) := ((List.range n).filter fun b => M a b).map fun (b : Nat) => ((a : Int), (b : Int))
def pairsOf (n : Nat) (M : Mx) : List (Int × Int) := (List.range n).flatMap (rowOf n M)
def inB (n : Nat) (p : Int × Int) : Bool := decide (0 ≤ p.1 ∧ p.1 < n) && decide (0 ≤ p.2 ∧ p.2 < n)
def mxOf (l : List (Int × Int)) : Mx := fun a b => l.any fun p => p.1.toNat == a && p.2.toNat == b
theorem cloK_succ (M : Mx) (k : Nat) : cloK M (k + 1) = fwk (cloK M k) k := by simp [cloK, List.range_succ]
theorem cloK_le {M : Mx} {a b : Nat} (h : M a b = true) : ∀ k, cloK M k a b = true
  | 0 => h
  | k + 1 => by rw [cloK_succ]; simp [fwk, cloK_le h k]
theorem cloK_mono {M : Mx} {j : Nat} : ∀ {k : Nat}, j ≤ k → ∀ {a b : Nat}, cloK M j a b = true → cloK M k a b = true
  | 0, h, a, b, hh => by obtain rfl : j = 0 := by omega
                         exact hh
  | k + 1, h, a, b, hh => by
    rcases Nat.lt_or_ge k j with h1 | h1
    · obtain rfl : j = k + 1 := by omega
      exact hh
    · rw [cloK_succ]; simp [fwk, cloK_mono h1 hh]
def Within (n : Nat) (M : Mx) : Prop := ∀ a b, M a b = true → a < n ∧ b < n
theorem fwk_within {n : Nat} {M : Mx} {k : Nat} (h : Within n M) : Within n (fwk M k) := by
  intro a b hab
  simp only [fwk, Bool.or_eq_true, Bool.and_eq_true] at hab
  rcases hab with h1 | ⟨h1, h2⟩
  · exact h a b h1
  · exact ⟨(h _ _ h1).1, (h _ _ h2).2⟩
theorem cloK_within {n : Nat} {M : Mx} (h : Within n M) : ∀ k, Within n (cloK M k)
  | 0 => h
  | k + 1 => by rw [cloK_succ]; exact fwk_within (cloK_within h k)
def Trans (M : Mx) : Prop := ∀ a k b, M a k = true → M k b = true → M a b = true
theorem fwk_trans {M : Mx} (h : Trans M) (k : Nat) : fwk M k = M := by
  funext a b
  simp only [fwk]
  cases hab : M a b with
  | true => rfl
  | false =>
    cases h1 : M a k with
    | false => rfl
    | true =>
      cases h2 : M k b with
      | false => rfl
      | true => rw [h a k b h1 h2] at hab; cases hab
theorem cloK_trans {M : Mx} (h : Trans M) : ∀ k, cloK M k = M
  | 0 => rfl
  | k + 1 => by rw [cloK_succ, cloK_trans h k, fwk_trans h]
theorem tranB_iff {n : Nat} {M : Mx} (hw : Within n M) : tranB n M = true ↔ Trans M := by
  constructor
  · intro h a k b h1 h2
    simp only [tranB, List.all_eq_true, List.mem_range, beq_iff_eq] at h
    have ha := (hw _ _ h1).1
    have hk := (hw _ _ h1).2
    have hb := (hw _ _ h2).2
    rw [h a ha b hb]
    refine cloK_mono (j := k + 1) (by omega) ?_
    rw [cloK_succ]
    simp [fwk, cloK_le h1, cloK_le h2]
  · intro h
    simp only [tranB, List.all_eq_true, List.mem_range, beq_iff_eq]
    intro a _ b _
    rw [cloK_trans h]
theorem mxOf_append (l m : List (Int × Int)) : mxOf (l ++ m) = fun a b => mxOf l a b || mxOf m a b := by
  funext a b; simp [mxOf]
theorem mxOf_take {l : List (Int × Int)} {i : Nat} {p : Int × Int} (h : l[i]? = some p) : mxOf (l.take (i + 1)) = fun a b => mxOf (l.take i) a b || (p.1.toNat == a && p.2.toNat == b) := by
  rw [List.take_add_one, h, mxOf_append]
  funext a b; simp [mxOf]
theorem mxOf_within {n : Nat} {l : List (Int × Int)} (h : ∀ p ∈ l, inB n p = true) : Within n (mxOf l) := by
  intro a b hab
  simp only [mxOf, List.any_eq_true, Bool.and_eq_true, beq_iff_eq] at hab
  obtain ⟨p, hp, rfl, rfl⟩ := hab
  have := h p hp
  simp only [inB, Bool.and_eq_true, decide_eq_true_eq] at this
  omega
theorem mem_pairsOf {n : Nat} {M : Mx} {p : Int × Int} : p ∈ pairsOf n M ↔ ∃ a b : Nat, a < n ∧ b < n ∧ M a b = true ∧ p = ((a : Int), (b : Int)) := by
  simp only [pairsOf, rowOf, List.mem_flatMap, List.mem_range, List.mem_map, List.mem_filter]
  constructor
  · rintro ⟨a, ha, b, ⟨hb, hm⟩, rfl⟩; exact ⟨a, b, ha, hb, hm, rfl⟩
  · rintro ⟨a, b, ha, hb, hm, rfl⟩; exact ⟨a, ha, b, ⟨hb, hm⟩, rfl⟩
def pltB (p q : Int × Int) : Bool := decide (p.1 < q.1) || (decide (p.1 = q.1) && decide (p.2 < q.2))
def risingB : List (Int × Int) → Bool
  | p :: q :: l => pltB p q && risingB (q :: l)
  | _ => true
theorem rising_bad : ∀ {l : List (Int × Int)} {i : Nat} {p q : Int × Int}, l[i]? = some p → l[i + 1]? = some q → pltB p q = false → risingB l = false
  | [], i, p, q, h, _, _ => by simp at h
  | [x], i, p, q, _, h, _ => by simp at h
  | x :: y :: l, 0, p, q, h1, h2, h3 => by simp at h1 h2; subst h1; subst h2; simp [risingB, h3]
  | x :: y :: l, i + 1, p, q, h1, h2, h3 => by simp [risingB, rising_bad (l := y :: l) (i := i) (by simpa using h1) (by simpa using h2) h3]
theorem rising_good : ∀ {l : List (Int × Int)}, (∀ (i : Nat) (p q : Int × Int), l[i]? = some p → l[i + 1]? = some q → pltB p q = true) → risingB l = true
  | [], _ => rfl
  | [x], _ => rfl
  | x :: y :: l, h => by
    simp only [risingB, Bool.and_eq_true]
    exact ⟨h 0 x y rfl rfl, rising_good fun i p q h1 h2 => h (i + 1) p q (by simpa using h1) (by simpa using h2)⟩
end Go.Proofs

open Go Go.V
namespace Go.Proofs
def outV (n o : Nat) : V := if n = 0 then .t (.v (.slice none 0 0)) else .loc o 0 n
abbrev TBo (b : Bool) : T := .v (.bool b)
def bRow (n : Nat) (M : Mx) (a : Nat) : List T := (List.range n).map fun b => TBo (M a b)
structure RefR (s : Sg) (p n : Nat) (M : Mx) (o : Nat) (r : Nat → Nat) : Prop where
  hp : s.m p = some (.box 119 [I n, outV n o])
  ho : 0 < n → s.m o = some (.box 49 ((List.range n).map fun i => .loc (r i) 0 n))
  hr : ∀ i, i < n → s.m (r i) = some (.arr 1 4 (bRow n M i))
  inj : ∀ i j, i < n → j < n → r i = r j → i = j
  le : n ≤ 200
  lp : p < s.next
  lo : 0 < n → o < s.next
  lr : ∀ i, i < n → r i < s.next
theorem get_range {α : Type} (f : Nat → α) {n i : Nat} (h : i < n) : ((List.range n).map f)[i]? = some (f i) := by
  rw [List.getElem?_map, List.getElem?_range h]; rfl
set_option maxRecDepth 20000 in
theorem refIs_ (s : Sg) (p n : Nat) (v : V) (a : Int) (hp : s.m p = some (.box 119 [I n, v])) : DCall Tryd.prog 110 [.ptr p 0, I a] s (Bo (decide (0 ≤ a ∧ a < n))) (s) := by
  refine dcall_of_body Tryd.func110 rfl fun Q hQ => ?_
  obtain ⟨e, he, hl, h0, h1⟩ : ∃ e : Env, ([.ptr p 0, I a] ++ List.replicate (Tryd.f110.ntmps - ([.ptr p 0, I a] : List V).length) .junk) = e ∧ e.length = 15 ∧ ev e (.tmp 0) = .ptr p 0 ∧ ev e (.tmp 1) = I a := ⟨_, rfl, rfl, rfl, rfl⟩
  rw [he]
  clear he
  refine vsk fun K1 hK1 => ?_
  refine vw_sc 0 [] ?_
  simp only [bs, ↓vopx, ↓vop, thenV, flat, wocs, ↓goc, ↓woc, ↓vopm0]
  refine hK1 _ _ ?_
  refine vsk fun K2 hK2 => ?_
  rcases Decidable.em (0 ≤ a) with ha | ha
  · refine vw_sc 0 [] ?_
    simp only [bs, dSure, ↓vopx, ↓vop, Nat.reduceBEq, thenV, flat, Nat.reduceLT, dLoad, vpart, opII, gtmp, hl, h0, h1, wocs, ↓goc, ↓woc, ↓vopm0, ↓pick_tt, Tryd.ag3, Tryd.fd119_0, Tryd.sz3, hp, ha]
    refine hK2 _ _ ?_
    refine vw_ret ?_
    refine hQ _ _ _ (.inr rfl) (Done.toS (done_tmp ?_ fun n b hn h => h))
    simp only [ev_hit, lpv, hl, Nat.reduceLT]
    simp [ha]
  · refine vw_sc 0 [] ?_
    simp only [bs, ↓vopx, ↓vop, Nat.reduceBEq, thenV, flat, Nat.reduceLT, opII, gtmp, hl, h1, wocs, ↓goc, ↓woc, ↓vopm0, ↓pick_ft, ha]
    refine hK2 _ _ ?_
    refine vw_ret ?_
    refine hQ _ _ _ (.inr rfl) (Done.toS (done_tmp ?_ fun n b hn h => h))
    simp only [ev_hit, lpv, hl, Nat.reduceLT]
    simp [ha]
end Go.Proofs

open Go Go.V
namespace Go.Proofs
theorem far_bneq (x y : Operand) (a b : Bool) : opFar .neq (Bo a) (Bo b) Tryd.prog 4 x y (.bool (a != b)) := .inl ⟨_, _, rfl, rfl, by cases a <;> cases b <;> kernel_rfl⟩
def mxEqB (n : Nat) (M M' : Mx) : Bool := (List.range n).all fun a => (List.range n).all fun b => M a b == M' a b
theorem mxEq_bad {n : Nat} {M M' : Mx} {a b : Nat} (ha : a < n) (hb : b < n) (h : M a b ≠ M' a b) : mxEqB n M M' = false := by
  rw [Bool.eq_false_iff]
  intro hh
  simp only [mxEqB, List.all_eq_true, List.mem_range, beq_iff_eq] at hh
  exact h (hh a ha b hb)
theorem mxEq_good {n : Nat} {M M' : Mx} (h : ∀ a b, a < n → b < n → M a b = M' a b) : mxEqB n M M' = true := by
  simp only [mxEqB, List.all_eq_true, List.mem_range, beq_iff_eq]
  exact fun a ha b hb => h a b ha hb
set_option maxRecDepth 20000 in
theorem refSame_ (s : Sg) (p n : Nat) (M : Mx) (o : Nat) (r : Nat → Nat) (h : RefR s p n M o r) (p1 : Nat) (M1 : Mx) (o1 : Nat) (r1 : Nat → Nat) (h' : RefR s p1 n M1 o1 r1) : DCall Tryd.prog 128 [.ptr p 0, .ptr p1 0] s (Bo (mxEqB n M M1)) (s) := by
  refine dcall_of_body Tryd.func128 rfl fun Q hQ => ?_
  obtain ⟨e, he, hl, h0, h1⟩ : ∃ e : Env, ([.ptr p 0, .ptr p1 0] ++ List.replicate (Tryd.f128.ntmps - ([.ptr p 0, .ptr p1 0] : List V).length) .junk) = e ∧ e.length = 53 ∧ ev e (.tmp 0) = .ptr p 0 ∧ ev e (.tmp 1) = .ptr p1 0 := ⟨_, rfl, rfl, rfl, rfl⟩
  rw [he]
  clear he
  have hnle := h.le
  refine vsk fun K1 hK1 => ?_
  refine vw_sc 0 [] ?_
  simp only [bs, ↓vopx, ↓vop, thenV, flat, wocs, ↓goc, ↓woc, ↓vopm0]
  refine hK1 _ _ ?_
  refine vsk fun K2 hK2 => ?_
  refine vsk fun K3 hK3 => ?_
  refine vw_chain Tryd.mixed 8 [0, 0, 0, 1, 0, 0, 0, 1] [] [] 0 (by decide +kernel) (by simp [lpv, hl]) rfl ?_
  simp only [bs, dSure, ↓vopx, ↓vop, Nat.reduceBEq, thenV, Nat.reduceLT, dLoad, vpart, opII, opSS, hl, h0, h1, wocs, ↓goc, ↓woc, ↓vopm1, ↓farC, chn, ↓goq, ↓woq, List.zip_cons_cons, List.zip_nil_right, Tryd.ag3, Tryd.fd119_0, Tryd.sz3, h.hp, h'.hp, bne_self_eq_false]
  refine hK3 _ _ ?_
  refine vck fun A B hA hB => ?_
  simp only [condV, ev_hit, lpv, Nat.reduceLT, true_implies, reduceCtorEq, false_implies, true_and, hl]
  refine hB ?_
  clear hA hB A B
  refine vw_skip ?_
  refine hK2 _ _ ?_
  refine vsk fun K4 hK4 => ?_
  refine vsk fun K5 hK5 => ?_
  refine vw_sc 0 [] ?_
  simp only [bs, ↓vopx, ↓vop, thenV, flat, wocs, ↓goc, ↓woc, ↓vopm0]
  refine hK5 _ _ ?_
  refine vw_block ?_
  refine vw_loop (fun mm e' s' => ∃ a : Nat, mm = n - a ∧ a ≤ n ∧ e'.length = 53 ∧ ev e' (.tmp 0) = .ptr p 0 ∧ ev e' (.tmp 1) = .ptr p1 0 ∧ ev e' (.tmp 5) = I a ∧ s = s' ∧ ∀ x y, x < a → y < n → M x y = M1 x y) (⟨0, rfl, Nat.zero_le _, ?_⟩) ?_
  · try simp only [ev_hit, ev_miss, Nat.reduceBEq, lpv, hl, h0, h1, Nat.reduceLT, true_and]
    repeat ((with_reducible refine And.intro ?_ ?_); · trivial)
    exact fun x y hx => by omega
  rintro mm e _ ⟨a, rfl, hle_a, hl, h0, h1, h_a, rfl, ha⟩
  refine vsk fun K6 hK6 => ?_
  refine vsk fun K7 hK7 => ?_
  refine vw_sc 0 [] ?_
  simp only [bs, dSure, ↓vopx, ↓vop, Nat.reduceBEq, thenV, Nat.reduceLT, dLoad, vpart, opII, hl, h0, h_a, wocs, ↓goc, ↓woc, ↓vopm0, Tryd.ag3, Tryd.fd119_0, Tryd.sz3, h.hp]
  refine hK7 _ _ ?_
  refine vck fun A B hA hB => ?_
  simp only [condV, ev_hit, lpv, Nat.reduceLT, decide_eq_true_eq, decide_eq_false_iff_not, hl]
  refine ⟨fun hc21 => hA ?_, fun hc21 => hB ?_⟩
  · clear hA hB A B
    refine vw_skip ?_
    refine hK6 _ _ ?_
    refine vsk fun K8 hK8 => ?_
    refine vw_block ?_
    refine vsk fun K9 hK9 => ?_
    refine vw_sc 0 [] ?_
    simp only [bs, ↓vopx, ↓vop, thenV, flat, wocs, ↓goc, ↓woc, ↓vopm0]
    refine hK9 _ _ ?_
    refine vw_block ?_
    refine vw_loop (fun mm e' s' => ∃ b : Nat, mm = n - b ∧ b ≤ n ∧ e'.length = 53 ∧ ev e' (.tmp 0) = .ptr p 0 ∧ ev e' (.tmp 1) = .ptr p1 0 ∧ ev e' (.tmp 5) = I a ∧ ev e' (.tmp 6) = I b ∧ s = s' ∧ ∀ y, y < b → M a y = M1 a y) (⟨0, rfl, Nat.zero_le _, ?_⟩) ?_
    · try simp only [ev_hit, ev_miss, Nat.reduceBEq, lpv, hl, h0, h1, h_a, Nat.reduceLT, true_and]
      repeat ((with_reducible refine And.intro ?_ ?_); · trivial)
      exact fun y hy => by omega
    rintro mm e _ ⟨b, rfl, hle_b, hl, h0, h1, h_a, h_b, rfl, hb⟩
    refine vsk fun K10 hK10 => ?_
    refine vsk fun K11 hK11 => ?_
    refine vw_sc 0 [] ?_
    simp only [bs, dSure, ↓vopx, ↓vop, Nat.reduceBEq, thenV, Nat.reduceLT, dLoad, vpart, opII, hl, h0, h_b, wocs, ↓goc, ↓woc, ↓vopm0, Tryd.ag3, Tryd.fd119_0, Tryd.sz3, h.hp]
    refine hK11 _ _ ?_
    refine vck fun A B hA hB => ?_
    simp only [condV, ev_hit, lpv, Nat.reduceLT, decide_eq_true_eq, decide_eq_false_iff_not, hl]
    refine ⟨fun hc29 => hA ?_, fun hc29 => hB ?_⟩
    · clear hA hB A B
      refine vw_skip ?_
      refine hK10 _ _ ?_
      refine vsk fun K12 hK12 => ?_
      refine vw_block ?_
      refine vsk fun K13 hK13 => ?_
      have hn : ¬ n = 0 := by omega
      have ho := h.ho (by omega)
      have hr := h.hr a (by omega)
      have ho1 := h'.ho (by omega)
      have hr1 := h'.hr a (by omega)
      have ga : (List.range n)[a]? = some a := List.getElem?_range (by omega)
      have gb : (List.range n)[b]? = some b := List.getElem?_range (by omega)
      refine vw_chain Tryd.mixed 20 [0, 0, 0, 1, 0, 1, 1, 0, 1, 1, 0, 0, 0, 1, 0, 1, 1, 0, 1, 1] [.far (.bool (M a b != M1 a b))] [] 0 (by decide +kernel) (by simp [lpv, hl]) rfl ?_
      simp only [bs, dSure, ↓vopx, ↓vop, Nat.reduceBEq, thenV, Nat.reduceLT, dLoad, vpart, opII, opSS, hl, h0, h1, h_a, h_b, wocs, ↓goc, ↓woc, ↓vopm1, ↓farC, chn, ↓goq, ↓woq, List.zip_cons_cons, List.zip_nil_right, Tryd.ag117, Tryd.ag4, Tryd.ag49, Tryd.fd119_1, Tryd.sz117, Tryd.sz4, Tryd.sz49, Tryd.un117, Tryd.un49, h.hp, h'.hp, outV, hn, ho, hr, ho1, hr1, ga, gb, bRow]
      repeat ((with_reducible refine And.intro ?_ ?_); · first | (with_reducible assumption) | exact far_bneq _ _ _ _)
      refine hK13 _ _ ?_
      refine vck fun A B hA hB => ?_
      simp only [condV, ev_hit, lpv, Nat.reduceLT, bne_iff_ne, bne_eq_false_iff_eq, ne_eq, hl]
      refine ⟨fun hc52 => hA ?_, fun hc52 => hB ?_⟩
      · clear hA hB A B
        refine vsk fun K14 hK14 => ?_
        refine vw_sc 0 [] ?_
        simp only [bs, ↓vopx, ↓vop, thenV, flat, wocs, ↓goc, ↓woc, ↓vopm0]
        refine hK14 _ _ ?_
        refine vw_ret ?_
        refine hQ _ _ _ (.inr rfl) (Done.toS (done_tmp ?_ fun n b hn h => h))
        try simp only [ev_hit, lpv, hl, Nat.reduceLT]
        rw [mxEq_bad (a := a) (b := b) (by omega) (by omega) hc52]
      · clear hA hB A B
        refine vw_skip ?_
        refine hK12 _ _ ?_
        refine vw_sc 0 [] ?_
        simp only [bs, ↓vopx, ↓vop, Nat.reduceBEq, thenV, flat, Nat.reduceLT, opII, hl, h0, h1, h_a, h_b, wocs, ↓goc, ↓woc, ↓vopm0]
        repeat ((with_reducible refine And.intro ?_ ?_); · exact ⟨by omega, by omega⟩)
        refine ⟨n - (b + 1), by omega, b + 1, rfl, by omega, ?_⟩
        try simp only [ev_hit, ev_miss, Nat.reduceBEq, lpv, hl, h0, h1, h_a, h_b, if_true, if_false, Nat.reduceEqDiff, Nat.reduceLT, true_and, and_true]
        repeat ((with_reducible refine And.intro ?_ ?_); · trivial)
        intro y hy
        rcases Nat.lt_succ_iff_lt_or_eq.1 hy with hy | rfl
        · exact hb y hy
        · exact hc52
    · clear hA hB A B
      have hbn : b = n := by omega
      refine vw_exit ?_
      simp only [thenV, blockV, if_true, if_false, Nat.reduceEqDiff, reduceCtorEq]
      refine hK8 _ _ ?_
      refine vw_sc 0 [] ?_
      simp only [bs, ↓vopx, ↓vop, Nat.reduceBEq, thenV, flat, Nat.reduceLT, opII, hl, h0, h1, h_a, wocs, ↓goc, ↓woc, ↓vopm0]
      repeat ((with_reducible refine And.intro ?_ ?_); · exact ⟨by omega, by omega⟩)
      refine ⟨n - (a + 1), by omega, a + 1, rfl, by omega, ?_⟩
      try simp only [ev_hit, ev_miss, Nat.reduceBEq, lpv, hl, h0, h1, h_a, if_true, if_false, Nat.reduceEqDiff, Nat.reduceLT, true_and, and_true]
      repeat ((with_reducible refine And.intro ?_ ?_); · trivial)
      intro x y hx hy
      rcases Nat.lt_succ_iff_lt_or_eq.1 hx with hx | rfl
      · exact ha x y hx hy
      · exact hb y (by omega)
  · clear hA hB A B
    have han : a = n := by omega
    subst han
    refine vw_exit ?_
    simp only [thenV, blockV, if_true]
    refine hK4 _ _ ?_
    refine vsk fun K15 hK15 => ?_
    refine vw_sc 0 [] ?_
    simp only [bs, ↓vopx, ↓vop, thenV, flat, wocs, ↓goc, ↓woc, ↓vopm0]
    refine hK15 _ _ ?_
    refine vw_ret ?_
    refine hQ _ _ _ (.inr rfl) (Done.toS (done_tmp ?_ fun n b hn h => h))
    try simp only [ev_hit, lpv, hl, Nat.reduceLT]
    rw [mxEq_good fun x y hx hy => ha x y hx hy]
end Go.Proofs

open Go Go.V
namespace Go.Proofs
structure FreshR (s : Sg) (p n o : Nat) (r : Nat → Nat) : Prop where
  hp : s.next ≤ p
  ho : 0 < n → s.next ≤ o
  hr : ∀ i, i < n → s.next ≤ r i
def NewR (s : Sg) (n : Nat) (M : Mx) (v : V) (s' : Sg) : Prop := ∃ p o r, v = .ptr p 0 ∧ RefR s' p n M o r ∧ FreshR s p n o r ∧ Keep s s' ∧ s.next ≤ s'.next
theorem bRow_length (n : Nat) (M : Mx) (a : Nat) : (bRow n M a).length = n := by simp [bRow]
theorem bRow_get {n : Nat} {M : Mx} {a b : Nat} (hb : b < n) : (bRow n M a)[b]? = some (TBo (M a b)) := get_range _ hb
theorem bRow_congr {n : Nat} {M M' : Mx} {a : Nat} (h : ∀ b, b < n → M a b = M' a b) : bRow n M a = bRow n M' a := by
  apply List.ext_getElem?
  intro j
  by_cases hj : j < n
  · rw [bRow_get hj, bRow_get hj, h j hj]
  · rw [List.getElem?_eq_none (by rw [bRow_length]; omega), List.getElem?_eq_none (by rw [bRow_length]; omega)]
theorem bRow_false (n a : Nat) : repl [TBo false] n = bRow n (fun _ _ => false) a := by
  rw [repl_one]
  apply List.ext_getElem?
  intro j
  by_cases hj : j < n
  · rw [bRow_get hj]; simp [hj]
  · rw [List.getElem?_eq_none (by simp; omega), List.getElem?_eq_none (by rw [bRow_length]; omega)]
def updM (M : Mx) (a b : Nat) (v : Bool) : Mx := fun x y => if x = a ∧ y = b then v else M x y
theorem bRow_put {n : Nat} {M : Mx} {a b : Nat} {v : Bool} (hb : b < n) : setAll (bRow n M a) b [TBo v] = bRow n (updM M a b v) a := by
  rw [setAll_one _ _ _ (by rw [bRow_length]; exact hb)]
  apply List.ext_getElem?
  intro j
  by_cases hj : j < n
  · rw [bRow_get hj, List.getElem?_set, bRow_length, bRow_get hj]
    by_cases hbj : b = j
    · subst hbj; simp [updM, hb]
    · simp [updM, hbj, Ne.symm hbj]
  · rw [List.getElem?_eq_none (by rw [List.length_set, bRow_length]; omega), List.getElem?_eq_none (by rw [bRow_length]; omega)]
theorem RefR.congr {s : Sg} {p n : Nat} {M M' : Mx} {o : Nat} {r : Nat → Nat} (h : RefR s p n M o r) (hm : ∀ x y, x < n → y < n → M x y = M' x y) : RefR s p n M' o r :=
  ⟨h.hp, h.ho, fun i hi => by rw [h.hr i hi, bRow_congr fun b hb => hm i b hi hb], h.inj, h.le, h.lp, h.lo, h.lr⟩
theorem RefR.put {s : Sg} {p n : Nat} {M : Mx} {o : Nat} {r : Nat → Nat} (h : RefR s p n M o r) {a b : Nat} (ha : a < n) (hb : b < n) (v : Bool) :
    RefR (s.set (r a) (.arr 1 4 (setAll (bRow n M a) b [TBo v]))) p n (updM M a b v) o r := by
  have h1 : p ≠ r a := fun e => by have := h.hp; rw [e, h.hr a ha] at this; cases this
  have h2 : o ≠ r a := fun e => by have := h.ho (by omega); rw [e, h.hr a ha] at this; cases this
  refine ⟨by simp [Sg.set, h1, h.hp], fun hn => by simp [Sg.set, h2, h.ho hn], fun i hi => ?_, h.inj, h.le, h.lp, h.lo, h.lr⟩
  by_cases hia : i = a
  · subst hia
    simp only [Sg.set, if_true]
    rw [bRow_put hb]
  · have h3 : r i ≠ r a := fun e => hia (h.inj i a hi ha e)
    simp only [Sg.set, h3, if_false]
    rw [h.hr i hi, bRow_congr fun y hy => ?_]
    simp [updM, hia]
theorem RefR.keep {s s' : Sg} {p n : Nat} {M : Mx} {o : Nat} {r : Nat → Nat} (h : RefR s p n M o r) (hk : Keep s s') (hn : s.next ≤ s'.next) : RefR s' p n M o r :=
  ⟨hk _ _ h.lp h.hp, fun hn0 => hk _ _ (h.lo hn0) (h.ho hn0), fun i hi => hk _ _ (h.lr i hi) (h.hr i hi), h.inj, h.le, Nat.lt_of_lt_of_le h.lp hn, fun hn0 => Nat.lt_of_lt_of_le (h.lo hn0) hn, fun i hi => Nat.lt_of_lt_of_le (h.lr i hi) hn⟩
structure PartR (s : Sg) (N p n i o : Nat) (r : Nat → Nat) : Prop where
  hp : s.m p = some (.box 119 [I n, outV i o])
  ho : 0 < i → s.m o = some (.box 49 ((List.range i).map fun i => .loc (r i) 0 n))
  hr : ∀ j, j < i → s.m (r j) = some (.arr 1 4 (bRow n (fun _ _ => false) j))
  inj : ∀ j k, j < i → k < i → r j = r k → j = k
  lp : p < s.next
  lo : 0 < i → o < s.next
  lr : ∀ j, j < i → r j < s.next
  fp : N ≤ p
  fo : 0 < i → N ≤ o
  fr : ∀ j, j < i → N ≤ r j
def newN (n : Int) : Nat := (max 0 (min n 200)).toNat
theorem newN_cast (n : Int) : ((newN n : Nat) : Int) = max 0 (min n 200) := by unfold newN; omega
theorem newN_le (n : Int) : newN n ≤ 200 := by unfold newN; omega
theorem newN_nat {n : Nat} (h : n ≤ 200) : newN n = n := by unfold newN; omega
theorem PartR.step {s : Sg} {N p n i o : Nat} {r : Nat → Nat} (h : PartR s N p n i o r) {cells : List V} (hc : cells = (List.range i).map fun i => .loc (r i) 0 n) {s1 : Sg} (hs1n : s1.next = s.next + 2)
    (hs1 : ∀ m, m < s.next → m ≠ o → s1.m m = s.m m) (hs2 : s1.m s.next = some (.arr 1 4 (bRow n (fun _ _ => false) i))) :
    PartR ((s1.add (.box 49 (cells ++ [.loc s.next 0 n]))).set p (.box 119 [I n, .loc s1.next 0 (i + 1)])) N p n (i + 1) s1.next (fun j => if j = i then s.next else r j) := by
  subst hc
  have hpn := h.lp
  have hpr : ∀ j, j < i → r j ≠ p := fun j hj e => by have := h.hr j hj; rw [e, h.hp] at this; cases this
  have hor : ∀ j, j < i → r j ≠ o := fun j hj e => by have := h.hr j hj; rw [e, h.ho (by omega)] at this; cases this
  refine ⟨?_, fun _ => ?_, fun j hj => ?_, fun j k hj hk e => ?_, ?_, fun _ => ?_, fun j hj => ?_, h.fp, fun _ => ?_, fun j hj => ?_⟩
  · simp [Sg.set, outV]
  · have e1 : s1.next ≠ p := by omega
    simp only [Sg.set, Sg.add, e1, if_false, if_true]
    rw [List.range_succ, List.map_append, List.map_singleton, if_pos rfl]
    congr 3
    apply List.map_congr_left
    intro j hj
    have : j ≠ i := by have := List.mem_range.1 hj; omega
    rw [if_neg this]
  · by_cases hji : j = i
    · subst hji
      have e1 : s.next ≠ p := by omega
      have e2 : s.next ≠ s1.next := by omega
      simp only [Sg.set, Sg.add, if_true, e1, e2, if_false]
      exact hs2
    · have hj' : j < i := by omega
      have l1 := h.lr j hj'
      have e2 : r j ≠ s1.next := by omega
      simp only [Sg.set, Sg.add, hji, hpr j hj', e2, if_false]
      rw [hs1 _ l1 (hor j hj')]
      exact h.hr j hj'
  · by_cases hji : j = i <;> by_cases hki : k = i
    · omega
    · have := h.lr k (by omega); simp only [hji, hki, if_true, if_false] at e; omega
    · have := h.lr j (by omega); simp only [hji, hki, if_true, if_false] at e; omega
    · simp only [hji, hki, if_false] at e
      exact h.inj j k (by omega) (by omega) e
  · simp only [Sg.set, Sg.add]; omega
  · simp only [Sg.set, Sg.add]; omega
  · by_cases hji : j = i
    · simp only [hji, if_true, Sg.set, Sg.add]; omega
    · have := h.lr j (by omega); simp only [hji, if_false, Sg.set, Sg.add]; omega
  · have := h.fp; omega
  · by_cases hji : j = i
    · have := h.fp; simp only [hji, if_true]; omega
    · simp only [hji, if_false]; exact h.fr j (by omega)
theorem PartR.done {s : Sg} {N p n o : Nat} {r : Nat → Nat} (h : PartR s N p n n o r) (hn : n ≤ 200) : RefR s p n (fun _ _ => false) o r := ⟨h.hp, h.ho, h.hr, h.inj, hn, h.lp, h.lo, h.lr⟩
set_option maxRecDepth 20000 in
theorem refNew_ (s : Sg) (n : Int) : VCall Tryd.prog 91 [I n] s (NewR s (newN n) (fun _ _ => false)) := by
  refine kcall_of_body Tryd.func91 rfl fun Q hQ => ?_
  obtain ⟨e, he, hl, h0⟩ : ∃ e : Env, ([I n] ++ List.replicate (Tryd.f91.ntmps - ([I n] : List V).length) .junk) = e ∧ e.length = 33 ∧ ev e (.tmp 0) = I n := ⟨_, rfl, rfl, rfl⟩
  rw [he]
  clear he
  have hnc := newN_cast n
  have hnl := newN_le n
  refine vsk fun K1 hK1 => ?_
  refine vw_sc 0 [] ?_
  simp only [bs, ↓vopx, ↓vop, thenV, flat, wocs, ↓goc, ↓woc, ↓vopm0]
  refine hK1 _ _ ?_
  refine vsk fun K2 hK2 => ?_
  refine vw_sc 0 [] ?_
  simp only [bs, Nat.reduceLeDiff, Nat.reduceAdd, vparts, gfill, ↓vopx, ↓vop, Nat.reduceBEq, thenV, flat, Nat.reduceLT, V.cells, hl, h0, wocs, ↓goc, ↓woc, ↓vopm0, Tryd.st119, ← newN_cast]
  refine hK2 _ _ ?_
  refine vsk fun K3 hK3 => ?_
  refine vsk fun K4 hK4 => ?_
  refine vw_sc 0 [] ?_
  simp only [bs, ↓vopx, ↓vop, thenV, flat, wocs, ↓goc, ↓woc, ↓vopm0]
  refine hK4 _ _ ?_
  refine vw_block ?_
  refine vw_loop (fun mm e' s' => ∃ i : Nat, mm = newN n - i ∧ i ≤ newN n ∧ e'.length = 33 ∧ ev e' (.tmp 3) = .ptr s.next 0 ∧ ev e' (.tmp 4) = I i ∧ True ∧ ∃ o r, PartR s' s.next s.next (newN n) i o r ∧ Keep s s' ∧ s.next ≤ s'.next) (⟨0, rfl, Nat.zero_le _, ?_⟩) ?_
  · try simp only [ev_hit, ev_miss, Nat.reduceBEq, lpv, hl, Nat.reduceLT, true_and]
    repeat ((with_reducible refine And.intro ?_ ?_); · trivial)
    exact ⟨0, fun _ => 0, ⟨by simp [Sg.add, outV], fun h => by omega, fun j h => by omega, fun j k h => by omega, by simp [Sg.add], fun h => by omega, fun j h => by omega, Nat.le_refl _, fun h => by omega, fun j h => by omega⟩, (Keep.refl s).add (Nat.le_refl _) _, by simp [Sg.add]⟩
  rintro mm e s1 ⟨i, rfl, hle_i, hl, h3, h_i, hst, ⟨o, r, hpart, hkeep, hnx⟩⟩
  refine vsk fun K5 hK5 => ?_
  refine vsk fun K6 hK6 => ?_
  refine vw_sc 0 [] ?_
  simp only [bs, dSure, ↓vopx, ↓vop, Nat.reduceBEq, thenV, Nat.reduceLT, dLoad, vpart, opII, hl, h3, h_i, wocs, ↓goc, ↓woc, ↓vopm0, Tryd.ag3, Tryd.fd119_0, Tryd.sz3, hpart.hp]
  refine hK6 _ _ ?_
  refine vck fun A B hA hB => ?_
  simp only [condV, ev_hit, lpv, Nat.reduceLT, decide_eq_true_eq, decide_eq_false_iff_not, hl]
  refine ⟨fun hc15 => hA ?_, fun hc15 => hB ?_⟩
  · clear hA hB A B
    refine vw_skip ?_
    refine hK5 _ _ ?_
    refine vsk fun K7 hK7 => ?_
    refine vw_block ?_
    have hlp := hpart.lp
    have hne0 : ¬ s.next = s1.next := by omega
    have hne1 : ¬ s.next = s1.next + 1 := by omega
    have hne2 : ¬ s.next = s1.next + 2 := by omega
    have hne3 : ¬ s.next = s1.next + 3 := by omega
    rcases Nat.eq_zero_or_pos i with hi0 | hi0
    · have ho0 : outV i o = .t (.v (.slice none 0 0)) := by simp [outV, hi0]
      refine vw_chain Tryd.mixed 12 [0, 0, 0, 0, 2, 0, 0, 0, 1, 3, 4, 6] [] [] 0 (by decide +kernel) (by simp [lpv, hl]) rfl ?_
      simp only [bs, Nat.reduceLeDiff, Nat.reduceAdd, vparts, gfill, repl, dSure, ↓vopx, ↓vop, Nat.reduceBEq, thenV, blockV, Nat.reduceLT, V.cells, dLoad, vpart, hl, h3, wocs, ↓goc, ↓woc, ↓vopm0, ↓vopm1, ↓vopm2, chn, ↓goq, ↓woq, List.zip_cons_cons, List.zip_nil_right, ↓vopb, srcB, dstB, Tryd.ag117, Tryd.ag3, Tryd.fd119_0, Tryd.fd119_1, Tryd.sl117, Tryd.sl49, Tryd.sz117, Tryd.sz3, Nat.add_assoc, hne0, hne1, hne2, ho0, hpart.hp]
      repeat ((with_reducible refine And.intro ?_ ?_); · first | omega | (repeat' first | exact Keep.refl _ | refine Keep.add ?_ ?_ _ | refine Keep.set ?_ ?_ _ | exact Nat.le_refl _ | (simp only [Sg.add]; omega)))
      refine hK7 _ _ ?_
      refine vw_sc 0 [] ?_
      simp only [bs, ↓vopx, ↓vop, Nat.reduceBEq, thenV, flat, Nat.reduceLT, opII, hl, h3, h_i, wocs, ↓goc, ↓woc, ↓vopm0]
      repeat ((with_reducible refine And.intro ?_ ?_); · exact ⟨by omega, by omega⟩)
      refine ⟨newN n - (i + 1), by omega, i + 1, rfl, by omega, ?_⟩
      try simp only [ev_hit, ev_miss, Nat.reduceBEq, lpv, hl, h3, h_i, if_true, if_false, Nat.reduceEqDiff, Nat.reduceLT, true_and, and_true]
      repeat ((with_reducible refine And.intro ?_ ?_); · trivial)
      first
      | (subst hi0; exact ⟨_, _, hpart.step (cells := []) rfl (s1 := (s1.add (.arr 1 4 (repl [TBo false] (newN n)))).add (.box 49 [.loc s1.next 0 (newN n)])) rfl (fun m h1 h2 => by simp [Sg.add, show ¬ m = s1.next from by omega, show ¬ m = s1.next + 1 from by omega]) (by simp [Sg.add, bRow_false _ 0]), (((hkeep.add hnx _).add (by simp only [n_add]; omega) _).add (by simp only [n_add]; omega) _).set (Nat.le_refl _) _, by omega⟩)
      | exact ⟨_, _, hpart.step rfl (s1 := ((s1.add (.arr 1 4 (repl [TBo false] (newN n)))).add (.box 49 [.loc s1.next 0 (newN n)])).del o) rfl (fun m h1 h2 => by simp [Sg.add, Sg.del, h2, show ¬ m = s1.next from by omega, show ¬ m = s1.next + 1 from by omega]) (by simp [Sg.add, Sg.del, bRow_false _ i, show ¬ s1.next = o from by omega]), ((((hkeep.add hnx _).add (by simp only [n_add]; omega) _).del (hpart.fo hi0)).add (by simp only [n_add, n_del]; omega) _).set (Nat.le_refl _) _, by omega⟩
    · have hlo := hpart.lo hi0
      have hoo := hpart.ho hi0
      have hi1 : outV i o = .loc o 0 i := by simp [outV, show ¬ i = 0 from by omega]
      have hpo : ¬ s.next = o := fun e => by have := hpart.hp; rw [e, hoo] at this; cases this
      have hno0 : ¬ o = s1.next := by omega
      have hno1 : ¬ o = s1.next + 1 := by omega
      refine vw_chain Tryd.mixed 12 [0, 0, 0, 0, 2, 0, 0, 0, 1, 3, 4, 6] [] [] 0 (by decide +kernel) (by simp [lpv, hl]) rfl ?_
      simp only [bs, Nat.reduceLeDiff, Nat.reduceAdd, vparts, gfill, repl, dSure, ↓vopx, ↓vop, Nat.reduceBEq, thenV, blockV, Nat.reduceLT, V.cells, dLoad, vpart, hl, h3, wocs, ↓goc, ↓woc, ↓vopm0, ↓vopm1, ↓vopm2, chn, ↓goq, ↓woq, List.zip_cons_cons, List.zip_nil_right, ↓vopb, srcB, dstB, Tryd.ag117, Tryd.ag3, Tryd.fd119_0, Tryd.fd119_1, Tryd.sl117, Tryd.sl49, Tryd.sz117, Tryd.sz3, Nat.add_assoc, hne0, hne1, hne2, hpart.hp, hi1, hoo, hpo, hno0, hno1]
      repeat ((with_reducible refine And.intro ?_ ?_); · first | omega | (repeat' first | exact Keep.refl _ | refine Keep.add ?_ ?_ _ | refine Keep.set ?_ ?_ _ | exact Nat.le_refl _ | (simp only [Sg.add]; omega)))
      refine hK7 _ _ ?_
      refine vw_sc 0 [] ?_
      simp only [bs, ↓vopx, ↓vop, Nat.reduceBEq, thenV, flat, Nat.reduceLT, opII, hl, h3, h_i, wocs, ↓goc, ↓woc, ↓vopm0]
      repeat ((with_reducible refine And.intro ?_ ?_); · exact ⟨by omega, by omega⟩)
      refine ⟨newN n - (i + 1), by omega, i + 1, rfl, by omega, ?_⟩
      try simp only [ev_hit, ev_miss, Nat.reduceBEq, lpv, hl, h3, h_i, if_true, if_false, Nat.reduceEqDiff, Nat.reduceLT, true_and, and_true]
      repeat ((with_reducible refine And.intro ?_ ?_); · trivial)
      first
      | (subst hi0; exact ⟨_, _, hpart.step (cells := []) rfl (s1 := (s1.add (.arr 1 4 (repl [TBo false] (newN n)))).add (.box 49 [.loc s1.next 0 (newN n)])) rfl (fun m h1 h2 => by simp [Sg.add, show ¬ m = s1.next from by omega, show ¬ m = s1.next + 1 from by omega]) (by simp [Sg.add, bRow_false _ 0]), (((hkeep.add hnx _).add (by simp only [n_add]; omega) _).add (by simp only [n_add]; omega) _).set (Nat.le_refl _) _, by omega⟩)
      | exact ⟨_, _, hpart.step rfl (s1 := ((s1.add (.arr 1 4 (repl [TBo false] (newN n)))).add (.box 49 [.loc s1.next 0 (newN n)])).del o) rfl (fun m h1 h2 => by simp [Sg.add, Sg.del, h2, show ¬ m = s1.next from by omega, show ¬ m = s1.next + 1 from by omega]) (by simp [Sg.add, Sg.del, bRow_false _ i, show ¬ s1.next = o from by omega]), ((((hkeep.add hnx _).add (by simp only [n_add]; omega) _).del (hpart.fo hi0)).add (by simp only [n_add, n_del]; omega) _).set (Nat.le_refl _) _, by omega⟩
  · clear hA hB A B
    have hin : i = newN n := by omega
    subst hin
    refine vw_exit ?_
    simp only [thenV, blockV, if_true]
    refine hK3 _ _ ?_
    refine vsk fun K8 hK8 => ?_
    refine vw_sc 0 [] ?_
    simp only [bs, ↓vopx, ↓vop, Nat.reduceBEq, thenV, Nat.reduceLT, hl, h3, wocs, ↓goc, ↓woc, ↓vopm0]
    refine hK8 _ _ ?_
    refine vw_ret ?_
    refine hQ _ _ _ (.inr rfl) (donek_tmp (v := .ptr s.next 0) ?_ rfl ⟨s.next, o, r, rfl, hpart.done hnl, ⟨hpart.fp, hpart.fo, hpart.fr⟩, hkeep, hnx⟩)
    try simp only [ev_hit, lpv, hl, Nat.reduceLT]
end Go.Proofs

open Go Go.V
namespace Go.Proofs
def cpB (M : Mx) (a b : Nat) : Mx := fun x y => decide (x < a ∨ (x = a ∧ y < b)) && M x y
theorem cpB_put (M : Mx) (a b : Nat) (x y : Nat) : updM (cpB M a b) a b (M a b) x y = cpB M a (b + 1) x y := by
  unfold updM cpB
  by_cases h : x = a ∧ y = b
  · obtain ⟨rfl, rfl⟩ := h; simp
  · rw [if_neg h]
    congr 1
    apply decide_eq_decide.2
    omega
set_option maxRecDepth 20000 in
theorem refCopy_ (s : Sg) (p n : Nat) (M : Mx) (o : Nat) (r : Nat → Nat) (h : RefR s p n M o r) : VCall Tryd.prog 142 [.ptr p 0] s (NewR s n M) := by
  refine kcall_of_body Tryd.func142 rfl fun Q hQ => ?_
  obtain ⟨e, he, hl, h0⟩ : ∃ e : Env, ([.ptr p 0] ++ List.replicate (Tryd.f142.ntmps - ([.ptr p 0] : List V).length) .junk) = e ∧ e.length = 47 ∧ ev e (.tmp 0) = .ptr p 0 := ⟨_, rfl, rfl, rfl⟩
  rw [he]
  clear he
  have hnl := h.le
  have hnn := newN_nat hnl
  refine vsk fun K1 hK1 => ?_
  refine vw_sc 0 [] ?_
  simp only [bs, ↓vopx, ↓vop, thenV, flat, wocs, ↓goc, ↓woc, ↓vopm0]
  refine hK1 _ _ ?_
  refine vsk fun K2 hK2 => ?_
  refine vw_sc 0 [.stop] ?_
  simp only [bs, Nat.reduceAdd, dSure, ↓vopx, ↓vop, Nat.reduceBEq, thenV, Nat.reduceLT, dLoad, vpart, hl, h0, wocs, ↓goc, ↓woc, ↓vopm0, ↓callC, calleeV, Tryd.ag3, Tryd.fd119_0, Tryd.sz3, h.hp]
  refine ⟨Tryd.is91, (refNew_ s n).mono fun v s2 hv => ?_⟩
  rw [hnn] at hv
  obtain ⟨c, o1, r1, rfl, hR, hF, hk, hnx⟩ := hv
  try simp only [bs, Nat.reduceBEq, Nat.reduceLT, hl, h0, Hold]
  refine hK2 _ _ ?_
  refine vsk fun K3 hK3 => ?_
  refine vsk fun K4 hK4 => ?_
  refine vw_sc 0 [] ?_
  simp only [bs, ↓vopx, ↓vop, thenV, flat, wocs, ↓goc, ↓woc, ↓vopm0]
  refine hK4 _ _ ?_
  refine vw_block ?_
  refine vw_loop (fun mm e' s' => ∃ a : Nat, mm = n - a ∧ a ≤ n ∧ e'.length = 47 ∧ ev e' (.tmp 0) = .ptr p 0 ∧ ev e' (.tmp 3) = .ptr c 0 ∧ ev e' (.tmp 4) = I a ∧ True ∧ RefR s' c n (cpB M a 0) o1 r1 ∧ Keep s s' ∧ s.next ≤ s'.next) (⟨0, rfl, Nat.zero_le _, ?_⟩) ?_
  · try simp only [ev_hit, ev_miss, Nat.reduceBEq, lpv, hl, h0, Nat.reduceLT, true_and]
    repeat ((with_reducible refine And.intro ?_ ?_); · trivial)
    exact ⟨hR.congr fun x y hx hy => by simp [cpB], hk, hnx⟩
  rintro mm e s1 ⟨a, rfl, hle_a, hl, h0, h3, h_a, hst, ⟨hd, hkeep, hnx⟩⟩
  refine vsk fun K5 hK5 => ?_
  refine vsk fun K6 hK6 => ?_
  have hs := h.keep hkeep hnx
  refine vw_sc 0 [] ?_
  simp only [bs, dSure, ↓vopx, ↓vop, Nat.reduceBEq, thenV, Nat.reduceLT, dLoad, vpart, opII, hl, h0, h_a, wocs, ↓goc, ↓woc, ↓vopm0, Tryd.ag3, Tryd.fd119_0, Tryd.sz3, hs.hp]
  refine hK6 _ _ ?_
  refine vck fun A B hA hB => ?_
  simp only [condV, ev_hit, lpv, Nat.reduceLT, decide_eq_true_eq, decide_eq_false_iff_not, hl]
  refine ⟨fun hc16 => hA ?_, fun hc16 => hB ?_⟩
  · clear hA hB A B
    refine vw_skip ?_
    refine hK5 _ _ ?_
    refine vsk fun K7 hK7 => ?_
    refine vw_block ?_
    refine vsk fun K8 hK8 => ?_
    refine vw_sc 0 [] ?_
    simp only [bs, ↓vopx, ↓vop, thenV, flat, wocs, ↓goc, ↓woc, ↓vopm0]
    refine hK8 _ _ ?_
    refine vw_block ?_
    refine vw_loop (fun mm e' s' => ∃ b : Nat, mm = n - b ∧ b ≤ n ∧ e'.length = 47 ∧ ev e' (.tmp 0) = .ptr p 0 ∧ ev e' (.tmp 3) = .ptr c 0 ∧ ev e' (.tmp 4) = I a ∧ ev e' (.tmp 5) = I b ∧ True ∧ RefR s' c n (cpB M a b) o1 r1 ∧ Keep s s' ∧ s.next ≤ s'.next) (⟨0, rfl, Nat.zero_le _, ?_⟩) ?_
    · try simp only [ev_hit, ev_miss, Nat.reduceBEq, lpv, hl, h0, h3, h_a, Nat.reduceLT, true_and]
      repeat ((with_reducible refine And.intro ?_ ?_); · trivial)
      first | exact hnx | exact ⟨hd, hkeep, hnx⟩
    rintro mm e s1 ⟨b, rfl, hle_b, hl, h0, h3, h4, h_b, hst, ⟨hd, hkeep, hnx⟩⟩
    refine vsk fun K9 hK9 => ?_
    refine vsk fun K10 hK10 => ?_
    have hs := h.keep hkeep hnx
    refine vw_sc 0 [] ?_
    simp only [bs, dSure, ↓vopx, ↓vop, Nat.reduceBEq, thenV, Nat.reduceLT, dLoad, vpart, opII, hl, h0, h_b, wocs, ↓goc, ↓woc, ↓vopm0, Tryd.ag3, Tryd.fd119_0, Tryd.sz3, hs.hp]
    refine hK10 _ _ ?_
    refine vck fun A B hA hB => ?_
    simp only [condV, ev_hit, lpv, Nat.reduceLT, decide_eq_true_eq, decide_eq_false_iff_not, hl]
    refine ⟨fun hc24 => hA ?_, fun hc24 => hB ?_⟩
    · clear hA hB A B
      refine vw_skip ?_
      refine hK9 _ _ ?_
      refine vsk fun K11 hK11 => ?_
      refine vw_block ?_
      have hs := h.keep hkeep hnx
      have xp := hs.hp
      have xv : outV n o = .loc o 0 n := by simp [outV, show ¬ n = 0 from by omega]
      have xo := hs.ho (by omega)
      have xr := hs.hr a (by omega)
      have xb := bRow_get (n := n) (M := M) (a := a) (b := b) (by omega)
      have xg : (List.range n)[a]? = some a := List.getElem?_range (by omega)
      have yp := hd.hp
      have yv : outV n o1 = .loc o1 0 n := by simp [outV, show ¬ n = 0 from by omega]
      have yo := hd.ho (by omega)
      have yr := hd.hr a (by omega)
      have yb := bRow_get (n := n) (M := cpB M a b) (a := a) (b := b) (by omega)
      have yg : (List.range n)[a]? = some a := List.getElem?_range (by omega)
      refine vw_chain Tryd.mixed 18 [0, 0, 0, 1, 0, 1, 1, 0, 0, 0, 0, 1, 0, 1, 1, 0, 1, 1] [] [] 0 (by decide +kernel) (by simp [lpv, hl]) rfl ?_
      simp only [bs, dSure, ↓vopx, ↓vop, Nat.reduceBEq, thenV, blockV, Nat.reduceLT, V.cells, dLoad, vpart, Sg.frzL, Sg.frz1, hl, h0, h3, h4, h_b, wocs, ↓goc, ↓woc, ↓vopm0, ↓vopm1, chn, ↓goq, ↓woq, List.zip_cons_cons, List.zip_nil_right, Tryd.ag117, Tryd.ag4, Tryd.ag49, Tryd.fd119_1, Tryd.sz117, Tryd.sz4, Tryd.sz49, Tryd.un117, Tryd.un49, xp, xv, xo, xr, xb, xg, bRow_length, yp, yv, yo, yr]
      repeat ((with_reducible refine And.intro ?_ ?_); · first | (with_reducible assumption) | omega)
      refine hK11 _ _ ?_
      refine vw_sc 0 [] ?_
      simp only [bs, ↓vopx, ↓vop, Nat.reduceBEq, thenV, flat, Nat.reduceLT, opII, hl, h0, h3, h4, h_b, wocs, ↓goc, ↓woc, ↓vopm0]
      repeat ((with_reducible refine And.intro ?_ ?_); · exact ⟨by omega, by omega⟩)
      refine ⟨n - (b + 1), by omega, b + 1, rfl, by omega, ?_⟩
      try simp only [ev_hit, ev_miss, Nat.reduceBEq, lpv, hl, h0, h3, h4, h_b, if_true, if_false, Nat.reduceEqDiff, Nat.reduceLT, true_and, and_true]
      repeat ((with_reducible refine And.intro ?_ ?_); · trivial)
      exact ⟨(hd.put (by omega) (by omega) _).congr fun x y hx hy => cpB_put M a b x y, hkeep.set (hF.hr a (by omega)) _, hnx⟩
    · clear hA hB A B
      have hbn : n = b := by omega
      subst hbn
      refine vw_exit ?_
      simp only [thenV, blockV, if_true, if_false, Nat.reduceEqDiff, reduceCtorEq]
      refine hK7 _ _ ?_
      refine vw_sc 0 [] ?_
      simp only [bs, ↓vopx, ↓vop, Nat.reduceBEq, thenV, flat, Nat.reduceLT, opII, hl, h0, h3, h4, wocs, ↓goc, ↓woc, ↓vopm0]
      repeat ((with_reducible refine And.intro ?_ ?_); · exact ⟨by omega, by omega⟩)
      refine ⟨n - (a + 1), by omega, a + 1, rfl, by omega, ?_⟩
      try simp only [ev_hit, ev_miss, Nat.reduceBEq, lpv, hl, h0, h3, h_a, if_true, if_false, Nat.reduceEqDiff, Nat.reduceLT, true_and, and_true]
      repeat ((with_reducible refine And.intro ?_ ?_); · trivial)
      exact ⟨hd.congr fun x y hx hy => by unfold cpB; congr 1; apply decide_eq_decide.2; omega, hkeep, hnx⟩
  · clear hA hB A B
    have han : n = a := by omega
    subst han
    refine vw_exit ?_
    simp only [thenV, blockV, if_true]
    refine hK3 _ _ ?_
    refine vsk fun K12 hK12 => ?_
    refine vw_sc 0 [] ?_
    simp only [bs, ↓vopx, ↓vop, Nat.reduceBEq, thenV, Nat.reduceLT, hl, h3, wocs, ↓goc, ↓woc, ↓vopm0]
    refine hK12 _ _ ?_
    refine vw_ret ?_
    refine hQ _ _ _ (.inr rfl) (donek_tmp (v := .ptr c 0) ?_ rfl ⟨c, o1, r1, rfl, hd.congr fun x y hx hy => by simp [cpB, hx], hF, hkeep, hnx⟩)
    try simp only [ev_hit, lpv, hl, Nat.reduceLT]
end Go.Proofs

open Go Go.V
namespace Go.Proofs
def fwB (M : Mx) (k a b : Nat) : Mx := fun x y => if x < a ∨ (x = a ∧ y < b) then fwk M k x y else M x y
theorem fwB_zero (M : Mx) (k : Nat) (x y : Nat) : M x y = fwB M k 0 0 x y := by simp [fwB]
theorem fwB_read (M : Mx) (k a : Nat) : fwB M k a 0 a k = M a k := by simp [fwB]
theorem fwB_read2 (M : Mx) (k a b : Nat) : fwB M k a b k b = M k b := by
  unfold fwB
  split
  · unfold fwk; cases M k b <;> simp
  · rfl
theorem fwB_put {M : Mx} {k a b : Nat} (h1 : M a k = true) (h2 : M k b = true) (x y : Nat) : updM (fwB M k a b) a b true x y = fwB M k a (b + 1) x y := by
  unfold updM
  by_cases h : x = a ∧ y = b
  · obtain ⟨rfl, rfl⟩ := h; simp [fwB, fwk, h1, h2]
  · rw [if_neg h]
    unfold fwB
    have : (x < a ∨ (x = a ∧ y < b)) ↔ (x < a ∨ (x = a ∧ y < b + 1)) := by omega
    simp only [this]
theorem fwB_nop {M : Mx} {k a b : Nat} (h2 : M k b = false) (x y : Nat) : fwB M k a b x y = fwB M k a (b + 1) x y := by
  unfold fwB
  by_cases h : x = a ∧ y = b
  · obtain ⟨rfl, rfl⟩ := h; simp [fwk, h2]
  · have : (x < a ∨ (x = a ∧ y < b)) ↔ (x < a ∨ (x = a ∧ y < b + 1)) := by omega
    simp only [this]
theorem fwB_row {M : Mx} {k a n : Nat} (x y : Nat) (hy : y < n) : fwB M k a n x y = fwB M k (a + 1) 0 x y := by
  unfold fwB
  have : (x < a ∨ (x = a ∧ y < n)) ↔ (x < a + 1 ∨ (x = a + 1 ∧ y < 0)) := by omega
  simp only [this]
theorem fwB_skip {M : Mx} {k a : Nat} (h1 : M a k = false) (x y : Nat) : fwB M k a 0 x y = fwB M k (a + 1) 0 x y := by
  unfold fwB
  by_cases h : x = a
  · subst h; simp [fwk, h1]
  · have : (x < a ∨ (x = a ∧ y < 0)) ↔ (x < a + 1 ∨ (x = a + 1 ∧ y < 0)) := by omega
    simp only [this]
theorem fwB_done {M : Mx} {k n : Nat} (x y : Nat) (hx : x < n) : fwB (cloK M k) k n 0 x y = cloK M (k + 1) x y := by
  rw [cloK_succ]; simp [fwB, hx]
set_option maxRecDepth 20000 in
theorem refClosure_ (s : Sg) (p n : Nat) (M : Mx) (o : Nat) (r : Nat → Nat) (h : RefR s p n M o r) : VCall Tryd.prog 115 [.ptr p 0] s (NewR s n (cloK M n)) := by
  refine kcall_of_body Tryd.func115 rfl fun Q hQ => ?_
  obtain ⟨e, he, hl, h0⟩ : ∃ e : Env, ([.ptr p 0] ++ List.replicate (Tryd.f115.ntmps - ([.ptr p 0] : List V).length) .junk) = e ∧ e.length = 64 ∧ ev e (.tmp 0) = .ptr p 0 := ⟨_, rfl, rfl, rfl⟩
  rw [he]
  clear he
  have hnl := h.le
  refine vsk fun K1 hK1 => ?_
  refine vw_sc 0 [] ?_
  simp only [bs, ↓vopx, ↓vop, thenV, flat, wocs, ↓goc, ↓woc, ↓vopm0]
  refine hK1 _ _ ?_
  refine vsk fun K2 hK2 => ?_
  refine vw_sc 0 [.stop] ?_
  simp only [bs, ↓vopx, ↓vop, Nat.reduceBEq, thenV, Nat.reduceLT, hl, h0, wocs, ↓goc, ↓woc, ↓vopm0, ↓callC, calleeV]
  refine ⟨Tryd.is142, (refCopy_ s p n M o r h).mono fun v s2 hv => ?_⟩
  obtain ⟨c, o1, r1, rfl, hR, hF, hk, hnx⟩ := hv
  try simp only [bs, Nat.reduceBEq, Nat.reduceLT, hl, h0, Hold]
  refine hK2 _ _ ?_
  refine vsk fun K3 hK3 => ?_
  refine vsk fun K4 hK4 => ?_
  refine vw_sc 0 [] ?_
  simp only [bs, ↓vopx, ↓vop, thenV, flat, wocs, ↓goc, ↓woc, ↓vopm0]
  refine hK4 _ _ ?_
  refine vw_block ?_
  refine vw_loop (fun mm e' s' => ∃ k : Nat, mm = n - k ∧ k ≤ n ∧ e'.length = 64 ∧ ev e' (.tmp 3) = .ptr c 0 ∧ ev e' (.tmp 4) = I k ∧ True ∧ RefR s' c n (cloK M k) o1 r1 ∧ Keep s s' ∧ s.next ≤ s'.next) (⟨0, rfl, Nat.zero_le _, ?_⟩) ?_
  · try simp only [ev_hit, ev_miss, Nat.reduceBEq, lpv, hl, Nat.reduceLT, true_and]
    repeat ((with_reducible refine And.intro ?_ ?_); · trivial)
    first | exact hnx | exact ⟨hR, hk, hnx⟩
  rintro mm e s1 ⟨k, rfl, hle_k, hl, h3, h_k, hst, ⟨hd, hkeep, hnx⟩⟩
  refine vsk fun K5 hK5 => ?_
  refine vsk fun K6 hK6 => ?_
  refine vw_sc 0 [] ?_
  simp only [bs, dSure, ↓vopx, ↓vop, Nat.reduceBEq, thenV, Nat.reduceLT, dLoad, vpart, opII, hl, h3, h_k, wocs, ↓goc, ↓woc, ↓vopm0, Tryd.ag3, Tryd.fd119_0, Tryd.sz3, hd.hp]
  refine hK6 _ _ ?_
  refine vck fun A B hA hB => ?_
  simp only [condV, ev_hit, lpv, Nat.reduceLT, decide_eq_true_eq, decide_eq_false_iff_not, hl]
  refine ⟨fun hc14 => hA ?_, fun hc14 => hB ?_⟩
  · clear hA hB A B
    refine vw_skip ?_
    refine hK5 _ _ ?_
    refine vsk fun K7 hK7 => ?_
    refine vw_block ?_
    refine vsk fun K8 hK8 => ?_
    refine vw_sc 0 [] ?_
    simp only [bs, ↓vopx, ↓vop, thenV, flat, wocs, ↓goc, ↓woc, ↓vopm0]
    refine hK8 _ _ ?_
    refine vw_block ?_
    refine vw_loop (fun mm e' s' => ∃ a : Nat, mm = n - a ∧ a ≤ n ∧ e'.length = 64 ∧ ev e' (.tmp 3) = .ptr c 0 ∧ ev e' (.tmp 4) = I k ∧ ev e' (.tmp 5) = I a ∧ True ∧ RefR s' c n (fwB (cloK M k) k a 0) o1 r1 ∧ Keep s s' ∧ s.next ≤ s'.next) (⟨0, rfl, Nat.zero_le _, ?_⟩) ?_
    · try simp only [ev_hit, ev_miss, Nat.reduceBEq, lpv, hl, h3, h_k, Nat.reduceLT, true_and]
      repeat ((with_reducible refine And.intro ?_ ?_); · trivial)
      exact ⟨hd.congr fun x y hx hy => fwB_zero _ _ x y, hkeep, hnx⟩
    rintro mm e s1 ⟨a, rfl, hle_a, hl, h3, h4, h_a, hst, ⟨hd, hkeep, hnx⟩⟩
    refine vsk fun K9 hK9 => ?_
    refine vsk fun K10 hK10 => ?_
    refine vw_sc 0 [] ?_
    simp only [bs, dSure, ↓vopx, ↓vop, Nat.reduceBEq, thenV, Nat.reduceLT, dLoad, vpart, opII, hl, h3, h_a, wocs, ↓goc, ↓woc, ↓vopm0, Tryd.ag3, Tryd.fd119_0, Tryd.sz3, hd.hp]
    refine hK10 _ _ ?_
    refine vck fun A B hA hB => ?_
    simp only [condV, ev_hit, lpv, Nat.reduceLT, decide_eq_true_eq, decide_eq_false_iff_not, hl]
    refine ⟨fun hc22 => hA ?_, fun hc22 => hB ?_⟩
    · clear hA hB A B
      refine vw_skip ?_
      refine hK9 _ _ ?_
      refine vsk fun K11 hK11 => ?_
      refine vw_block ?_
      refine vsk fun K12 hK12 => ?_
      refine vsk fun K13 hK13 => ?_
      have xp := hd.hp
      have xv : outV n o1 = .loc o1 0 n := by simp [outV, show ¬ n = 0 from by omega]
      have xo := hd.ho (by omega)
      have xr := hd.hr a (by omega)
      have xb := bRow_get (n := n) (M := fwB (cloK M k) k a 0) (a := a) (b := k) (by omega)
      have xg : (List.range n)[a]? = some a := List.getElem?_range (by omega)
      refine vw_sc 0 [] ?_
      simp only [bs, dSure, ↓vopx, ↓vop, Nat.reduceBEq, thenV, Nat.reduceLT, dLoad, vpart, hl, h3, h4, h_a, wocs, ↓goc, ↓woc, ↓vopm0, Tryd.ag117, Tryd.ag4, Tryd.ag49, Tryd.fd119_1, Tryd.sz117, Tryd.sz4, Tryd.sz49, Tryd.un117, Tryd.un49, xp, xv, xo, xr, xb, xg]
      repeat ((with_reducible refine And.intro ?_ ?_); · (with_reducible assumption))
      refine hK13 _ _ ?_
      refine vck fun A B hA hB => ?_
      simp only [condV, ev_hit, lpv, Nat.reduceLT, Bool.not_eq_true', Bool.not_eq_false', hl]
      refine ⟨fun hc35 => hA ?_, fun hc35 => hB ?_⟩
      · clear hA hB A B
        refine vw_exit ?_
        simp only [thenV, blockV, if_true, if_false, Nat.reduceEqDiff, reduceCtorEq]
        refine hK11 _ _ ?_
        refine vw_sc 0 [] ?_
        simp only [bs, ↓vopx, ↓vop, Nat.reduceBEq, thenV, flat, Nat.reduceLT, opII, hl, h3, h4, h_a, wocs, ↓goc, ↓woc, ↓vopm0]
        repeat ((with_reducible refine And.intro ?_ ?_); · exact ⟨by omega, by omega⟩)
        refine ⟨n - (a + 1), by omega, a + 1, rfl, by omega, ?_⟩
        try simp only [ev_hit, ev_miss, Nat.reduceBEq, lpv, hl, h3, h4, h_a, if_true, if_false, Nat.reduceEqDiff, Nat.reduceLT, true_and, and_true]
        repeat ((with_reducible refine And.intro ?_ ?_); · trivial)
        first | exact ⟨hd.congr fun x y hx hy => fwB_row x y hy, hkeep, hnx⟩ | exact ⟨hd.congr fun x y hx hy => fwB_skip (by simpa [fwB_read] using hc35) x y, hkeep, hnx⟩
      · clear hA hB A B
        have hak : cloK M k a k = true := by simpa [fwB_read] using hc35
        refine vw_skip ?_
        refine hK12 _ _ ?_
        refine vsk fun K14 hK14 => ?_
        refine vw_sc 0 [] ?_
        simp only [bs, ↓vopx, ↓vop, thenV, flat, wocs, ↓goc, ↓woc, ↓vopm0]
        refine hK14 _ _ ?_
        refine vw_block ?_
        refine vw_loop (fun mm e' s' => ∃ b : Nat, mm = n - b ∧ b ≤ n ∧ e'.length = 64 ∧ ev e' (.tmp 3) = .ptr c 0 ∧ ev e' (.tmp 4) = I k ∧ ev e' (.tmp 5) = I a ∧ ev e' (.tmp 6) = I b ∧ True ∧ RefR s' c n (fwB (cloK M k) k a b) o1 r1 ∧ Keep s s' ∧ s.next ≤ s'.next) (⟨0, rfl, Nat.zero_le _, ?_⟩) ?_
        · try simp only [ev_hit, ev_miss, Nat.reduceBEq, lpv, hl, h3, h4, h_a, Nat.reduceLT, true_and]
          repeat ((with_reducible refine And.intro ?_ ?_); · trivial)
          first | exact hnx | exact ⟨hd, hkeep, hnx⟩
        rintro mm e s1 ⟨b, rfl, hle_b, hl, h3, h4, h5, h_b, hst, ⟨hd, hkeep, hnx⟩⟩
        refine vsk fun K15 hK15 => ?_
        refine vsk fun K16 hK16 => ?_
        refine vw_sc 0 [] ?_
        simp only [bs, dSure, ↓vopx, ↓vop, Nat.reduceBEq, thenV, Nat.reduceLT, dLoad, vpart, opII, hl, h3, h_b, wocs, ↓goc, ↓woc, ↓vopm0, Tryd.ag3, Tryd.fd119_0, Tryd.sz3, hd.hp]
        refine hK16 _ _ ?_
        refine vck fun A B hA hB => ?_
        simp only [condV, ev_hit, lpv, Nat.reduceLT, decide_eq_true_eq, decide_eq_false_iff_not, hl]
        refine ⟨fun hc41 => hA ?_, fun hc41 => hB ?_⟩
        · clear hA hB A B
          refine vw_skip ?_
          refine hK15 _ _ ?_
          refine vsk fun K17 hK17 => ?_
          refine vw_block ?_
          refine vsk fun K18 hK18 => ?_
          have xp := hd.hp
          have xv : outV n o1 = .loc o1 0 n := by simp [outV, show ¬ n = 0 from by omega]
          have xo := hd.ho (by omega)
          have xr := hd.hr k (by omega)
          have xb := bRow_get (n := n) (M := fwB (cloK M k) k a b) (a := k) (b := b) (by omega)
          have xg : (List.range n)[k]? = some k := List.getElem?_range (by omega)
          refine vw_sc 0 [] ?_
          simp only [bs, dSure, ↓vopx, ↓vop, Nat.reduceBEq, thenV, Nat.reduceLT, dLoad, vpart, hl, h3, h4, h_b, wocs, ↓goc, ↓woc, ↓vopm0, Tryd.ag117, Tryd.ag4, Tryd.ag49, Tryd.fd119_1, Tryd.sz117, Tryd.sz4, Tryd.sz49, Tryd.un117, Tryd.un49, xp, xv, xo, xr, xb, xg]
          repeat ((with_reducible refine And.intro ?_ ?_); · (with_reducible assumption))
          refine hK18 _ _ ?_
          refine vck fun A B hA hB => ?_
          simp only [condV, ev_hit, lpv, Nat.reduceLT, hl]
          refine ⟨fun hc53 => hA ?_, fun hc53 => hB ?_⟩
          · clear hA hB A B
            have xp := hd.hp
            have xv : outV n o1 = .loc o1 0 n := by simp [outV, show ¬ n = 0 from by omega]
            have xo := hd.ho (by omega)
            have xr := hd.hr a (by omega)
            have xb := bRow_get (n := n) (M := fwB (cloK M k) k a b) (a := a) (b := b) (by omega)
            have xg : (List.range n)[a]? = some a := List.getElem?_range (by omega)
            refine vw_sc 0 [] ?_
            simp only [bs, dSure, ↓vopx, ↓vop, Nat.reduceBEq, thenV, blockV, flat, Nat.reduceLT, V.cells, dLoad, vpart, Sg.frzL, Sg.frz1, hl, h3, h5, h_b, wocs, ↓goc, ↓woc, ↓vopm0, Tryd.ag117, Tryd.ag49, Tryd.fd119_1, Tryd.sz117, Tryd.sz4, Tryd.sz49, Tryd.un117, Tryd.un49, xp, xv, xo, xr, xg, bRow_length]
            repeat ((with_reducible refine And.intro ?_ ?_); · first | (with_reducible assumption) | omega)
            refine hK17 _ _ ?_
            refine vw_sc 0 [] ?_
            simp only [bs, ↓vopx, ↓vop, Nat.reduceBEq, thenV, flat, Nat.reduceLT, opII, hl, h3, h4, h5, h_b, wocs, ↓goc, ↓woc, ↓vopm0]
            repeat ((with_reducible refine And.intro ?_ ?_); · exact ⟨by omega, by omega⟩)
            refine ⟨n - (b + 1), by omega, b + 1, rfl, by omega, ?_⟩
            try simp only [ev_hit, ev_miss, Nat.reduceBEq, lpv, hl, h3, h4, h5, h_b, if_true, if_false, Nat.reduceEqDiff, Nat.reduceLT, true_and, and_true]
            repeat ((with_reducible refine And.intro ?_ ?_); · trivial)
            first | exact ⟨(hd.put (by omega) (by omega) _).congr fun x y hx hy => fwB_put hak (by simpa [fwB_read2] using hc53) x y, hkeep.set (hF.hr a (by omega)) _, hnx⟩ | exact ⟨hd.congr fun x y hx hy => fwB_nop (by simpa [fwB_read2] using hc53) x y, hkeep, hnx⟩
          · clear hA hB A B
            refine vw_skip ?_
            refine hK17 _ _ ?_
            refine vw_sc 0 [] ?_
            simp only [bs, ↓vopx, ↓vop, Nat.reduceBEq, thenV, flat, Nat.reduceLT, opII, hl, h3, h4, h5, h_b, wocs, ↓goc, ↓woc, ↓vopm0]
            repeat ((with_reducible refine And.intro ?_ ?_); · exact ⟨by omega, by omega⟩)
            refine ⟨n - (b + 1), by omega, b + 1, rfl, by omega, ?_⟩
            try simp only [ev_hit, ev_miss, Nat.reduceBEq, lpv, hl, h3, h4, h5, h_b, if_true, if_false, Nat.reduceEqDiff, Nat.reduceLT, true_and, and_true]
            repeat ((with_reducible refine And.intro ?_ ?_); · trivial)
            first | exact ⟨(hd.put (by omega) (by omega) _).congr fun x y hx hy => fwB_put hak (by simpa [fwB_read2] using hc53) x y, hkeep.set (hF.hr a (by omega)) _, hnx⟩ | exact ⟨hd.congr fun x y hx hy => fwB_nop (by simpa [fwB_read2] using hc53) x y, hkeep, hnx⟩
        · clear hA hB A B
          have hbn : n = b := by omega
          subst hbn
          refine vw_exit ?_
          simp only [thenV, blockV, if_true, if_false, Nat.reduceEqDiff, reduceCtorEq]
          refine hK11 _ _ ?_
          refine vw_sc 0 [] ?_
          simp only [bs, ↓vopx, ↓vop, Nat.reduceBEq, thenV, flat, Nat.reduceLT, opII, hl, h3, h4, h5, wocs, ↓goc, ↓woc, ↓vopm0]
          repeat ((with_reducible refine And.intro ?_ ?_); · exact ⟨by omega, by omega⟩)
          refine ⟨n - (a + 1), by omega, a + 1, rfl, by omega, ?_⟩
          try simp only [ev_hit, ev_miss, Nat.reduceBEq, lpv, hl, h3, h4, h_a, if_true, if_false, Nat.reduceEqDiff, Nat.reduceLT, true_and, and_true]
          repeat ((with_reducible refine And.intro ?_ ?_); · trivial)
          first | exact ⟨hd.congr fun x y hx hy => fwB_row x y hy, hkeep, hnx⟩ | exact ⟨hd.congr fun x y hx hy => fwB_skip (by simpa [fwB_read] using hc35) x y, hkeep, hnx⟩
    · clear hA hB A B
      have han : n = a := by omega
      subst han
      refine vw_exit ?_
      simp only [thenV, blockV, if_true, if_false, Nat.reduceEqDiff, reduceCtorEq]
      refine hK7 _ _ ?_
      refine vw_sc 0 [] ?_
      simp only [bs, ↓vopx, ↓vop, Nat.reduceBEq, thenV, flat, Nat.reduceLT, opII, hl, h3, h4, wocs, ↓goc, ↓woc, ↓vopm0]
      repeat ((with_reducible refine And.intro ?_ ?_); · exact ⟨by omega, by omega⟩)
      refine ⟨n - (k + 1), by omega, k + 1, rfl, by omega, ?_⟩
      try simp only [ev_hit, ev_miss, Nat.reduceBEq, lpv, hl, h3, h_k, if_true, if_false, Nat.reduceEqDiff, Nat.reduceLT, true_and, and_true]
      repeat ((with_reducible refine And.intro ?_ ?_); · trivial)
      exact ⟨hd.congr fun x y hx hy => fwB_done x y hx, hkeep, hnx⟩
  · clear hA hB A B
    have han : n = k := by omega
    subst han
    refine vw_exit ?_
    simp only [thenV, blockV, if_true]
    refine hK3 _ _ ?_
    refine vsk fun K19 hK19 => ?_
    refine vw_sc 0 [] ?_
    simp only [bs, ↓vopx, ↓vop, Nat.reduceBEq, thenV, Nat.reduceLT, hl, h3, wocs, ↓goc, ↓woc, ↓vopm0]
    refine hK19 _ _ ?_
    refine vw_ret ?_
    refine hQ _ _ _ (.inr rfl) (donek_tmp (v := .ptr c 0) ?_ rfl ⟨c, o1, r1, rfl, hd, hF, hkeep, hnx⟩)
    try simp only [ev_hit, lpv, hl, Nat.reduceLT]
set_option maxRecDepth 20000 in
theorem refTrans_ (s : Sg) (p n : Nat) (M : Mx) (o : Nat) (r : Nat → Nat) (h : RefR s p n M o r) : DCall Tryd.prog 104 [.ptr p 0] s (Bo (tranB n M)) (s) := by
  refine dcall_of_body Tryd.func104 rfl fun Q hQ => ?_
  obtain ⟨e, he, hl, h0⟩ : ∃ e : Env, ([.ptr p 0] ++ List.replicate (Tryd.f104.ntmps - ([.ptr p 0] : List V).length) .junk) = e ∧ e.length = 7 ∧ ev e (.tmp 0) = .ptr p 0 := ⟨_, rfl, rfl, rfl⟩
  rw [he]
  clear he
  refine vsk fun K1 hK1 => ?_
  refine vw_sc 0 [] ?_
  simp only [bs, ↓vopx, ↓vop, thenV, flat, wocs, ↓goc, ↓woc, ↓vopm0]
  refine hK1 _ _ ?_
  refine vsk fun K2 hK2 => ?_
  refine vw_sc 0 [.stop, .stop] ?_
  simp only [bs, ↓vopx, ↓vop, Nat.reduceBEq, thenV, Nat.reduceLT, hl, h0, wocs, ↓goc, ↓woc, ↓vopm0, ↓callC, calleeV, ↓yieldC]
  refine ⟨Tryd.is115, (refClosure_ s p n M o r h).mono fun v s2 hv => ?_⟩
  obtain ⟨c, o1, r1, rfl, hR, hF, hk, hnx⟩ := hv
  try simp only [bs, Nat.reduceBEq, Nat.reduceLT, hl, h0, Hold]
  refine ⟨Tryd.is128, (refSame_ s2 p n M o r (h.keep hk hnx) c _ o1 r1 hR).v ?_⟩
  try simp only [bs, dstT, srcT, Nat.reduceLeDiff, Nat.reduceAdd, vparts, gfill, repl, Sg.frzP, dSure, wops, ↓gow, ↓wop, vops, ↓gop, ↓vopx, ↓vop, Nat.reduceBEq, thenV, blockV, flat, Nat.reduceEqDiff, Nat.reduceLT, V.cells, dLoad, vpart, opII, opSS, gtmp, Sg.frzL, Sg.frz1, reduceCtorEq, hl, h0, wocs, ↓goc, ↓woc, ↓vopm0, ↓vopm1, ↓vopm2, ↓callC, ↓pick_tt, ↓pick_ff, ↓pick_tf, ↓pick_ft, calleeV, ↓yieldC, ↓farC, List.append_nil, Hold]
  refine hK2 _ _ ?_
  refine vw_ret ?_
  refine hQ _ _ _ (.inr rfl) (Done.toS (done_tmp ?_ hk))
  try simp only [ev_hit, lpv, hl, Nat.reduceLT]
  rfl
end Go.Proofs

open Go Go.V
namespace Go.Proofs
def rowK (M : Mx) (a b : Nat) : List (Int × Int) := ((List.range b).filter fun y => M a y).map fun (y : Nat) => ((a : Int), (y : Int))
def prB (n : Nat) (M : Mx) (a b : Nat) : List (Int × Int) := (List.range a).flatMap (rowOf n M) ++ rowK M a b
theorem rowK_length (M : Mx) (a b : Nat) : (rowK M a b).length ≤ b := by
  have := List.length_filter_le (fun y => M a y) (List.range b)
  simpa [rowK] using this
theorem prB_length (n : Nat) (M : Mx) : ∀ a b, (prB n M a b).length ≤ a * n + b
  | 0, b => by simpa [prB] using rowK_length M 0 b
  | a + 1, b => by
    have h1 := prB_length n M a n
    have h2 := rowK_length M (a + 1) b
    have h3 : rowOf n M a = rowK M a n := rfl
    unfold prB at h1 ⊢
    rw [List.range_succ, List.flatMap_append, List.flatMap_singleton, List.length_append, h3, Nat.add_mul, Nat.one_mul]
    omega
theorem prB_put {n : Nat} {M : Mx} {a b : Nat} (h : M a b = true) : prB n M a (b + 1) = prB n M a b ++ [((a : Int), (b : Int))] := by
  simp [prB, rowK, List.range_succ, h]
theorem prB_nop {n : Nat} {M : Mx} {a b : Nat} (h : M a b = false) : prB n M a (b + 1) = prB n M a b := by
  simp [prB, rowK, List.range_succ, h]
theorem prB_row (n : Nat) (M : Mx) (a : Nat) : prB n M a n = prB n M (a + 1) 0 := by
  simp only [prB, List.range_succ, List.flatMap_append, List.flatMap_singleton]
  simp [rowK, rowOf]
theorem prB_end (n : Nat) (M : Mx) : prB n M n 0 = pairsOf n M := by simp [prB, rowK, pairsOf]
def GrowP (s0 s : Sg) (m : Nat) (l : List (Int × Int)) : Prop := s.m m = some (.arr 2 84 (l.flatMap pcells)) ∧ s0.next ≤ m ∧ m < s.next
theorem GrowP.push {s0 s1 : Sg} {m : Nat} {l : List (Int × Int)} (_h : GrowP s0 s1 m l) (hn : s0.next ≤ s1.next) (X : Blk) (p : Int × Int) :
    GrowP s0 (((s1.add X).del m).add (.arr 2 84 (l.flatMap pcells ++ [TI p.1, TI p.2]))) (s1.next + 1) (l ++ [p]) := by
  refine ⟨?_, by omega, by simp [Sg.add, Sg.del]⟩
  simp [Sg.add, Sg.del, List.flatMap_append]
theorem GrowP.keep {s0 s1 : Sg} {m : Nat} {l : List (Int × Int)} (h : GrowP s0 s1 m l) (hk : Keep s0 s1) (hn : s0.next ≤ s1.next) (X Y : Blk) : Keep s0 (((s1.add X).del m).add Y) :=
  ((hk.add hn X).del h.2.1).add (by simp only [n_add, n_del]; omega) Y
end Go.Proofs

open Go Go.V
namespace Go.Proofs
theorem getP0 {l : List (Int × Int)} {i : Nat} {p : Int × Int} (h : l[i]? = some p) : (l.flatMap pcells)[i * 2]? = some (TI p.1) := by
  induction l generalizing i with
  | nil => simp at h
  | cons a l ih =>
    cases i with
    | zero => simp at h; subst h; simp
    | succ i => simpa [Nat.add_mul] using ih (i := i) (by simpa using h)
theorem getP1 {l : List (Int × Int)} {i : Nat} {p : Int × Int} (h : l[i]? = some p) : (l.flatMap pcells)[i * 2 + 1]? = some (TI p.2) := by
  induction l generalizing i with
  | nil => simp at h
  | cons a l ih =>
    cases i with
    | zero => simp at h; subst h; simp
    | succ i =>
      have := ih (i := i) (by simpa using h)
      rw [show (i + 1) * 2 + 1 = (i * 2 + 1) + 2 by omega]
      simpa using this
theorem all_take {α : Type} {f : α → Bool} {l : List α} {i : Nat} {p : α} (h : l[i]? = some p) (ha : (l.take i).all f = true) (hp : f p = true) : (l.take (i + 1)).all f = true := by
  rw [List.take_add_one, h]; simp only [List.all_append, ha, Option.toList_some, List.all_cons, List.all_nil, hp]; rfl
theorem all_bad {α : Type} {f : α → Bool} {l : List α} {i : Nat} {p : α} (h : l[i]? = some p) (hp : f p = false) : l.all f = false := by
  rw [List.all_eq_false]; exact ⟨p, List.mem_of_getElem? h, by simp [hp]⟩
theorem updM_or (M : Mx) (p : Int × Int) : (fun a b => M a b || (p.1.toNat == a && p.2.toNat == b)) = updM M p.1.toNat p.2.toNat true := by
  funext a b
  unfold updM
  by_cases h : a = p.1.toNat ∧ b = p.2.toNat
  · obtain ⟨rfl, rfl⟩ := h; simp
  · rw [if_neg h]
    have : (p.1.toNat == a && p.2.toNat == b) = false := by
      rw [Bool.eq_false_iff]; intro hh; simp at hh; exact h ⟨hh.1.symm, hh.2.symm⟩
    rw [this, Bool.or_false]
def OfR (s : Sg) (n : Nat) (l : List (Int × Int)) (v : V) (s' : Sg) : Prop :=
  (l.all (inB n) = true ∧ ∃ p o r, v = .tup [.ptr p 0, I 0] ∧ RefR s' p n (mxOf l) o r ∧ FreshR s p n o r ∧ Keep s s' ∧ s.next ≤ s'.next) ∨
  (l.all (inB n) = false ∧ v = .tup [.t (.v (.pointer none)), I 10] ∧ Keep s s' ∧ s.next ≤ s'.next)
set_option maxRecDepth 20000 in
theorem refOf_ (s : Sg) (n : Nat) (hn : n ≤ 200) (l : List (Int × Int)) (hl0 : l.length < 1000000000) : VCall Tryd.prog 102 [I n, .t (tPairs l)] s (OfR s n l) := by
  refine kcall_of_body Tryd.func102 rfl fun Q hQ => ?_
  obtain ⟨e, he, hl, h0, h1⟩ : ∃ e : Env, ([I n, .t (tPairs l)] ++ List.replicate (Tryd.f102.ntmps - ([I n, .t (tPairs l)] : List V).length) .junk) = e ∧ e.length = 58 ∧ ev e (.tmp 0) = I n ∧ ev e (.tmp 1) = .t (tPairs l) := ⟨_, rfl, rfl, rfl, rfl⟩
  rw [he]
  clear he
  have hnn := newN_nat hn
  have hn1 : ¬ ((n : Int) < 0) := by omega
  have hn2 : ¬ ((n : Int) > 200) := by omega
  refine vsk fun K1 hK1 => ?_
  refine vw_sc 0 [] ?_
  simp only [bs, ↓vopx, ↓vop, thenV, flat, wocs, ↓goc, ↓woc, ↓vopm0]
  refine hK1 _ _ ?_
  refine vsk fun K2 hK2 => ?_
  refine vsk fun K3 hK3 => ?_
  refine vw_sc 0 [] ?_
  simp only [bs, ↓vopx, ↓vop, Nat.reduceBEq, thenV, flat, Nat.reduceLT, opII, gtmp, hl, h0, wocs, ↓goc, ↓woc, ↓vopm0, ↓pick_ff, hn1, hn2]
  refine hK3 _ _ ?_
  refine vck fun A B hA hB => ?_
  simp only [condV, ev_hit, lpv, Nat.reduceLT, true_implies, reduceCtorEq, false_implies, true_and, hl]
  refine hB ?_
  clear hA hB A B
  refine vw_skip ?_
  refine hK2 _ _ ?_
  refine vsk fun K4 hK4 => ?_
  refine vw_sc 0 [.stop] ?_
  simp only [bs, ↓vopx, ↓vop, Nat.reduceBEq, thenV, Nat.reduceLT, hl, h0, wocs, ↓goc, ↓woc, ↓vopm0, ↓callC, calleeV]
  refine ⟨Tryd.is91, (refNew_ s n).mono fun v s2 hv => ?_⟩
  rw [hnn] at hv
  obtain ⟨c, o1, r1, rfl, hR, hF, hk, hnx⟩ := hv
  try simp only [bs, Nat.reduceBEq, Nat.reduceLT, hl, h0, Hold]
  refine hK4 _ _ ?_
  refine vsk fun K5 hK5 => ?_
  refine vsk fun K6 hK6 => ?_
  refine vw_sc 0 [] ?_
  simp only [bs, ↓vopx, ↓vop, thenV, flat, wocs, ↓goc, ↓woc, ↓vopm0]
  refine hK6 _ _ ?_
  refine vw_block ?_
  refine vw_loop (fun mm e' s' => ∃ i : Nat, mm = l.length - i ∧ i ≤ l.length ∧ e'.length = 58 ∧ ev e' (.tmp 1) = .t (tPairs l) ∧ ev e' (.tmp 6) = .ptr c 0 ∧ ev e' (.tmp 7) = I i ∧ True ∧ RefR s' c n (mxOf (l.take i)) o1 r1 ∧ (l.take i).all (inB n) = true ∧ Keep s s' ∧ s.next ≤ s'.next) (⟨0, rfl, Nat.zero_le _, ?_⟩) ?_
  · try simp only [ev_hit, ev_miss, Nat.reduceBEq, lpv, hl, h1, Nat.reduceLT, true_and]
    repeat ((with_reducible refine And.intro ?_ ?_); · trivial)
    first | exact hnx | exact ⟨hR.congr fun x y hx hy => by simp [mxOf], by simp, hk, hnx⟩
  rintro mm e s1 ⟨i, rfl, hle_i, hl, h1, h6, h_i, hst, ⟨hd, hall, hkeep, hnx⟩⟩
  refine vsk fun K7 hK7 => ?_
  refine vsk fun K8 hK8 => ?_
  refine vw_sc 0 [] ?_
  simp only [bs, ↓vopx, ↓vop, Nat.reduceBEq, thenV, Nat.reduceLT, opII, hl, h1, h_i, wocs, ↓goc, ↓woc, ↓vopm0, len_tPairs]
  refine hK8 _ _ ?_
  refine vck fun A B hA hB => ?_
  simp only [condV, ev_hit, lpv, Nat.reduceLT, decide_eq_true_eq, decide_eq_false_iff_not, hl]
  refine ⟨fun hc19 => hA ?_, fun hc19 => hB ?_⟩
  · clear hA hB A B
    refine vw_skip ?_
    refine hK7 _ _ ?_
    refine vsk fun K9 hK9 => ?_
    refine vw_block ?_
    refine vsk fun K10 hK10 => ?_
    refine vsk fun K11 hK11 => ?_
    have hlt : i < l.length := by omega
    obtain ⟨p, hp⟩ : ∃ p, l[i]? = some p := ⟨_, List.getElem?_eq_getElem hlt⟩
    have g0 := getP0 hp
    have g1 := getP1 hp
    have hfl := flat_length l
    rcases (show (¬ (0 ≤ p.1 ∧ p.1 < n)) ∨ ((0 ≤ p.1 ∧ p.1 < n) ∧ ¬ (0 ≤ p.2 ∧ p.2 < n)) ∨ ((0 ≤ p.1 ∧ p.1 < n) ∧ (0 ≤ p.2 ∧ p.2 < n)) by omega) with ha | ⟨ha, hb⟩ | hin
    · have hbad : inB n p = false := by simp only [inB, ha, decide_false, Bool.false_and]
      refine vw_sc 0 [.det (Bo (decide (0 ≤ p.1 ∧ p.1 < n))) s1] ?_
      simp only [bs, ↓vopx, ↓vop, Nat.reduceBEq, thenV, flat, Nat.reduceLT, dLoad, vpart, gtmp, hl, h1, h6, h_i, wocs, ↓goc, ↓woc, ↓vopm0, ↓callC, ↓pick_tf, calleeV, Tryd.ag3, Tryd.fd84_0, Tryd.sz3, Tryd.sz84, Tryd.un23, g0, hfl, ha]
      repeat ((with_reducible refine And.intro ?_ ?_); · first | omega | exact ⟨Tryd.is110, by simpa [*] using refIs_ s1 c n _ p.1 hd.hp⟩)
      refine hK11 _ _ ?_
      refine vck fun A B hA hB => ?_
      simp only [condV, ev_hit, lpv, Nat.reduceLT, true_implies, reduceCtorEq, false_implies, and_true, hl]
      refine hA ?_
      clear hA hB A B
      refine vsk fun K12 hK12 => ?_
      refine vw_sc 0 [] ?_
      simp only [bs, ↓vopx, ↓vop, thenV, flat, wocs, ↓goc, ↓woc, ↓vopm0]
      refine hK12 _ _ ?_
      refine vw_ret ?_
      refine hQ _ _ _ (.inr rfl) (donek_pair (v := .t (.v (.pointer none))) (v' := I 10) ?_ ?_ rfl rfl (.inr ⟨all_bad hp hbad, rfl, hkeep, hnx⟩))
      try simp only [ev_hit, ev_miss, Nat.reduceBEq, lpv, hl, Nat.reduceLT]
      try simp only [ev_hit, lpv, hl, Nat.reduceLT]
    · have hbad : inB n p = false := by simp only [inB, hb, decide_false, Bool.and_false]
      refine vw_sc 0 [.det (Bo (decide (0 ≤ p.1 ∧ p.1 < n))) s1, .det (Bo (decide (0 ≤ p.2 ∧ p.2 < n))) s1] ?_
      simp only [bs, ↓vopx, ↓vop, Nat.reduceBEq, thenV, flat, Nat.reduceLT, dLoad, vpart, gtmp, hl, h1, h6, h_i, wocs, ↓goc, ↓woc, ↓vopm0, ↓callC, ↓pick_ff, calleeV, Tryd.ag3, Tryd.fd84_0, Tryd.fd84_1, Tryd.sz3, Tryd.sz84, Tryd.un23, g0, g1, hfl, ha, hb]
      repeat ((with_reducible refine And.intro ?_ ?_); · first | omega | exact ⟨Tryd.is110, by simpa [*] using refIs_ s1 c n _ p.1 hd.hp⟩ | exact ⟨Tryd.is110, by simpa [*] using refIs_ s1 c n _ p.2 hd.hp⟩)
      refine hK11 _ _ ?_
      refine vck fun A B hA hB => ?_
      simp only [condV, ev_hit, lpv, Nat.reduceLT, true_implies, reduceCtorEq, false_implies, and_true, hl]
      refine hA ?_
      clear hA hB A B
      refine vsk fun K13 hK13 => ?_
      refine vw_sc 0 [] ?_
      simp only [bs, ↓vopx, ↓vop, thenV, flat, wocs, ↓goc, ↓woc, ↓vopm0]
      refine hK13 _ _ ?_
      refine vw_ret ?_
      refine hQ _ _ _ (.inr rfl) (donek_pair (v := .t (.v (.pointer none))) (v' := I 10) ?_ ?_ rfl rfl (.inr ⟨all_bad hp hbad, rfl, hkeep, hnx⟩))
      try simp only [ev_hit, ev_miss, Nat.reduceBEq, lpv, hl, Nat.reduceLT]
      try simp only [ev_hit, lpv, hl, Nat.reduceLT]
    · refine vw_sc 0 [.det (Bo (decide (0 ≤ p.1 ∧ p.1 < n))) s1, .det (Bo (decide (0 ≤ p.2 ∧ p.2 < n))) s1] ?_
      simp only [bs, ↓vopx, ↓vop, Nat.reduceBEq, thenV, flat, Nat.reduceLT, dLoad, vpart, gtmp, hl, h1, h6, h_i, wocs, ↓goc, ↓woc, ↓vopm0, ↓callC, ↓pick_ff, calleeV, Tryd.ag3, Tryd.fd84_0, Tryd.fd84_1, Tryd.sz3, Tryd.sz84, Tryd.un23, g0, g1, hfl, hin]
      repeat ((with_reducible refine And.intro ?_ ?_); · first | omega | exact ⟨Tryd.is110, by simpa [*] using refIs_ s1 c n _ p.1 hd.hp⟩ | exact ⟨Tryd.is110, by simpa [*] using refIs_ s1 c n _ p.2 hd.hp⟩)
      refine hK11 _ _ ?_
      refine vck fun A B hA hB => ?_
      simp only [condV, ev_hit, lpv, Nat.reduceLT, true_implies, reduceCtorEq, false_implies, true_and, hl]
      refine hB ?_
      clear hA hB A B
      refine vw_skip ?_
      refine hK10 _ _ ?_
      have xv : outV n o1 = .loc o1 0 n := by simp [outV, show ¬ n = 0 from by omega]
      have xo := hd.ho (by omega)
      have xr := hd.hr p.1.toNat (by omega)
      have xg : (List.range n)[p.1.toNat]? = some p.1.toNat := List.getElem?_range (by omega)
      refine vw_chain Tryd.mixed 16 [0, 0, 0, 1, 0, 0, 1, 0, 1, 1, 1, 0, 0, 1, 0, 1] [] [] 0 (by decide +kernel) (by simp [lpv, hl]) rfl ?_
      simp only [bs, dSure, ↓vopx, ↓vop, Nat.reduceBEq, thenV, blockV, flat, Nat.reduceLT, V.cells, dLoad, vpart, Sg.frzL, Sg.frz1, hl, h1, h6, h_i, wocs, ↓goc, ↓woc, ↓vopm0, ↓vopm1, chn, ↓goq, ↓woq, List.zip_cons_cons, List.zip_nil_right, Tryd.ag117, Tryd.ag3, Tryd.ag49, Tryd.fd119_1, Tryd.fd84_0, Tryd.fd84_1, Tryd.sz117, Tryd.sz3, Tryd.sz4, Tryd.sz49, Tryd.sz84, Tryd.un117, Tryd.un23, Tryd.un49, xv, xo, xr, xg, g0, g1, hfl, hd.hp, bRow_length, hin]
      repeat ((with_reducible refine And.intro ?_ ?_); · omega)
      refine hK9 _ _ ?_
      refine vw_sc 0 [] ?_
      simp only [bs, ↓vopx, ↓vop, Nat.reduceBEq, thenV, flat, Nat.reduceLT, opII, hl, h1, h6, h_i, wocs, ↓goc, ↓woc, ↓vopm0]
      repeat ((with_reducible refine And.intro ?_ ?_); · exact ⟨by omega, by omega⟩)
      refine ⟨l.length - (i + 1), by omega, i + 1, rfl, by omega, ?_⟩
      try simp only [ev_hit, ev_miss, Nat.reduceBEq, lpv, hl, h1, h6, h_i, if_true, if_false, Nat.reduceEqDiff, Nat.reduceLT, true_and, and_true]
      repeat ((with_reducible refine And.intro ?_ ?_); · trivial)
      obtain ⟨hin1, hin2⟩ := hin
      exact ⟨by rw [mxOf_take hp, updM_or]; exact hd.put (by omega) (by omega) true, all_take hp hall (by simp [inB, hin1, hin2]), hkeep.set (hF.hr _ (by omega)) _, hnx⟩
  · clear hA hB A B
    have han : i = l.length := by omega
    rw [han, List.take_length] at hall hd
    refine vw_exit ?_
    simp only [thenV, blockV, if_true]
    refine hK5 _ _ ?_
    refine vsk fun K14 hK14 => ?_
    refine vw_sc 0 [] ?_
    simp only [bs, ↓vopx, ↓vop, Nat.reduceBEq, thenV, flat, Nat.reduceLT, hl, h6, wocs, ↓goc, ↓woc, ↓vopm0]
    refine hK14 _ _ ?_
    refine vw_ret ?_
    refine hQ _ _ _ (.inr rfl) (donek_pair (v := .ptr c 0) (v' := I 0) ?_ ?_ rfl rfl (.inl ⟨hall, c, o1, r1, rfl, hd, hF, hkeep, hnx⟩))
    try simp only [ev_hit, ev_miss, Nat.reduceBEq, lpv, hl, Nat.reduceLT]
    try simp only [ev_hit, lpv, hl, Nat.reduceLT]
end Go.Proofs

open Go Go.V
namespace Go.Proofs
set_option maxRecDepth 20000 in
theorem refRising_ (l : List (Int × Int)) (hl0 : l.length < 1000000000) : PCall Tryd.prog 103 [.t (tPairs l)] (Bo (risingB l)) := by
  refine pcall_of_body Tryd.func103 rfl fun s Q hQ => ?_
  obtain ⟨e, he, hl, h0⟩ : ∃ e : Env, ([.t (tPairs l)] ++ List.replicate (Tryd.f103.ntmps - ([.t (tPairs l)] : List V).length) .junk) = e ∧ e.length = 50 ∧ ev e (.tmp 0) = .t (tPairs l) := ⟨_, rfl, rfl, rfl⟩
  rw [he]
  clear he
  refine vsk fun K1 hK1 => ?_
  refine vw_sc 0 [] ?_
  simp only [bs, ↓vopx, ↓vop, thenV, flat, wocs, ↓goc, ↓woc, ↓vopm0]
  refine hK1 _ _ ?_
  refine vsk fun K2 hK2 => ?_
  refine vsk fun K3 hK3 => ?_
  refine vw_sc 0 [] ?_
  simp only [bs, ↓vopx, ↓vop, thenV, flat, wocs, ↓goc, ↓woc, ↓vopm0]
  refine hK3 _ _ ?_
  refine vw_block ?_
  refine vw_loop (fun mm e' s' => ∃ i : Nat, mm = l.length - i ∧ i ≤ l.length ∧ e'.length = 50 ∧ ev e' (.tmp 0) = .t (tPairs l) ∧ ev e' (.tmp 3) = I ((i : Int) + 1) ∧ s = s' ∧ ∀ (j : Nat) (p q : Int × Int), j < i → l[j]? = some p → l[j + 1]? = some q → pltB p q = true) (⟨0, rfl, Nat.zero_le _, ?_⟩) ?_
  · try simp only [ev_hit, ev_miss, Nat.reduceBEq, lpv, hl, h0, Nat.reduceLT, true_and]
    repeat ((with_reducible refine And.intro ?_ ?_); · trivial)
    exact fun j p q h => by omega
  rintro mm e _ ⟨i, rfl, hle_i, hl, h0, h_i, rfl, hall⟩
  refine vsk fun K4 hK4 => ?_
  refine vsk fun K5 hK5 => ?_
  refine vw_sc 0 [] ?_
  simp only [bs, ↓vopx, ↓vop, Nat.reduceBEq, thenV, Nat.reduceLT, opII, hl, h0, h_i, wocs, ↓goc, ↓woc, ↓vopm0, len_tPairs]
  refine hK5 _ _ ?_
  refine vck fun A B hA hB => ?_
  simp only [condV, ev_hit, lpv, Nat.reduceLT, decide_eq_true_eq, decide_eq_false_iff_not, hl]
  refine ⟨fun hc7 => hA ?_, fun hc7 => hB ?_⟩
  · clear hA hB A B
    refine vw_skip ?_
    refine hK4 _ _ ?_
    refine vsk fun K6 hK6 => ?_
    refine vw_block ?_
    refine vsk fun K7 hK7 => ?_
    have hlt : i + 1 < l.length := by omega
    obtain ⟨p, hp⟩ : ∃ p, l[i]? = some p := ⟨_, List.getElem?_eq_getElem (by omega)⟩
    obtain ⟨q, hq⟩ : ∃ q, l[i + 1]? = some q := ⟨_, List.getElem?_eq_getElem hlt⟩
    have g0 := getP0 hp
    have g1 := getP1 hp
    have g2 := getP0 hq
    have g3 := getP1 hq
    have hfl := flat_length l
    have ht : ((i : Int) + 1).toNat = i + 1 := by omega
    have hs1 : (i : Int) + 1 - 1 = i := by omega
    have hs2 : (0 : Int) ≤ (i : Int) + 1 := by omega
    have hs3 : (i + 1) * 2 < l.length * 2 := by omega
    have hs4 : i * 2 < l.length * 2 := by omega
    rcases (show q.1 < p.1 ∨ (¬ q.1 < p.1 ∧ q.1 = p.1) ∨ (¬ q.1 < p.1 ∧ ¬ q.1 = p.1) by omega) with ha | ⟨ha, hb⟩ | ⟨ha, hb⟩
    · refine vw_chain Tryd.mixed 37 [0, 0, 1, 0, 1, 0, 0, 0, 1, 0, 1, 0, 0, 0, 0, 1, 0, 1, 0, 0, 0, 1, 0, 1, 0, 0, 0, 0, 1, 0, 1, 0, 0, 0, 1, 0, 1] [] [] 0 (by decide +kernel) (by simp [lpv, hl]) rfl ?_
      simp only [bs, ↓vopx, ↓vop, Nat.reduceBEq, thenV, flat, Nat.reduceLT, dLoad, vpart, opII, opSS, gtmp, hl, h0, h_i, wocs, ↓goc, ↓woc, ↓vopm0, ↓vopm1, ↓pick_tf, ↓farC, chn, ↓goq, ↓woq, List.zip_cons_cons, List.zip_nil_right, Tryd.ag3, Tryd.fd84_0, Tryd.sz3, Tryd.sz84, Tryd.un23, g0, g2, hfl, ht, hs1, hs2, hs3, hs4, ha]
      repeat ((with_reducible refine And.intro ?_ ?_); · exact ⟨by omega, by omega⟩)
      refine hK7 _ _ ?_
      refine vck fun A B hA hB => ?_
      simp only [condV, ev_hit, lpv, Nat.reduceLT, true_implies, reduceCtorEq, false_implies, and_true, hl]
      refine hA ?_
      clear hA hB A B
      refine vsk fun K8 hK8 => ?_
      refine vw_sc 0 [] ?_
      simp only [bs, ↓vopx, ↓vop, thenV, flat, wocs, ↓goc, ↓woc, ↓vopm0]
      refine hK8 _ _ ?_
      refine vw_ret ?_
      refine hQ _ _ _ (.inr rfl) (done_tmp ?_ fun n b hn h => h)
      try simp only [ev_hit, lpv, hl, Nat.reduceLT]
      rw [rising_bad hp hq (by unfold pltB; simp; omega)]
    · have hbe : (q.1 == p.1) = true := by simp [hb]
      refine vw_chain Tryd.mixed 37 [0, 0, 1, 0, 1, 0, 0, 0, 1, 0, 1, 0, 0, 0, 0, 1, 0, 1, 0, 0, 0, 1, 0, 1, 0, 0, 0, 0, 1, 0, 1, 0, 0, 0, 1, 0, 1] [] [] 0 (by decide +kernel) (by simp [lpv, hl]) rfl ?_
      simp only [bs, ↓vopx, ↓vop, Nat.reduceBEq, thenV, flat, Nat.reduceLT, dLoad, vpart, opII, opSS, gtmp, hl, h0, h_i, wocs, ↓goc, ↓woc, ↓vopm0, ↓vopm1, ↓pick_tt, ↓pick_ff, ↓farC, chn, ↓goq, ↓woq, List.zip_cons_cons, List.zip_nil_right, Tryd.ag3, Tryd.fd84_0, Tryd.fd84_1, Tryd.sz3, Tryd.sz84, Tryd.un23, g0, g1, g2, g3, hfl, ht, hs1, hs2, hs3, hs4, ha, hbe]
      repeat ((with_reducible refine And.intro ?_ ?_); · exact ⟨by omega, by omega⟩)
      refine hK7 _ _ ?_
      refine vck fun A B hA hB => ?_
      simp only [condV, ev_hit, lpv, Nat.reduceLT, decide_eq_true_eq, decide_eq_false_iff_not, hl]
      refine ⟨fun hc49 => hA ?_, fun hc49 => hB ?_⟩
      · clear hA hB A B
        refine vsk fun K9 hK9 => ?_
        refine vw_sc 0 [] ?_
        simp only [bs, ↓vopx, ↓vop, thenV, flat, wocs, ↓goc, ↓woc, ↓vopm0]
        refine hK9 _ _ ?_
        refine vw_ret ?_
        refine hQ _ _ _ (.inr rfl) (done_tmp ?_ fun n b hn h => h)
        try simp only [ev_hit, lpv, hl, Nat.reduceLT]
        rw [rising_bad hp hq (by unfold pltB; simp; omega)]
      · clear hA hB A B
        have hgood : pltB p q = true := by unfold pltB; simp; omega
        refine vw_skip ?_
        refine hK6 _ _ ?_
        refine vw_sc 0 [] ?_
        simp only [bs, ↓vopx, ↓vop, Nat.reduceBEq, thenV, flat, Nat.reduceLT, opII, hl, h0, h_i, wocs, ↓goc, ↓woc, ↓vopm0]
        repeat ((with_reducible refine And.intro ?_ ?_); · exact ⟨by omega, by omega⟩)
        refine ⟨l.length - (i + 1), by omega, i + 1, rfl, by omega, ?_⟩
        try simp only [ev_hit, ev_miss, Nat.reduceBEq, lpv, hl, h0, h_i, if_true, if_false, Nat.reduceEqDiff, Nat.reduceLT, true_and, and_true]
        repeat ((with_reducible refine And.intro ?_ ?_); · trivial)
        intro j x y hj h1 h2
        rcases Nat.lt_succ_iff_lt_or_eq.1 hj with hj | rfl
        · exact hall j x y hj h1 h2
        · rw [hp] at h1; rw [hq] at h2; cases h1; cases h2; exact hgood
    · have hbe : (q.1 == p.1) = false := by simp [hb]
      have hgood : pltB p q = true := by unfold pltB; simp; omega
      refine vw_chain Tryd.mixed 37 [0, 0, 1, 0, 1, 0, 0, 0, 1, 0, 1, 0, 0, 0, 0, 1, 0, 1, 0, 0, 0, 1, 0, 1, 0, 0, 0, 0, 1, 0, 1, 0, 0, 0, 1, 0, 1] [] [] 0 (by decide +kernel) (by simp [lpv, hl]) rfl ?_
      simp only [bs, ↓vopx, ↓vop, Nat.reduceBEq, thenV, flat, Nat.reduceLT, dLoad, vpart, opII, opSS, gtmp, hl, h0, h_i, wocs, ↓goc, ↓woc, ↓vopm0, ↓vopm1, ↓pick_ff, ↓pick_ft, ↓farC, chn, ↓goq, ↓woq, List.zip_cons_cons, List.zip_nil_right, Tryd.ag3, Tryd.fd84_0, Tryd.sz3, Tryd.sz84, Tryd.un23, g0, g2, hfl, ht, hs1, hs2, hs3, hs4, ha, hbe]
      repeat ((with_reducible refine And.intro ?_ ?_); · exact ⟨by omega, by omega⟩)
      refine hK7 _ _ ?_
      refine vck fun A B hA hB => ?_
      simp only [condV, ev_hit, lpv, Nat.reduceLT, true_implies, reduceCtorEq, false_implies, true_and, hl]
      refine hB ?_
      clear hA hB A B
      refine vw_skip ?_
      refine hK6 _ _ ?_
      refine vw_sc 0 [] ?_
      simp only [bs, ↓vopx, ↓vop, Nat.reduceBEq, thenV, flat, Nat.reduceLT, opII, hl, h0, h_i, wocs, ↓goc, ↓woc, ↓vopm0]
      repeat ((with_reducible refine And.intro ?_ ?_); · exact ⟨by omega, by omega⟩)
      refine ⟨l.length - (i + 1), by omega, i + 1, rfl, by omega, ?_⟩
      try simp only [ev_hit, ev_miss, Nat.reduceBEq, lpv, hl, h0, h_i, if_true, if_false, Nat.reduceEqDiff, Nat.reduceLT, true_and, and_true]
      repeat ((with_reducible refine And.intro ?_ ?_); · trivial)
      intro j x y hj h1 h2
      rcases Nat.lt_succ_iff_lt_or_eq.1 hj with hj | rfl
      · exact hall j x y hj h1 h2
      · rw [hp] at h1; rw [hq] at h2; cases h1; cases h2; exact hgood
  · clear hA hB A B
    refine vw_exit ?_
    simp only [thenV, blockV, if_true]
    refine hK2 _ _ ?_
    refine vsk fun K10 hK10 => ?_
    refine vw_sc 0 [] ?_
    simp only [bs, ↓vopx, ↓vop, thenV, flat, wocs, ↓goc, ↓woc, ↓vopm0]
    refine hK10 _ _ ?_
    refine vw_ret ?_
    refine hQ _ _ _ (.inr rfl) (done_tmp ?_ fun n b hn h => h)
    try simp only [ev_hit, lpv, hl, Nat.reduceLT]
    rw [rising_good fun j x y h1 h2 => hall j x y (by have := (List.getElem?_eq_some_iff.1 h2).1; omega) h1 h2]
end Go.Proofs

open Go Go.V
namespace Go.Proofs
def checkS (o : Ob) : Int := if 40 < o.labels.length then 11 else if (o.labels.all fun b => decide (b.size ≤ 60)) && (o.pairs.all (inB o.labels.length) && (risingB o.pairs && tranB o.labels.length (mxOf o.pairs))) then 0 else 10
structure IsOb (o : Ob) : Prop where
  le : o.labels.length ≤ 40
  sz : (o.labels.all fun b => decide (b.size ≤ 60)) = true
  inb : o.pairs.all (inB o.labels.length) = true
  ris : risingB o.pairs = true
  tran : tranB o.labels.length (mxOf o.pairs) = true
theorem checkS_zero {o : Ob} : checkS o = 0 ↔ IsOb o := by
  unfold checkS
  constructor
  · intro h
    split at h
    · cases h
    · split at h
      · rename_i h1 h2
        simp only [Bool.and_eq_true] at h2
        exact ⟨by omega, h2.1, h2.2.1, h2.2.2.1, h2.2.2.2⟩
      · cases h
  · intro h
    rw [if_neg (by have := h.le; omega), h.sz, h.inb, h.ris, h.tran]; rfl
theorem OfR.split {s : Sg} {n : Nat} {l : List (Int × Int)} {v : V} {s' : Sg} (h : OfR s n l v s') : ∃ (pv : V) (ec : Int), v = .tup [pv, I ec] ∧ Keep s s' ∧ s.next ≤ s'.next ∧
    ((l.all (inB n) = true ∧ ec = 0 ∧ ∃ p o r, pv = .ptr p 0 ∧ RefR s' p n (mxOf l) o r) ∨ (l.all (inB n) = false ∧ ec = 10)) := by
  rcases h with ⟨h1, p, o, r, rfl, h2, _, h3, h4⟩ | ⟨h1, rfl, h3, h4⟩
  · exact ⟨_, _, rfl, h3, h4, .inl ⟨h1, rfl, p, o, r, rfl, h2⟩⟩
  · exact ⟨_, _, rfl, h3, h4, .inr ⟨h1, rfl⟩⟩
theorem three {A : Prop} (b : Bool) {B : Prop} (h : A ∨ B) : B ∨ (A ∧ b = false) ∨ (A ∧ b = true) := by
  rcases h with h | h
  · cases b
    · exact .inr (.inl ⟨h, rfl⟩)
    · exact .inr (.inr ⟨h, rfl⟩)
  · exact .inl h
set_option maxRecDepth 20000 in
theorem refCheck_ (o : Ob) (hs1 : o.labels.length < 1000000000) (hs2 : o.pairs.length < 1000000000) : PCall Tryd.prog 75 [vObj o] (I (checkS o)) := by
  refine pcall_of_body Tryd.func75 rfl fun s Q hQ => ?_
  obtain ⟨e, he, hl, h0⟩ : ∃ e : Env, ([vObj o] ++ List.replicate (Tryd.f75.ntmps - ([vObj o] : List V).length) .junk) = e ∧ e.length = 46 ∧ ev e (.tmp 0) = vObj o := ⟨_, rfl, rfl, rfl⟩
  rw [he]
  clear he
  refine vsk fun K1 hK1 => ?_
  refine vw_sc 0 [] ?_
  simp only [bs, ↓vopx, ↓vop, thenV, flat, V.cells, h0, wocs, ↓goc, ↓woc, ↓vopm0]
  refine hK1 _ _ ?_
  refine vsk fun K2 hK2 => ?_
  refine vsk fun K3 hK3 => ?_
  refine vw_sc 0 [] ?_
  simp only [bs, ↓vopx, ↓vop, Nat.reduceBEq, thenV, flat, Nat.reduceLT, dLoad, vpart, opII, hl, wocs, ↓goc, ↓woc, ↓vopm0, Tryd.ag22, Tryd.fd25_0, Tryd.sz22, Tryd.un22, len_tStrs]
  refine hK3 _ _ ?_
  refine vck fun A B hA hB => ?_
  simp only [condV, ev_hit, lpv, Nat.reduceLT, decide_eq_true_eq, decide_eq_false_iff_not, hl]
  refine ⟨fun hc9 => hA ?_, fun hc9 => hB ?_⟩
  · clear hA hB A B
    refine vsk fun K4 hK4 => ?_
    refine vw_sc 0 [] ?_
    simp only [bs, ↓vopx, ↓vop, thenV, flat, wocs, ↓goc, ↓woc, ↓vopm0]
    refine hK4 _ _ ?_
    refine vw_ret ?_
    refine hQ _ _ _ (.inr rfl) (done_tmp ?_ fun n b hn h => add_old s _ hn h)
    try simp only [ev_hit, lpv, hl, Nat.reduceLT]
    rw [show checkS o = 11 from by unfold checkS; rw [if_pos (by omega)]]
  · clear hA hB A B
    refine vw_skip ?_
    refine hK2 _ _ ?_
    refine vsk fun K5 hK5 => ?_
    refine vsk fun K6 hK6 => ?_
    refine vw_sc 0 [] ?_
    simp only [bs, ↓vopx, ↓vop, thenV, flat, wocs, ↓goc, ↓woc, ↓vopm0]
    refine hK6 _ _ ?_
    refine vw_block ?_
    refine vw_loop (fun mm e' s' => ∃ i : Nat, mm = o.labels.length - i ∧ i ≤ o.labels.length ∧ e'.length = 46 ∧ ev e' (.tmp 1) = .ptr s.next 0 ∧ ev e' (.tmp 3) = I i ∧ s' = s.add (.box 25 [.t (tStrs o.labels), .t (tPairs o.pairs)]) ∧ (o.labels.take i).all (fun b => decide (b.size ≤ 60)) = true) (⟨0, rfl, Nat.zero_le _, ?_⟩) ?_
    · try simp only [ev_hit, ev_miss, Nat.reduceBEq, lpv, hl, Nat.reduceLT, true_and]
      repeat ((with_reducible refine And.intro ?_ ?_); · trivial)
      first | trivial | rfl | simp
    rintro mm e _ ⟨i, rfl, hle_i, hl, hb1, h_i, rfl, hall0⟩
    refine vsk fun K7 hK7 => ?_
    refine vsk fun K8 hK8 => ?_
    refine vw_sc 0 [] ?_
    simp only [bs, ↓vopx, ↓vop, Nat.reduceBEq, thenV, Nat.reduceLT, dLoad, vpart, opII, hl, hb1, h_i, wocs, ↓goc, ↓woc, ↓vopm0, Tryd.ag22, Tryd.fd25_0, Tryd.sz22, Tryd.un22, len_tStrs]
    refine hK8 _ _ ?_
    refine vck fun A B hA hB => ?_
    simp only [condV, ev_hit, lpv, Nat.reduceLT, decide_eq_true_eq, decide_eq_false_iff_not, hl]
    refine ⟨fun hc14 => hA ?_, fun hc14 => hB ?_⟩
    · clear hA hB A B
      refine vw_skip ?_
      refine hK7 _ _ ?_
      refine vsk fun K9 hK9 => ?_
      refine vw_block ?_
      refine vsk fun K10 hK10 => ?_
      have hlt : i < o.labels.length := by omega
      obtain ⟨b, hb⟩ : ∃ b, o.labels[i]? = some b := ⟨_, List.getElem?_eq_getElem hlt⟩
      refine vw_sc 0 [] ?_
      simp only [bs, ↓vopx, ↓vop, Nat.reduceBEq, thenV, flat, Nat.reduceLT, dLoad, vpart, opII, hl, hb1, h_i, wocs, ↓goc, ↓woc, ↓vopm0, Tryd.ag22, Tryd.ag9, Tryd.fd25_0, Tryd.sz22, Tryd.sz9, Tryd.un22, hb, Tryd.underlying9]
      repeat ((with_reducible refine And.intro ?_ ?_); · (with_reducible assumption))
      refine hK10 _ _ ?_
      refine vck fun A B hA hB => ?_
      simp only [condV, ev_hit, lpv, Nat.reduceLT, decide_eq_true_eq, decide_eq_false_iff_not, hl]
      refine ⟨fun hc23 => hA ?_, fun hc23 => hB ?_⟩
      · clear hA hB A B
        refine vsk fun K11 hK11 => ?_
        refine vw_sc 0 [] ?_
        simp only [bs, ↓vopx, ↓vop, thenV, flat, wocs, ↓goc, ↓woc, ↓vopm0]
        refine hK11 _ _ ?_
        refine vw_ret ?_
        refine hQ _ _ _ (.inr rfl) (done_tmp ?_ fun n b hn h => add_old s _ hn h)
        try simp only [ev_hit, lpv, hl, Nat.reduceLT]
        rw [show checkS o = 10 from by unfold checkS; rw [if_neg (by omega), all_bad hb (by simp; omega)]; simp]
      · clear hA hB A B
        refine vw_skip ?_
        refine hK9 _ _ ?_
        refine vw_sc 0 [] ?_
        simp only [bs, ↓vopx, ↓vop, Nat.reduceBEq, thenV, flat, Nat.reduceLT, opII, hl, hb1, h_i, wocs, ↓goc, ↓woc, ↓vopm0]
        repeat ((with_reducible refine And.intro ?_ ?_); · exact ⟨by omega, by omega⟩)
        refine ⟨o.labels.length - (i + 1), by omega, i + 1, rfl, by omega, ?_⟩
        try simp only [ev_hit, ev_miss, Nat.reduceBEq, lpv, hl, hb1, h_i, if_true, if_false, Nat.reduceEqDiff, Nat.reduceLT, true_and, and_true]
        repeat ((with_reducible refine And.intro ?_ ?_); · trivial)
        exact all_take hb hall0 (by simp; omega)
    · clear hA hB A B
      have han : i = o.labels.length := by omega
      rw [han, List.take_length] at hall0
      refine vw_exit ?_
      simp only [thenV, blockV, if_true]
      refine hK5 _ _ ?_
      refine vsk fun K12 hK12 => ?_
      refine vw_sc 0 [.stop] ?_
      simp only [bs, Nat.reduceAdd, ↓vopx, ↓vop, Nat.reduceBEq, thenV, Nat.reduceLT, dLoad, vpart, hl, hb1, wocs, ↓goc, ↓woc, ↓vopm0, ↓callC, calleeV, Tryd.ag22, Tryd.ag23, Tryd.fd25_0, Tryd.fd25_1, Tryd.sz22, Tryd.sz23, Tryd.un22, len_tStrs]
      refine ⟨Tryd.is102, (refOf_ _ o.labels.length (by omega) o.pairs hs2).mono fun v s2 hv => ?_⟩
      obtain ⟨pv, ec, rfl, hk, hnx, hcase⟩ := hv.split
      try simp only [bs, Nat.reduceBEq, Nat.reduceLT, hl, Hold]
      refine hK12 _ _ ?_
      refine vsk fun K13 hK13 => ?_
      refine vsk fun K14 hK14 => ?_
      have hks : Keep s s2 := ((Keep.refl s).add (Nat.le_refl _) _).trans (by simp [Sg.add]) hk
      have hm2 : s2.m s.next = some (.box 25 [.t (tStrs o.labels), .t (tPairs o.pairs)]) := hk _ _ (by simp [Sg.add]) (add_self _ _)
      rcases three (risingB o.pairs) hcase with ⟨hall, rfl⟩ | ⟨⟨hall, rfl, hR⟩, hri⟩ | ⟨⟨hall, rfl, c, o1, r1, rfl, hR⟩, hri⟩
      · refine vw_sc 0 [] ?_
        simp only [bs, ↓vopx, ↓vop, Nat.reduceBEq, thenV, flat, Nat.reduceLT, opII, gtmp, hl, wocs, ↓goc, ↓woc, ↓vopm0, ↓pick_tf, Int.reduceBNe]
        refine hK14 _ _ ?_
        refine vck fun A B hA hB => ?_
        simp only [condV, ev_hit, lpv, Nat.reduceLT, true_implies, reduceCtorEq, false_implies, and_true, hl]
        refine hA ?_
        clear hA hB A B
        refine vsk fun K15 hK15 => ?_
        refine vw_sc 0 [] ?_
        simp only [bs, ↓vopx, ↓vop, thenV, flat, wocs, ↓goc, ↓woc, ↓vopm0]
        refine hK15 _ _ ?_
        refine vw_ret ?_
        refine hQ _ _ _ (.inr rfl) (done_tmp ?_ hks)
        try simp only [ev_hit, lpv, hl, Nat.reduceLT]
        rw [show checkS o = 10 from by unfold checkS; rw [if_neg (by omega), hall]; simp]
      · refine vw_sc 0 [.pur (Bo (risingB o.pairs))] ?_
        simp only [bs, ↓vopx, ↓vop, Nat.reduceBEq, thenV, flat, Nat.reduceLT, dLoad, vpart, opII, gtmp, hl, hb1, wocs, ↓goc, ↓woc, ↓vopm0, ↓callC, ↓pick_ff, ↓pick_tf, calleeV, Tryd.ag23, Tryd.fd25_1, Tryd.sz23, bne_self_eq_false, hm2, hri]
        repeat ((with_reducible refine And.intro ?_ ?_); · exact ⟨Tryd.is103, by simpa only [hri] using refRising_ o.pairs hs2⟩)
        refine hK14 _ _ ?_
        refine vck fun A B hA hB => ?_
        simp only [condV, ev_hit, lpv, Nat.reduceLT, true_implies, reduceCtorEq, false_implies, and_true, hl]
        refine hA ?_
        clear hA hB A B
        refine vsk fun K16 hK16 => ?_
        refine vw_sc 0 [] ?_
        simp only [bs, ↓vopx, ↓vop, thenV, flat, wocs, ↓goc, ↓woc, ↓vopm0]
        refine hK16 _ _ ?_
        refine vw_ret ?_
        refine hQ _ _ _ (.inr rfl) (done_tmp ?_ hks)
        try simp only [ev_hit, lpv, hl, Nat.reduceLT]
        rw [show checkS o = 10 from by unfold checkS; rw [if_neg (by omega), hri]; simp]
      · refine vw_sc 0 [.pur (Bo (risingB o.pairs)), .det (Bo (tranB o.labels.length (mxOf o.pairs))) s2] ?_
        simp only [bs, ↓vopx, ↓vop, Nat.reduceBEq, thenV, flat, Nat.reduceLT, dLoad, vpart, opII, gtmp, hl, hb1, wocs, ↓goc, ↓woc, ↓vopm0, ↓callC, ↓pick_ff, calleeV, Tryd.ag23, Tryd.fd25_1, Tryd.sz23, bne_self_eq_false, hm2, hri]
        repeat ((with_reducible refine And.intro ?_ ?_); · first | exact ⟨Tryd.is103, by simpa only [hri] using refRising_ o.pairs hs2⟩ | exact ⟨Tryd.is104, refTrans_ _ _ _ _ _ _ hR⟩)
        refine hK14 _ _ ?_
        refine vck fun A B hA hB => ?_
        simp only [condV, ev_hit, lpv, Nat.reduceLT, Bool.not_eq_true', Bool.not_eq_false', hl]
        refine ⟨fun hc45 => hA ?_, fun hc45 => hB ?_⟩
        · clear hA hB A B
          refine vsk fun K17 hK17 => ?_
          refine vw_sc 0 [] ?_
          simp only [bs, ↓vopx, ↓vop, thenV, flat, wocs, ↓goc, ↓woc, ↓vopm0]
          refine hK17 _ _ ?_
          refine vw_ret ?_
          refine hQ _ _ _ (.inr rfl) (done_tmp ?_ hks)
          try simp only [ev_hit, lpv, hl, Nat.reduceLT]
          rw [show checkS o = 10 from by unfold checkS; rw [if_neg (by omega), hc45]; simp]
        · clear hA hB A B
          refine vw_skip ?_
          refine hK13 _ _ ?_
          refine vsk fun K18 hK18 => ?_
          refine vw_sc 0 [] ?_
          simp only [bs, ↓vopx, ↓vop, thenV, flat, wocs, ↓goc, ↓woc, ↓vopm0]
          refine hK18 _ _ ?_
          refine vw_ret ?_
          refine hQ _ _ _ (.inr rfl) (done_tmp ?_ hks)
          try simp only [ev_hit, lpv, hl, Nat.reduceLT]
          rw [show checkS o = 0 from by unfold checkS; rw [if_neg (by omega), hall0, hall, hri, hc45]; rfl]
set_option maxRecDepth 20000 in
theorem refIsOb_ (o : Ob) (hs1 : o.labels.length < 1000000000) (hs2 : o.pairs.length < 1000000000) : PCall Tryd.prog 31 [vObj o] (Bo (checkS o == 0)) := by
  refine pcall_of_body Tryd.func31 rfl fun s Q hQ => ?_
  obtain ⟨e, he, hl, h0⟩ : ∃ e : Env, ([vObj o] ++ List.replicate (Tryd.f31.ntmps - ([vObj o] : List V).length) .junk) = e ∧ e.length = 6 ∧ ev e (.tmp 0) = vObj o := ⟨_, rfl, rfl, rfl⟩
  rw [he]
  clear he
  refine vsk fun K1 hK1 => ?_
  refine vw_sc 0 [] ?_
  simp only [bs, ↓vopx, ↓vop, thenV, flat, V.cells, h0, wocs, ↓goc, ↓woc, ↓vopm0]
  refine hK1 _ _ ?_
  refine vsk fun K2 hK2 => ?_
  refine vw_sc 0 [.pur (I (checkS o))] ?_
  simp only [bs, Nat.reduceAdd, ↓vopx, ↓vop, Nat.reduceBEq, thenV, flat, Nat.reduceLT, dLoad, vpart, opII, hl, wocs, ↓goc, ↓woc, ↓vopm0, ↓callC, calleeV, Tryd.ag25, Tryd.sz25]
  repeat ((with_reducible refine And.intro ?_ ?_); · exact ⟨Tryd.is75, refCheck_ o hs1 hs2⟩)
  refine hK2 _ _ ?_
  refine vw_ret ?_
  refine hQ _ _ _ (.inr rfl) (done_tmp ?_ fun n b hn h => add_old s _ hn h)
  try simp only [ev_hit, lpv, hl, Nat.reduceLT]
end Go.Proofs

open Go Go.V
namespace Go.Proofs
def allY {α β : Type} (r : α → β → Bool) : List α → List β → Bool
  | [], [] => true
  | a :: l, b :: m => r a b && allY r l m
  | _, _ => false
theorem allY_len {α β : Type} {r : α → β → Bool} : ∀ {l : List α} {m : List β}, l.length ≠ m.length → allY r l m = false
  | [], [], h => absurd rfl h
  | [], _ :: _, _ => rfl
  | _ :: _, [], _ => rfl
  | a :: l, b :: m, h => by simp [allY, allY_len (r := r) (l := l) (m := m) (by simpa using h)]
theorem allY_bad {α β : Type} {r : α → β → Bool} : ∀ {l : List α} {m : List β} {i : Nat} {a : α} {b : β}, l[i]? = some a → m[i]? = some b → r a b = false → allY r l m = false
  | [], _, i, a, b, h, _, _ => by simp at h
  | _ :: _, [], i, a, b, _, h, _ => by simp at h
  | a :: l, b :: m, 0, x, y, h1, h2, h3 => by simp at h1 h2; subst h1; subst h2; simp [allY, h3]
  | a :: l, b :: m, i + 1, x, y, h1, h2, h3 => by simp [allY, allY_bad (r := r) (l := l) (m := m) (by simpa using h1) (by simpa using h2) h3]
theorem allY_good {α β : Type} {r : α → β → Bool} : ∀ {l : List α} {m : List β}, l.length = m.length → (∀ (i : Nat) (a : α) (b : β), l[i]? = some a → m[i]? = some b → r a b = true) → allY r l m = true
  | [], [], _, _ => rfl
  | [], _ :: _, h, _ => by simp at h
  | _ :: _, [], h, _ => by simp at h
  | a :: l, b :: m, h, hh => by
    simp only [allY, Bool.and_eq_true]
    exact ⟨hh 0 a b rfl rfl, allY_good (by simpa using h) fun i x y h1 h2 => hh (i + 1) x y (by simpa using h1) (by simpa using h2)⟩
theorem allY_at {α β : Type} {r : α → β → Bool} : ∀ {l : List α} {m : List β}, allY r l m = true → ∀ {i : Nat} {a : α} {b : β}, l[i]? = some a → m[i]? = some b → r a b = true
  | [], _, _, i, a, b, h, _ => by simp at h
  | _ :: _, [], h, i, a, b, _, _ => by simp [allY] at h
  | x :: l, y :: m, h, 0, a, b, h1, h2 => by simp at h1 h2; subst h1; subst h2; simp only [allY, Bool.and_eq_true] at h; exact h.1
  | x :: l, y :: m, h, i + 1, a, b, h1, h2 => by simp only [allY, Bool.and_eq_true] at h; exact allY_at h.2 (by simpa using h1) (by simpa using h2)
theorem allY_length {α β : Type} {r : α → β → Bool} {l : List α} {m : List β} (h : allY r l m = true) : l.length = m.length := Decidable.byContradiction fun hn => by rw [allY_len hn] at h; cases h
def mapOK (b : Ob) (y : Int) (la : ByteArray) : Bool := decide (0 ≤ y ∧ y < b.labels.length) && (match b.labels[y.toNat]? with | some lb => seqB la lb | none => false)
def fAt (f : List Int) (z : Int) : Nat := ((f[z.toNat]?).getD 0).toNat
def arrS (a b : Ob) (f : List Int) : Bool := (checkS a == 0) && ((checkS b == 0) && (allY (mapOK b) f a.labels && a.pairs.all fun p => mxOf b.pairs (fAt f p.1) (fAt f p.2)))
end Go.Proofs

open Go Go.V
namespace Go.Proofs
structure RefU (s : Sg) (p m : Nat) (l : List Int) : Prop where
  hp : s.m p = some (.box 114 [.loc m 0 l.length])
  hm : s.m m = some (.arr 1 3 (l.map TI))
  lp : p < s.next
  lm : m < s.next
theorem RefU.ne {s : Sg} {p m : Nat} {l : List Int} (h : RefU s p m l) : p ≠ m := fun e => by have := h.hp; rw [e, h.hm] at this; cases this
theorem RefU.push {s : Sg} {p m : Nat} {l : List Int} (h : RefU s p m l) (X : Blk) (z : Int) :
    RefU ((((s.add X).del m).add (.arr 1 3 (l.map TI ++ [TI z]))).set p (.box 114 [.loc (s.next + 1) 0 (l.length + 1)])) p (s.next + 1) (l ++ [z]) := by
  have h1 := h.lp
  have h2 := h.lm
  refine ⟨by simp [Sg.set], ?_, by simp [Sg.set, Sg.add, Sg.del]; omega, by simp [Sg.set, Sg.add, Sg.del]⟩
  have e1 : s.next + 1 ≠ p := by omega
  simp [Sg.set, Sg.add, Sg.del, e1]
theorem RefU.keep {s s' : Sg} {p m : Nat} {l : List Int} (h : RefU s p m l) (hk : Keep s s') (hn : s.next ≤ s'.next) : RefU s' p m l :=
  ⟨hk _ _ h.lp h.hp, hk _ _ h.lm h.hm, Nat.lt_of_lt_of_le h.lp hn, Nat.lt_of_lt_of_le h.lm hn⟩
theorem RefU.put {s : Sg} {p m : Nat} {l : List Int} (h : RefU s p m l) {i : Nat} (hi : i < l.length) (x : Int) : RefU (s.set m (.arr 1 3 (setAll (l.map TI) i [TI x]))) p m (l.set i x) := by
  refine ⟨by simp [Sg.set, h.ne, h.hp], ?_, h.lp, h.lm⟩
  rw [setAll_one _ _ _ (by simpa using hi)]
  simp [Sg.set, List.map_set]
def rangeI (n : Nat) : List Int := (List.range n).map fun (i : Nat) => (i : Int)
theorem rangeI_length (n : Nat) : (rangeI n).length = n := by simp [rangeI]
theorem rangeI_succ (n : Nat) : rangeI (n + 1) = rangeI n ++ [(n : Int)] := by simp [rangeI, List.range_succ]
def joinL (l : List Int) (a b : Nat) : List Int := l.map fun z => if z = max (l.getD a 0) (l.getD b 0) then min (l.getD a 0) (l.getD b 0) else z
theorem joinL_same {l : List Int} {a b : Nat} (h : l.getD a 0 = l.getD b 0) : joinL l a b = l := by
  unfold joinL
  rw [h, Int.max_self, Int.min_self]
  have : (fun z : Int => if z = l.getD b 0 then l.getD b 0 else z) = id := by funext z; split <;> simp_all
  rw [this, List.map_id]
def JoinU (s : Sg) (p m : Nat) (l : List Int) (v : V) (s' : Sg) : Prop := (∃ b, v = Bo b) ∧ RefU s' p m l ∧ (∀ j, j ≠ m → s'.m j = s.m j) ∧ s'.next = s.next
theorem JoinU.keep {s0 s : Sg} {p m : Nat} {l : List Int} {v : V} {s' : Sg} (h : JoinU s p m l v s') (hm : s0.next ≤ m) (hk : Keep s0 s) : Keep s0 s' := fun n b hn hb => by
  rw [h.2.2.1 n (by omega)]; exact hk n b hn hb
end Go.Proofs

open Go Go.V
namespace Go.Proofs
def GrowI (s0 s : Sg) (m : Nat) (l : List Int) : Prop := s.m m = some (.arr 1 3 (l.map TI)) ∧ s0.next ≤ m ∧ m < s.next
theorem GrowI.push {s0 s1 : Sg} {m : Nat} {l : List Int} (_h : GrowI s0 s1 m l) (hn : s0.next ≤ s1.next) (X : Blk) (z : Int) :
    GrowI s0 (((s1.add X).del m).add (.arr 1 3 (l.map TI ++ [TI z]))) (s1.next + 1) (l ++ [z]) := by
  refine ⟨?_, by omega, by simp [Sg.add, Sg.del]⟩
  simp [Sg.add, Sg.del]
theorem GrowI.keep {s0 s1 : Sg} {m : Nat} {l : List Int} (h : GrowI s0 s1 m l) (hk : Keep s0 s1) (hn : s0.next ≤ s1.next) (X Y : Blk) : Keep s0 (((s1.add X).del m).add Y) :=
  ((hk.add hn X).del h.2.1).add (by simp only [n_add, n_del]; omega) Y
theorem GrowI.new (s : Sg) : GrowI s (s.add (.arr 1 3 [])) s.next [] := ⟨by simp [Sg.add], Nat.le_refl _, by simp [Sg.add]⟩
def wfU (l : List Int) : Prop := ∀ (i : Nat) (z : Int), l[i]? = some z → 0 ≤ z ∧ z ≤ i
def plS (l : List Int) : Nat → List Int × Nat
  | 0 => ([], 0)
  | k + 1 => if l.getD k 0 = k then ((plS l k).1 ++ [((plS l k).2 : Int)], (plS l k).2 + 1) else ((plS l k).1 ++ [(plS l k).1.getD (l.getD k 0).toNat 0], (plS l k).2)
theorem plS_length (l : List Int) : ∀ k, (plS l k).1.length = k
  | 0 => rfl
  | k + 1 => by unfold plS; split <;> simp [plS_length l k]
theorem plS_le (l : List Int) : ∀ k, (plS l k).2 ≤ k
  | 0 => Nat.le_refl _
  | k + 1 => by have := plS_le l k; unfold plS; split <;> simp <;> omega
def plO (l : List Int) (i : Nat) : List Int := (plS l i).1 ++ List.replicate (l.length - i) 0
theorem plO_length {l : List Int} {i : Nat} (h : i ≤ l.length) : (plO l i).length = l.length := by simp [plO, plS_length]; omega
theorem plO_set {l : List Int} {i : Nat} (h : i < l.length) (v : Int) : (plO l i).set i v = (plS l i).1 ++ v :: List.replicate (l.length - (i + 1)) 0 := by
  unfold plO
  rw [List.set_append_right _ _ (by rw [plS_length]; omega), plS_length, Nat.sub_self, show l.length - i = (l.length - (i + 1)) + 1 by omega, List.replicate_succ, List.set_cons_zero]
theorem plO_root {l : List Int} {i : Nat} (h : i < l.length) (hz : l.getD i 0 = i) : (plO l i).set i (plS l i).2 = plO l (i + 1) := by
  rw [plO_set h]
  show _ = (if l.getD i 0 = i then _ else _ : List Int × Nat).1 ++ _
  rw [if_pos hz]; simp
theorem plO_other {l : List Int} {i : Nat} (h : i < l.length) (hz : l.getD i 0 ≠ i) : (plO l i).set i ((plS l i).1.getD (l.getD i 0).toNat 0) = plO l (i + 1) := by
  rw [plO_set h]
  show _ = (if l.getD i 0 = i then _ else _ : List Int × Nat).1 ++ _
  rw [if_neg hz]; simp
theorem plS_root2 {l : List Int} {i : Nat} (hz : l.getD i 0 = i) : (plS l (i + 1)).2 = (plS l i).2 + 1 := by
  show (if l.getD i 0 = i then _ else _ : List Int × Nat).2 = _
  rw [if_pos hz]
theorem plS_other2 {l : List Int} {i : Nat} (hz : l.getD i 0 ≠ i) : (plS l (i + 1)).2 = (plS l i).2 := by
  show (if l.getD i 0 = i then _ else _ : List Int × Nat).2 = _
  rw [if_neg hz]
theorem plO_get {l : List Int} {i j : Nat} (h : j < i) : (plO l i)[j]? = some ((plS l i).1.getD j 0) := by
  have hj : j < (plS l i).1.length := by rw [plS_length]; exact h
  unfold plO
  rw [List.getElem?_append_left hj, List.getD_eq_getElem?_getD, List.getElem?_eq_getElem hj]; rfl
def placesL (l : List Int) : List Int := (plS l l.length).1
theorem plO_end (l : List Int) : plO l l.length = placesL l := by simp [plO, placesL]
theorem plO_zero (l : List Int) : plO l 0 = List.replicate l.length 0 := by simp [plO, plS]
end Go.Proofs

open Go Go.V
namespace Go.Proofs
theorem arrS_iff {a b : Ob} {f : List Int} : arrS a b f = true ↔ IsOb a ∧ IsOb b ∧ allY (mapOK b) f a.labels = true ∧ ∀ p ∈ a.pairs, mxOf b.pairs (fAt f p.1) (fAt f p.2) = true := by
  unfold arrS
  simp only [Bool.and_eq_true, beq_iff_eq, checkS_zero, List.all_eq_true]
theorem seqB_iff {a b : ByteArray} : seqB a b = true ↔ a.toList = b.toList := by unfold seqB; exact beq_iff_eq
theorem mapOK_iff {b : Ob} {y : Int} {la : ByteArray} : mapOK b y la = true ↔ ∃ lb, (0 ≤ y ∧ y < b.labels.length) ∧ b.labels[y.toNat]? = some lb ∧ la.toList = lb.toList := by
  unfold mapOK
  constructor
  · intro h
    simp only [Bool.and_eq_true, decide_eq_true_eq] at h
    obtain ⟨h1, h2⟩ := h
    cases hb : b.labels[y.toNat]? with
    | none => rw [hb] at h2; cases h2
    | some lb => rw [hb] at h2; exact ⟨lb, h1, rfl, seqB_iff.1 h2⟩
  · rintro ⟨lb, h1, h2, h3⟩
    rw [h2]
    simp only [Bool.and_eq_true, decide_eq_true_eq]
    exact ⟨h1, seqB_iff.2 h3⟩
theorem map_in {a b : Ob} {f : List Int} (h : allY (mapOK b) f a.labels = true) {i : Nat} {y : Int} (hy : f[i]? = some y) : 0 ≤ y ∧ y < b.labels.length := by
  have hl := allY_length h
  have hi : i < a.labels.length := by rw [← hl]; exact (List.getElem?_eq_some_iff.1 hy).1
  obtain ⟨lb, h1, _⟩ := mapOK_iff.1 (allY_at h hy (List.getElem?_eq_getElem hi))
  exact h1
theorem map_all {a b : Ob} {f : List Int} (h : allY (mapOK b) f a.labels = true) : ∀ y ∈ f, 0 ≤ y ∧ y < b.labels.length := fun y hy => by
  obtain ⟨i, hi⟩ := List.getElem?_of_mem hy
  exact map_in h hi
theorem thenS_ok {f g : List Int} (h : ∀ y ∈ f, 0 ≤ y ∧ y < g.length) : thenS f g = (f.map fun y => g.getD y.toNat 0, true) := by
  unfold thenS
  rw [if_pos]
  simp only [List.all_eq_true, Bool.and_eq_true, decide_eq_true_eq]
  exact h
theorem arr_pair {a b : Ob} {f : List Int} (h : arrS a b f = true) {x y : Nat} (hm : mxOf a.pairs x y = true) : ∃ u v : Nat, f[x]? = some (u : Int) ∧ f[y]? = some (v : Int) ∧ mxOf b.pairs u v = true := by
  obtain ⟨ha, hb, hmap, hp⟩ := arrS_iff.1 h
  have hl := allY_length hmap
  simp only [mxOf, List.any_eq_true, Bool.and_eq_true, beq_iff_eq] at hm
  obtain ⟨p, hpm, rfl, rfl⟩ := hm
  have hin := (List.all_eq_true.1 ha.inb) p hpm
  simp only [inB, Bool.and_eq_true, decide_eq_true_eq] at hin
  obtain ⟨u, hu⟩ : ∃ u, f[p.1.toNat]? = some u := ⟨_, List.getElem?_eq_getElem (by omega)⟩
  obtain ⟨v, hv⟩ : ∃ v, f[p.2.toNat]? = some v := ⟨_, List.getElem?_eq_getElem (by omega)⟩
  have hu0 := map_in hmap hu
  have hv0 := map_in hmap hv
  have := hp p hpm
  simp only [fAt, hu, hv, Option.getD_some] at this
  exact ⟨u.toNat, v.toNat, by rw [hu]; congr 1; omega, by rw [hv]; congr 1; omega, this⟩
theorem arr_of {a b : Ob} {f : List Int} (ha : IsOb a) (hb : IsOb b) (hl : f.length = a.labels.length) (hlab : ∀ (i : Nat) (y : Int) (la : ByteArray), f[i]? = some y → a.labels[i]? = some la → ∃ lb, (0 ≤ y ∧ y < b.labels.length) ∧ b.labels[y.toNat]? = some lb ∧ la.toList = lb.toList)
    (hp : ∀ (x y : Nat), mxOf a.pairs x y = true → ∃ u v : Nat, f[x]? = some (u : Int) ∧ f[y]? = some (v : Int) ∧ mxOf b.pairs u v = true) : arrS a b f = true := by
  refine arrS_iff.2 ⟨ha, hb, allY_good hl fun i y la h1 h2 => mapOK_iff.2 (hlab i y la h1 h2), fun p hpm => ?_⟩
  obtain ⟨u, v, h1, h2, h3⟩ := hp p.1.toNat p.2.toNat (by simp only [mxOf, List.any_eq_true, Bool.and_eq_true, beq_iff_eq]; exact ⟨p, hpm, rfl, rfl⟩)
  simp [fAt, h1, h2, h3]
theorem then_arr {a b c : Ob} {f g : List Int} (h : arrS a b f = true) (k : arrS b c g = true) : arrS a c (f.map fun y => g.getD y.toNat 0) = true := by
  obtain ⟨ha, hb, hmap, _⟩ := arrS_iff.1 h
  obtain ⟨_, hc, hmap2, _⟩ := arrS_iff.1 k
  refine arr_of ha hc (by rw [List.length_map]; exact allY_length hmap) (fun i z la hz hla => ?_) fun x y hm => ?_
  · rw [List.getElem?_map] at hz
    cases hy : f[i]? with
    | none => rw [hy] at hz; cases hz
    | some y =>
      rw [hy] at hz
      simp only [Option.map_some, Option.some.injEq] at hz
      obtain ⟨lb, h1, h2, h3⟩ := mapOK_iff.1 (allY_at hmap hy hla)
      have hgl : y.toNat < g.length := by rw [allY_length hmap2]; omega
      rw [List.getD_eq_getElem?_getD, List.getElem?_eq_getElem hgl, Option.getD_some] at hz
      obtain ⟨lc, k1, k2, k3⟩ := mapOK_iff.1 (allY_at hmap2 (List.getElem?_eq_getElem hgl) h2)
      rw [hz] at k1 k2
      exact ⟨lc, k1, k2, h3.trans k3⟩
  · obtain ⟨u, v, h1, h2, h3⟩ := arr_pair h hm
    obtain ⟨u', v', k1, k2, k3⟩ := arr_pair k h3
    refine ⟨u', v', ?_, ?_, k3⟩
    · rw [List.getElem?_map, h1]; simp [List.getD_eq_getElem?_getD, k1]
    · rw [List.getElem?_map, h2]; simp [List.getD_eq_getElem?_getD, k2]
theorem idS_nat {n : Nat} (h : n ≤ 40) : idS (n : Int) = (List.range n).map fun (j : Nat) => (j : Int) := by
  have : idN (n : Int) = n := by unfold idN; omega
  unfold idS; rw [this]
theorem idS_get {n i : Nat} (h : n ≤ 40) (hi : i < n) : (idS (n : Int))[i]? = some (i : Int) := by
  rw [idS_nat h, List.getElem?_map, List.getElem?_range hi]; rfl
theorem idS_len {n : Nat} (h : n ≤ 40) : (idS (n : Int)).length = n := by rw [idS_nat h]; simp
theorem id_arr {a : Ob} (h : IsOb a) : arrS a a (idS (a.labels.length : Int)) = true := by
  have hl := h.le
  refine arr_of h h (idS_len hl) (fun i y la hy hla => ?_) fun x y hm => ?_
  · have hi := (List.getElem?_eq_some_iff.1 hla).1
    rw [idS_get hl hi] at hy
    cases hy
    exact ⟨la, by omega, by simpa using hla, rfl⟩
  · have hw := mxOf_within (fun p hp => (List.all_eq_true.1 h.inb) p hp) x y hm
    exact ⟨x, y, idS_get hl hw.1, idS_get hl hw.2, hm⟩
theorem then_id_left {n : Nat} {f : List Int} (h : n ≤ 40) (hf : f.length = n) : thenS (idS (n : Int)) f = (f, true) := by
  rw [thenS_ok]
  · congr 1
    apply List.ext_getElem?
    intro i
    rw [List.getElem?_map]
    by_cases hi : i < n
    · rw [idS_get h hi]
      simp [List.getD_eq_getElem?_getD, List.getElem?_eq_getElem (show i < f.length by omega)]
    · rw [List.getElem?_eq_none (by rw [idS_len h]; omega), List.getElem?_eq_none (by omega)]; rfl
  · intro y hy
    rw [idS_nat h] at hy
    simp only [List.mem_map, List.mem_range] at hy
    obtain ⟨j, hj, rfl⟩ := hy
    omega
end Go.Proofs

open Go Go.V
namespace Go.Proofs
def shP (n : Nat) (p : Int × Int) : Int × Int := (p.1 + n, p.2 + n)
def besideS (b c : Ob) : Ob := ⟨b.labels ++ c.labels, b.pairs ++ c.pairs.map (shP b.labels.length)⟩
theorem rising_iff {l : List (Int × Int)} : risingB l = true ↔ ∀ (i : Nat) (p q : Int × Int), l[i]? = some p → l[i + 1]? = some q → pltB p q = true := by
  constructor
  · intro h i p q h1 h2
    cases hp : pltB p q with
    | true => rfl
    | false => rw [rising_bad h1 h2 hp] at h; cases h
  · exact rising_good
theorem inB_iff {n : Nat} {p : Int × Int} : inB n p = true ↔ (0 ≤ p.1 ∧ p.1 < n) ∧ (0 ≤ p.2 ∧ p.2 < n) := by
  simp only [inB, Bool.and_eq_true, decide_eq_true_eq]
theorem mxOf_iff {l : List (Int × Int)} {x y : Nat} : mxOf l x y = true ↔ ∃ p ∈ l, p.1.toNat = x ∧ p.2.toNat = y := by
  simp only [mxOf, List.any_eq_true, Bool.and_eq_true, beq_iff_eq]
theorem mxOf_sh {n : Nat} {l : List (Int × Int)} (h : ∀ p ∈ l, 0 ≤ p.1 ∧ 0 ≤ p.2) {x y : Nat} : mxOf (l.map (shP n)) x y = true ↔ ∃ u v : Nat, x = u + n ∧ y = v + n ∧ mxOf l u v = true := by
  rw [mxOf_iff]
  constructor
  · rintro ⟨q, hq, h1, h2⟩
    obtain ⟨p, hp, rfl⟩ := List.mem_map.1 hq
    have := h p hp
    simp only [shP] at h1 h2
    exact ⟨p.1.toNat, p.2.toNat, by omega, by omega, mxOf_iff.2 ⟨p, hp, rfl, rfl⟩⟩
  · rintro ⟨u, v, rfl, rfl, hm⟩
    obtain ⟨p, hp, h1, h2⟩ := mxOf_iff.1 hm
    have := h p hp
    exact ⟨shP n p, List.mem_map.2 ⟨p, hp, rfl⟩, by simp only [shP]; omega, by simp only [shP]; omega⟩
theorem mxOf_app {l m : List (Int × Int)} {x y : Nat} : mxOf (l ++ m) x y = true ↔ mxOf l x y = true ∨ mxOf m x y = true := by
  rw [mxOf_append]; simp
theorem IsOb.within {o : Ob} (h : IsOb o) : Within o.labels.length (mxOf o.pairs) := mxOf_within fun p hp => (List.all_eq_true.1 h.inb) p hp
theorem IsOb.trans {o : Ob} (h : IsOb o) : Trans (mxOf o.pairs) := (tranB_iff h.within).1 h.tran
theorem IsOb.nonneg {o : Ob} (h : IsOb o) : ∀ p ∈ o.pairs, 0 ≤ p.1 ∧ 0 ≤ p.2 := fun p hp => by
  have := inB_iff.1 ((List.all_eq_true.1 h.inb) p hp); omega
theorem beside_mx {b c : Ob} (hc : IsOb c) {x y : Nat} : mxOf (besideS b c).pairs x y = true ↔ mxOf b.pairs x y = true ∨ ∃ u v : Nat, x = u + b.labels.length ∧ y = v + b.labels.length ∧ mxOf c.pairs u v = true := by
  unfold besideS
  rw [mxOf_app, mxOf_sh hc.nonneg]
theorem beside_ob {b c : Ob} (hb : IsOb b) (hc : IsOb c) (hl : b.labels.length + c.labels.length ≤ 40) : IsOb (besideS b c) := by
  have hin : (besideS b c).pairs.all (inB (besideS b c).labels.length) = true := by
    rw [List.all_eq_true]
    intro p hp
    simp only [besideS, List.mem_append, List.mem_map] at hp
    rw [inB_iff]
    simp only [besideS, List.length_append]
    rcases hp with hp | ⟨q, hq, rfl⟩
    · have := inB_iff.1 ((List.all_eq_true.1 hb.inb) p hp); push_cast; omega
    · have := inB_iff.1 ((List.all_eq_true.1 hc.inb) q hq); simp only [shP]; push_cast; omega
  refine ⟨by simpa [besideS] using hl, ?_, hin, rising_iff.2 fun i p q h1 h2 => ?_, (tranB_iff (mxOf_within fun p hp => (List.all_eq_true.1 hin) p hp)).2 fun x k y h1 h2 => ?_⟩
  · simp only [besideS, List.all_append, hb.sz, hc.sz, Bool.and_self]
  · simp only [besideS] at h1 h2
    by_cases hi : i + 1 < b.pairs.length
    · rw [List.getElem?_append_left (by omega)] at h1 h2
      exact rising_iff.1 hb.ris i p q h1 h2
    · by_cases hi2 : i < b.pairs.length
      · rw [List.getElem?_append_left (by omega)] at h1
        rw [List.getElem?_append_right (by omega), List.getElem?_map] at h2
        obtain ⟨z, hz, rfl⟩ := Option.map_eq_some_iff.1 h2
        have k1 := inB_iff.1 ((List.all_eq_true.1 hb.inb) p (List.mem_of_getElem? h1))
        have k2 := inB_iff.1 ((List.all_eq_true.1 hc.inb) z (List.mem_of_getElem? hz))
        simp only [pltB, shP, Bool.or_eq_true]
        exact .inl (decide_eq_true (show p.1 < z.1 + (b.labels.length : Int) by omega))
      · rw [List.getElem?_append_right (by omega), List.getElem?_map] at h1 h2
        obtain ⟨z, hz, rfl⟩ := Option.map_eq_some_iff.1 h1
        obtain ⟨z', hz', rfl⟩ := Option.map_eq_some_iff.1 h2
        have := rising_iff.1 hc.ris (i - b.pairs.length) z z' hz (by rw [show i - b.pairs.length + 1 = i + 1 - b.pairs.length by omega]; exact hz')
        simp only [pltB, shP, Bool.or_eq_true, Bool.and_eq_true, decide_eq_true_eq] at this ⊢
        rcases this with h | ⟨h, h'⟩
        · exact .inl (decide_eq_true (show z.1 + (b.labels.length : Int) < z'.1 + (b.labels.length : Int) by omega))
        · exact .inr ⟨decide_eq_true (show z.1 + (b.labels.length : Int) = z'.1 + (b.labels.length : Int) by omega), decide_eq_true (show z.2 + (b.labels.length : Int) < z'.2 + (b.labels.length : Int) by omega)⟩
  · rw [beside_mx hc] at h1 h2 ⊢
    rcases h1 with h1 | ⟨u, v, rfl, rfl, h1⟩
    · rcases h2 with h2 | ⟨u', v', rfl, rfl, h2⟩
      · exact .inl (hb.trans _ _ _ h1 h2)
      · have := hb.within _ _ h1; omega
    · rcases h2 with h2 | ⟨u', v', h3, rfl, h2⟩
      · have := hb.within _ _ h2; omega
      · obtain rfl : v = u' := by omega
        exact .inr ⟨u, v', rfl, rfl, hc.trans _ _ _ h1 h2⟩
def fstL (l : List Int) : Nat → List Nat
  | 0 => []
  | i + 1 => if l.getD i 0 = (fstL l i).length then fstL l i ++ [i] else fstL l i
def PlOK (l : List Int) : Prop := ∀ (i : Nat) (z : Int), l[i]? = some z → 0 ≤ z ∧ z ≤ (fstL l i).length
def atN (l : List Int) (z : Int) : Nat := (l.getD z.toNat 0).toNat
def glMx (o : Ob) (l : List Int) : Mx := fun x y => o.pairs.any fun p => atN l p.1 == x && atN l p.2 == y
def glN (l : List Int) : Nat := (fstL l l.length).length
def glLab (o : Ob) (l : List Int) (i : Nat) : List ByteArray := (fstL l i).map fun i => o.labels.getD i ByteArray.empty
def gluedS (o : Ob) (l : List Int) : Ob := ⟨glLab o l l.length, pairsOf (glN l) (cloK (glMx o l) (glN l))⟩
theorem fst_le (l : List Int) : ∀ i, (fstL l i).length ≤ i
  | 0 => Nat.le_refl _
  | i + 1 => by have := fst_le l i; unfold fstL; split <;> simp <;> omega
theorem fst_mono (l : List Int) (i : Nat) : (fstL l i).length ≤ (fstL l (i + 1)).length := by
  show _ ≤ (if l.getD i 0 = (fstL l i).length then fstL l i ++ [i] else fstL l i).length
  split <;> simp
theorem fst_mono_le (l : List Int) {i j : Nat} (h : i ≤ j) : (fstL l i).length ≤ (fstL l j).length := by
  induction h with
  | refl => exact Nat.le_refl _
  | step _ ih => exact Nat.le_trans ih (fst_mono l _)
theorem PlOK.lt {l : List Int} (h : PlOK l) {i : Nat} {z : Int} (hz : l[i]? = some z) : 0 ≤ z ∧ z < glN l := by
  have h1 := h i z hz
  have hi := (List.getElem?_eq_some_iff.1 hz).1
  have h2 : z < ((fstL l (i + 1)).length : Nat) := by
    show z < (((if l.getD i 0 = (fstL l i).length then fstL l i ++ [i] else fstL l i).length : Nat) : Int)
    have hg : l.getD i 0 = z := by rw [List.getD_eq_getElem?_getD, hz]; rfl
    rw [hg]
    split
    · simp; omega
    · omega
  have h3 := fst_mono_le l (show i + 1 ≤ l.length from hi)
  unfold glN
  omega
theorem fst_mem (l : List Int) : ∀ i j, j ∈ fstL l i → j < i
  | 0, j, h => by simp [fstL] at h
  | i + 1, j, h => by
    unfold fstL at h
    split at h
    · simp only [List.mem_append, List.mem_singleton] at h
      rcases h with h | rfl
      · have := fst_mem l i j h; omega
      · omega
    · have := fst_mem l i j h; omega
theorem plS_take (l : List Int) : ∀ i j, i ≤ j → (plS l j).1.take i = (plS l i).1
  | i, 0, h => by obtain rfl : i = 0 := by omega
                  simp [plS]
  | i, j + 1, h => by
    by_cases hij : i = j + 1
    · subst hij; exact List.take_of_length_le (by rw [plS_length]; omega)
    · have ih := plS_take l i j (by omega)
      have e : (plS l (j + 1)).1 = (plS l j).1 ++ [if l.getD j 0 = j then ((plS l j).2 : Int) else (plS l j).1.getD (l.getD j 0).toNat 0] := by
        show (if l.getD j 0 = j then _ else _ : List Int × Nat).1 = _
        split <;> rfl
      rw [e, List.take_append_of_le_length (by rw [plS_length]; omega)]; exact ih
theorem plS_fst {l : List Int} (hwf : wfU l) : ∀ i, i ≤ l.length → (fstL (placesL l) i).length = (plS l i).2 ∧ ∀ (j : Nat) (z : Int), j < i → (placesL l)[j]? = some z → 0 ≤ z ∧ z ≤ (fstL (placesL l) j).length ∧ z < (plS l i).2
  | 0, _ => ⟨rfl, fun j z h => by omega⟩
  | i + 1, hi => by
    obtain ⟨h1, h2⟩ := plS_fst hwf i (by omega)
    have hlen : (placesL l).length = l.length := plS_length l _
    obtain ⟨z, hz⟩ : ∃ z, (placesL l)[i]? = some z := ⟨_, List.getElem?_eq_getElem (by omega)⟩
    have hg : (placesL l).getD i 0 = z := by rw [List.getD_eq_getElem?_getD, hz]; rfl
    have hz2 : (plS l (i + 1)).1[i]? = some z := by
      rw [← plS_take l (i + 1) l.length hi, List.getElem?_take, if_pos (by omega)]; exact hz
    have hfe : (fstL (placesL l) (i + 1)).length = if z = (fstL (placesL l) i).length then (fstL (placesL l) i).length + 1 else (fstL (placesL l) i).length := by
      show (if (placesL l).getD i 0 = (fstL (placesL l) i).length then fstL (placesL l) i ++ [i] else fstL (placesL l) i).length = _
      rw [hg]; split <;> simp
    by_cases hr : l.getD i 0 = i
    · have e2 : (plS l (i + 1)).2 = (plS l i).2 + 1 := plS_root2 hr
      have e1 : (plS l (i + 1)).1 = (plS l i).1 ++ [((plS l i).2 : Int)] := by
        show (if l.getD i 0 = i then _ else _ : List Int × Nat).1 = _
        rw [if_pos hr]
      rw [e1, List.getElem?_append_right (by rw [plS_length]; omega), plS_length] at hz2
      simp at hz2
      subst hz2
      refine ⟨by rw [hfe, h1, if_pos rfl, e2], fun j z hj hzj => ?_⟩
      by_cases hji : j = i
      · subst hji; rw [hz] at hzj; cases hzj; rw [h1, e2]; omega
      · have := h2 j z (by omega) hzj; rw [e2]; omega
    · have e2 : (plS l (i + 1)).2 = (plS l i).2 := plS_other2 hr
      have e1 : (plS l (i + 1)).1 = (plS l i).1 ++ [(plS l i).1.getD (l.getD i 0).toNat 0] := by
        show (if l.getD i 0 = i then _ else _ : List Int × Nat).1 = _
        rw [if_neg hr]
      rw [e1, List.getElem?_append_right (by rw [plS_length]; omega), plS_length] at hz2
      simp only [Nat.sub_self, List.getElem?_cons_zero, Option.some.injEq] at hz2
      obtain ⟨y, hy⟩ : ∃ y, l[i]? = some y := ⟨_, List.getElem?_eq_getElem (by omega)⟩
      have hgy : l.getD i 0 = y := by rw [List.getD_eq_getElem?_getD, hy]; rfl
      have hyw := hwf i y hy
      rw [hgy] at hz2 hr
      have hk : y.toNat < i := by omega
      have hz3 : (placesL l)[y.toNat]? = some z := by
        have : (plS l i).1[y.toNat]? = some z := by
          rw [← hz2, List.getD_eq_getElem?_getD, List.getElem?_eq_getElem (by rw [plS_length]; omega)]; rfl
        rw [← plS_take l i l.length (by omega), List.getElem?_take, if_pos hk] at this
        exact this
      have hb := h2 y.toNat z hk hz3
      refine ⟨by rw [hfe, if_neg (by omega), h1, e2], fun j z' hj hzj => ?_⟩
      by_cases hji : j = i
      · subst hji; rw [hz] at hzj; cases hzj; rw [e2]; omega
      · have := h2 j z' (by omega) hzj; rw [e2]; exact this
theorem places_ok {l : List Int} (hwf : wfU l) : PlOK (placesL l) := fun i z hz => by
  have hi : i < l.length := by have := (List.getElem?_eq_some_iff.1 hz).1; rwa [show (placesL l).length = l.length from plS_length l _] at this
  have := (plS_fst hwf l.length (Nat.le_refl _)).2 i z hi hz
  omega
end Go.Proofs

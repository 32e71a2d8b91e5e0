/- Steps on the way to the statement that the last text of this claim proves: an abstract machine over the code, proved sound, and what the functions come to over it. No condition of their own. -/
import Derived.Test.YtkdkajlgbhggdaaDoorA37
import Derived.Test.YtkdkajlgbhggdaaDoorA41
open Go Go.V
namespace Go.Proofs

/-- a name that is none of the relation's is written -/
theorem RelP.setO {s : Sg} {p n : Nat} {M : Mx} {na : Nat} {rp rq : Nat → Nat} (h : RelP s p n M na rp rq) {N x : Nat} (hN : p < N ∧ na < N ∧ (∀ i, i < n → rp i < N) ∧ ∀ i, i < n → rq i < N) (hx : N ≤ x) (b : Blk) : RelP (s.set x b) p n M na rp rq := by
  obtain ⟨q1, q2, q3, q4⟩ := hN
  refine ⟨by simp [Sg.set, show p ≠ x by omega, h.hp], by simp [Sg.set, show na ≠ x by omega, h.ha], fun i hi => ?_, fun i hi => ?_, h.inj, h.le, h.lp, h.la, h.lr, h.lq⟩
  · have := q3 i hi; simp [Sg.set, show rp i ≠ x by omega, h.hr i hi]
  · have := q4 i hi; simp [Sg.set, show rq i ≠ x by omega, h.hw i hi]
/-- while pairs are put into a relation -/
structure RelI (s : Sg) (lp : Blk) (t3 cb n0 c n : Nat) (l : List (Int × Int)) (na : Nat) (rp rq : Nat → Nat) (X : Nat → Prop) (k : Nat) (s' : Sg) : Prop where
  rel : RelP s' c n (mxOf (l.take k)) na rp rq
  bt : s'.m t3 = some (.box 99 [.ptr c 0])
  bc : s'.m cb = some (.box 23 [.t (tPairs l)])
  hl : s'.m n0 = some lp
  hk : Keep s s'
  nx : n0 < s'.next
  hX : ∀ x, X x → n0 < x ∧ x < s'.next
variable {s : Sg} {lp : Blk} {t3 cb n0 c n : Nat} {l : List (Int × Int)} {na : Nat} {rp rq : Nat → Nat} {X : Nat → Prop} {k : Nat} {s' : Sg}
theorem RelI.add (h : RelI s lp t3 cb n0 c n l na rp rq X k s') (h3 : t3 < n0) (hc : cb < n0) (hs : s.next ≤ n0) (b : Blk) : RelI s lp t3 cb n0 c n l na rp rq (fun x => X x ∨ x = s'.next) k (s'.add b) := by
  have hn := h.nx
  refine ⟨h.rel.keep ((Keep.refl s').add (Nat.le_refl _) b) (by simp [Sg.add]), by simp [Sg.add, show t3 ≠ s'.next by omega, h.bt], by simp [Sg.add, show cb ≠ s'.next by omega, h.bc], by simp [Sg.add, show n0 ≠ s'.next by omega, h.hl], h.hk.add (by omega) b, by simp [Sg.add]; omega, fun x hx => ?_⟩
  rcases hx with hx | rfl
  · have := h.hX x hx; exact ⟨this.1, by simp [Sg.add]; omega⟩
  · exact ⟨hn, by simp [Sg.add]⟩
theorem RelI.set (h : RelI s lp t3 cb n0 c n l na rp rq X k s') (h3 : t3 < n0) (hc : cb < n0) (hs : s.next ≤ n0) (hN : c < n0 ∧ na < n0 ∧ (∀ i, i < n → rp i < n0) ∧ ∀ i, i < n → rq i < n0) {x : Nat} (hx : X x) (b : Blk) : RelI s lp t3 cb n0 c n l na rp rq X k (s'.set x b) := by
  have h1 := h.hX x hx
  exact ⟨h.rel.setO hN (by omega) b, by simp [Sg.set, show t3 ≠ x by omega, h.bt], by simp [Sg.set, show cb ≠ x by omega, h.bc], by simp [Sg.set, show n0 ≠ x by omega, h.hl], h.hk.set (by omega) b, h.nx, h.hX⟩

set_option maxRecDepth 20000 in
theorem objRel_ (s : Sg) (o : Ob) (hs1 : o.labels.length < 1000000000) (hs2 : o.pairs.length < 1000000000) (ho : IsOb o) : VCall Tryd.prog 77 [vObj o] s (NewP s o.labels.length (mxOf o.pairs)) := by
  refine kcall_of_body Tryd.func77 rfl fun Q hQ => ?_
  obtain ⟨e, he, hl, h0⟩ : ∃ e : Env, ([vObj o] ++ List.replicate (Tryd.f77.ntmps - ([vObj o] : List V).length) .junk) = e ∧ e.length = 24 ∧ ev e (.tmp 0) = vObj o := ⟨_, rfl, rfl, rfl⟩
  rw [he]
  clear he
  have hcb : (checkS o == 0) = true := by simp [checkS_zero.2 ho]
  have hle := ho.le
  refine vw_seq_k fun K1 hK1 => ?_
  refine vw_sc 0 [] ?_
  simp only [bs, ↓vopx, ↓vop, thenV, flat, V.cells, h0, wocs, ↓goc, ↓woc, ↓vopm0]
  repeat ((with_reducible refine And.intro ?_ ?_); · first | (with_reducible assumption) | omega | exact ⟨by omega, by omega⟩ | with_reducible rfl | (repeat' first | exact Keep.refl _ | refine Keep.add ?_ ?_ _ | refine Keep.set ?_ ?_ _ | exact Nat.le_refl _ | (simp only [Sg.add, Sg.set, Sg.del]; omega)))
  refine hK1 _ _ ?_
  refine vw_seq_k fun K2 hK2 => ?_
  refine vw_seq_k fun K3 hK3 => ?_
  refine vw_sc 0 [.pur (Bo (checkS o == 0))] ?_
  simp only [bs, Nat.reduceAdd, ↓vopx, ↓vop, Nat.reduceBEq, thenV, Nat.reduceLT, dLoad, vpart, hl, wocs, ↓goc, ↓woc, ↓vopm0, ↓callC, calleeV, Tryd.ag25, Tryd.sz25, hcb]
  repeat ((with_reducible refine And.intro ?_ ?_); · first | (with_reducible assumption) | omega | exact ⟨by omega, by omega⟩ | exact ⟨Tryd.is70, by simpa only [hcb] using isOb_ o hs1 hs2⟩ | with_reducible rfl | (repeat' first | exact Keep.refl _ | refine Keep.add ?_ ?_ _ | refine Keep.set ?_ ?_ _ | exact Nat.le_refl _ | (simp only [Sg.add, Sg.set, Sg.del]; omega)))
  refine hK3 _ _ ?_
  refine vw_cond_k fun A B hA hB => ?_
  simp only [condV, ev_hit, length_putv, Nat.reduceLT, true_implies, reduceCtorEq, false_implies, true_and, hl]
  refine hB ?_
  clear hA hB A B
  refine vw_skip ?_
  refine hK2 _ _ ?_
  refine vw_seq_k fun K4 hK4 => ?_
  refine vw_sc 0 [.stop] ?_
  simp only [bs, Nat.reduceAdd, ↓vopx, ↓vop, Nat.reduceBEq, thenV, Nat.reduceLT, V.cells, dLoad, vpart, hl, wocs, ↓goc, ↓woc, ↓vopm0, ↓callC, calleeV, Tryd.ag22, Tryd.fd25_0, Tryd.sz22, Tryd.un22, len_tStrs]
  refine ⟨Tryd.is97, (relNew_ _ o.labels.length (by omega)).mono fun v s2 hv => ?_⟩
  obtain ⟨c, na1, rp1, rq1, rfl, hR, hF0, hk0, hnx0⟩ := hv
  have hle1 : s.next ≤ (s.add (.box 25 [.t (tStrs o.labels), .t (tPairs o.pairs)])).next := by simp [Sg.add]
  have hv0 : s2.m s.next = some (.box 25 [.t (tStrs o.labels), .t (tPairs o.pairs)]) ∧ s.next < s2.next := ⟨hk0 _ _ (by simp [Sg.add]) (add_self _ _), by simp [Sg.add] at hnx0; omega⟩
  have hk : Keep s s2 := ((Keep.refl s).add (Nat.le_refl _) _).trans (by simp [Sg.add]) hk0
  have hnx : s.next ≤ s2.next := by omega
  have hF : FreshP s c o.labels.length na1 rp1 rq1 := ⟨Nat.le_trans hle1 hF0.hp, Nat.le_trans hle1 hF0.ha, fun i hi => Nat.le_trans hle1 (hF0.hr i hi), fun i hi => Nat.le_trans hle1 (hF0.hq i hi)⟩
  try simp only [bs, Nat.reduceBEq, Nat.reduceLT, hl, Tryd.sz99, Tryd.zv99, Hold]
  refine hK4 _ _ ?_
  refine vw_seq_k fun K5 hK5 => ?_
  refine vw_seq_k fun K6 hK6 => ?_
  refine vw_env2 fun e2 sb hE2 hSb => ?_
  subst hE2
  have hbo : sb.m s.next = some (.box 25 [.t (tStrs o.labels), .t (tPairs o.pairs)]) := by rw [hSb]; simp [Sg.set, Sg.add, show s.next ≠ s2.next by omega, hv0.1]
  have hb3 : sb.m s2.next = some (.box 99 [.ptr c 0]) := by rw [hSb]; simp [Sg.set]
  have hsbn : sb.next = s2.next + 1 := by rw [hSb]; rfl
  have hkb : Keep s2 sb := by rw [hSb]; exact ((Keep.refl s2).add (Nat.le_refl _) _).set (Nat.le_refl _) _
  refine vw_sc 0 [.stop] ?_
  simp only [bs, Nat.reduceAdd, ↓vopx, ↓vop, Nat.reduceBEq, thenV, Nat.reduceLT, dLoad, vpart, hl, wocs, ↓goc, ↓woc, ↓vopm0, ↓callC, calleeV, Tryd.ag23, Tryd.fd25_1, Tryd.sz23, hbo]
  refine ⟨Tryd.is89, (valPairs_ sb o.pairs).mono fun v s5 hv => ?_⟩
  obtain ⟨rfl, rfl⟩ := hv
  try simp only [Hold]
  refine hK6 _ _ ?_
  refine vw_block ?_
  refine vw_env2 fun e1 s3 hE hS => ?_
  have hlE : e1.length = 24 := by rw [hE]; simp only [length_putv, hl]
  have h3E : ev e1 (.tmp 3) = .ptr s2.next 0 := by rw [hE]; simp only [ev_hit, ev_miss, Nat.reduceBEq, length_putv, hl, Nat.reduceLT]
  have h15E : ev e1 (.tmp 15) = .clo 114 [.ptr sb.next 0] := by rw [hE]; simp only [ev_hit, length_putv, hl, Nat.reduceLT]
  clear hE
  have h3n : s3.next = sb.next + 1 := by rw [hS]; rfl
  have h3k : Keep sb s3 := by rw [hS]; exact (Keep.refl sb).add (Nat.le_refl _) _
  have h3c : s3.m sb.next = some (.box 23 [.t (tPairs o.pairs)]) := by rw [hS]; simp [Sg.add]
  clear hS
  refine vw_range (g := 114) (caps := [.ptr sb.next 0]) h15E Tryd.func114 rfl (by decide) fun s4 h4e h4n h4m h4l => ?_
  have hNB : c < s3.next ∧ na1 < s3.next ∧ (∀ i, i < o.labels.length → rp1 i < s3.next) ∧ ∀ i, i < o.labels.length → rq1 i < s3.next := ⟨by have := hR.lp; omega, by have := hR.la; omega, fun i hi => by have := hR.lr i hi; omega, fun i hi => by have := hR.lq i hi; omega⟩
  have hk4 : Keep sb s4 := fun m b hm hb => by rw [h4m m (by omega)]; exact h3k m b hm hb
  have hst : RelI s _ s2.next sb.next s3.next c o.labels.length o.pairs na1 rp1 rq1 (fun _ => False) 0 s4 := ⟨(hR.keep (hkb.trans (by omega) hk4) (by omega)).congr fun x y hx hy => by simp [mxOf], hk4 _ _ (by omega) hb3, by rw [h4m _ (by omega)]; exact h3c, h4l, hk.trans hnx (hkb.trans (by omega) hk4), by omega, fun x hx => hx.elim⟩
  refine (valPairs1_ s3.next sb.next o.pairs hs2 _ ⟨fun X k s5 hp => ⟨hp.bc, fun x hx => (hp.hX x hx).2⟩, fun X k s5 b hp => hp.add (by omega) (by omega) (by omega) b, fun X k s5 x b hp hx => hp.set (by omega) (by omega) (by omega) hNB hx b, fun X k s5 hkl hp5 => ?_⟩ s4 hst).mono fun v s6 h6 => ?_
  rotate_left
  · obtain ⟨X, hp6⟩ := h6
    refine ⟨none, .ready, hp6.hl, by simp, ?_⟩
    have hsn : ¬ s2.next = s3.next := by omega
    simp only []
    refine hK5 _ _ ?_
    refine vw_seq_k fun K7 hK7 => ?_
    refine vw_sc 0 [] ?_
    simp only [bs, ↓vopx, ↓vop, thenV, Nat.reduceLT, dLoad, vpart, hlE, h3E, wocs, ↓goc, ↓woc, ↓vopm0, Tryd.ag99, Tryd.sz99, hsn, hp6.bt]
    repeat ((with_reducible refine And.intro ?_ ?_); · first | (with_reducible assumption) | omega | exact ⟨by omega, by omega⟩ | with_reducible rfl | (repeat' first | exact Keep.refl _ | refine Keep.add ?_ ?_ _ | refine Keep.set ?_ ?_ _ | exact Nat.le_refl _ | (simp only [Sg.add, Sg.set, Sg.del]; omega)))
    refine hK7 _ _ ?_
    refine vw_ret ?_
    have hkf : Keep s (s6.del s3.next) := hp6.hk.del (by omega)
    refine hQ _ _ _ (.inr rfl) (donek_tmp (v := .ptr c 0) ?_ rfl ⟨c, na1, rp1, rq1, rfl, ?_, hF, hkf, by simp [Sg.del]; have := hp6.nx; omega⟩)
    try simp only [ev_hit, length_putv, hlE, Nat.reduceLT]
    have hrf := hp6.rel
    rw [List.take_length] at hrf
    exact ⟨by simp [Sg.del, show c ≠ s3.next by have := hNB.1; omega, hrf.hp], by simp [Sg.del, show na1 ≠ s3.next by have := hNB.2.1; omega, hrf.ha], fun i hi => by simp [Sg.del, show rp1 i ≠ s3.next by have := hNB.2.2.1 i hi; omega, hrf.hr i hi], fun i hi => by simp [Sg.del, show rq1 i ≠ s3.next by have := hNB.2.2.2 i hi; omega, hrf.hw i hi], hrf.inj, hrf.le, hrf.lp, hrf.la, hrf.lr, hrf.lq⟩
  obtain ⟨p, hp⟩ : ∃ p, o.pairs[k]? = some p := ⟨_, List.getElem?_eq_getElem hkl⟩
  have hpv : pairV o.pairs k = [.agg [I p.1, I p.2]] := by unfold pairV; rw [hp]
  rw [hpv]
  have hin : (0 ≤ p.1 ∧ p.1 < o.labels.length) ∧ (0 ≤ p.2 ∧ p.2 < o.labels.length) := by have := (List.all_eq_true.1 ho.inb) p (List.mem_of_getElem? hp); simpa only [inB, Bool.and_eq_true, decide_eq_true_eq] using this
  obtain ⟨a, ha⟩ : ∃ a : Nat, p.1 = (a : Int) := ⟨p.1.toNat, by omega⟩
  obtain ⟨b, hb⟩ : ∃ b : Nat, p.2 = (b : Int) := ⟨p.2.toNat, by omega⟩
  have hnx5 := hp5.nx
  have hn35 : s3.next ≠ s5.next := by omega
  have hn25 : s2.next ≠ s5.next := by omega
  refine ycall_of hp5.hl rfl fun KA hKA => ?_
  rw [show (#[16] : Array Tmp).toList = [16] from rfl, setps_one]
  refine vw_sc 0 [] ?_
  simp only [bs, Nat.reduceAdd, ↓vopx, ↓vop, Nat.reduceBEq, thenV, Nat.reduceLT, V.cells, hlE, wocs, ↓goc, ↓woc, ↓vopm0, Tryd.sz84, Tryd.zv84]
  repeat ((with_reducible refine And.intro ?_ ?_); · first | (with_reducible assumption) | omega | exact ⟨by omega, by omega⟩ | with_reducible rfl | (repeat' first | exact Keep.refl _ | refine Keep.add ?_ ?_ _ | refine Keep.set ?_ ?_ _ | exact Nat.le_refl _ | (simp only [Sg.add, Sg.set, Sg.del]; omega)))
  refine hKA _ _ (by simp [Sg.set, Sg.add, hn35, hp5.hl]) ?_
  refine vw_env2 fun e2 sd hE2 hSd => ?_
  subst hE2
  have hsdn : sd.next = s5.next + 1 := by rw [hSd]; rfl
  have hbt : sd.m s2.next = some (.box 99 [.ptr c 0]) := by rw [hSd]; simp [Sg.set, Sg.add, show s2.next ≠ s3.next by omega, hn25, hp5.bt]
  have hbx : sd.m s5.next = some (.box 84 [I p.1, I p.2]) := by rw [hSd]; simp [Sg.set, Sg.add, hn35.symm]
  have hkd : Keep s sd := by rw [hSd]; exact (((hp5.hk.add (by omega) _).set (by omega) _)).set (by omega) _
  have hrd : RelP sd c o.labels.length (mxOf (o.pairs.take k)) na1 rp1 rq1 := by rw [hSd]; exact (hp5.rel.keep (((Keep.refl s5).add (Nat.le_refl _) _).set (Nat.le_refl _) _) (by simp [Sg.set, Sg.add])).setO hNB (Nat.le_refl _) _
  have hdo : ∀ m, m ≠ s3.next → m ≠ s5.next → sd.m m = s5.m m := fun m h1 h2 => by rw [hSd]; simp [Sg.set, Sg.add, h1, h2]
  have hal : a < o.labels.length ∧ b < o.labels.length := by omega
  refine vw_block ?_
  refine vw_sc 0 [.stop] ?_
  simp only [bs, Nat.reduceAdd, ↓vopx, ↓vop, Nat.reduceBEq, blockV, Nat.reduceLT, dLoad, vpart, hlE, h3E, wocs, ↓goc, ↓woc, ↓vopm0, ↓callC, calleeV, Tryd.ag3, Tryd.ag99, Tryd.fd84_0, Tryd.fd84_1, Tryd.sz3, Tryd.sz99, hbt, hbx, ha, hb]
  refine ⟨Tryd.is98, (relAdd_ sd c _ _ na1 rp1 rq1 hrd a b hal.1 hal.2).mono fun v s6 hv => ?_⟩
  try simp only [ha, hb, Hold]
  obtain ⟨⟨bb, rfl⟩, hr6, hm6, hn6⟩ := hv
  have hq : ∀ m, s2.next ≤ m → s6.m m = sd.m m := fun m hm => hm6 m fun i hi => by have := hR.lq i hi; omega
  refine And.intro (by rw [hq _ (by omega), hSd]; exact if_pos rfl) (And.intro rfl ⟨⟨?_, ?_, ?_, by simp [Sg.set], ?_, by simp [Sg.set]; omega, fun x hx => ?_⟩, fun x hx => ?_⟩)
  · rw [mxOf_take hp, updM_or, show p.1.toNat = a from by omega, show p.2.toNat = b from by omega]; exact hr6.setO hNB (Nat.le_refl _) _
  · simp [Sg.set, show s2.next ≠ s3.next by omega, hq s2.next (Nat.le_refl _), hbt]
  · simp [Sg.set, show sb.next ≠ s3.next by omega, hq sb.next (by omega), hdo sb.next (by omega) (by omega), hp5.bc]
  · exact (AddP.keep (v := Bo bb) ⟨⟨_, rfl⟩, hr6, hm6, hn6⟩ (fun i hi => hF.hq i hi) hkd).set (by omega) _
  · have := hp5.hX x hx; exact ⟨this.1, by simp [Sg.set]; omega⟩
  · have := hp5.hX x hx; simp [Sg.set, show x ≠ s3.next by omega, hq x (by omega), hdo x (by omega) (by omega)]

end Go.Proofs

open Go Go.V
namespace Go.Proofs

theorem any_take {α : Type} {P : α → Bool} {l : List α} {i : Nat} {p : α} (hp : l[i]? = some p) (h : (l.take i).any P = false) (hn : P p = false) : (l.take (i + 1)).any P = false := by
  rw [List.take_add_one, hp]; simp [List.any_append, h, hn]
theorem any_at {α : Type} {P : α → Bool} {l : List α} {i : Nat} {p : α} (hp : l[i]? = some p) (h : P p = true) : l.any P = true :=
  List.any_eq_true.2 ⟨p, List.mem_of_getElem? hp, h⟩
theorem all_notany {α : Type} (P : α → Bool) (l : List α) : l.all P = !(l.any fun p => !(P p)) := by
  induction l with
  | nil => rfl
  | cons a l ih => simp only [List.all_cons, List.any_cons, ih]; cases P a <;> rfl

set_option maxRecDepth 20000 in
theorem arrowCl_ (s : Sg) (rb fb c n : Nat) (M : Mx) (na : Nat) (rp rq : Nat → Nat) (h : RelP s c n M na rp rq) (f : List Int) (hrb : s.m rb = some (.box 99 [.ptr c 0])) (hfb : s.m fb = some (.box 26 [.t (tInts f)])) (hlr : rb < s.next) (hlf : fb < s.next) (p : Int × Int) (x y : Int) (hp0 : 0 ≤ p.1 ∧ 0 ≤ p.2) (hx : f[p.1.toNat]? = some x) (hy : f[p.2.toNat]? = some y) (hxr : 0 ≤ x ∧ x < n) (hyr : 0 ≤ y ∧ y < n) : DCall Tryd.prog 79 [.agg [I p.1, I p.2], .ptr rb 0, .ptr fb 0] s (Bo (!(M x.toNat y.toNat))) (s) := by
  refine dcall_of_body Tryd.func79 rfl fun Q hQ => ?_
  obtain ⟨e, he, hl, h0, h1, h2⟩ : ∃ e : Env, ([.agg [I p.1, I p.2], .ptr rb 0, .ptr fb 0] ++ List.replicate (Tryd.f79.ntmps - ([.agg [I p.1, I p.2], .ptr rb 0, .ptr fb 0] : List V).length) .junk) = e ∧ e.length = 18 ∧ ev e (.tmp 0) = .agg [I p.1, I p.2] ∧ ev e (.tmp 1) = .ptr rb 0 ∧ ev e (.tmp 2) = .ptr fb 0 := ⟨_, rfl, rfl, rfl, rfl, rfl⟩
  rw [he]
  clear he
  have hn1 : ¬ rb = s.next := by omega
  have hn2 : ¬ fb = s.next := by omega
  have hp1 : p.1.toNat < f.length := (List.getElem?_eq_some_iff.1 hx).1
  have hp2 : p.2.toNat < f.length := (List.getElem?_eq_some_iff.1 hy).1
  refine vw_seq_k fun K1 hK1 => ?_
  refine vw_sc 0 [] ?_
  simp only [bs, ↓vopx, ↓vop, thenV, flat, V.cells, h0, wocs, ↓goc, ↓woc, ↓vopm0]
  repeat ((with_reducible refine And.intro ?_ ?_); · first | (with_reducible assumption) | omega | exact ⟨by omega, by omega⟩ | with_reducible rfl | (repeat' first | exact Keep.refl _ | refine Keep.add ?_ ?_ _ | refine Keep.set ?_ ?_ _ | exact Nat.le_refl _ | (simp only [Sg.add, Sg.set, Sg.del]; omega)))
  refine hK1 _ _ ?_
  refine vw_seq_k fun K2 hK2 => ?_
  refine vw_chain Tryd.mixed 11 [1, 1, 0, 1, 1, 1, 1, 0, 1, 1, 1] [.det (Bo (M x.toNat y.toNat)) (s.add (.box 84 [I p.1, I p.2]))] [] 0 (by decide +kernel) (by simp [length_putv, hl]) rfl ?_
  simp only [bs, ↓vopx, ↓vop, Nat.reduceBEq, thenV, Nat.reduceLT, dLoad, vpart, hl, h1, h2, wocs, ↓goc, ↓woc, ↓vopm0, ↓vopm1, ↓callC, calleeV, chn, ↓goq, ↓woq, List.zip_cons_cons, List.zip_nil_right, Tryd.ag26, Tryd.ag3, Tryd.ag99, Tryd.fd84_0, Tryd.fd84_1, Tryd.sz26, Tryd.sz3, Tryd.sz99, Tryd.un26, hn1, hn2, hrb, hfb, hp0, hx, hy, hp1, hp2]
  repeat ((with_reducible refine And.intro ?_ ?_); · first | (with_reducible assumption) | omega | exact ⟨by omega, by omega⟩ | exact ⟨Tryd.is80, by simpa [hxr, hyr] using relHas_ (s.add (.box 84 [I p.1, I p.2])) c n M na rp rq (h.keep ((Keep.refl s).add (Nat.le_refl _) _) (by simp [Sg.add])) x y⟩ | with_reducible rfl | (repeat' first | exact Keep.refl _ | refine Keep.add ?_ ?_ _ | refine Keep.set ?_ ?_ _ | exact Nat.le_refl _ | (simp only [Sg.add, Sg.set, Sg.del]; omega)))
  refine hK2 _ _ ?_
  refine vw_ret ?_
  refine hQ _ _ _ (.inr rfl) (Done.toS (done_tmp ?_ fun n b hn h => by simp [Sg.add, show n ≠ s.next by omega, h]))
  try simp only [ev_hit, length_putv, hl, Nat.reduceLT]

set_option maxRecDepth 20000 in
theorem idxPairs_ (s : Sg) (l : List (Int × Int)) (hl0 : l.length < 1000000000) (g : Nat) (caps : List V) (hg : isFn Tryd.prog g) (P : Int × Int → Bool) (hP : ∀ p, p ∈ l → DCall Tryd.prog g ([.agg [I p.1, I p.2]] ++ caps) s (Bo (P p)) s) : VCall Tryd.prog 105 [.t (tPairs l), .clo g caps] s (fun v s' => s' = s ∧ ∃ z : Int, v = I z ∧ decide (z ≥ 0) = l.any P) := by
  refine kcall_of_body Tryd.func105 rfl fun Q hQ => ?_
  obtain ⟨e, he, hl, h0, h1⟩ : ∃ e : Env, ([.t (tPairs l), .clo g caps] ++ List.replicate (Tryd.f105.ntmps - ([.t (tPairs l), .clo g caps] : List V).length) .junk) = e ∧ e.length = 19 ∧ ev e (.tmp 0) = .t (tPairs l) ∧ ev e (.tmp 1) = .clo g caps := ⟨_, rfl, rfl, rfl, rfl⟩
  rw [he]
  clear he
  refine vw_seq_k fun K1 hK1 => ?_
  refine vw_sc 0 [] ?_
  simp only [bs, ↓vopx, ↓vop, thenV, flat, wocs, ↓goc, ↓woc, ↓vopm0]
  repeat ((with_reducible refine And.intro ?_ ?_); · first | (with_reducible assumption) | omega | exact ⟨by omega, by omega⟩ | with_reducible rfl | (repeat' first | exact Keep.refl _ | refine Keep.add ?_ ?_ _ | refine Keep.set ?_ ?_ _ | exact Nat.le_refl _ | (simp only [Sg.add, Sg.set, Sg.del]; omega)))
  refine hK1 _ _ ?_
  refine vw_seq_k fun K2 hK2 => ?_
  refine vw_seq_k fun K3 hK3 => ?_
  refine vw_sc 0 [] ?_
  simp only [bs, ↓vopx, ↓vop, Nat.reduceBEq, thenV, flat, Nat.reduceLT, hl, h0, wocs, ↓goc, ↓woc, ↓vopm0, len_tPairs]
  repeat ((with_reducible refine And.intro ?_ ?_); · first | (with_reducible assumption) | omega | exact ⟨by omega, by omega⟩ | with_reducible rfl | (repeat' first | exact Keep.refl _ | refine Keep.add ?_ ?_ _ | refine Keep.set ?_ ?_ _ | exact Nat.le_refl _ | (simp only [Sg.add, Sg.set, Sg.del]; omega)))
  refine hK3 _ _ ?_
  refine vw_block ?_
  refine vw_loop (fun mm e' s' => ∃ i : Nat, mm = l.length - i ∧ i ≤ l.length ∧ e'.length = 19 ∧ ev e' (.tmp 0) = .t (tPairs l) ∧ ev e' (.tmp 1) = .clo g caps ∧ ev e' (.tmp 7) = I l.length ∧ ev e' (.tmp 8) = I i ∧ s = s' ∧ (l.take i).any P = false) (⟨0, rfl, Nat.zero_le _, ?_⟩) ?_
  · try simp only [ev_hit, ev_miss, Nat.reduceBEq, length_putv, hl, h0, h1, Nat.reduceLT, true_and]
    repeat ((with_reducible refine And.intro ?_ ?_); · first | trivial | assumption | omega | rfl | (push_cast; rfl) | exact ⟨by omega, by omega⟩)
    first | trivial | simp
  rintro mm e _ ⟨i, rfl, hle_i, hl, h0, h1, h7, h_i, rfl, hno⟩
  refine vw_seq_k fun K4 hK4 => ?_
  refine vw_sc 0 [] ?_
  simp only [thenV, opII, h7, h_i, wocs, ↓goc, ↓woc]
  repeat ((with_reducible refine And.intro ?_ ?_); · first | (with_reducible assumption) | omega | exact ⟨by omega, by omega⟩ | with_reducible rfl | (repeat' first | exact Keep.refl _ | refine Keep.add ?_ ?_ _ | refine Keep.set ?_ ?_ _ | exact Nat.le_refl _ | (simp only [Sg.add, Sg.set, Sg.del]; omega)))
  refine hK4 _ _ ?_
  refine vw_seq_k fun K5 hK5 => ?_
  refine vw_cond_k fun A B hA hB => ?_
  simp only [condV, ev_hit, Nat.reduceLT, decide_eq_true_eq, decide_eq_false_iff_not, hl]
  refine ⟨fun hc9 => hA ?_, fun hc9 => hB ?_⟩
  · clear hA hB A B
    refine vw_skip ?_
    refine hK5 _ _ ?_
    refine vw_seq_k fun K6 hK6 => ?_
    refine vw_block ?_
    refine vw_seq_k fun K7 hK7 => ?_
    refine vw_sc 0 [] ?_
    simp only [bs, ↓vopx, ↓vop, Nat.reduceBEq, thenV, Nat.reduceLT, hl, h_i, wocs, ↓goc, ↓woc, ↓vopm0]
    repeat ((with_reducible refine And.intro ?_ ?_); · first | (with_reducible assumption) | omega | exact ⟨by omega, by omega⟩ | with_reducible rfl | (repeat' first | exact Keep.refl _ | refine Keep.add ?_ ?_ _ | refine Keep.set ?_ ?_ _ | exact Nat.le_refl _ | (simp only [Sg.add, Sg.set, Sg.del]; omega)))
    refine hK7 _ _ ?_
    refine vw_seq_k fun K8 hK8 => ?_
    have hlt : i < l.length := by omega
    obtain ⟨p, hp⟩ : ∃ p, l[i]? = some p := ⟨_, List.getElem?_eq_getElem hlt⟩
    have g0 := dropP hp
    have hfl := flat_length l
    have hi2 : i * 2 < l.length * 2 := by omega
    refine vw_sc 0 [.det (Bo (P p)) s] ?_
    simp only [bs, Nat.reduceAdd, ↓vopx, ↓vop, Nat.reduceBEq, thenV, Nat.reduceLT, dLoad, vpart, hl, h0, h1, wocs, ↓goc, ↓woc, ↓vopm0, ↓callC, calleeV, Tryd.ag84, Tryd.sz84, Tryd.un23, g0, hfl, hi2]
    repeat ((with_reducible refine And.intro ?_ ?_); · first | (with_reducible assumption) | omega | exact ⟨by omega, by omega⟩ | exact ⟨hg, hP p (List.mem_of_getElem? hp)⟩ | with_reducible rfl | (repeat' first | exact Keep.refl _ | refine Keep.add ?_ ?_ _ | refine Keep.set ?_ ?_ _ | exact Nat.le_refl _ | (simp only [Sg.add, Sg.set, Sg.del]; omega)))
    refine hK8 _ _ ?_
    refine vw_cond_k fun A B hA hB => ?_
    simp only [condV, ev_hit, length_putv, Nat.reduceLT, hl]
    refine ⟨fun hc16 => hA ?_, fun hc16 => hB ?_⟩
    · clear hA hB A B
      refine vw_seq_k fun K9 hK9 => ?_
      refine vw_sc 0 [] ?_
      simp only [bs, ↓vopx, ↓vop, Nat.reduceBEq, thenV, Nat.reduceLT, hl, wocs, ↓goc, ↓woc, ↓vopm0]
      repeat ((with_reducible refine And.intro ?_ ?_); · first | (with_reducible assumption) | omega | exact ⟨by omega, by omega⟩ | with_reducible rfl | (repeat' first | exact Keep.refl _ | refine Keep.add ?_ ?_ _ | refine Keep.set ?_ ?_ _ | exact Nat.le_refl _ | (simp only [Sg.add, Sg.set, Sg.del]; omega)))
      refine hK9 _ _ ?_
      refine vw_ret ?_
      refine hQ _ _ _ (.inr rfl) (donek_tmp (v := I i) ?_ rfl ⟨rfl, i, rfl, ?_⟩)
      try simp only [ev_hit, length_putv, hl, Nat.reduceLT]
      rw [any_at hp hc16]; simp
    · clear hA hB A B
      refine vw_skip ?_
      refine hK6 _ _ ?_
      refine vw_sc 0 [] ?_
      simp only [bs, ↓vopx, ↓vop, Nat.reduceBEq, thenV, flat, Nat.reduceLT, opII, hl, h0, h1, h7, h_i, wocs, ↓goc, ↓woc, ↓vopm0]
      repeat ((with_reducible refine And.intro ?_ ?_); · first | (with_reducible assumption) | omega | exact ⟨by omega, by omega⟩ | with_reducible rfl | (repeat' first | exact Keep.refl _ | refine Keep.add ?_ ?_ _ | refine Keep.set ?_ ?_ _ | exact Nat.le_refl _ | (simp only [Sg.add, Sg.set, Sg.del]; omega)))
      refine ⟨l.length - (i + 1), by omega, i + 1, rfl, by omega, ?_⟩
      try simp only [ev_hit, ev_miss, Nat.reduceBEq, length_putv, hl, h0, h1, h7, h_i, if_true, if_false, Nat.reduceEqDiff, Nat.reduceLT, true_and, and_true]
      repeat ((with_reducible refine And.intro ?_ ?_); · first | trivial | assumption | omega | rfl | (push_cast; rfl) | exact ⟨by omega, by omega⟩)
      exact any_take hp hno hc16
  · clear hA hB A B
    have han : i = l.length := by omega
    subst han
    refine vw_exit ?_
    simp only [thenV, blockV, if_true]
    refine hK2 _ _ ?_
    refine vw_seq_k fun K10 hK10 => ?_
    refine vw_sc 0 [] ?_
    simp only [bs, ↓vopx, ↓vop, thenV, flat, wocs, ↓goc, ↓woc, ↓vopm0]
    repeat ((with_reducible refine And.intro ?_ ?_); · first | (with_reducible assumption) | omega | exact ⟨by omega, by omega⟩ | with_reducible rfl | (repeat' first | exact Keep.refl _ | refine Keep.add ?_ ?_ _ | refine Keep.set ?_ ?_ _ | exact Nat.le_refl _ | (simp only [Sg.add, Sg.set, Sg.del]; omega)))
    refine hK10 _ _ ?_
    refine vw_ret ?_
    rw [List.take_length] at hno
    refine hQ _ _ _ (.inr rfl) (donek_tmp (v := I (-1)) ?_ rfl ⟨rfl, -1, rfl, ?_⟩)
    try simp only [ev_hit, length_putv, hl, Nat.reduceLT]
    rw [hno]; rfl

set_option maxRecDepth 20000 in
theorem containsPairs_ (s : Sg) (l : List (Int × Int)) (hl0 : l.length < 1000000000) (g : Nat) (caps : List V) (hg : isFn Tryd.prog g) (P : Int × Int → Bool) (hP : ∀ p, p ∈ l → DCall Tryd.prog g ([.agg [I p.1, I p.2]] ++ caps) s (Bo (P p)) s) : DCall Tryd.prog 78 [.t (tPairs l), .clo g caps] s (Bo (l.any P)) (s) := by
  refine dcall_of_body Tryd.func78 rfl fun Q hQ => ?_
  obtain ⟨e, he, hl, h0, h1⟩ : ∃ e : Env, ([.t (tPairs l), .clo g caps] ++ List.replicate (Tryd.f78.ntmps - ([.t (tPairs l), .clo g caps] : List V).length) .junk) = e ∧ e.length = 9 ∧ ev e (.tmp 0) = .t (tPairs l) ∧ ev e (.tmp 1) = .clo g caps := ⟨_, rfl, rfl, rfl, rfl⟩
  rw [he]
  clear he
  refine vw_seq_k fun K1 hK1 => ?_
  refine vw_sc 0 [] ?_
  simp only [bs, ↓vopx, ↓vop, thenV, flat, wocs, ↓goc, ↓woc, ↓vopm0]
  repeat ((with_reducible refine And.intro ?_ ?_); · first | (with_reducible assumption) | omega | exact ⟨by omega, by omega⟩ | with_reducible rfl | (repeat' first | exact Keep.refl _ | refine Keep.add ?_ ?_ _ | refine Keep.set ?_ ?_ _ | exact Nat.le_refl _ | (simp only [Sg.add, Sg.set, Sg.del]; omega)))
  refine hK1 _ _ ?_
  refine vw_seq_k fun K2 hK2 => ?_
  refine vw_sc 0 [.stop] ?_
  simp only [bs, ↓vopx, ↓vop, Nat.reduceBEq, thenV, Nat.reduceLT, opII, opSS, hl, h0, h1, wocs, ↓goc, ↓woc, ↓vopm0, ↓callC, calleeV, ↓farC]
  refine ⟨Tryd.is105, (idxPairs_ s l hl0 g caps hg P hP).mono fun v s2 hv => ?_⟩
  obtain ⟨rfl, z, rfl, hz⟩ := hv
  try simp only [bs, Nat.reduceBEq, flat, Nat.reduceLT, hl, h0, h1, Hold]
  refine hK2 _ _ ?_
  refine vw_ret ?_
  refine hQ _ _ _ (.inr rfl) (Done.toS (done_tmp ?_ fun n b hn h => h))
  try simp only [ev_hit, length_putv, hl, hz, Nat.reduceLT]

set_option maxRecDepth 20000 in
theorem arrow_ (a b : Ob) (f : List Int) (ha1 : a.labels.length < 1000000000) (ha2 : a.pairs.length < 1000000000) (hb1 : b.labels.length < 1000000000) (hb2 : b.pairs.length < 1000000000) (hfl : f.length < 1000000000) : PCall Tryd.prog 34 [vObj a, vObj b, .t (tInts f)] (Bo (arrS a b f)) := by
  refine pcall_of_body Tryd.func34 rfl fun s Q hQ => ?_
  obtain ⟨e, he, hl, h0, h1, h2⟩ : ∃ e : Env, ([vObj a, vObj b, .t (tInts f)] ++ List.replicate (Tryd.f34.ntmps - ([vObj a, vObj b, .t (tInts f)] : List V).length) .junk) = e ∧ e.length = 63 ∧ ev e (.tmp 0) = vObj a ∧ ev e (.tmp 1) = vObj b ∧ ev e (.tmp 2) = .t (tInts f) := ⟨_, rfl, rfl, rfl, rfl, rfl⟩
  rw [he]
  clear he
  have hne1 : ¬ s.next = s.next + 1 := by omega
  have hne2 : ¬ s.next = s.next + 1 + 1 := by omega
  have hne3 : ¬ s.next + 1 = s.next + 1 + 1 := by omega
  refine vw_seq_k fun K1 hK1 => ?_
  refine vw_sc 0 [] ?_
  simp only [bs, ↓vopx, ↓vop, Nat.reduceBEq, thenV, flat, V.cells, h0, h1, h2, wocs, ↓goc, ↓woc, ↓vopm0]
  repeat ((with_reducible refine And.intro ?_ ?_); · first | (with_reducible assumption) | omega | exact ⟨by omega, by omega⟩ | with_reducible rfl | (repeat' first | exact Keep.refl _ | refine Keep.add ?_ ?_ _ | refine Keep.set ?_ ?_ _ | exact Nat.le_refl _ | (simp only [Sg.add, Sg.set, Sg.del]; omega)))
  refine hK1 _ _ ?_
  refine vw_seq_k fun K2 hK2 => ?_
  refine vw_seq_k fun K3 hK3 => ?_
  rcases (show (checkS a == 0) = false ∨ ((checkS a == 0) = true ∧ (checkS b == 0) = false) ∨ ((checkS a == 0) = true ∧ (checkS b == 0) = true ∧ f.length ≠ a.labels.length) ∨ ((checkS a == 0) = true ∧ (checkS b == 0) = true ∧ f.length = a.labels.length) by cases (checkS a == 0) <;> cases (checkS b == 0) <;> simp; omega) with hca | ⟨hca, hcb⟩ | ⟨hca, hcb, hlen⟩ | ⟨hca, hcb, hlen⟩
  · refine vw_sc 0 [.pur (Bo (checkS a == 0))] ?_
    simp only [bs, Nat.reduceAdd, ↓vopx, ↓vop, Nat.reduceBEq, thenV, flat, Nat.reduceLT, dLoad, vpart, gtmp, hl, wocs, ↓goc, ↓woc, ↓vopm0, ↓callC, ↓pick_tf, calleeV, Tryd.ag25, Tryd.sz25, hne1, hne2, hca]
    repeat ((with_reducible refine And.intro ?_ ?_); · first | (with_reducible assumption) | omega | exact ⟨by omega, by omega⟩ | exact ⟨Tryd.is70, by simpa only [hca] using isOb_ a ha1 ha2⟩ | with_reducible rfl | (repeat' first | exact Keep.refl _ | refine Keep.add ?_ ?_ _ | refine Keep.set ?_ ?_ _ | exact Nat.le_refl _ | (simp only [Sg.add, Sg.set, Sg.del]; omega)))
    refine hK3 _ _ ?_
    refine vw_cond_k fun A B hA hB => ?_
    simp only [condV, ev_hit, length_putv, Nat.reduceLT, true_implies, reduceCtorEq, false_implies, and_true, hl]
    refine hA ?_
    clear hA hB A B
    refine vw_seq_k fun K4 hK4 => ?_
    refine vw_sc 0 [] ?_
    simp only [bs, ↓vopx, ↓vop, thenV, flat, wocs, ↓goc, ↓woc, ↓vopm0]
    repeat ((with_reducible refine And.intro ?_ ?_); · first | (with_reducible assumption) | omega | exact ⟨by omega, by omega⟩ | with_reducible rfl | (repeat' first | exact Keep.refl _ | refine Keep.add ?_ ?_ _ | refine Keep.set ?_ ?_ _ | exact Nat.le_refl _ | (simp only [Sg.add, Sg.set, Sg.del]; omega)))
    refine hK4 _ _ ?_
    refine vw_ret ?_
    refine hQ _ _ _ (.inr rfl) (done_tmp ?_ fun n b hn h => by simp [Sg.add, show n ≠ s.next by omega, show n ≠ s.next + 1 by omega, show n ≠ s.next + 1 + 1 by omega, h])
    try simp only [ev_hit, length_putv, hl, Nat.reduceLT]
    rw [show arrS a b f = false from by simp [arrS, hca]]
  · refine vw_sc 0 [.pur (Bo (checkS a == 0)), .pur (Bo (checkS b == 0))] ?_
    simp only [bs, Nat.reduceAdd, ↓vopx, ↓vop, Nat.reduceBEq, thenV, flat, Nat.reduceLT, dLoad, vpart, gtmp, hl, wocs, ↓goc, ↓woc, ↓vopm0, ↓callC, ↓pick_ff, ↓pick_tf, calleeV, Tryd.ag25, Tryd.sz25, hne1, hne2, hne3, hca, hcb]
    repeat ((with_reducible refine And.intro ?_ ?_); · first | (with_reducible assumption) | omega | exact ⟨by omega, by omega⟩ | exact ⟨Tryd.is70, by simpa only [hca] using isOb_ a ha1 ha2⟩ | exact ⟨Tryd.is70, by simpa only [hcb] using isOb_ b hb1 hb2⟩ | with_reducible rfl | (repeat' first | exact Keep.refl _ | refine Keep.add ?_ ?_ _ | refine Keep.set ?_ ?_ _ | exact Nat.le_refl _ | (simp only [Sg.add, Sg.set, Sg.del]; omega)))
    refine hK3 _ _ ?_
    refine vw_cond_k fun A B hA hB => ?_
    simp only [condV, ev_hit, length_putv, Nat.reduceLT, true_implies, reduceCtorEq, false_implies, and_true, hl]
    refine hA ?_
    clear hA hB A B
    refine vw_seq_k fun K5 hK5 => ?_
    refine vw_sc 0 [] ?_
    simp only [bs, ↓vopx, ↓vop, thenV, flat, wocs, ↓goc, ↓woc, ↓vopm0]
    repeat ((with_reducible refine And.intro ?_ ?_); · first | (with_reducible assumption) | omega | exact ⟨by omega, by omega⟩ | with_reducible rfl | (repeat' first | exact Keep.refl _ | refine Keep.add ?_ ?_ _ | refine Keep.set ?_ ?_ _ | exact Nat.le_refl _ | (simp only [Sg.add, Sg.set, Sg.del]; omega)))
    refine hK5 _ _ ?_
    refine vw_ret ?_
    refine hQ _ _ _ (.inr rfl) (done_tmp ?_ fun n b hn h => by simp [Sg.add, show n ≠ s.next by omega, show n ≠ s.next + 1 by omega, show n ≠ s.next + 1 + 1 by omega, h])
    try simp only [ev_hit, length_putv, hl, Nat.reduceLT]
    rw [show arrS a b f = false from by simp [arrS, hcb]]
  · have hlb : ((f.length : Int) != (a.labels.length : Int)) = true := by simp; omega
    refine vw_sc 0 [.pur (Bo (checkS a == 0)), .pur (Bo (checkS b == 0))] ?_
    simp only [bs, Nat.reduceAdd, ↓vopx, ↓vop, Nat.reduceBEq, thenV, flat, Nat.reduceLT, dLoad, vpart, opII, gtmp, hl, wocs, ↓goc, ↓woc, ↓vopm0, ↓callC, ↓pick_ff, calleeV, Tryd.ag22, Tryd.ag25, Tryd.ag26, Tryd.fd25_0, Tryd.sz22, Tryd.sz25, Tryd.sz26, Tryd.un22, Tryd.un26, len_tStrs, len_tInts, hne1, hne2, hne3, hca, hcb, hlb]
    repeat ((with_reducible refine And.intro ?_ ?_); · first | (with_reducible assumption) | omega | exact ⟨by omega, by omega⟩ | exact ⟨Tryd.is70, by simpa only [hca] using isOb_ a ha1 ha2⟩ | exact ⟨Tryd.is70, by simpa only [hcb] using isOb_ b hb1 hb2⟩ | with_reducible rfl | (repeat' first | exact Keep.refl _ | refine Keep.add ?_ ?_ _ | refine Keep.set ?_ ?_ _ | exact Nat.le_refl _ | (simp only [Sg.add, Sg.set, Sg.del]; omega)))
    refine hK3 _ _ ?_
    refine vw_cond_k fun A B hA hB => ?_
    simp only [condV, ev_hit, length_putv, Nat.reduceLT, true_implies, reduceCtorEq, false_implies, and_true, hl]
    refine hA ?_
    clear hA hB A B
    refine vw_seq_k fun K6 hK6 => ?_
    refine vw_sc 0 [] ?_
    simp only [bs, ↓vopx, ↓vop, thenV, flat, wocs, ↓goc, ↓woc, ↓vopm0]
    repeat ((with_reducible refine And.intro ?_ ?_); · first | (with_reducible assumption) | omega | exact ⟨by omega, by omega⟩ | with_reducible rfl | (repeat' first | exact Keep.refl _ | refine Keep.add ?_ ?_ _ | refine Keep.set ?_ ?_ _ | exact Nat.le_refl _ | (simp only [Sg.add, Sg.set, Sg.del]; omega)))
    refine hK6 _ _ ?_
    refine vw_ret ?_
    refine hQ _ _ _ (.inr rfl) (done_tmp ?_ fun n b hn h => by simp [Sg.add, show n ≠ s.next by omega, show n ≠ s.next + 1 by omega, show n ≠ s.next + 1 + 1 by omega, h])
    try simp only [ev_hit, length_putv, hl, Nat.reduceLT]
    rw [show arrS a b f = false from by simp [arrS, allY_len hlen]]
  · have hlb : ((f.length : Int) != (a.labels.length : Int)) = false := by simp [hlen]
    refine vw_sc 0 [.pur (Bo (checkS a == 0)), .pur (Bo (checkS b == 0))] ?_
    simp only [bs, Nat.reduceAdd, ↓vopx, ↓vop, Nat.reduceBEq, thenV, flat, Nat.reduceLT, dLoad, vpart, opII, gtmp, hl, wocs, ↓goc, ↓woc, ↓vopm0, ↓callC, ↓pick_ff, calleeV, Tryd.ag22, Tryd.ag25, Tryd.ag26, Tryd.fd25_0, Tryd.sz22, Tryd.sz25, Tryd.sz26, Tryd.un22, Tryd.un26, len_tStrs, len_tInts, hne1, hne2, hne3, hca, hcb, hlb]
    repeat ((with_reducible refine And.intro ?_ ?_); · first | (with_reducible assumption) | omega | exact ⟨by omega, by omega⟩ | exact ⟨Tryd.is70, by simpa only [hca] using isOb_ a ha1 ha2⟩ | exact ⟨Tryd.is70, by simpa only [hcb] using isOb_ b hb1 hb2⟩ | with_reducible rfl | (repeat' first | exact Keep.refl _ | refine Keep.add ?_ ?_ _ | refine Keep.set ?_ ?_ _ | exact Nat.le_refl _ | (simp only [Sg.add, Sg.set, Sg.del]; omega)))
    refine hK3 _ _ ?_
    refine vw_cond_k fun A B hA hB => ?_
    simp only [condV, ev_hit, length_putv, Nat.reduceLT, true_implies, reduceCtorEq, false_implies, true_and, hl]
    refine hB ?_
    clear hA hB A B
    refine vw_skip ?_
    refine hK2 _ _ ?_
    refine vw_seq_k fun K7 hK7 => ?_
    refine vw_seq_k fun K8 hK8 => ?_
    refine vw_sc 0 [] ?_
    simp only [bs, ↓vopx, ↓vop, Nat.reduceBEq, thenV, flat, Nat.reduceLT, dLoad, vpart, hl, wocs, ↓goc, ↓woc, ↓vopm0, Tryd.ag26, Tryd.sz26, Tryd.un26, len_tInts]
    repeat ((with_reducible refine And.intro ?_ ?_); · first | (with_reducible assumption) | omega | exact ⟨by omega, by omega⟩ | with_reducible rfl | (repeat' first | exact Keep.refl _ | refine Keep.add ?_ ?_ _ | refine Keep.set ?_ ?_ _ | exact Nat.le_refl _ | (simp only [Sg.add, Sg.set, Sg.del]; omega)))
    refine hK8 _ _ ?_
    refine vw_block ?_
    refine vw_loop (fun mm e' s' => ∃ i : Nat, mm = f.length - i ∧ i ≤ f.length ∧ e'.length = 63 ∧ ev e' (.tmp 3) = .ptr s.next 0 ∧ ev e' (.tmp 4) = .ptr (s.next + 1) 0 ∧ ev e' (.tmp 5) = .ptr (s.next + 1 + 1) 0 ∧ ev e' (.tmp 26) = .t (tInts f) ∧ ev e' (.tmp 27) = I f.length ∧ ev e' (.tmp 28) = I i ∧ s' = ((s.add (.box 25 [.t (tStrs a.labels), .t (tPairs a.pairs)])).add (.box 25 [.t (tStrs b.labels), .t (tPairs b.pairs)])).add (.box 26 [.t (tInts f)]) ∧ ∀ (j : Nat) (y : Int) (la : ByteArray), j < i → f[j]? = some y → a.labels[j]? = some la → mapOK b y la = true) (⟨0, rfl, Nat.zero_le _, ?_⟩) ?_
    · try simp only [ev_hit, ev_miss, Nat.reduceBEq, length_putv, hl, Nat.reduceLT, true_and]
      repeat ((with_reducible refine And.intro ?_ ?_); · first | trivial | assumption | omega | rfl | (push_cast; rfl) | exact ⟨by omega, by omega⟩)
      exact fun j y la h => by omega
    rintro mm e _ ⟨i, rfl, hle_i, hl, hb3, hb4, hb5, hf26, hf27, h_i, rfl, hall⟩
    refine vw_seq_k fun K9 hK9 => ?_
    refine vw_sc 0 [] ?_
    simp only [thenV, opII, hf27, h_i, wocs, ↓goc, ↓woc]
    repeat ((with_reducible refine And.intro ?_ ?_); · first | (with_reducible assumption) | omega | exact ⟨by omega, by omega⟩ | with_reducible rfl | (repeat' first | exact Keep.refl _ | refine Keep.add ?_ ?_ _ | refine Keep.set ?_ ?_ _ | exact Nat.le_refl _ | (simp only [Sg.add, Sg.set, Sg.del]; omega)))
    refine hK9 _ _ ?_
    refine vw_seq_k fun K10 hK10 => ?_
    refine vw_cond_k fun A B hA hB => ?_
    simp only [condV, ev_hit, Nat.reduceLT, decide_eq_true_eq, decide_eq_false_iff_not, hl]
    refine ⟨fun hc29 => hA ?_, fun hc29 => hB ?_⟩
    · clear hA hB A B
      refine vw_skip ?_
      refine hK10 _ _ ?_
      refine vw_seq_k fun K11 hK11 => ?_
      refine vw_block ?_
      refine vw_seq_k fun K12 hK12 => ?_
      have hlt : i < f.length := by omega
      obtain ⟨y, hy⟩ : ∃ y, f[i]? = some y := ⟨_, List.getElem?_eq_getElem hlt⟩
      obtain ⟨la, hla⟩ : ∃ x, a.labels[i]? = some x := ⟨_, List.getElem?_eq_getElem (by omega)⟩
      refine vw_sc 0 [] ?_
      simp only [bs, ↓vopx, ↓vop, Nat.reduceBEq, thenV, Nat.reduceLT, dLoad, vpart, hl, hf26, h_i, wocs, ↓goc, ↓woc, ↓vopm0, Tryd.ag3, Tryd.sz3, Tryd.un26, hy]
      repeat ((with_reducible refine And.intro ?_ ?_); · first | (with_reducible assumption) | omega | exact ⟨by omega, by omega⟩ | with_reducible rfl | (repeat' first | exact Keep.refl _ | refine Keep.add ?_ ?_ _ | refine Keep.set ?_ ?_ _ | exact Nat.le_refl _ | (simp only [Sg.add, Sg.set, Sg.del]; omega)))
      refine hK12 _ _ ?_
      refine vw_seq_k fun K13 hK13 => ?_
      rcases (show y < 0 ∨ (¬ y < 0 ∧ y ≥ b.labels.length) ∨ (¬ y < 0 ∧ ¬ y ≥ b.labels.length) by omega) with hy1 | ⟨hy1, hy2⟩ | ⟨hy1, hy2⟩
      · refine vw_chain Tryd.mixed 20 [0, 0, 0, 0, 0, 1, 0, 0, 0, 0, 0, 1, 0, 1, 1, 0, 1, 0, 1, 1] [] [] 0 (by decide +kernel) (by simp [length_putv, hl]) rfl ?_
        simp only [bs, ↓vopx, ↓vop, Nat.reduceBEq, thenV, flat, Nat.reduceLT, opII, opSS, gtmp, hl, wocs, ↓goc, ↓woc, ↓vopm0, ↓pick_tf, ↓farC, chn, ↓goq, ↓woq, List.zip_cons_cons, List.zip_nil_right, hy1]
        repeat ((with_reducible refine And.intro ?_ ?_); · first | (with_reducible assumption) | omega | exact ⟨by omega, by omega⟩ | with_reducible rfl | (repeat' first | exact Keep.refl _ | refine Keep.add ?_ ?_ _ | refine Keep.set ?_ ?_ _ | exact Nat.le_refl _ | (simp only [Sg.add, Sg.set, Sg.del]; omega)))
        refine hK13 _ _ ?_
        refine vw_cond_k fun A B hA hB => ?_
        simp only [condV, ev_hit, length_putv, Nat.reduceLT, true_implies, reduceCtorEq, false_implies, and_true, hl]
        refine hA ?_
        clear hA hB A B
        refine vw_seq_k fun K14 hK14 => ?_
        refine vw_sc 0 [] ?_
        simp only [bs, ↓vopx, ↓vop, thenV, flat, wocs, ↓goc, ↓woc, ↓vopm0]
        repeat ((with_reducible refine And.intro ?_ ?_); · first | (with_reducible assumption) | omega | exact ⟨by omega, by omega⟩ | with_reducible rfl | (repeat' first | exact Keep.refl _ | refine Keep.add ?_ ?_ _ | refine Keep.set ?_ ?_ _ | exact Nat.le_refl _ | (simp only [Sg.add, Sg.set, Sg.del]; omega)))
        refine hK14 _ _ ?_
        refine vw_ret ?_
        refine hQ _ _ _ (.inr rfl) (done_tmp ?_ fun n b hn h => by simp [Sg.add, show n ≠ s.next by omega, show n ≠ s.next + 1 by omega, show n ≠ s.next + 1 + 1 by omega, h])
        try simp only [ev_hit, length_putv, hl, Nat.reduceLT]
        rw [show arrS a b f = false from by unfold arrS; rw [allY_bad hy hla (by unfold mapOK; simp; omega)]; simp]
      · refine vw_chain Tryd.mixed 20 [0, 0, 0, 0, 0, 1, 0, 0, 0, 0, 0, 1, 0, 1, 1, 0, 1, 0, 1, 1] [] [] 0 (by decide +kernel) (by simp [length_putv, hl]) rfl ?_
        simp only [bs, ↓vopx, ↓vop, Nat.reduceBEq, thenV, flat, Nat.reduceLT, dLoad, vpart, opII, opSS, gtmp, hl, hb4, wocs, ↓goc, ↓woc, ↓vopm0, ↓vopm1, ↓pick_ff, ↓pick_tf, ↓farC, chn, ↓goq, ↓woq, List.zip_cons_cons, List.zip_nil_right, Tryd.ag22, Tryd.fd25_0, Tryd.sz22, Tryd.un22, len_tStrs, hne3, hy1, hy2]
        repeat ((with_reducible refine And.intro ?_ ?_); · first | (with_reducible assumption) | omega | exact ⟨by omega, by omega⟩ | with_reducible rfl | (repeat' first | exact Keep.refl _ | refine Keep.add ?_ ?_ _ | refine Keep.set ?_ ?_ _ | exact Nat.le_refl _ | (simp only [Sg.add, Sg.set, Sg.del]; omega)))
        refine hK13 _ _ ?_
        refine vw_cond_k fun A B hA hB => ?_
        simp only [condV, ev_hit, length_putv, Nat.reduceLT, true_implies, reduceCtorEq, false_implies, and_true, hl]
        refine hA ?_
        clear hA hB A B
        refine vw_seq_k fun K15 hK15 => ?_
        refine vw_sc 0 [] ?_
        simp only [bs, ↓vopx, ↓vop, thenV, flat, wocs, ↓goc, ↓woc, ↓vopm0]
        repeat ((with_reducible refine And.intro ?_ ?_); · first | (with_reducible assumption) | omega | exact ⟨by omega, by omega⟩ | with_reducible rfl | (repeat' first | exact Keep.refl _ | refine Keep.add ?_ ?_ _ | refine Keep.set ?_ ?_ _ | exact Nat.le_refl _ | (simp only [Sg.add, Sg.set, Sg.del]; omega)))
        refine hK15 _ _ ?_
        refine vw_ret ?_
        refine hQ _ _ _ (.inr rfl) (done_tmp ?_ fun n b hn h => by simp [Sg.add, show n ≠ s.next by omega, show n ≠ s.next + 1 by omega, show n ≠ s.next + 1 + 1 by omega, h])
        try simp only [ev_hit, length_putv, hl, Nat.reduceLT]
        rw [show arrS a b f = false from by unfold arrS; rw [allY_bad hy hla (by unfold mapOK; simp; omega)]; simp]
      · have hyr : 0 ≤ y := by omega
        obtain ⟨lb, hlb2⟩ : ∃ x, b.labels[y.toNat]? = some x := ⟨_, List.getElem?_eq_getElem (by omega)⟩
        refine vw_chain Tryd.mixed 20 [0, 0, 0, 0, 0, 1, 0, 0, 0, 0, 0, 1, 0, 1, 1, 0, 1, 0, 1, 1] [] [] 0 (by decide +kernel) (by simp [length_putv, hl]) rfl ?_
        simp only [bs, ↓vopx, ↓vop, Nat.reduceBEq, thenV, flat, Nat.reduceLT, dLoad, vpart, opII, opSS, gtmp, hl, hb3, hb4, wocs, ↓goc, ↓woc, ↓vopm0, ↓vopm1, ↓pick_ff, ↓farC, chn, ↓goq, ↓woq, List.zip_cons_cons, List.zip_nil_right, Tryd.ag22, Tryd.ag9, Tryd.fd25_0, Tryd.sz22, Tryd.sz9, Tryd.un22, len_tStrs, hne1, hne2, hne3, hla, hy1, hy2, hlb2]
        repeat ((with_reducible refine And.intro ?_ ?_); · first | (with_reducible assumption) | omega | exact ⟨by omega, by omega⟩ | with_reducible rfl | (repeat' first | exact Keep.refl _ | refine Keep.add ?_ ?_ _ | refine Keep.set ?_ ?_ _ | exact Nat.le_refl _ | (simp only [Sg.add, Sg.set, Sg.del]; omega)))
        refine hK13 _ _ ?_
        refine vw_cond_k fun A B hA hB => ?_
        simp only [condV, ev_hit, length_putv, Nat.reduceLT, Bool.not_eq_true', Bool.not_eq_false', beq_iff_eq, beq_eq_false_iff_ne, ne_eq, hl]
        refine ⟨fun hc54 => hA ?_, fun hc54 => hB ?_⟩
        · clear hA hB A B
          refine vw_seq_k fun K16 hK16 => ?_
          refine vw_sc 0 [] ?_
          simp only [bs, ↓vopx, ↓vop, thenV, flat, wocs, ↓goc, ↓woc, ↓vopm0]
          repeat ((with_reducible refine And.intro ?_ ?_); · first | (with_reducible assumption) | omega | exact ⟨by omega, by omega⟩ | with_reducible rfl | (repeat' first | exact Keep.refl _ | refine Keep.add ?_ ?_ _ | refine Keep.set ?_ ?_ _ | exact Nat.le_refl _ | (simp only [Sg.add, Sg.set, Sg.del]; omega)))
          refine hK16 _ _ ?_
          refine vw_ret ?_
          refine hQ _ _ _ (.inr rfl) (done_tmp ?_ fun n b hn h => by simp [Sg.add, show n ≠ s.next by omega, show n ≠ s.next + 1 by omega, show n ≠ s.next + 1 + 1 by omega, h])
          try simp only [ev_hit, length_putv, hl, Nat.reduceLT]
          rw [show arrS a b f = false from by unfold arrS; rw [allY_bad hy hla (by unfold mapOK; rw [hlb2]; simp [seqB, hc54])]; simp]
        · clear hA hB A B
          have hgood : mapOK b y la = true := by unfold mapOK; rw [hlb2]; simp [seqB, hc54]; omega
          refine vw_skip ?_
          refine hK11 _ _ ?_
          refine vw_sc 0 [] ?_
          simp only [bs, ↓vopx, ↓vop, Nat.reduceBEq, thenV, flat, Nat.reduceLT, opII, hl, hb3, hb4, hb5, hf26, hf27, h_i, wocs, ↓goc, ↓woc, ↓vopm0]
          repeat ((with_reducible refine And.intro ?_ ?_); · first | (with_reducible assumption) | omega | exact ⟨by omega, by omega⟩ | with_reducible rfl | (repeat' first | exact Keep.refl _ | refine Keep.add ?_ ?_ _ | refine Keep.set ?_ ?_ _ | exact Nat.le_refl _ | (simp only [Sg.add, Sg.set, Sg.del]; omega)))
          refine ⟨f.length - (i + 1), by omega, i + 1, rfl, by omega, ?_⟩
          try simp only [ev_hit, ev_miss, Nat.reduceBEq, length_putv, hl, hb3, hb4, hb5, hf26, hf27, h_i, if_true, if_false, Nat.reduceEqDiff, Nat.reduceLT, true_and, and_true]
          repeat ((with_reducible refine And.intro ?_ ?_); · first | trivial | assumption | omega | rfl | (push_cast; rfl) | exact ⟨by omega, by omega⟩)
          intro j x z hj h1 h2
          rcases Nat.lt_succ_iff_lt_or_eq.1 hj with hj | rfl
          · exact hall j x z hj h1 h2
          · rw [hy] at h1; rw [hla] at h2; cases h1; cases h2; exact hgood
    · clear hA hB A B
      have han : i = f.length := by omega
      subst han
      refine vw_exit ?_
      simp only [thenV, blockV, if_true]
      refine hK7 _ _ ?_
      refine vw_seq_k fun K17 hK17 => ?_
      have hmap : allY (mapOK b) f a.labels = true := allY_good hlen fun j y la h1 h2 => hall j y la (by have := (List.getElem?_eq_some_iff.1 h1).1; omega) h1 h2
      have hoa := checkS_zero.1 (by simpa using hca)
      have hob := checkS_zero.1 (by simpa using hcb)
      refine vw_sc 0 [.stop] ?_
      simp only [bs, Nat.reduceAdd, ↓vopx, ↓vop, Nat.reduceBEq, thenV, Nat.reduceLT, V.cells, dLoad, vpart, hl, hb4, wocs, ↓goc, ↓woc, ↓vopm0, ↓callC, calleeV, Tryd.ag25, Tryd.sz25, hne3]
      refine ⟨Tryd.is77, (objRel_ _ b hb1 hb2 hob).mono fun v s2 hv => ?_⟩
      obtain ⟨c, na1, rp1, rq1, rfl, hR, hF, hk, hnx⟩ := hv
      have hmA : s2.m s.next = some (.box 25 [.t (tStrs a.labels), .t (tPairs a.pairs)]) := hk _ _ (by simp [Sg.add]; omega) (by simp [Sg.add]; omega)
      have hmF : s2.m (s.next + 1 + 1) = some (.box 26 [.t (tInts f)]) := hk _ _ (by simp [Sg.add]) (by simp [Sg.add])
      have hks : Keep s s2 := ((((Keep.refl s).add (Nat.le_refl _) _).add (by simp [Sg.add]) _).add (by simp [Sg.add]; omega) _).trans (by simp [Sg.add]; omega) hk
      have hnx2 : s.next + 1 + 1 + 1 ≤ s2.next := by simpa [Sg.add] using hnx
      try simp only [bs, Nat.reduceBEq, Nat.reduceLT, hl, Tryd.sz99, Tryd.zv99, Hold]
      refine hK17 _ _ ?_
      refine vw_seq_k fun K18 hK18 => ?_
      refine vw_env2 fun e2 sb hE2 hSb => ?_
      subst hE2
      have hn0 : ¬ s.next = s2.next := by omega
      have hbA : sb.m s.next = some (.box 25 [.t (tStrs a.labels), .t (tPairs a.pairs)]) := by rw [hSb]; simp [Sg.set, Sg.add, hn0, hmA]
      have hbF : sb.m (s.next + 1 + 1) = some (.box 26 [.t (tInts f)]) := by rw [hSb]; simp [Sg.set, Sg.add, show ¬ s.next + 1 + 1 = s2.next by omega, hmF]
      have hbb3 : sb.m s2.next = some (.box 99 [.ptr c 0]) := by rw [hSb]; simp [Sg.set]
      have hsbn : sb.next = s2.next + 1 := by rw [hSb]; rfl
      have hkb : Keep s2 sb := by rw [hSb]; exact ((Keep.refl s2).add (Nat.le_refl _) _).set (Nat.le_refl _) _
      have hRb := hR.keep hkb (by omega)
      clear hSb
      refine vw_sc 0 [.det (Bo (a.pairs.any fun p => !(mxOf b.pairs (fAt f p.1) (fAt f p.2)))) sb] ?_
      simp only [bs, ↓vopx, ↓vop, Nat.reduceBEq, thenV, Nat.reduceLT, dLoad, vpart, hl, hb3, hb5, wocs, ↓goc, ↓woc, ↓vopm0, ↓callC, calleeV, Tryd.ag23, Tryd.fd25_1, Tryd.sz23, hbA, capOk, List.all_cons, List.all_nil, Bool.and_self]
      repeat ((with_reducible refine And.intro ?_ ?_); · first | (with_reducible assumption) | omega | exact ⟨by omega, by omega⟩ | exact ⟨Tryd.is78, containsPairs_ sb a.pairs ha2 79 _ Tryd.is79 _ fun p hpm => by
    have hin : (0 ≤ p.1 ∧ p.1 < a.labels.length) ∧ (0 ≤ p.2 ∧ p.2 < a.labels.length) := by have := (List.all_eq_true.1 hoa.inb) p hpm; simpa only [inB, Bool.and_eq_true, decide_eq_true_eq] using this
    obtain ⟨x, hx⟩ : ∃ x, f[p.1.toNat]? = some x := ⟨_, List.getElem?_eq_getElem (by omega)⟩
    obtain ⟨y, hy⟩ : ∃ x, f[p.2.toNat]? = some x := ⟨_, List.getElem?_eq_getElem (by omega)⟩
    have hxr : 0 ≤ x ∧ x < b.labels.length := by have := allY_at hmap hx (List.getElem?_eq_getElem (show p.1.toNat < a.labels.length by omega)); simp only [mapOK, Bool.and_eq_true, decide_eq_true_eq] at this; exact this.1
    have hyr : 0 ≤ y ∧ y < b.labels.length := by have := allY_at hmap hy (List.getElem?_eq_getElem (show p.2.toNat < a.labels.length by omega)); simp only [mapOK, Bool.and_eq_true, decide_eq_true_eq] at this; exact this.1
    have hfx : fAt f p.1 = x.toNat := by simp [fAt, hx]
    have hfy : fAt f p.2 = y.toNat := by simp [fAt, hy]
    rw [hfx, hfy]
    exact arrowCl_ sb s2.next (s.next + 1 + 1) c _ _ na1 rp1 rq1 hRb f hbb3 hbF (by omega) (by omega) p x y ⟨hin.1.1, hin.2.1⟩ hx hy hxr hyr⟩ | with_reducible rfl | (repeat' first | exact Keep.refl _ | refine Keep.add ?_ ?_ _ | refine Keep.set ?_ ?_ _ | exact Nat.le_refl _ | (simp only [Sg.add, Sg.set, Sg.del]; omega)))
      refine hK18 _ _ ?_
      refine vw_ret ?_
      refine hQ _ _ _ (.inr rfl) (done_tmp ?_ (hks.trans (by omega) hkb))
      try simp only [ev_hit, length_putv, hl, Nat.reduceLT]
      rw [show arrS a b f = !(a.pairs.any fun p => !(mxOf b.pairs (fAt f p.1) (fAt f p.2))) from by unfold arrS; rw [hca, hcb, hmap, all_notany]; rfl]

end Go.Proofs

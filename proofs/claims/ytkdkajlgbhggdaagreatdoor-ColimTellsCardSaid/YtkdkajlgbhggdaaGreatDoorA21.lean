/- Lemmas on the way to the statement of this claim; no conditions. -/
import Derived.Test.YtkdkajlgbhggdaaGreatDoorA20
namespace Go.V
open Go Go.RowKit
def gtmp (ops : Array Oper) (j : Nat) : Option Nat := match ops[j]? with | some o => o.dst | none => none
def gop (tr : Bool) (P : Program) (ops : Array Oper) (o : Oper) (e : Env) (s : Sg) (K : V → Sg → Prop) : Prop :=
 match o.guard with
 | none => vopx tr P o e s K
 | some (j, want) => match gtmp ops j with
  | some t => match ev e (.tmp t) with
   | .t (.v (.bool b)) => (b = want → vopx tr P o e s K) ∧ (b ≠ want → K .junk s)
   | _ => False
  | none => False
def vops (tr : Bool) (P : Program) (ops : Array Oper) : List Oper → (Env → Sg → Prop) → Env → Sg → Prop
 | [], K, e, s => K e s
 | o :: l, K, e, s => gop tr P ops o e s (fun v s' => vops tr P ops l K (putv e o.dst v) s')
section
variable {tr : Bool} {P : Program} {ops : Array Oper} {o : Oper} {e : Env} {s : Sg} {Q : Exit → Env → Sg → Prop}
theorem n5x {K : V → Sg → Prop} (h : gop tr P ops o e s K) : OpI P ops o e s K := by
 unfold gop at h
 unfold OpI
 split at h
 ·rename_i hg; rw [hg]; exact l5q h
 ·rename_i j want hg
  rw [hg]
  split at h
  ·rename_i t ht
   split at h
   ·rename_i b hb
    unfold gtmp at ht
    split at ht
    ·rename_i oj hj
     exact ⟨oj, t, hj, ht, .inl ⟨b, hb, fun h1 => l5q (h.1 h1), fun h1 => .inl (h.2 h1)⟩⟩
    ·cases ht
   ·exact h.elim
  ·exact h.elim
theorem gop_det {K : V → Sg → Prop} (h : gop tr P ops o e s K) : ∃ v s', K v s' ∧ (q1q tr o.op = true → s' = s) ∧ ∀ (e' : Env) (K' : V → Sg → Prop), (∀ t ∈ o.looksAt ops, ev e' (.tmp t) = ev e (.tmp t)) → K' v s' → gop tr P ops o e' s K' := by
 have hop : ∀ e' : Env, (∀ t ∈ o.looksAt ops, ev e' (.tmp t) = ev e (.tmp t)) → ∀ x ∈ o.op.operands, ev e' x = ev e x := by
  intro e' he x hx
  cases x with
  | tmp t => exact he t (List.mem_append_left _ (List.mem_filterMap.2 ⟨.tmp t, by simpa using hx, rfl⟩))
  | const v => rfl
  | global g => rfl
  | func f => rfl
 unfold gop at h
 split at h
 ·rename_i hg
  obtain ⟨v, s', h1, h2, h3⟩ := q2q h
  refine ⟨v, s', h1, h2, fun e' K' he hk => ?_⟩
  unfold gop; rw [hg]
  exact h3 e' K' (hop e' he) hk
 ·rename_i j want hg
  split at h
  ·rename_i t ht
   have hlook : t ∈ o.looksAt ops := by
    refine List.mem_append_right _ ?_
    rw [hg]
    unfold gtmp at ht
    split at ht
    ·rename_i oj hj; simp [hj, ht]
    ·cases ht
   split at h
   ·rename_i b hb
    by_cases hbw : b = want
    ·obtain ⟨v, s', h1, h2, h3⟩ := q2q (h.1 hbw)
     refine ⟨v, s', h1, h2, fun e' K' he hk => ?_⟩
     unfold gop; rw [hg]
     simp only [ht, he t hlook, hb]
     exact ⟨fun _ => h3 e' K' (hop e' he) hk, fun hn => absurd hbw hn⟩
    ·refine ⟨.junk, s, h.2 hbw, fun _ => rfl, fun e' K' he hk => ?_⟩
     unfold gop; rw [hg]
     simp only [ht, he t hlook, hb]
     exact ⟨fun hn => absurd hn hbw, fun _ => hk⟩
   ·exact h.elim
  ·exact h.elim
theorem o9z : ∀ (l : List Oper) (i : Nat) {e : Env} {s : Sg}, (∀ j o, l[j]? = some o → ops[i + j]? = some o) → vops tr P ops l (fun e s => Q .normal e s) e s → VL P ops Q (List.range' i l.length) e s
 | [], i, e, s, _, h => l4z h
 | o :: l, i, e, s, hl, h => by
  have ho : ops[i]? = some o := hl 0 o rfl
  intro r B M ρ a w QQ hs hk
  rw [List.length_cons, List.range'_succ, wpOpsIn_cons]
  refine j2z ho (n5x h) hs fun a' w' v s' ρ' hK h1 h2 => ?_
  exact o9z l (i + 1) (fun j o' hj => by rw [Nat.add_assoc, Nat.add_comm 1 j]; exact hl (j + 1) o' (by simpa using hj)) hK r B M ρ' a' w' QQ h1 fun x e2 s2 ρ2 a2 w2 q2 hs2 hst2 => hk x e2 s2 ρ2 a2 w2 q2 hs2 (h2.trans hst2)
def puts (e : Env) (l : List Oper) (vs : List V) : Env := (l.zip vs).foldl (fun e x => putv e x.1.dst x.2) e
theorem g9q (l : List Oper) : ∀ (vs : List V) (e : Env), (puts e l vs).length = e.length := by
 induction l with
 | nil => intro vs e; rfl
 | cons o l ih =>
  intro vs e
  cases vs with
  | nil => rfl
  | cons v vs => simp only [puts, List.zip_cons_cons, List.foldl_cons]; exact (ih vs _).trans (lpv _ _ _)
theorem m6q {t : Nat} : ∀ (l : List Oper) (vs : List V) (e : Env), (∀ o ∈ l, o.dst ≠ some t) → ev (puts e l vs) (.tmp t) = ev e (.tmp t)
 | [], _, _, _ => rfl
 | o :: l, [], e, _ => rfl
 | o :: l, v :: vs, e, h => by
  simp only [puts, List.zip_cons_cons, List.foldl_cons]
  exact (m6q l vs _ fun o' ho' => h o' (List.mem_cons_of_mem _ ho')).trans (i3q (h o (List.mem_cons_self ..)))
theorem l3q (e : Env) (l : List Oper) (vs : List V) (i : Nat) : puts e l vs = puts (puts e (l.take i) (vs.take i)) (l.drop i) (vs.drop i) := by
 unfold puts
 rw [← List.foldl_append]
 congr 1
 induction l generalizing vs i with
 | nil => simp
 | cons o l ih =>
  cases vs with
  | nil => simp
  | cons v vs =>
   cases i with
   | zero => simp
   | succ i => simp only [List.take_succ_cons, List.drop_succ_cons, List.zip_cons_cons, List.cons_append]; rw [← ih]
theorem v3q {o : Oper} {v : V} : ∀ (l : List Oper) (vs : List V) (i : Nat) (e : Env), l[i]? = some o → vs[i]? = some v → puts e (l.take (i + 1)) (vs.take (i + 1)) = putv (puts e (l.take i) (vs.take i)) o.dst v
 | [], _, i, e, h, _ => by simp at h
 | _ :: _, [], i, e, _, h => by simp at h
 | a :: l, b :: vs, 0, e, h1, h2 => by simp at h1 h2; subst h1; subst h2; simp [puts]
 | a :: l, b :: vs, i + 1, e, h1, h2 => by
  have := v3q l vs i (putv e a.dst b) (by simpa using h1) (by simpa using h2)
  simpa [puts] using this
theorem y1z {K : Env → Sg → Prop} : ∀ (l1 l2 : List Oper) (e : Env) (s : Sg), (∀ o ∈ l1, q1q tr o.op = true) → vops tr P ops (l1 ++ l2) K e s →
 ∃ vs : List V, vs.length = l1.length ∧ vops tr P ops l2 K (puts e l1 vs) s ∧ ∀ i o v, l1[i]? = some o → vs[i]? = some v → ∀ e' K', (∀ t ∈ o.looksAt ops, ev e' (.tmp t) = ev (puts e (l1.take i) (vs.take i)) (.tmp t)) → K' v s → gop tr P ops o e' s K'
 | [], l2, e, s, _, h => ⟨[], rfl, h, fun i o v ho => by simp at ho⟩
 | o :: l1, l2, e, s, hst, h => by
  obtain ⟨v, s', h1, h2, h3⟩ := gop_det h
  obtain rfl := h2 (hst o (List.mem_cons_self ..))
  obtain ⟨vs, h4, h5, h6⟩ := y1z l1 l2 _ _ (fun o ho => hst o (List.mem_cons_of_mem _ ho)) h1
  refine ⟨v :: vs, by simp [h4], h5, fun i o' v' ho' hv' => ?_⟩
  cases i with
  | zero =>
   simp at ho' hv'
   subst ho'; subst hv'
   exact h3
  | succ i => exact h6 i o' v' (by simpa using ho') (by simpa using hv')
def p6x (ops : Array Oper) (h : Nat) : Bool :=
 o1z ops h (List.replicate h false) (cloT ops) (List.replicate h (0, 0)) && r5z ops && (ops.toList.take h).all fun o => q1q true o.op
theorem h4z {h : Nat} {eff : List Bool} {A : List (List Nat)} {iv : List (Nat × Nat)} (T : Tab ops h eff A iv) : ∀ i, i < ops.size → ∀ j, j ∈ anc A i → j < i := by
 intro i
 induction i using Nat.strongRecOn with
 | _ i ih =>
  intro hi j hj
  obtain ⟨x, hx, hx2⟩ := T.claims i hi j hj
  have hlt := T.low i hi x hx
  rcases hx2 with rfl | hx2
  ·exact hlt
  ·have := ih x hlt (by omega) j hx2; omega
theorem f8x {id : Nat} (hm : P.follows .mixedOrders = true) (h : Nat) (hok : p6x ops h = true) (hd : ∀ o ∈ ops.toList.take h, ∀ d, o.dst = some d → d < e.length) (H : vops true P ops ops.toList (fun e s => Q .normal e s) e s) : VW P (.region id ops true) Q e s := by
 simp only [p6x, Bool.and_eq_true, List.all_eq_true] at hok
 obtain ⟨⟨hok1, hok2⟩, hok3⟩ := hok
 have T := x6z hok1 hok2
 rw [← List.take_append_drop h ops.toList] at H
 obtain ⟨vs, hvl, htail, hrun⟩ := y1z _ _ _ _ hok3 H
 have hlen : (ops.toList.take h).length = h := by have := T.le; simp; omega
 have hget : ∀ i o, i < h → (ops[i]? = some o ↔ (ops.toList.take h)[i]? = some o) := fun i o hi => by rw [List.getElem?_take, if_pos hi]; simp
 refine t6q hm h (List.replicate h false) (List.replicate h (0, 0)) (cloT ops) (puts e (ops.toList.take h) vs) (fun _ => s) rfl hok1 hok2 (g9q _ _ _).symm (fun t ht => ?_) rfl ?_ ?_
 ·refine (m6q _ _ _ fun o ho => ?_).symm
  obtain ⟨i, hi⟩ := List.mem_iff_getElem?.1 ho
  have hih : i < h := by have := (List.getElem?_eq_some_iff.1 hi).1; omega
  have := ht i hih
  rwa [j2q, (hget i o hih).2 hi] at this
 ·intro i o hi ho m _ _ _ e' hle hlk
  have hoi := (hget i o hi).1 ho
  have hvi : i < vs.length := by omega
  refine n5x (hrun i o vs[i] hoi (List.getElem?_eq_getElem hvi) e' _ (fun t ht => ?_) ⟨rfl, fun d hdd => ?_⟩)
  ·rw [hlk t ht, l3q e _ vs i]
   refine m6q _ _ _ fun o' ho' => ?_
   obtain ⟨j, hj⟩ := List.mem_iff_getElem?.1 ho'
   rw [List.getElem?_drop] at hj
   have hjh : i + j < h := by have := (List.getElem?_eq_some_iff.1 hj).1; omega
   intro hcon
   have h1 := T.looks i (i + j) t hi hjh (by rw [j2q, (hget _ o' hjh).2 hj]; exact hcon) (by rw [k5q, ho]; exact ht)
   have := h4z T i (by have := T.le; omega) (i + j) h1
   omega
  ·refine ⟨by rw [g9q]; exact hd o (List.mem_of_getElem? hoi) d hdd, ?_⟩
   rw [l3q e _ vs (i + 1)]
   rw [m6q]
   ·have htk := v3q (ops.toList.take h) vs i e hoi (List.getElem?_eq_getElem hvi)
    rw [htk, hdd, g5q (by rw [g9q]; exact hd o (List.mem_of_getElem? hoi) d hdd)]
   ·intro o' ho' hcon
    obtain ⟨j, hj⟩ := List.mem_iff_getElem?.1 ho'
    rw [List.getElem?_drop] at hj
    have hjh : i + 1 + j < h := by have := (List.getElem?_eq_some_iff.1 hj).1; omega
    have := T.dst i (i + 1 + j) d hi hjh (by rw [j2q, ho]; exact hdd) (by rw [j2q, (hget _ o' hjh).2 hj]; exact hcon)
    omega
 ·have hl2 : (ops.toList.drop h).length = ops.size - h := by simp
  rw [← hl2]
  exact o9z _ h (fun j o hj => by rw [List.getElem?_drop] at hj; simpa using hj) htail
end
end Go.V

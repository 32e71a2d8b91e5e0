/- Lemmas on the way to the statement of this claim; no conditions. -/
import Derived.Test.YthoolojombciiaaDoorA28
namespace Go.V
open Go Go.RowKit
inductive Plan where
  | leaf
  | none
  | quiet (i c : Nat) (p : Plan)
  | alt (i md : Nat) (p rest : Plan)
def altsP : Plan → List Nat
  | .alt i _ _ rest => i :: altsP rest
  | _ => []
def okQ (ops : Array Oper) (i c : Nat) : Bool := match ops[i]? with
  | some o => clsOk c o.op && (c == 0 || c == 2)
  | none => false
def okPlan (ops : Array Oper) (h : Nat) (loud : List Nat) (A : List (List Nat)) : Plan → List Nat → Bool → Bool
  | .leaf, done, _ => (List.range h).all fun i => done.contains i
  | .none, _, top => !top
  | .quiet i c p, done, _ => decide (i < h) && !done.contains i && !loud.contains i && (anc A i).all (fun x => done.contains x) && okQ ops i c && okPlan ops h loud A p (i :: done) true
  | .alt i _ p rest, done, top => decide (i < h) && !done.contains i && loud.contains i && (anc A i).all (fun x => done.contains x) && okPlan ops h loud A p (i :: done) true && okPlan ops h loud A rest done false &&
      (!top || (List.range h).all fun j => done.contains j || (i :: altsP rest).contains j || (anc A j).any fun x => loud.contains x && !done.contains x)
def trn (P : Program) (ops : Array Oper) (s0 : Sg) (K : List CallS → Env → Sg → Prop) : Plan → List CallS → Env → Sg → Prop
  | .leaf, sc, e, s => K sc e s
  | .none, _, _, _ => True
  | .quiet i c p, sc, e, s => match ops[i]? with
    | some o => match c with
      | 0 => goq P ops o sc e s (fun sc' v _ => trn P ops s0 K p sc' (putv e o.dst v) s)
      | _ => goq P ops o sc e s0 (fun sc' v _ => trn P ops s0 K p sc' (putv e o.dst v) s)
    | none => False
  | .alt i md p rest, sc, e, s => (match ops[i]? with
    | some o => goc md P ops o sc e s (fun sc' v s' => Keep s0 s' ∧ trn P ops s0 K p sc' (putv e o.dst v) s')
    | none => False) ∧ trn P ops s0 K rest sc e s
section
variable {P : Program} {ops : Array Oper} {e : Env} {s : Sg} {Q : Exit → Env → Sg → Prop}
def FactQ (P : Program) (ops : Array Oper) (h : Nat) (loud : List Nat) (s0 : Sg) (done : List Nat) (ep : Env) : Prop :=
  ∀ i, i ∈ done → i < h → i ∉ loud → ∀ o, ops[i]? = some o → ∀ s', Ext0 s0 s' → ∀ e' : Env, (∀ t ∈ o.looksAt ops, ev e' (.tmp t) = ev ep (.tmp t)) → OpI P ops o e' s' (fun v s1 => s1 = s' ∧ ∀ d, o.dst = some d → d < ep.length ∧ v = ev ep (.tmp d))
structure InvT (ops : Array Oper) (h : Nat) (loud : List Nat) (A : List (List Nat)) (done : List Nat) (ep : Env) (L : Array Bool) (e : Env) : Prop where
  size : L.size = ops.size
  dn : ∀ i, i < ops.size → L[i]? = some true → ∀ j, j ∈ anc A i → L[j]? = some true
  tl : ∀ k, h ≤ k → k < ops.size → L[k]? = some false
  len : e.length = ep.length
  sub : ∀ i, i < h → L[i]? = some true → i ∈ done
  lo : ∀ i, i < h → i ∈ loud → i ∈ done → L[i]? = some true
  ag : ∀ t, (∀ j, j < h → dstAt ops j = some t → L[j]? = some true) → ev e (.tmp t) = ev ep (.tmp t)
def undone (h : Nat) (L : Array Bool) : Nat := (List.range h).countP fun j => L[j]? == some false
theorem undone_dec {h : Nat} {L : Array Bool} {i : Nat} (hi : i < h) (h1 : i < L.size) (h2 : L[i]? = some false) : undone h (L.setIfInBounds i true) + 1 ≤ undone h L := by
  unfold undone
  have hcount : ∀ (l : List Nat), l.Nodup → i ∈ l → (l.countP fun j => (L.setIfInBounds i true)[j]? == some false) + 1 ≤ l.countP fun j => L[j]? == some false := by
    intro l
    induction l with
    | nil => intro _ h; cases h
    | cons x l ihl =>
      intro hnd hmem
      obtain ⟨hx, hnd⟩ := List.nodup_cons.1 hnd
      rw [List.countP_cons, List.countP_cons]
      by_cases hxi : x = i
      · subst hxi
        have hle : (l.countP fun j => (L.setIfInBounds x true)[j]? == some false) ≤ l.countP fun j => L[j]? == some false := by
          refine List.countP_mono_left fun j hj hjt => ?_
          have : j ≠ x := fun e0 => hx (e0 ▸ hj)
          rwa [Array.getElem?_setIfInBounds_ne (Ne.symm this)] at hjt
        have hs1 : (L.setIfInBounds x true)[x]? = some true := by simp [h1]
        rw [hs1, h2]
        simp only [beq_self_eq_true, if_true]
        have : (some true == some false) = false := rfl
        simp only [this]
        simpa using hle
      · have hml : i ∈ l := by
          rcases List.mem_cons.1 hmem with h | h
          · exact absurd h.symm hxi
          · exact h
        have := ihl hnd hml
        rw [Array.getElem?_setIfInBounds_ne (Ne.symm hxi)]
        omega
  exact hcount _ List.nodup_range (by simpa using hi)
theorem invT_step {h : Nat} {loud done done' : List Nat} {A : List (List Nat)} (T : Tab ops h [] A []) {ep ep' : Env} {L : Array Bool} (I : InvT ops h loud A done ep L e) {i : Nat} {o : Oper} (hi : i ∈ Region.ready .any ops L) (hih : i < h)
    (ho : ops[i]? = some o) {v : V} (hd : ∀ j, j ∈ done → j ∈ done') (hi2 : i ∈ done') (hd2 : ∀ j, j ∈ done' → j ∈ done ∨ j = i) (hl : ep'.length = ep.length) (hv : ∀ d, o.dst = some d → d < ep.length ∧ v = ev ep' (.tmp d)) (he : ∀ t, o.dst ≠ some t → ev ep' (.tmp t) = ev ep (.tmp t)) :
    InvT ops h loud A done' ep' (L.setIfInBounds i true) (putv e o.dst v) := by
  obtain ⟨h1, h2, h3⟩ := ready_spec hi I.size
  have hset : ∀ j, j ≠ i → (L.setIfInBounds i true)[j]? = L[j]? := fun j hj => Array.getElem?_setIfInBounds_ne (Ne.symm hj)
  have hself : (L.setIfInBounds i true)[i]? = some true := by simp [I.size, h1]
  have hup : ∀ j, L[j]? = some true → (L.setIfInBounds i true)[j]? = some true := fun j hj => by
    by_cases hji : j = i
    · subst hji; exact hself
    · rw [hset j hji]; exact hj
  refine ⟨by simpa using I.size, fun k hk hkt j hj => ?_, fun k hk hk2 => ?_, by rw [lpv, hl]; exact I.len, fun j hj hjt => ?_, fun j hj hjl hjd => ?_, fun t ht => ?_⟩
  · by_cases hki : k = i
    · subst hki
      obtain ⟨x, hx, hx2⟩ := T.claims k h1 j hj
      have hxt := h3 x hx
      rcases hx2 with rfl | hx2
      · exact hup _ hxt
      · exact hup _ (I.dn x (by have := T.low k h1 x hx; omega) hxt j hx2)
    · rw [hset k hki] at hkt
      exact hup _ (I.dn k hk hkt j hj)
  · rw [hset k (by omega)]; exact I.tl k hk hk2
  · by_cases hji : j = i
    · subst hji; exact hi2
    · rw [hset j hji] at hjt; exact hd j (I.sub j hj hjt)
  · by_cases hji : j = i
    · subst hji; exact hself
    · rw [hset j hji]
      rcases hd2 j hjd with h | h
      · exact I.lo j hj hjl h
      · exact absurd h hji
  · by_cases hdd : o.dst = some t
    · obtain ⟨h4, h5⟩ := hv t hdd
      rw [hdd, ev_putv_same (by rw [I.len]; exact h4), h5]
    · rw [ev_putv_ne hdd, he t hdd]
      refine I.ag t fun j hj hdj => ?_
      have := ht j hj hdj
      by_cases hji : j = i
      · subst hji; exact absurd (by simpa [dstAt, ho] using hdj) hdd
      · rwa [hset j hji] at this
def Child (P : Program) (ops : Array Oper) (h : Nat) (loud : List Nat) (A : List (List Nat)) (Q : Exit → Env → Sg → Prop) (done : List Nat) (ep : Env) (s : Sg) (i : Nat) : Prop :=
  i < h ∧ i ∉ done ∧ i ∈ loud ∧ ∀ o, ops[i]? = some o → ∃ v s1, (∀ e1 : Env, (∀ t ∈ o.looksAt ops, ev e1 (.tmp t) = ev ep (.tmp t)) → OpI P ops o e1 s (fun v' s' => v' = v ∧ s' = s1)) ∧
    (∀ d, o.dst = some d → d < ep.length) ∧ ∀ fuel L e', InvT ops h loud A (i :: done) (putv ep o.dst v) L e' → undone h L + (ops.size - h) ≤ fuel → VA P ops Q fuel L e' s1
theorem va_node {h : Nat} {loud done al : List Nat} {A : List (List Nat)} (T : Tab ops h [] A []) {ep : Env} {s0 : Sg} (hF : FactQ P ops h loud s0 done ep) (hx : Ext0 s0 s)
    (cov : ∀ j, j < h → j ∉ done → (∃ x, x ∈ anc A j ∧ x ∈ loud ∧ x ∉ done) ∨ j ∈ al) (hal : ∀ i, i ∈ al → Child P ops h loud A Q done ep s i)
    (hend : (∀ j, j < h → j ∈ done) → VL P ops Q (List.range' h (ops.size - h)) ep s) :
    ∀ fuel L e', InvT ops h loud A done ep L e' → undone h L + (ops.size - h) ≤ fuel → VA P ops Q fuel L e' s := by
  intro fuel
  induction fuel with
  | zero =>
    intro L e' I hc
    have hall : ∀ j, j < h → L[j]? = some true := fun j hj => by
      rcases bit_cases (L := L) (i := j) (by have := T.le; have := I.size; omega) with h1 | h1
      · exact h1
      · have : 0 < undone h L := List.countP_pos_iff.2 ⟨j, by simpa using hj, by simp [h1]⟩
        omega
    have he : e' = ep := env_ext I.len fun t => I.ag t fun j hj _ => hall j hj
    subst he
    intro r B M ρ a w QQ hs hk
    refine tail_run T (ops.size - h) h L a w (Nat.le_refl _) (by have := T.le; omega) I.size (fun j hj => ⟨fun hj2 => ?_, fun hj2 => hall j hj2⟩) (hend (fun j hj => I.sub j hj (hall j hj)) r B M ρ a w QQ hs hk) _ (by omega)
    rcases Nat.lt_or_ge j h with h1 | h1
    · exact h1
    · have := I.tl j h1 hj
      rw [hj2] at this; cases this
  | succ fuel ih =>
    intro L e' I hc
    by_cases hall : ∀ j, j < h → L[j]? = some true
    · have he : e' = ep := env_ext I.len fun t => I.ag t fun j hj _ => hall j hj
      subst he
      intro r B M ρ a w QQ hs hk
      refine tail_run T (ops.size - h) h L a w (Nat.le_refl _) (by have := T.le; omega) I.size (fun j hj => ⟨fun hj2 => ?_, fun hj2 => hall j hj2⟩) (hend (fun j hj => I.sub j hj (hall j hj)) r B M ρ a w QQ hs hk) _ (by omega)
      rcases Nat.lt_or_ge j h with h1 | h1
      · exact h1
      · have := I.tl j h1 hj
        rw [hj2] at this; cases this
    · have hex : ∃ j, j < h ∧ L[j]? = some false := by
        apply Classical.byContradiction
        intro hno
        refine hall fun j hj => ?_
        rcases bit_cases (L := L) (i := j) (by have := T.le; have := I.size; omega) with h1 | h1
        · exact h1
        · exact absurd ⟨j, hj, h1⟩ hno
      have hrdy : ∃ i, i ∈ Region.ready .any ops L := by
        obtain ⟨j, hj, hjf⟩ := hex
        induction j using Nat.strongRecOn with
        | _ j ihj =>
          by_cases hx : ∀ x ∈ aftAt ops j, L[x]? = some true
          · exact ⟨j, mem_ready_of (by have := T.le; omega) hjf hx⟩
          · have : ∃ x, x ∈ aftAt ops j ∧ L[x]? ≠ some true := by
              apply Classical.byContradiction
              intro hno
              exact hx fun x hx => Classical.byContradiction fun h => hno ⟨x, hx, h⟩
            obtain ⟨x, hx, hxn⟩ := this
            have hlt := T.low j (by have := T.le; omega) x hx
            refine ihj x hlt (by omega) ?_
            rcases bit_cases (L := L) (i := x) (by have := T.le; have := I.size; omega) with h1 | h1
            · exact absurd h1 hxn
            · exact h1
      obtain ⟨i0, hi0⟩ := hrdy
      refine va_step (fun h0 => by rw [h0] at hi0; cases hi0) fun i o hi ho => ?_
      obtain ⟨h1, h2, h3⟩ := ready_spec hi I.size
      have hanc : ∀ j, j ∈ anc A i → L[j]? = some true := fun j hj => by
        obtain ⟨x, hx, hx2⟩ := T.claims i h1 j hj
        rcases hx2 with rfl | hx2
        · exact h3 _ hx
        · exact I.dn x (by have := T.low i h1 x hx; omega) (h3 x hx) j hx2
      have hih : i < h := by
        rcases Nat.lt_or_ge i h with hlt | hge
        · exact hlt
        · exfalso
          obtain ⟨j, hj, hjf⟩ := hex
          have := hanc j (T.tail i hge h1 j (by omega))
          rw [hjf] at this; cases this
      have hlooks : ∀ t ∈ o.looksAt ops, ev e' (.tmp t) = ev ep (.tmp t) := fun t ht => I.ag t fun j hj hdj => hanc j (T.looks i j t hih hj hdj (by simpa [looksAtI, ho] using ht))
      have hnoanc : ¬ ∃ x, x ∈ anc A i ∧ x ∈ loud ∧ x ∉ done := by
        rintro ⟨x, hx, hxl, hxd⟩
        have hxh : x < h := by have := anc_low T i h1 x hx; omega
        exact hxd (I.sub x hxh (hanc x hx))
      have hdec := undone_dec hih (by rw [I.size]; exact h1) h2
      by_cases hil : i ∈ loud
      · have hid : i ∉ done := fun hd => by have := I.lo i hih hil hd; rw [h2] at this; cases this
        rcases cov i hih hid with h | h
        · exact absurd h hnoanc
        · obtain ⟨_, _, _, hch⟩ := hal i h
          obtain ⟨v, s1, hop, hdl, hva⟩ := hch o ho
          refine OpI.mono (hop e' hlooks) fun v' s' hv => ?_
          obtain ⟨rfl, rfl⟩ := hv
          refine hva _ _ _ (invT_step T I hi hih ho (fun j hj => List.mem_cons_of_mem _ hj) (List.mem_cons_self ..) (fun j hj => (List.mem_cons.1 hj).symm) (lpv _ _ _) (fun d hdd => ⟨hdl d hdd, ?_⟩) (fun t ht => ev_putv_ne ht)) (by omega)
          rw [hdd, ev_putv_same (hdl d hdd)]
      · have hid : i ∈ done := by
          apply Classical.byContradiction
          intro hid
          rcases cov i hih hid with h | h
          · exact hnoanc h
          · exact hil (hal i h).2.2.1
        refine OpI.mono (hF i hid hih hil o ho s hx e' hlooks) fun v' s' hv => ?_
        obtain ⟨rfl, hv⟩ := hv
        exact ih _ _ (invT_step T I hi hih ho (fun j hj => hj) hid (fun j hj => .inl hj) rfl hv (fun t _ => rfl)) (by omega)
theorem invT_quiet {h : Nat} {loud done : List Nat} {A : List (List Nat)} {ep : Env} {L : Array Bool} (I : InvT ops h loud A done ep L e) {i : Nat} {o : Oper} (hih : i < h) (ho : ops[i]? = some o) (hid : i ∉ done) (hil : i ∉ loud) (hsz : h ≤ ops.size) (v : V) :
    InvT ops h loud A (i :: done) (putv ep o.dst v) L e := by
  refine ⟨I.size, I.dn, I.tl, by rw [lpv]; exact I.len, fun j hj hjt => List.mem_cons_of_mem _ (I.sub j hj hjt), fun j hj hjl hjd => ?_, fun t ht => ?_⟩
  · rcases List.mem_cons.1 hjd with h | h
    · subst h; exact absurd hjl hil
    · exact I.lo j hj hjl h
  · have hne : o.dst ≠ some t := fun hdd => by
      have := ht i hih (by simp [dstAt, ho, hdd])
      exact hid (I.sub i hih this)
    rw [ev_putv_ne hne]
    exact I.ag t ht
theorem factQ_put {h : Nat} {loud done : List Nat} {A : List (List Nat)} (T : Tab ops h [] A []) {ep : Env} {s0 : Sg} (hF : FactQ P ops h loud s0 done ep) {i : Nat} {o : Oper} (hih : i < h) (ho : ops[i]? = some o) (hid : i ∉ done)
    (hcl : ∀ j, j ∈ done → j < h → ∀ x, x ∈ anc A j → x ∈ done) (v : V)
    (hnew : i ∉ loud → ∀ s', Ext0 s0 s' → ∀ e' : Env, (∀ t ∈ o.looksAt ops, ev e' (.tmp t) = ev (putv ep o.dst v) (.tmp t)) → OpI P ops o e' s' (fun v' s1 => s1 = s' ∧ ∀ d, o.dst = some d → d < ep.length ∧ v' = ev (putv ep o.dst v) (.tmp d))) :
    FactQ P ops h loud s0 (i :: done) (putv ep o.dst v) := by
  intro j hj hjh hjl oj hoj s' hs' e' he'
  rcases List.mem_cons.1 hj with rfl | hjd
  · rw [ho] at hoj; cases hoj
    exact OpI.mono (hnew hjl s' hs' e' he') fun v' s1 h => ⟨h.1, fun d hd => ⟨by rw [lpv]; exact (h.2 d hd).1, (h.2 d hd).2⟩⟩
  · have hji : j ≠ i := fun e0 => hid (e0 ▸ hjd)
    refine OpI.mono (hF j hjd hjh hjl oj hoj s' hs' e' fun t ht => ?_) fun v' s1 h => ⟨h.1, fun d hd => ⟨by rw [lpv]; exact (h.2 d hd).1, ?_⟩⟩
    · rw [he' t ht, ev_putv_ne]
      intro hdd
      have := T.looks j i t hjh hih (by simp [dstAt, ho, hdd]) (by simpa [looksAtI, hoj] using ht)
      exact hid (hcl j hjd hjh i this)
    · rw [(h.2 d hd).2, ev_putv_ne]
      intro hdd
      exact hji (T.dst j i d hjh hih (by simp [dstAt, hoj, hd]) (by simp [dstAt, ho, hdd]))
theorem va_plan {h : Nat} {loud : List Nat} {A : List (List Nat)} (T : Tab ops h [] A []) {s0 : Sg} (hlt0 : ∀ n b, s0.m n = some b → n < s0.next) {n : Nat} (hd : ∀ i o d, i < h → ops[i]? = some o → o.dst = some d → d < n)
    {K : List CallS → Env → Sg → Prop} (hK : ∀ sc e s, K sc e s → VL P ops Q (List.range' h (ops.size - h)) e s) : ∀ (p : Plan),
    (∀ done ep s sc, okPlan ops h loud A p done true = true → (∀ j, j ∈ done → j < h → ∀ x, x ∈ anc A j → x ∈ done) → FactQ P ops h loud s0 done ep → Ext0 s0 s → ep.length = n → noStop sc = true → trn P ops s0 K p sc ep s →
      ∀ fuel L e', InvT ops h loud A done ep L e' → undone h L + (ops.size - h) ≤ fuel → VA P ops Q fuel L e' s) ∧
    (∀ done ep s sc top, okPlan ops h loud A p done top = true → (∀ j, j ∈ done → j < h → ∀ x, x ∈ anc A j → x ∈ done) → FactQ P ops h loud s0 done ep → Ext0 s0 s → ep.length = n → noStop sc = true → trn P ops s0 K p sc ep s →
      ∀ i, i ∈ altsP p → Child P ops h loud A Q done ep s i) := by
  intro p
  induction p with
  | leaf =>
    refine ⟨fun done ep s sc hok hcl hF hx hn hns ht fuel L e' I hf => ?_, fun done ep s sc top hok hcl hF hx hn hns ht i hi => by cases hi⟩
    simp only [okPlan, List.all_eq_true, List.mem_range, List.contains_iff_mem] at hok
    exact va_node (al := []) T hF hx (fun j hj hjd => absurd (hok j hj) hjd) (fun i hi => by cases hi) (fun _ => hK _ _ _ ht) fuel L e' I hf
  | none => exact ⟨fun done ep s sc hok => by simp [okPlan] at hok, fun done ep s sc top hok hcl hF hx hn hns ht i hi => by cases hi⟩
  | quiet i c p ih =>
    refine ⟨fun done ep s sc hok hcl hF hx hn hns ht => ?_, fun done ep s sc top hok hcl hF hx hn hns ht i hi => by cases hi⟩
    simp only [okPlan, Bool.and_eq_true, decide_eq_true_eq, Bool.not_eq_true', List.contains_eq_mem, decide_eq_false_iff_not, List.all_eq_true] at hok
    obtain ⟨⟨⟨⟨⟨h1, h2⟩, h3⟩, h4⟩, h5⟩, h6⟩ := hok
    unfold trn at ht
    cases ho : ops[i]? with
    | none => simp [ho] at ht
    | some o =>
      simp only [ho] at ht
      simp only [okQ, ho, Bool.and_eq_true, Bool.or_eq_true, beq_iff_eq] at h5
      obtain ⟨hc1, hc2⟩ := h5
      have hsz := T.le
      have hnotself : ∀ t ∈ o.looksAt ops, o.dst ≠ some t := fun t ht hdd => by
        have := T.looks i i t h1 h1 (by simp [dstAt, ho, hdd]) (by simpa [looksAtI, ho] using ht)
        have := anc_low T i (by omega) i this
        omega
      have go : ∀ (v : V) (sc1 : List CallS), noStop sc1 = true → trn P ops s0 K p sc1 (putv ep o.dst v) s → (∀ s', Ext0 s0 s' → OpD P ops o ep v s' s') →
          ∀ fuel L e', InvT ops h loud A done ep L e' → undone h L + (ops.size - h) ≤ fuel → VA P ops Q fuel L e' s := by
        intro v sc1 hns1 ht1 hop fuel L e' I hf
        have hcl' : ∀ j, j ∈ i :: done → j < h → ∀ x, x ∈ anc A j → x ∈ i :: done := fun j hj hjh x hxx => by
          rcases List.mem_cons.1 hj with rfl | hj
          · exact List.mem_cons_of_mem _ (by simpa using h4 x hxx)
          · exact List.mem_cons_of_mem _ (hcl j hj hjh x hxx)
        refine ih.1 (i :: done) (putv ep o.dst v) s sc1 h6 hcl' (factQ_put T hF h1 ho h2 hcl v fun _ s' hs' e2 he2 => ?_) hx (by rw [lpv]; exact hn) hns1 ht1 fuel L e' (invT_quiet I h1 ho h2 h3 hsz v) hf
        refine OpI.mono (hop s' hs' e2 fun t ht => ?_) fun v' s1 hv => ⟨hv.2, fun d hdd => ⟨by rw [hn]; exact hd i o d h1 ho hdd, ?_⟩⟩
        · rw [he2 t ht, ev_putv_ne (hnotself t ht)]
        · rw [hv.1, hdd, ev_putv_same (by rw [hn]; exact hd i o d h1 ho hdd)]
      rcases hc2 with rfl | rfl
      · have hq : quietX o.op = true := by simpa [clsOk] using hc1
        have hf : freeX o.op = true := by unfold freeX; split <;> first | rfl | exact hq
        obtain ⟨v, sc1, g1, g2, g3⟩ := goq_det hf ht hns
        refine go v sc1 g2 g1 fun s2 _ e1 he1 => ?_
        have g4 := goq_any false hq (g3 e1 (fun sc' v' _ => sc' = sc1 ∧ v' = v) he1 ⟨rfl, rfl⟩) s2 (by simp)
        obtain ⟨v5, sc5, ⟨rfl, rfl⟩, g6, g7⟩ := goq_det hf g4 hns
        exact opd_of (fun e2 K2 he2 hk2 => goq_goc (g7 e2 K2 he2 hk2)) e1 fun _ _ => rfl
      · have hf : freeX o.op = true := by simpa [clsOk] using hc1
        obtain ⟨v, sc1, g1, g2, g3⟩ := goq_det hf ht hns
        refine go v sc1 g2 g1 fun s2 hx2 e1 he1 => ?_
        have g4 := goq_any true hf (g3 e1 (fun sc' v' _ => sc' = sc1 ∧ v' = v) he1 ⟨rfl, rfl⟩) s2 (fun _ => hx2)
        obtain ⟨v5, sc5, ⟨rfl, rfl⟩, g6, g7⟩ := goq_det hf g4 hns
        exact opd_of (fun e2 K2 he2 hk2 => goq_goc (g7 e2 K2 he2 hk2)) e1 fun _ _ => rfl
  | alt i md p rest ihp ihr =>
    have M2 : ∀ done ep s sc top, okPlan ops h loud A (.alt i md p rest) done top = true → (∀ j, j ∈ done → j < h → ∀ x, x ∈ anc A j → x ∈ done) → FactQ P ops h loud s0 done ep → Ext0 s0 s → ep.length = n → noStop sc = true → trn P ops s0 K (.alt i md p rest) sc ep s →
        ∀ i', i' ∈ altsP (.alt i md p rest) → Child P ops h loud A Q done ep s i' := by
      intro done ep s sc top hok hcl hF hx hn hns ht i' hi'
      simp only [okPlan, Bool.and_eq_true, decide_eq_true_eq, Bool.not_eq_true', List.contains_eq_mem, decide_eq_false_iff_not, List.all_eq_true] at hok
      obtain ⟨⟨⟨⟨⟨⟨h1, h2⟩, h3⟩, h4⟩, h5⟩, h6⟩, _⟩ := hok
      unfold trn at ht
      obtain ⟨ht1, ht2⟩ := ht
      rcases List.mem_cons.1 hi' with rfl | hi'
      · refine ⟨h1, h2, h3, fun o ho => ?_⟩
        simp only [ho] at ht1
        obtain ⟨v, s1, sc1, ⟨g0, g1⟩, g2, g3⟩ := goc_det ht1 hns
        have hcl' : ∀ j, j ∈ i' :: done → j < h → ∀ x, x ∈ anc A j → x ∈ i' :: done := fun j hj hjh x hxx => by
          rcases List.mem_cons.1 hj with rfl | hj
          · exact List.mem_cons_of_mem _ (by simpa using h4 x hxx)
          · exact List.mem_cons_of_mem _ (hcl j hj hjh x hxx)
        refine ⟨v, s1, fun e1 he1 => opd_of g3 e1 he1, fun d hdd => by rw [hn]; exact hd i' o d h1 ho hdd, fun fuel L e' I hf => ?_⟩
        refine ihp.1 (i' :: done) (putv ep o.dst v) s1 sc1 h5 hcl' (factQ_put T hF h1 ho h2 hcl v fun hnl => absurd (by simpa using h3) hnl) (fun m b hb => g0 m b (hlt0 m b hb) hb) (by rw [lpv]; exact hn) g2 g1 fuel L e' I hf
      · exact ihr.2 done ep s sc false h6 hcl hF hx hn hns ht2 i' hi'
    refine ⟨fun done ep s sc hok hcl hF hx hn hns ht => ?_, M2⟩
    have hch := M2 done ep s sc true hok hcl hF hx hn hns ht
    have hok' := hok
    simp only [okPlan, Bool.and_eq_true, decide_eq_true_eq, Bool.not_eq_true', List.contains_eq_mem, decide_eq_false_iff_not, List.all_eq_true, Bool.not_true, Bool.false_or, List.mem_range, Bool.or_eq_true, List.any_eq_true] at hok'
    obtain ⟨⟨⟨⟨⟨⟨h1, h2⟩, h3⟩, h4⟩, h5⟩, h6⟩, hcov⟩ := hok'
    refine va_node (al := altsP (.alt i md p rest)) T hF hx (fun j hj hjd => ?_) hch (fun hall => absurd (hall i h1) h2)
    rcases hcov j hj with (h | h) | ⟨x, hx1, hx2, hx3⟩
    · exact absurd h hjd
    · exact .inr h
    · exact .inl ⟨x, hx1, hx2, hx3⟩
def okTree (ops : Array Oper) (h : Nat) (loud : List Nat) (p : Plan) : Bool := okHead ops h [] (cloT ops) [] && okLow ops && okPlan ops h loud (cloT ops) p [] true
theorem vw_tree {id : Nat} (s0 : Sg) (hb0 : ∀ n b, s0.m n = some b → s.m n = some b) (hn0 : s0.next = s.next) (hm : P.follows .mixedOrders = true) (h : Nat) (loud : List Nat) (p : Plan) (sc sc2 : List CallS) (md2 : Nat) (hok : okTree ops h loud p = true)
    (hd : ∀ o ∈ ops.toList.take h, ∀ d, o.dst = some d → d < e.length) (hns : noStop sc = true)
    (H : trn P ops s0 (fun sc' e s => wocs md2 P ops (ops.toList.drop h) (sc' ++ sc2) (fun e s => Q .normal e s) e s) p sc e s) : VW P (.region id ops true) Q e s := by
  simp only [okTree, Bool.and_eq_true] at hok
  obtain ⟨⟨hok1, hok2⟩, hok3⟩ := hok
  have T := tab_of hok1 hok2
  intro r B M ρ a w QQ hs hk
  refine wpIn_region_any hm ?_
  have hst : Stp s ρ w s ρ { w with drawn := w.drawn + 1 } := ⟨rfl, rfl, rfl, Nat.le_refl _, fun _ _ _ => rfl, fun _ _ => rfl, Nat.le_refl _, fun _ b' _ h => ⟨b', h⟩, fun _ _ h => h, fun _ rec h => ⟨rec, h⟩⟩
  have hsr := (hs.sr.side (w' := { w with drawn := w.drawn + 1 }) (fun _ _ _ _ h => h) (fun _ _ _ _ _ => rfl)).1
  have hlt0 : ∀ n b, s0.m n = some b → n < s0.next := fun n b hb => by rw [hn0]; exact hs.sr.lt n b (hb0 n b hb)
  have hd' : ∀ i o d, i < h → ops[i]? = some o → o.dst = some d → d < e.length := fun i o d hi ho hdd => hd o (List.mem_of_getElem? (i := i) (by rw [List.getElem?_take, if_pos hi]; simpa using ho)) d hdd
  have hl2 : (ops.toList.drop h).length = ops.size - h := by simp
  have hK : ∀ sc' e s, (fun sc' e s => wocs md2 P ops (ops.toList.drop h) (sc' ++ sc2) (fun e s => Q .normal e s) e s) sc' e s → VL P ops Q (List.range' h (ops.size - h)) e s := fun sc' e s hw => by
    rw [← hl2]
    exact vl_of_wocs _ _ h (fun j o hj => by rw [List.getElem?_drop] at hj; simpa using hj) hw
  refine (va_plan T hlt0 hd' hK p).1 [] e s sc hok3 (fun j hj => by cases hj) (fun i hi => by cases hi) hb0 rfl hns H ops.size _ e
    ⟨by simp, fun i hi ht => ?_, fun k _ hk2 => by simp [hk2], rfl, fun i hi ht => ?_, fun i _ _ hi => (by cases hi), fun t ht => rfl⟩ ?_ r B M ρ a _ QQ (hs.step hsr hst (hs.envStep hst) rfl) fun x e' s' ρ' a' w' q h3 h4 => hk x e' s' ρ' a' w' q h3 (hst.trans h4)
  · simp [hi] at ht
  · have hlt : i < ops.size := by have := T.le; omega
    simp [hlt] at ht
  · have : undone h (Array.replicate ops.size false) ≤ (List.range h).length := List.countP_le_length
    simp only [List.length_range] at this
    have := T.le
    omega
theorem vw_tree_all {id : Nat} (hm : P.follows .mixedOrders = true) (h : Nat) (loud : List Nat) (p : Plan) (sc sc2 : List CallS) (md2 : Nat) (hok : okTree ops h loud p = true)
    (hd : ∀ o ∈ ops.toList.take h, ∀ d, o.dst = some d → d < e.length) (hns : noStop sc = true)
    (H : trn P ops s (fun sc' e s => wocs md2 P ops (ops.toList.drop h) (sc' ++ sc2) (fun e s => Q .normal e s) e s) p sc e s) : VW P (.region id ops true) Q e s :=
  vw_tree s (fun _ _ h => h) rfl hm h loud p sc sc2 md2 hok hd hns H
end
end Go.V

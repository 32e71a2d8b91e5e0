/- Lemmas on the way to the statement of this claim; no conditions. -/
import Derived.OrdersIn
import Derived.Test.YtjidblndipcofaaDoorA12
namespace Go.V
open Go Go.RowKit
def Lv (r : Option Nat) : Fence := { Fence.wide with round := r }
theorem room_lv (r : Option Nat) (n : Nat) : (Lv r).room n := fun _ h => by simp [Lv, Fence.wide] at h
theorem wpIn_any {r : Option Nat} {n n' : Nat} {P : Program} {c : Code} {Q : Exit → Act → World → Prop} {a : Act} {w : World} (h : c.wpIn (Lv r) n P Q a w) : c.wpIn (Lv r) n' P Q a w :=
  fun b k cs hro hb _ => h b k cs hro hb (room_lv r _)
theorem callsIn_any {r r' : Option Nat} {n n' : Nat} {P : Program} {f : FuncId} {args : Array Value} {w : World} {R : Ending → World → Prop} (h : CallsIn (Lv r) n P f args w R) : CallsIn (Lv r') n' P f args w R :=
  ⟨trivial, fun cs _ => h.2 cs (room_lv r _)⟩
def Marks (s : Sg) (ρ : Rho) (M : Nat) (ds : List Deferred) (w : World) : Prop :=
  ds.Pairwise (· ≠ ·) ∧ ∀ d ∈ ds, ∃ D, d = { target := .collected D, args := #[] } ∧ M ≤ D ∧ Fr s ρ D ∧ w.heap[D]? = some (.deferred (some []))
structure St (P : Program) (B M : Nat) (r : Option Nat) (s : Sg) (ρ : Rho) (e : Env) (a : Act) (w : World) : Prop where
  sr : SR P B s ρ w
  lo : B ≤ w.heap.size
  ml : M ≤ w.heap.size
  env : All2 (VR P w s ρ) e a.tmps.toList
  rnd : ∀ l, r = some l → ∃ rec, w.heap[l]? = some (Obj.loop rec)
  mrk : Marks s ρ M a.defers w
theorem Marks.step {s s' : Sg} {ρ ρ' : Rho} {M : Nat} {ds : List Deferred} {w w' : World} (h : Marks s ρ M ds w) (k : Stp s ρ w s' ρ' w') : Marks s' ρ' M ds w' :=
  ⟨h.1, fun d hd => let ⟨D, h1, h2, h3, h4⟩ := h.2 d hd; ⟨D, h1, h2, k.free D (heap_lt h4) h3, (k.same D (heap_lt h4) h3).trans h4⟩⟩
theorem St.step {P : Program} {B M : Nat} {r : Option Nat} {s s' : Sg} {ρ ρ' : Rho} {e e' : Env} {a a' : Act} {w w' : World} (h : St P B M r s ρ e a w) (hs : SR P B s' ρ' w') (k : Stp s ρ w s' ρ' w')
    (he : All2 (VR P w' s' ρ') e' a'.tmps.toList) (hd : a'.defers = a.defers) : St P B M r s' ρ' e' a' w' where
  sr := hs
  lo := Nat.le_trans h.lo k.size
  ml := Nat.le_trans h.ml k.size
  env := he
  rnd l hl := let ⟨rec, h2⟩ := h.rnd l hl; k.loops l rec h2
  mrk := by rw [hd]; exact h.mrk.step k
theorem St.envStep {P : Program} {B M : Nat} {r : Option Nat} {s s' : Sg} {ρ ρ' : Rho} {e : Env} {a : Act} {w w' : World} (h : St P B M r s ρ e a w) (k : Stp s ρ w s' ρ' w') : All2 (VR P w' s' ρ') e a.tmps.toList :=
  h.env.mono fun _ _ h => h.step k
def putv (e : Env) (dst : Option Tmp) (v : V) : Env := match dst with | some d => e.set d v | none => e
theorem put_env {P : Program} {w : World} {s : Sg} {ρ : Rho} {e : Env} {a : Act} (he : All2 (VR P w s ρ) e a.tmps.toList) (dst : Option Tmp) {v : V} {y : Value} (hv : VR P w s ρ v y) :
    All2 (VR P w s ρ) (putv e dst v) (a.put dst y).tmps.toList := by
  cases dst with
  | none => exact he
  | some d =>
    simp only [putv, Act.put, Array.toList_setIfInBounds]
    exact he.set hv d
theorem put_defers (a : Act) (dst : Option Tmp) (y : Value) : (a.put dst y).defers = a.defers := by cases dst <;> rfl
def OpG (P : Program) (o : Oper) (e : Env) (s : Sg) (K : V → Sg → Prop) : Prop :=
  ∀ (r : Option Nat) (B M : Nat) (ρ : Rho) (a : Act) (w : World) (next : Act → World → Prop) (Q : Exit → Act → World → Prop), St P B M r s ρ e a w →
    (∀ y w' v s' ρ', K v s' → SR P B s' ρ' w' → VR P w' s' ρ' v y → Stp s ρ w s' ρ' w' → next (a.put o.dst y) w') → o.wpIn (Lv r) 10 P a w next Q
def VCall (P : Program) (g : Nat) (args : List V) (s : Sg) (K : V → Sg → Prop) : Prop :=
  ∀ (B : Nat) (ρ : Rho) (w : World) (vs : List Value), SR P B s ρ w → B ≤ w.heap.size → All2 (VR P w s ρ) args vs →
    CallsIn (Lv none) 9 P g ⟨vs⟩ w fun x w' => ∃ y v s' ρ', x = .returned y ∧ K v s' ∧ SR P B s' ρ' w' ∧ VR P w' s' ρ' v y ∧ Stp s ρ w s' ρ' w'
def VW (P : Program) (c : Code) (Q : Exit → Env → Sg → Prop) (e : Env) (s : Sg) : Prop :=
  ∀ (r : Option Nat) (B M : Nat) (ρ : Rho) (a : Act) (w : World) (QQ : Exit → Act → World → Prop), St P B M r s ρ e a w →
    (∀ x e' s' ρ' a' w', Q x e' s' → St P B M r s' ρ' e' a' w' → Stp s ρ w s' ρ' w' → QQ x a' w') → c.wpIn (Lv r) 10 P QQ a w
def VL (P : Program) (ops : Array Oper) (Q : Exit → Env → Sg → Prop) (l : List Nat) (e : Env) (s : Sg) : Prop :=
  ∀ (r : Option Nat) (B M : Nat) (ρ : Rho) (a : Act) (w : World) (QQ : Exit → Act → World → Prop), St P B M r s ρ e a w →
    (∀ x e' s' ρ' a' w', Q x e' s' → St P B M r s' ρ' e' a' w' → Stp s ρ w s' ρ' w' → QQ x a' w') → wpOpsIn (Lv r) 10 P ops QQ l a w
section
variable {P : Program} {e : Env} {s : Sg} {Q : Exit → Env → Sg → Prop}
theorem VW.mono {c : Code} {Q' : Exit → Env → Sg → Prop} (h : VW P c Q e s) (hq : ∀ x e s, Q x e s → Q' x e s) : VW P c Q' e s :=
  fun r B M ρ a w QQ hs hk => h r B M ρ a w QQ hs fun x e' s' ρ' a' w' q => hk x e' s' ρ' a' w' (hq _ _ _ q)
theorem VW.wk {c : Code} {e' : Env} {s' : Sg} (hw : Wk e s e' s') (h : VW P c Q e' s') : VW P c Q e s := by
  intro r B M ρ a w QQ hs hk
  have k := hw.stp ρ w
  exact h r B M ρ a w QQ (hs.step (hw.sr hs.sr) k (hw.vr hs.sr hs.env) rfl) fun x e' s' ρ' a' w' q h1 h2 => hk x e' s' ρ' a' w' q h1 (k.trans h2)
theorem vw_skip (h : Q .normal e s) : VW P .skip Q e s := fun r B M ρ a w QQ hs hk => wpIn_skip (hk _ _ _ _ _ _ h hs (Stp.refl _ _ _))
theorem vw_label {l : Nat} (h : Q .normal e s) : VW P (.label l) Q e s := fun r B M ρ a w QQ hs hk => wpIn_label (hk _ _ _ _ _ _ h hs (Stp.refl _ _ _))
theorem vw_exit {id : Nat} (h : Q (.exit id) e s) : VW P (.exit id) Q e s := fun r B M ρ a w QQ hs hk => wpIn_exit (hk _ _ _ _ _ _ h hs (Stp.refl _ _ _))
theorem vw_ret (h : Q .ret e s) : VW P .ret Q e s := fun r B M ρ a w QQ hs hk => wpIn_ret (hk _ _ _ _ _ _ h hs (Stp.refl _ _ _))
def thenV (K : Env → Sg → Prop) (Q : Exit → Env → Sg → Prop) : Exit → Env → Sg → Prop
  | .normal, e, s => K e s
  | x, e, s => Q x e s
theorem vw_seq {c d : Code} (h : VW P c (thenV (VW P d Q) Q) e s) : VW P (.seq c d) Q e s := by
  intro r B M ρ a w QQ hs hk
  refine wpIn_seq (h r B M ρ a w _ hs fun x e' s' ρ' a' w' q hs' hst => ?_)
  cases x with
  | normal => exact q r B M ρ' a' w' QQ hs' fun x e2 s2 ρ2 a2 w2 q2 hs2 hst2 => hk x e2 s2 ρ2 a2 w2 q2 hs2 (hst.trans hst2)
  | exit id => exact hk _ _ _ _ _ _ q hs' hst
  | goto id => exact hk _ _ _ _ _ _ q hs' hst
  | ret => exact hk _ _ _ _ _ _ q hs' hst
  | panic id => exact hk _ _ _ _ _ _ q hs' hst
  | outgrown => exact hk _ _ _ _ _ _ q hs' hst
theorem vw_cond {x : Operand} {c d : Code} (b : Bool) (hx : ev e x = .t (.v (.bool b))) (h : VW P (if b then c else d) Q e s) : VW P (.cond x c d) Q e s := by
  intro r B M ρ a w QQ hs hk
  have := ev_sound hs.env x
  rw [hx] at this
  exact wpIn_cond (repV (w := w) (A := Fr s ρ) this) (h r B M ρ a w QQ hs hk)
def blockV (id : Nat) (Q : Exit → Env → Sg → Prop) : Exit → Env → Sg → Prop
  | .exit id', e, s => if id' = id then Q .normal e s else Q (.exit id') e s
  | x, e, s => Q x e s
theorem vw_block {id : Nat} {c : Code} (h : VW P c (blockV id Q) e s) : VW P (.block id c) Q e s := by
  intro r B M ρ a w QQ hs hk
  refine wpIn_block (h r B M ρ a w _ hs fun x e' s' ρ' a' w' q hs' hst => ?_)
  cases x with
  | exit id' =>
    simp only [blockV] at q
    simp only [Exit.inBlock]
    split
    · rename_i hid; rw [if_pos hid] at q; exact hk _ _ _ _ _ _ q hs' hst
    · rename_i hid; rw [if_neg hid] at q; exact hk _ _ _ _ _ _ q hs' hst
  | normal => exact hk _ _ _ _ _ _ q hs' hst
  | goto id => exact hk _ _ _ _ _ _ q hs' hst
  | ret => exact hk _ _ _ _ _ _ q hs' hst
  | panic id => exact hk _ _ _ _ _ _ q hs' hst
  | outgrown => exact hk _ _ _ _ _ _ q hs' hst
theorem wpIn_loop_ix {F : Fence} {n : Nat} {QQ : Exit → Act → World → Prop} {c : Code} (I : Nat → Act → World → Prop) {i : Nat} {a : Act} {w : World} (h0 : I i a w)
    (round : ∀ i a w, I i a w → c.wpIn F n P (Exit.then (fun a' w' => ∃ j, j < i ∧ I j a' w') QQ) a w) : (Code.loop c).wpIn F n P QQ a w := by
  intro b k cs hro hb hr
  have key : ∀ j a w, I j a w → ∃ e a' w', QQ e a' w' ∧ ArrivesIn (Machine.fenced P F) P (lone (b.atR a (.code c :: .inLoop c :: k)) cs w) b k cs e a' w' := by
    intro j
    induction j using Nat.strongRecOn with
    | _ j ih =>
      intro a w hI
      obtain ⟨e, a₁, w₁, hq, harr⟩ := round j a w hI b (.inLoop c :: k) cs hro hb hr
      cases e with
      | normal =>
        obtain ⟨j', hlt, hI₁⟩ := hq
        obtain ⟨e₂, a₂, w₂, hq₂, harr₂⟩ := ih j' hlt a₁ w₁ hI₁
        exact ⟨e₂, a₂, w₂, hq₂, .of_steps (StepsIn.trans harr (.one (fenced_calm hb hr rfl) stepR_inLoop)) harr₂⟩
      | exit id => exact ⟨_, a₁, w₁, hq, .pass (x := .inLoop c) rfl (fun _ _ => .inl (by simp)) harr⟩
      | goto l => exact ⟨_, a₁, w₁, hq, .pass (x := .inLoop c) rfl (fun _ _ => .inl (by simp)) harr⟩
      | ret => exact ⟨_, a₁, w₁, hq, .pass (x := .inLoop c) rfl (fun _ _ => .inl (by simp)) harr⟩
      | panic ch => exact ⟨_, a₁, w₁, hq, .pass (x := .inLoop c) rfl (fun _ _ => .inl (by simp)) harr⟩
      | outgrown => exact ⟨_, a₁, w₁, hq, .pass (x := .inLoop c) rfl (fun _ _ => .inl (by simp)) harr⟩
  obtain ⟨e, a', w', hq, harr⟩ := key _ a w h0
  exact ⟨e, a', w', hq, .of_steps (.one (fenced_calm hb hr rfl) stepR_loop) harr⟩
theorem vw_loop {c : Code} (J : Nat → Env → Sg → Prop) {i : Nat} (h0 : J i e s) (round : ∀ i e s, J i e s → VW P c (thenV (fun e' s' => ∃ j, j < i ∧ J j e' s') Q) e s) : VW P (.loop c) Q e s := by
  intro r B M ρ a w QQ hs hk
  refine wpIn_loop_ix (fun i a' w' => ∃ e' s' ρ', J i e' s' ∧ St P B M r s' ρ' e' a' w' ∧ Stp s ρ w s' ρ' w') (i := i) ⟨e, s, ρ, h0, hs, Stp.refl _ _ _⟩ ?_
  rintro i a1 w1 ⟨e1, s1, ρ1, hJ, hs1, hst1⟩
  refine round i e1 s1 hJ r B M ρ1 a1 w1 _ hs1 fun x e' s' ρ' a' w' q hs' hst => ?_
  cases x with
  | normal => obtain ⟨j, hj, q⟩ := q; exact ⟨j, hj, e', s', ρ', q, hs', hst1.trans hst⟩
  | exit id => exact hk _ _ _ _ _ _ q hs' (hst1.trans hst)
  | goto id => exact hk _ _ _ _ _ _ q hs' (hst1.trans hst)
  | ret => exact hk _ _ _ _ _ _ q hs' (hst1.trans hst)
  | panic id => exact hk _ _ _ _ _ _ q hs' (hst1.trans hst)
  | outgrown => exact hk _ _ _ _ _ _ q hs' (hst1.trans hst)
theorem vw_region {id : Nat} {ops : Array Oper} (h : VL P ops Q (List.range ops.size) e s) : VW P (.region id ops false) Q e s :=
  fun r B M ρ a w QQ hs hk => wpIn_region (h r B M ρ a w QQ hs hk)
theorem vl_nil {ops : Array Oper} (h : Q .normal e s) : VL P ops Q [] e s := fun r B M ρ a w QQ hs hk => hk _ _ _ _ _ _ h hs (Stp.refl _ _ _)
theorem yielded_ev {ops : Array Oper} {j : Nat} {oj : Oper} {t : Tmp} (hj : ops[j]? = some oj) (hd : oj.dst = some t) {b : Bool} (hv : ev e (.tmp t) = .t (.v (.bool b))) {w : World} {ρ : Rho} {a : Act} (he : All2 (VR P w s ρ) e a.tmps.toList) :
    yielded ops a.tmps j = some b := by
  have := ev_sound he (.tmp t)
  rw [hv] at this
  have := repV (w := w) (A := Fr s ρ) this
  simp only [Act.eval] at this
  simp only [yielded, hj, hd, Option.bind_some]
  have h2 : a.tmps[t]? = some (.bool b) := by
    rw [Array.getD_eq_getD_getElem?] at this
    cases hq : a.tmps[t]? with
    | none => rw [hq] at this; cases this
    | some z => rw [hq] at this; simp at this; rw [this]
  simp [h2]
theorem Sound.opg {o : Oper} {K : V → Sg → Prop} (h : Sound P o e s K) : OpG P o e s K := by
  intro r B M ρ a w next QQ hs hk
  obtain ⟨y, w', v, s', ρ', hr, hK, h1, h2, h3⟩ := h B ρ a w hs.sr hs.lo hs.env
  refine ⟨fun _ _ => trivial, ?_⟩
  have hsem : o.semAt r a.eval = execOp a.eval o := by
    cases r with
    | none => rfl
    | some l =>
      refine Oper.semAt_eq _ _ _ fun c hc => ?_
      rcases hr with hr | ⟨hr, _⟩ <;> simp only [execOp, hc, Sem.run_bind] at hr <;> cases hq : (resolve a.eval c o.type).run P w <;> simp [hq, Result.andThen] at hr
  show o.uponIn (Lv r) 10 P a next QQ ((o.semAt r a.eval).run P w)
  rw [hsem]
  rcases hr with hr | ⟨hr, rfl⟩
  · rw [hr]; exact hk y w' v s' ρ' hK h1 h2 h3
  · rw [hr]; exact hk undef w' v s' ρ' hK h1 h2 h3
theorem all2_args {w : World} {ρ : Rho} {a : Act} (he : All2 (VR P w s ρ) e a.tmps.toList) : ∀ (l : List Operand), All2 (VR P w s ρ) (l.map (ev e)) (l.map a.eval)
  | [] => trivial
  | x :: l => ⟨ev_sound he x, all2_args he l⟩
theorem opg_call {o : Oper} {K : V → Sg → Prop} {c : Call} (ho : o.op = .call c) {x : Operand} (hc : c.callee = .value x) {g : Nat} {caps : List V} (hx : ev e x = .clo g caps ∨ (ev e x = .t (.v (.func (.func g) #[] #[])) ∧ caps = []))
    {fn : Func} (hf : P.funcs[g]? = some fn) (hb : fn.body.isSome = true) (hn : fn.name ≠ "runtime.NumGoroutine") (h : VCall P g (c.args.toList.map (ev e) ++ caps) s K) : OpG P o e s K := by
  intro r B M ρ a w next QQ hs hk
  refine ⟨fun _ _ => trivial, ?_⟩
  have hsem : o.semAt r a.eval = execOp a.eval o := Oper.semAt_eq _ _ _ fun c hc => by simp [ho] at hc
  show o.uponIn (Lv r) 10 P a next QQ ((o.semAt r a.eval).run P w)
  rw [hsem]
  obtain ⟨cv, hev, hcv⟩ : ∃ cv : List Value, a.eval x = .func (.func g) #[] ⟨cv⟩ ∧ All2 (VR P w s ρ) caps cv := by
    have := ev_sound hs.env x
    rcases hx with hx | ⟨hx, rfl⟩
    · rw [hx] at this
      obtain ⟨l, h1, h2⟩ := this
      exact ⟨l, h1, h2.mono fun _ _ h => h.vr1.vr⟩
    · rw [hx] at this
      exact ⟨[], repV (w := w) (A := Fr s ρ) this, trivial⟩
  have hrun : (execOp a.eval o).run P w = .ok (.enter g ⟨c.args.toList.map a.eval ++ cv⟩) w := by
    have e1 : #[] ++ c.args.map a.eval ++ (⟨cv⟩ : Array Value) = ⟨c.args.toList.map a.eval ++ cv⟩ := by
      apply Array.toList_inj.1; simp
    have hb' : fn.body.isNone = false := by cases h' : fn.body <;> simp_all
    simp only [execOp, ho, resolve, hc, hev, Deferred.ofValue, Sem.run_bind, Sem.run_pure, Result.andThen, invoke, callFunc, e1]
    simp [Sem.run, program, hf, hn, hb']
  rw [hrun]
  refine ⟨fun h => by simp [Lv, Fence.wide] at h, ?_⟩
  have := h B ρ w (c.args.toList.map a.eval ++ cv) hs.sr hs.lo ((all2_args hs.env _).append hcv)
  refine CallsIn.mono (callsIn_any this) ?_
  rintro x w' ⟨y, v, s', ρ', rfl, hK, h1, h2, h3⟩
  exact hk y w' v s' ρ' hK h1 h2 h3
theorem SR.side {B : Nat} {ρ : Rho} {w w' : World} (hs : SR P B s ρ w) (hc : ∀ (b : Nat) (arr : Array Value) (ty : TypeId) (fr : Nat × Nat), w.heap[b]? = some (Obj.cells arr ty fr) → w'.heap[b]? = some (Obj.cells arr ty fr))
    (hn : ∀ n c bl, s.m n = some c → (ρ n).blk = some bl → w'.heap[bl]? = w.heap[bl]?) : SR P B s ρ w' ∧ Mv s ρ w s ρ w' := by
  have hm : Mv s ρ w s ρ w' := ⟨fun _ _ => rfl, Nat.le_refl _, fun _ b' _ h => ⟨b', h⟩, fun b arr ty fr hf hb => ⟨hf, hc b arr ty fr hb⟩⟩
  exact ⟨⟨hs.lt, hs.lo, hs.inj, fun n b hb => (hs.rep n b hb).mstep hm fun bl hbl => hn n b bl hb hbl, hs.tab.keep fun b arr ty fr _ h => hc b arr ty fr h⟩, hm⟩
def vres1 (P : Program) (s : Sg) (e : Env) : ResultVar → Option V
  | .tmp t => some (ev e (.tmp t))
  | .cell a t => dLoad P s t (ev e (.tmp a))
def vres (P : Program) (s : Sg) (e : Env) : List ResultVar → Option (List V)
  | [] => some []
  | x :: l => match vres1 P s e x, vres P s e l with
    | some a, some b => some (a :: b)
    | _, _ => none
def pack : List V → V
  | [v] => v
  | l => .tup l
end
end Go.V

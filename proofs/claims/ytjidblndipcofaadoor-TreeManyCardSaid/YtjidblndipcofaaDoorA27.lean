/- Lemmas on the way to the statement of this claim; no conditions. -/
import Derived.Test.YtjidblndipcofaaDoorA26
namespace Go.V
open Go Go.RowKit
def pickP (b want : Bool) (A B : Prop) : Prop := (b = want → A) ∧ (b ≠ want → B)
theorem pick_tt (A B : Prop) : pickP true true A B = A := by simp [pickP]
theorem pick_ff (A B : Prop) : pickP false false A B = A := by simp [pickP]
theorem pick_tf (A B : Prop) : pickP true false A B = B := by simp [pickP]
theorem pick_ft (A B : Prop) : pickP false true A B = B := by simp [pickP]
theorem pick_mk {b want : Bool} {A B : Prop} (h1 : b = want → A) (h2 : b ≠ want → B) : pickP b want A B := ⟨h1, h2⟩
structure Px (p : Prop) : Type where
def Hold (p : Prop) (_ : Px p) : Prop := p
inductive CallS where
    | det (v : V) (s : Sg)
    | pur (v : V)
    | far (v : Value)
    | op (v : V) (s : Sg)
    | dst (t : Tmp) (v : V) (s : Sg)
  | stop
def calleeV : V → Option (FuncId × List V)
  | .t (.v (.func (.func g) ⟨[]⟩ ⟨[]⟩)) => some (g, [])
  | .clo g caps => some (g, caps)
  | _ => none
def vopm (md : Nat) (P : Program) (o : Oper) (e : Env) (s : Sg) (K : V → Sg → Prop) : Prop :=
  match md with
  | 0 => vopx false P o e s K
  | 1 => vopx true P o e s K
  | _ => vopb P o e s K
theorem vopm0 (P : Program) (o : Oper) (e : Env) (s : Sg) (K : V → Sg → Prop) : vopm 0 P o e s K = vopx false P o e s K := rfl
theorem vopm1 (P : Program) (o : Oper) (e : Env) (s : Sg) (K : V → Sg → Prop) : vopm 1 P o e s K = vopx true P o e s K := rfl
theorem vopm2 (P : Program) (o : Oper) (e : Env) (s : Sg) (K : V → Sg → Prop) : vopm 2 P o e s K = vopb P o e s K := rfl
theorem vopm_sound {md : Nat} {P : Program} {o : Oper} {e : Env} {s : Sg} {K : V → Sg → Prop} (h : vopm md P o e s K) : OpG P o e s K := by
  unfold vopm at h
  split at h
  · exact vopx_sound h
  · exact vopx_sound h
  · exact vopb_sound h
def callC (P : Program) (g : FuncId) (args : List V) (s : Sg) (K : List CallS → V → Sg → Prop) : List CallS → Prop
  | .det v s1 :: sc => (isFn P g ∧ DCall P g args s v s1) ∧ K sc v s1
  | .pur v :: sc => (isFn P g ∧ PCall P g args v) ∧ K sc v s
  | .stop :: sc => isFn P g ∧ VCall P g args s fun v s1 => Hold (K sc v s1) ⟨⟩
  | _ => False
def YCall (P : Program) (n : Nat) (vals : List V) (s : Sg) (K : V → Sg → Prop) : Prop :=
  ∃ er ps asg bd, s.m n = some (.lp er ps asg bd .ready none) ∧ vals.length = ps.size ∧
    VW P asg (fun x e1 s1 => x = .normal ∧ s1.m n = some (.lp er ps asg bd .ready none) ∧ VW P bd (roundQ n er ps asg bd K) e1 (s1.set n (.lp er ps asg bd .busy none))) (setps er ps.toList vals) s
def yieldC (P : Program) (u : V) (args : List V) (s : Sg) (K : List CallS → V → Sg → Prop) (sc : List CallS) : Prop :=
  match u, sc with
  | .yl n, .stop :: sc => YCall P n args s fun v s1 => Hold (K sc v s1) ⟨⟩
  | _, _ => False
def farC (P : Program) (op : BinOp) (t : TypeId) (x y : Operand) (u1 u2 : V) (s : Sg) (K : List CallS → V → Sg → Prop) : List CallS → Prop
  | .far v :: sc => opFar op u1 u2 P t x y v ∧ K sc (.t (.v v)) s
  | _ => False
def woc (md : Nat) (P : Program) (o : Oper) (e : Env) (s : Sg) (K : List CallS → V → Sg → Prop) (sc : List CallS) : Prop :=
  match o.op with
  | .call c => match c.callee with
    | .value x => match calleeV (ev e x) with
      | some (g, caps) => callC P g (c.args.toList.map (ev e) ++ caps) s K sc
      | none => yieldC P (ev e x) (c.args.toList.map (ev e)) s K sc
    | _ => vopm md P o e s (K sc)
  | .binOp op t x y _ => match ev e x, ev e y with
    | .t (.v (.int .i64 a)), .t (.v (.int .i64 b)) => match op with
      | .quo => 0 ≤ a ∧ 0 < b ∧ a < 9223372036854775808 ∧ K sc (I (a / b)) s
      | .rem => 0 ≤ a ∧ 0 < b ∧ K sc (I (a % b)) s
      | op => opII op a b fun v => K sc v s
    | .t (.v (.string a)), .t (.v (.string b)) => opSS op a b fun v => K sc v s
    | u1, u2 => farC P op t x y u1 u2 s K sc
  | _ => vopm md P o e s (K sc)
def dstIs (o : Oper) (t : Tmp) : Bool := match o.dst with | some d => d == t | none => false
def farOp (P : Program) : Op → Bool
  | .lookup .. | .mapUpdate .. | .makeMap .. | .index .. | .convert .. => true
  | .call c => match c.callee with
    | .builtin .delete => true
    | .builtin .len => match c.argTypes.toList with
      | t :: _ => match P.underlying t with
        | some (.map _ _) => true
        | _ => false
      | [] => false
    | _ => false
  | _ => false
def FarO (P : Program) (o : Oper) (e : Env) (s : Sg) (v : V) (s1 : Sg) : Prop :=
  ∀ (e' : Env) (K : V → Sg → Prop), (∀ x ∈ o.op.operands, ev e' x = ev e x) → K v s1 → OpG P o e' s K
def wof (md : Nat) (P : Program) (o : Oper) (e : Env) (s : Sg) (K : List CallS → V → Sg → Prop) (sc : List CallS) : Prop :=
  match sc with
  | .op v s1 :: sc' => if farOp P o.op = true then FarO P o e s v s1 ∧ K sc' v s1 else woc md P o e s K sc
  | .dst t v s1 :: sc' => if dstIs o t = true then (FarO P o e s v s1 ∧ K sc' v s1) ∨ woc md P o e s K sc else woc md P o e s K sc
  | _ => woc md P o e s K sc
def goc (md : Nat) (P : Program) (ops : Array Oper) (o : Oper) (sc : List CallS) (e : Env) (s : Sg) (K : List CallS → V → Sg → Prop) : Prop :=
  match o.guard with
  | none => (match sc with
    | .op v s1 :: sc' => if farOp P o.op = true then FarO P o e s v s1 ∧ K sc' v s1 else woc md P o e s K sc
    | .dst t v s1 :: sc' => if dstIs o t = true then (FarO P o e s v s1 ∧ K sc' v s1) ∨ woc md P o e s K sc else woc md P o e s K sc
    | _ => woc md P o e s K sc)
  | some (j, want) => match gtmp ops j with
    | some t => match ev e (.tmp t) with
      | .t (.v (.bool b)) => pickP b want ((match sc with
    | .op v s1 :: sc' => if farOp P o.op = true then FarO P o e s v s1 ∧ K sc' v s1 else woc md P o e s K sc
    | .dst t v s1 :: sc' => if dstIs o t = true then (FarO P o e s v s1 ∧ K sc' v s1) ∨ woc md P o e s K sc else woc md P o e s K sc
    | _ => woc md P o e s K sc)) (K sc .nob s)
      | .nob => K sc .nob s
      | _ => False
    | none => False
def wocs (md : Nat) (P : Program) (ops : Array Oper) : List Oper → List CallS → (Env → Sg → Prop) → Env → Sg → Prop
  | [], _, K, e, s => K e s
  | o :: l, sc, K, e, s => goc md P ops o sc e s (fun sc' v s' => wocs md P ops l sc' K (putv e o.dst v) s')
section
variable {md : Nat} {P : Program} {ops : Array Oper} {o : Oper} {e : Env} {s : Sg} {Q : Exit → Env → Sg → Prop} {K : List CallS → V → Sg → Prop} {sc : List CallS}
theorem quo_val (t : TypeId) (x y : Operand) (a b : Int) (h0 : 0 ≤ a) (h1 : 0 < b) (h2 : a < 9223372036854775808) : vbin P .quo t x y (.int .i64 a) (.int .i64 b) = some (.int .i64 (a / b)) := by
  have hb : b ≠ 0 := by omega
  have e1 : a.tdiv b = a / b := Int.tdiv_eq_ediv_of_nonneg h0
  have h3 : 0 ≤ a / b := Int.ediv_nonneg h0 (by omega)
  have h4 : a / b ≤ a := Int.ediv_le_self _ h0
  have hw : IntKind.i64.wrap (a / b) = a / b := by rw [IntKind.wrap_i64]; omega
  simp only [vbin, eqGuard, Go.binOp, Op.intDiv, hb, if_false, e1, hw]
  rfl
theorem rem_val (t : TypeId) (x y : Operand) (a b : Int) (h0 : 0 ≤ a) (h1 : 0 < b) : vbin P .rem t x y (.int .i64 a) (.int .i64 b) = some (.int .i64 (a % b)) := by
  have hb : b ≠ 0 := by omega
  have e1 : a.tmod b = a % b := Int.tmod_eq_emod_of_nonneg h0
  simp only [vbin, eqGuard, Go.binOp, Op.intDiv, hb, if_false, e1]
  rfl
theorem calleeV_some {v : V} {g : FuncId} {caps : List V} (h : calleeV v = some (g, caps)) : v = .clo g caps ∨ (v = .t (.v (.func (.func g) #[] #[])) ∧ caps = []) := by
  unfold calleeV at h
  split at h
  · cases h; exact .inr ⟨rfl, rfl⟩
  · cases h; exact .inl rfl
  · cases h
theorem callC_v {g : FuncId} {args : List V} (h : callC P g args s K sc) : isFn P g ∧ VCall P g args s fun v s' => ∃ sc', K sc' v s' := by
  unfold callC at h
  split at h
  · exact ⟨h.1.1, h.1.2.v ⟨_, h.2⟩⟩
  · exact ⟨h.1.1, h.1.2.v ⟨_, h.2⟩⟩
  · exact ⟨h.1, h.2.mono fun v s' h => ⟨_, h⟩⟩
  · exact h.elim
theorem woc_sound (h : woc md P o e s K sc) : OpG P o e s (fun v s' => ∃ sc', K sc' v s') := by
  unfold woc at h
  split at h
  · rename_i c ho
    split at h
    · rename_i x hc
      split at h
      · rename_i g caps hx
        obtain ⟨⟨fn, h1, h2, h3⟩, h4⟩ := callC_v h
        exact opg_call ho hc (calleeV_some hx) h1 h2 h3 h4
      · unfold yieldC at h
        split at h
        · rename_i n sc' hx
          obtain ⟨er, ps, asg, bd, h1, h2, h3⟩ := h
          refine opg_yield ho hc hx h1 (by simpa using h2) ?_
          exact h3.mono fun x e s hh => ⟨hh.1, hh.2.1, hh.2.2.mono fun x e s hq => by
            cases x with
            | normal => exact ⟨hq.1, _, hq.2⟩
            | ret => exact ⟨hq.1, _, hq.2⟩
            | exit id => exact ⟨hq.1, _, hq.2⟩
            | _ => exact hq⟩
        · exact h.elim
    · exact (vopm_sound h).mono fun v s' h => ⟨_, h⟩
  · rename_i op t x y t' ho
    split at h
    · rename_i a b ha hb
      split at h
      · exact (sound_bin ho (a' := .int .i64 a) (b' := .int .i64 b) (by rw [ha]; rfl) (by rw [hb]; rfl) (quo_val _ _ _ _ _ h.1 h.2.1 h.2.2.1) ⟨_, h.2.2.2⟩).opg
      · exact (sound_bin ho (a' := .int .i64 a) (b' := .int .i64 b) (by rw [ha]; rfl) (by rw [hb]; rfl) (rem_val _ _ _ _ _ h.1 h.2.1) ⟨_, h.2.2⟩).opg
      · exact (opII_far (K := fun v s => K sc v s) ho ha hb h).mono fun v s' h => ⟨_, h⟩
    · rename_i a b ha hb
      exact (opSS_far (K := fun v s => K sc v s) ho ha hb h).mono fun v s' h => ⟨_, h⟩
    · unfold farC at h
      split at h
      · rename_i v sc'
        obtain ⟨hv, h⟩ := h
        refine OpG.mono (K := fun v s => K sc' v s) ?_ fun v s' h => ⟨_, h⟩
        rcases hv with ⟨a, b, h1, h2, h3⟩ | ⟨cs, ds, us, vs, h1, h2, h3, h4, h5⟩ | ⟨⟨el, hu⟩, hop, rfl, h3⟩
        · exact (sound_bin ho h1 h2 h3 h).opg
        · exact (sound_bin_agg ho h1 h2 h3 h4 h5 h).opg
        · exact (sound_ptr_nil ho hu hop h3 h).opg
      · exact h.elim
  · exact (vopm_sound h).mono fun v s' h => ⟨_, h⟩
theorem wof_sound (h : wof md P o e s K sc) : OpG P o e s (fun v s' => ∃ sc', K sc' v s') := by
  unfold wof at h
  split at h
  · split at h
    · exact h.1 e _ (fun _ _ => rfl) ⟨_, h.2⟩
    · exact woc_sound h
  · split at h
    · rcases h with h | h
      · exact h.1 e _ (fun _ _ => rfl) ⟨_, h.2⟩
      · exact woc_sound h
    · exact woc_sound h
  · exact woc_sound h
theorem goc_opi (h : goc md P ops o sc e s K) : OpI P ops o e s (fun v s' => ∃ sc', K sc' v s') := by
  unfold goc at h
  unfold OpI
  split at h
  · rename_i hg; rw [hg]; exact wof_sound h
  · rename_i j want hg
    rw [hg]
    split at h
    · rename_i t ht
      split at h
      · rename_i b hb
        unfold gtmp at ht
        split at ht
        · rename_i oj hj
          exact ⟨oj, t, hj, ht, .inl ⟨b, hb, fun h1 => wof_sound (h.1 h1), fun h1 => .inr ⟨_, h.2 h1⟩⟩⟩
        · cases ht
      · rename_i hb
        unfold gtmp at ht
        split at ht
        · rename_i oj hj
          exact ⟨oj, t, hj, ht, .inr ⟨hb, .inr ⟨_, h⟩⟩⟩
        · cases ht
      · exact h.elim
    · exact h.elim
theorem vl_of_wocs : ∀ (l : List Oper) (sc : List CallS) (i : Nat) {e : Env} {s : Sg}, (∀ j o, l[j]? = some o → ops[i + j]? = some o) → wocs md P ops l sc (fun e s => Q .normal e s) e s → VL P ops Q (List.range' i l.length) e s
  | [], _, i, e, s, _, h => vl_nil h
  | o :: l, sc, i, e, s, hl, h => by
    have ho : ops[i]? = some o := hl 0 o rfl
    intro r B M ρ a w QQ hs hk
    rw [List.length_cons, List.range'_succ, wpOpsIn_cons]
    refine opi_run ho (goc_opi h) hs fun a' w' v s' ρ' hK h1 h2 => ?_
    obtain ⟨sc', hK⟩ := hK
    exact vl_of_wocs l sc' (i + 1) (fun j o' hj => by rw [Nat.add_assoc, Nat.add_comm 1 j]; exact hl (j + 1) o' (by simpa using hj)) hK r B M ρ' a' w' QQ h1 fun x e2 s2 ρ2 a2 w2 q2 hs2 hst2 => hk x e2 s2 ρ2 a2 w2 q2 hs2 (h2.trans hst2)
theorem vw_sc {id : Nat} (md : Nat) (sc : List CallS) (h : wocs md P ops ops.toList sc (fun e s => Q .normal e s) e s) : VW P (.region id ops false) Q e s := by
  refine vw_region ?_
  have := vl_of_wocs (P := P) (ops := ops) (Q := Q) (md := md) ops.toList sc 0 (fun j o hj => by simpa using hj) h
  rw [List.range_eq_range']
  simpa using this
theorem vopb_det {K : V → Sg → Prop} (h : vopb P o e s K) : ∃ v s', K v s' ∧ ∀ (e' : Env) (K' : V → Sg → Prop), (∀ x ∈ o.op.operands, ev e' x = ev e x) → K' v s' → vopb P o e' s K' := by
  unfold vopb at h
  split at h
  · rename_i t len parts ho
    split at h
    · rename_i el k bytes zs hi
      split at h
      · rename_i ps hps
        split at h
        · rename_i cs hcs
          exact ⟨_, _, h.2.2.2, fun e' K' he hk => by
            have := (vparts_congr (e := e) (e' := e') (l := parts.toList) fun x hx => he x (by simpa [ho, Op.operands] using hx)).trans hps
            unfold vopb; simp only [ho, hi, this, hcs]; exact ⟨h.1, h.2.1, h.2.2.1, hk⟩⟩
        · exact h.elim
      · exact h.elim
    · exact h.elim
  · rename_i c ho
    split at h
    · rename_i hc
      split at h
      · rename_i x y t t' ha ht
        split at h
        · rename_i el k bytes zs hi
          split at h
          · rename_i olds s1 hd
            split at h
            · rename_i news hs
              exact ⟨_, _, h.2.2.2.2, fun e' K' he hk => by
                have m1 : x ∈ c.args := by rw [← Array.mem_toList_iff, ha]; simp
                have m2 : y ∈ c.args := by rw [← Array.mem_toList_iff, ha]; simp
                have e1 := he x (by simp [ho, Op.operands, Call.operands, m1])
                have e2 := he y (by simp [ho, Op.operands, Call.operands, m2])
                unfold vopb; simp only [ho, hc, ha, ht, hi, e1, e2, hd, hs]; exact ⟨h.1, h.2.1, h.2.2.1, h.2.2.2.1, hk⟩⟩
            · exact h.elim
          · exact h.elim
        · exact h.elim
      · exact h.elim
    · rename_i n1
      obtain ⟨v, s', h1, _, h3⟩ := vopx_det h
      refine ⟨v, s', h1, fun e' K' he hk => ?_⟩
      unfold vopb; simp only [ho]
      exact h3 e' K' he hk
  · rename_i n1 n2
    obtain ⟨v, s', h1, _, h3⟩ := vopx_det h
    refine ⟨v, s', h1, fun e' K' he hk => ?_⟩
    unfold vopb
    split
    · rename_i ho; exact absurd ho (n1 _ _ _)
    · rename_i ho; exact absurd ho (n2 _)
    · exact h3 e' K' he hk
theorem vopm_det {K : V → Sg → Prop} (h : vopm md P o e s K) : ∃ v s', K v s' ∧ ∀ (e' : Env) (K' : V → Sg → Prop), (∀ x ∈ o.op.operands, ev e' x = ev e x) → K' v s' → vopm md P o e' s K' := by
  unfold vopm at h ⊢
  split at h
  · obtain ⟨v, s', h1, _, h3⟩ := vopx_det h; exact ⟨v, s', h1, h3⟩
  · obtain ⟨v, s', h1, _, h3⟩ := vopx_det h; exact ⟨v, s', h1, h3⟩
  · exact vopb_det h
end
end Go.V

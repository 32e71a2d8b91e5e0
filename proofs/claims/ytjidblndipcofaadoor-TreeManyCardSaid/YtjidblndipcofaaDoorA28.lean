/- Lemmas on the way to the statement of this claim; no conditions. -/
import Derived.Test.YtjidblndipcofaaDoorA27
namespace Go.V
open Go Go.RowKit
def Ext0 (s0 s : Sg) : Prop := ∀ n b, s0.m n = some b → s.m n = some b
def kpOf : List Nat → Nat
  | [] => 0
  | c :: l => if c < 3 then kpOf l else if c < 5 then kpOf l + 1 else 0
def quietX : Op → Bool
  | .move _ | .assign _ | .pick _ _ _ | .extract _ _ | .nilCheck _ | .unOp .. | .binOp .. | .fieldAddr .. | .field .. | .build .. | .makeFunc .. => true
  | .call c => match c.callee with
    | .builtin .len | .builtin .min | .builtin .max | .value _ => true
    | _ => false
  | _ => false
def freeX : Op → Bool
  | .load .. | .indexAddr .. | .slice .. => true
  | o => quietX o
def callQ (P : Program) (g : FuncId) (args : List V) (s : Sg) (K : List CallS → V → Sg → Prop) : List CallS → Prop
  | .pur v :: sc => (isFn P g ∧ PCall P g args v) ∧ K sc v s
  | _ => False
def woq (P : Program) (o : Oper) (e : Env) (s : Sg) (K : List CallS → V → Sg → Prop) (sc : List CallS) : Prop :=
  match o.op with
  | .call c => match c.callee with
    | .value x => match calleeV (ev e x) with
      | some (g, caps) => callQ P g (c.args.toList.map (ev e) ++ caps) s K sc
      | none => False
    | _ => vopx false P o e s (K sc)
  | .binOp op t x y _ => match ev e x, ev e y with
    | .t (.v (.int .i64 a)), .t (.v (.int .i64 b)) => match op with
      | .quo => 0 ≤ a ∧ 0 < b ∧ a < 9223372036854775808 ∧ K sc (I (a / b)) s
      | .rem => 0 ≤ a ∧ 0 < b ∧ K sc (I (a % b)) s
      | op => opII op a b fun v => K sc v s
    | .t (.v (.string a)), .t (.v (.string b)) => opSS op a b fun v => K sc v s
    | u1, u2 => farC P op t x y u1 u2 s K sc
  | _ => vopx false P o e s (K sc)
def goq (P : Program) (ops : Array Oper) (o : Oper) (sc : List CallS) (e : Env) (s : Sg) (K : List CallS → V → Sg → Prop) : Prop :=
  match o.guard with
  | none => woq P o e s K sc
  | some (j, want) => match gtmp ops j with
    | some t => match ev e (.tmp t) with
      | .t (.v (.bool b)) => pickP b want (woq P o e s K sc) (K sc .nob s)
      | .nob => K sc .nob s
      | _ => False
    | none => False
def chn (P : Program) (ops : Array Oper) (s0 : Sg) : List (Oper × Nat) → List CallS → (List CallS → Env → Sg → Prop) → Env → Sg → Prop
  | [], sc, K, e, s => K sc e s
  | (o, c) :: l, sc, K, e, s => match c with
    | 0 => goq P ops o sc e s (fun sc' v _ => chn P ops s0 l sc' K (putv e o.dst v) s)
    | 1 => goc 1 P ops o sc e s (fun sc' v s' => s' = s ∧ chn P ops s0 l sc' K (putv e o.dst v) s)
    | 2 => goq P ops o sc e s0 (fun sc' v _ => chn P ops s0 l sc' K (putv e o.dst v) s)
    | 3 => goc 0 P ops o sc e s (fun sc' v s' => Keep s0 s' ∧ chn P ops s0 l sc' K (putv e o.dst v) s')
    | 4 => goc 2 P ops o sc e s (fun sc' v s' => Keep s0 s' ∧ chn P ops s0 l sc' K (putv e o.dst v) s')
    | 5 => goc 0 P ops o sc e s (fun sc' v s' => chn P ops s0 l sc' K (putv e o.dst v) s')
    | _ => goc 2 P ops o sc e s (fun sc' v s' => chn P ops s0 l sc' K (putv e o.dst v) s')
def noStop : List CallS → Bool
  | [] => true
  | .stop :: _ => false
  | _ :: l => noStop l
section
variable {md : Nat} {P : Program} {ops : Array Oper} {o : Oper} {e : Env} {s : Sg} {Q : Exit → Env → Sg → Prop} {K : List CallS → V → Sg → Prop} {sc : List CallS}
theorem args_congr {e e' : Env} {c : Call} (ho : o.op = .call c) (he : ∀ x ∈ o.op.operands, ev e' x = ev e x) : c.args.toList.map (ev e') = c.args.toList.map (ev e) :=
  List.map_congr_left fun x hx => he x (by
    have : x ∈ c.args := by simpa using hx
    simp [ho, Op.operands, Call.operands, this])
theorem callee_congr {e e' : Env} {c : Call} {x : Operand} (ho : o.op = .call c) (hc : c.callee = .value x) (he : ∀ x ∈ o.op.operands, ev e' x = ev e x) : ev e' x = ev e x := he x (by simp [ho, Op.operands, Call.operands, hc])
theorem woc_det (h : woc md P o e s K sc) (hns : noStop sc = true) : ∃ v s' sc', K sc' v s' ∧ noStop sc' = true ∧ ∀ (e' : Env) (K' : List CallS → V → Sg → Prop), (∀ x ∈ o.op.operands, ev e' x = ev e x) → K' sc' v s' → woc md P o e' s K' sc := by
  unfold woc at h
  split at h
  · rename_i c ho
    split at h
    · rename_i x hc
      split at h
      · rename_i g caps hx
        unfold callC at h
        split at h
        · rename_i v s1 sc1
          exact ⟨v, s1, sc1, h.2, hns, fun e' K' he hk => by
            unfold woc; simp only [ho, hc, callee_congr ho hc he, hx, args_congr ho he, callC]; exact ⟨h.1, hk⟩⟩
        · rename_i v sc1
          exact ⟨v, s, sc1, h.2, hns, fun e' K' he hk => by
            unfold woc; simp only [ho, hc, callee_congr ho hc he, hx, args_congr ho he, callC]; exact ⟨h.1, hk⟩⟩
        · simp [noStop] at hns
        · exact h.elim
      · unfold yieldC at h
        split at h
        · simp [noStop] at hns
        · exact h.elim
    · rename_i n1
      obtain ⟨v, s', h1, h2⟩ := vopm_det h
      refine ⟨v, s', sc, h1, hns, fun e' K' he hk => ?_⟩
      unfold woc; simp only [ho]
      exact h2 e' _ he hk
  · rename_i op t x y t' ho
    have hx' : ∀ e' : Env, (∀ x ∈ o.op.operands, ev e' x = ev e x) → ev e' x = ev e x ∧ ev e' y = ev e y := fun e' he => ⟨he x (by simp [ho, Op.operands]), he y (by simp [ho, Op.operands])⟩
    split at h
    · rename_i a b ha hb
      split at h
      · exact ⟨_, _, sc, h.2.2.2, hns, fun e' K' he hk => by obtain ⟨e1, e2⟩ := hx' e' he; unfold woc; simp only [ho, e1, e2, ha, hb]; exact ⟨h.1, h.2.1, h.2.2.1, hk⟩⟩
      · exact ⟨_, _, sc, h.2.2, hns, fun e' K' he hk => by obtain ⟨e1, e2⟩ := hx' e' he; unfold woc; simp only [ho, e1, e2, ha, hb]; exact ⟨h.1, h.2.1, hk⟩⟩
      · rename_i n1 n2
        obtain ⟨v, hv, hK⟩ := opII_det h
        refine ⟨v, s, sc, hv, hns, fun e' K' he hk => ?_⟩
        obtain ⟨e1, e2⟩ := hx' e' he
        unfold woc; simp only [ho, e1, e2, ha, hb]
        exact hK (fun v => K' sc v s) hk
    · rename_i a b ha hb
      obtain ⟨v, hv, hK⟩ := opSS_det h
      exact ⟨v, s, sc, hv, hns, fun e' K' he hk => by obtain ⟨e1, e2⟩ := hx' e' he; unfold woc; simp only [ho, e1, e2, ha, hb]; exact hK (fun v => K' sc v s) hk⟩
    · rename_i n1 n2
      unfold farC at h
      split at h
      · rename_i v sc1
        refine ⟨_, s, sc1, h.2, hns, fun e' K' he hk => ?_⟩
        obtain ⟨e1, e2⟩ := hx' e' he
        unfold woc; simp only [ho, e1, e2]
        exact ⟨h.1, hk⟩
      · exact h.elim
  · rename_i n1 n2
    obtain ⟨v, s', h1, h2⟩ := vopm_det h
    refine ⟨v, s', sc, h1, hns, fun e' K' he hk => ?_⟩
    unfold woc
    split
    · rename_i c ho; exact absurd ho (n1 c)
    · rename_i op t x y t' ho; exact absurd ho (n2 op t x y t')
    · exact h2 e' _ he hk
theorem wof_det (h : wof md P o e s K sc) (hns : noStop sc = true) : ∃ v s' sc', K sc' v s' ∧ noStop sc' = true ∧ ∀ (e' : Env) (K' : List CallS → V → Sg → Prop), (∀ x ∈ o.op.operands, ev e' x = ev e x) → K' sc' v s' → wof md P o e' s K' sc := by
  unfold wof at h
  split at h
  · rename_i v s1 sc1
    split at h
    · rename_i hf
      exact ⟨v, s1, sc1, h.2, hns, fun e' K' he hk => by
        unfold wof; simp only [hf, if_true]
        exact ⟨fun e2 K2 he2 => h.1 e2 K2 fun x hx => (he2 x hx).trans (he x hx), hk⟩⟩
    · rename_i hf
      obtain ⟨v, s', sc', h1, h2, h3⟩ := woc_det h hns
      exact ⟨v, s', sc', h1, h2, fun e' K' he hk => by unfold wof; simp only [hf, if_false]; exact h3 e' K' he hk⟩
  · rename_i t v s1 sc1
    split at h
    · rename_i hd
      rcases h with h | h
      · exact ⟨v, s1, sc1, h.2, hns, fun e' K' he hk => by
          unfold wof; simp only [hd, if_true]
          exact .inl ⟨fun e2 K2 he2 => h.1 e2 K2 fun x hx => (he2 x hx).trans (he x hx), hk⟩⟩
      · obtain ⟨v, s', sc', h1, h2, h3⟩ := woc_det h hns
        exact ⟨v, s', sc', h1, h2, fun e' K' he hk => by unfold wof; simp only [hd, if_true]; exact .inr (h3 e' K' he hk)⟩
    · rename_i hd
      obtain ⟨v, s', sc', h1, h2, h3⟩ := woc_det h hns
      exact ⟨v, s', sc', h1, h2, fun e' K' he hk => by unfold wof; simp only [hd, if_false]; exact h3 e' K' he hk⟩
  · rename_i n1 n2
    obtain ⟨v, s', sc', h1, h2, h3⟩ := woc_det h hns
    refine ⟨v, s', sc', h1, h2, fun e' K' he hk => ?_⟩
    unfold wof
    split
    · rename_i v s1 sc1; exact absurd rfl (n1 v s1 sc1)
    · rename_i t v s1 sc1; exact absurd rfl (n2 t v s1 sc1)
    · exact h3 e' K' he hk
theorem free_still {op : Op} (h : freeX op = true) : stillX false op = true := by
  cases op with
  | call c =>
    simp only [freeX, quietX] at h
    cases hc : c.callee with
    | builtin b => simp only [hc] at h; cases b <;> simp at h <;> simp [stillX, hc]
    | _ => simp [stillX, hc]
  | _ => first | rfl | simp [freeX, quietX] at h
theorem woq_det (hq : freeX o.op = true) (h : woq P o e s K sc) (hns : noStop sc = true) : ∃ v sc', K sc' v s ∧ noStop sc' = true ∧ ∀ (e' : Env) (K' : List CallS → V → Sg → Prop), (∀ x ∈ o.op.operands, ev e' x = ev e x) → K' sc' v s → woq P o e' s K' sc := by
  unfold woq at h
  split at h
  · rename_i c ho
    split at h
    · rename_i x hc
      split at h
      · rename_i g caps hx
        unfold callQ at h
        split at h
        · rename_i v sc1
          exact ⟨v, sc1, h.2, hns, fun e' K' he hk => by
            unfold woq; simp only [ho, hc, callee_congr ho hc he, hx, args_congr ho he, callQ]; exact ⟨h.1, hk⟩⟩
        · exact h.elim
      · exact h.elim
    · rename_i n1
      obtain ⟨v, s', h1, hs, h2⟩ := vopx_det h
      obtain rfl := hs (free_still hq)
      refine ⟨v, sc, h1, hns, fun e' K' he hk => ?_⟩
      unfold woq; simp only [ho]
      exact h2 e' _ he hk
  · rename_i op t x y t' ho
    have hx' : ∀ e' : Env, (∀ x ∈ o.op.operands, ev e' x = ev e x) → ev e' x = ev e x ∧ ev e' y = ev e y := fun e' he => ⟨he x (by simp [ho, Op.operands]), he y (by simp [ho, Op.operands])⟩
    split at h
    · rename_i a b ha hb
      split at h
      · exact ⟨_, sc, h.2.2.2, hns, fun e' K' he hk => by obtain ⟨e1, e2⟩ := hx' e' he; unfold woq; simp only [ho, e1, e2, ha, hb]; exact ⟨h.1, h.2.1, h.2.2.1, hk⟩⟩
      · exact ⟨_, sc, h.2.2, hns, fun e' K' he hk => by obtain ⟨e1, e2⟩ := hx' e' he; unfold woq; simp only [ho, e1, e2, ha, hb]; exact ⟨h.1, h.2.1, hk⟩⟩
      · rename_i n1 n2
        obtain ⟨v, hv, hK⟩ := opII_det h
        refine ⟨v, sc, hv, hns, fun e' K' he hk => ?_⟩
        obtain ⟨e1, e2⟩ := hx' e' he
        unfold woq; simp only [ho, e1, e2, ha, hb]
        exact hK (fun v => K' sc v s) hk
    · rename_i a b ha hb
      obtain ⟨v, hv, hK⟩ := opSS_det h
      exact ⟨v, sc, hv, hns, fun e' K' he hk => by obtain ⟨e1, e2⟩ := hx' e' he; unfold woq; simp only [ho, e1, e2, ha, hb]; exact hK (fun v => K' sc v s) hk⟩
    · rename_i n1 n2
      unfold farC at h
      split at h
      · rename_i v sc1
        refine ⟨_, sc1, h.2, hns, fun e' K' he hk => ?_⟩
        obtain ⟨e1, e2⟩ := hx' e' he
        unfold woq; simp only [ho, e1, e2]
        exact ⟨h.1, hk⟩
      · exact h.elim
  · rename_i n1 n2
    obtain ⟨v, s', h1, hs, h2⟩ := vopx_det h
    obtain rfl := hs (free_still hq)
    refine ⟨v, sc, h1, hns, fun e' K' he hk => ?_⟩
    unfold woq
    split
    · rename_i c ho; exact absurd ho (n1 c)
    · rename_i op t x y t' ho; exact absurd ho (n2 op t x y t')
    · exact h2 e' _ he hk
theorem vopx_quiet {K : V → Sg → Prop} (hq : quietX o.op = true) (hv : ∀ c x, o.op = .call c → c.callee ≠ .value x) (h : vopx false P o e s K) (s' : Sg) : vopx false P o e s' (fun v _ => K v s) := by
  cases ho : o.op with
  | move x => simp only [vopx, vop, ho] at h ⊢; exact h
  | assign x => simp only [vopx, vop, ho] at h ⊢; exact h
  | pick c x y => simp only [vopx, vop, ho] at h ⊢; split at h <;> simp_all
  | extract x i => simp only [vopx, vop, ho] at h ⊢; exact h
  | nilCheck x => simp only [vopx, vop, ho] at h ⊢; exact h
  | unOp op t x =>
    cases op <;> simp only [vopx, vop, ho] at h ⊢ <;> exact h
  | binOp op t x y t' => simp only [vopx, ho] at h ⊢; exact h
  | fieldAddr t x f => simp only [vopx, vop, ho] at h ⊢; exact h
  | field t x f => simp only [vopx, vop, ho] at h ⊢; exact h
  | build t p => simp only [vopx, ho] at h ⊢; exact h
  | makeFunc f a c => cases f <;> simp only [vopx, vop, ho] at h ⊢ <;> exact h
  | call c =>
    cases hc : c.callee with
    | value x => exact absurd hc (hv c x ho)
    | builtin b =>
      simp only [quietX, ho, hc] at hq
      cases b <;> simp at hq <;> simp only [vopx, vop, ho, hc] at h ⊢ <;> exact h
    | _ => simp [quietX, ho, hc] at hq
  | _ => simp [quietX, ho] at hq
theorem vopx_free {K : V → Sg → Prop} (hq : freeX o.op = true) (hv : ∀ c x, o.op = .call c → c.callee ≠ .value x) (h : vopx false P o e s K) (s' : Sg) (hx : Ext0 s s') : vopx false P o e s' (fun v _ => K v s) := by
  cases ho : o.op with
  | load t x =>
    simp only [vopx, vop, ho] at h ⊢
    split at h
    · rename_i v hv
      have : dLoad P s' t (ev e x) = some v := by
        unfold dLoad at hv ⊢
        split at hv
        · rename_i n off hxx
          split at hv
          · rename_i ty cs hn; simp only [hx _ _ hn]; exact hv
          · rename_i k ty cs hn; simp only [hx _ _ hn]; exact hv
          · cases hv
        · exact hv
        · cases hv
      simp only [this]; exact h
    · exact h.elim
  | indexAddr t x y =>
    simp only [vopx, vop, ho] at h ⊢
    split at h
    · split at h
      · split at h
        · split at h
          · exact h
          · obtain ⟨⟨b, hb⟩, h⟩ := h; exact ⟨⟨b, hx _ _ hb⟩, h⟩
          · exact h
        · exact h
      · exact h
    · exact h
  | slice t x lo hi mx =>
    cases mx with
    | none =>
      simp only [vopx, ho] at h ⊢
      split at h
      · split at h
        · split at h
          · exact h
          · exact h
        · split at h
          · obtain ⟨⟨ty, cs, hn⟩, h⟩ := h; exact ⟨⟨ty, cs, hx _ _ hn⟩, h⟩
          · exact h
        · exact h
      · exact h
    | some y => simp only [vopx, vop, ho] at h
  | _ => exact vopx_quiet (by simpa [freeX, ho] using hq) hv h s'
theorem woq_any (fr : Bool) (hq : (if fr then freeX o.op else quietX o.op) = true) (h : woq P o e s K sc) (s' : Sg) (hx : fr = true → Ext0 s s') : woq P o e s' (fun sc v _ => K sc v s) sc := by
  unfold woq at h ⊢
  split at h
  · rename_i c ho
    split at h
    · rename_i x hc
      split at h
      · rename_i g caps hg
        unfold callQ at h ⊢
        split at h
        · exact h
        · exact h.elim
      · exact h.elim
    · rename_i n1
      have hne : ∀ c' x, o.op = .call c' → c'.callee ≠ .value x := fun c' x h' => by rw [ho] at h'; cases h'; exact n1 x
      cases fr
      · exact vopx_quiet (by simpa using hq) hne h s'
      · exact vopx_free (by simpa using hq) hne h s' (hx rfl)
  · split at h
    · split at h <;> exact h
    · exact h
    · unfold farC at h ⊢; exact h
  · rename_i n1 n2
    have hne : ∀ c' x, o.op = .call c' → c'.callee ≠ .value x := fun c' x h' => absurd h' (n1 c')
    cases fr
    · exact vopx_quiet (by simpa using hq) hne h s'
    · exact vopx_free (by simpa using hq) hne h s' (hx rfl)
theorem woq_woc (h : woq P o e s K sc) : woc 0 P o e s K sc := by
  unfold woq at h
  unfold woc
  split at h
  · rename_i c ho
    simp only [ho]
    split at h
    · rename_i x hc
      simp only [hc]
      split at h
      · rename_i g caps hg
        simp only [hg]
        unfold callQ at h
        split at h
        · exact h
        · exact h.elim
      · exact h.elim
    · rename_i n1
      split
      · rename_i x hc; exact absurd hc (n1 x)
      · exact h
  · rename_i op t x y t' ho
    simp only [ho]; exact h
  · rename_i n1 n2
    split
    · rename_i c ho; exact absurd ho (n1 c)
    · rename_i op t x y t' ho; exact absurd ho (n2 op t x y t')
    · exact h
theorem woq_far (hf : farOp P o.op = true) (h : woq P o e s K sc) : False := by
  unfold woq at h
  cases ho : o.op with
  | call c =>
    simp only [ho] at h hf
    unfold farOp at hf
    cases hc : c.callee with
    | builtin b =>
      simp only [hc] at h hf
      cases b with
      | delete => simp only [vopx, vop, ho, hc] at h
      | len =>
        simp only at hf
        split at hf
        · rename_i t l ht
          split at hf
          · rename_i k v hu
            simp only [vopx, vop, ho, hc, ht] at h
            split at h
            · rename_i x t' tl h1 h2
              cases h2
              simp only [hu] at h
            · exact h
          · cases hf
        · cases hf
      | _ => simp at hf
    | _ => simp only [hc] at hf; cases hf
  | lookup a b c d => simp only [ho, vopx, vop] at h
  | mapUpdate a b c d => simp only [ho, vopx, vop] at h
  | makeMap a b => simp only [ho, vopx, vop] at h
  | index a b c => simp only [ho, vopx, vop] at h
  | convert a b c => simp only [ho, vopx, vop] at h
  | _ => rw [ho] at hf; simp [farOp] at hf
theorem woq_wof (h : woq P o e s K sc) : wof 0 P o e s K sc := by
  unfold wof
  split
  · split
    · rename_i hf; exact (woq_far hf h).elim
    · exact woq_woc h
  · split
    · exact .inr (woq_woc h)
    · exact woq_woc h
  · exact woq_woc h
theorem goq_goc (h : goq P ops o sc e s K) : goc 0 P ops o sc e s K := by
  unfold goq at h
  unfold goc
  split at h
  · rename_i hg; (try rw [hg]); exact woq_wof h
  · rename_i j want hg
    try rw [hg]
    split at h
    · rename_i t ht
      simp only [ht]
      split at h
      · rename_i b hb; simp only [hb]; exact pick_mk (fun hb => woq_wof (h.1 hb)) h.2
      · rename_i hb; simp only [hb]; exact h
      · exact h.elim
    · exact h.elim
theorem goq_any (fr : Bool) (hq : (if fr then freeX o.op else quietX o.op) = true) (h : goq P ops o sc e s K) (s' : Sg) (hx : fr = true → Ext0 s s') : goq P ops o sc e s' (fun sc v _ => K sc v s) := by
  unfold goq at h ⊢
  split at h
  · exact woq_any fr hq h s' hx
  · split at h
    · split at h
      · exact pick_mk (fun hb => woq_any fr hq (h.1 hb) s' hx) h.2
      · exact h
      · exact h
    · exact h
theorem looks_operands {e e' : Env} (he : ∀ t ∈ o.looksAt ops, ev e' (.tmp t) = ev e (.tmp t)) : ∀ x ∈ o.op.operands, ev e' x = ev e x := by
  intro x hx
  cases x with
  | tmp t => exact he t (List.mem_append_left _ (List.mem_filterMap.2 ⟨.tmp t, by simpa using hx, rfl⟩))
  | const v => rfl
  | global g => rfl
  | func f => rfl
theorem goc_det (h : goc md P ops o sc e s K) (hns : noStop sc = true) : ∃ v s' sc', K sc' v s' ∧ noStop sc' = true ∧ ∀ (e' : Env) (K' : List CallS → V → Sg → Prop), (∀ t ∈ o.looksAt ops, ev e' (.tmp t) = ev e (.tmp t)) → K' sc' v s' → goc md P ops o sc e' s K' := by
  unfold goc at h
  split at h
  · rename_i hg
    obtain ⟨v, s', sc', h1, h2, h3⟩ := wof_det h hns
    refine ⟨v, s', sc', h1, h2, fun e' K' he hk => ?_⟩
    unfold goc; rw [hg]
    exact h3 e' K' (looks_operands he) hk
  · rename_i j want hg
    split at h
    · rename_i t ht
      have hlook : t ∈ o.looksAt ops := by
        refine List.mem_append_right _ ?_
        try rw [hg]
        unfold gtmp at ht
        split at ht
        · rename_i oj hj; simp [hj, ht]
        · cases ht
      split at h
      · rename_i b hb
        by_cases hbw : b = want
        · obtain ⟨v, s', sc', h1, h2, h3⟩ := wof_det (h.1 hbw) hns
          refine ⟨v, s', sc', h1, h2, fun e' K' he hk => ?_⟩
          unfold goc; rw [hg]
          simp only [ht, he t hlook, hb]
          exact pick_mk (fun _ => h3 e' K' (looks_operands he) hk) fun hn => absurd hbw hn
        · refine ⟨.nob, s, sc, h.2 hbw, hns, fun e' K' he hk => ?_⟩
          unfold goc; rw [hg]
          simp only [ht, he t hlook, hb]
          exact pick_mk (fun hn => absurd hn hbw) fun _ => hk
      · rename_i hb
        refine ⟨.nob, s, sc, h, hns, fun e' K' he hk => ?_⟩
        unfold goc; rw [hg]
        simp only [ht, he t hlook, hb]
        exact hk
      · exact h.elim
    · exact h.elim
theorem goq_det (hq : freeX o.op = true) (h : goq P ops o sc e s K) (hns : noStop sc = true) : ∃ v sc', K sc' v s ∧ noStop sc' = true ∧ ∀ (e' : Env) (K' : List CallS → V → Sg → Prop), (∀ t ∈ o.looksAt ops, ev e' (.tmp t) = ev e (.tmp t)) → K' sc' v s → goq P ops o sc e' s K' := by
  unfold goq at h
  split at h
  · rename_i hg
    obtain ⟨v, sc', h1, h2, h3⟩ := woq_det hq h hns
    refine ⟨v, sc', h1, h2, fun e' K' he hk => ?_⟩
    unfold goq; rw [hg]
    exact h3 e' K' (looks_operands he) hk
  · rename_i j want hg
    split at h
    · rename_i t ht
      have hlook : t ∈ o.looksAt ops := by
        refine List.mem_append_right _ ?_
        try rw [hg]
        unfold gtmp at ht
        split at ht
        · rename_i oj hj; simp [hj, ht]
        · cases ht
      split at h
      · rename_i b hb
        by_cases hbw : b = want
        · obtain ⟨v, sc', h1, h2, h3⟩ := woq_det hq (h.1 hbw) hns
          refine ⟨v, sc', h1, h2, fun e' K' he hk => ?_⟩
          unfold goq; rw [hg]
          simp only [ht, he t hlook, hb]
          exact pick_mk (fun _ => h3 e' K' (looks_operands he) hk) fun hn => absurd hbw hn
        · refine ⟨.nob, sc, h.2 hbw, hns, fun e' K' he hk => ?_⟩
          unfold goq; rw [hg]
          simp only [ht, he t hlook, hb]
          exact pick_mk (fun hn => absurd hn hbw) fun _ => hk
      · rename_i hb
        refine ⟨.nob, sc, h, hns, fun e' K' he hk => ?_⟩
        unfold goq; rw [hg]
        simp only [ht, he t hlook, hb]
        exact hk
      · exact h.elim
    · exact h.elim
def isLoudC (c : Nat) : Bool := decide (3 ≤ c)
def OpD (P : Program) (ops : Array Oper) (o : Oper) (ep : Env) (v : V) (s1 s2 : Sg) : Prop :=
  ∀ e' : Env, (∀ t ∈ o.looksAt ops, ev e' (.tmp t) = ev ep (.tmp t)) → OpI P ops o e' s1 fun v' s' => v' = v ∧ s' = s2
theorem opd_of {v : V} {s' : Sg} {sc' : List CallS} (h : ∀ (e' : Env) (K' : List CallS → V → Sg → Prop), (∀ t ∈ o.looksAt ops, ev e' (.tmp t) = ev e (.tmp t)) → K' sc' v s' → goc md P ops o sc e' s K') : OpD P ops o e v s s' := by
  intro e' he
  have := goc_opi (h e' (fun sc1 v1 s1 => v1 = v ∧ s1 = s') he ⟨rfl, rfl⟩)
  unfold OpI at this ⊢
  split
  · rename_i hg; rw [hg] at this; exact this.mono fun v1 s1 h => h.elim fun _ h => h
  · rename_i j want hg
    rw [hg] at this
    obtain ⟨oj, t, h1, h2, h⟩ := this
    refine ⟨oj, t, h1, h2, ?_⟩
    have hsk : ∀ {s2 : Sg} {A B : V → Sg → Prop}, (∀ v s, A v s → B v s) → SkipK s2 A → SkipK s2 B := fun hAB h => h.imp (hAB _ _) (hAB _ _)
    rcases h with ⟨b, h3, h4, h5⟩ | ⟨h3, h4⟩
    · exact .inl ⟨b, h3, fun hb => (h4 hb).mono fun v1 s1 h => h.elim fun _ h => h, fun hb => hsk (fun _ _ h => h.elim fun _ h => h) (h5 hb)⟩
    · exact .inr ⟨h3, hsk (fun _ _ h => h.elim fun _ h => h) h4⟩
def clsOk (c : Nat) (o : Op) : Bool := match c with
  | 0 => quietX o
  | 2 => freeX o
  | _ => true
def Fact (P : Program) (ops : Array Oper) (s0 : Sg) (S : Nat → Sg) (r : Nat) (o : Oper) (c : Nat) (ep : Env) (v : V) : Prop :=
  match c with
  | 0 => ∀ s', OpD P ops o ep v s' s'
  | 1 => OpD P ops o ep v (S r) (S r)
  | 2 => ∀ s', Ext0 s0 s' → OpD P ops o ep v s' s'
  | _ => OpD P ops o ep v (S r) (S (r + 1))
theorem chn_head {s0 : Sg} {K : List CallS → Env → Sg → Prop} : ∀ (l : List (Oper × Nat)) (sc : List CallS) (e : Env) (s : Sg), (∀ x ∈ l, clsOk x.2 x.1.op = true) → noStop sc = true → chn P ops s0 l sc K e s →
    ∃ (vs : List V) (S : Nat → Sg) (sc' : List CallS), vs.length = l.length ∧ S 0 = s ∧ noStop sc' = true ∧ K sc' (puts e (l.map (·.1)) vs) (S (l.countP fun x => isLoudC x.2)) ∧
      (∀ m, 0 < m → m ≤ kpOf (l.map (·.2)) → Keep s0 (S m)) ∧
      ∀ i o c v, l[i]? = some (o, c) → vs[i]? = some v → Fact P ops s0 S ((l.take i).countP fun x => isLoudC x.2) o c (puts e ((l.map (·.1)).take i) (vs.take i)) v
  | [], sc, e, s, _, hns, h => ⟨[], fun _ => s, sc, rfl, rfl, hns, h, fun m h1 h2 => by simp [kpOf] at h2; omega, fun i o c v ho => by simp at ho⟩
  | (o, c) :: l, sc, e, s, hcl, hns, h => by
    have hcl' : ∀ x ∈ l, clsOk x.2 x.1.op = true := fun x hx => hcl x (List.mem_cons_of_mem _ hx)
    have hc0 := hcl (o, c) (List.mem_cons_self ..)
    have still : isLoudC c = false → ∀ (v : V) (sc1 : List CallS), noStop sc1 = true → chn P ops s0 l sc1 K (putv e o.dst v) s → (∀ S : Nat → Sg, S 0 = s → Fact P ops s0 S 0 o c e v) →
        ∃ (vs : List V) (S : Nat → Sg) (sc' : List CallS), vs.length = ((o, c) :: l).length ∧ S 0 = s ∧ noStop sc' = true ∧ K sc' (puts e (((o, c) :: l).map (·.1)) vs) (S (((o, c) :: l).countP fun x => isLoudC x.2)) ∧
          (∀ m, 0 < m → m ≤ kpOf (((o, c) :: l).map (·.2)) → Keep s0 (S m)) ∧
          ∀ i o' c' v, ((o, c) :: l)[i]? = some (o', c') → vs[i]? = some v → Fact P ops s0 S ((((o, c) :: l).take i).countP fun x => isLoudC x.2) o' c' (puts e ((((o, c) :: l).map (·.1)).take i) (vs.take i)) v := by
      intro hl v sc1 hn1 hch hf
      obtain ⟨vs, S, sc', h1, h2, h3, h4, h5, h6⟩ := chn_head l sc1 _ _ hcl' hn1 hch
      refine ⟨v :: vs, S, sc', by simp [h1], h2, h3, ?_, ?_, fun i o' c' v' ho' hv' => ?_⟩
      · rw [List.countP_cons, hl]; simpa [puts] using h4
      · have hc3 : c < 3 := by simpa [isLoudC] using hl
        simpa [kpOf, hc3] using h5
      · cases i with
        | zero =>
          simp at ho' hv'
          obtain ⟨rfl, rfl⟩ := ho'; subst hv'
          exact hf S h2
        | succ i =>
          have := h6 i o' c' v' (by simpa using ho') (by simpa using hv')
          rw [List.take_succ_cons, List.countP_cons, hl]
          simpa [puts] using this
    have loud : isLoudC c = true → ∀ (v : V) (s1 : Sg) (sc1 : List CallS), noStop sc1 = true → (c < 5 → Keep s0 s1) → chn P ops s0 l sc1 K (putv e o.dst v) s1 → (∀ S : Nat → Sg, S 0 = s → S 1 = s1 → Fact P ops s0 S 0 o c e v) →
        ∃ (vs : List V) (S : Nat → Sg) (sc' : List CallS), vs.length = ((o, c) :: l).length ∧ S 0 = s ∧ noStop sc' = true ∧ K sc' (puts e (((o, c) :: l).map (·.1)) vs) (S (((o, c) :: l).countP fun x => isLoudC x.2)) ∧
          (∀ m, 0 < m → m ≤ kpOf (((o, c) :: l).map (·.2)) → Keep s0 (S m)) ∧
          ∀ i o' c' v, ((o, c) :: l)[i]? = some (o', c') → vs[i]? = some v → Fact P ops s0 S ((((o, c) :: l).take i).countP fun x => isLoudC x.2) o' c' (puts e ((((o, c) :: l).map (·.1)).take i) (vs.take i)) v := by
      intro hl v s1 sc1 hn1 hex hch hf
      obtain ⟨vs, S, sc', h1, h2, h3, h4, h5, h6⟩ := chn_head l sc1 _ _ hcl' hn1 hch
      refine ⟨v :: vs, fun m => match m with | 0 => s | m + 1 => S m, sc', by simp [h1], rfl, h3, ?_, ?_, fun i o' c' v' ho' hv' => ?_⟩
      · rw [List.countP_cons, hl]; simpa [puts] using h4
      · have hc3 : ¬ c < 3 := by simpa [isLoudC] using hl
        intro m h7 h8
        simp only [List.map_cons, kpOf, hc3, if_false] at h8
        split at h8
        · rename_i hc5
          cases m with
          | zero => omega
          | succ m =>
            cases m with
            | zero => simpa [h2] using hex hc5
            | succ m => exact h5 (m + 1) (by omega) (by omega)
        · omega
      · cases i with
        | zero =>
          simp at ho' hv'
          obtain ⟨rfl, rfl⟩ := ho'; subst hv'
          exact hf _ rfl h2
        | succ i =>
          have := h6 i o' c' v' (by simpa using ho') (by simpa using hv')
          rw [List.take_succ_cons, List.countP_cons, hl]
          simp only [if_true, List.map_cons, List.take_succ_cons, puts, List.zip_cons_cons, List.foldl_cons]
          unfold Fact at this ⊢
          exact this
    clear hcl
    match c, h, hc0, still, loud with
    | 0, h, hc0, still, loud =>
      have hq : quietX o.op = true := by simpa [clsOk] using hc0
      have hf : freeX o.op = true := by unfold freeX; split <;> first | rfl | exact hq
      obtain ⟨v, sc1, h1, h2, h3⟩ := goq_det hf h hns
      refine still rfl v sc1 h2 h1 fun S hS s2 e' he => ?_
      have h4 := goq_any false hq (h3 e' (fun sc' v' _ => sc' = sc1 ∧ v' = v) he ⟨rfl, rfl⟩) s2 (by simp)
      obtain ⟨v5, sc5, ⟨rfl, rfl⟩, h6, h7⟩ := goq_det hf h4 hns
      exact opd_of (fun e2 K2 he2 hk2 => goq_goc (h7 e2 K2 he2 hk2)) e' fun _ _ => rfl
    | 1, h, hc0, still, loud =>
      obtain ⟨v, s', sc1, ⟨rfl, h1⟩, h2, h3⟩ := goc_det h hns
      exact still rfl v sc1 h2 h1 fun S hS => by unfold Fact; rw [hS]; exact opd_of h3
    | 2, h, hc0, still, loud =>
      have hf : freeX o.op = true := by simpa [clsOk] using hc0
      obtain ⟨v, sc1, h1, h2, h3⟩ := goq_det hf h hns
      refine still rfl v sc1 h2 h1 fun S hS s2 hx e' he => ?_
      have h4 := goq_any true hf (h3 e' (fun sc' v' _ => sc' = sc1 ∧ v' = v) he ⟨rfl, rfl⟩) s2 (fun _ => hx)
      obtain ⟨v5, sc5, ⟨rfl, rfl⟩, h6, h7⟩ := goq_det hf h4 hns
      exact opd_of (fun e2 K2 he2 hk2 => goq_goc (h7 e2 K2 he2 hk2)) e' fun _ _ => rfl
    | 3, h, hc0, still, loud =>
      obtain ⟨v, s', sc1, ⟨h0, h1⟩, h2, h3⟩ := goc_det h hns
      exact loud rfl v s' sc1 h2 (fun _ => h0) h1 fun S hS hS1 => by show OpD P ops o e v (S 0) (S 1); rw [hS, hS1]; exact opd_of h3
    | 4, h, hc0, still, loud =>
      obtain ⟨v, s', sc1, ⟨h0, h1⟩, h2, h3⟩ := goc_det h hns
      exact loud rfl v s' sc1 h2 (fun _ => h0) h1 fun S hS hS1 => by show OpD P ops o e v (S 0) (S 1); rw [hS, hS1]; exact opd_of h3
    | 5, h, hc0, still, loud =>
      obtain ⟨v, s', sc1, h1, h2, h3⟩ := goc_det h hns
      exact loud rfl v s' sc1 h2 (fun hc => by omega) h1 fun S hS hS1 => by show OpD P ops o e v (S 0) (S 1); rw [hS, hS1]; exact opd_of h3
    | c + 6, h, hc0, still, loud =>
      obtain ⟨v, s', sc1, h1, h2, h3⟩ := goc_det h hns
      exact loud (by simp [isLoudC]) v s' sc1 h2 (fun hc => by omega) h1 fun S hS hS1 => by show OpD P ops o e v (S 0) (S 1); rw [hS, hS1]; exact opd_of h3
end
end Go.V

/- Lemmas on the way to the statement of this claim; no conditions. -/
import Derived.Test.YthoolojombciiaaDoorB22
namespace Go.V
open Go Go.RowKit
def isFn (P : Program) (g : Nat) : Prop := ∃ fn, P.funcs[g]? = some fn ∧ fn.body.isSome = true ∧ fn.name ≠ "runtime.NumGoroutine"
def wop (tr : Bool) (P : Program) (o : Oper) (e : Env) (s : Sg) (K : V → Sg → Prop) : Prop :=
  match o.op with
  | .call c => match c.callee with
    | .value x => match ev e x with
      | .t (.v (.func (.func g) ⟨[]⟩ ⟨[]⟩)) => isFn P g ∧ VCall P g (c.args.toList.map (ev e)) s K
      | .clo g caps => isFn P g ∧ VCall P g (c.args.toList.map (ev e) ++ caps) s K
      | _ => OpG P o e s K
    | _ => vopx tr P o e s K
  | _ => vopx tr P o e s K
def gow (tr : Bool) (P : Program) (ops : Array Oper) (o : Oper) (e : Env) (s : Sg) (K : V → Sg → Prop) : Prop :=
  match o.guard with
  | none => wop tr P o e s K
  | some (j, want) => match gtmp ops j with
    | some t => match ev e (.tmp t) with
      | .t (.v (.bool b)) => (b = want → wop tr P o e s K) ∧ (b ≠ want → K .junk s)
      | _ => False
    | none => False
def wops (tr : Bool) (P : Program) (ops : Array Oper) : List Oper → (Env → Sg → Prop) → Env → Sg → Prop
  | [], K, e, s => K e s
  | o :: l, K, e, s => gow tr P ops o e s (fun v s' => wops tr P ops l K (putv e o.dst v) s')
def condV (v : V) (A B : Prop) : Prop := match v with
  | .t (.v (.bool b)) => (b = true → A) ∧ (b = false → B)
  | _ => False
section
variable {tr : Bool} {P : Program} {ops : Array Oper} {o : Oper} {e : Env} {s : Sg} {Q : Exit → Env → Sg → Prop}
theorem PCall.v {g : Nat} {args : List V} {res : V} {K : V → Sg → Prop} (h : PCall P g args res) (hk : K res s) : VCall P g args s K := (h s).mono fun v s' h => by obtain ⟨rfl, rfl⟩ := h; exact hk
theorem wop_sound {K : V → Sg → Prop} (h : wop tr P o e s K) : OpG P o e s K := by
  unfold wop at h
  split at h
  · rename_i c ho
    split at h
    · rename_i x hc
      split at h
      · rename_i g hx
        obtain ⟨⟨fn, h1, h2, h3⟩, h⟩ := h
        exact opg_call ho hc (.inr ⟨hx, rfl⟩) h1 h2 h3 (by rw [List.append_nil]; exact h)
      · rename_i g caps hx
        obtain ⟨⟨fn, h1, h2, h3⟩, h⟩ := h
        exact opg_call ho hc (.inl hx) h1 h2 h3 h
      · exact h
    · exact vopx_sound h
  · exact vopx_sound h
theorem gow_opi {K : V → Sg → Prop} (h : gow tr P ops o e s K) : OpI P ops o e s K := by
  unfold gow at h
  unfold OpI
  split at h
  · rename_i hg; rw [hg]; exact wop_sound h
  · rename_i j want hg
    rw [hg]
    split at h
    · rename_i t ht
      split at h
      · rename_i b hb
        unfold gtmp at ht
        split at ht
        · rename_i oj hj
          exact ⟨oj, t, hj, ht, .inl ⟨b, hb, fun h1 => wop_sound (h.1 h1), fun h1 => .inl (h.2 h1)⟩⟩
        · cases ht
      · exact h.elim
    · exact h.elim
theorem vl_of_wops : ∀ (l : List Oper) (i : Nat) {e : Env} {s : Sg}, (∀ j o, l[j]? = some o → ops[i + j]? = some o) → wops tr P ops l (fun e s => Q .normal e s) e s → VL P ops Q (List.range' i l.length) e s
  | [], i, e, s, _, h => vl_nil h
  | o :: l, i, e, s, hl, h => by
    have ho : ops[i]? = some o := hl 0 o rfl
    intro r B M ρ a w QQ hs hk
    rw [List.length_cons, List.range'_succ, wpOpsIn_cons]
    refine opi_run ho (gow_opi h) hs fun a' w' v s' ρ' hK h1 h2 => ?_
    exact vl_of_wops l (i + 1) (fun j o' hj => by rw [Nat.add_assoc, Nat.add_comm 1 j]; exact hl (j + 1) o' (by simpa using hj)) hK r B M ρ' a' w' QQ h1 fun x e2 s2 ρ2 a2 w2 q2 hs2 hst2 => hk x e2 s2 ρ2 a2 w2 q2 hs2 (h2.trans hst2)
theorem vw_go {id : Nat} (tr : Bool) (h : wops tr P ops ops.toList (fun e s => Q .normal e s) e s) : VW P (.region id ops false) Q e s := by
  refine vw_region ?_
  have := vl_of_wops (P := P) (ops := ops) (Q := Q) (tr := tr) ops.toList 0 (fun j o hj => by simpa using hj) h
  rw [List.range_eq_range']
  simpa using this
theorem vck {x : Operand} {c d : Code} (h : ∀ A B : Prop, (VW P c Q e s → A) → (VW P d Q e s → B) → condV (ev e x) A B) : VW P (.cond x c d) Q e s := by
  have := h _ _ id id
  unfold condV at this
  split at this
  · rename_i b hb
    refine vw_cond b hb ?_
    cases b
    · simpa using this.2 rfl
    · simpa using this.1 rfl
  · exact this.elim
end
end Go.V

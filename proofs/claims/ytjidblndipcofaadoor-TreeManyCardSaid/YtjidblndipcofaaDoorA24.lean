/- Lemmas on the way to the statement of this claim; no conditions. -/
import Derived.Test.YtjidblndipcofaaDoorA23
namespace Go.V
open Go Go.RowKit
def isFn (P : Program) (g : Nat) : Prop := ∃ fn, P.funcs[g]? = some fn ∧ fn.body.isSome = true ∧ fn.name ≠ "runtime.NumGoroutine"
def wop (tr : Bool) (P : Program) (o : Oper) (e : Env) (s : Sg) (K : V → Sg → Prop) : Prop :=
  match o.op with
  | .call c => match c.callee with
    | .value x => match ev e x with
      | .t (.v (.func (.func g) ⟨[]⟩ ⟨[]⟩)) => isFn P g ∧ VCall P g (c.args.toList.map (ev e)) s K
      | .clo g caps => isFn P g ∧ VCall P g (c.args.toList.map (ev e) ++ caps) s K
      | _ => OpG P o e s K
    | _ => vopx tr P o e s K
  | _ => vopx tr P o e s K
def gow (tr : Bool) (P : Program) (ops : Array Oper) (o : Oper) (e : Env) (s : Sg) (K : V → Sg → Prop) : Prop :=
  match o.guard with
  | none => wop tr P o e s K
  | some (j, want) => match gtmp ops j with
    | some t => match ev e (.tmp t) with
      | .t (.v (.bool b)) => (b = want → wop tr P o e s K) ∧ (b ≠ want → K .junk s)
      | _ => False
    | none => False
def wops (tr : Bool) (P : Program) (ops : Array Oper) : List Oper → (Env → Sg → Prop) → Env → Sg → Prop
  | [], K, e, s => K e s
  | o :: l, K, e, s => gow tr P ops o e s (fun v s' => wops tr P ops l K (putv e o.dst v) s')
def condV (v : V) (A B : Prop) : Prop := match v with
  | .t (.v (.bool b)) => (b = true → A) ∧ (b = false → B)
  | _ => False
section
variable {tr : Bool} {P : Program} {ops : Array Oper} {o : Oper} {e : Env} {s : Sg} {Q : Exit → Env → Sg → Prop}
theorem PCall.v {g : Nat} {args : List V} {res : V} {K : V → Sg → Prop} (h : PCall P g args res) (hk : K res s) : VCall P g args s K := (h s).mono fun v s' h => by obtain ⟨rfl, rfl⟩ := h; exact hk
theorem vck {x : Operand} {c d : Code} (h : ∀ A B : Prop, (VW P c Q e s → A) → (VW P d Q e s → B) → condV (ev e x) A B) : VW P (.cond x c d) Q e s := by
  have := h _ _ id id
  unfold condV at this
  split at this
  · rename_i b hb
    refine vw_cond b hb ?_
    cases b
    · simpa using this.2 rfl
    · simpa using this.1 rfl
  · exact this.elim
end
end Go.V

/- Lemmas on the way to the statement of this claim; no conditions. -/
import Derived.Test.YtjidblndipcofaaDoorA21
namespace Go.V
open Go Go.RowKit
def gtmp (ops : Array Oper) (j : Nat) : Option Nat := match ops[j]? with | some o => o.dst | none => none
def gop (tr : Bool) (P : Program) (ops : Array Oper) (o : Oper) (e : Env) (s : Sg) (K : V → Sg → Prop) : Prop :=
  match o.guard with
  | none => vopx tr P o e s K
  | some (j, want) => match gtmp ops j with
    | some t => match ev e (.tmp t) with
      | .t (.v (.bool b)) => (b = want → vopx tr P o e s K) ∧ (b ≠ want → K .junk s)
      | _ => False
    | none => False
def vops (tr : Bool) (P : Program) (ops : Array Oper) : List Oper → (Env → Sg → Prop) → Env → Sg → Prop
  | [], K, e, s => K e s
  | o :: l, K, e, s => gop tr P ops o e s (fun v s' => vops tr P ops l K (putv e o.dst v) s')
section
variable {tr : Bool} {P : Program} {ops : Array Oper} {o : Oper} {e : Env} {s : Sg} {Q : Exit → Env → Sg → Prop}
def puts (e : Env) (l : List Oper) (vs : List V) : Env := (l.zip vs).foldl (fun e x => putv e x.1.dst x.2) e
theorem puts_length (l : List Oper) : ∀ (vs : List V) (e : Env), (puts e l vs).length = e.length := by
  induction l with
  | nil => intro vs e; rfl
  | cons o l ih =>
    intro vs e
    cases vs with
    | nil => rfl
    | cons v vs => simp only [puts, List.zip_cons_cons, List.foldl_cons]; exact (ih vs _).trans (lpv _ _ _)
theorem puts_ne {t : Nat} : ∀ (l : List Oper) (vs : List V) (e : Env), (∀ o ∈ l, o.dst ≠ some t) → ev (puts e l vs) (.tmp t) = ev e (.tmp t)
  | [], _, _, _ => rfl
  | o :: l, [], e, _ => rfl
  | o :: l, v :: vs, e, h => by
    simp only [puts, List.zip_cons_cons, List.foldl_cons]
    exact (puts_ne l vs _ fun o' ho' => h o' (List.mem_cons_of_mem _ ho')).trans (ev_putv_ne (h o (List.mem_cons_self ..)))
theorem puts_split (e : Env) (l : List Oper) (vs : List V) (i : Nat) : puts e l vs = puts (puts e (l.take i) (vs.take i)) (l.drop i) (vs.drop i) := by
  unfold puts
  rw [← List.foldl_append]
  congr 1
  induction l generalizing vs i with
  | nil => simp
  | cons o l ih =>
    cases vs with
    | nil => simp
    | cons v vs =>
      cases i with
      | zero => simp
      | succ i => simp only [List.take_succ_cons, List.drop_succ_cons, List.zip_cons_cons, List.cons_append]; rw [← ih]
theorem puts_take {o : Oper} {v : V} : ∀ (l : List Oper) (vs : List V) (i : Nat) (e : Env), l[i]? = some o → vs[i]? = some v → puts e (l.take (i + 1)) (vs.take (i + 1)) = putv (puts e (l.take i) (vs.take i)) o.dst v
  | [], _, i, e, h, _ => by simp at h
  | _ :: _, [], i, e, _, h => by simp at h
  | a :: l, b :: vs, 0, e, h1, h2 => by simp at h1 h2; subst h1; subst h2; simp [puts]
  | a :: l, b :: vs, i + 1, e, h1, h2 => by
    have := puts_take l vs i (putv e a.dst b) (by simpa using h1) (by simpa using h2)
    simpa [puts] using this
theorem anc_low {h : Nat} {eff : List Bool} {A : List (List Nat)} {iv : List (Nat × Nat)} (T : Tab ops h eff A iv) : ∀ i, i < ops.size → ∀ j, j ∈ anc A i → j < i := by
  intro i
  induction i using Nat.strongRecOn with
  | _ i ih =>
    intro hi j hj
    obtain ⟨x, hx, hx2⟩ := T.claims i hi j hj
    have hlt := T.low i hi x hx
    rcases hx2 with rfl | hx2
    · exact hlt
    · have := ih x hlt (by omega) j hx2; omega
end
end Go.V

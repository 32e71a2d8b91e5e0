/- Lemmas on the way to the statement of this claim; no conditions. -/
import Derived.Test.YtjidblndipcofaaDoorA31
namespace Go.V
open Go Go.RowKit
section
variable {F : Fence} {n : Nat} {P : Program} {Q : Exit → Act → World → Prop} {a : Act} {w : World} {b : Frame} {k : List Item} {cs : List Frame}
theorem stepR_scope {c : Code} : step P (lone (b.atR a (.code (.scope c) :: k)) cs w) = .next (lone (b.atR a (.code c :: .inScope c :: k)) cs w) :=
  step_lone_go (by simp [stepG, stepG.exec, Frame.atR])
theorem stepR_inScope {c : Code} : step P (lone (b.atR a (.inScope c :: k)) cs w) = .next (lone (b.atR a k) cs w) :=
  step_lone_go (by simp [stepG, stepG.exec, Frame.atR])
def noGotoA (Q : Exit → Act → World → Prop) : Exit → Act → World → Prop
  | .goto _, _, _ => False
  | e, a, w => Q e a w
theorem wpIn_scope {c : Code} (h : c.wpIn F n P (noGotoA Q) a w) : (Code.scope c).wpIn F n P Q a w := by
  intro b k cs hro hb hr
  have h0 : (lone (b.atR a (.code (.scope c) :: k)) cs w).fenced P F := fenced_calm hb hr rfl
  obtain ⟨e, a₁, w₁, hq, harr⟩ := h b (.inScope c :: k) cs hro hb hr
  cases e with
  | normal => exact ⟨.normal, a₁, w₁, hq, .of_steps (.one h0 stepR_scope) (StepsIn.trans harr (.one (fenced_calm hb hr rfl) stepR_inScope))⟩
  | exit id => exact ⟨.exit id, a₁, w₁, hq, .of_steps (.one h0 stepR_scope) ⟨fun k' hk => harr.1 k' (by simp [exitTo, hk]), fun hr2 hk => harr.2 hr2 (by simp [exitTo, hk])⟩⟩
  | goto l => exact hq.elim
  | ret => exact ⟨_, a₁, w₁, hq, .of_steps (.one h0 stepR_scope) harr⟩
  | panic ch => exact ⟨_, a₁, w₁, hq, .of_steps (.one h0 stepR_scope) harr⟩
  | outgrown => exact ⟨_, a₁, w₁, hq, .of_steps (.one h0 stepR_scope) harr⟩
end
def noGoto (Q : Exit → Env → Sg → Prop) : Exit → Env → Sg → Prop
  | .goto _, _, _ => False
  | x, e, s => Q x e s
theorem vw_scope {P : Program} {c : Code} {Q : Exit → Env → Sg → Prop} {e : Env} {s : Sg} (h : VW P c (noGoto Q) e s) : VW P (.scope c) Q e s := by
  intro r B M ρ a w QQ hs hk
  refine wpIn_scope (h r B M ρ a w _ hs fun x e' s' ρ' a' w' q hs' hst => ?_)
  cases x with
  | goto id => exact q.elim
  | normal => exact hk _ _ _ _ _ _ q hs' hst
  | exit id => exact hk _ _ _ _ _ _ q hs' hst
  | ret => exact hk _ _ _ _ _ _ q hs' hst
  | panic id => exact hk _ _ _ _ _ _ q hs' hst
  | outgrown => exact hk _ _ _ _ _ _ q hs' hst
end Go.V

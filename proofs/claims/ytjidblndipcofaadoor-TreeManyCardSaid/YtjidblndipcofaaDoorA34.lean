/- Lemmas on the way to the statement of this claim; no conditions. -/
import Derived.Test.YtjidblndipcofaaDoorA31
namespace Go.V
open Go Go.RowKit
theorem vw_en {P : Program} {c : Code} {Q : Exit → Env → Sg → Prop} {e : Env} {s : Sg} (h : ∀ e1, e1 = e → VW P c Q e1 s) : VW P c Q e s := h e rfl
theorem vw_st2 {P : Program} {c : Code} {Q : Exit → Env → Sg → Prop} {e : Env} {s : Sg} (h : ∀ s1, s1 = s → VW P c Q e s1) : VW P c Q e s := h s rfl
def ArgW (P : Program) (x x' : V) : Prop := ∀ (w : World) (s : Sg) (ρ : Rho) (y : Value), VR P w s ρ x y → VR P w s ρ x' y
theorem ArgW.refl {P : Program} (x : V) : ArgW P x x := fun _ _ _ _ h => h
theorem all2_argW {P : Program} {w : World} {s : Sg} {ρ : Rho} : ∀ {l l' : List V} {ys : List Value}, All2 (ArgW P) l l' → All2 (VR P w s ρ) l ys → All2 (VR P w s ρ) l' ys
  | [], [], [], _, _ => trivial
  | _ :: _, _ :: _, _ :: _, ⟨h1, h2⟩, ⟨h3, h4⟩ => ⟨h1 _ _ _ _ h3, all2_argW h2 h4⟩
  | [], _ :: _, _, h, _ => h.elim
  | _ :: _, [], _, h, _ => h.elim
  | [], [], _ :: _, _, h => h.elim
  | _ :: _, _ :: _, [], _, h => h.elim
theorem PCall.args {P : Program} {g : Nat} {args args' : List V} {v : V} (h : All2 (ArgW P) args args') (hp : PCall P g args' v) : PCall P g args v := by
  intro s
  exact fun B ρ w vs h1 h2 h3 => hp s B ρ w vs h1 h2 (all2_argW h h3)
end Go.V

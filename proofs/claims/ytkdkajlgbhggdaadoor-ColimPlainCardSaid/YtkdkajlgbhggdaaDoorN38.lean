/- Lemmas on the way to the statement of this claim; no conditions. -/
import Derived.Test.YtkdkajlgbhggdaaDoorN30
namespace Go.V
open Go Go.RowKit
theorem vw_en {P : Program} {c : Code} {Q : Exit → Env → Sg → Prop} {e : Env} {s : Sg} (h : ∀ e1, e1 = e → VW P c Q e1 s) : VW P c Q e s := h e rfl
theorem vw_st2 {P : Program} {c : Code} {Q : Exit → Env → Sg → Prop} {e : Env} {s : Sg} (h : ∀ s1, s1 = s → VW P c Q e s1) : VW P c Q e s := h s rfl
def ArgW (P : Program) (x x' : V) : Prop := ∀ (w : World) (s : Sg) (ρ : Rho) (y : Value), VR P w s ρ x y → VR P w s ρ x' y
theorem ArgW.refl {P : Program} (x : V) : ArgW P x x := fun _ _ _ _ h => h
theorem argW_nils {P : Program} {k l : Nat} (hk : 0 < k) (hl : 0 < l) : ArgW P (.agg [.t (.v (.slice none 0 0)), .t (.v (.slice none 0 0))]) (.agg [.t (.sl k []), .t (.sl l [])]) := fun w s ρ y h => by
  obtain ⟨m, rfl, hm⟩ := h
  match m, hm with
  | [a, b], ⟨h1, h2, _⟩ =>
    have h1' : RepT w (Fr s ρ) (.v nilV) a := h1
    have h2' : RepT w (Fr s ρ) (.v nilV) b := h2
    rw [RepT] at h1' h2'
    obtain ⟨rfl, _⟩ := h1'
    obtain ⟨rfl, _⟩ := h2'
    exact ⟨_, rfl, repT_nil hk, repT_nil hl, trivial⟩
theorem all2_argW {P : Program} {w : World} {s : Sg} {ρ : Rho} : ∀ {l l' : List V} {ys : List Value}, All2 (ArgW P) l l' → All2 (VR P w s ρ) l ys → All2 (VR P w s ρ) l' ys
  | [], [], [], _, _ => trivial
  | _ :: _, _ :: _, _ :: _, ⟨h1, h2⟩, ⟨h3, h4⟩ => ⟨h1 _ _ _ _ h3, all2_argW h2 h4⟩
  | [], _ :: _, _, h, _ => h.elim
  | _ :: _, [], _, h, _ => h.elim
  | [], [], _ :: _, _, h => h.elim
  | _ :: _, _ :: _, [], _, h => h.elim
theorem PCall.args {P : Program} {g : Nat} {args args' : List V} {v : V} (h : All2 (ArgW P) args args') (hp : PCall P g args' v) : PCall P g args v := by
  intro s
  exact fun B ρ w vs h1 h2 h3 => hp s B ρ w vs h1 h2 (all2_argW h h3)
end Go.V

/- Lemmas on the way to the statement of this claim; no conditions. -/
import Derived.Test.YtjidblndipcofaaDoorA29
namespace Go.V
open Go Go.RowKit
section
variable {P : Program} {e : Env} {s : Sg} {Q : Exit → Env → Sg → Prop}
theorem chg_name {B : Nat} {ρ : Rho} {w : World} (k : Nat) (el : TypeId) : Chg B s ρ w (s.add (.arr k el [])) w s.next ⟨none, k, 0⟩ (.arr k el []) where
  os := rfl
  tape := rfl
  output := rfl
  size := Nat.le_refl _
  same _ _ _ _ := rfl
  here m c hm := by
    simp only [Sg.add] at hm
    split at hm
    · rename_i h; cases hm; exact .inl ⟨h, rfl⟩
    · rename_i h
      refine .inr ⟨h, hm, ?_⟩
      cases hb : (ρ m).blk with
      | none => exact .inl rfl
      | some b => exact .inr (by simp)
  name := .inl ⟨Nat.le_refl _, rfl⟩
  loops l rec h := ⟨rec, h⟩
  owned bl h := by cases h
theorem all2_set_left {α β : Type} {R : α → β → Prop} : ∀ {l : List α} {m : List β} {t : Nat} {v : α}, All2 R l m → (∀ y, m[t]? = some y → R v y) → All2 R (l.set t v) m
  | [], [], _, _, _, _ => trivial
  | _ :: _, _ :: _, 0, v, ⟨_, h2⟩, hv => ⟨hv _ rfl, h2⟩
  | _ :: _, _ :: _, t + 1, v, ⟨h1, h2⟩, hv => ⟨h1, all2_set_left h2 fun y hy => hv y (by simpa using hy)⟩
  | [], _ :: _, _, _, h, _ => h.elim
  | _ :: _, [], _, _, h, _ => h.elim
theorem ev_get {w : World} {ρ : Rho} {t : Nat} {v : V} {l : List Value} (he : All2 (VR P w s ρ) e l) (hv : ev e (.tmp t) = v) {y : Value} (hy : l[t]? = some y) : VR P w s ρ v y := by
  have hlt : t < e.length := by rw [he.length]; exact (List.getElem?_eq_some_iff.1 hy).1
  obtain ⟨y', hy', hr⟩ := he.get t e[t] (List.getElem?_eq_getElem hlt)
  rw [hy] at hy'; cases hy'
  have : ev e (.tmp t) = e[t] := by simp [ev, List.getD_eq_getElem?_getD, hlt]
  rw [← hv, this]; exact hr
theorem VW.name {c : Code} (t k : Nat) (el : TypeId) (hk : 0 < k) (hv : ev e (.tmp t) = .t (.v (.slice none 0 0))) (h : VW P c Q (putv e (some t) (.loc s.next 0 0)) (s.add (.arr k el []))) : VW P c Q e s := by
  intro r B M ρ a w QQ hs hkk
  have hc := chg_name (B := B) (s := s) (ρ := ρ) (w := w) k el
  have hst := hc.stp
  refine h r B M _ a w QQ (hs.step (hc.sr hs.sr ⟨rfl, hk, .inl ⟨rfl, rfl⟩⟩) hst ?_ rfl) fun x e' s' ρ' a' w' q h1 h2 => hkk x e' s' ρ' a' w' q h1 (hst.trans h2)
  refine all2_set_left (hs.envStep hst) fun y hy => ?_
  have hr := ev_get hs.env hv hy
  have hy0 : y = .slice none 0 0 := repV (w := w) (A := Fr s ρ) hr
  subst hy0
  exact ⟨by simp [Sg.add], ⟨none, 0, rfl⟩, fun b hb => .inl ⟨by simp [Rho.up], rfl, rfl⟩⟩
end
end Go.V

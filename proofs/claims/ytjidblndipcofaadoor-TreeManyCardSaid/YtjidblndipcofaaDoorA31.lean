/- Lemmas on the way to the statement of this claim; no conditions. -/
import Derived.Test.YtjidblndipcofaaDoorA30
namespace Go.V
open Go Go.RowKit
section
variable {P : Program} {e e' : Env} {s s' s1 : Sg} {Q : Exit → Env → Sg → Prop}
theorem bwk_refl (s1 s2 : Sg) (b : Blk) : BWk s1 s2 b b := by cases b <;> simp [BWk]; exact all2_refl (fun _ => .inl rfl) _
theorem all2_set2 {α : Type} {R : α → α → Prop} (hr : ∀ a, R a a) : ∀ (l : List α) (t : Nat) (v : α), (∀ x, l[t]? = some x → R x v) → All2 R l (l.set t v)
  | [], _, _, _ => trivial
  | a :: l, 0, v, h => ⟨h a rfl, all2_refl hr l⟩
  | a :: l, t + 1, v, h => ⟨hr a, all2_set2 hr l t v fun x hx => h x (by simpa using hx)⟩
theorem ev_some {t : Nat} {x : V} (h : e[t]? = some x) : ev e (.tmp t) = x := by simp [ev, List.getD_eq_getElem?_getD, h]
theorem VW.freeze {c : Code} (t : Nat) {n len k : Nat} {el : TypeId} {cs : List T} (hv : ev e (.tmp t) = .loc n 0 len) (hn : s.m n = some (.arr k el cs)) (hl : cs.length = len * k)
    (h : VW P c Q (putv e (some t) (.t (.sl k cs))) (s.del n)) : VW P c Q e s := by
  refine VW.wk (e' := e.set t (.t (.sl k cs))) (s' := s.del n) ⟨rfl, fun m b hb => ?_, ?_⟩ h
  · simp only [Sg.del] at hb
    split at hb
    · cases hb
    · exact ⟨b, hb, bwk_refl _ _ _⟩
  · refine all2_set2 (fun a => .inr (.inl (.inl rfl))) _ _ _ fun x hx => ?_
    have := ev_some hx
    rw [hv] at this; subst this
    exact .inr (.inl (.inr (.inl ⟨n, 0, len, k, el, cs, rfl, hn, by simp [Sg.del], by omega, by rw [List.drop_zero, List.take_of_length_le (by omega)]⟩)))
theorem VW.nilBox {c : Code} (p j k : Nat) (hk : 0 < k) {ty : TypeId} {vs : List V} (hp : s.m p = some (.box ty vs)) (hj : vs[j]? = some (.t (.v (.slice none 0 0))))
    (h : VW P c Q e (s.set p (.box ty (vs.set j (.t (.sl k [])))))) : VW P c Q e s := by
  refine VW.wk (e' := e) (s' := s.set p (.box ty (vs.set j (.t (.sl k []))))) ⟨rfl, fun m b hb => ?_, all2_refl (fun a => .inr (.inl (.inl rfl))) _⟩ h
  simp only [Sg.set] at hb
  split at hb
  · rename_i hm; cases hb; subst hm
    refine ⟨_, hp, rfl, ?_⟩
    refine all2_set2 (fun a => .inl rfl) _ _ _ fun x hx => ?_
    rw [hj] at hx; cases hx
    exact .inr (.inr ⟨k, hk, rfl, rfl⟩)
  · exact ⟨b, hb, bwk_refl _ _ _⟩
theorem done_flat {rs : List ResultVar} {vs : List V} (hv : vres P s' e' rs = some vs) (hsol : vs.all solid = true) (hn : nm s.next (pack vs)) (hs : Keep s s') : Done P s rs (pack vs) e' s' :=
  ⟨vs, hv, hsol, pack vs, s', s, wk_one _ _, hn, ⟨rfl, fun n b h => .inr h, fun n b hl h => ⟨hs n b hl h, .inl h⟩⟩, rfl, rfl⟩
theorem vres_cell (a : Nat) (t : TypeId) (l : List ResultVar) : vres P s e (.cell a t :: l) = match dLoad P s t (ev e (.tmp a)), vres P s e l with
    | some x, some y => some (x :: y)
    | _, _ => none := rfl
theorem vres_nil : vres P s e [] = some [] := rfl
end
end Go.V

/- Lemmas on the way to the statement of this claim; no conditions. -/
import Derived.Test.YtjidblndipcofaaDoorA31
namespace Go.V
open Go Go.RowKit
section
variable {P : Program} {e : Env} {s : Sg} {Q : Exit → Env → Sg → Prop}
theorem VW.toBox {c : Code} (n : Nat) {ty : TypeId} {cs : List T} (hn : s.m n = some (.arr 1 ty cs)) (h : VW P c Q e (s.set n (.box ty (cs.map V.t)))) : VW P c Q e s := by
  refine VW.wk (e' := e) (s' := s.set n (.box ty (cs.map V.t))) ⟨rfl, fun m b hb => ?_, all2_refl (fun a => .inr (.inl (.inl rfl))) _⟩ h
  simp only [Sg.set] at hb
  split at hb
  · rename_i hm; cases hb; subst hm
    exact ⟨_, hn, rfl, rfl, rfl⟩
  · exact ⟨b, hb, bwk_refl _ _ _⟩
theorem vw_env2 {c : Code} (h : ∀ e1 s1, e1 = e → s1 = s → VW P c Q e1 s1) : VW P c Q e s := h e s rfl rfl
theorem vw_range {x : Operand} {ps : Array Tmp} {as_ bd : Code} {g : Nat} {caps : List V} (hx : ev e x = .clo g caps) {fn : Func} (hf : P.funcs[g]? = some fn) (hb : fn.body.isSome = true) (hn : fn.name ≠ "runtime.NumGoroutine")
    (H : ∀ s4 : Sg, s4 = s.add (.lp e ps as_ bd .ready none) → s4.next = s.next + 1 → (∀ m, m ≠ s.next → s4.m m = s.m m) → s4.m s.next = some (.lp e ps as_ bd .ready none) → VCall P g (.yl s.next :: caps) s4 (fun _ s' => ∃ c st, s'.m s.next = some (.lp e ps as_ bd st c) ∧ st ≠ .busy ∧
      (match c with | none => Q .normal e (s'.del s.next) | some c => VW P c Q e (s'.del s.next)))) : VW P (.rangeFunc x ps as_ bd) Q e s :=
  vw_rangeFunc hx hf hb hn (H _ rfl rfl (fun m hm => by simp [Sg.add, hm]) (by simp [Sg.add]))
theorem YCall.mono {n : Nat} {vals : List V} {K K' : V → Sg → Prop} (h : YCall P n vals s K) (hk : ∀ v s', K v s' → K' v s') : YCall P n vals s K' := by
  obtain ⟨er, ps, as_, bd, h1, h2, h3⟩ := h
  refine ⟨er, ps, as_, bd, h1, h2, h3.mono fun x e s hh => ⟨hh.1, hh.2.1, hh.2.2.mono fun x e s hq => ?_⟩⟩
  cases x with
  | normal => exact ⟨hq.1, hk _ _ hq.2⟩
  | ret => exact ⟨hq.1, hk _ _ hq.2⟩
  | exit id => exact ⟨hq.1, hk _ _ hq.2⟩
  | _ => exact hq
theorem ycall_of {n : Nat} {er : List V} {ps : Array Tmp} {as_ bd : Code} {vals : List V} {K : V → Sg → Prop} (hlp : s.m n = some (.lp er ps as_ bd .ready none)) (hl : vals.length = ps.size)
    (H : ∀ K1 : Env → Sg → Prop, (∀ e1 s1, s1.m n = some (.lp er ps as_ bd .ready none) → VW P bd (roundQ n er ps as_ bd K) e1 (s1.set n (.lp er ps as_ bd .busy none)) → K1 e1 s1) → VW P as_ (thenV K1 fun _ _ _ => False) (setps er ps.toList vals) s) : YCall P n vals s K := by
  refine ⟨er, ps, as_, bd, hlp, hl, ?_⟩
  refine (H (fun e1 s1 => s1.m n = some (.lp er ps as_ bd .ready none) ∧ VW P bd (roundQ n er ps as_ bd K) e1 (s1.set n (.lp er ps as_ bd .busy none))) fun e1 s1 h1 h2 => ⟨h1, h2⟩).mono fun x e s h => ?_
  cases x with
  | normal => exact ⟨rfl, h⟩
  | _ => exact h.elim
theorem setps_one (er : List V) (p : Nat) (v : V) : setps er [p] [v] = putv er (some p) v := rfl
theorem setps_two (er : List V) (p q : Nat) (v u : V) : setps er [p, q] [v, u] = putv (putv er (some p) v) (some q) u := rfl
theorem yes_no {A B : Prop} {v : V} (h : (v = Bo true ∧ A) ∨ (v = Bo false ∧ B)) : ∃ b, v = Bo b ∧ ((b = true ∧ A) ∨ (b = false ∧ B)) := by
  rcases h with ⟨rfl, h⟩ | ⟨rfl, h⟩
  · exact ⟨true, rfl, .inl ⟨rfl, h⟩⟩
  · exact ⟨false, rfl, .inr ⟨rfl, h⟩⟩
theorem set_set (s : Sg) (n : Nat) (b c : Blk) : (s.set n b).set n c = s.set n c := by
  simp only [Sg.set]; congr 1; funext j; by_cases h : j = n <;> simp [h]
theorem set_self {s : Sg} {n : Nat} {b : Blk} (h : s.m n = some b) : s.set n b = s := by
  cases s with
  | mk nx m =>
    unfold Sg.set
    congr 1
    funext j
    split
    · rename_i e; subst e; exact h.symm
    · rfl
end
end Go.V

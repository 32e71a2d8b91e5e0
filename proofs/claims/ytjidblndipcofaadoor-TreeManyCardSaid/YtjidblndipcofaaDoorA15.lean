/- Lemmas on the way to the statement of this claim; no conditions. -/
import Derived.Test.YtjidblndipcofaaDoorA14
namespace Go.V
open Go Go.RowKit
section
variable {P : Program} {e : Env} {s : Sg} {Q : Exit → Env → Sg → Prop}
theorem dLoad_sound {B : Nat} {ρ : Rho} {w : World} (hs : SR P B s ρ w) {t : TypeId} {x v : V} {y : Value} (hv : dLoad P s t x = some v) (hx : VR P w s ρ x y) : ∃ ad z, y = .pointer (some ad) ∧ (loadVar t ad).run P w = .ok z w ∧ VR P w s ρ v z := by
  unfold dLoad at hv
  split at hv
  · rename_i n off
    split at hv
    · rename_i ty cs hn
      obtain ⟨_, _, hy⟩ := hx
      obtain ⟨bl', hb', hy⟩ := hy _ hn
      rcases hs.rep n _ hn with hq | ⟨bl, arr, hb, hh, _, hc, _⟩
      · rw [hq.1] at hb'; cases hb'
      rw [hb] at hb'; cases hb'
      obtain ⟨y, h1, h2⟩ := part_sound hv hh hc
      rw [Nat.zero_add] at h1
      exact ⟨_, y, hy, h1, h2⟩
    · rename_i k ty cs hn
      obtain ⟨_, _, hy⟩ := hx
      obtain ⟨bl', hb', hy⟩ := hy _ hn
      obtain ⟨_, _, hr | ⟨bl, arr, hb, hh, _, _, hc⟩⟩ := hs.rep n _ hn
      · rw [hr.1] at hb'; cases hb'
      rw [hb] at hb'; cases hb'
      obtain ⟨y, h1, h2⟩ := part_sound hv hh (cells_t (P := P) ((repTs_iff _ _).1 hc))
      rw [Nat.zero_add] at h1
      exact ⟨_, y, hy, h1, h2⟩
    · cases hv
  · rename_i cs off
    obtain ⟨b, o', arr, ty, fr, hy, _, hh, hc⟩ := hx
    obtain ⟨y, h1, h2⟩ := part_sound hv hh (cells_t (P := P) ((repTs_iff _ _).1 hc))
    exact ⟨_, y, hy, h1, h2⟩
  · cases hv
def resRun (tmps : Array Value) : ResultVar → Sem Value
  | .tmp t => pure (tmps.getD t undef)
  | .cell a t => do loadVar t (← asAddr (tmps.getD a undef))
theorem results_eq (fn : Func) (tmps : Array Value) : results fn tmps = (do let vs ← fn.results.mapM (resRun tmps); pure (if h : vs.size = 1 then vs[0] else .tuple vs)) := by
  unfold results
  congr 1
theorem vres_sound {B : Nat} {ρ : Rho} {w : World} (hs : SR P B s ρ w) {tmps : Array Value} (he : All2 (VR P w s ρ) e tmps.toList) : ∀ {l : List ResultVar} {vs : List V}, vres P s e l = some vs →
    ∃ ys, (l.mapM (resRun tmps)).run P w = .ok ys w ∧ All2 (VR P w s ρ) vs ys
  | [], vs, h => by simp [vres] at h; subst h; exact ⟨[], by simp, trivial⟩
  | x :: l, vs, h => by
    simp only [vres] at h
    split at h
    · rename_i v vl h1 h2
      cases h
      obtain ⟨ys, h3, h4⟩ := vres_sound hs he h2
      have hone : ∃ y, (resRun tmps x).run P w = .ok y w ∧ VR P w s ρ v y := by
        cases x with
        | tmp t =>
          simp only [vres1, Option.some.injEq] at h1
          subst h1
          exact ⟨tmps.getD t undef, rfl, ev_sound (a := ⟨tmps, []⟩) he (.tmp t)⟩
        | cell a t =>
          simp only [vres1] at h1
          obtain ⟨ad, z, h5, h6, h7⟩ := dLoad_sound hs h1 (ev_sound (a := ⟨tmps, []⟩) he (.tmp a))
          refine ⟨z, ?_, h7⟩
          have h5 : tmps.getD a undef = .pointer (some ad) := h5
          simp [resRun, h5, asAddr, Sem.run_bind, Result.andThen, h6]
      obtain ⟨y, h5, h6⟩ := hone
      exact ⟨y :: ys, by simp only [List.mapM_cons, Sem.run_bind, h5, Result.andThen, h3, Sem.run_pure], h6, h4⟩
    · cases h
theorem leaves_marks {M : Nat} {ρ : Rho} {B : Nat} {fn : Func} {tmps : Array Value} {R : Ending → World → Prop} : ∀ (ds : List Deferred) (w : World), SR P B s ρ w → Marks s ρ M ds w →
    (∀ w', SR P B s ρ w' → Mv s ρ w s ρ w' → w'.os = w.os → w'.tape = w.tape → w'.output = w.output → w.heap.size = w'.heap.size → (∀ b, b < M → w'.heap[b]? = w.heap[b]?) → (∀ (l : Nat) (rec : Loop), w.heap[l]? = some (Obj.loop rec) → w'.heap[l]? = some (Obj.loop rec)) → ∃ v, (results fn tmps).run P w' = .ok v w' ∧ R (.returned v) w') →
    LeavesInM (Lv none) 10 P fn tmps R ds .returning w
  | [], w, hs, hm, hk => by
    have := hk w hs ⟨fun _ _ => rfl, Nat.le_refl _, fun _ b' _ h => ⟨b', h⟩, fun b arr ty fr hf hb => ⟨hf, hb⟩⟩ rfl rfl rfl rfl (fun _ _ => rfl) (fun _ _ h => h)
    exact this
  | d :: ds, w, hs, hm, hk => by
    obtain ⟨hp, hm⟩ := hm
    obtain ⟨hne, hp2⟩ := List.pairwise_cons.1 hp
    obtain ⟨D, rfl, hMD, hf, hh⟩ := hm d (List.mem_cons_self ..)
    refine ⟨by simp, .inl ⟨D, _, rfl, run_takeDeferred hh, ?_⟩⟩
    have hnb : ∀ n c bl, s.m n = some c → (ρ n).blk = some bl → (w.putObj D (.deferred none)).heap[bl]? = w.heap[bl]? := fun n c bl hn hb => World.putObj_heap_other (fun e => hf n c hn (by rw [hb, e]))
    obtain ⟨hs', hmv⟩ := hs.side (w' := w.putObj D (.deferred none)) (fun b arr ty fr hb => (World.putObj_heap_other (fun e => by rw [e, hh] at hb; cases hb)).trans hb) hnb
    refine leaves_marks ds _ hs' ⟨hp2, fun d' hd' => ?_⟩ fun w' h1 h2 h3 h4 h5 h6 h7 h8 => hk w' h1 ⟨fun _ _ => rfl, Nat.le_refl _, fun _ b' _ h => ⟨b', h⟩, fun b arr ty fr hf hb => h2.keep b arr ty fr hf (hmv.keep b arr ty fr hf hb).2⟩
      (h3.trans rfl) (h4.trans rfl) (h5.trans rfl) ((World.putObj_size (w := w)).symm.trans h6) (fun b hb => (h7 b hb).trans (World.putObj_heap_other (by omega))) (fun l rec hl => h8 l rec ((World.putObj_heap_other (fun e => by rw [e, hh] at hl; cases hl)).trans hl))
    obtain ⟨D', rfl, h1, h2, h3⟩ := hm d' (List.mem_cons_of_mem _ hd')
    refine ⟨D', rfl, h1, h2, (World.putObj_heap_other (fun e => ?_)).trans h3⟩
    subst e
    exact hne _ hd' rfl
def solid : V → Bool
  | .tup _ | .junk | .nob => false
  | _ => true
theorem solid_vr2 {w : World} {ρ : Rho} {x : V} {y : Value} (h : solid x = true) (hv : VR P w s ρ x y) : VR2 P w s ρ x y := by
  cases x with
  | tup _ => cases h
  | junk => cases h
  | nob => cases h
  | _ => exact hv
theorem pack_sound {w : World} {ρ : Rho} {vs : List V} {ys : List Value} (hsol : vs.all solid = true) (h : All2 (VR P w s ρ) vs ys) : VR P w s ρ (pack vs) (if h : ys.toArray.size = 1 then ys.toArray[0] else .tuple ys.toArray) := by
  match vs, ys, h with
  | [], [], _ => exact ⟨[], rfl, trivial⟩
  | [v], [y], ⟨h1, _⟩ => exact h1
  | a :: b :: l, x :: y :: m, h =>
    refine ⟨x :: y :: m, rfl, ?_⟩
    have : ∀ {vs : List V} {ys : List Value}, vs.all solid = true → All2 (VR P w s ρ) vs ys → All2 (VR2 P w s ρ) vs ys := by
      intro vs
      induction vs with
      | nil => intro ys _ h; cases ys with
        | nil => trivial
        | cons _ _ => exact h.elim
      | cons v l ih => intro ys hs h; cases ys with
        | nil => exact h.elim
        | cons y m =>
          simp only [List.all_cons, Bool.and_eq_true] at hs
          exact ⟨solid_vr2 hs.1 h.1, ih hs.2 h.2⟩
    exact this hsol h
theorem vcall_of_body {g : Nat} {fn : Func} {c : Code} {args : List V} {K : V → Sg → Prop} (hf : P.funcs[g]? = some fn) (hb : fn.body = some c)
    (H : VW P c (fun x e' s' => (x = .normal ∨ x = .ret) ∧ ∃ vs, vres P s' e' fn.results.toList = some vs ∧ vs.all solid = true ∧ K (pack vs) s') (args ++ List.replicate (fn.ntmps - args.length) .junk) s) : VCall P g args s K := by
  intro B ρ w vs hs hB hvs
  refine callsIn_any (callsIn_of_wp_marks (n := 10) hf hb trivial ?_)
  have hst : St P B w.heap.size none s ρ (args ++ List.replicate (fn.ntmps - args.length) .junk) { tmps := (⟨vs⟩ : Array Value) ++ Array.replicate (fn.ntmps - (⟨vs⟩ : Array Value).size) undef, defers := [] } w :=
    by
      refine ⟨hs, hB, Nat.le_refl _, ?_, fun l h => (by cases h), ⟨List.Pairwise.nil, fun d hd => absurd hd (by simp)⟩⟩
      simp only [Array.toList_append, Array.toList_replicate]
      refine hvs.append ?_
      have hl := hvs.length
      have hsz : (⟨vs⟩ : Array Value).size = vs.length := rfl
      rw [hsz, ← hl]
      generalize fn.ntmps - args.length = n
      clear H
      induction n with
      | zero => trivial
      | succ n ih => exact ⟨trivial, ih⟩
  refine H none B w.heap.size ρ _ w _ hst fun x e' s' ρ' a' w' q hs' hstp => ?_
  obtain ⟨hx, vl, hv, hsol, hK⟩ := q
  have fin : LeavesInM (Lv none) 10 P fn a'.tmps (fun x w' => ∃ y v s' ρ', x = .returned y ∧ K v s' ∧ SR P B s' ρ' w' ∧ VR P w' s' ρ' v y ∧ Stp s ρ w s' ρ' w') a'.defers .returning w' := by
    refine leaves_marks (M := w.heap.size) a'.defers w' hs'.sr hs'.mrk fun w'' h1 h2 h3 h4 h5 h6 h7 h8 => ?_
    obtain ⟨ys, h9, h10⟩ := vres_sound h1 (hs'.env.mono fun _ _ h => h.mstep h2) hv
    refine ⟨_, ?_, _, pack vl, s', ρ', rfl, hK, h1, pack_sound hsol h10, ?_⟩
    · rw [results_eq, Array.mapM_eq_mapM_toList]
      simp only [Sem.run_bind, Sem.run_map, h9, Result.andThen, Sem.run_pure]
    · exact { os := h3.trans hstp.os, tape := h4.trans hstp.tape, output := h5.trans hstp.output, size := h6 ▸ hstp.size
              same := fun b hb hf => (h7 b hb).trans (hstp.same b hb hf), info := hstp.info, next := hstp.next, dom := hstp.dom, free := hstp.free
              loops := fun l rec hl => let ⟨rec', h⟩ := hstp.loops l rec hl; ⟨rec', h8 l rec' h⟩ }
  rcases hx with rfl | rfl
  · exact fin
  · exact fin
end
end Go.V

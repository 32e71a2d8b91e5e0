/- Lemmas on the way to the statement of this claim; no conditions. -/
import Derived.RangeFuncNested
import Derived.Test.YtjidblndipcofaaDoorA15
namespace Go.V
open Go Go.RowKit
section
variable {P : Program} {e : Env} {s : Sg} {Q : Exit → Env → Sg → Prop}
theorem lp_put {B : Nat} {ρ : Rho} {w : World} (hs : SR P B s ρ w) {n : Nat} {er : List V} {ps : Array Tmp} {asg bd : Code} {st : LoopState} {c : Option Code} (hn : s.m n = some (.lp er ps asg bd st c)) {l : Nat} (hl : (ρ n).blk = some l)
    {rec : Loop} (hh : w.heap[l]? = some (Obj.loop rec)) (st' : LoopState) (c' : Option Code) :
    SR P B (s.set n (.lp er ps asg bd st' c')) ρ (w.putObj l (.loop { rec with state := st', pending := c' })) ∧ Stp s ρ w (s.set n (.lp er ps asg bd st' c')) ρ (w.putObj l (.loop { rec with state := st', pending := c' })) := by
  obtain ⟨l', fn, dfs, tmps, h1, h2, h3⟩ := hs.rep n _ hn
  rw [hl] at h1; cases h1
  rw [hh] at h2
  simp only [Option.some.injEq, Obj.loop.injEq] at h2
  subst h2
  have hc := chg_put hs hn hl (.lp er ps asg bd st' c') (w' := w.putObj l (.loop { ({ state := st, pending := c, fn := fn, tmps := tmps, params := ps, assign := asg, body := bd, defers := dfs } : Loop) with state := st', pending := c' }))
    rfl rfl rfl (by simp) (fun x hx => World.putObj_heap_other hx) (fun rec _ => ⟨_, World.putObj_heap_same (heap_lt hh)⟩)
  have h4 := hc.sr hs ⟨l, fn, dfs, tmps, hl, World.putObj_heap_same (heap_lt hh), h3.mono fun _ _ h => h.step hc.stp⟩
  have h5 := hc.stp
  rw [up_self] at h4 h5
  exact ⟨h4, h5⟩
def setps (e : Env) (ps : List Tmp) (vs : List V) : Env := (ps.zip vs).foldl (fun e x => e.set x.1 x.2) e
theorem setps_sound {w : World} {ρ : Rho} : ∀ (ps : List Tmp) {vs : List V} {ys : List Value} {e : Env} {t : Array Value}, All2 (VR P w s ρ) e t.toList → All2 (VR P w s ρ) vs ys →
    All2 (VR P w s ρ) (setps e ps vs) ((ps.zip ys).foldl (fun t x => t.setIfInBounds x.1 x.2) t).toList
  | [], vs, ys, e, t, he, _ => by simpa [setps] using he
  | p :: ps, [], [], e, t, he, _ => by simpa [setps] using he
  | p :: ps, v :: vs, y :: ys, e, t, he, ⟨h1, h2⟩ => by
    simp only [setps, List.zip_cons_cons, List.foldl_cons]
    refine setps_sound ps ?_ h2
    simp only [Array.toList_setIfInBounds]
    exact he.set h1 p
  | p :: ps, [], _ :: _, _, _, _, h => h.elim
  | p :: ps, _ :: _, [], _, _, _, h => h.elim
def roundQ (n : Nat) (er : List V) (ps : Array Tmp) (asg bd : Code) (K : V → Sg → Prop) : Exit → Env → Sg → Prop
  | .normal, _, s2 => s2.m n = some (.lp er ps asg bd .busy none) ∧ K (.t (.v (.bool true))) (s2.set n (.lp er ps asg bd .ready none))
  | .ret, _, s2 => s2.m n = some (.lp er ps asg bd .busy none) ∧ K (.t (.v (.bool false))) (s2.set n (.lp er ps asg bd .done (some .ret)))
  | .exit id, _, s2 => s2.m n = some (.lp er ps asg bd .busy none) ∧ K (.t (.v (.bool false))) (s2.set n (.lp er ps asg bd .done (some (.exit id))))
  | _, _, _ => False
theorem opg_yield {o : Oper} {K : V → Sg → Prop} {c : Call} (ho : o.op = .call c) {x : Operand} (hc : c.callee = .value x) {n : Nat} (hx : ev e x = .yl n) {er : List V} {ps : Array Tmp} {asg bd : Code}
    (hn : s.m n = some (.lp er ps asg bd .ready none)) (hsz : c.args.size = ps.size)
    (H : VW P asg (fun x e1 s1 => x = .normal ∧ s1.m n = some (.lp er ps asg bd .ready none) ∧ VW P bd (roundQ n er ps asg bd K) e1 (s1.set n (.lp er ps asg bd .busy none))) (setps er ps.toList (c.args.toList.map (ev e))) s) : OpG P o e s K := by
  intro r B M ρ a w next QQ hs hk
  refine ⟨fun _ _ => trivial, ?_⟩
  have hsem : o.semAt r a.eval = execOp a.eval o := Oper.semAt_eq _ _ _ fun c hc => by simp [ho] at hc
  show o.uponIn (Lv r) 10 P a next QQ ((o.semAt r a.eval).run P w)
  rw [hsem]
  obtain ⟨l, fn, dfs, tmps, hl, hh, her⟩ := hs.sr.rep n _ hn
  have hev : a.eval x = .func (.yield l) #[] #[] := by
    have := ev_sound hs.env x
    rw [hx] at this
    obtain ⟨_, _, h3⟩ := this
    obtain ⟨l', h4, h5⟩ := h3 _ hn
    rw [hl] at h4; cases h4; exact h5
  have hy := run_yield (P := P) (args := c.args.map a.eval) hh (by simpa using hsz)
  have hrun : (execOp a.eval o).run P w = .ok (.round l fn ((ps.zip (c.args.map a.eval)).foldl (fun t (p, v) => t.setIfInBounds p v) tmps) asg bd) w := by
    have e1 : #[] ++ c.args.map a.eval = c.args.map a.eval := by apply Array.toList_inj.1; simp
    simp only [execOp, ho, resolve, hc, hev, Deferred.ofValue, Sem.run_bind, Sem.run_pure, Result.andThen, invoke, e1, hy]
  rw [hrun]
  refine ⟨fun h => by simp [Lv, Fence.wide] at h, ?_⟩
  refine roundIn_of_wpIn (F := Lv r) trivial ?_
  show asg.wpIn (Lv (some l)) (10 - 1) P _ _ w
  refine wpIn_any (n := 10) ?_
  have hst : St P B w.heap.size (some l) s ρ (setps er ps.toList (c.args.toList.map (ev e))) { tmps := ((ps.zip (c.args.map a.eval)).foldl (fun t (p, v) => t.setIfInBounds p v) tmps), defers := [] } w := by
    refine ⟨hs.sr, hs.lo, Nat.le_refl _, ?_, fun l' h => ?_, ⟨List.Pairwise.nil, fun d hd => absurd hd (by simp)⟩⟩
    · have := setps_sound (P := P) ps.toList her (all2_args hs.env c.args.toList)
      simp only [← Array.foldl_toList, Array.toList_zip, Array.toList_map]
      exact this
    · cases h; exact ⟨_, hh⟩
  refine H (some l) B w.heap.size ρ _ w _ hst fun x e1 s1 ρ1 a1 w1 q hs1 hst1 => ?_
  obtain ⟨rfl, hn1, hbody⟩ := q
  have hnlt := hs.sr.lt n _ hn
  have hl1 : (ρ1 n).blk = some l := by rw [hst1.info n hnlt]; exact hl
  obtain ⟨l1, fn1, dfs1, tmps1, hl1', hh1, her1⟩ := hs1.sr.rep n _ hn1
  rw [hl1] at hl1'; cases hl1'
  refine ⟨_, run_beginRound hh1 rfl, ?_⟩
  obtain ⟨hsr2, hst2⟩ := lp_put hs1.sr hn1 hl1 hh1 .busy none
  refine wpIn_any (n := 10) ?_
  refine hbody (some l) B w.heap.size ρ1 a1 _ _ (hs1.step hsr2 hst2 (hs1.envStep hst2) rfl) fun x e2 s2 ρ2 a2 w2 q hs2 hst3 => ?_
  have fin : ∀ (st' : LoopState) (jump : Option Code) (v : Bool), s2.m n = some (.lp er ps asg bd .busy none) → K (.t (.v (.bool v))) (s2.set n (.lp er ps asg bd st' jump)) → v = jump.isNone → (st' = if jump.isNone then .ready else .done) →
      ∃ v w', (Instr.endRound l jump).run P w2 = .ok v w' ∧ next (a.put o.dst v) w' := by
    intro st' jump v hn2 hK hv hst'
    have hl2 : (ρ2 n).blk = some l := by
      rw [hst3.info n (Nat.lt_of_lt_of_le hnlt (Nat.le_trans hst1.next hst2.next)), hl1]
    obtain ⟨l2, fn2, dfs2, tmps2, hl2', hh2, her2⟩ := hs2.sr.rep n _ hn2
    rw [hl2] at hl2'; cases hl2'
    have hend := run_endRound (P := P) jump hh2
    obtain ⟨hsr4, hst4⟩ := lp_put hs2.sr hn2 hl2 hh2 st' jump
    refine ⟨_, _, hend, ?_⟩
    rw [hst'] at hsr4 hst4 hK
    rw [hv] at hK
    exact hk _ _ _ _ ρ2 hK hsr4 (vr_flat rfl) (((hst1.trans hst2).trans hst3).trans hst4)
  cases x with
  | normal => obtain ⟨h1, h2⟩ := q; exact fin _ none true h1 h2 rfl rfl
  | ret => obtain ⟨h1, h2⟩ := q; exact fin _ (some .ret) false h1 h2 rfl rfl
  | exit id => obtain ⟨h1, h2⟩ := q; exact fin _ (some (.exit id)) false h1 h2 rfl rfl
  | goto t => exact q.elim
  | panic c => exact q.elim
  | outgrown => exact q.elim
theorem callFunc_enter {g : Nat} {fn : Func} (hf : P.funcs[g]? = some fn) (hb : fn.body.isSome = true) (hn : fn.name ≠ "runtime.NumGoroutine") (args : Array Value) (w : World) : (callFunc g args).run P w = .ok (.enter g args) w := by
  have hb' : fn.body ≠ none := fun h => by rw [h] at hb; cases hb
  simp [callFunc, Sem.run, program, hf, hn, hb']
theorem resolve_range {a : Act} {x : Operand} {g : Nat} {cv : List Value} (hev : a.eval x = .func (.func g) #[] ⟨cv⟩) (l : Nat) (w : World) :
    (resolve a.eval (rangeCall x l) 0).run P w = .ok { target := .fn (.func g) ⟨cv⟩, args := #[.func (.yield l) #[] #[]] } w := by
  simp only [resolve, hev]
  simp [go_sem]
theorem stp_alloc {ρ : Rho} {w : World} (o : Obj) : Stp s ρ w s ρ (w.alloc o) where
  os := rfl
  tape := rfl
  output := rfl
  size := by simp
  same b hb _ := alloc_other w o b hb
  info _ _ := rfl
  next := Nat.le_refl _
  dom _ b' _ h := ⟨b', h⟩
  free _ _ h := h
  loops l rec hl := ⟨rec, (alloc_other w o l (heap_lt hl)).trans hl⟩
theorem vw_rangeFunc {x : Operand} {ps : Array Tmp} {asg bd : Code} {g : Nat} {caps : List V} (hx : ev e x = .clo g caps) {fn : Func} (hf : P.funcs[g]? = some fn) (hb : fn.body.isSome = true) (hn : fn.name ≠ "runtime.NumGoroutine")
    (H : VCall P g (.yl s.next :: caps) (s.add (.lp e ps asg bd .ready none)) (fun _ s' => ∃ c st, s'.m s.next = some (.lp e ps asg bd st c) ∧ st ≠ .busy ∧
      (match c with | none => Q .normal e (s'.del s.next) | some c => VW P c Q e (s'.del s.next)))) : VW P (.rangeFunc x ps asg bd) Q e s := by
  intro r B M ρ a w QQ hs hk
  refine wpIn_rangeFunc ?_
  intro fnid hfn
  have hev : ∃ cv : List Value, a.eval x = .func (.func g) #[] ⟨cv⟩ ∧ All2 (VR P w s ρ) caps cv := by
    have := ev_sound hs.env x
    rw [hx] at this
    obtain ⟨l, h1, h2⟩ := this
    exact ⟨l, h1, h2.mono fun _ _ h => h.vr1.vr⟩
  obtain ⟨cv, hev, hcv⟩ := hev
  -- what is laid: a world w0 (the caller's, or with the block for deferred calls), then the record
  suffices hmain : ∀ (w0 : World) (mark : List Deferred) (D : Nat), St P B M r s ρ e { a with defers := mark ++ a.defers } w0 → Stp s ρ w s ρ w0 →
      ∃ l w1, l = w0.heap.size ∧ w1 = w0.alloc (.loop { state := .ready, pending := none, fn := fnid, tmps := a.tmps, params := ps, assign := asg, body := bd, defers := D }) ∧
      CallsIn (Lv r) (10 - 1) P g (#[.func (.yield l) #[] #[]] ++ ⟨cv⟩) w1 (rangePost (Lv r) 10 P l QQ { a with defers := mark ++ a.defers }) by
    have eg := callFunc_enter hf hb hn
    have tail : ∀ (l : Nat) (mark : List Deferred) (w1 : World), (Instr.enterLoop fnid a.tmps ps asg bd r).run P w = .ok (l, mark) w1 →
        CallsIn (Lv r) (10 - 1) P g (#[.func (.yield l) #[] #[]] ++ ⟨cv⟩) w1 (rangePost (Lv r) 10 P l QQ { a with defers := mark ++ a.defers }) →
        ∃ (l : Nat) (mark : List Deferred) (w₁ : World) (d : Deferred) (w₁' : World) (f : FuncId) (args : Array Value) (w₂ : World),
          (Instr.enterLoop fnid a.tmps ps asg bd (Lv r).round).run P w = .ok (l, mark) w₁ ∧ (resolve a.eval (rangeCall x l) 0).run P w₁ = .ok d w₁' ∧ (∀ f', Target.leads P w₁' d.target d.args = some f' → (Lv r).fn f') ∧
          (invoke d.target d.args).run P w₁' = .ok (.enter f args) w₂ ∧ ((Lv r).depth.isSome = true → 1 ≤ 10) ∧ CallsIn (Lv r) (10 - 1) P f args w₂ (rangePost (Lv r) 10 P l QQ { a with defers := mark ++ a.defers }) := by
      intro l mark w1 he hc
      refine ⟨l, mark, w1, { target := .fn (.func g) ⟨cv⟩, args := #[.func (.yield l) #[] #[]] }, w1, g, #[.func (.yield l) #[] #[]] ++ ⟨cv⟩, w1, ?_, ?_, ?_, ?_, ?_, ?_⟩
      · exact he
      · exact resolve_range hev l w1
      · exact fun _ _ => trivial
      · exact eg _ _
      · exact fun _ => Nat.le_of_ble_eq_true rfl
      · exact hc
    cases r with
    | none =>
      have hst0 := stp_alloc (s := s) (ρ := ρ) (w := w) (.deferred (some []))
      obtain ⟨hsr0, _⟩ := hs.sr.side (w' := w.alloc (.deferred (some []))) (fun b arr ty fr h => (alloc_other w _ b (heap_lt h)).trans h) (fun n c bl h1 h2 => alloc_other w _ bl (hs.sr.blk_lt h1 h2))
      have hD : Fr s ρ w.heap.size := fun n c hn e0 => absurd (hs.sr.blk_lt hn e0) (Nat.lt_irrefl _)
      have hst := hs.step hsr0 hst0 (hs.envStep hst0) rfl
      obtain ⟨l, w1, rfl, rfl, hc⟩ := hmain (w.alloc (.deferred (some []))) [{ target := .collected w.heap.size, args := #[] }] w.heap.size
        ⟨hst.sr, hst.lo, hst.ml, hst.env, hst.rnd, by
          refine ⟨?_, fun d hd => ?_⟩
          · refine List.pairwise_cons.2 ⟨fun d hd => ?_, hs.mrk.1⟩
            obtain ⟨D', rfl, _, _, h4⟩ := hs.mrk.2 d hd
            intro e0
            simp only [Deferred.mk.injEq, Target.collected.injEq, and_true] at e0
            have := heap_lt h4
            omega
          · rcases List.mem_cons.1 hd with rfl | hd
            · exact ⟨_, rfl, hs.ml, hD, World.alloc_heap_new _ _⟩
            · exact hst.mrk.2 d hd⟩ hst0
      exact tail _ _ _ (run_enterLoop_outer _ _ _ _ _) (by simpa using hc)
    | some l0 =>
      obtain ⟨rec, hrec⟩ := hs.rnd l0 rfl
      obtain ⟨l, w1, rfl, rfl, hc⟩ := hmain w [] rec.defers hs (Stp.refl _ _ _)
      exact tail _ _ _ (run_enterLoop_inner hrec _ _ _ _ _) hc
  intro w0 mark D hs0 hst0
  refine ⟨_, _, rfl, rfl, ?_⟩
  have hchg := chg_new hs0.sr hs0.lo (.loop { state := .ready, pending := none, fn := fnid, tmps := a.tmps, params := ps, assign := asg, body := bd, defers := D }) ⟨some w0.heap.size, 0, 0⟩ rfl (.lp e ps asg bd .ready none)
  have hsr1 := hchg.sr hs0.sr ⟨w0.heap.size, fnid, D, a.tmps, rfl, World.alloc_heap_new _ _, hs0.env.mono fun _ _ h => h.step hchg.stp⟩
  have hst1 := hchg.stp
  have hyl : VR P (w0.alloc (.loop { state := .ready, pending := none, fn := fnid, tmps := a.tmps, params := ps, assign := asg, body := bd, defers := D })) (s.add (.lp e ps asg bd .ready none)) (ρ.up s.next ⟨some w0.heap.size, 0, 0⟩) (.yl s.next) (.func (.yield w0.heap.size) #[] #[]) :=
    ⟨by simp [Sg.add], ⟨_, rfl⟩, fun b hb => ⟨w0.heap.size, by simp [Rho.up], rfl⟩⟩
  have hcall := H B _ _ (.func (.yield w0.heap.size) #[] #[] :: cv) hsr1 (Nat.le_trans hs0.lo hst1.size) ⟨hyl, hcv.mono fun _ _ h => (h.step hst0).step hst1⟩
  have eargs : (#[.func (.yield w0.heap.size) #[] #[]] ++ ⟨cv⟩ : Array Value) = ⟨.func (.yield w0.heap.size) #[] #[] :: cv⟩ := by apply Array.toList_inj.1; simp
  rw [eargs]
  refine CallsIn.mono (callsIn_any hcall) ?_
  rintro ending w2 ⟨y, v, s2, ρ2, rfl, ⟨c, st, hn2, hbusy, hpost⟩, hsr2, hv2, hst2⟩
  have hlt : s.next < (s.add (.lp e ps asg bd .ready none)).next := by simp [Sg.add]
  have hl2 : (ρ2 s.next).blk = some w0.heap.size := by rw [hst2.info _ hlt]; simp [Rho.up]
  obtain ⟨l2, fn2, dfs2, tmps2, hl2', hh2, her2⟩ := hsr2.rep _ _ hn2
  rw [hl2] at hl2'; cases hl2'
  refine ⟨c, _, run_endLoop hh2 hbusy, ?_⟩
  have hw := wk_del s2 s.next
  have hsr3 := hw.sr hsr2
  have hst3 := hw.stp ρ2 w2
  have hfr : Fr (s2.del s.next) ρ2 w0.heap.size := by
    intro n b hnb e0
    simp only [Sg.del] at hnb
    split at hnb
    · cases hnb
    · rename_i hne
      exact hne (hsr2.inj n s.next _ _ w0.heap.size hnb hn2 e0 hl2)
  obtain ⟨hsr4, hmv4⟩ := hsr3.side (w' := w2.putObj w0.heap.size (.loop { ({ state := st, pending := c, fn := fn2, tmps := tmps2, params := ps, assign := asg, body := bd, defers := dfs2 } : Loop) with state := .exhausted }))
    (fun b arr ty fr h => (World.putObj_heap_other (fun e0 => by rw [e0, hh2] at h; cases h)).trans h)
    (fun n b bl h1 h2 => World.putObj_heap_other (fun e0 => hfr n b h1 (by rw [h2, e0])))
  have htot : Stp s ρ w (s2.del s.next) ρ2 (w2.putObj w0.heap.size (.loop { ({ state := st, pending := c, fn := fn2, tmps := tmps2, params := ps, assign := asg, body := bd, defers := dfs2 } : Loop) with state := .exhausted })) := by
    have t := ((hst0.trans hst1).trans hst2).trans hst3
    exact { os := t.os, tape := t.tape, output := t.output, size := by rw [World.putObj_size]; exact t.size
            same := fun b hb hf => (World.putObj_heap_other (by have := hst0.size; omega)).trans (t.same b hb hf)
            info := t.info, next := t.next, dom := t.dom, free := t.free
            loops := fun l rec hl => by
              obtain ⟨rec', h⟩ := t.loops l rec hl
              by_cases e0 : l = w0.heap.size
              · subst e0; exact ⟨_, World.putObj_heap_same (heap_lt h)⟩
              · exact ⟨rec', (World.putObj_heap_other e0).trans h⟩ }
  have hs4 : St P B M r (s2.del s.next) ρ2 e { a with defers := mark ++ a.defers } (w2.putObj w0.heap.size (.loop { ({ state := st, pending := c, fn := fn2, tmps := tmps2, params := ps, assign := asg, body := bd, defers := dfs2 } : Loop) with state := .exhausted })) := by
    refine ⟨hsr4, Nat.le_trans hs.lo htot.size, Nat.le_trans hs.ml htot.size, hs.env.mono fun _ _ h => h.step htot, fun l hl => ?_, ?_⟩
    · obtain ⟨rec, h⟩ := hs.rnd l hl
      exact htot.loops l rec h
    · refine ⟨hs0.mrk.1, fun d hd => ?_⟩
      obtain ⟨D', h1, h2, h3, h4⟩ := hs0.mrk.2 d hd
      have t := (hst1.trans hst2).trans hst3
      refine ⟨D', h1, h2, t.free D' (heap_lt h4) h3, (World.putObj_heap_other (fun e0 => ?_)).trans ((t.same D' (heap_lt h4) h3).trans h4)⟩
      have := heap_lt h4
      omega
  cases c with
  | none => exact hk _ _ _ _ _ _ hpost hs4 htot
  | some c => exact hpost r B M ρ2 _ _ QQ hs4 fun x e' s' ρ' a' w' q h1 h2 => hk x e' s' ρ' a' w' q h1 (htot.trans h2)
end
end Go.V

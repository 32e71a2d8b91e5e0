/- Lemmas on the way to the statement of this claim; no conditions. -/
import Derived.Test.YtjidblndipcofaaDoorA17
namespace Go.V
open Go Go.RowKit
def nm0 (N : Nat) : V → Prop
  | .loc n _ _ | .ptr n _ | .yl n | .mp n => n < N
  | _ => True
def nm1 (N : Nat) : V → Prop
  | .clo _ caps => ∀ c ∈ caps, nm0 N c
  | x => nm0 N x
def nm2 (N : Nat) : V → Prop
  | .agg cs => ∀ c ∈ cs, nm1 N c
  | x => nm1 N x
def nm (N : Nat) : V → Prop
  | .tup vs => ∀ v ∈ vs, nm2 N v
  | x => nm2 N x
section
variable {P : Program} {w : World} {s s1 s2 : Sg} {ρ : Rho}
theorem all2_left {α β : Type} {R : α → β → Prop} {p : α → Prop} (h : ∀ a b, R a b → p a) : ∀ {l : List α} {m : List β}, All2 R l m → ∀ a ∈ l, p a
  | [], [], _, a, ha => by cases ha
  | x :: l, y :: m, ⟨h1, h2⟩, a, ha => by
    rcases List.mem_cons.1 ha with rfl | ha
    · exact h _ _ h1
    · exact all2_left h h2 a ha
  | [], _ :: _, hh, _, _ => hh.elim
  | _ :: _, [], hh, _, _ => hh.elim
theorem All2.weak {α β : Type} {R R' : α → β → Prop} : ∀ {l : List α} {m : List β}, All2 R l m → (∀ a ∈ l, ∀ b, R a b → R' a b) → All2 R' l m
  | [], [], _, _ => trivial
  | x :: l, y :: m, ⟨h1, h2⟩, h => ⟨h x (List.mem_cons_self ..) y h1, All2.weak h2 fun a ha => h a (List.mem_cons_of_mem _ ha)⟩
  | [], _ :: _, hh, _ => hh.elim
  | _ :: _, [], hh, _ => hh.elim
theorem VR0.names {x : V} {y : Value} (h : VR0 w s ρ x y) : nm0 s.next x := by
  cases x with
  | loc n o l => exact h.1
  | ptr n o => exact h.1
  | yl n => exact h.1
  | mp n => exact h.1
  | _ => trivial
theorem VR1.names {x : V} {y : Value} (h : VR1 P w s ρ x y) : nm1 s.next x := by
  cases x with
  | clo g caps => obtain ⟨l, _, hl⟩ := h; exact all2_left (fun _ _ h => VR0.names h) hl
  | t x => exact VR0.names (w := w) (x := .t x) h
  | loc n o l => exact VR0.names (w := w) (x := .loc n o l) h
  | ptr n o => exact VR0.names (w := w) (x := .ptr n o) h
  | yl n => exact VR0.names (w := w) (x := .yl n) h
  | mp n => exact VR0.names (w := w) (x := .mp n) h
  | iad n o => exact VR0.names (w := w) (x := .iad n o) h
  | _ => exact h.elim
theorem VR2.names {x : V} {y : Value} (h : VR2 P w s ρ x y) : nm2 s.next x := by
  cases x with
  | agg caps => obtain ⟨l, _, hl⟩ := h; exact all2_left (fun _ _ h => VR1.names h) hl
  | clo g caps => exact VR1.names (P := P) (w := w) (x := .clo g caps) h
  | t x => exact VR1.names (P := P) (w := w) (x := .t x) h
  | loc n o l => exact VR1.names (P := P) (w := w) (x := .loc n o l) h
  | ptr n o => exact VR1.names (P := P) (w := w) (x := .ptr n o) h
  | yl n => exact VR1.names (P := P) (w := w) (x := .yl n) h
  | mp n => exact VR1.names (P := P) (w := w) (x := .mp n) h
  | iad n o => exact VR1.names (P := P) (w := w) (x := .iad n o) h
  | _ => exact h.elim
theorem VR.names {x : V} {y : Value} (h : VR P w s ρ x y) : nm s.next x := by
  cases x with
  | tup caps => obtain ⟨l, _, hl⟩ := h; exact all2_left (fun _ _ h => VR2.names h) hl
  | junk => trivial
  | nob => first | trivial | exact h
  | agg caps => exact VR2.names (P := P) (w := w) (x := .agg caps) h
  | clo g caps => exact VR2.names (P := P) (w := w) (x := .clo g caps) h
  | t x => exact VR2.names (P := P) (w := w) (x := .t x) h
  | loc n o l => exact VR2.names (P := P) (w := w) (x := .loc n o l) h
  | ptr n o => exact VR2.names (P := P) (w := w) (x := .ptr n o) h
  | yl n => exact VR2.names (P := P) (w := w) (x := .yl n) h
  | mp n => exact VR2.names (P := P) (w := w) (x := .mp n) h
  | iad n o => exact VR2.names (P := P) (w := w) (x := .iad n o) h
theorem Fr.shr (hm : ∀ n b, s1.m n = some b → s2.m n = some b) {b : Nat} (h : Fr s2 ρ b) : Fr s1 ρ b := fun n k hn => h n k (hm n k hn)
theorem VR0.shr (hm : ∀ n b, s1.m n = some b → s2.m n = some b) {x : V} {y : Value} (h : VR0 w s2 ρ x y) (hn : nm0 s1.next x) : VR0 w s1 ρ x y := by
  have kp : ∀ b arr ty fr, Fr s2 ρ b → w.heap[b]? = some (Obj.cells arr ty fr) → Fr s1 ρ b ∧ w.heap[b]? = some (Obj.cells arr ty fr) := fun b _ _ _ hf hb => ⟨hf.shr hm, hb⟩
  cases x with
  | t x => exact RepT.mono kp h
  | loc n o l => exact ⟨hn, h.2.1, fun b hb => h.2.2 b (hm n b hb)⟩
  | ptr n o => exact ⟨hn, h.2.1, fun b hb => h.2.2 b (hm n b hb)⟩
  | yl n => exact ⟨hn, h.2.1, fun b hb => h.2.2 b (hm n b hb)⟩
  | mp n => exact ⟨hn, h.2.1, fun b hb => h.2.2 b (hm n b hb)⟩
  | iad cs off =>
    obtain ⟨b, o, arr, ty, fr, hy, hf, hb, hs⟩ := h
    exact ⟨b, o, arr, ty, fr, hy, hf.shr hm, hb, RepTs.mono kp hs⟩
  | _ => exact h.elim
theorem VR1.shr (hm : ∀ n b, s1.m n = some b → s2.m n = some b) {x : V} {y : Value} (h : VR1 P w s2 ρ x y) (hn : nm1 s1.next x) : VR1 P w s1 ρ x y := by
  cases x with
  | clo g caps => obtain ⟨l, hy, hl⟩ := h; exact ⟨l, hy, hl.weak fun a ha _ hr => hr.shr hm (hn a ha)⟩
  | t x => exact VR0.shr (w := w) (x := .t x) hm h hn
  | loc n o l => exact VR0.shr (w := w) (x := .loc n o l) hm h hn
  | ptr n o => exact VR0.shr (w := w) (x := .ptr n o) hm h hn
  | yl n => exact VR0.shr (w := w) (x := .yl n) hm h hn
  | mp n => exact VR0.shr (w := w) (x := .mp n) hm h hn
  | iad n o => exact VR0.shr (w := w) (x := .iad n o) hm h hn
  | _ => exact h.elim
theorem VR2.shr (hm : ∀ n b, s1.m n = some b → s2.m n = some b) {x : V} {y : Value} (h : VR2 P w s2 ρ x y) (hn : nm2 s1.next x) : VR2 P w s1 ρ x y := by
  cases x with
  | agg caps => obtain ⟨l, hy, hl⟩ := h; exact ⟨l, hy, hl.weak fun a ha _ hr => hr.shr hm (hn a ha)⟩
  | clo g caps => exact VR1.shr (P := P) (w := w) (x := .clo g caps) hm h hn
  | t x => exact VR1.shr (P := P) (w := w) (x := .t x) hm h hn
  | loc n o l => exact VR1.shr (P := P) (w := w) (x := .loc n o l) hm h hn
  | ptr n o => exact VR1.shr (P := P) (w := w) (x := .ptr n o) hm h hn
  | yl n => exact VR1.shr (P := P) (w := w) (x := .yl n) hm h hn
  | mp n => exact VR1.shr (P := P) (w := w) (x := .mp n) hm h hn
  | iad n o => exact VR1.shr (P := P) (w := w) (x := .iad n o) hm h hn
  | _ => exact h.elim
theorem VR.shr (hm : ∀ n b, s1.m n = some b → s2.m n = some b) {x : V} {y : Value} (h : VR P w s2 ρ x y) (hn : nm s1.next x) : VR P w s1 ρ x y := by
  cases x with
  | tup caps => obtain ⟨l, hy, hl⟩ := h; exact ⟨l, hy, hl.weak fun a ha _ hr => hr.shr hm (hn a ha)⟩
  | junk => trivial
  | nob => first | trivial | exact h
  | agg caps => exact VR2.shr (P := P) (w := w) (x := .agg caps) hm h hn
  | clo g caps => exact VR2.shr (P := P) (w := w) (x := .clo g caps) hm h hn
  | t x => exact VR2.shr (P := P) (w := w) (x := .t x) hm h hn
  | loc n o l => exact VR2.shr (P := P) (w := w) (x := .loc n o l) hm h hn
  | ptr n o => exact VR2.shr (P := P) (w := w) (x := .ptr n o) hm h hn
  | yl n => exact VR2.shr (P := P) (w := w) (x := .yl n) hm h hn
  | mp n => exact VR2.shr (P := P) (w := w) (x := .mp n) hm h hn
  | iad n o => exact VR2.shr (P := P) (w := w) (x := .iad n o) hm h hn
def bnm (N : Nat) : Blk → Prop
  | .arr .. => True
  | .box _ cs => ∀ c ∈ cs, nm1 N c
  | .lp e .. => ∀ c ∈ e, nm N c
  | .mp es => ∀ p ∈ es, nm2 N p.2
theorem BR.names {B : Nat} (hs : SR P B s ρ w) {n : Nat} {b : Blk} (hn : s.m n = some b) : bnm s.next b := by
  have := hs.rep n b hn
  cases b with
  | arr k ty cs => trivial
  | box ty cs =>
    rcases this with h | ⟨bl, arr, h1, h2, h3, h4, _⟩
    · intro c hc; rw [h.2.1] at hc; cases hc
    · intro c hc
      obtain ⟨i, hi⟩ := List.mem_iff_getElem?.1 hc
      obtain ⟨x, _, hx⟩ := h4 i c hi
      exact hx.names
  | mp es =>
    obtain ⟨l, arr, clk, _, _, h, _⟩ := this
    exact all2_left (fun _ _ h => VR2.names h.2) h
  | lp e ps asg bd st c =>
    obtain ⟨l, fn, dfs, tmps, _, _, h⟩ := this
    exact all2_left (fun _ _ h => VR.names h) h
theorem BR.shr (hm : ∀ n b, s1.m n = some b → s2.m n = some b) {i : Info} {b : Blk} (h : BR P w s2 ρ i b) (hn : bnm s1.next b) : BR P w s1 ρ i b := by
  have kp : ∀ b arr ty fr, Fr s2 ρ b → w.heap[b]? = some (Obj.cells arr ty fr) → Fr s1 ρ b ∧ w.heap[b]? = some (Obj.cells arr ty fr) := fun b _ _ _ hf hb => ⟨hf.shr hm, hb⟩
  cases b with
  | arr k ty cs =>
    obtain ⟨h1, h2, h3⟩ := h
    refine ⟨h1, h2, ?_⟩
    rcases h3 with h3 | ⟨bl, arr, h3, h4, h5, h6, h7⟩
    · exact .inl h3
    · exact .inr ⟨bl, arr, h3, h4, h5, h6, RepTs.mono kp h7⟩
  | box ty cs =>
    rcases h with h | ⟨bl, arr, h1, h2, h3, h4, h5⟩
    · exact .inl h
    · refine .inr ⟨bl, arr, h1, h2, h3, fun i c hc => ?_, h5⟩
      obtain ⟨x, hx, hr⟩ := h4 i c hc
      exact ⟨x, hx, hr.shr hm (hn c (List.mem_of_getElem? hc))⟩
  | mp es =>
    obtain ⟨l, arr, clk, h1, h2, h3, h4⟩ := h
    exact ⟨l, arr, clk, h1, h2, h3.weak fun a ha _ hr => ⟨hr.1, hr.2.shr hm (hn a ha)⟩, h4⟩
  | lp e ps asg bd st c =>
    obtain ⟨l, fn, dfs, tmps, h1, h2, h3⟩ := h
    exact ⟨l, fn, dfs, tmps, h1, h2, h3.weak fun a ha _ hr => hr.shr hm (hn a ha)⟩
structure Rest (s s1 s2 : Sg) : Prop where
  next : s1.next = s.next
  lt : ∀ n b, s1.m n = some b → n < s.next ∨ s.m n = some b
  m : ∀ n b, n < s.next → s1.m n = some b → s2.m n = some b ∧ (s.m n = some b ∨ bnm s.next b)
theorem Rest.all {B : Nat} (hs : SR P B s ρ w) (hr : Rest s s1 s2) : ∀ n b, s1.m n = some b → n < s.next ∧ s2.m n = some b ∧ (s.m n = some b ∨ bnm s.next b) := fun n b h => by
  have hlt : n < s.next := by
    rcases hr.lt n b h with h' | h'
    · exact h'
    · exact hs.lt n b h'
  exact ⟨hlt, hr.m n b hlt h⟩
theorem settle {B : Nat} {ρ2 : Rho} {w2 : World} (hs : SR P B s ρ w) (hst : Stp s ρ w s2 ρ2 w2) (hs2 : SR P B s2 ρ2 w2) (hr : Rest s s1 s2) : SR P B s1 ρ2 w2 ∧ Stp s ρ w s1 ρ2 w2 := by
  have hm : ∀ n b, s1.m n = some b → s2.m n = some b := fun n b h => (hr.all hs n b h).2.1
  have hlt : ∀ n b, s1.m n = some b → n < s.next := fun n b h => (hr.all hs n b h).1
  refine ⟨⟨fun n b h => by rw [hr.next]; exact hlt n b h, fun n b bl h => hs2.lo n b bl (hm n b h), fun n n' b b' bl h h' => hs2.inj n n' b b' bl (hm n b h) (hm n' b' h'), fun n b h => ?_, hs2.tab⟩, ?_⟩
  · refine (hs2.rep n b (hm n b h)).shr hm ?_
    rw [hr.next]
    rcases (hr.all hs n b h).2.2 with h' | h'
    · exact BR.names hs h'
    · exact h'
  · exact { os := hst.os, tape := hst.tape, output := hst.output, size := hst.size, same := hst.same, info := hst.info, next := by rw [hr.next]; exact Nat.le_refl _
            dom := fun n b' hn hb => hst.dom n b' hn (hm n b' hb), free := fun b hb hf => (hst.free b hb hf).shr hm, loops := hst.loops }
theorem Wk.one {P : Program} {B : Nat} {w : World} {ρ : Rho} {v v' : V} {s s' : Sg} (h : Wk [v] s [v'] s') (hs : SR P B s ρ w) {y : Value} (hv : VR P w s ρ v y) : VR P w s' ρ v' y :=
  (h.vr hs (ys := [y]) ⟨hv, trivial⟩).1
def Settled (s : Sg) (K : V → Sg → Prop) (v : V) (s2 : Sg) : Prop := ∃ v' s2' s1, Wk [v] s2 [v'] s2' ∧ nm s.next v' ∧ Rest s s1 s2' ∧ K v' s1
theorem OpG.settle {o : Oper} {e : Env} {K : V → Sg → Prop} (h : OpG P o e s (Settled s K)) : OpG P o e s K := by
  intro r B M ρ a w next Q hs hk
  refine h r B M ρ a w next Q hs fun y w' v s2 ρ' hK hsr hv hst => ?_
  obtain ⟨v', s2', s1, hw, hn, hr, hK⟩ := hK
  obtain ⟨h1, h2⟩ := V.settle hs.sr (hst.trans (hw.stp ρ' w')) (hw.sr hsr) hr
  exact hk y w' v' s1 ρ' hK h1 ((hw.one hsr hv).shr (fun n b h => (hr.all hs.sr n b h).2.1) (by rw [hr.next]; exact hn)) h2
theorem VCall.settle {g : Nat} {args : List V} {K : V → Sg → Prop} (h : VCall P g args s (Settled s K)) : VCall P g args s K := by
  intro B ρ w vs hs hB hvs
  refine CallsIn.mono (h B ρ w vs hs hB hvs) ?_
  rintro x w' ⟨y, v, s2, ρ', rfl, hK, hsr, hv, hst⟩
  obtain ⟨v', s2', s1, hw, hn, hr, hK⟩ := hK
  obtain ⟨h1, h2⟩ := V.settle hs (hst.trans (hw.stp ρ' w')) (hw.sr hsr) hr
  exact ⟨y, v', s1, ρ', rfl, hK, h1, (hw.one hsr hv).shr (fun n b h => (hr.all hs n b h).2.1) (by rw [hr.next]; exact hn), h2⟩
theorem VCall.mono {g : Nat} {args : List V} {K K' : V → Sg → Prop} (h : VCall P g args s K) (hk : ∀ v s', K v s' → K' v s') : VCall P g args s K' := by
  intro B ρ w vs hs hB hvs
  refine CallsIn.mono (h B ρ w vs hs hB hvs) ?_
  rintro x w' ⟨y, v, s2, ρ', rfl, hK, h1, h2, h3⟩
  exact ⟨y, v, s2, ρ', rfl, hk _ _ hK, h1, h2, h3⟩
theorem VCall.wk {g : Nat} {args args' : List V} {s' : Sg} {K : V → Sg → Prop} (hw : Wk args s args' s') (h : VCall P g args' s' K) : VCall P g args s K := by
  intro B ρ w vs hs hB hvs
  refine CallsIn.mono (h B ρ w vs (hw.sr hs) hB (hw.vr hs hvs)) ?_
  rintro x w' ⟨y, v, s2, ρ', rfl, hK, h1, h2, h3⟩
  exact ⟨y, v, s2, ρ', rfl, hK, h1, h2, (hw.stp ρ w).trans h3⟩
theorem OpG.mono {o : Oper} {e : Env} {K K' : V → Sg → Prop} (h : OpG P o e s K) (hk : ∀ v s', K v s' → K' v s') : OpG P o e s K' :=
  fun r B M ρ a w next Q hs hc => h r B M ρ a w next Q hs fun y w' v s2 ρ' hK => hc y w' v s2 ρ' (hk _ _ hK)
theorem OpG.wk {o : Oper} {e e' : Env} {s' : Sg} {K : V → Sg → Prop} (hw : Wk e s e' s') (h : OpG P o e' s' K) : OpG P o e s K := by
  intro r B M ρ a w next Q hs hk
  have k := hw.stp ρ w
  exact h r B M ρ a w next Q (hs.step (hw.sr hs.sr) k (hw.vr hs.sr hs.env) rfl) fun y w' v s2 ρ' hK h1 h2 h3 => hk y w' v s2 ρ' hK h1 h2 (k.trans h3)
def PCall (P : Program) (g : Nat) (args : List V) (res : V) : Prop := ∀ s, VCall P g args s fun v s' => v = res ∧ s' = s
end
end Go.V

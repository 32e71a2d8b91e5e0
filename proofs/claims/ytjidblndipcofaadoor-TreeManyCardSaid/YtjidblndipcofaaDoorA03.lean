/- Lemmas on the way to the statement of this claim; no conditions. -/
import Derived.Test.YtjidblndipcofaaDoorA02
namespace Go.V
open Go
theorem Cells.sub {α : Type} {R : α → Value → Prop} {cs : List α} {arr : Array Value} {o : Nat} (h : Cells R cs arr o) (off m : Nat) : Cells R ((cs.drop off).take m) arr (o + off) := by
  intro i c hc
  have hi : i < m := by
    rcases Nat.lt_or_ge i m with h | h
    · exact h
    · rw [List.getElem?_take, if_neg (by omega)] at hc; cases hc
  rw [List.getElem?_take, if_pos hi, List.getElem?_drop] at hc
  obtain ⟨x, hx, hr⟩ := h (off + i) c hc
  exact ⟨x, by rw [← hx]; congr 1; omega, hr⟩
def nilV : Value := .slice none 0 0
def VWk (s s' : Sg) (x x' : V) : Prop :=
  x' = x ∨ (∃ n off len k ty cs, x = .loc n off len ∧ s.m n = some (.arr k ty cs) ∧ s'.m n = none ∧ off + len * k ≤ cs.length ∧ x' = .t (.sl k ((cs.drop off).take (len * k)))) ∨
    (∃ k, 0 < k ∧ x = .t (.v nilV) ∧ x' = .t (.sl k []))
def BWk (s s' : Sg) : Blk → Blk → Prop
  | .arr k ty cs, .arr k' ty' cs' => k' = k ∧ ty' = ty ∧ cs' = cs
  | .box ty cs, .box ty' cs' => ty' = ty ∧ All2 (VWk s s') cs cs'
  | .arr k ty cs, .box ty' cs' => k = 1 ∧ ty' = ty ∧ cs' = cs.map V.t
  | .box ty cs, .arr k ty' cs' => k = 1 ∧ ty' = ty ∧ All2 (VWk s s') cs (cs'.map V.t)
  | .lp e ps asg bd st c, x => x = .lp e ps asg bd st c
  | .mp es, x => x = .mp es
  | _, _ => False
def EWk (s s' : Sg) (x x' : V) : Prop :=
  x' = .junk ∨ VWk s s' x x' ∨ (∃ cs cs', x = .agg cs ∧ x' = .agg cs' ∧ All2 (VWk s s') cs cs') ∨
    (∃ cs cs', x = .tup cs ∧ x' = .tup cs' ∧ All2 (fun a b => VWk s s' a b ∨ ∃ ds ds', a = .agg ds ∧ b = .agg ds' ∧ All2 (VWk s s') ds ds') cs cs')
structure Wk (e : Env) (s : Sg) (e' : Env) (s' : Sg) : Prop where
  next : s'.next = s.next
  dom : ∀ n b', s'.m n = some b' → ∃ b, s.m n = some b ∧ BWk s s' b b'
  env : All2 (EWk s s') e e'
theorem Wk.stp {e e' : Env} {s s' : Sg} (h : Wk e s e' s') (ρ : Rho) (w : World) : Stp s ρ w s' ρ w where
  os := rfl
  tape := rfl
  output := rfl
  size := Nat.le_refl _
  same _ _ _ := rfl
  info _ _ := rfl
  next := by rw [h.next]; exact Nat.le_refl _
  dom n b' _ hb := let ⟨b, hb1, _⟩ := h.dom n b' hb; ⟨b, hb1⟩
  free _ _ hf := fun n k hk => let ⟨b, hb1, _⟩ := h.dom n k hk; hf n b hb1
  loops _ rec h := ⟨rec, h⟩
theorem repT_nil {w : World} {A : Nat → Prop} {k : Nat} (hk : 0 < k) : RepT w A (.sl k []) nilV := by
  rw [RepT]; exact ⟨none, 0, 0, rfl, hk, by simp, Nat.le_refl _, fun _ => rfl, .inl rfl⟩
theorem frozen_read {P : Program} {B : Nat} {s s' : Sg} {ρ : Rho} {w : World} (hs : SR P B s ρ w) (hd : ∀ n b', s'.m n = some b' → ∃ b, s.m n = some b) {n off len k : Nat} {ty : TypeId} {cs : List T} {y : Value}
    (hn : s.m n = some (.arr k ty cs)) (hn' : s'.m n = none) (hle : off + len * k ≤ cs.length) (hy : VR0 w s ρ (.loc n off len) y) : RepT w (Fr s' ρ) (.sl k ((cs.drop off).take (len * k))) y := by
  obtain ⟨_, _, hy⟩ := hy
  obtain ⟨hk, hk0, hrep⟩ := hs.rep n _ hn
  have hfr : ∀ b, Fr s ρ b → Fr s' ρ b := fun b hf m c hm => let ⟨c', hc'⟩ := hd m c hm; hf m c' hc'
  rcases hrep with ⟨hb, hcs⟩ | ⟨bl, arr, hb, hh, h1, h2, h3⟩
  · subst hcs
    obtain rfl : len = 0 := by
      have h0 : len * k = 0 := by simp at hle; omega
      rcases Nat.mul_eq_zero.1 h0 with h | h
      · exact h
      · omega
    rcases hy _ hn with ⟨_, rfl, _⟩ | ⟨_, _, a, rfl⟩ | ⟨bl, cap, hb', _⟩
    · simpa [nilV] using repT_nil (w := w) (A := Fr s' ρ) hk0
    · rw [RepT]; exact ⟨a, 0, 0, rfl, hk0, by simp, Nat.le_refl _, fun _ => rfl, .inl (by simp)⟩
    · rw [hb] at hb'; cases hb'
  · rcases hy _ hn with ⟨hb', _⟩ | ⟨_, rfl, a, rfl⟩ | ⟨bl', cap, hb', rfl, hcap⟩
    · rw [hb] at hb'; cases hb'
    · rw [RepT]; exact ⟨a, 0, 0, rfl, hk0, by simp, Nat.le_refl _, fun _ => rfl, .inl (by simp)⟩
    · rw [hb] at hb'; cases hb'
      have hl : ((cs.drop off).take (len * k)).length = len * k := by simp; omega
      rw [RepT]
      refine ⟨_, len, cap, rfl, hk0, hl, hcap.1, fun h => (by cases h), .inr ⟨bl, off, arr, ty, (0, 0), rfl, fun m c hm e => ?_, hh, ?_⟩⟩
      · obtain ⟨c', hc'⟩ := hd m c hm
        have := hs.inj m n c' _ bl hc' hn e hb
        subst this
        rw [hn'] at hm; cases hm
      · rw [repTs_iff] at h3 ⊢
        have h4 := h3.sub off (len * k)
        rw [Nat.zero_add] at h4
        exact h4.mono fun c x hr => hr.mono fun b _ _ _ hA ho => ⟨hfr b hA, ho⟩
theorem VWk.sound0 {P : Program} {B : Nat} {s s' : Sg} {ρ : Rho} {w : World} (hs : SR P B s ρ w) (hst : Stp s ρ w s' ρ w) (hd : ∀ n b', s'.m n = some b' → ∃ b, s.m n = some b) {x x' : V} {y : Value} (h : VWk s s' x x') (hr : VR1 P w s ρ x y) : VR1 P w s' ρ x' y := by
  rcases h with rfl | ⟨n, off, len, k, ty, cs, rfl, hn, hn', hle, rfl⟩ | ⟨k, hk, rfl, rfl⟩
  · exact hr.step hst
  · exact frozen_read hs hd hn hn' hle hr
  · have hr' : RepT w (Fr s ρ) (.v nilV) y := hr
    rw [RepT] at hr'
    obtain ⟨rfl, _⟩ := hr'
    exact repT_nil hk
theorem VR1.vr2 {P : Program} {w : World} {s : Sg} {ρ : Rho} {x : V} {y : Value} (h : VR1 P w s ρ x y) : VR2 P w s ρ x y := by
  cases x with
  | agg cs => exact h.elim
  | t x => exact h
  | loc n o l => exact h
  | ptr n o => exact h
  | iad n o => exact h
  | clo g c => exact h
  | yl e => exact h
  | mp e => exact h
  | _ => exact h.elim
theorem VR2.vr {P : Program} {w : World} {s : Sg} {ρ : Rho} {x : V} {y : Value} (h : VR2 P w s ρ x y) : VR P w s ρ x y := by
  cases x with
  | tup cs => exact h.elim
  | junk => trivial
  | nob => exact h.elim
  | agg cs => exact h
  | t x => exact h
  | loc n o l => exact h
  | ptr n o => exact h
  | iad n o => exact h
  | clo g c => exact h
  | yl e => exact h
  | mp e => exact h
theorem VR1.vr {P : Program} {w : World} {s : Sg} {ρ : Rho} {x : V} {y : Value} (h : VR1 P w s ρ x y) : VR P w s ρ x y := h.vr2.vr
theorem VR0.vr1 {P : Program} {w : World} {s : Sg} {ρ : Rho} {x : V} {y : Value} (h : VR0 w s ρ x y) : VR1 P w s ρ x y := by
  cases x with
  | t x => exact h
  | loc n o l => exact h
  | ptr n o => exact h
  | iad n o => exact h
  | yl n => exact h
  | mp n => exact h
  | _ => exact h.elim
def V.cell : V → Bool
  | .agg _ | .tup _ | .junk | .nob => false
  | _ => true
theorem VR.vr1 {P : Program} {w : World} {s : Sg} {ρ : Rho} {x : V} {y : Value} (hc : x.cell = true) (h : VR P w s ρ x y) : VR1 P w s ρ x y := by
  cases x with
  | t x => exact h
  | loc n o l => exact h
  | ptr n o => exact h
  | iad n o => exact h
  | clo g c => exact h
  | yl e => exact h
  | mp e => exact h
  | _ => cases hc
theorem All2.trans_right {α β γ : Type} {R : α → β → Prop} {S : α → γ → Prop} {U : β → γ → Prop} (h : ∀ a b c, R a b → S a c → U b c) : ∀ {l : List α} {m : List β} {p : List γ}, All2 R l m → All2 S l p → All2 U m p
  | [], [], [], _, _ => trivial
  | _ :: _, _ :: _, _ :: _, ⟨h1, h2⟩, ⟨h3, h4⟩ => ⟨h _ _ _ h1 h3, All2.trans_right h h2 h4⟩
  | [], [], _ :: _, _, hh => hh.elim
  | _ :: _, _ :: _, [], _, hh => hh.elim
  | [], _ :: _, _, hh, _ => hh.elim
  | _ :: _, [], _, hh, _ => hh.elim
theorem EWk.sound {P : Program} {B : Nat} {s s' : Sg} {ρ : Rho} {w : World} (hs : SR P B s ρ w) (hst : Stp s ρ w s' ρ w) (hd : ∀ n b', s'.m n = some b' → ∃ b, s.m n = some b) {x x' : V} {y : Value} (h : EWk s s' x x') (hr : VR P w s ρ x y) : VR P w s' ρ x' y := by
  have one : ∀ {x x' : V} {y : Value}, VWk s s' x x' → VR1 P w s ρ x y → VR1 P w s' ρ x' y := fun h hr => h.sound0 hs hst hd hr
  rcases h with rfl | h | ⟨cs, cs', rfl, rfl, h⟩ | ⟨cs, cs', rfl, rfl, h⟩
  · trivial
  · rcases h with rfl | h
    · exact hr.step hst
    · have : VR1 P w s ρ x y := by
        rcases h with ⟨n, off, len, k, ty, cs, rfl, _⟩ | ⟨k, hk, rfl, _⟩
        · exact hr
        · exact hr
      exact (one (.inr h) this).vr
  · obtain ⟨l, rfl, hl⟩ := hr
    exact ⟨l, rfl, All2.trans_right (S := VR1 P w s ρ) (U := VR1 P w s' ρ) (fun _ _ _ h1 h2 => one h1 h2) h hl⟩
  · obtain ⟨l, rfl, hl⟩ := hr
    refine ⟨l, rfl, All2.trans_right (fun a b c h1 h2 => ?_) h hl⟩
    rcases h1 with h1 | ⟨ds, ds', rfl, rfl, h1⟩
    · rcases h1 with rfl | h1
      · exact h2.step hst
      · have : VR1 P w s ρ a c := by
          rcases h1 with ⟨n, off, len, k, ty, cs, rfl, _⟩ | ⟨k, hk, rfl, _⟩
          · exact h2
          · exact h2
        exact (one (.inr h1) this).vr2
    · obtain ⟨l, rfl, hl⟩ := h2
      exact ⟨l, rfl, All2.trans_right (S := VR1 P w s ρ) (U := VR1 P w s' ρ) (fun _ _ _ h1 h2 => one h1 h2) h1 hl⟩
theorem Wk.sr {P : Program} {B : Nat} {e e' : Env} {s s' : Sg} {ρ : Rho} {w : World} (h : Wk e s e' s') (hs : SR P B s ρ w) : SR P B s' ρ w where
  tab := hs.tab
  lt n b hb := by obtain ⟨c, hc, _⟩ := h.dom n b hb; rw [h.next]; exact hs.lt n c hc
  lo n b bl hb hbl := by obtain ⟨c, hc, _⟩ := h.dom n b hb; exact hs.lo n c bl hc hbl
  inj n n' b b' bl hb hb' h1 h2 := by
    obtain ⟨c, hc, _⟩ := h.dom n b hb
    obtain ⟨c', hc', _⟩ := h.dom n' b' hb'
    exact hs.inj n n' c c' bl hc hc' h1 h2
  rep n b hb := by
    obtain ⟨c, hc, hbw⟩ := h.dom n b hb
    have hr := (hs.rep n c hc).step (h.stp ρ w) (fun _ _ => rfl)
    cases c with
    | lp e ps asg bd st c => cases hbw; exact hr
    | mp es => cases hbw; exact hr
    | arr k ty cs =>
      cases b with
      | lp => exact hbw.elim
      | mp => exact hbw.elim
      | arr k' ty' cs' => obtain ⟨rfl, rfl, rfl⟩ := hbw; exact hr
      | box ty' cs' =>
        obtain ⟨rfl, rfl, rfl⟩ := hbw
        obtain ⟨hk1, _, hr | ⟨bl, arr, h1, h2, h3, h4, h5⟩⟩ := hr
        · exact .inl ⟨hr.1, by rw [hr.2]; rfl, hk1⟩
        · exact .inr ⟨bl, arr, h1, h2, by simp; omega, fun i c' hc' => by
            rw [List.getElem?_map] at hc'
            cases hd : cs[i]? with
            | none => rw [hd] at hc'; cases hc'
            | some d =>
              rw [hd] at hc'; cases hc'
              exact (repTs_iff _ _).1 h5 i d hd, hk1, h4⟩
    | box ty cs =>
      have sub : ∀ (bl : Nat) (arr : Array Value) (cs' : List V), All2 (VWk s s') cs cs' → Cells (VR1 P w s ρ) cs arr 0 → Cells (VR1 P w s' ρ) cs' arr 0 := by
        intro bl arr cs' ha h4 i c' hc'
        have hlen := ha.length
        have hi : i < cs.length := by have := (List.getElem?_eq_some_iff.1 hc').1; omega
        obtain ⟨x, hx, hr⟩ := h4 i cs[i] (List.getElem?_eq_getElem hi)
        obtain ⟨c2, hc2, hw⟩ := ha.get i cs[i] (List.getElem?_eq_getElem hi)
        rw [hc2] at hc'; cases hc'
        exact ⟨x, hx, hw.sound0 hs (h.stp ρ w) (fun n b' hb => let ⟨b, hb1, _⟩ := h.dom n b' hb; ⟨b, hb1⟩) hr⟩
      cases b with
      | arr k ty' cs' =>
        obtain ⟨rfl, rfl, ha⟩ := hbw
        have hlen := ha.length
        rw [List.length_map] at hlen
        rcases hs.rep n _ hc with hq | ⟨bl, arr, h1, h2, h3, h4, h5, h6⟩
        · refine ⟨hq.2.2, Nat.one_pos, .inl ⟨hq.1, ?_⟩⟩
          rw [hq.2.1] at hlen
          exact List.eq_nil_of_length_eq_zero hlen.symm
        · refine ⟨h5, Nat.one_pos, .inr ⟨bl, arr, h1, h2, by omega, h6, (repTs_iff _ _).2 fun i c' hc' => ?_⟩⟩
          exact sub bl arr _ ha h4 i (.t c') (by simp [hc'])
      | lp => exact hbw.elim
      | mp => exact hbw.elim
      | box ty' cs' =>
        obtain ⟨rfl, ha⟩ := hbw
        rcases hs.rep n _ hc with hq | ⟨bl, arr, h1, h2, h3, h4, h5⟩
        · refine .inl ⟨hq.1, ?_, hq.2.2⟩
          have := ha.length
          rw [hq.2.1] at this
          exact List.eq_nil_of_length_eq_zero this.symm
        refine .inr ⟨bl, arr, h1, h2, by rw [← ha.length]; exact h3, sub bl arr _ ha h4, h5⟩
theorem Wk.vr {P : Program} {B : Nat} {e e' : Env} {s s' : Sg} {ρ : Rho} {w : World} (h : Wk e s e' s') (hs : SR P B s ρ w) {ys : List Value} (hr : All2 (VR P w s ρ) e ys) : All2 (VR P w s' ρ) e' ys :=
  All2.trans_right (fun _ _ _ h1 h2 => h1.sound hs (h.stp ρ w) (fun n b' hb => let ⟨b, hb1, _⟩ := h.dom n b' hb; ⟨b, hb1⟩) h2) h.env hr
theorem all2_refl {α : Type} {R : α → α → Prop} (h : ∀ a, R a a) : ∀ (l : List α), All2 R l l
  | [] => trivial
  | a :: l => ⟨h a, all2_refl h l⟩
theorem Wk.refl (e : Env) (s : Sg) : Wk e s e s :=
  ⟨rfl, fun _ b hb => ⟨b, hb, by cases b <;> simp [BWk]; exact all2_refl (fun _ => .inl rfl) _⟩, all2_refl (fun _ => .inr (.inl (.inl rfl))) _⟩
end Go.V

/- Lemmas on the way to the statement of this claim; no conditions. -/
import Derived.Test.YtkdkajlgbhggdaaGreatDoorA26
namespace Go.V
open Go Go.RowKit
section
variable {P : Program} {e : Env} {s : Sg} {Q : Exit → Env → Sg → Prop}
theorem d0x {B : Nat} {ρ : Rho} {w : World} (k : Nat) (el : TypeId) : Chg B s ρ w (s.add (.arr k el [])) w s.next ⟨none, k, 0⟩ (.arr k el []) where
 os := rfl
 tape := rfl
 output := rfl
 size := Nat.le_refl _
 same _ _ _ _ := rfl
 here m c hm := by
  simp only [Sg.add] at hm
  split at hm
  ·rename_i h; cases hm; exact .inl ⟨h, rfl⟩
  ·rename_i h
   refine .inr ⟨h, hm, ?_⟩
   cases hb : (ρ m).blk with
   | none => exact .inl rfl
   | some b => exact .inr (by simp)
 name := .inl ⟨Nat.le_refl _, rfl⟩
 loops l rec h := ⟨rec, h⟩
 owned bl h := by cases h
theorem y5q {α β : Type} {R : α → β → Prop} : ∀ {l : List α} {m : List β} {t : Nat} {v : α}, All2 R l m → (∀ y, m[t]? = some y → R v y) → All2 R (l.set t v) m
 | [], [], _, _, _, _ => trivial
 | _ :: _, _ :: _, 0, v, ⟨_, h2⟩, hv => ⟨hv _ rfl, h2⟩
 | _ :: _, _ :: _, t + 1, v, ⟨h1, h2⟩, hv => ⟨h1, y5q h2 fun y hy => hv y (by simpa using hy)⟩
 | [], _ :: _, _, _, h, _ => h.elim
 | _ :: _, [], _, _, h, _ => h.elim
theorem ev_get {w : World} {ρ : Rho} {t : Nat} {v : V} {l : List Value} (he : All2 (VR P w s ρ) e l) (hv : ev e (.tmp t) = v) {y : Value} (hy : l[t]? = some y) : VR P w s ρ v y := by
 have hlt : t < e.length := by rw [he.length]; exact (List.getElem?_eq_some_iff.1 hy).1
 obtain ⟨y', hy', hr⟩ := he.get t e[t] (List.getElem?_eq_getElem hlt)
 rw [hy] at hy'; cases hy'
 have : ev e (.tmp t) = e[t] := by simp [ev, List.getD_eq_getElem?_getD, hlt]
 rw [← hv, this]; exact hr
theorem VW.name {c : Code} (t k : Nat) (el : TypeId) (hk : 0 < k) (hv : ev e (.tmp t) = .t (.v (.slice none 0 0))) (h : VW P c Q (putv e (some t) (.loc s.next 0 0)) (s.add (.arr k el []))) : VW P c Q e s := by
 intro r B M ρ a w QQ hs hkk
 have hc := d0x (B := B) (s := s) (ρ := ρ) (w := w) k el
 have hst := hc.stp
 refine h r B M _ a w QQ (hs.step (hc.sr hs.sr ⟨rfl, hk, .inl ⟨rfl, rfl⟩⟩) hst ?_ rfl) fun x e' s' ρ' a' w' q h1 h2 => hkk x e' s' ρ' a' w' q h1 (hst.trans h2)
 refine y5q (hs.envStep hst) fun y hy => ?_
 have hr := ev_get hs.env hv hy
 have hy0 : y = .slice none 0 0 := repV (w := w) (A := Fr s ρ) hr
 subst hy0
 exact ⟨by simp [Sg.add], ⟨none, 0, rfl⟩, fun b hb => .inl ⟨by simp [Rho.up], rfl, rfl⟩⟩
theorem VW.nameBox {c : Code} (n j k : Nat) (el : TypeId) (hk : 0 < k) {ty : TypeId} {cs : List V} (hn : s.m n = some (.box ty cs)) (hj : cs[j]? = some (.t (.v (.slice none 0 0)))) (h : VW P c Q e ((s.add (.arr k el [])).set n (.box ty (cs.set j (.loc s.next 0 0))))) : VW P c Q e s := by
 intro r B M ρ a w QQ hs hkk
 have hc := d0x (B := B) (s := s) (ρ := ρ) (w := w) k el
 have hst := hc.stp
 have hsr1 := hc.sr hs.sr ⟨rfl, hk, .inl ⟨rfl, rfl⟩⟩
 have hnlt := hs.sr.lt n _ hn
 have hne : n ≠ s.next := by omega
 have hn1 : (s.add (.arr k el [])).m n = some (.box ty cs) := by simp [Sg.add, hne, hn]
 -- the box is told anew
 have hc2 : Chg B (s.add (.arr k el [])) (ρ.up s.next ⟨none, k, 0⟩) w ((s.add (.arr k el [])).set n (.box ty (cs.set j (.loc s.next 0 0)))) w n (ρ.up s.next ⟨none, k, 0⟩ n) (.box ty (cs.set j (.loc s.next 0 0))) :=
  { os := rfl, tape := rfl, output := rfl, size := Nat.le_refl _, same := fun _ _ _ _ => rfl
    here := fun m c hm => by
     simp only [Sg.set] at hm
     split at hm
     ·rename_i h; cases hm; exact .inl ⟨h, rfl⟩
     ·rename_i h
      refine .inr ⟨h, hm, ?_⟩
      cases hb : (ρ.up s.next ⟨none, k, 0⟩ m).blk with
      | none => exact .inl rfl
      | some b =>
       refine .inr fun e0 => ?_
       exact h (hsr1.inj m n _ _ b hm hn1 hb e0.symm)
    name := .inr ⟨rfl, by simp [Sg.add]; omega, ⟨_, hn1⟩, rfl⟩
    loops := fun l rec h => ⟨rec, h⟩
    owned := fun bl hb => ⟨hsr1.lo n _ bl hn1 hb, .inr ⟨n, _, hn1, hb⟩⟩ }
 have hst2 := hc2.stp
 have hnil : VR1 P w (s.add (.arr k el [])) (ρ.up s.next ⟨none, k, 0⟩) (.loc s.next 0 0) (.slice none 0 0) :=
  ⟨by simp [Sg.add], ⟨none, 0, rfl⟩, fun b hb => .inl ⟨by simp [Rho.up], rfl, rfl⟩⟩
 have hsr2 := hc2.sr hsr1 (by
  rcases hsr1.rep n _ hn1 with hq | ⟨bl, arr, b1, b2, b3, b4, b5⟩
  ·rw [hq.2.1] at hj; simp at hj
  ·refine .inr ⟨bl, arr, b1, b2, by simpa using b3, fun i c hi => ?_, b5⟩
   rw [List.getElem?_set] at hi
   split at hi
   ·rename_i hij
    subst hij
    split at hi
    ·cases hi
     obtain ⟨x, hx, hr⟩ := b4 j _ hj
     have hy0 : x = .slice none 0 0 := repV (w := w) (A := Fr (s.add (.arr k el [])) (ρ.up s.next ⟨none, k, 0⟩)) hr
     subst hy0
     exact ⟨_, hx, hnil.step hst2⟩
    ·cases hi
   ·obtain ⟨x, hx, hr⟩ := b4 i c hi
    exact ⟨x, hx, hr.step hst2⟩)
 exact h r B M _ a w QQ ((hs.step hsr1 hst (hs.envStep hst) rfl).step hsr2 hst2 ((hs.step hsr1 hst (hs.envStep hst) rfl).envStep hst2) rfl) fun x e' s' ρ' a' w' q h1 h2 => hkk x e' s' ρ' a' w' q h1 ((hst.trans hst2).trans h2)
end
end Go.V

namespace Go.V
open Go Go.RowKit
section
variable {P : Program} {e e' : Env} {s s' s1 : Sg} {Q : Exit → Env → Sg → Prop}
theorem w0q (s1 s2 : Sg) (b : Blk) : BWk s1 s2 b b := by cases b <;> simp [BWk]; exact h8q (fun _ => .inl rfl) _
theorem y4q {α : Type} {R : α → α → Prop} (hr : ∀ a, R a a) : ∀ (l : List α) (t : Nat) (v : α), (∀ x, l[t]? = some x → R x v) → All2 R l (l.set t v)
 | [], _, _, _ => trivial
 | a :: l, 0, v, h => ⟨h a rfl, h8q hr l⟩
 | a :: l, t + 1, v, h => ⟨hr a, y4q hr l t v fun x hx => h x (by simpa using hx)⟩
theorem ev_some {t : Nat} {x : V} (h : e[t]? = some x) : ev e (.tmp t) = x := by simp [ev, List.getD_eq_getElem?_getD, h]
theorem VW.freeze {c : Code} (t : Nat) {n len k : Nat} {el : TypeId} {cs : List T} (hv : ev e (.tmp t) = .loc n 0 len) (hn : s.m n = some (.arr k el cs)) (hl : cs.length = len * k)
 (h : VW P c Q (putv e (some t) (.t (.sl k cs))) (s.del n)) : VW P c Q e s := by
 refine VW.wk (e' := e.set t (.t (.sl k cs))) (s' := s.del n) ⟨rfl, fun m b hb => ?_, ?_⟩ h
 ·simp only [Sg.del] at hb
  split at hb
  ·cases hb
  ·exact ⟨b, hb, w0q _ _ _⟩
 ·refine y4q (fun a => .inr (.inl (.inl rfl))) _ _ _ fun x hx => ?_
  have := ev_some hx
  rw [hv] at this; subst this
  exact .inr (.inl (.inr (.inl ⟨n, 0, len, k, el, cs, rfl, hn, by simp [Sg.del], by omega, by rw [List.drop_zero, List.take_of_length_le (by omega)]⟩)))
theorem VW.freezeBox {c : Code} (p j : Nat) {n len k : Nat} {el ty : TypeId} {cs : List T} {vs : List V} (hp : s.m p = some (.box ty vs)) (hj : vs[j]? = some (.loc n 0 len)) (hn : s.m n = some (.arr k el cs)) (hl : cs.length = len * k)
 (h : VW P c Q e ((s.del n).set p (.box ty (vs.set j (.t (.sl k cs)))))) : VW P c Q e s := by
 have hne : p ≠ n := fun e0 => by rw [e0, hn] at hp; cases hp
 refine VW.wk (e' := e) (s' := (s.del n).set p (.box ty (vs.set j (.t (.sl k cs))))) ⟨rfl, fun m b hb => ?_, h8q (fun a => .inr (.inl (.inl rfl))) _⟩ h
 simp only [Sg.set, Sg.del] at hb
 split at hb
 ·rename_i hm; cases hb; subst hm
  refine ⟨_, hp, rfl, ?_⟩
  refine y4q (fun a => .inl rfl) _ _ _ fun x hx => ?_
  rw [hj] at hx; cases hx
  exact .inr (.inl ⟨n, 0, len, k, el, cs, rfl, hn, by simp [Sg.set, Sg.del, Ne.symm hne], by omega, by rw [List.drop_zero, List.take_of_length_le (by omega)]⟩)
 ·split at hb
  ·cases hb
  ·exact ⟨b, hb, w0q _ _ _⟩
theorem VW.nilBox {c : Code} (p j k : Nat) (hk : 0 < k) {ty : TypeId} {vs : List V} (hp : s.m p = some (.box ty vs)) (hj : vs[j]? = some (.t (.v (.slice none 0 0))))
 (h : VW P c Q e (s.set p (.box ty (vs.set j (.t (.sl k [])))))) : VW P c Q e s := by
 refine VW.wk (e' := e) (s' := s.set p (.box ty (vs.set j (.t (.sl k []))))) ⟨rfl, fun m b hb => ?_, h8q (fun a => .inr (.inl (.inl rfl))) _⟩ h
 simp only [Sg.set] at hb
 split at hb
 ·rename_i hm; cases hb; subst hm
  refine ⟨_, hp, rfl, ?_⟩
  refine y4q (fun a => .inl rfl) _ _ _ fun x hx => ?_
  rw [hj] at hx; cases hx
  exact .inr (.inr ⟨k, hk, rfl, rfl⟩)
 ·exact ⟨b, hb, w0q _ _ _⟩
theorem u8q {rs : List ResultVar} {vs : List V} (hv : vres P s' e' rs = some vs) (hsol : vs.all e0z = true) (hn : nm s.next (pack vs)) (hs : Keep s s') : Done P s rs (pack vs) e' s' :=
 ⟨vs, hv, hsol, pack vs, s', s, y6z _ _, hn, ⟨rfl, fun n b h => .inr h, fun n b hl h => ⟨hs n b hl h, .inl h⟩⟩, rfl, rfl⟩
theorem j6q (a : Nat) (t : TypeId) (l : List ResultVar) : vres P s e (.cell a t :: l) = match a8q P s t (ev e (.tmp a)), vres P s e l with
 | some x, some y => some (x :: y)
 | _, _ => none := rfl
theorem n9q (t : Nat) (l : List ResultVar) : vres P s e (.tmp t :: l) = match vres P s e l with
 | some y => some (ev e (.tmp t) :: y)
 | _ => none := by
 show (match some (ev e (.tmp t)), vres P s e l with | some a, some b => some (a :: b) | _, _ => none) = _
 cases vres P s e l <;> rfl
theorem m1q : vres P s e [] = some [] := rfl
end
end Go.V

namespace Go.V
open Go Go.RowKit
section
variable {P : Program} {e : Env} {s : Sg} {Q : Exit → Env → Sg → Prop}
theorem VW.toBox {c : Code} (n : Nat) {ty : TypeId} {cs : List T} (hn : s.m n = some (.arr 1 ty cs)) (h : VW P c Q e (s.set n (.box ty (cs.map V.t)))) : VW P c Q e s := by
 refine VW.wk (e' := e) (s' := s.set n (.box ty (cs.map V.t))) ⟨rfl, fun m b hb => ?_, h8q (fun a => .inr (.inl (.inl rfl))) _⟩ h
 simp only [Sg.set] at hb
 split at hb
 ·rename_i hm; cases hb; subst hm
  exact ⟨_, hn, rfl, rfl, rfl⟩
 ·exact ⟨b, hb, w0q _ _ _⟩
theorem d4q {c : Code} (h : ∀ e1 s1, e1 = e → s1 = s → VW P c Q e1 s1) : VW P c Q e s := h e s rfl rfl
theorem o0q {x : Operand} {ps : Array Tmp} {as_ bd : Code} {g : Nat} {caps : List V} (hx : ev e x = .clo g caps) {fn : Func} (hf : P.funcs[g]? = some fn) (hb : fn.body.isSome = true) (hn : fn.name ≠ "runtime.NumGoroutine")
 (H : ∀ s4 : Sg, s4 = s.add (.lp e ps as_ bd .ready none) → s4.next = s.next + 1 → (∀ m, m ≠ s.next → s4.m m = s.m m) → s4.m s.next = some (.lp e ps as_ bd .ready none) → f8q P g (.yl s.next :: caps) s4 (fun _ s' => ∃ c st, s'.m s.next = some (.lp e ps as_ bd st c) ∧ st ≠ .busy ∧
  (match c with | none => Q .normal e (s'.del s.next) | some c => VW P c Q e (s'.del s.next)))) : VW P (.rangeFunc x ps as_ bd) Q e s :=
 y4z hx hf hb hn (H _ rfl rfl (fun m hm => by simp [Sg.add, hm]) (by simp [Sg.add]))
theorem w8q.mono {n : Nat} {vals : List V} {K K' : V → Sg → Prop} (h : w8q P n vals s K) (hk : ∀ v s', K v s' → K' v s') : w8q P n vals s K' := by
 obtain ⟨er, ps, as_, bd, h1, h2, h3⟩ := h
 refine ⟨er, ps, as_, bd, h1, h2, h3.mono fun x e s hh => ⟨hh.1, hh.2.1, hh.2.2.mono fun x e s hq => ?_⟩⟩
 cases x with
 | normal => exact ⟨hq.1, hk _ _ hq.2⟩
 | ret => exact ⟨hq.1, hk _ _ hq.2⟩
 | exit id => exact ⟨hq.1, hk _ _ hq.2⟩
 | _ => exact hq
theorem o2q {n : Nat} {er : List V} {ps : Array Tmp} {as_ bd : Code} {vals : List V} {K : V → Sg → Prop} (hlp : s.m n = some (.lp er ps as_ bd .ready none)) (hl : vals.length = ps.size)
 (H : ∀ K1 : Env → Sg → Prop, (∀ e1 s1, s1.m n = some (.lp er ps as_ bd .ready none) → VW P bd (e9x n er ps as_ bd K) e1 (s1.set n (.lp er ps as_ bd .busy none)) → K1 e1 s1) → VW P as_ (a1q K1 fun _ _ _ => False) (m4z er ps.toList vals) s) : w8q P n vals s K := by
 refine ⟨er, ps, as_, bd, hlp, hl, ?_⟩
 refine (H (fun e1 s1 => s1.m n = some (.lp er ps as_ bd .ready none) ∧ VW P bd (e9x n er ps as_ bd K) e1 (s1.set n (.lp er ps as_ bd .busy none))) fun e1 s1 h1 h2 => ⟨h1, h2⟩).mono fun x e s h => ?_
 cases x with
 | normal => exact ⟨rfl, h⟩
 | _ => exact h.elim
theorem n4q (er : List V) (p : Nat) (v : V) : m4z er [p] [v] = putv er (some p) v := rfl
theorem t2x (er : List V) (p q : Nat) (v u : V) : m4z er [p, q] [v, u] = putv (putv er (some p) v) (some q) u := rfl
theorem v0x {A B : Prop} {v : V} (h : (v = Bo true ∧ A) ∨ (v = Bo false ∧ B)) : ∃ b, v = Bo b ∧ ((b = true ∧ A) ∨ (b = false ∧ B)) := by
 rcases h with ⟨rfl, h⟩ | ⟨rfl, h⟩
 ·exact ⟨true, rfl, .inl ⟨rfl, h⟩⟩
 ·exact ⟨false, rfl, .inr ⟨rfl, h⟩⟩
theorem t1x (s : Sg) (n : Nat) (b c : Blk) : (s.set n b).set n c = s.set n c := by
 simp only [Sg.set]; congr 1; funext j; by_cases h : j = n <;> simp [h]
theorem set_self {s : Sg} {n : Nat} {b : Blk} (h : s.m n = some b) : s.set n b = s := by
 cases s with
 | mk nx m =>
  unfold Sg.set
  congr 1
  funext j
  split
  ·rename_i e; subst e; exact h.symm
  ·rfl
end
end Go.V

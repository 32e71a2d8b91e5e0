/- Lemmas on the way to the statement of this claim; no conditions. -/
import Derived.WalkKit
import Derived.RangeFuncNested
import Derived.RangeFuncLeaves
import Derived.Lib.TrailingZeros
namespace Go.V
open Go
inductive T where
  | v (x : Value)
  | sl (k : Nat) (cs : List T)
inductive V where
  | t (x : T)
  | loc (n off len : Nat)
  | ptr (n off : Nat)
  | iad (cs : List T) (off : Nat)
  | clo (g : FuncId) (caps : List V)
  | agg (cs : List V)
  | tup (vs : List V)
  | yl (n : Nat)
  | mp (n : Nat)
  | junk
  | nob
def All2 {α β : Type} (R : α → β → Prop) : List α → List β → Prop
  | [], [] => True
  | a :: l, b :: m => R a b ∧ All2 R l m
  | _, _ => False
theorem All2.mono {α β : Type} {R R' : α → β → Prop} (h : ∀ a b, R a b → R' a b) : ∀ {l : List α} {m : List β}, All2 R l m → All2 R' l m
  | [], [], _ => trivial
  | _ :: _, _ :: _, ⟨h1, h2⟩ => ⟨h _ _ h1, All2.mono h h2⟩
  | [], _ :: _, hh => hh.elim
  | _ :: _, [], hh => hh.elim
theorem All2.length {α β : Type} {R : α → β → Prop} : ∀ {l : List α} {m : List β}, All2 R l m → l.length = m.length
  | [], [], _ => rfl
  | _ :: _, _ :: _, ⟨_, h2⟩ => by simp [All2.length h2]
  | [], _ :: _, hh => hh.elim
  | _ :: _, [], hh => hh.elim
theorem All2.get {α β : Type} {R : α → β → Prop} : ∀ {l : List α} {m : List β}, All2 R l m → ∀ (i : Nat) (a : α), l[i]? = some a → ∃ b, m[i]? = some b ∧ R a b
  | [], [], _, i, a, h => by simp at h
  | a :: l, b :: m, ⟨h1, h2⟩, 0, c, h => by simp at h; subst h; exact ⟨b, rfl, h1⟩
  | a :: l, b :: m, ⟨h1, h2⟩, i + 1, c, h => by simpa using All2.get h2 i c (by simpa using h)
  | [], _ :: _, hh, _, _, _ => hh.elim
  | _ :: _, [], hh, _, _, _ => hh.elim
theorem All2.append {α β : Type} {R : α → β → Prop} : ∀ {l : List α} {m : List β} {l' : List α} {m' : List β}, All2 R l m → All2 R l' m' → All2 R (l ++ l') (m ++ m')
  | [], [], _, _, _, h => h
  | _ :: _, _ :: _, _, _, ⟨h1, h2⟩, h => ⟨h1, All2.append h2 h⟩
  | [], _ :: _, _, _, hh, _ => hh.elim
  | _ :: _, [], _, _, hh, _ => hh.elim
theorem All2.set {α β : Type} {R : α → β → Prop} {a : α} {b : β} (h : R a b) : ∀ {l : List α} {m : List β}, All2 R l m → ∀ i, All2 R (l.set i a) (m.set i b)
  | [], [], _, _ => trivial
  | _ :: _, _ :: _, ⟨_, h2⟩, 0 => ⟨h, h2⟩
  | _ :: _, _ :: _, ⟨h1, h2⟩, i + 1 => ⟨h1, All2.set h h2 i⟩
  | [], _ :: _, hh, _ => hh.elim
  | _ :: _, [], hh, _ => hh.elim
theorem All2.take {α β : Type} {R : α → β → Prop} : ∀ {l : List α} {m : List β}, All2 R l m → ∀ i, All2 R (l.take i) (m.take i)
  | [], [], _, i => by simp [All2]
  | _ :: _, _ :: _, _, 0 => trivial
  | _ :: _, _ :: _, ⟨h1, h2⟩, i + 1 => ⟨h1, All2.take h2 i⟩
  | [], _ :: _, hh, _ => hh.elim
  | _ :: _, [], hh, _ => hh.elim
theorem All2.drop {α β : Type} {R : α → β → Prop} : ∀ {l : List α} {m : List β}, All2 R l m → ∀ i, All2 R (l.drop i) (m.drop i)
  | [], [], _, i => by simp [All2]
  | _ :: _, _ :: _, h, 0 => h
  | _ :: _, _ :: _, ⟨_, h2⟩, i + 1 => All2.drop h2 i
  | [], _ :: _, hh, _ => hh.elim
  | _ :: _, [], hh, _ => hh.elim
theorem All2.map {α β γ δ : Type} {R : α → β → Prop} {R' : γ → δ → Prop} {f : α → γ} {g : β → δ} (h : ∀ a b, R a b → R' (f a) (g b)) : ∀ {l : List α} {m : List β}, All2 R l m → All2 R' (l.map f) (m.map g)
  | [], [], _ => trivial
  | _ :: _, _ :: _, ⟨h1, h2⟩ => ⟨h _ _ h1, All2.map h h2⟩
  | [], _ :: _, hh => hh.elim
  | _ :: _, [], hh => hh.elim
structure Info where
  blk : Option Nat
  k : Nat
  tot : Nat
inductive Blk where
  | arr (k : Nat) (ty : TypeId) (cs : List T)
  | box (ty : TypeId) (cs : List V)
  /- a map: its keys and what lies there -/
  | mp (es : List (Value × V))
  /- the record of a loop over a function: the temporaries, the parameters, the pending jump -/
  | lp (e : List V) (ps : Array Tmp) (assign body : Code) (st : LoopState) (pend : Option Code)
structure Sg where
  next : Nat
  m : Nat → Option Blk
abbrev Env := List V
abbrev Rho := Nat → Info
def Sg.set (s : Sg) (n : Nat) (b : Blk) : Sg := ⟨s.next, fun j => if j = n then some b else s.m j⟩
def Sg.add (s : Sg) (b : Blk) : Sg := ⟨s.next + 1, fun j => if j = s.next then some b else s.m j⟩
def Sg.del (s : Sg) (n : Nat) : Sg := ⟨s.next, fun j => if j = n then none else s.m j⟩
def flat : Value → Bool
  | .bool _ | .int .. | .float .. | .complex .. | .string _ | .nilFunc | .nilIface => true
  | .pointer none | .slice none 0 0 | .map none => true
  | .func (.func _) ⟨[]⟩ ⟨[]⟩ => true
  | _ => false
theorem flat_one {x : Value} (h : flat x = true) : x.oneCell' = true := by
  cases x <;> simp_all [flat, Value.oneCell']
def Cells {α : Type} (R : α → Value → Prop) (cs : List α) (arr : Array Value) (o : Nat) : Prop :=
  ∀ i c, cs[i]? = some c → ∃ x, arr[o + i]? = some x ∧ R c x
mutual
def RepT (w : World) (A : Nat → Prop) : T → Value → Prop
  | .v x, y => y = x ∧ flat x = true
  | .sl k cs, y => ∃ a len cap, y = .slice a len cap ∧ 0 < k ∧ cs.length = len * k ∧ len ≤ cap ∧ (a = none → cap = 0) ∧
      (cs = [] ∨ ∃ b off arr ty fr, a = some ⟨b, off, none⟩ ∧ A b ∧ w.heap[b]? = some (.cells arr ty fr) ∧ RepTs w A cs arr off)
def RepTs (w : World) (A : Nat → Prop) : List T → Array Value → Nat → Prop
  | [], _, _ => True
  | c :: cs, arr, off => (∃ x, arr[off]? = some x ∧ RepT w A c x) ∧ RepTs w A cs arr (off + 1)
end
theorem repTs_iff {w : World} {A : Nat → Prop} {arr : Array Value} : ∀ (cs : List T) (off : Nat), RepTs w A cs arr off ↔ Cells (RepT w A) cs arr off
  | [], off => by simp [RepTs, Cells]
  | c :: cs, off => by
    rw [RepTs, repTs_iff cs (off + 1)]
    constructor
    · rintro ⟨h, hs⟩ i d hd
      cases i with
      | zero => simp at hd; subst hd; simpa using h
      | succ i =>
        simp at hd
        obtain ⟨x, hx, hr⟩ := hs i d hd
        exact ⟨x, by rw [show off + (i + 1) = off + 1 + i by omega]; exact hx, hr⟩
    · intro h
      refine ⟨by simpa using h 0 c (by simp), fun i d hd => ?_⟩
      obtain ⟨x, hx, hr⟩ := h (i + 1) d (by simpa using hd)
      exact ⟨x, by rw [show off + 1 + i = off + (i + 1) by omega]; exact hx, hr⟩
theorem Cells.mono {α : Type} {R R' : α → Value → Prop} {cs : List α} {arr : Array Value} {o : Nat} (h : Cells R cs arr o) (hr : ∀ c x, R c x → R' c x) : Cells R' cs arr o :=
  fun i c hc => let ⟨x, hx, hr'⟩ := h i c hc; ⟨x, hx, hr _ _ hr'⟩
mutual
theorem RepT.mono {w w' : World} {A A' : Nat → Prop} (h : ∀ b arr ty fr, A b → w.heap[b]? = some (.cells arr ty fr) → A' b ∧ w'.heap[b]? = some (.cells arr ty fr)) : ∀ {x : T} {y : Value}, RepT w A x y → RepT w' A' x y
  | .v x, y, hr => by rw [RepT] at hr ⊢; exact hr
  | .sl k cs, y, hr => by
    rw [RepT] at hr ⊢
    obtain ⟨a, len, cap, hy, hk, hl, hlc, hcn, hc⟩ := hr
    refine ⟨a, len, cap, hy, hk, hl, hlc, hcn, ?_⟩
    rcases hc with hc | ⟨b, off, arr, ty, fr, ha, hA, hb, hs⟩
    · exact .inl hc
    · obtain ⟨h1, h2⟩ := h b _ _ _ hA hb
      exact .inr ⟨b, off, arr, ty, fr, ha, h1, h2, RepTs.mono h hs⟩
theorem RepTs.mono {w w' : World} {A A' : Nat → Prop} (h : ∀ b arr ty fr, A b → w.heap[b]? = some (.cells arr ty fr) → A' b ∧ w'.heap[b]? = some (.cells arr ty fr)) : ∀ {cs : List T} {arr : Array Value} {off : Nat}, RepTs w A cs arr off → RepTs w' A' cs arr off
  | [], _, _, _ => by rw [RepTs]; trivial
  | c :: cs, arr, off, hr => by
    rw [RepTs] at hr ⊢
    obtain ⟨⟨x, hx, h1⟩, h2⟩ := hr
    exact ⟨⟨x, hx, RepT.mono h h1⟩, RepTs.mono h h2⟩
end
theorem RepT.one {w : World} {A : Nat → Prop} {x : T} {y : Value} (h : RepT w A x y) : y.oneCell' = true := by
  cases x with
  | v x => rw [RepT] at h; obtain ⟨rfl, h⟩ := h; exact flat_one h
  | sl k cs => rw [RepT] at h; obtain ⟨a, len, cap, rfl, _⟩ := h; rfl
def Fr (s : Sg) (ρ : Rho) (b : Nat) : Prop := ∀ n k, s.m n = some k → (ρ n).blk ≠ some b
def VR0 (w : World) (s : Sg) (ρ : Rho) : V → Value → Prop
  | .t x, y => RepT w (Fr s ρ) x y
  | .loc n off len, y => n < s.next ∧ (∃ a c, y = .slice a len c) ∧ (∀ b, s.m n = some b →
      ((ρ n).blk = none ∧ y = .slice none 0 0 ∧ len = 0) ∨ (0 < off ∧ len = 0 ∧ ∃ a, y = .slice a 0 0) ∨
      ∃ bl cap, (ρ n).blk = some bl ∧ y = .slice (some ⟨bl, off, none⟩) len cap ∧ len ≤ cap ∧ off + cap * (ρ n).k = (ρ n).tot ∧ cap ≤ maxLen)
  | .ptr n off, y => n < s.next ∧ (∃ a, y = .pointer (some a)) ∧ (∀ b, s.m n = some b → ∃ bl, (ρ n).blk = some bl ∧ y = .pointer (some ⟨bl, off, none⟩))
  | .yl n, y => n < s.next ∧ (∃ l, y = .func (.yield l) #[] #[]) ∧ (∀ b, s.m n = some b → ∃ l, (ρ n).blk = some l ∧ y = .func (.yield l) #[] #[])
  | .mp n, y => n < s.next ∧ (∃ l, y = .map (some l)) ∧ (∀ b, s.m n = some b → ∃ l, (ρ n).blk = some l ∧ y = .map (some l))
  | .iad cs off, y => ∃ b o arr ty fr, y = .pointer (some ⟨b, o + off, none⟩) ∧ Fr s ρ b ∧ w.heap[b]? = some (.cells arr ty fr) ∧ RepTs w (Fr s ρ) cs arr o
  | _, _ => False
theorem VR0.one {w : World} {s : Sg} {ρ : Rho} {x : V} {y : Value} (h : VR0 w s ρ x y) : y.oneCell' = true := by
  cases x with
  | t x => exact RepT.one h
  | loc n off len => obtain ⟨_, ⟨a, c, rfl⟩, _⟩ := h; rfl
  | ptr n off => obtain ⟨_, ⟨a, rfl⟩, _⟩ := h; rfl
  | iad cs off => obtain ⟨b, o, arr, ty, fr, rfl, _⟩ := h; rfl
  | yl n => obtain ⟨_, ⟨l, rfl⟩, _⟩ := h; rfl
  | mp n => obtain ⟨_, ⟨l, rfl⟩, _⟩ := h; rfl
  | _ => exact h.elim
def VR1 (P : Program) (w : World) (s : Sg) (ρ : Rho) : V → Value → Prop
  | .clo g caps, y => ∃ l, y = .func (.func g) #[] ⟨l⟩ ∧ All2 (VR0 w s ρ) caps l
  | x, y => VR0 w s ρ x y
def VR2 (P : Program) (w : World) (s : Sg) (ρ : Rho) : V → Value → Prop
  | .agg cs, y => ∃ l, y = .agg ⟨l⟩ ∧ All2 (VR1 P w s ρ) cs l
  | x, y => VR1 P w s ρ x y
def VR (P : Program) (w : World) (s : Sg) (ρ : Rho) : V → Value → Prop
  | .tup vs, y => ∃ l, y = .tuple ⟨l⟩ ∧ All2 (VR2 P w s ρ) vs l
  | .junk, _ => True
  | .nob, y => ∀ b, y ≠ .bool b
  | x, y => VR2 P w s ρ x y
def BR (P : Program) (w : World) (s : Sg) (ρ : Rho) (i : Info) : Blk → Prop
  | .arr k ty cs => i.k = k ∧ 0 < k ∧ ((i.blk = none ∧ cs = []) ∨
      ∃ bl arr, i.blk = some bl ∧ w.heap[bl]? = some (.cells arr ty (0, 0)) ∧ cs.length ≤ i.tot ∧ i.tot = arr.size ∧ RepTs w (Fr s ρ) cs arr 0)
  | .box ty cs => (i.blk = none ∧ cs = [] ∧ i.k = 1) ∨ ∃ bl arr, i.blk = some bl ∧ w.heap[bl]? = some (.cells arr ty (0, 0)) ∧ cs.length ≤ arr.size ∧ Cells (VR1 P w s ρ) cs arr 0 ∧ i.k = 1 ∧ i.tot = arr.size
  | .mp es => ∃ l arr clk, i.blk = some l ∧ w.heap[l]? = some (.map arr clk) ∧ All2 (fun (p : Value × V) (x : MapEntry) => x.key = p.1 ∧ VR2 P w s ρ p.2 x.val) es arr.toList ∧ (arr.toList.map (·.born)).Pairwise (· < ·) ∧ ∀ x ∈ arr.toList, x.born < clk
  | .lp e ps assign body st c => ∃ l fn dfs tmps, i.blk = some l ∧ w.heap[l]? = some (.loop { state := st, pending := c, fn, tmps, params := ps, assign, body, defers := dfs }) ∧
      All2 (VR P w s ρ) e tmps.toList
def laidVars : List (String × List Value) := [("math/bits.deBruijn64tab", Lib.deBruijn64tab.map fun k => .int .u8 (k : Nat))]
def TabOK (P : Program) (B : Nat) (w : World) : Prop := ∀ nm cs g, (nm, cs) ∈ laidVars → P.globalNamed nm = some g → g < B ∧ ∃ arr ty fr, w.heap[g]? = some (.cells arr ty fr) ∧ ∀ (j : Nat) (v : Value), cs[j]? = some v → arr[j]? = some v
theorem TabOK.keep {P : Program} {B : Nat} {w w' : World} (h : TabOK P B w) (hk : ∀ (b : Nat) arr ty fr, b < B → w.heap[b]? = some (.cells arr ty fr) → w'.heap[b]? = some (.cells arr ty fr)) : TabOK P B w' := fun nm cs g h1 h2 =>
  let ⟨h3, arr, ty, fr, h4, h5⟩ := h nm cs g h1 h2; ⟨h3, arr, ty, fr, hk g arr ty fr h3 h4, h5⟩
structure SR (P : Program) (B : Nat) (s : Sg) (ρ : Rho) (w : World) : Prop where
  lt : ∀ n b, s.m n = some b → n < s.next
  lo : ∀ n b bl, s.m n = some b → (ρ n).blk = some bl → B ≤ bl
  inj : ∀ n n' b b' bl, s.m n = some b → s.m n' = some b' → (ρ n).blk = some bl → (ρ n').blk = some bl → n = n'
  rep : ∀ n b, s.m n = some b → BR P w s ρ (ρ n) b
  tab : TabOK P B w
structure Stp (s : Sg) (ρ : Rho) (w : World) (s' : Sg) (ρ' : Rho) (w' : World) : Prop where
  os : w'.os = w.os
  tape : w'.tape = w.tape
  output : w'.output = w.output
  size : w.heap.size ≤ w'.heap.size
  same : ∀ b, b < w.heap.size → Fr s ρ b → w'.heap[b]? = w.heap[b]?
  info : ∀ n, n < s.next → ρ' n = ρ n
  next : s.next ≤ s'.next
  dom : ∀ n b', n < s.next → s'.m n = some b' → ∃ b, s.m n = some b
  free : ∀ b, b < w.heap.size → Fr s ρ b → Fr s' ρ' b
  loops : ∀ (l : Nat) (rec : Loop), w.heap[l]? = some (Obj.loop rec) → ∃ rec', w'.heap[l]? = some (Obj.loop rec')
theorem Stp.refl (s : Sg) (ρ : Rho) (w : World) : Stp s ρ w s ρ w :=
  ⟨rfl, rfl, rfl, Nat.le_refl _, fun _ _ _ => rfl, fun _ _ => rfl, Nat.le_refl _, fun _ b' _ h => ⟨b', h⟩, fun _ _ h => h, fun _ rec h => ⟨rec, h⟩⟩
theorem Stp.trans {s s1 s2 : Sg} {ρ ρ1 ρ2 : Rho} {w w1 w2 : World} (h : Stp s ρ w s1 ρ1 w1) (k : Stp s1 ρ1 w1 s2 ρ2 w2) : Stp s ρ w s2 ρ2 w2 where
  os := k.os.trans h.os
  tape := k.tape.trans h.tape
  output := k.output.trans h.output
  size := Nat.le_trans h.size k.size
  same b hb hf := (k.same b (Nat.lt_of_lt_of_le hb h.size) (h.free b hb hf)).trans (h.same b hb hf)
  info n hn := (k.info n (Nat.lt_of_lt_of_le hn h.next)).trans (h.info n hn)
  next := Nat.le_trans h.next k.next
  dom n b' hn hb := by
    obtain ⟨b, hb1⟩ := k.dom n b' (Nat.lt_of_lt_of_le hn h.next) hb
    exact h.dom n b hn hb1
  free b hb hf := k.free b (Nat.lt_of_lt_of_le hb h.size) (h.free b hb hf)
  loops l rec hl := let ⟨rec', hl'⟩ := h.loops l rec hl; k.loops l rec' hl'
theorem heap_lt {w : World} {b : Nat} {o : Obj} (h : w.heap[b]? = some o) : b < w.heap.size := (Array.getElem?_eq_some_iff.1 h).1
structure Mv (s : Sg) (ρ : Rho) (w : World) (s' : Sg) (ρ' : Rho) (w' : World) : Prop where
  info : ∀ n, n < s.next → ρ' n = ρ n
  next : s.next ≤ s'.next
  dom : ∀ n b', n < s.next → s'.m n = some b' → ∃ b, s.m n = some b
  keep : ∀ b arr ty fr, Fr s ρ b → w.heap[b]? = some (.cells arr ty fr) → Fr s' ρ' b ∧ w'.heap[b]? = some (.cells arr ty fr)
theorem Stp.mv {s s' : Sg} {ρ ρ' : Rho} {w w' : World} (h : Stp s ρ w s' ρ' w') : Mv s ρ w s' ρ' w' :=
  ⟨h.info, h.next, h.dom, fun b _ _ _ hf hb => ⟨h.free b (heap_lt hb) hf, (h.same b (heap_lt hb) hf).trans hb⟩⟩
theorem Stp.keep {s s' : Sg} {ρ ρ' : Rho} {w w' : World} (h : Stp s ρ w s' ρ' w') : ∀ b arr ty fr, Fr s ρ b → w.heap[b]? = some (.cells arr ty fr) → Fr s' ρ' b ∧ w'.heap[b]? = some (.cells arr ty fr) := h.mv.keep
theorem VR0.mstep {s s' : Sg} {ρ ρ' : Rho} {w w' : World} (h : Mv s ρ w s' ρ' w') {x : V} {y : Value} (hr : VR0 w s ρ x y) : VR0 w' s' ρ' x y := by
  cases x with
  | t x => exact RepT.mono h.keep hr
  | loc n off len =>
    obtain ⟨hn, hy, hb⟩ := hr
    refine ⟨Nat.lt_of_lt_of_le hn h.next, hy, fun b' hb' => ?_⟩
    obtain ⟨b, hb1⟩ := h.dom n b' hn hb'
    rw [h.info n hn]; exact hb b hb1
  | ptr n off =>
    obtain ⟨hn, hy, hb⟩ := hr
    refine ⟨Nat.lt_of_lt_of_le hn h.next, hy, fun b' hb' => ?_⟩
    obtain ⟨b, hb1⟩ := h.dom n b' hn hb'
    rw [h.info n hn]; exact hb b hb1
  | yl n =>
    obtain ⟨hn, hy, hb⟩ := hr
    refine ⟨Nat.lt_of_lt_of_le hn h.next, hy, fun b' hb' => ?_⟩
    obtain ⟨b, hb1⟩ := h.dom n b' hn hb'
    rw [h.info n hn]; exact hb b hb1
  | mp n =>
    obtain ⟨hn, hy, hb⟩ := hr
    refine ⟨Nat.lt_of_lt_of_le hn h.next, hy, fun b' hb' => ?_⟩
    obtain ⟨b, hb1⟩ := h.dom n b' hn hb'
    rw [h.info n hn]; exact hb b hb1
  | iad cs off =>
    obtain ⟨b, o, arr, ty, fr, hy, hf, hb, hs⟩ := hr
    obtain ⟨h1, h2⟩ := h.keep b _ _ _ hf hb
    exact ⟨b, o, arr, ty, fr, hy, h1, h2, RepTs.mono h.keep hs⟩
  | _ => exact hr.elim
theorem VR1.mstep {P : Program} {s s' : Sg} {ρ ρ' : Rho} {w w' : World} (h : Mv s ρ w s' ρ' w') {x : V} {y : Value} (hr : VR1 P w s ρ x y) : VR1 P w' s' ρ' x y := by
  cases x with
  | clo g caps =>
    obtain ⟨l, hy, hl⟩ := hr
    exact ⟨l, hy, All2.mono (fun _ _ => VR0.mstep h) hl⟩
  | t x => exact VR0.mstep (x := .t x) h hr
  | loc n o l => exact VR0.mstep (x := .loc n o l) h hr
  | ptr n o => exact VR0.mstep (x := .ptr n o) h hr
  | iad n o => exact VR0.mstep (x := .iad n o) h hr
  | yl n => exact VR0.mstep (x := .yl n) h hr
  | mp n => exact VR0.mstep (x := .mp n) h hr
  | _ => exact hr.elim
theorem VR2.mstep {P : Program} {s s' : Sg} {ρ ρ' : Rho} {w w' : World} (h : Mv s ρ w s' ρ' w') {x : V} {y : Value} (hr : VR2 P w s ρ x y) : VR2 P w' s' ρ' x y := by
  cases x with
  | agg cs =>
    obtain ⟨l, hy, hl⟩ := hr
    exact ⟨l, hy, All2.mono (fun _ _ => VR1.mstep h) hl⟩
  | t x => exact VR1.mstep (P := P) (x := .t x) h hr
  | loc n o l => exact VR1.mstep (P := P) (x := .loc n o l) h hr
  | ptr n o => exact VR1.mstep (P := P) (x := .ptr n o) h hr
  | iad n o => exact VR1.mstep (P := P) (x := .iad n o) h hr
  | clo g c => exact VR1.mstep (P := P) (x := .clo g c) h hr
  | yl e => exact VR1.mstep (P := P) (x := .yl e) h hr
  | mp e => exact VR1.mstep (P := P) (x := .mp e) h hr
  | _ => exact hr.elim
theorem VR.mstep {P : Program} {s s' : Sg} {ρ ρ' : Rho} {w w' : World} (h : Mv s ρ w s' ρ' w') {x : V} {y : Value} (hr : VR P w s ρ x y) : VR P w' s' ρ' x y := by
  cases x with
  | tup vs =>
    obtain ⟨l, hy, hl⟩ := hr
    exact ⟨l, hy, All2.mono (fun _ _ => VR2.mstep h) hl⟩
  | junk => trivial
  | nob => exact hr
  | t x => exact VR2.mstep (P := P) (x := .t x) h hr
  | loc n o l => exact VR2.mstep (P := P) (x := .loc n o l) h hr
  | ptr n o => exact VR2.mstep (P := P) (x := .ptr n o) h hr
  | iad n o => exact VR2.mstep (P := P) (x := .iad n o) h hr
  | clo g c => exact VR2.mstep (P := P) (x := .clo g c) h hr
  | yl e => exact VR2.mstep (P := P) (x := .yl e) h hr
  | mp e => exact VR2.mstep (P := P) (x := .mp e) h hr
  | agg e => exact VR2.mstep (P := P) (x := .agg e) h hr
theorem BR.mstep {P : Program} {s s' : Sg} {ρ ρ' : Rho} {w w' : World} (h : Mv s ρ w s' ρ' w') {i : Info} (hi : ∀ bl, i.blk = some bl → w'.heap[bl]? = w.heap[bl]?) {b : Blk} (hr : BR P w s ρ i b) : BR P w' s' ρ' i b := by
  cases b with
  | arr k ty cs =>
    obtain ⟨h1, h2, h3⟩ := hr
    refine ⟨h1, h2, ?_⟩
    rcases h3 with h3 | ⟨bl, arr, h3, h4, h5, h6, h7⟩
    · exact .inl h3
    · exact .inr ⟨bl, arr, h3, (hi bl h3).trans h4, h5, h6, RepTs.mono h.keep h7⟩
  | box ty cs =>
    rcases hr with hr | ⟨bl, arr, h3, h4, h5, h6, h7⟩
    · exact .inl hr
    exact .inr ⟨bl, arr, h3, (hi bl h3).trans h4, h5, h6.mono fun _ _ => VR1.mstep h, h7⟩
  | mp es =>
    obtain ⟨l, arr, clk, h3, h4, h5, h6⟩ := hr
    exact ⟨l, arr, clk, h3, (hi l h3).trans h4, h5.mono fun _ _ hh => ⟨hh.1, hh.2.mstep h⟩, h6⟩
  | lp e ps asg bd st c =>
    obtain ⟨l, fn, dfs, tmps, h3, h4, h5⟩ := hr
    exact ⟨l, fn, dfs, tmps, h3, (hi l h3).trans h4, h5.mono fun _ _ => VR.mstep h⟩
theorem VR0.step {s s' : Sg} {ρ ρ' : Rho} {w w' : World} (h : Stp s ρ w s' ρ' w') {x : V} {y : Value} (hr : VR0 w s ρ x y) : VR0 w' s' ρ' x y := hr.mstep h.mv
theorem VR1.step {P : Program} {s s' : Sg} {ρ ρ' : Rho} {w w' : World} (h : Stp s ρ w s' ρ' w') {x : V} {y : Value} (hr : VR1 P w s ρ x y) : VR1 P w' s' ρ' x y := hr.mstep h.mv
theorem VR2.step {P : Program} {s s' : Sg} {ρ ρ' : Rho} {w w' : World} (h : Stp s ρ w s' ρ' w') {x : V} {y : Value} (hr : VR2 P w s ρ x y) : VR2 P w' s' ρ' x y := hr.mstep h.mv
theorem VR.step {P : Program} {s s' : Sg} {ρ ρ' : Rho} {w w' : World} (h : Stp s ρ w s' ρ' w') {x : V} {y : Value} (hr : VR P w s ρ x y) : VR P w' s' ρ' x y := hr.mstep h.mv
theorem BR.step {P : Program} {s s' : Sg} {ρ ρ' : Rho} {w w' : World} (h : Stp s ρ w s' ρ' w') {i : Info} (hi : ∀ bl, i.blk = some bl → w'.heap[bl]? = w.heap[bl]?) {b : Blk} (hr : BR P w s ρ i b) : BR P w' s' ρ' i b := hr.mstep h.mv hi
structure Chg (B : Nat) (s : Sg) (ρ : Rho) (w : World) (s' : Sg) (w' : World) (n : Nat) (i : Info) (b : Blk) : Prop where
  os : w'.os = w.os
  tape : w'.tape = w.tape
  output : w'.output = w.output
  size : w.heap.size ≤ w'.heap.size
  same : ∀ bl, bl < w.heap.size → i.blk ≠ some bl → (∀ m c, s.m m = some c → (ρ m).blk = some bl → s'.m m = some c) → w'.heap[bl]? = w.heap[bl]?
  here : ∀ m c, s'.m m = some c → (m = n ∧ c = b) ∨ (m ≠ n ∧ s.m m = some c ∧ ((ρ m).blk = none ∨ (ρ m).blk ≠ i.blk))
  name : (s.next ≤ n ∧ s'.next = n + 1) ∨ (s'.next = s.next ∧ n < s.next ∧ (∃ c, s.m n = some c) ∧ i = ρ n)
  loops : ∀ (l : Nat) (rec : Loop), w.heap[l]? = some (Obj.loop rec) → ∃ rec', w'.heap[l]? = some (Obj.loop rec')
  owned : ∀ bl, i.blk = some bl → B ≤ bl ∧ (w.heap.size ≤ bl ∨ ∃ m c, s.m m = some c ∧ (ρ m).blk = some bl)
def Rho.up (ρ : Rho) (n : Nat) (i : Info) : Rho := fun m => if m = n then i else ρ m
theorem Chg.stp {B : Nat} {s s' : Sg} {ρ : Rho} {w w' : World} {n : Nat} {i : Info} {b : Blk} (h : Chg B s ρ w s' w' n i b) : Stp s ρ w s' (ρ.up n i) w' where
  os := h.os
  tape := h.tape
  output := h.output
  size := h.size
  loops := h.loops
  same bl hb hf := by
    refine h.same bl hb (fun e => ?_) (fun m c hm hr => absurd hr (hf m c hm))
    rcases (h.owned bl e).2 with h1 | ⟨m, c, hm, hr⟩
    · omega
    · exact hf m c hm hr
  info m hm := by
    unfold Rho.up
    split
    · rename_i e; subst e
      rcases h.name with ⟨h1, _⟩ | ⟨_, _, _, h3⟩
      · omega
      · exact h3
    · rfl
  next := by rcases h.name with ⟨h1, h2⟩ | ⟨h1, _⟩ <;> omega
  dom m b' hm hb := by
    rcases h.here m b' hb with ⟨rfl, _⟩ | ⟨_, h1, _⟩
    · rcases h.name with ⟨h1, _⟩ | ⟨_, _, h3, _⟩
      · omega
      · exact h3
    · exact ⟨_, h1⟩
  free bl hb hf := by
    intro m c hm
    unfold Rho.up
    split
    · intro e
      rcases (h.owned bl e).2 with h1 | ⟨m', c', hm', hr⟩
      · omega
      · exact hf m' c' hm' hr
    · rename_i hne
      rcases h.here m c hm with ⟨h1, _⟩ | ⟨_, h1, _⟩
      · exact absurd h1 hne
      · exact hf m c h1
theorem Chg.sr {P : Program} {B : Nat} {s s' : Sg} {ρ : Rho} {w w' : World} {n : Nat} {i : Info} {b : Blk} (h : Chg B s ρ w s' w' n i b) (hs : SR P B s ρ w)
    (hb : BR P w' s' (ρ.up n i) i b) : SR P B s' (ρ.up n i) w' where
  tab := hs.tab.keep fun bl arr ty fr hbl hh => by
    refine (h.stp.same bl (heap_lt hh) fun n c hn hbn => ?_).trans hh
    have := hs.lo n c bl hn hbn
    omega
  lt m c hm := by
    rcases h.here m c hm with ⟨rfl, _⟩ | ⟨_, h1, _⟩
    · rcases h.name with ⟨_, h2⟩ | ⟨h1, h2, _⟩ <;> omega
    · have := hs.lt m c h1
      rcases h.name with ⟨_, h2⟩ | ⟨h1, h2, _⟩ <;> omega
  lo m c bl hm hbl := by
    unfold Rho.up at hbl
    split at hbl
    · exact (h.owned bl hbl).1
    · rename_i hne
      rcases h.here m c hm with ⟨h1, _⟩ | ⟨_, h1, _⟩
      · exact absurd h1 hne
      · exact hs.lo m c bl h1 hbl
  inj m m' c c' bl hm hm' hbl hbl' := by
    rcases h.here m c hm with ⟨rfl, _⟩ | ⟨hne, h1, hd⟩
    · rcases h.here m' c' hm' with ⟨rfl, _⟩ | ⟨hne', h1', hd'⟩
      · rfl
      · simp only [Rho.up, if_true, hne', if_false] at hbl hbl'
        rcases hd' with hd' | hd'
        · rw [hbl'] at hd'; cases hd'
        · exact absurd (hbl'.trans hbl.symm) hd'
    · rcases h.here m' c' hm' with ⟨rfl, _⟩ | ⟨hne', h1', hd'⟩
      · simp only [Rho.up, if_true, hne, if_false] at hbl hbl'
        rcases hd with hd | hd
        · rw [hbl] at hd; cases hd
        · exact absurd (hbl.trans hbl'.symm) hd
      · simp only [Rho.up, hne, hne', if_false] at hbl hbl'
        exact hs.inj m m' c c' bl h1 h1' hbl hbl'
  rep m c hm := by
    rcases h.here m c hm with ⟨rfl, rfl⟩ | ⟨hne, h1, hd⟩
    · simpa [Rho.up] using hb
    · simp only [Rho.up, hne, if_false]
      refine BR.step h.stp (fun bl hbl => h.same bl ?_ (fun e => ?_) (fun m' c' hm' hr' => ?_)) (hs.rep m c h1)
      · have := hs.rep m c h1
        cases c with
        | arr k ty cs =>
          obtain ⟨_, _, h3 | ⟨bl', arr, h3, h4, _⟩⟩ := this
          · rw [h3.1] at hbl; cases hbl
          · rw [h3] at hbl; cases hbl; exact heap_lt h4
        | box ty cs =>
          rcases this with h3 | ⟨bl', arr, h3, h4, _⟩
          · rw [h3.1] at hbl; cases hbl
          rw [h3] at hbl; cases hbl; exact heap_lt h4
        | mp es =>
          obtain ⟨l, arr, clk, h3, h4, _⟩ := this
          rw [h3] at hbl; cases hbl; exact heap_lt h4
        | lp e ps asg bd st c =>
          obtain ⟨l, fn, dfs, tmps, h3, h4, _⟩ := this
          rw [h3] at hbl; cases hbl; exact heap_lt h4
      · rcases hd with hd | hd
        · rw [hd] at hbl; cases hbl
        · exact hd (hbl.trans e.symm)
      · have := hs.inj m' m c' c bl hm' h1 hr' hbl
        subst this
        rw [h1] at hm'; cases hm'
        exact hm
end Go.V

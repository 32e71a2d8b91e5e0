/- Lemmas on the way to the statement of this claim; no conditions. -/
import Derived.Test.YtkdkajlgbhggdaaGreatDoorA22
namespace Go.V
open Go Go.RowKit
def k0q (P : Program) (g : Nat) (args : List V) (s : Sg) (v : V) (s' : Sg) : Prop := f8q P g args s fun v' s'' => v' = v ∧ s'' = s'
def g1x (P : Program) (s : Sg) (rs : List ResultVar) (res : V) (s1 : Sg) (e' : Env) (s' : Sg) : Prop :=
 ∃ vs, vres P s' e' rs = some vs ∧ vs.all e0z = true ∧ g7z s (fun v s2 => v = res ∧ s2 = s1) (pack vs) s'
def DoneK (P : Program) (rs : List ResultVar) (K : V → Sg → Prop) (e' : Env) (s' : Sg) : Prop :=
 ∃ vs, vres P s' e' rs = some vs ∧ vs.all e0z = true ∧ K (pack vs) s'
def Keep (s s' : Sg) : Prop := ∀ n b, n < s.next → s.m n = some b → s'.m n = some b
theorem Keep.refl (s : Sg) : Keep s s := fun _ _ _ h => h
theorem Keep.trans {s s1 s2 : Sg} (h : Keep s s1) (hn : s.next ≤ s1.next) (k : Keep s1 s2) : Keep s s2 := fun n b hlt hb => k n b (Nat.lt_of_lt_of_le hlt hn) (h n b hlt hb)
theorem Keep.add {s s1 : Sg} (h : Keep s s1) (hn : s.next ≤ s1.next) (b : Blk) : Keep s (s1.add b) := fun n c hlt hb => by
 have : n ≠ s1.next := by omega
 simp [Sg.add, this, h n c hlt hb]
theorem Keep.set {s s1 : Sg} (h : Keep s s1) {n : Nat} (hn : s.next ≤ n) (b : Blk) : Keep s (s1.set n b) := fun m c hlt hb => by
 have : m ≠ n := by omega
 simp [Sg.set, this, h m c hlt hb]
theorem Keep.del {s s1 : Sg} (h : Keep s s1) {n : Nat} (hn : s.next ≤ n) : Keep s (s1.del n) := fun m c hlt hb => by
 have : m ≠ n := by omega
 simp [Sg.del, this, h m c hlt hb]
section
variable {P : Program} {s s' s1 : Sg} {e' : Env}
theorem d0q {g : Nat} {fn : Func} {c : Code} {args : List V} {res : V} {s1 : Sg} (hf : P.funcs[g]? = some fn) (hb : fn.body = some c)
 (H : ∀ (Q : Exit → Env → Sg → Prop), (∀ x e' s', (x = .normal ∨ x = .ret) → g1x P s fn.results.toList res s1 e' s' → Q x e' s') → VW P c Q (args ++ List.replicate (fn.ntmps - args.length) .junk) s) : k0q P g args s res s1 := by
 refine f8q.settle (t5q hf hb ?_)
 exact H _ fun x e' s' hx hd => by
  obtain ⟨vs, h1, h2, h3⟩ := hd
  exact ⟨hx, vs, h1, h2, h3⟩
theorem b6q {g : Nat} {fn : Func} {c : Code} {args : List V} {K : V → Sg → Prop} (hf : P.funcs[g]? = some fn) (hb : fn.body = some c)
 (H : ∀ (Q : Exit → Env → Sg → Prop), (∀ x e' s', (x = .normal ∨ x = .ret) → DoneK P fn.results.toList K e' s' → Q x e' s') → VW P c Q (args ++ List.replicate (fn.ntmps - args.length) .junk) s) : f8q P g args s K := by
 refine t5q hf hb ?_
 exact H _ fun x e' s' hx hd => by
  obtain ⟨vs, h1, h2, h3⟩ := hd
  exact ⟨hx, vs, h1, h2, h3⟩
theorem f7q.d {g : Nat} {args : List V} {res : V} (h : f7q P g args res) (s : Sg) : k0q P g args s res s := h s
theorem k0q.v {g : Nat} {args : List V} {res : V} {K : V → Sg → Prop} (h : k0q P g args s res s1) (hk : K res s1) : f8q P g args s K := h.mono fun v s' h => by obtain ⟨rfl, rfl⟩ := h; exact hk
theorem Done.toS {rs : List ResultVar} {res : V} (h : Done P s rs res e' s') : g1x P s rs res s e' s' := h
theorem g7x (hn : s1.next = s.next) (h1 : ∀ n b, s1.m n = some b → n < s.next ∨ s.m n = some b) (h2 : ∀ n b, n < s.next → s1.m n = some b → s'.m n = some b ∧ (s.m n = some b ∨ bnm s.next b)) : g1x P s [] (.tup []) s1 e' s' :=
 ⟨[], rfl, rfl, .tup [], s', s1, y6z _ _, by simp [nm], ⟨hn, h1, h2⟩, rfl, rfl⟩
theorem m1x {t : Nat} {res : T} (hv : ev e' (.tmp t) = .t res) (hn : s1.next = s.next) (h1 : ∀ n b, s1.m n = some b → n < s.next ∨ s.m n = some b) (h2 : ∀ n b, n < s.next → s1.m n = some b → s'.m n = some b ∧ (s.m n = some b ∨ bnm s.next b)) :
 g1x P s [.tmp t] (.t res) s1 e' s' :=
 ⟨[.t res], by simp [vres, l5z, hv], rfl, .t res, s', s1, y6z _ _, trivial, ⟨hn, h1, h2⟩, rfl, rfl⟩
theorem d6q {t : Nat} {K : V → Sg → Prop} {v : V} (hv : ev e' (.tmp t) = v) (hs : e0z v = true) (hk : K v s') : DoneK P [.tmp t] K e' s' :=
 ⟨[v], by simp [vres, l5z, hv], by simp [hs], hk⟩
theorem o3q {t u : Nat} {K : V → Sg → Prop} {v v' : V} (hv : ev e' (.tmp t) = v) (hu : ev e' (.tmp u) = v') (hs : e0z v = true) (hs' : e0z v' = true) (hk : K (.tup [v, v']) s') : DoneK P [.tmp t, .tmp u] K e' s' :=
 ⟨[v, v'], by simp [vres, l5z, hv, hu], by simp [hs, hs'], hk⟩
end
end Go.V

/- Lemmas on the way to the statement of this claim; no conditions. -/
import Derived.Test.YtjidblndipcofaaDoorA25
namespace Go.V
open Go Go.RowKit
def DCall (P : Program) (g : Nat) (args : List V) (s : Sg) (v : V) (s' : Sg) : Prop := VCall P g args s fun v' s'' => v' = v ∧ s'' = s'
def DoneS (P : Program) (s : Sg) (rs : List ResultVar) (res : V) (s1 : Sg) (e' : Env) (s' : Sg) : Prop :=
  ∃ vs, vres P s' e' rs = some vs ∧ vs.all solid = true ∧ Settled s (fun v s2 => v = res ∧ s2 = s1) (pack vs) s'
def DoneK (P : Program) (rs : List ResultVar) (K : V → Sg → Prop) (e' : Env) (s' : Sg) : Prop :=
  ∃ vs, vres P s' e' rs = some vs ∧ vs.all solid = true ∧ K (pack vs) s'
def Keep (s s' : Sg) : Prop := ∀ n b, n < s.next → s.m n = some b → s'.m n = some b
theorem Keep.refl (s : Sg) : Keep s s := fun _ _ _ h => h
theorem Keep.trans {s s1 s2 : Sg} (h : Keep s s1) (hn : s.next ≤ s1.next) (k : Keep s1 s2) : Keep s s2 := fun n b hlt hb => k n b (Nat.lt_of_lt_of_le hlt hn) (h n b hlt hb)
theorem Keep.add {s s1 : Sg} (h : Keep s s1) (hn : s.next ≤ s1.next) (b : Blk) : Keep s (s1.add b) := fun n c hlt hb => by
  have : n ≠ s1.next := by omega
  simp [Sg.add, this, h n c hlt hb]
theorem Keep.set {s s1 : Sg} (h : Keep s s1) {n : Nat} (hn : s.next ≤ n) (b : Blk) : Keep s (s1.set n b) := fun m c hlt hb => by
  have : m ≠ n := by omega
  simp [Sg.set, this, h m c hlt hb]
theorem Keep.del {s s1 : Sg} (h : Keep s s1) {n : Nat} (hn : s.next ≤ n) : Keep s (s1.del n) := fun m c hlt hb => by
  have : m ≠ n := by omega
  simp [Sg.del, this, h m c hlt hb]
section
variable {P : Program} {s s' s1 : Sg} {e' : Env}
theorem dcall_of_body {g : Nat} {fn : Func} {c : Code} {args : List V} {res : V} {s1 : Sg} (hf : P.funcs[g]? = some fn) (hb : fn.body = some c)
    (H : ∀ (Q : Exit → Env → Sg → Prop), (∀ x e' s', (x = .normal ∨ x = .ret) → DoneS P s fn.results.toList res s1 e' s' → Q x e' s') → VW P c Q (args ++ List.replicate (fn.ntmps - args.length) .junk) s) : DCall P g args s res s1 := by
  refine VCall.settle (vcall_of_body hf hb ?_)
  exact H _ fun x e' s' hx hd => by
    obtain ⟨vs, h1, h2, h3⟩ := hd
    exact ⟨hx, vs, h1, h2, h3⟩
theorem kcall_of_body {g : Nat} {fn : Func} {c : Code} {args : List V} {K : V → Sg → Prop} (hf : P.funcs[g]? = some fn) (hb : fn.body = some c)
    (H : ∀ (Q : Exit → Env → Sg → Prop), (∀ x e' s', (x = .normal ∨ x = .ret) → DoneK P fn.results.toList K e' s' → Q x e' s') → VW P c Q (args ++ List.replicate (fn.ntmps - args.length) .junk) s) : VCall P g args s K := by
  refine vcall_of_body hf hb ?_
  exact H _ fun x e' s' hx hd => by
    obtain ⟨vs, h1, h2, h3⟩ := hd
    exact ⟨hx, vs, h1, h2, h3⟩
theorem PCall.d {g : Nat} {args : List V} {res : V} (h : PCall P g args res) (s : Sg) : DCall P g args s res s := h s
theorem DCall.v {g : Nat} {args : List V} {res : V} {K : V → Sg → Prop} (h : DCall P g args s res s1) (hk : K res s1) : VCall P g args s K := h.mono fun v s' h => by obtain ⟨rfl, rfl⟩ := h; exact hk
theorem Done.toS {rs : List ResultVar} {res : V} (h : Done P s rs res e' s') : DoneS P s rs res s e' s' := h
theorem dones_none (hn : s1.next = s.next) (h1 : ∀ n b, s1.m n = some b → n < s.next ∨ s.m n = some b) (h2 : ∀ n b, n < s.next → s1.m n = some b → s'.m n = some b ∧ (s.m n = some b ∨ bnm s.next b)) : DoneS P s [] (.tup []) s1 e' s' :=
  ⟨[], rfl, rfl, .tup [], s', s1, wk_one _ _, by simp [nm], ⟨hn, h1, h2⟩, rfl, rfl⟩
theorem dones_tmp {t : Nat} {res : T} (hv : ev e' (.tmp t) = .t res) (hn : s1.next = s.next) (h1 : ∀ n b, s1.m n = some b → n < s.next ∨ s.m n = some b) (h2 : ∀ n b, n < s.next → s1.m n = some b → s'.m n = some b ∧ (s.m n = some b ∨ bnm s.next b)) :
    DoneS P s [.tmp t] (.t res) s1 e' s' :=
  ⟨[.t res], by simp [vres, vres1, hv], rfl, .t res, s', s1, wk_one _ _, trivial, ⟨hn, h1, h2⟩, rfl, rfl⟩
theorem donek_tmp {t : Nat} {K : V → Sg → Prop} {v : V} (hv : ev e' (.tmp t) = v) (hs : solid v = true) (hk : K v s') : DoneK P [.tmp t] K e' s' :=
  ⟨[v], by simp [vres, vres1, hv], by simp [hs], hk⟩
theorem donek_pair {t u : Nat} {K : V → Sg → Prop} {v v' : V} (hv : ev e' (.tmp t) = v) (hu : ev e' (.tmp u) = v') (hs : solid v = true) (hs' : solid v' = true) (hk : K (.tup [v, v']) s') : DoneK P [.tmp t, .tmp u] K e' s' :=
  ⟨[v, v'], by simp [vres, vres1, hv, hu], by simp [hs, hs'], hk⟩
end
end Go.V

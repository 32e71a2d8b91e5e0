/- Lemmas on the way to the statement of this claim; no conditions. -/
import Derived.Test.YtjidblndipcofaaDoorA22
namespace Go.V
open Go Go.RowKit
theorem vsk {P : Program} {Q : Exit → Env → Sg → Prop} {e : Env} {s : Sg} {c d : Code} (h : ∀ K : Env → Sg → Prop, (∀ e s, VW P d Q e s → K e s) → VW P c (thenV K Q) e s) : VW P (.seq c d) Q e s := vw_seq (h _ fun _ _ h => h)
def Done (P : Program) (s : Sg) (rs : List ResultVar) (res : V) (e' : Env) (s' : Sg) : Prop :=
  ∃ vs, vres P s' e' rs = some vs ∧ vs.all solid = true ∧ Settled s (fun v s1 => v = res ∧ s1 = s) (pack vs) s'
section
variable {P : Program} {s s' : Sg} {e' : Env}
theorem pcall_of_body {g : Nat} {fn : Func} {c : Code} {args : List V} {res : V} (hf : P.funcs[g]? = some fn) (hb : fn.body = some c)
    (H : ∀ (s : Sg) (Q : Exit → Env → Sg → Prop), (∀ x e' s', (x = .normal ∨ x = .ret) → Done P s fn.results.toList res e' s' → Q x e' s') → VW P c Q (args ++ List.replicate (fn.ntmps - args.length) .junk) s) : PCall P g args res := by
  intro s
  refine VCall.settle (vcall_of_body hf hb ?_)
  exact H s _ fun x e' s' hx hd => by
    obtain ⟨vs, h1, h2, h3⟩ := hd
    exact ⟨hx, vs, h1, h2, h3⟩
theorem wk_one (v : V) (s : Sg) : Wk [v] s [v] s := Wk.refl _ _
theorem done_tmp {t : Nat} {res : T} (hv : ev e' (.tmp t) = .t res) (hs : ∀ n b, n < s.next → s.m n = some b → s'.m n = some b) : Done P s [.tmp t] (.t res) e' s' :=
  ⟨[.t res], by simp [vres, vres1, hv], rfl, .t res, s', s, wk_one _ _, trivial, ⟨rfl, fun n b h => .inr h, fun n b hl h => ⟨hs n b hl h, .inl h⟩⟩, rfl, rfl⟩
theorem done_loc {t n len k : Nat} {el : TypeId} {cs : List T} (hv : ev e' (.tmp t) = .loc n 0 len) (hn : s'.m n = some (.arr k el cs)) (hl : cs.length = len * k) (hnew : s.next ≤ n)
    (hs : ∀ m b, m < s.next → s.m m = some b → s'.m m = some b) : Done P s [.tmp t] (.t (.sl k cs)) e' s' := by
  refine ⟨[.loc n 0 len], by simp [vres, vres1, hv], rfl, .t (.sl k cs), s'.del n, s, ?_, trivial, ⟨rfl, fun n b h => .inr h, fun m b hlt h => ⟨?_, .inl h⟩⟩, rfl, rfl⟩
  · refine ⟨rfl, fun m b hb => ?_, .inr (.inl (.inr (.inl ⟨n, 0, len, k, el, cs, rfl, hn, by simp [Sg.del], by omega, by rw [List.drop_zero, List.take_of_length_le (by omega)]⟩))), trivial⟩
    simp only [Sg.del] at hb
    split at hb
    · cases hb
    · exact ⟨b, hb, by cases b <;> simp [BWk]; exact all2_refl (fun _ => .inl rfl) _⟩
  · have hne : m ≠ n := by omega
    simp [Sg.del, hne, hs m b hlt h]
theorem done_pair {t u : Nat} {a b : T} (hv : ev e' (.tmp t) = .t a) (hu : ev e' (.tmp u) = .t b) (hs : ∀ n b, n < s.next → s.m n = some b → s'.m n = some b) : Done P s [.tmp t, .tmp u] (.tup [.t a, .t b]) e' s' :=
  ⟨[.t a, .t b], by simp [vres, vres1, hv, hu], rfl, .tup [.t a, .t b], s', s, wk_one _ _, by simp [nm, nm2, nm1, nm0], ⟨rfl, fun n b h => .inr h, fun n b hl h => ⟨hs n b hl h, .inl h⟩⟩, rfl, rfl⟩
theorem done_nil {t k : Nat} (hk : 0 < k) (hv : ev e' (.tmp t) = .t (.v (.slice none 0 0))) (hs : ∀ n b, n < s.next → s.m n = some b → s'.m n = some b) : Done P s [.tmp t] (.t (.sl k [])) e' s' :=
  ⟨[.t (.v (.slice none 0 0))], by simp [vres, vres1, hv], rfl, .t (.sl k []), s', s,
    ⟨rfl, fun n b hb => ⟨b, hb, by cases b <;> simp [BWk]; exact all2_refl (fun _ => .inl rfl) _⟩, .inr (.inl (.inr (.inr ⟨k, hk, rfl, rfl⟩))), trivial⟩,
    trivial, ⟨rfl, fun n b h => .inr h, fun n b hl h => ⟨hs n b hl h, .inl h⟩⟩, rfl, rfl⟩
theorem putv_none (e : Env) (v : V) : putv e none v = e := rfl
theorem setAll_one {α : Type} (cs : List α) (i : Nat) (x : α) (h : i < cs.length) : setAll cs i [x] = cs.set i x := by
  unfold setAll
  rw [List.set_eq_take_append_cons_drop, if_pos h]
  simp
end
end Go.V

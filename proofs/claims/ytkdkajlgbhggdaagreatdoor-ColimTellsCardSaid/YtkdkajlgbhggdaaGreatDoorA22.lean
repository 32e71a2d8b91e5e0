/- Lemmas on the way to the statement of this claim; no conditions. -/
import Derived.Test.YtkdkajlgbhggdaaGreatDoorA12
import Derived.Test.YtkdkajlgbhggdaaGreatDoorA21
namespace Go.V
open Go Go.RowKit
theorem vsk {P : Program} {Q : Exit → Env → Sg → Prop} {e : Env} {s : Sg} {c d : Code} (h : ∀ K : Env → Sg → Prop, (∀ e s, VW P d Q e s → K e s) → VW P c (a1q K Q) e s) : VW P (.seq c d) Q e s := vw_seq (h _ fun _ _ h => h)
def Done (P : Program) (s : Sg) (rs : List ResultVar) (res : V) (e' : Env) (s' : Sg) : Prop :=
 ∃ vs, vres P s' e' rs = some vs ∧ vs.all e0z = true ∧ g7z s (fun v s1 => v = res ∧ s1 = s) (pack vs) s'
section
variable {P : Program} {s s' : Sg} {e' : Env}
theorem b4q {g : Nat} {fn : Func} {c : Code} {args : List V} {res : V} (hf : P.funcs[g]? = some fn) (hb : fn.body = some c)
 (H : ∀ (s : Sg) (Q : Exit → Env → Sg → Prop), (∀ x e' s', (x = .normal ∨ x = .ret) → Done P s fn.results.toList res e' s' → Q x e' s') → VW P c Q (args ++ List.replicate (fn.ntmps - args.length) .junk) s) : f7q P g args res := by
 intro s
 refine f8q.settle (t5q hf hb ?_)
 exact H s _ fun x e' s' hx hd => by
  obtain ⟨vs, h1, h2, h3⟩ := hd
  exact ⟨hx, vs, h1, h2, h3⟩
theorem y6z (v : V) (s : Sg) : Wk [v] s [v] s := Wk.refl _ _
theorem a7q {t : Nat} {res : T} (hv : ev e' (.tmp t) = .t res) (hs : ∀ n b, n < s.next → s.m n = some b → s'.m n = some b) : Done P s [.tmp t] (.t res) e' s' :=
 ⟨[.t res], by simp [vres, l5z, hv], rfl, .t res, s', s, y6z _ _, trivial, ⟨rfl, fun n b h => .inr h, fun n b hl h => ⟨hs n b hl h, .inl h⟩⟩, rfl, rfl⟩
theorem f0z {t n len k : Nat} {el : TypeId} {cs : List T} (hv : ev e' (.tmp t) = .loc n 0 len) (hn : s'.m n = some (.arr k el cs)) (hl : cs.length = len * k) (hnew : s.next ≤ n)
 (hs : ∀ m b, m < s.next → s.m m = some b → s'.m m = some b) : Done P s [.tmp t] (.t (.sl k cs)) e' s' := by
 refine ⟨[.loc n 0 len], by simp [vres, l5z, hv], rfl, .t (.sl k cs), s'.del n, s, ?_, trivial, ⟨rfl, fun n b h => .inr h, fun m b hlt h => ⟨?_, .inl h⟩⟩, rfl, rfl⟩
 ·refine ⟨rfl, fun m b hb => ?_, .inr (.inl (.inr (.inl ⟨n, 0, len, k, el, cs, rfl, hn, by simp [Sg.del], by omega, by rw [List.drop_zero, List.take_of_length_le (by omega)]⟩))), trivial⟩
  simp only [Sg.del] at hb
  split at hb
  ·cases hb
  ·exact ⟨b, hb, by cases b <;> simp [BWk]; exact h8q (fun _ => .inl rfl) _⟩
 ·have hne : m ≠ n := by omega
  simp [Sg.del, hne, hs m b hlt h]
theorem l9x {t u : Nat} {a b : T} (hv : ev e' (.tmp t) = .t a) (hu : ev e' (.tmp u) = .t b) (hs : ∀ n b, n < s.next → s.m n = some b → s'.m n = some b) : Done P s [.tmp t, .tmp u] (.tup [.t a, .t b]) e' s' :=
 ⟨[.t a, .t b], by simp [vres, l5z, hv, hu], rfl, .tup [.t a, .t b], s', s, y6z _ _, by simp [nm, nm2, nm1, nm0], ⟨rfl, fun n b h => .inr h, fun n b hl h => ⟨hs n b hl h, .inl h⟩⟩, rfl, rfl⟩
theorem s8q {t u n len k : Nat} {el : TypeId} {cs : List T} {b : T} (hv : ev e' (.tmp t) = .loc n 0 len) (hu : ev e' (.tmp u) = .t b) (hn : s'.m n = some (.arr k el cs)) (hl : cs.length = len * k) (hnew : s.next ≤ n)
 (hs : ∀ m b, m < s.next → s.m m = some b → s'.m m = some b) : Done P s [.tmp t, .tmp u] (.tup [.t (.sl k cs), .t b]) e' s' := by
 have hw : VWk s' (s'.del n) (.loc n 0 len) (.t (.sl k cs)) := .inr (.inl ⟨n, 0, len, k, el, cs, rfl, hn, by simp [Sg.del], by omega, by rw [List.drop_zero, List.take_of_length_le (by omega)]⟩)
 refine ⟨[.loc n 0 len, .t b], by simp [vres, l5z, hv, hu], rfl, .tup [.t (.sl k cs), .t b], s'.del n, s, ?_, by simp [nm, nm2, nm1, nm0], ⟨rfl, fun n b h => .inr h, fun m b hlt h => ⟨?_, .inl h⟩⟩, rfl, rfl⟩
 ·refine ⟨rfl, fun m b hb => ?_, .inr (.inr (.inr ⟨_, _, rfl, rfl, .inl hw, .inl (.inl rfl), trivial⟩)), trivial⟩
  simp only [Sg.del] at hb
  split at hb
  ·cases hb
  ·exact ⟨b, hb, by cases b <;> simp [BWk]; exact h8q (fun _ => .inl rfl) _⟩
 ·have hne : m ≠ n := by omega
  simp [Sg.del, hne, hs m b hlt h]
theorem g3q {t u k : Nat} {b : T} (hk : 0 < k) (hv : ev e' (.tmp t) = .t (.v (.slice none 0 0))) (hu : ev e' (.tmp u) = .t b) (hs : ∀ n b, n < s.next → s.m n = some b → s'.m n = some b) : Done P s [.tmp t, .tmp u] (.tup [.t (.sl k []), .t b]) e' s' :=
 ⟨[.t (.v (.slice none 0 0)), .t b], by simp [vres, l5z, hv, hu], rfl, .tup [.t (.sl k []), .t b], s', s,
  ⟨rfl, fun n b hb => ⟨b, hb, by cases b <;> simp [BWk]; exact h8q (fun _ => .inl rfl) _⟩, .inr (.inr (.inr ⟨_, _, rfl, rfl, .inl (.inr (.inr ⟨k, hk, rfl, rfl⟩)), .inl (.inl rfl), trivial⟩)), trivial⟩,
  by simp [nm, nm2, nm1, nm0], ⟨rfl, fun n b h => .inr h, fun n b hl h => ⟨hs n b hl h, .inl h⟩⟩, rfl, rfl⟩
theorem x0z (e : Env) (v : V) : putv e none v = e := rfl
theorem h0z (s : Sg) (b c : Blk) : (s.add b).set s.next c = s.add c := by
 unfold Sg.add Sg.set
 congr 1
 funext j
 by_cases h : j = s.next <;> simp [h]
theorem h4q {α : Type} (cs : List α) (i : Nat) (x : α) (h : i < cs.length) : setAll cs i [x] = cs.set i x := by
 unfold setAll
 rw [List.set_eq_take_append_cons_drop, if_pos h]
 simp
end
end Go.V

namespace Go.V
open Go Go.RowKit
def isFn (P : Program) (g : Nat) : Prop := ∃ fn, P.funcs[g]? = some fn ∧ fn.body.isSome = true ∧ fn.name ≠ "runtime.NumGoroutine"
def wop (tr : Bool) (P : Program) (o : Oper) (e : Env) (s : Sg) (K : V → Sg → Prop) : Prop :=
 match o.op with
 | .call c => match c.callee with
  | .value x => match ev e x with
   | .t (.v (.func (.func g) ⟨[]⟩ ⟨[]⟩)) => isFn P g ∧ f8q P g (c.args.toList.map (ev e)) s K
   | .clo g caps => isFn P g ∧ f8q P g (c.args.toList.map (ev e) ++ caps) s K
   | _ => OpG P o e s K
  | _ => vopx tr P o e s K
 | _ => vopx tr P o e s K
def gow (tr : Bool) (P : Program) (ops : Array Oper) (o : Oper) (e : Env) (s : Sg) (K : V → Sg → Prop) : Prop :=
 match o.guard with
 | none => wop tr P o e s K
 | some (j, want) => match gtmp ops j with
  | some t => match ev e (.tmp t) with
   | .t (.v (.bool b)) => (b = want → wop tr P o e s K) ∧ (b ≠ want → K .junk s)
   | _ => False
  | none => False
def wops (tr : Bool) (P : Program) (ops : Array Oper) : List Oper → (Env → Sg → Prop) → Env → Sg → Prop
 | [], K, e, s => K e s
 | o :: l, K, e, s => gow tr P ops o e s (fun v s' => wops tr P ops l K (putv e o.dst v) s')
def b2q (v : V) (A B : Prop) : Prop := match v with
 | .t (.v (.bool b)) => (b = true → A) ∧ (b = false → B)
 | _ => False
section
variable {tr : Bool} {P : Program} {ops : Array Oper} {o : Oper} {e : Env} {s : Sg} {Q : Exit → Env → Sg → Prop}
theorem f7q.v {g : Nat} {args : List V} {res : V} {K : V → Sg → Prop} (h : f7q P g args res) (hk : K res s) : f8q P g args s K := (h s).mono fun v s' h => by obtain ⟨rfl, rfl⟩ := h; exact hk
theorem y8z {K : V → Sg → Prop} (h : wop tr P o e s K) : OpG P o e s K := by
 unfold wop at h
 split at h
 ·rename_i c ho
  split at h
  ·rename_i x hc
   split at h
   ·rename_i g hx
    obtain ⟨⟨fn, h1, h2, h3⟩, h⟩ := h
    exact f8z ho hc (.inr ⟨hx, rfl⟩) h1 h2 h3 (by rw [List.append_nil]; exact h)
   ·rename_i g caps hx
    obtain ⟨⟨fn, h1, h2, h3⟩, h⟩ := h
    exact f8z ho hc (.inl hx) h1 h2 h3 h
   ·exact h
  ·exact l5q h
 ·exact l5q h
theorem gow_opi {K : V → Sg → Prop} (h : gow tr P ops o e s K) : OpI P ops o e s K := by
 unfold gow at h
 unfold OpI
 split at h
 ·rename_i hg; rw [hg]; exact y8z h
 ·rename_i j want hg
  rw [hg]
  split at h
  ·rename_i t ht
   split at h
   ·rename_i b hb
    unfold gtmp at ht
    split at ht
    ·rename_i oj hj
     exact ⟨oj, t, hj, ht, .inl ⟨b, hb, fun h1 => y8z (h.1 h1), fun h1 => .inl (h.2 h1)⟩⟩
    ·cases ht
   ·exact h.elim
  ·exact h.elim
theorem p0z : ∀ (l : List Oper) (i : Nat) {e : Env} {s : Sg}, (∀ j o, l[j]? = some o → ops[i + j]? = some o) → wops tr P ops l (fun e s => Q .normal e s) e s → VL P ops Q (List.range' i l.length) e s
 | [], i, e, s, _, h => l4z h
 | o :: l, i, e, s, hl, h => by
  have ho : ops[i]? = some o := hl 0 o rfl
  intro r B M ρ a w QQ hs hk
  rw [List.length_cons, List.range'_succ, wpOpsIn_cons]
  refine j2z ho (gow_opi h) hs fun a' w' v s' ρ' hK h1 h2 => ?_
  exact p0z l (i + 1) (fun j o' hj => by rw [Nat.add_assoc, Nat.add_comm 1 j]; exact hl (j + 1) o' (by simpa using hj)) hK r B M ρ' a' w' QQ h1 fun x e2 s2 ρ2 a2 w2 q2 hs2 hst2 => hk x e2 s2 ρ2 a2 w2 q2 hs2 (h2.trans hst2)
theorem j9q {id : Nat} (tr : Bool) (h : wops tr P ops ops.toList (fun e s => Q .normal e s) e s) : VW P (.region id ops false) Q e s := by
 refine l6z ?_
 have := p0z (P := P) (ops := ops) (Q := Q) (tr := tr) ops.toList 0 (fun j o hj => by simpa using hj) h
 rw [List.range_eq_range']
 simpa using this
theorem vck {x : Operand} {c d : Code} (h : ∀ A B : Prop, (VW P c Q e s → A) → (VW P d Q e s → B) → b2q (ev e x) A B) : VW P (.cond x c d) Q e s := by
 have := h _ _ id id
 unfold b2q at this
 split at this
 ·rename_i b hb
  refine vw_cond b hb ?_
  cases b
  ·simpa using this.2 rfl
  ·simpa using this.1 rfl
 ·exact this.elim
end
end Go.V

namespace Go.V
open Go Go.RowKit
def vopb (P : Program) (o : Oper) (e : Env) (s : Sg) (K : V → Sg → Prop) : Prop :=
 match o.op with
 | .buildSlice t len parts => match m0q P t with
  | some (el, k, _, zs) => match d9q e parts.toList with
   | some ps => match g7q (fun i => some (i, 1)) (repl (zs.map fun z => V.t (.v z)) len) ps with
    | some cs => k = 1 ∧ len ≤ 1000000 ∧ 0 < len ∧ K (.loc s.next 0 len) (s.add (.box el cs))
    | none => False
   | none => False
  | none => False
 | .call c => match c.callee with
  | .builtin .append => match c.args.toList, c.argTypes.toList with
   | [x, y], [t, t'] => match m0q P t with
    | some (el, k, bytes, _) => match dstB s el (ev e x) with
     | some (olds, s1) => match srcB s (ev e y) with
      | some news => t' = t ∧ k = 1 ∧ (olds.length + news.length) * bytes ≤ 100000000000000 ∧ olds.length + news.length ≤ 100000000000000 ∧ K (.loc s.next 0 (olds.length + news.length)) (s1.add (.box el (olds ++ news)))
      | none => False
     | none => False
    | none => False
   | _, _ => False
  | _ => vopx false P o e s K
 | _ => vopx false P o e s K
theorem j5x {P : Program} {o : Oper} {e : Env} {s : Sg} {K : V → Sg → Prop} (h : vopb P o e s K) : OpG P o e s K := by
 unfold vopb at h
 split at h
 ·rename_i t len parts ho
  split at h
  ·rename_i el k bytes zs hi
   obtain ⟨hu, hk, hb, hz, hk0, hzl⟩ := l0q hi
   split at h
   ·rename_i ps hps
    split at h
    ·rename_i cs hcs
     obtain ⟨rfl, h1, h2, h⟩ := h
     exact (c4z ho hu hk hz hzl h1 h2 hps hcs h).opg
    ·exact h.elim
   ·exact h.elim
  ·exact h.elim
 ·rename_i c ho
  split at h
  ·rename_i hc
   split at h
   ·rename_i x y t t' ha ht
    split at h
    ·rename_i el k bytes zs hi
     obtain ⟨hu, hk, hb, hz, hk0, hzl⟩ := l0q hi
     split at h
     ·rename_i olds s1 hd
      split at h
      ·rename_i news hs
       obtain ⟨rfl, rfl, h1, h2, h⟩ := h
       exact (s6z ho hc (by apply Array.toList_inj.1; rw [ha]) (by apply Array.toList_inj.1; rw [ht]) hu hk hb hz hzl hd hs h1 h2 h).opg
      ·exact h.elim
     ·exact h.elim
    ·exact h.elim
   ·exact h.elim
  ·exact l5q h
 ·exact l5q h
section
variable {P : Program} {ops : Array Oper} {o : Oper} {e : Env} {s : Sg} {Q : Exit → Env → Sg → Prop}
end
end Go.V

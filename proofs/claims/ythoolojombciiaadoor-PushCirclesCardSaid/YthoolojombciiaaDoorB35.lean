/- Lemmas on the way to the statement of this claim; no conditions. -/
import Derived.Test.YthoolojombciiaaDoorB34
namespace Go.V
open Go Go.RowKit
section
variable {P : Program} {e : Env} {s : Sg} {ops : Array Oper} {Q : Exit → Env → Sg → Prop}
theorem opi_plain {o : Oper} {K : V → Sg → Prop} (hg : o.guard = none) (h : OpG P o e s K) : OpI P ops o e s K := by
  unfold OpI; rw [hg]; exact h
def IsOp (ops : Array Oper) (i : Nat) (op : Op) (dst : Option Tmp) : Prop := ∃ o, ops[i]? = some o ∧ o.op = op ∧ o.dst = dst ∧ o.guard = none
theorem vw_lls {id p q r a b c : Nat} {t0 t1 t2 : TypeId} (hm : P.follows .mixedOrders = true) (hsz : ops.size = 4)
    (k0 : Region.ready .any ops #[false, false, false, false] = [0, 1]) (k1 : Region.ready .any ops #[true, false, false, false] = [1, 2]) (k2 : Region.ready .any ops #[false, true, false, false] = [0])
    (k3 : Region.ready .any ops #[true, true, false, false] = [2]) (k4 : Region.ready .any ops #[true, false, true, false] = [1]) (k5 : Region.ready .any ops #[true, true, true, false] = [3]) (k6 : Region.ready .any ops #[true, true, true, true] = [])
    (i0 : IsOp ops 0 (.load t0 (.tmp p)) (some a)) (i1 : IsOp ops 1 (.load t1 (.tmp q)) (some b)) (i2 : IsOp ops 2 (.store t2 (.tmp r) (.tmp a)) none) (i3 : IsOp ops 3 (.assign (.tmp b)) (some c))
    (hd : (p ≠ b ∧ q ≠ a ∧ r ≠ a ∧ r ≠ b ∧ a ≠ b)) (hla : a < e.length) (hlb : b < e.length)
    {va vb : V} {n off : Nat} {ty : TypeId} {cs xs : List V} (h0 : dLoad P s t0 (ev e (.tmp p)) = some va) (h1 : dLoad P s t1 (ev e (.tmp q)) = some vb)
    (hr : ev e (.tmp r) = .ptr n off) (hn : s.m n = some (.box ty cs)) (hx : va.cells = some xs) (hk : szOf P t2 = some xs.length) (hle : off + xs.length ≤ cs.length)
    (h1' : dLoad P (s.set n (.box ty (setAll cs off xs))) t1 (ev e (.tmp q)) = some vb)
    (hQ : ∀ e', ev e' (.tmp c) = vb → (∀ t, t ≠ a → t ≠ b → t ≠ c → ev e' (.tmp t) = ev e (.tmp t)) → e'.length = e.length → (c < e.length → Q .normal e' (s.set n (.box ty (setAll cs off xs))))) (hlc : c < e.length) : VW P (.region id ops true) Q e s := by
  obtain ⟨o0, g0, p0, d0, u0⟩ := i0
  obtain ⟨o1, g1, p1, d1, u1⟩ := i1
  obtain ⟨o2, g2, p2, d2, u2⟩ := i2
  obtain ⟨o3, g3, p3, d3, u3⟩ := i3
  obtain ⟨n1, n2, n3, n4, n5⟩ := hd
  have end_ : ∀ fuel e', ev e' (.tmp b) = vb → (∀ t, t ≠ a → t ≠ b → ev e' (.tmp t) = ev e (.tmp t)) → e'.length = e.length → VA P ops Q (fuel + 1) #[true, true, true, false] e' (s.set n (.box ty (setAll cs off xs))) := by
    intro fuel e' hb he hl
    refine va_step (by rw [k5]; simp) fun i o hi ho => ?_
    rw [k5, List.mem_singleton] at hi; subst hi
    rw [g3] at ho; cases ho
    refine opi_plain u3 (op_assign p3 ?_)
    refine va_done k6 ?_ _
    rw [d3, hb]
    refine hQ _ (by rw [ev_hit (by omega)]) (fun t h1 h2 h3 => ?_) (by rw [lpv, hl]) hlc
    rw [ev_miss (by simp; omega)]; exact he t h1 h2
  have store_ : ∀ (fuel : Nat) (L : Array Bool) (e' : Env), ev e' (.tmp a) = va → ev e' (.tmp r) = .ptr n off → VA P ops Q fuel (L.setIfInBounds 2 true) e' (s.set n (.box ty (setAll cs off xs))) → OpI P ops o2 e' s (fun v s' => VA P ops Q fuel (L.setIfInBounds 2 true) (putv e' o2.dst v) s') := by
    intro fuel L e' ha hr' h
    refine opi_plain u2 (op_store p2 hr' hn ha hx hk hle ?_)
    rw [d2]; exact h
  refine vw_phase hm fun L hL fuel hf => ?_
  obtain ⟨L⟩ := L
  obtain ⟨hLs, hLv⟩ := hL
  rw [hsz] at hLs hf
  have hL0 : (⟨L⟩ : Array Bool) = #[false, false, false, false] := by
    match L, hLs with
    | [x0, x1, x2, x3], _ =>
      have f : ∀ j, j < 4 → ¬ ((#[x0, x1, x2, x3] : Array Bool)[j]? = some true) := fun j hj h => by have := (hLv j (by omega)).1 h; omega
      have a0 := f 0 (by omega); have a1 := f 1 (by omega); have a2 := f 2 (by omega); have a3 := f 3 (by omega)
      simp at a0 a1 a2 a3
      subst a0; subst a1; subst a2; subst a3; rfl
  rw [hL0]
  obtain ⟨fuel, rfl⟩ : ∃ f, fuel = f + 4 := ⟨fuel - 4, by omega⟩
  refine va_step (by rw [k0]; simp) fun i o hi ho => ?_
  rw [k0] at hi
  simp only [List.mem_cons, List.not_mem_nil, or_false] at hi
  rcases hi with rfl | rfl
  · rw [g0] at ho; cases ho
    refine opi_plain u0 (op_load p0 rfl h0 ?_)
    rw [d0]
    show VA P ops Q (fuel + 3) #[true, false, false, false] _ s
    refine va_step (by rw [k1]; simp) fun i o hi ho => ?_
    rw [k1] at hi
    simp only [List.mem_cons, List.not_mem_nil, or_false] at hi
    rcases hi with rfl | rfl
    · rw [g1] at ho; cases ho
      refine opi_plain u1 (op_load p1 (by rw [ev_miss (by simp; omega)]) h1 ?_)
      rw [d1]
      show VA P ops Q (fuel + 2) #[true, true, false, false] _ s
      refine va_step (by rw [k3]; simp) fun i o hi ho => ?_
      rw [k3, List.mem_singleton] at hi; subst hi
      rw [g2] at ho; cases ho
      refine store_ _ _ _ (by rw [ev_miss (by simp; omega), ev_hit hla]) (by rw [ev_miss (by simp; omega), ev_miss (by simp; omega), hr]) ?_
      exact end_ _ _ (by rw [ev_hit (by rw [lpv]; exact hlb)]) (fun t h1 h2 => by rw [ev_miss (by simp; omega), ev_miss (by simp; omega)]) (by simp [lpv])
    · rw [g2] at ho; cases ho
      refine store_ _ _ _ (by rw [ev_hit hla]) (by rw [ev_miss (by simp; omega), hr]) ?_
      show VA P ops Q (fuel + 2) #[true, false, true, false] _ _
      refine va_step (by rw [k4]; simp) fun i o hi ho => ?_
      rw [k4, List.mem_singleton] at hi; subst hi
      rw [g1] at ho; cases ho
      refine opi_plain u1 (op_load p1 (by rw [ev_miss (by simp; omega)]) h1' ?_)
      rw [d1]
      exact end_ _ _ (by rw [ev_hit (by rw [lpv]; exact hlb)]) (fun t h1 h2 => by rw [ev_miss (by simp; omega), ev_miss (by simp; omega)]) (by simp [lpv])
  · rw [g1] at ho; cases ho
    refine opi_plain u1 (op_load p1 rfl h1 ?_)
    rw [d1]
    show VA P ops Q (fuel + 3) #[false, true, false, false] _ s
    refine va_step (by rw [k2]; simp) fun i o hi ho => ?_
    rw [k2, List.mem_singleton] at hi; subst hi
    rw [g0] at ho; cases ho
    refine opi_plain u0 (op_load p0 (by rw [ev_miss (by simp; omega)]) h0 ?_)
    rw [d0]
    show VA P ops Q (fuel + 2) #[true, true, false, false] _ s
    refine va_step (by rw [k3]; simp) fun i o hi ho => ?_
    rw [k3, List.mem_singleton] at hi; subst hi
    rw [g2] at ho; cases ho
    refine store_ _ _ _ (by rw [ev_hit (by rw [lpv]; exact hla)]) (by rw [ev_miss (by simp; omega), ev_miss (by simp; omega), hr]) ?_
    exact end_ _ _ (by rw [ev_miss (by simp; omega), ev_hit hlb]) (fun t h1 h2 => by rw [ev_miss (by simp; omega), ev_miss (by simp; omega)]) (by simp [lpv])
end
end Go.V

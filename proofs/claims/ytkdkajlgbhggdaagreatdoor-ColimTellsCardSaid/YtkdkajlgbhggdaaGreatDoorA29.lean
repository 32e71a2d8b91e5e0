/- Lemmas on the way to the statement of this claim; no conditions. -/
import Derived.Test.YtkdkajlgbhggdaaGreatDoorA27
import Derived.Test.YtkdkajlgbhggdaaGreatDoorA28
namespace Go.V
open Go Go.RowKit
section
variable {P : Program} {o : Oper} {e : Env} {s : Sg} {K : V → Sg → Prop}
theorem v8q {md : Nat} {ops : Array Oper} {Q : Exit → Env → Sg → Prop} (rest : List Nat) : ∀ (l : List Oper) (sc : List CallS) (i : Nat) {e : Env} {s : Sg}, (∀ j o, l[j]? = some o → ops[i + j]? = some o) → wocs md P ops l sc (fun e s => VL P ops Q rest e s) e s → VL P ops Q (List.range' i l.length ++ rest) e s
 | [], _, i, e, s, _, h => by simpa [wocs] using h
 | o :: l, sc, i, e, s, hl, h => by
  have ho : ops[i]? = some o := hl 0 o rfl
  intro r B M ρ a w QQ hs hk
  rw [List.length_cons, List.range'_succ, List.cons_append, wpOpsIn_cons]
  refine j2z ho (r2z h) hs fun a' w' v s' ρ' hK h1 h2 => ?_
  obtain ⟨sc', hK⟩ := hK
  exact v8q rest l sc' (i + 1) (fun j o' hj => by rw [Nat.add_assoc, Nat.add_comm 1 j]; exact hl (j + 1) o' (by simpa using hj)) hK r B M ρ' a' w' QQ h1 fun x e2 s2 ρ2 a2 w2 q2 hs2 hst2 => hk x e2 s2 ρ2 a2 w2 q2 hs2 (h2.trans hst2)
end
end Go.V

namespace Go.V
open Go Go.RowKit
section
variable {P : Program} {o : Oper} {e : Env} {s : Sg} {ops : Array Oper} {Q : Exit → Env → Sg → Prop}
theorem f4x {id : Nat} (k : Nat) (hk : ops.size = k) (h : VL P ops Q (List.range' 0 k) e s) : VW P (.region id ops false) Q e s := by
 refine l6z ?_
 rw [hk, List.range_eq_range']; exact h
theorem x4q {l : List Nat} (h : ∀ e1, e1 = e → VL P ops Q l e1 s) : VL P ops Q l e s := h e rfl
theorem j3q (md i n m : Nat) (gs : List (Nat × Nat)) (sc : List CallS) (hg : (gs.all fun p => decide (gtmp ops p.1 = some p.2)) = true) (hm : i + n ≤ ops.size)
 (h : ∀ (ops' : Array Oper) (K : Env → Sg → Prop), (∀ p ∈ gs, gtmp ops' p.1 = some p.2) → (∀ e s, VL P ops Q (List.range' (i + n) m) e s → K e s) → wocs md P ops' ((ops.toList.drop i).take n) sc K e s) :
 VL P ops Q (List.range' i (n + m)) e s := by
 have h1 := h ops (fun e s => VL P ops Q (List.range' (i + n) m) e s) (fun p hp => by simpa using List.all_eq_true.1 hg p hp) (fun _ _ h => h)
 have hl : ((ops.toList.drop i).take n).length = n := by rw [List.length_take, List.length_drop]; simp; omega
 have h2 := v8q (List.range' (i + n) m) ((ops.toList.drop i).take n) sc i (fun j o hj => by
  rw [List.getElem?_take] at hj
  split at hj
  ·rw [List.getElem?_drop] at hj; simpa using hj
  ·cases hj) h1
 rw [hl] at h2
 have e1 : List.range' i (n + m) = List.range' i n ++ List.range' (i + n) m := by
  rw [List.range'_append_1]
 rw [e1]; exact h2
end
end Go.V

namespace Go.V
open Go Go.RowKit
section
variable {P : Program} {e : Env} {s : Sg} {ops : Array Oper} {Q : Exit → Env → Sg → Prop}
theorem o9q {o : Oper} {K : V → Sg → Prop} (hg : o.guard = none) (h : OpG P o e s K) : OpI P ops o e s K := by
 unfold OpI; rw [hg]; exact h
def IsOp (ops : Array Oper) (i : Nat) (op : Op) (dst : Option Tmp) : Prop := ∃ o, ops[i]? = some o ∧ o.op = op ∧ o.dst = dst ∧ o.guard = none
theorem e0j {id p q r a b c : Nat} {t0 t1 t2 : TypeId} (hm : P.follows .mixedOrders = true) (hsz : ops.size = 4)
 (k0 : Region.ready .any ops #[false, false, false, false] = [0, 1]) (k1 : Region.ready .any ops #[true, false, false, false] = [1, 2]) (k2 : Region.ready .any ops #[false, true, false, false] = [0])
 (k3 : Region.ready .any ops #[true, true, false, false] = [2]) (k4 : Region.ready .any ops #[true, false, true, false] = [1]) (k5 : Region.ready .any ops #[true, true, true, false] = [3]) (k6 : Region.ready .any ops #[true, true, true, true] = [])
 (i0 : IsOp ops 0 (.load t0 (.tmp p)) (some a)) (i1 : IsOp ops 1 (.load t1 (.tmp q)) (some b)) (i2 : IsOp ops 2 (.store t2 (.tmp r) (.tmp a)) none) (i3 : IsOp ops 3 (.assign (.tmp b)) (some c))
 (hd : (p ≠ b ∧ q ≠ a ∧ r ≠ a ∧ r ≠ b ∧ a ≠ b)) (hla : a < e.length) (hlb : b < e.length)
 {va vb : V} {n off : Nat} {ty : TypeId} {cs xs : List V} (h0 : a8q P s t0 (ev e (.tmp p)) = some va) (h1 : a8q P s t1 (ev e (.tmp q)) = some vb)
 (hr : ev e (.tmp r) = .ptr n off) (hn : s.m n = some (.box ty cs)) (hx : va.cells = some xs) (hk : szOf P t2 = some xs.length) (hle : off + xs.length ≤ cs.length)
 (h1' : a8q P (s.set n (.box ty (setAll cs off xs))) t1 (ev e (.tmp q)) = some vb)
 (hQ : ∀ e', ev e' (.tmp c) = vb → (∀ t, t ≠ a → t ≠ b → t ≠ c → ev e' (.tmp t) = ev e (.tmp t)) → e'.length = e.length → (c < e.length → Q .normal e' (s.set n (.box ty (setAll cs off xs))))) (hlc : c < e.length) : VW P (.region id ops true) Q e s := by
 obtain ⟨o0, g0, p0, d0, u0⟩ := i0
 obtain ⟨o1, g1, p1, d1, u1⟩ := i1
 obtain ⟨o2, g2, p2, d2, u2⟩ := i2
 obtain ⟨o3, g3, p3, d3, u3⟩ := i3
 obtain ⟨n1, n2, n3, n4, n5⟩ := hd
 have end_ : ∀ fuel e', ev e' (.tmp b) = vb → (∀ t, t ≠ a → t ≠ b → ev e' (.tmp t) = ev e (.tmp t)) → e'.length = e.length → VA P ops Q (fuel + 1) #[true, true, true, false] e' (s.set n (.box ty (setAll cs off xs))) := by
  intro fuel e' hb he hl
  refine p2q (by rw [k5]; simp) fun i o hi ho => ?_
  rw [k5, List.mem_singleton] at hi; subst hi
  rw [g3] at ho; cases ho
  refine o9q u3 (w3z p3 ?_)
  refine u0x k6 ?_ _
  rw [d3, hb]
  refine hQ _ (by rw [a0q (by omega)]) (fun t h1 h2 h3 => ?_) (by rw [lpv, hl]) hlc
  rw [a4q (by simp; omega)]; exact he t h1 h2
 have store_ : ∀ (fuel : Nat) (L : Array Bool) (e' : Env), ev e' (.tmp a) = va → ev e' (.tmp r) = .ptr n off → VA P ops Q fuel (L.setIfInBounds 2 true) e' (s.set n (.box ty (setAll cs off xs))) → OpI P ops o2 e' s (fun v s' => VA P ops Q fuel (L.setIfInBounds 2 true) (putv e' o2.dst v) s') := by
  intro fuel L e' ha hr' h
  refine o9q u2 (e2x p2 hr' hn ha hx hk hle ?_)
  rw [d2]; exact h
 refine f6x hm fun L hL fuel hf => ?_
 obtain ⟨L⟩ := L
 obtain ⟨hLs, hLv⟩ := hL
 rw [hsz] at hLs hf
 have hL0 : (⟨L⟩ : Array Bool) = #[false, false, false, false] := by
  match L, hLs with
  | [x0, x1, x2, x3], _ =>
   have f : ∀ j, j < 4 → ¬ ((#[x0, x1, x2, x3] : Array Bool)[j]? = some true) := fun j hj h => by have := (hLv j (by omega)).1 h; omega
   have a0 := f 0 (by omega); have a1 := f 1 (by omega); have a2 := f 2 (by omega); have a3 := f 3 (by omega)
   simp at a0 a1 a2 a3
   subst a0; subst a1; subst a2; subst a3; rfl
 rw [hL0]
 obtain ⟨fuel, rfl⟩ : ∃ f, fuel = f + 4 := ⟨fuel - 4, by omega⟩
 refine p2q (by rw [k0]; simp) fun i o hi ho => ?_
 rw [k0] at hi
 simp only [List.mem_cons, List.not_mem_nil, or_false] at hi
 rcases hi with rfl | rfl
 ·rw [g0] at ho; cases ho
  refine o9q u0 (b7z p0 rfl h0 ?_)
  rw [d0]
  show VA P ops Q (fuel + 3) #[true, false, false, false] _ s
  refine p2q (by rw [k1]; simp) fun i o hi ho => ?_
  rw [k1] at hi
  simp only [List.mem_cons, List.not_mem_nil, or_false] at hi
  rcases hi with rfl | rfl
  ·rw [g1] at ho; cases ho
   refine o9q u1 (b7z p1 (by rw [a4q (by simp; omega)]) h1 ?_)
   rw [d1]
   show VA P ops Q (fuel + 2) #[true, true, false, false] _ s
   refine p2q (by rw [k3]; simp) fun i o hi ho => ?_
   rw [k3, List.mem_singleton] at hi; subst hi
   rw [g2] at ho; cases ho
   refine store_ _ _ _ (by rw [a4q (by simp; omega), a0q hla]) (by rw [a4q (by simp; omega), a4q (by simp; omega), hr]) ?_
   exact end_ _ _ (by rw [a0q (by rw [lpv]; exact hlb)]) (fun t h1 h2 => by rw [a4q (by simp; omega), a4q (by simp; omega)]) (by simp [lpv])
  ·rw [g2] at ho; cases ho
   refine store_ _ _ _ (by rw [a0q hla]) (by rw [a4q (by simp; omega), hr]) ?_
   show VA P ops Q (fuel + 2) #[true, false, true, false] _ _
   refine p2q (by rw [k4]; simp) fun i o hi ho => ?_
   rw [k4, List.mem_singleton] at hi; subst hi
   rw [g1] at ho; cases ho
   refine o9q u1 (b7z p1 (by rw [a4q (by simp; omega)]) h1' ?_)
   rw [d1]
   exact end_ _ _ (by rw [a0q (by rw [lpv]; exact hlb)]) (fun t h1 h2 => by rw [a4q (by simp; omega), a4q (by simp; omega)]) (by simp [lpv])
 ·rw [g1] at ho; cases ho
  refine o9q u1 (b7z p1 rfl h1 ?_)
  rw [d1]
  show VA P ops Q (fuel + 3) #[false, true, false, false] _ s
  refine p2q (by rw [k2]; simp) fun i o hi ho => ?_
  rw [k2, List.mem_singleton] at hi; subst hi
  rw [g0] at ho; cases ho
  refine o9q u0 (b7z p0 (by rw [a4q (by simp; omega)]) h0 ?_)
  rw [d0]
  show VA P ops Q (fuel + 2) #[true, true, false, false] _ s
  refine p2q (by rw [k3]; simp) fun i o hi ho => ?_
  rw [k3, List.mem_singleton] at hi; subst hi
  rw [g2] at ho; cases ho
  refine store_ _ _ _ (by rw [a0q (by rw [lpv]; exact hla)]) (by rw [a4q (by simp; omega), a4q (by simp; omega), hr]) ?_
  exact end_ _ _ (by rw [a4q (by simp; omega), a0q hlb]) (fun t h1 h2 => by rw [a4q (by simp; omega), a4q (by simp; omega)]) (by simp [lpv])
end
end Go.V

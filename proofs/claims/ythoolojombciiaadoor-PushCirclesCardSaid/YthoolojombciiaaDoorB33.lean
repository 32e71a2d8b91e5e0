/- Lemmas on the way to the statement of this claim; no conditions. -/
import Derived.Test.YthoolojombciiaaDoorB31
import Derived.Test.YthoolojombciiaaDoorB32
namespace Go.V
open Go Go.RowKit
section
variable {P : Program} {o : Oper} {e : Env} {s : Sg} {K : V → Sg → Prop}
theorem zeroCells_one (v : Value) (n : Nat) : (Builtin.zeroCells #[v] n).toList = List.replicate n v := by
  unfold Builtin.zeroCells
  apply List.ext_getElem
  · simp
  · intro i h1 h2
    simp at h1 h2
    simp [Nat.mod_one]
theorem sound_clear {c : Call} (ho : o.op = .call c) {x : Operand} {t el : TypeId} {z : Value} (hc1 : c.callee = .builtin .clear) (hc2 : c.args = #[x]) (hc3 : c.argTypes = #[t]) (hu : P.underlying t = some (.slice el))
    (hz : ∀ w, (zeroValue el).run P w = .ok z w) (hzf : flat z = true) (hzc : z.cells = #[z])
    {n off len : Nat} (hx : ev e x = .loc n off len) {ty : TypeId} {cs : List T} (hn : s.m n = some (.arr 1 ty cs)) (hfit : off + len ≤ cs.length)
    (h : K (.tup []) (s.set n (.arr 1 ty (setAll cs off (List.replicate len (.v z)))))) : Sound P o e s K := by
  intro B ρ a w hs hB he
  have hvx := ev_sound he x
  rw [hx] at hvx
  obtain ⟨hnlt, ⟨da, dc, hdx⟩, hloc⟩ := hvx
  have fin : ∀ w', (Builtin.clear_ #[t] o.type #[a.eval x]).run P w = .ok (.tuple #[]) w' → SR P B (s.set n (.arr 1 ty (setAll cs off (List.replicate len (.v z))))) ρ w' →
      Stp s ρ w (s.set n (.arr 1 ty (setAll cs off (List.replicate len (.v z))))) ρ w' →
      ∃ y w' v s' ρ', ((execOp a.eval o).run P w = .ok (.value y) w' ∨ ((execOp a.eval o).run P w = .ok .skip w' ∧ y = undef)) ∧ K v s' ∧ SR P B s' ρ' w' ∧ VR P w' s' ρ' v y ∧ Stp s ρ w s' ρ' w' := by
    intro w' hr h1 h2
    refine ⟨.tuple #[], w', _, _, ρ, .inl ?_, h, h1, ⟨[], rfl, trivial⟩, h2⟩
    simp only [execOp, ho, resolve, hc1, hc2, hc3, invoke, builtin, Sem.run_bind, Sem.run_pure, Result.andThen, List.map_toArray, List.map_cons, List.map_nil, hr]
  by_cases h0 : len = 0
  · have hset : setAll cs off ([] : List T) = cs := by simp [setAll]
    have e1 : s.set n (.arr 1 ty (setAll cs off (List.replicate len (.v z)))) = s := by rw [h0, List.replicate_zero, hset, set_same s hn]
    have fin0 := fin w
    rw [e1] at fin0
    refine fin0 ?_ hs (Stp.refl _ _ _)
    rw [hdx, h0]
    cases da <;> simp [Builtin.clear_, run_underlying hu]
  · rcases hloc _ hn with ⟨_, _, hz⟩ | ⟨_, hz, _⟩ | ⟨bl, cp, hb, hdy, hlc, _⟩
    · exact absurd hz h0
    · exact absurd hz h0
    · obtain ⟨_, _, hr | ⟨bl', arr, hb', hh, h5, h6, _⟩⟩ := hs.rep n _ hn
      · rw [hr.1] at hb; cases hb
      rw [hb] at hb'; cases hb'
      have hxs : All2 (RepT w (Fr s ρ)) (List.replicate len (.v z)) (List.replicate len z) := by
        generalize len = k
        induction k with
        | zero => trivial
        | succ k ih => exact ⟨by rw [RepT]; exact ⟨rfl, hzf⟩, ih⟩
      obtain ⟨w', a1, a2, a3⟩ := set_arr (P := P) hs hn hxs (by rw [List.length_replicate]; exact hfit) hb
      refine fin w' ?_ a2 a3
      rw [hdy]
      obtain ⟨k, rfl⟩ : ∃ k, len = k + 1 := ⟨len - 1, by omega⟩
      simp [Builtin.clear_, run_underlying hu, hz, hzc, zeroCells_one, Result.andThen, a1]
theorem vl_of_wocs_then {md : Nat} {ops : Array Oper} {Q : Exit → Env → Sg → Prop} (rest : List Nat) : ∀ (l : List Oper) (sc : List CallS) (i : Nat) {e : Env} {s : Sg}, (∀ j o, l[j]? = some o → ops[i + j]? = some o) → wocs md P ops l sc (fun e s => VL P ops Q rest e s) e s → VL P ops Q (List.range' i l.length ++ rest) e s
  | [], _, i, e, s, _, h => by simpa [wocs] using h
  | o :: l, sc, i, e, s, hl, h => by
    have ho : ops[i]? = some o := hl 0 o rfl
    intro r B M ρ a w QQ hs hk
    rw [List.length_cons, List.range'_succ, List.cons_append, wpOpsIn_cons]
    refine opi_run ho (goc_opi h) hs fun a' w' v s' ρ' hK h1 h2 => ?_
    obtain ⟨sc', hK⟩ := hK
    exact vl_of_wocs_then rest l sc' (i + 1) (fun j o' hj => by rw [Nat.add_assoc, Nat.add_comm 1 j]; exact hl (j + 1) o' (by simpa using hj)) hK r B M ρ' a' w' QQ h1 fun x e2 s2 ρ2 a2 w2 q2 hs2 hst2 => hk x e2 s2 ρ2 a2 w2 q2 hs2 (h2.trans hst2)
theorem vl_cons_none {ops : Array Oper} {Q : Exit → Env → Sg → Prop} {i : Nat} {rest : List Nat} (hi : ops[i]? = some o) (hg : o.guard = none) (hd : o.dst = none) (h : OpG P o e s (fun _ s' => VL P ops Q rest e s')) : VL P ops Q (i :: rest) e s :=
  vl_cons hi hg (by rw [hd]; exact h)
theorem vw_sc_then {id : Nat} {md : Nat} {ops : Array Oper} {Q : Exit → Env → Sg → Prop} (k : Nat) (hk : ops.size = k + 1) (sc : List CallS)
    (h : wocs md P ops (ops.toList.take k) sc (fun e s => VL P ops Q [k] e s) e s) : VW P (.region id ops false) Q e s := by
  refine vw_region ?_
  have hl : (ops.toList.take k).length = k := by rw [List.length_take]; simp; omega
  have := vl_of_wocs_then (P := P) (ops := ops) (Q := Q) (md := md) [k] (ops.toList.take k) sc 0 (fun j o hj => by
    rw [List.getElem?_take] at hj
    split at hj
    · simpa using hj
    · cases hj) h
  rw [hl] at this
  rw [hk, List.range_succ, List.range_eq_range']
  exact this
end
end Go.V

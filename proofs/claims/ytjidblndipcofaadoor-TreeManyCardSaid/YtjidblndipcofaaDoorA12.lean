/- Lemmas on the way to the statement of this claim; no conditions. -/
import Derived.Laws.IdiomCopy
import Derived.Test.YtjidblndipcofaaDoorA11
namespace Go.V
open Go Go.RowKit
theorem set_same (s : Sg) {n : Nat} {b : Blk} (h : s.m n = some b) : s.set n b = s := by
  unfold Sg.set
  have : (fun j => if j = n then some b else s.m j) = s.m := by
    funext j
    by_cases hj : j = n
    · subst hj; simp [h]
    · simp [hj]
  rw [this]
section
variable {P : Program} {o : Oper} {e : Env} {s : Sg} {K : V → Sg → Prop}
theorem sound_copy {c : Call} (ho : o.op = .call c) {x y : Operand} {dT sT el : TypeId} (hc1 : c.callee = .builtin .copy) (hc2 : c.args = #[x, y]) (hc3 : c.argTypes = #[dT, sT]) (hu : P.underlying dT = some (.slice el)) (hk : szOf P el = some 1)
    {n off len : Nat} (hx : ev e x = .loc n off len) {ty : TypeId} {cs news : List T} (hn : s.m n = some (.arr 1 ty cs)) (hfit : off + len ≤ cs.length) (hsrc : srcT s 1 (ev e y) = some news)
    (h : K (.t (.v (.int .i64 (min news.length len : Nat)))) (s.set n (.arr 1 ty (setAll cs off (news.take (min news.length len)))))) : Sound P o e s K := by
  intro B ρ a w hs hB he
  have hsz : (P.info? el).map (·.size) = some 1 := hk
  have hvx := ev_sound he x
  rw [hx] at hvx
  obtain ⟨hnlt, ⟨da, dc, hdx⟩, hloc⟩ := hvx
  obtain ⟨ad, m, cap, us, hy, hl1, ha1, hS⟩ := srcT_sound hsrc (by omega) hs (ev_sound he y)
  rw [Nat.mul_one] at hl1
  have hus : us.length = m := by rw [← ha1.length, hl1]
  have fin : ∀ w', (Builtin.copy_ #[dT, sT] o.type #[a.eval x, a.eval y]).run P w = .ok (goInt ((min news.length len : Nat) : Int)) w' → SR P B (s.set n (.arr 1 ty (setAll cs off (news.take (min news.length len))))) ρ w' →
      Stp s ρ w (s.set n (.arr 1 ty (setAll cs off (news.take (min news.length len))))) ρ w' →
      ∃ y w' v s' ρ', ((execOp a.eval o).run P w = .ok (.value y) w' ∨ ((execOp a.eval o).run P w = .ok .skip w' ∧ y = undef)) ∧ K v s' ∧ SR P B s' ρ' w' ∧ VR P w' s' ρ' v y ∧ Stp s ρ w s' ρ' w' := by
    intro w' hr h1 h2
    refine ⟨goInt ((min news.length len : Nat) : Int), w', _, _, ρ, .inl ?_, h, h1, ?_, h2⟩
    · simp only [execOp, ho, resolve, hc1, hc2, hc3, invoke, builtin, Sem.run_bind, Sem.run_pure, Result.andThen, List.map_toArray, List.map_cons, List.map_nil, hr]
    · exact vr_flat rfl
  by_cases h0 : min news.length len = 0
  · have hset : setAll cs off [] = cs := by simp [setAll]
    have e1 : s.set n (.arr 1 ty (setAll cs off (news.take (min news.length len)))) = s := by rw [h0, List.take_zero, hset, set_same s hn]
    have fin0 := fin w
    rw [e1] at fin0
    refine fin0 ?_ hs (Stp.refl _ _ _)
    rw [hdx, hy, h0]
    exact run_copy_none w dT sT o.type el da ad len dc m cap hu hsz (by rw [← hl1]; exact h0)
  · rcases hloc _ hn with ⟨_, _, hz⟩ | ⟨_, hz, _⟩ | ⟨bl, cp, hb, hdy, hlc, _⟩
    · subst hz; simp at h0
    · subst hz; simp at h0
    · obtain ⟨_, _, hr | ⟨bl', arr, hb', hh, h5, h6, _⟩⟩ := hs.rep n _ hn
      · rw [hr.1] at hb; cases hb
      rw [hb] at hb'; cases hb'
      obtain ⟨a0, rfl, hcell⟩ : ∃ a0, ad = some a0 ∧ ∀ j u, us[j]? = some u → w.cell? (a0.add j) = some u := by
        rcases hS with ⟨_, hm, _⟩ | hS
        · omega
        · exact hS
      have hone : ∀ u ∈ us, u.oneCell' = true := by
        intro u hu
        obtain ⟨j, hj⟩ := List.mem_iff_getElem?.1 hu
        have hjl : j < news.length := by rw [ha1.length]; exact (List.getElem?_eq_some_iff.1 hj).1
        obtain ⟨b, hb, hr⟩ := ha1.get j _ (List.getElem?_eq_getElem hjl)
        rw [hj] at hb; cases hb
        exact hr.one
      have htl : (us.take (min news.length len)).length = min news.length len := by rw [List.length_take]; omega
      have hxs : All2 (RepT w (Fr s ρ)) (news.take (min news.length len)) (us.take (min news.length len)) := ha1.take _
      have hle : off + (news.take (min news.length len)).length ≤ cs.length := by rw [hxs.length, htl]; omega
      obtain ⟨w', a1, a2, a3⟩ := set_arr (P := P) hs hn hxs hle hb
      have hst := run_storeCells_at (P := P) bl off ty (us.take (min news.length len)) 0 arr w hh (by rw [htl]; omega) (fun u hu => hone u (List.mem_of_mem_take hu))
      have hrow := run_copy_row (P := P) w dT sT o.type el bl off len cp a0 m cap arr ty (us.take (min news.length len)) hu hsz hh (by rw [htl, hl1])
        (fun j v hj => by
          rw [List.getElem?_take] at hj
          split at hj
          · exact hcell j v hj
          · cases hj) (by rw [htl]; omega) (fun u hu => hone u (List.mem_of_mem_take hu))
      simp only [Nat.add_zero] at hst
      rw [a1] at hst
      simp only [Result.ok.injEq, true_and] at hst
      rw [← hdy, ← hy] at hrow
      rw [htl] at hrow
      refine fin w' ?_ a2 a3
      rw [hst, htl]
      exact hrow
end
end Go.V

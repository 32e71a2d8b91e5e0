/- Lemmas on the way to the statement of this claim; no conditions. -/
import Derived.Laws.AppendOwnNone
import Derived.Test.YtjidblndipcofaaDoorA06
namespace Go.V
open Go Go.RowKit
theorem part_val {P : Program} {w : World} {s : Sg} {ρ : Rho} {t : TypeId} {cs : List V} {off : Nat} {v : V} (hp : vpart P t cs off = some v) {ys : List Value} (h : All2 (VR1 P w s ρ) cs ys) :
    ∃ y, (part t ⟨ys⟩ off).run P w = .ok y w ∧ VR P w s ρ v y := by
  unfold vpart at hp
  split at hp
  · rename_i k ha hk
    split at hp
    · rename_i hlen
      cases hp
      refine ⟨.agg ⟨(ys.drop off).take k⟩, ?_, _, rfl, (h.drop off).take k⟩
      simp only [part, Sem.run_bind, isAgg_run ha, Result.andThen, if_true, szOf_run hk]
      simp [List.extract_toArray, List.extract_eq_take_drop]
    · cases hp
  · rename_i k ha hk
    obtain ⟨x, hx, hr⟩ := h.get off v hp
    refine ⟨x, ?_, hr.vr⟩
    simp [part, isAgg_run ha, hx]
  · cases hp
section
variable {P : Program} {o : Oper} {e : Env} {s : Sg} {K : V → Sg → Prop}
theorem fieldOf_some {t ft : TypeId} {f d : Nat} (hf : fieldOf P t f = some (d, ft)) : ∃ fs fd, P.underlying t = some (.struct fs) ∧ fs[f]? = some fd ∧ fd.offset = d ∧ fd.type = ft := by
  unfold fieldOf at hf
  split at hf
  · rename_i fs hu
    cases hfs : fs[f]? with
    | none => simp [hfs] at hf
    | some fd => simp [hfs] at hf; exact ⟨fs, fd, hu, hfs, hf.1, hf.2⟩
  · cases hf
theorem sound_field {t ft : TypeId} {x : Operand} {f d : Nat} (ho : o.op = .field t x f) (hf : fieldOf P t f = some (d, ft)) {cs : List V} (hx : ev e x = .agg cs) {v : V} (hp : vpart P ft cs d = some v) (h : K v s) : Sound P o e s K := by
  refine sound_val _ h fun B ρ a w hs he => ?_
  have hv := ev_sound he x
  rw [hx] at hv
  obtain ⟨ys, hy, hl⟩ := hv
  obtain ⟨y, h1, h2⟩ := part_val hp hl
  obtain ⟨fs, fd, hu, hfs, rfl, rfl⟩ := fieldOf_some hf
  refine ⟨y, ?_, h2⟩
  simp [execOp, ho, Instr.field, run_underlying hu, hfs, hy, asAgg, h1]
theorem sound_extract {x : Operand} {i : Nat} (ho : o.op = .extract x i) {vs : List V} (hx : ev e x = .tup vs) {v : V} (hi : vs[i]? = some v) (h : K v s) : Sound P o e s K := by
  refine sound_val _ h fun B ρ a w hs he => ?_
  have hv := ev_sound he x
  rw [hx] at hv
  obtain ⟨ys, hy, hl⟩ := hv
  obtain ⟨y, h1, h2⟩ := hl.get i v hi
  exact ⟨y, by simp [execOp, ho, Instr.extract, hy, h1], h2.vr⟩
theorem sound_indexAddr_loc {t el : TypeId} {x i : Operand} (ho : o.op = .indexAddr t x i) {n off len : Nat} (hx : ev e x = .loc n off len) {b : Blk} (hn : s.m n = some b) {kd : IntKind} {z : Int} (hi : ev e i = .t (.v (.int kd z)))
    {k : Nat} (hu : P.underlying t = some (.slice el)) (hk : szOf P el = some k) (h0 : 0 ≤ z) (hz : z < len) (h : K (.ptr n (off + z.toNat * k)) s) : Sound P o e s K := by
  refine sound_val _ h fun B ρ a w hs he => ?_
  have hv := ev_sound he x
  rw [hx] at hv
  have hvi := ev_sound he i
  rw [hi] at hvi
  have hi' := repV (w := w) (A := Fr s ρ) hvi
  obtain ⟨h1, _, h3⟩ := hv
  rcases h3 b hn with ⟨_, _, h4⟩ | ⟨_, h4, _⟩ | ⟨bl, cap, hb, hy, hlc, _⟩
  · omega
  · omega
  · refine ⟨.pointer (some ⟨bl, off + z.toNat * k, none⟩), ?_, h1, ⟨_, rfl⟩, fun b' _ => ⟨bl, hb, rfl⟩⟩
    simp [execOp, ho, Instr.indexAt, hi', asIntOf, run_underlying hu, hy, h0, hz, szOf_run hk, addr_add]
theorem sound_indexAddr_im {t el : TypeId} {x i : Operand} (ho : o.op = .indexAddr t x i) {k : Nat} {cs : List T} (hx : ev e x = .t (.sl k cs)) {kd : IntKind} {z : Int} (hi : ev e i = .t (.v (.int kd z)))
    (hu : P.underlying t = some (.slice el)) (hk : szOf P el = some k) (h0 : 0 ≤ z) (hz : z.toNat * k < cs.length) (h : K (.iad cs (z.toNat * k)) s) : Sound P o e s K := by
  refine sound_val _ h fun B ρ a w hs he => ?_
  have hv := ev_sound he x
  rw [hx] at hv
  have hvi := ev_sound he i
  rw [hi] at hvi
  have hi' := repV (w := w) (A := Fr s ρ) hvi
  have hv : RepT w (Fr s ρ) (.sl k cs) (a.eval x) := hv
  rw [RepT] at hv
  obtain ⟨a0, len, cap, hy, hk0, hl, _, _, hr⟩ := hv
  rcases hr with hr | ⟨b, off, arr, ty, fr, rfl, hA, hh, hc⟩
  · subst hr; simp at hz
  · have hlt : z < len := by
      have : z.toNat * k < len * k := by omega
      have := Nat.lt_of_mul_lt_mul_right this
      omega
    refine ⟨.pointer (some ⟨b, off + z.toNat * k, none⟩), ?_, b, off, arr, ty, fr, rfl, hA, hh, hc⟩
    simp [execOp, ho, Instr.indexAt, hi', asIntOf, run_underlying hu, hy, h0, hlt, szOf_run hk, addr_add]
def gfill {α : Type} (place : Nat → Option (Nat × Nat)) (cells : List α) : List (Nat × List α) → Option (List α)
  | [] => some cells
  | (i, vs) :: rest => match place i with
    | none => none
    | some (off, size) => if vs.length = size ∧ off + vs.length ≤ cells.length then gfill place (setAll cells off vs) rest else none
theorem foldl_set {α : Type} (vs : List α) : ∀ (j off : Nat) (cells : Array α), off + j + vs.length ≤ cells.size →
    ((vs.zipIdx j).foldl (fun cs (c, i) => cs.setIfInBounds (off + i) c) cells).toList = setAll cells.toList (off + j) vs := by
  induction vs with
  | nil => intro j off cells h; simp [setAll]
  | cons v vs ih =>
    intro j off cells h
    simp only [List.zipIdx_cons, List.foldl_cons]
    rw [ih (j + 1) off _ (by simp at h ⊢; omega)]
    simp only [List.length_cons] at h
    apply List.ext_getElem?
    intro i
    rw [setAll_get _ _ _ (by simp; omega), setAll_get _ _ _ (by simp; omega)]
    simp only [Array.toList_setIfInBounds, List.getElem?_set, List.length_cons]
    by_cases h1 : i < off + j
    · rw [if_pos (by omega), if_pos h1, if_neg (by omega)]
    · rw [if_neg h1]
      by_cases h2 : i = off + j
      · subst h2
        rw [if_pos (by omega), if_pos rfl, if_pos (by simp; omega), if_pos (by omega)]; simp
      · rw [if_neg (by omega)]
        by_cases h3 : i < off + j + (vs.length + 1)
        · rw [if_pos (by omega), if_pos h3]
          rw [show i - (off + j) = (i - (off + (j + 1))) + 1 by omega, List.getElem?_cons_succ]
        · rw [if_neg (by omega), if_neg h3, if_neg (by omega)]
theorem fill_sound {α : Type} {R : α → Value → Prop} {place : Nat → Option (Nat × Nat)} : ∀ {ps : List (Nat × List α)} {vs : List (Nat × Value)} {cells : List α} {ys : Array Value} {cs : List α},
    All2 (fun p v => p.1 = v.1 ∧ All2 R p.2 v.2.cells.toList) ps vs → All2 R cells ys.toList → gfill place cells ps = some cs → ∃ arr, Instr.fill place ys vs = some arr ∧ All2 R cs arr.toList
  | [], [], cells, ys, cs, _, hc, h => by simp [gfill] at h; subst h; exact ⟨ys, rfl, hc⟩
  | (i, xs) :: ps, (i', v) :: vs, cells, ys, cs, ⟨⟨h1, h2⟩, hps⟩, hc, h => by
    dsimp only at h1 h2
    subst h1
    simp only [gfill] at h
    split at h
    · cases h
    · rename_i off size hpl
      split at h
      · rename_i hl
        have hlen := h2.length
        have hcl := hc.length
        have e1 : v.cells.size = size := by have := hl.1; simp at hlen; omega
        have e2 : ¬ (off + v.cells.size > ys.size) := by have := hl.2; simp at hlen hcl; omega
        have hset := hc
        have hall : All2 R (setAll cells off xs) (setAll ys.toList off v.cells.toList) := by
          unfold setAll
          rw [← hlen]
          exact ((hc.take off).append h2).append (hc.drop _)
        have hfold := foldl_set v.cells.toList 0 off ys (by simp at hlen hcl ⊢; omega)
        simp only [Nat.add_zero] at hfold
        obtain ⟨arr, a1, a2⟩ := fill_sound (ys := (v.cells.toList.zipIdx.foldl (fun cs (c, i) => cs.setIfInBounds (off + i) c) ys)) hps (by rw [hfold]; exact hall) h
        refine ⟨arr, ?_, a2⟩
        simp only [Instr.fill, hpl]
        rw [if_neg (by simp [e1]; omega)]
        rw [← a1]
        congr 1
        rw [← Array.foldl_toList]
        congr 1
        simp [Array.toList_zipIdx]
      · cases h
  | [], _ :: _, _, _, _, h, _, _ => h.elim
  | _ :: _, [], _, _, _, h, _, _ => h.elim
end
end Go.V

/- Lemmas on the way to the statement of this claim; no conditions. -/
import Derived.Test.YtjidblndipcofaaDoorA03
namespace Go.V
open Go Go.RowKit
theorem SR.blk_lt {P : Program} {B : Nat} {s : Sg} {ρ : Rho} {w : World} (hs : SR P B s ρ w) {n : Nat} {c : Blk} {bl : Nat} (hn : s.m n = some c) (hb : (ρ n).blk = some bl) : bl < w.heap.size := by
  have := hs.rep n c hn
  cases c with
  | arr k ty cs =>
    obtain ⟨_, _, h | ⟨bl', arr, h, h2, _⟩⟩ := this
    · rw [h.1] at hb; cases hb
    · rw [h] at hb; cases hb; exact heap_lt h2
  | box ty cs =>
    rcases this with h | ⟨bl', arr, h, h2, _⟩
    · rw [h.1] at hb; cases hb
    rw [h] at hb; cases hb; exact heap_lt h2
  | mp es =>
    obtain ⟨l, arr, clk, h3, h4, _⟩ := this
    rw [h3] at hb; cases hb; exact heap_lt h4
  | lp e ps asg bd st c =>
    obtain ⟨l, fn, dfs, tmps, h3, h4, _⟩ := this
    rw [h3] at hb; cases hb; exact heap_lt h4
theorem alloc_other (w : World) (o : Obj) (b : Nat) (h : b < w.heap.size) : (w.alloc o).heap[b]? = w.heap[b]? := Below.heap_alloc w o b h
theorem chg_new {P : Program} {B : Nat} {s : Sg} {ρ : Rho} {w : World} (hs : SR P B s ρ w) (hB : B ≤ w.heap.size) (o : Obj) (i : Info) (hi : i.blk = some w.heap.size) (b : Blk) :
    Chg B s ρ w (s.add b) (w.alloc o) s.next i b where
  os := rfl
  tape := rfl
  output := rfl
  size := by simp
  same bl hbl _ _ := alloc_other w o bl hbl
  loops l rec hl := ⟨rec, (alloc_other w o l (heap_lt hl)).trans hl⟩
  here m c hm := by
    unfold Sg.add at hm
    simp only at hm
    split at hm
    · rename_i e; cases hm; exact .inl ⟨e, rfl⟩
    · rename_i hne
      refine .inr ⟨hne, hm, ?_⟩
      rw [hi]
      by_cases hx : (ρ m).blk = some w.heap.size
      · exact absurd (hs.blk_lt hm hx) (Nat.lt_irrefl _)
      · exact .inr hx
  name := .inl ⟨Nat.le_refl _, rfl⟩
  owned bl hbl := by rw [hi] at hbl; cases hbl; exact ⟨hB, .inl (Nat.le_refl _)⟩
theorem all2_cells {α : Type} {R : α → Value → Prop} {cs : List α} {ys : List Value} (h : All2 R cs ys) (zs : List Value) : Cells R cs ⟨ys ++ zs⟩ 0 := by
  intro i c hc
  obtain ⟨x, hx, hr⟩ := h.get i c hc
  refine ⟨x, ?_, hr⟩
  have hi : i < ys.length := (List.getElem?_eq_some_iff.1 hx).1
  simp [List.getElem?_append_left hi, hx]
theorem add_box {P : Program} {B : Nat} {s : Sg} {ρ : Rho} {w : World} (hs : SR P B s ρ w) (hB : B ≤ w.heap.size) (ty : TypeId) {cs : List V} {ys : List Value} (hc : All2 (VR1 P w s ρ) cs ys) :
    ∃ ρ', SR P B (s.add (.box ty cs)) ρ' (w.alloc (.cells ⟨ys⟩ ty)) ∧ Stp s ρ w (s.add (.box ty cs)) ρ' (w.alloc (.cells ⟨ys⟩ ty)) ∧
      VR P (w.alloc (.cells ⟨ys⟩ ty)) (s.add (.box ty cs)) ρ' (.ptr s.next 0) (.pointer (some ⟨w.heap.size, 0, none⟩)) := by
  have hchg := chg_new hs hB (.cells ⟨ys⟩ ty) ⟨some w.heap.size, 1, ys.length⟩ rfl (.box ty cs)
  refine ⟨_, hchg.sr hs ?_, hchg.stp, ?_⟩
  · refine .inr ⟨w.heap.size, ⟨ys⟩, rfl, World.alloc_heap_new _ _, ?_, ?_⟩
    · have := hc.length; simp; omega
    · have := all2_cells (hc.mono fun a b h => h.step hchg.stp) []
      exact ⟨by simpa using this, rfl, rfl⟩
  · refine ⟨by simp [Sg.add], ⟨_, rfl⟩, fun b hb => ⟨w.heap.size, ?_, rfl⟩⟩
    simp [Rho.up]
theorem add_arr {P : Program} {B : Nat} {s : Sg} {ρ : Rho} {w : World} (hs : SR P B s ρ w) (hB : B ≤ w.heap.size) (k : Nat) (ty : TypeId) {cs : List T} {ys : List Value} (zs : List Value) (hc : All2 (RepT w (Fr s ρ)) cs ys)
    (hk : 0 < k) (len cap : Nat) (hlen : len ≤ cap) (hcap : cap * k = (ys ++ zs).length) (hmax : cap ≤ maxLen) :
    ∃ ρ', SR P B (s.add (.arr k ty cs)) ρ' (w.alloc (.cells ⟨ys ++ zs⟩ ty)) ∧ Stp s ρ w (s.add (.arr k ty cs)) ρ' (w.alloc (.cells ⟨ys ++ zs⟩ ty)) ∧
      VR P (w.alloc (.cells ⟨ys ++ zs⟩ ty)) (s.add (.arr k ty cs)) ρ' (.loc s.next 0 len) (.slice (some ⟨w.heap.size, 0, none⟩) len cap) := by
  have hchg := chg_new hs hB (.cells ⟨ys ++ zs⟩ ty) ⟨some w.heap.size, k, (ys ++ zs).length⟩ rfl (.arr k ty cs)
  refine ⟨_, hchg.sr hs ?_, hchg.stp, ?_⟩
  · refine ⟨rfl, hk, .inr ⟨w.heap.size, ⟨ys ++ zs⟩, rfl, World.alloc_heap_new _ _, ?_, ?_, ?_⟩⟩
    · have := hc.length; simp; omega
    · simp
    · rw [repTs_iff]
      exact all2_cells (hc.mono fun a b h => h.mono hchg.stp.keep) zs
  · refine ⟨by simp [Sg.add], ⟨_, _, rfl⟩, fun b hb => .inr (.inr ⟨w.heap.size, cap, by simp [Rho.up], rfl, hlen, ?_, hmax⟩)⟩
    simp [Rho.up]; simpa using hcap
def setAll {α : Type} (cs : List α) (off : Nat) (vs : List α) : List α := cs.take off ++ vs ++ cs.drop (off + vs.length)
theorem setAll_length {α : Type} (cs : List α) (off : Nat) (vs : List α) (h : off + vs.length ≤ cs.length) : (setAll cs off vs).length = cs.length := by
  simp [setAll]; omega
theorem setAll_get {α : Type} (cs : List α) (off : Nat) (vs : List α) (h : off + vs.length ≤ cs.length) (i : Nat) :
    (setAll cs off vs)[i]? = if i < off then cs[i]? else if i < off + vs.length then vs[i - off]? else cs[i]? := by
  unfold setAll
  have hl : (cs.take off).length = off := by simp; omega
  split
  · rename_i hi
    rw [List.append_assoc, List.getElem?_append_left (by omega), List.getElem?_take, if_pos hi]
  · rename_i hi
    split
    · rename_i hi2
      rw [List.append_assoc, List.getElem?_append_right (by omega), List.getElem?_append_left (by omega), hl]
    · rename_i hi2
      rw [List.getElem?_append_right (by simp; omega), List.getElem?_drop]
      congr 1; simp; omega
theorem Cells.setAll {α : Type} {R : α → Value → Prop} {cs : List α} {arr : Array Value} (h : Cells R cs arr 0) (hl : cs.length ≤ arr.size) {off : Nat} {xs : List α} {ys : List Value} (hx : All2 R xs ys) (ho : off + xs.length ≤ cs.length) :
    Cells R (setAll cs off xs) ⟨Go.V.setAll arr.toList off ys⟩ 0 := by
  intro i c hc
  have hle := hx.length
  rw [setAll_get _ _ _ ho] at hc
  have ha : arr.toList.length = arr.size := by simp
  simp only [Nat.zero_add, List.getElem?_toArray]
  rw [setAll_get _ _ _ (by omega)]
  rw [← hle]
  split at hc
  · rename_i hi
    rw [if_pos hi]
    obtain ⟨x, hx', hr⟩ := h i c hc
    exact ⟨x, by simpa using hx', hr⟩
  · rename_i hi
    rw [if_neg hi]
    split at hc
    · rename_i hi2
      rw [if_pos hi2]
      exact hx.get _ _ hc
    · rename_i hi2
      rw [if_neg hi2]
      obtain ⟨x, hx', hr⟩ := h i c hc
      exact ⟨x, by simpa using hx', hr⟩
theorem chg_put {P : Program} {B : Nat} {s : Sg} {ρ : Rho} {w : World} (hs : SR P B s ρ w) {n : Nat} {c : Blk} (hn : s.m n = some c) {bl : Nat} (hb : (ρ n).blk = some bl) (b : Blk) {w' : World}
    (h1 : w'.os = w.os) (h2 : w'.tape = w.tape) (h3 : w'.output = w.output) (h4 : w.heap.size = w'.heap.size) (h5 : ∀ x, x ≠ bl → w'.heap[x]? = w.heap[x]?)
    (h6 : ∀ rec, w.heap[bl]? = some (Obj.loop rec) → ∃ rec', w'.heap[bl]? = some (Obj.loop rec')) : Chg B s ρ w (s.set n b) w' n (ρ n) b where
  os := h1
  tape := h2
  output := h3
  size := by omega
  same x hx he _ := h5 x (fun e => he (by rw [hb, e]))
  here m d hm := by
    unfold Sg.set at hm
    simp only at hm
    split at hm
    · rename_i e; cases hm; exact .inl ⟨e, rfl⟩
    · rename_i hne
      refine .inr ⟨hne, hm, ?_⟩
      rw [hb]
      by_cases hx : (ρ m).blk = some bl
      · exact absurd (hs.inj m n d c bl hm hn hx hb) hne
      · exact .inr hx
  name := .inr ⟨rfl, hs.lt n c hn, ⟨c, hn⟩, rfl⟩
  owned x hx := ⟨hs.lo n c x hn hx, .inr ⟨n, c, hn, hx⟩⟩
  loops l rec hl := by
    by_cases e : l = bl
    · subst e; exact h6 rec hl
    · exact ⟨rec, (h5 l e).trans hl⟩
theorem chg_set {P : Program} {B : Nat} {s : Sg} {ρ : Rho} {w : World} (hs : SR P B s ρ w) {n : Nat} {c : Blk} (hn : s.m n = some c) {bl : Nat} (hb : (ρ n).blk = some bl) (b : Blk) (arr : Array Value)
    {arr0 : Array Value} {ty0 : TypeId} {fr0 : Nat × Nat} (h0 : w.heap[bl]? = some (.cells arr0 ty0 fr0)) : Chg B s ρ w (s.set n b) (w.setRow bl arr) n (ρ n) b :=
  chg_put hs hn hb b rfl rfl rfl (by simp) (fun x hx => setRow_other w bl x arr hx) (fun rec hl => by rw [h0] at hl; cases hl)
theorem up_self (ρ : Rho) (n : Nat) : ρ.up n (ρ n) = ρ := by
  funext m; unfold Rho.up; split
  · rename_i h; rw [h]
  · rfl
theorem set_box {P : Program} {B : Nat} {s : Sg} {ρ : Rho} {w : World} (hs : SR P B s ρ w) {n : Nat} {ty : TypeId} {cs : List V} (hn : s.m n = some (.box ty cs)) {off : Nat} {xs : List V} {ys : List Value}
    (hx : All2 (VR1 P w s ρ) xs ys) (ho : off + xs.length ≤ cs.length) {bl : Nat} (hb : (ρ n).blk = some bl) :
    ∃ w', (storeCells ⟨bl, off, none⟩ ys).run P w = .ok () w' ∧ SR P B (s.set n (.box ty (setAll cs off xs))) ρ w' ∧ Stp s ρ w (s.set n (.box ty (setAll cs off xs))) ρ w' := by
  rcases hs.rep n _ hn with hq | ⟨bl', arr, hb', hh, hl, hc, hk1, htot⟩
  · rw [hq.1] at hb; cases hb
  rw [hb] at hb'; cases hb'
  have hle := hx.length
  have hone : ∀ v ∈ ys, v.oneCell' = true := by
    intro v hv
    obtain ⟨j, hj⟩ := List.mem_iff_getElem?.1 hv
    have hjl : j < xs.length := by have := (List.getElem?_eq_some_iff.1 hj).1; omega
    obtain ⟨u, hu, hr⟩ := hx.get j xs[j] (List.getElem?_eq_getElem hjl)
    rw [hu] at hj; cases hj
    revert hr
    cases xs[j] with
    | clo g caps => rintro ⟨l, rfl, _⟩; rfl
    | t x => exact fun hr => VR0.one (w := w) (x := .t x) hr
    | loc a b c => exact fun hr => VR0.one (w := w) (x := .loc a b c) hr
    | ptr a b => exact fun hr => VR0.one (w := w) (x := .ptr a b) hr
    | iad a b => exact fun hr => VR0.one (w := w) (x := .iad a b) hr
    | yl a => exact fun hr => VR0.one (w := w) (x := .yl a) hr
    | mp a => exact fun hr => VR0.one (w := w) (x := .mp a) hr
    | _ => exact fun hr => hr.elim
  have hrun := run_storeCells_at (P := P) bl off ty ys 0 arr w hh (by omega) hone
  have hchg := chg_set hs hn hb (.box ty (setAll cs off xs)) ⟨setAll arr.toList off ys⟩ hh
  refine ⟨w.setRow bl ⟨setAll arr.toList off ys⟩, ?_, ?_, ?_⟩
  · rw [hrun]; simp [setAll]
  · have := hchg.sr hs ?_
    · rwa [up_self] at this
    · refine .inr ⟨bl, ⟨setAll arr.toList off ys⟩, hb, setRow_heap w bl arr _ ty (0, 0) hh, ?_, ?_⟩
      · rw [setAll_length _ _ _ ho]
        show _ ≤ (setAll arr.toList off ys).length
        rw [setAll_length _ _ _ (by simp; omega)]; simpa using hl
      · refine ⟨(hc.setAll hl hx ho).mono fun _ _ h => h.step hchg.stp, hk1, ?_⟩
        show _ = (setAll arr.toList off ys).length
        rw [setAll_length _ _ _ (by simp; omega)]; simpa using htot
  · have := hchg.stp
    rwa [up_self] at this
theorem set_arr {P : Program} {B : Nat} {s : Sg} {ρ : Rho} {w : World} (hs : SR P B s ρ w) {n k : Nat} {ty : TypeId} {cs : List T} (hn : s.m n = some (.arr k ty cs)) {off : Nat} {xs : List T} {ys : List Value}
    (hx : All2 (RepT w (Fr s ρ)) xs ys) (ho : off + xs.length ≤ cs.length) {bl : Nat} (hb : (ρ n).blk = some bl) :
    ∃ w', (storeCells ⟨bl, off, none⟩ ys).run P w = .ok () w' ∧ SR P B (s.set n (.arr k ty (setAll cs off xs))) ρ w' ∧ Stp s ρ w (s.set n (.arr k ty (setAll cs off xs))) ρ w' := by
  obtain ⟨hk, hk0, h | ⟨bl', arr, hb', hh, hl, htot, hc⟩⟩ := hs.rep n _ hn
  · rw [h.1] at hb; cases hb
  rw [hb] at hb'; cases hb'
  have hle := hx.length
  have hone : ∀ v ∈ ys, v.oneCell' = true := by
    intro v hv
    obtain ⟨j, hj⟩ := List.mem_iff_getElem?.1 hv
    have hjl : j < xs.length := by have := (List.getElem?_eq_some_iff.1 hj).1; omega
    obtain ⟨u, hu, hr⟩ := hx.get j xs[j] (List.getElem?_eq_getElem hjl)
    rw [hu] at hj; cases hj
    exact hr.one
  have hrun := run_storeCells_at (P := P) bl off ty ys 0 arr w hh (by omega) hone
  have hchg := chg_set hs hn hb (.arr k ty (setAll cs off xs)) ⟨setAll arr.toList off ys⟩ hh
  refine ⟨w.setRow bl ⟨setAll arr.toList off ys⟩, ?_, ?_, ?_⟩
  · rw [hrun]; simp [setAll]
  · have := hchg.sr hs ?_
    · rwa [up_self] at this
    · refine ⟨hk, hk0, .inr ⟨bl, ⟨setAll arr.toList off ys⟩, hb, setRow_heap w bl arr _ ty (0, 0) hh, ?_, ?_, ?_⟩⟩
      · rw [setAll_length _ _ _ ho]; exact hl
      · show _ = (setAll arr.toList off ys).length
        rw [setAll_length _ _ _ (by simp; omega)]; simpa using htot
      · rw [repTs_iff] at hc ⊢
        exact (hc.setAll (by omega) hx ho).mono fun _ _ h => h.mono hchg.stp.keep
  · have := hchg.stp
    rwa [up_self] at this
end Go.V

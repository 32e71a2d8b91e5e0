/- Lemmas on the way to the statement of this claim; no conditions. -/
import Derived.Test.YtjidblndipcofaaDoorRows
import Derived.Lib.LaidTab
import Derived.LaidMore
import Derived.Test.YtjidblndipcofaaDoorA45
open Go Go.V
namespace Go.Proofs.YtjidblndipcofaaDoor
open Go.ChangeShapes Go.WideShapes Go.ChangeAt Go.RowKit
abbrev gDB : Nat := 1
theorem own : ownKnob Tryd.prog.godebug = none := by kernel_rfl
theorem gTab : Tryd.prog.globalNamed "math/bits.deBruijn64tab" = some 1 := by kernel_rfl
theorem cells5 : Tryd.prog.cellsOf 5 = 1 := by kernel_rfl
theorem kids : Kids Tryd.prog (· < Tryd.prog.types.size) := kids_rows (by kernel_rfl) (by kernel_rfl)
theorem full : ∀ t e, t < Tryd.prog.types.size → Tryd.prog.underlying t = some (.slice e) → 0 < Tryd.prog.cellsOf e := slices_full_of Tryd.prog (by kernel_rfl)
theorem tabTy : ∃ t n, (Tryd.prog.globals[1]?).map (·.type) = some t ∧ Tryd.prog.underlying t = some (.array n 5) ∧ Tryd.prog.cellsOf t = n := ⟨149, 64, by kernel_rfl, by kernel_rfl, by kernel_rfl⟩
theorem repT_u8 {w : World} (n : Int) : RepT w (fun _ => True) (.v (.int .u8 n)) (.int .u8 n) := by rw [RepT]; exact ⟨rfl, rfl⟩
theorem tab_of_laid {W : World} (h : laidMetH Tryd.prog [("math/bits.deBruijn64tab", Rows.laid_math_bits_deBruijn64tab)] W) : TabOK Tryd.prog W.heap.size W := by
  rw [MakeChecks.laidMetH_plain _ _ _ (by kernel_rfl)] at h
  obtain ⟨t, n, h1, h2, h3⟩ := tabTy
  have ht : Lib.TabIs Tryd.prog W "math/bits.deBruijn64tab" .u8 (Lib.deBruijn64tab.map fun (k : Nat) => (k : Int)) := Lib.tabIs_of_head (rest := []) gTab h1 h2 Tryd.underlying5 cells5 h3 h
  intro nm cs g hm hg
  obtain ⟨rfl, rfl⟩ := Prod.mk.inj (List.mem_singleton.1 hm)
  obtain rfl := Option.some.inj (gTab.symm.trans hg)
  have h0 := ht.cell gTab 0 (by decide)
  obtain ⟨arr, ty, fr, k1, _, _⟩ := cell_at h0
  refine ⟨heap_lt k1, arr, ty, fr, k1, fun j v hj => ?_⟩
  rw [List.getElem?_map] at hj
  obtain ⟨k, hk, rfl⟩ := Option.map_eq_some_iff.1 hj
  have hjl : j < (Lib.deBruijn64tab.map fun (k : Nat) => (k : Int)).length := by rw [List.length_map]; exact (List.getElem?_eq_some_iff.1 hk).1
  have hc := ht.cell gTab j hjl
  obtain ⟨arr', ty', fr', k1', _, k3⟩ := cell_at hc
  simp only at k1 k1' k3
  rw [k1] at k1'; cases k1'
  rw [k3, List.getD_eq_getElem?_getD, List.getElem?_map, hk]; rfl
end Go.Proofs.YtjidblndipcofaaDoor

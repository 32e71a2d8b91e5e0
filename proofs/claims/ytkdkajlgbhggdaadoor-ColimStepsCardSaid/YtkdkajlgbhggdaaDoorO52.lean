/- Lemmas on the way to the statement of this claim; no conditions. -/
import Derived.Test.YtkdkajlgbhggdaaDoorRows
import Derived.Lib.LaidTab
import Derived.LaidMore
import Derived.Test.YtkdkajlgbhggdaaDoorO49
open Go Go.V
namespace Go.Proofs.YtkdkajlgbhggdaaDoor
open Go.ChangeShapes Go.WideShapes Go.ChangeAt Go.RowKit
abbrev gDB : Nat := 0
theorem own : ownKnob Tryd.prog.godebug = none := by kernel_rfl
theorem gTab : Tryd.prog.globalNamed "math/bits.deBruijn64tab" = some 0 := by kernel_rfl
theorem cells5 : Tryd.prog.cellsOf 5 = 1 := by kernel_rfl
theorem kids : Kids Tryd.prog (· < Tryd.prog.types.size) := kids_rows (by kernel_rfl) (by kernel_rfl)
theorem full : ∀ t e, t < Tryd.prog.types.size → Tryd.prog.underlying t = some (.slice e) → 0 < Tryd.prog.cellsOf e := slices_full_of Tryd.prog (by kernel_rfl)
theorem obTys : ObTys Tryd.prog 25 22 23 9 84 3 where
 ob := ⟨_, _, Tryd.underlying25, ⟨rfl, rfl⟩, ⟨rfl, rfl⟩⟩
 c2 := by kernel_rfl
 cls := by kernel_rfl
 cps := by kernel_rfl
 ls := Tryd.underlying22
 ps := Tryd.underlying23
 st := Tryd.underlying9
 cst := by kernel_rfl
 pr := ⟨_, _, Tryd.underlying84, ⟨rfl, rfl⟩, ⟨rfl, rfl⟩⟩
 cpr := by kernel_rfl
 it := Tryd.underlying3
 ci := by kernel_rfl
theorem tabTy : ∃ t n, (Tryd.prog.globals[0]?).map (·.type) = some t ∧ Tryd.prog.underlying t = some (.array n 5) ∧ Tryd.prog.cellsOf t = n := ⟨193, 64, by kernel_rfl, by kernel_rfl, by kernel_rfl⟩
theorem t6x {w : World} (n : Int) : RepT w (fun _ => True) (.v (.int .u8 n)) (.int .u8 n) := by rw [RepT]; exact ⟨rfl, rfl⟩
theorem e0x {W : World} (h : laidMetH Tryd.prog [("math/bits.deBruijn64tab", Rows.laid_math_bits_deBruijn64tab)] W) : u9z Tryd.prog W.heap.size W := by
 rw [MakeChecks.laidMetH_plain _ _ _ (by kernel_rfl)] at h
 obtain ⟨t, n, h1, h2, h3⟩ := tabTy
 have ht : Lib.TabIs Tryd.prog W "math/bits.deBruijn64tab" .u8 (Lib.deBruijn64tab.map fun (k : Nat) => (k : Int)) := Lib.tabIs_of_head (rest := []) gTab h1 h2 Tryd.underlying5 cells5 h3 h
 intro nm cs g hm hg
 obtain ⟨rfl, rfl⟩ := Prod.mk.inj (List.mem_singleton.1 hm)
 obtain rfl := Option.some.inj (gTab.symm.trans hg)
 have h0 := ht.cell gTab 0 (by decide)
 obtain ⟨arr, ty, fr, k1, _, _⟩ := r5z h0
 refine ⟨h4q k1, arr, ty, fr, k1, fun j v hj => ?_⟩
 rw [List.getElem?_map] at hj
 obtain ⟨k, hk, rfl⟩ := Option.map_eq_some_iff.1 hj
 have hjl : j < (Lib.deBruijn64tab.map fun (k : Nat) => (k : Int)).length := by rw [List.length_map]; exact (List.getElem?_eq_some_iff.1 hk).1
 have hc := ht.cell gTab j hjl
 obtain ⟨arr', ty', fr', k1', _, k3⟩ := r5z hc
 simp only at k1 k1' k3
 rw [k1] at k1'; cases k1'
 rw [k3, List.getD_eq_getElem?_getD, List.getElem?_map, hk]; rfl
end Go.Proofs.YtkdkajlgbhggdaaDoor

/- Lemmas on the way to the statement of this claim; no conditions. -/
import Derived.Test.YtkdkajlgbhggdaaGreatDoorRows
import Derived.Lib.LaidTab
import Derived.LaidMore
import Derived.Test.YtkdkajlgbhggdaaGreatDoorA39
open Go Go.V
namespace Go.Proofs.YtkdkajlgbhggdaaGreatDoor
open Go.ChangeShapes Go.WideShapes Go.ChangeAt Go.RowKit
abbrev gDB : Nat := 0
theorem own : ownKnob Tryz.prog.godebug = none := by kernel_rfl
theorem gTab : Tryz.prog.globalNamed "math/bits.deBruijn64tab" = some 0 := by kernel_rfl
theorem cells3 : Tryz.prog.cellsOf 3 = 1 := by kernel_rfl
theorem cells5 : Tryz.prog.cellsOf 5 = 1 := by kernel_rfl
theorem kids : Kids Tryz.prog (· < Tryz.prog.types.size) := kids_rows (by kernel_rfl) (by kernel_rfl)
theorem full : ∀ t e, t < Tryz.prog.types.size → Tryz.prog.underlying t = some (.slice e) → 0 < Tryz.prog.cellsOf e := slices_full_of Tryz.prog (by kernel_rfl)
theorem obTys : ObTys Tryz.prog 29 26 27 9 65 3 where
 ob := ⟨_, _, Tryz.underlying29, ⟨rfl, rfl⟩, ⟨rfl, rfl⟩⟩
 c2 := by kernel_rfl
 cls := by kernel_rfl
 cps := by kernel_rfl
 ls := Tryz.underlying26
 ps := Tryz.underlying27
 st := Tryz.underlying9
 cst := by kernel_rfl
 pr := ⟨_, _, Tryz.underlying65, ⟨rfl, rfl⟩, ⟨rfl, rfl⟩⟩
 cpr := by kernel_rfl
 it := Tryz.underlying3
 ci := by kernel_rfl
theorem tabTy : ∃ t n, (Tryz.prog.globals[0]?).map (·.type) = some t ∧ Tryz.prog.underlying t = some (.array n 5) ∧ Tryz.prog.cellsOf t = n := ⟨140, 64, by kernel_rfl, by kernel_rfl, by kernel_rfl⟩
theorem c2x {W : World} (h : laidMetH Tryz.prog [("math/bits.deBruijn64tab", Rows.laid_math_bits_deBruijn64tab)] W) : t3z Tryz.prog W.heap.size W := by
 rw [MakeChecks.laidMetH_plain _ _ _ (by kernel_rfl)] at h
 obtain ⟨t, n, h1, h2, h3⟩ := tabTy
 have ht : Lib.TabIs Tryz.prog W "math/bits.deBruijn64tab" .u8 (Lib.deBruijn64tab.map fun (k : Nat) => (k : Int)) := Lib.tabIs_of_head (rest := []) gTab h1 h2 Tryz.underlying5 cells5 h3 h
 intro nm cs g hm hg
 obtain ⟨rfl, rfl⟩ := Prod.mk.inj (List.mem_singleton.1 hm)
 obtain rfl := Option.some.inj (gTab.symm.trans hg)
 have h0 := ht.cell gTab 0 (by decide)
 obtain ⟨arr, ty, fr, k1, _, _⟩ := q1z h0
 refine ⟨h2q k1, arr, ty, fr, k1, fun j v hj => ?_⟩
 rw [List.getElem?_map] at hj
 obtain ⟨k, hk, rfl⟩ := Option.map_eq_some_iff.1 hj
 have hjl : j < (Lib.deBruijn64tab.map fun (k : Nat) => (k : Int)).length := by rw [List.length_map]; exact (List.getElem?_eq_some_iff.1 hk).1
 have hc := ht.cell gTab j hjl
 obtain ⟨arr', ty', fr', k1', _, k3⟩ := q1z hc
 simp only at k1 k1' k3
 rw [k1] at k1'; cases k1'
 rw [k3, List.getD_eq_getElem?_getD, List.getElem?_map, hk]; rfl
end Go.Proofs.YtkdkajlgbhggdaaGreatDoor

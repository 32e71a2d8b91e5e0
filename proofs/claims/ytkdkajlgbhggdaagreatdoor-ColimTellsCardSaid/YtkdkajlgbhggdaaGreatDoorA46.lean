/- Lemmas on the way to the statement of this claim; no conditions. -/
import Derived.Test.YtkdkajlgbhggdaaGreatDoorA42
import Derived.Test.YtkdkajlgbhggdaaGreatDoorA44
import Derived.Test.YtkdkajlgbhggdaaGreatDoorA45
open Go Go.V
namespace Go.Proofs.YtkdkajlgbhggdaaGreatDoor
open Go.ChangeShapes Go.WideShapes Go.ChangeAt Go.RowKit
theorem cells26 : Tryz.prog.cellsOf 40 = 1 := by kernel_rfl
theorem diTys : DiTys Tryz.prog 25 22 23 29 49 40 3 where
 di := ⟨_, _, Tryz.underlying25, ⟨rfl, rfl⟩, ⟨rfl, rfl⟩⟩
 c2 := by kernel_rfl
 cls := by kernel_rfl
 cas := by kernel_rfl
 ul := Tryz.underlying22
 ur := Tryz.underlying23
 ar := ⟨_, _, _, Tryz.underlying49, ⟨rfl, rfl⟩, ⟨rfl, rfl⟩, ⟨rfl, rfl⟩⟩
 ca := by kernel_rfl
 um := Tryz.underlying40
 cms := by kernel_rfl
 it := Tryz.underlying3
 ci := by kernel_rfl
theorem diBig {d : Dia} (h : OkDi d) : DiaBig d := ⟨h.2.1, h.2.2.2, fun o ho => (h.1 o ho).2.1, fun o ho => (h.1 o ho).2.2.2, h.2.2.1⟩
theorem matBig {l : List (List Int)} (h : OkMat l) : l.length ≤ 9223372036854775807 ∧ ∀ x ∈ l, x.length ≤ 9223372036854775807 := ⟨h.2, h.1⟩
end Go.Proofs.YtkdkajlgbhggdaaGreatDoor

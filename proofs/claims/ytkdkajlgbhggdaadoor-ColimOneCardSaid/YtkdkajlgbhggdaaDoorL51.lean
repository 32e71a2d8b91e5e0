/- Lemmas on the way to the statement of this claim; no conditions. -/
import Derived.Test.YtkdkajlgbhggdaaDoorL48
import Derived.Test.YtkdkajlgbhggdaaDoorL49
import Derived.Test.YtkdkajlgbhggdaaDoorL50
open Go Go.V
namespace Go.Proofs.YtkdkajlgbhggdaaDoor
open Go.ChangeShapes Go.WideShapes Go.ChangeAt Go.RowKit
theorem cells26 : Tryd.prog.cellsOf 26 = 1 := by kernel_rfl
theorem diTys : DiTys Tryd.prog 62 59 60 25 72 26 3 where
  di := ⟨_, _, Tryd.underlying62, ⟨rfl, rfl⟩, ⟨rfl, rfl⟩⟩
  c2 := by kernel_rfl
  cls := by kernel_rfl
  cas := by kernel_rfl
  ul := Tryd.underlying59
  ur := Tryd.underlying60
  ar := ⟨_, _, _, Tryd.underlying72, ⟨rfl, rfl⟩, ⟨rfl, rfl⟩, ⟨rfl, rfl⟩⟩
  ca := by kernel_rfl
  um := Tryd.underlying26
  cms := by kernel_rfl
  it := Tryd.underlying3
  ci := by kernel_rfl
theorem diBig {d : Dia} (h : OkDi d) : DiaBig d := ⟨h.2.1, h.2.2.2, fun o ho => (h.1 o ho).2.1, fun o ho => (h.1 o ho).2.2.2, h.2.2.1⟩
theorem matBig {l : List (List Int)} (h : OkMat l) : l.length ≤ 9223372036854775807 ∧ ∀ x ∈ l, x.length ≤ 9223372036854775807 := ⟨h.2, h.1⟩
end Go.Proofs.YtkdkajlgbhggdaaDoor

/- Lemmas on the way to the statement of this claim; no conditions. -/
import Derived.Test.YtkdkajlgbhggdaaDoorProg
import Derived.Test.YtkdkajlgbhggdaaDoorL25
open Go Go.V
namespace Go.Proofs
theorem Tryd.is32 : isFn Tryd.prog 32 := ⟨_, Tryd.func32, rfl, by decide⟩
theorem Tryd.is33 : isFn Tryd.prog 33 := ⟨_, Tryd.func33, rfl, by decide⟩
theorem Tryd.is34 : isFn Tryd.prog 34 := ⟨_, Tryd.func34, rfl, by decide⟩
theorem Tryd.is45 : isFn Tryd.prog 45 := ⟨_, Tryd.func45, rfl, by decide⟩
theorem Tryd.is46 : isFn Tryd.prog 46 := ⟨_, Tryd.func46, rfl, by decide⟩
theorem Tryd.is47 : isFn Tryd.prog 47 := ⟨_, Tryd.func47, rfl, by decide⟩
theorem Tryd.is48 : isFn Tryd.prog 48 := ⟨_, Tryd.func48, rfl, by decide⟩
theorem Tryd.is49 : isFn Tryd.prog 49 := ⟨_, Tryd.func49, rfl, by decide⟩
theorem Tryd.is50 : isFn Tryd.prog 50 := ⟨_, Tryd.func50, rfl, by decide⟩
theorem Tryd.is51 : isFn Tryd.prog 51 := ⟨_, Tryd.func51, rfl, by decide⟩
theorem Tryd.is65 : isFn Tryd.prog 65 := ⟨_, Tryd.func65, rfl, by decide⟩
theorem Tryd.is70 : isFn Tryd.prog 70 := ⟨_, Tryd.func70, rfl, by decide⟩
theorem Tryd.is72 : isFn Tryd.prog 72 := ⟨_, Tryd.func72, rfl, by decide⟩
theorem Tryd.is73 : isFn Tryd.prog 73 := ⟨_, Tryd.func73, rfl, by decide⟩
theorem Tryd.is74 : isFn Tryd.prog 74 := ⟨_, Tryd.func74, rfl, by decide⟩
theorem Tryd.is76 : isFn Tryd.prog 76 := ⟨_, Tryd.func76, rfl, by decide⟩
theorem Tryd.is77 : isFn Tryd.prog 77 := ⟨_, Tryd.func77, rfl, by decide⟩
theorem Tryd.is78 : isFn Tryd.prog 78 := ⟨_, Tryd.func78, rfl, by decide⟩
theorem Tryd.is79 : isFn Tryd.prog 79 := ⟨_, Tryd.func79, rfl, by decide⟩
theorem Tryd.is80 : isFn Tryd.prog 80 := ⟨_, Tryd.func80, rfl, by decide⟩
theorem Tryd.is81 : isFn Tryd.prog 81 := ⟨_, Tryd.func81, rfl, by decide⟩
theorem Tryd.is82 : isFn Tryd.prog 82 := ⟨_, Tryd.func82, rfl, by decide⟩
theorem Tryd.is83 : isFn Tryd.prog 83 := ⟨_, Tryd.func83, rfl, by decide⟩
theorem Tryd.is88 : isFn Tryd.prog 88 := ⟨_, Tryd.func88, rfl, by decide⟩
theorem Tryd.is89 : isFn Tryd.prog 89 := ⟨_, Tryd.func89, rfl, by decide⟩
theorem Tryd.is93 : isFn Tryd.prog 93 := ⟨_, Tryd.func93, rfl, by decide⟩
theorem Tryd.is94 : isFn Tryd.prog 94 := ⟨_, Tryd.func94, rfl, by decide⟩
theorem Tryd.is95 : isFn Tryd.prog 95 := ⟨_, Tryd.func95, rfl, by decide⟩
theorem Tryd.is96 : isFn Tryd.prog 96 := ⟨_, Tryd.func96, rfl, by decide⟩
theorem Tryd.is97 : isFn Tryd.prog 97 := ⟨_, Tryd.func97, rfl, by decide⟩
theorem Tryd.is98 : isFn Tryd.prog 98 := ⟨_, Tryd.func98, rfl, by decide⟩
theorem Tryd.is99 : isFn Tryd.prog 99 := ⟨_, Tryd.func99, rfl, by decide⟩
theorem Tryd.is100 : isFn Tryd.prog 100 := ⟨_, Tryd.func100, rfl, by decide⟩
theorem Tryd.is101 : isFn Tryd.prog 101 := ⟨_, Tryd.func101, rfl, by decide⟩
theorem Tryd.is105 : isFn Tryd.prog 105 := ⟨_, Tryd.func105, rfl, by decide⟩
theorem Tryd.is106 : isFn Tryd.prog 106 := ⟨_, Tryd.func106, rfl, by decide⟩
theorem Tryd.is107 : isFn Tryd.prog 107 := ⟨_, Tryd.func107, rfl, by decide⟩
theorem Tryd.is108 : isFn Tryd.prog 108 := ⟨_, Tryd.func108, rfl, by decide⟩
theorem Tryd.is117 : isFn Tryd.prog 117 := ⟨_, Tryd.func117, rfl, by decide⟩
theorem Tryd.is118 : isFn Tryd.prog 118 := ⟨_, Tryd.func118, rfl, by decide⟩
theorem Tryd.is119 : isFn Tryd.prog 119 := ⟨_, Tryd.func119, rfl, by decide⟩
theorem Tryd.is120 : isFn Tryd.prog 120 := ⟨_, Tryd.func120, rfl, by decide⟩
theorem Tryd.is121 : isFn Tryd.prog 121 := ⟨_, Tryd.func121, rfl, by decide⟩
theorem Tryd.is122 : isFn Tryd.prog 122 := ⟨_, Tryd.func122, rfl, by decide⟩
theorem Tryd.is123 : isFn Tryd.prog 123 := ⟨_, Tryd.func123, rfl, by decide⟩
theorem Tryd.is124 : isFn Tryd.prog 124 := ⟨_, Tryd.func124, rfl, by decide⟩
theorem Tryd.is125 : isFn Tryd.prog 125 := ⟨_, Tryd.func125, rfl, by decide⟩
theorem Tryd.is126 : isFn Tryd.prog 126 := ⟨_, Tryd.func126, rfl, by decide⟩
theorem Tryd.is129 : isFn Tryd.prog 129 := ⟨_, Tryd.func129, rfl, by decide⟩
theorem Tryd.is130 : isFn Tryd.prog 130 := ⟨_, Tryd.func130, rfl, by decide⟩
theorem Tryd.is143 : isFn Tryd.prog 143 := ⟨_, Tryd.func143, rfl, by decide⟩
theorem Tryd.is144 : isFn Tryd.prog 144 := ⟨_, Tryd.func144, rfl, by decide⟩
theorem Tryd.is145 : isFn Tryd.prog 145 := ⟨_, Tryd.func145, rfl, by decide⟩
theorem Tryd.is146 : isFn Tryd.prog 146 := ⟨_, Tryd.func146, rfl, by decide⟩
theorem Tryd.is147 : isFn Tryd.prog 147 := ⟨_, Tryd.func147, rfl, by decide⟩
theorem Tryd.is149 : isFn Tryd.prog 149 := ⟨_, Tryd.func149, rfl, by decide⟩
theorem Tryd.is151 : isFn Tryd.prog 151 := ⟨_, Tryd.func151, rfl, by decide⟩
theorem Tryd.is157 : isFn Tryd.prog 157 := ⟨_, Tryd.func157, rfl, by decide⟩
theorem Tryd.is158 : isFn Tryd.prog 158 := ⟨_, Tryd.func158, rfl, by decide⟩
theorem Tryd.is159 : isFn Tryd.prog 159 := ⟨_, Tryd.func159, rfl, by decide⟩
theorem Tryd.is161 : isFn Tryd.prog 161 := ⟨_, Tryd.func161, rfl, by decide⟩
end Go.Proofs

/- Lemmas on the way to the statement of this claim; no conditions. -/
import Derived.Test.YtjidblndipcofaaDoorProg
import Derived.Test.YtjidblndipcofaaDoorA26
open Go Go.V
namespace Go.Proofs
theorem Tryd.is4 : isFn Tryd.prog 4 := ⟨_, Tryd.func4, rfl, by decide⟩
theorem Tryd.is5 : isFn Tryd.prog 5 := ⟨_, Tryd.func5, rfl, by decide⟩
theorem Tryd.is6 : isFn Tryd.prog 6 := ⟨_, Tryd.func6, rfl, by decide⟩
theorem Tryd.is7 : isFn Tryd.prog 7 := ⟨_, Tryd.func7, rfl, by decide⟩
theorem Tryd.is8 : isFn Tryd.prog 8 := ⟨_, Tryd.func8, rfl, by decide⟩
theorem Tryd.is9 : isFn Tryd.prog 9 := ⟨_, Tryd.func9, rfl, by decide⟩
theorem Tryd.is10 : isFn Tryd.prog 10 := ⟨_, Tryd.func10, rfl, by decide⟩
theorem Tryd.is11 : isFn Tryd.prog 11 := ⟨_, Tryd.func11, rfl, by decide⟩
theorem Tryd.is12 : isFn Tryd.prog 12 := ⟨_, Tryd.func12, rfl, by decide⟩
theorem Tryd.is13 : isFn Tryd.prog 13 := ⟨_, Tryd.func13, rfl, by decide⟩
theorem Tryd.is14 : isFn Tryd.prog 14 := ⟨_, Tryd.func14, rfl, by decide⟩
theorem Tryd.is15 : isFn Tryd.prog 15 := ⟨_, Tryd.func15, rfl, by decide⟩
theorem Tryd.is16 : isFn Tryd.prog 16 := ⟨_, Tryd.func16, rfl, by decide⟩
theorem Tryd.is17 : isFn Tryd.prog 17 := ⟨_, Tryd.func17, rfl, by decide⟩
theorem Tryd.is18 : isFn Tryd.prog 18 := ⟨_, Tryd.func18, rfl, by decide⟩
theorem Tryd.is19 : isFn Tryd.prog 19 := ⟨_, Tryd.func19, rfl, by decide⟩
theorem Tryd.is20 : isFn Tryd.prog 20 := ⟨_, Tryd.func20, rfl, by decide⟩
theorem Tryd.is21 : isFn Tryd.prog 21 := ⟨_, Tryd.func21, rfl, by decide⟩
theorem Tryd.is22 : isFn Tryd.prog 22 := ⟨_, Tryd.func22, rfl, by decide⟩
theorem Tryd.is24 : isFn Tryd.prog 24 := ⟨_, Tryd.func24, rfl, by decide⟩
theorem Tryd.is25 : isFn Tryd.prog 25 := ⟨_, Tryd.func25, rfl, by decide⟩
theorem Tryd.is27 : isFn Tryd.prog 27 := ⟨_, Tryd.func27, rfl, by decide⟩
theorem Tryd.is28 : isFn Tryd.prog 28 := ⟨_, Tryd.func28, rfl, by decide⟩
theorem Tryd.is29 : isFn Tryd.prog 29 := ⟨_, Tryd.func29, rfl, by decide⟩
theorem Tryd.is30 : isFn Tryd.prog 30 := ⟨_, Tryd.func30, rfl, by decide⟩
theorem Tryd.is31 : isFn Tryd.prog 31 := ⟨_, Tryd.func31, rfl, by decide⟩
theorem Tryd.is33 : isFn Tryd.prog 33 := ⟨_, Tryd.func33, rfl, by decide⟩
theorem Tryd.is39 : isFn Tryd.prog 39 := ⟨_, Tryd.func39, rfl, by decide⟩
theorem Tryd.is40 : isFn Tryd.prog 40 := ⟨_, Tryd.func40, rfl, by decide⟩
theorem Tryd.is42 : isFn Tryd.prog 42 := ⟨_, Tryd.func42, rfl, by decide⟩
theorem Tryd.is43 : isFn Tryd.prog 43 := ⟨_, Tryd.func43, rfl, by decide⟩
theorem Tryd.is44 : isFn Tryd.prog 44 := ⟨_, Tryd.func44, rfl, by decide⟩
theorem Tryd.is50 : isFn Tryd.prog 50 := ⟨_, Tryd.func50, rfl, by decide⟩
theorem Tryd.is51 : isFn Tryd.prog 51 := ⟨_, Tryd.func51, rfl, by decide⟩
theorem Tryd.is52 : isFn Tryd.prog 52 := ⟨_, Tryd.func52, rfl, by decide⟩
theorem Tryd.is53 : isFn Tryd.prog 53 := ⟨_, Tryd.func53, rfl, by decide⟩
theorem Tryd.is54 : isFn Tryd.prog 54 := ⟨_, Tryd.func54, rfl, by decide⟩
theorem Tryd.is55 : isFn Tryd.prog 55 := ⟨_, Tryd.func55, rfl, by decide⟩
theorem Tryd.is56 : isFn Tryd.prog 56 := ⟨_, Tryd.func56, rfl, by decide⟩
theorem Tryd.is57 : isFn Tryd.prog 57 := ⟨_, Tryd.func57, rfl, by decide⟩
theorem Tryd.is58 : isFn Tryd.prog 58 := ⟨_, Tryd.func58, rfl, by decide⟩
theorem Tryd.is59 : isFn Tryd.prog 59 := ⟨_, Tryd.func59, rfl, by decide⟩
theorem Tryd.is74 : isFn Tryd.prog 74 := ⟨_, Tryd.func74, rfl, by decide⟩
theorem Tryd.is75 : isFn Tryd.prog 75 := ⟨_, Tryd.func75, rfl, by decide⟩
theorem Tryd.is76 : isFn Tryd.prog 76 := ⟨_, Tryd.func76, rfl, by decide⟩
theorem Tryd.is77 : isFn Tryd.prog 77 := ⟨_, Tryd.func77, rfl, by decide⟩
theorem Tryd.is78 : isFn Tryd.prog 78 := ⟨_, Tryd.func78, rfl, by decide⟩
theorem Tryd.is79 : isFn Tryd.prog 79 := ⟨_, Tryd.func79, rfl, by decide⟩
theorem Tryd.is80 : isFn Tryd.prog 80 := ⟨_, Tryd.func80, rfl, by decide⟩
theorem Tryd.is87 : isFn Tryd.prog 87 := ⟨_, Tryd.func87, rfl, by decide⟩
theorem Tryd.is88 : isFn Tryd.prog 88 := ⟨_, Tryd.func88, rfl, by decide⟩
theorem Tryd.is91 : isFn Tryd.prog 91 := ⟨_, Tryd.func91, rfl, by decide⟩
theorem Tryd.is93 : isFn Tryd.prog 93 := ⟨_, Tryd.func93, rfl, by decide⟩
end Go.Proofs

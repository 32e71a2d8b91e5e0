/-
  DERIVED. GIVEN WITH THE SEED: THE CARDS: each row of YthoolojombciiaaDoorRows.lean that lists a variable, with what it lists TIED to the program's text (the seventh form; the later family's looks); each row that meets fmt, with fmt's text TOLD by the authors' own Lean function (tested against real Go, not proved from fmt's source: count such statements apart). THE CARD IS WHAT COUNTS. Prove the row's statement (the work); the ties are given (YthoolojombciiaaDoorTie.lean); close each card by the builder's one call (the guide's Derived/Test/ToyasCard.lean, 'card_holds'). Laid BY PROGRAM, IN A SANDBOX (cutbox-door.mjs). By AI agents, Wed Nov 11 2026. No macro, syntax, notation, axiom, sorry.
-/
import Derived.Test.YthoolojombciiaaDoorRows
import GoSem.ClaimSeven
namespace Go.Proofs.YthoolojombciiaaDoor
namespace Rows

/-- THE TIED CARD OF 'centolaw5.ArrowTurns'. -/
def arrowTurnsCard : Claim7 := { stood := { row := arrowTurnsRow, standIns := [], harness := (true, "ceb2bba52cd2482e20b1ca311e9a8c197a45bf4d2537e0e9a5692ae40237d9cd"), looks := false }, kinds := [], alts := [], laidByText := true, laidKinds := [.data], laidTests := true, laidLooks := .later }
def ArrowTurnsCardSaid : Prop := Claim7.holds Tryd.pinned (.plain (OpenSpec.ofChange arrowTurnsSpec)) arrowTurnsCard

/-- THE TIED CARD OF 'centolaw7.PushCircles'. -/
def pushCirclesCard : Claim7 := { stood := { row := pushCirclesRow, standIns := [], harness := (true, "ceb2bba52cd2482e20b1ca311e9a8c197a45bf4d2537e0e9a5692ae40237d9cd"), looks := false }, kinds := [], alts := [], laidByText := true, laidKinds := [.data], laidTests := true, laidLooks := .later }
def PushCirclesCardSaid : Prop := Claim7.holds Tryd.pinned (.plain (OpenSpec.ofChange pushCirclesSpec)) pushCirclesCard

/-- THE SECOND FORM's CARD OF 'centolaw5.ArrowTurns'. -/
def arrowTurnsUptoCard : Claim7 := { stood := { row := arrowTurnsUptoRow, standIns := [], harness := (true, "ceb2bba52cd2482e20b1ca311e9a8c197a45bf4d2537e0e9a5692ae40237d9cd"), looks := false }, kinds := [], alts := [], laidByText := true, laidKinds := [.data], laidTests := true, laidLooks := .later }
def ArrowTurnsUptoCardSaid : Prop := Claim7.holds Tryd.pinned (.plain (OpenSpec.upto arrowTurnsSpec)) arrowTurnsUptoCard

/-- THE SECOND FORM's CARD OF 'centolaw7.PushCircles'. -/
def pushCirclesUptoCard : Claim7 := { stood := { row := pushCirclesUptoRow, standIns := [], harness := (true, "ceb2bba52cd2482e20b1ca311e9a8c197a45bf4d2537e0e9a5692ae40237d9cd"), looks := false }, kinds := [], alts := [], laidByText := true, laidKinds := [.data], laidTests := true, laidLooks := .later }
def PushCirclesUptoCardSaid : Prop := Claim7.holds Tryd.pinned (.plain (OpenSpec.upto pushCirclesSpec)) pushCirclesUptoCard
end Rows
end Go.Proofs.YthoolojombciiaaDoor

/-
  DERIVED. GIVEN WITH THE SEED: THE CARDS: each row of YtjidblndipcofaaDoorRows.lean that lists a variable, with what it lists TIED to the program's text (the seventh form; the later family's looks); each row that meets fmt, with fmt's text TOLD by the authors' own Lean function (tested against real Go, not proved from fmt's source: count such statements apart). THE CARD IS WHAT COUNTS. Prove the row's statement (the work); the ties are given (YtjidblndipcofaaDoorTie.lean); close each card by the builder's one call (the guide's Derived/Test/ToyasCard.lean, 'card_holds'). Laid BY PROGRAM, IN A SANDBOX (cutbox-door.mjs). By AI agents, Wed Nov 11 2026. No macro, syntax, notation, axiom, sorry.
-/
import Derived.Test.YtjidblndipcofaaDoorRows
import GoSem.ClaimSeven
namespace Go.Proofs.YtjidblndipcofaaDoor
namespace Rows

/-- THE TIED CARD OF 'centolaw22.TreeMany'. -/
def treeManyCard : Claim7 := { stood := { row := treeManyRow, standIns := [], harness := (true, "24416b14fd9f2bcc4d7d0052d2ec92f91e11d38fb1dae3a0b57f2f2cff05551c"), looks := false }, kinds := [], alts := [], laidByText := true, laidKinds := [.data], laidTests := true, laidLooks := .later }
def TreeManyCardSaid : Prop := Claim7.holds Tryd.pinned (.plain (OpenSpec.ofChange treeManySpec)) treeManyCard

/-- THE SECOND FORM's CARD OF 'centolaw22.TreeMany'. -/
def treeManyUptoCard : Claim7 := { stood := { row := treeManyUptoRow, standIns := [], harness := (true, "24416b14fd9f2bcc4d7d0052d2ec92f91e11d38fb1dae3a0b57f2f2cff05551c"), looks := false }, kinds := [], alts := [], laidByText := true, laidKinds := [.data], laidTests := true, laidLooks := .later }
def TreeManyUptoCardSaid : Prop := Claim7.holds Tryd.pinned (.plain (OpenSpec.upto treeManySpec)) treeManyUptoCard
end Rows
end Go.Proofs.YtjidblndipcofaaDoor

/-
  DERIVED. GIVEN WITH THE SEED: THE CARDS: each row of YtkdkajlgbhggdaaDoorRows.lean that lists a variable, with what it lists TIED to the program's text (the seventh form; the later family's looks); each row that meets fmt, with fmt's text TOLD by the authors' own Lean function (tested against real Go, not proved from fmt's source: count such statements apart). THE CARD IS WHAT COUNTS. Prove the row's statement (the work); the ties are given (YtkdkajlgbhggdaaDoorTie.lean); close each card by the builder's one call (the guide's Derived/Test/ToyasCard.lean, 'card_holds'). Laid BY PROGRAM, IN A SANDBOX (cutbox-door.mjs). By AI agents, Wed Nov 11 2026. No macro, syntax, notation, axiom, sorry.
-/
import Derived.Test.YtkdkajlgbhggdaaDoorRows
import GoSem.ClaimSeven
namespace Go.Proofs.YtkdkajlgbhggdaaDoor
namespace Rows

/-- THE TIED CARD OF 'centolaw7.PushTells'. -/
def pushTellsCard : Claim7 := { stood := { row := pushTellsRow, standIns := [], harness := (true, "3a17bbba8e809cb73d2231cf03d6d1015de4ca8248fa3f0801e839018c991a37"), looks := false }, kinds := [], alts := [], laidByText := true, laidKinds := [.data], laidTests := true, laidLooks := .later }
def PushTellsCardSaid : Prop := Claim7.holds Tryd.pinned (.plain (OpenSpec.ofChange pushTellsSpec)) pushTellsCard

/-- THE TIED CARD OF 'centolaw7.PushSums'. -/
def pushSumsCard : Claim7 := { stood := { row := pushSumsRow, standIns := [], harness := (true, "3a17bbba8e809cb73d2231cf03d6d1015de4ca8248fa3f0801e839018c991a37"), looks := false }, kinds := [], alts := [], laidByText := true, laidKinds := [.data], laidTests := true, laidLooks := .later }
def PushSumsCardSaid : Prop := Claim7.holds Tryd.pinned (.plain (OpenSpec.ofChange pushSumsSpec)) pushSumsCard

/-- THE TIED CARD OF 'centolaw7.PushLines'. -/
def pushLinesCard : Claim7 := { stood := { row := pushLinesRow, standIns := [], harness := (true, "3a17bbba8e809cb73d2231cf03d6d1015de4ca8248fa3f0801e839018c991a37"), looks := false }, kinds := [], alts := [], laidByText := true, laidKinds := [.data], laidTests := true, laidLooks := .later }
def PushLinesCardSaid : Prop := Claim7.holds Tryd.pinned (.plain (OpenSpec.ofChange pushLinesSpec)) pushLinesCard

/-- THE TIED CARD OF 'centolaw7.PushSquare'. -/
def pushSquareCard : Claim7 := { stood := { row := pushSquareRow, standIns := [], harness := (true, "3a17bbba8e809cb73d2231cf03d6d1015de4ca8248fa3f0801e839018c991a37"), looks := false }, kinds := [], alts := [], laidByText := true, laidKinds := [.data], laidTests := true, laidLooks := .later }
def PushSquareCardSaid : Prop := Claim7.holds Tryd.pinned (.plain (OpenSpec.ofChange pushSquareSpec)) pushSquareCard

/-- THE TIED CARD OF 'centolaw7.PushEquals'. -/
def pushEqualsCard : Claim7 := { stood := { row := pushEqualsRow, standIns := [], harness := (true, "3a17bbba8e809cb73d2231cf03d6d1015de4ca8248fa3f0801e839018c991a37"), looks := false }, kinds := [], alts := [], laidByText := true, laidKinds := [.data], laidTests := true, laidLooks := .later }
def PushEqualsCardSaid : Prop := Claim7.holds Tryd.pinned (.plain (OpenSpec.ofChange pushEqualsSpec)) pushEqualsCard

/-- THE TIED CARD OF 'centolaw7.PushSame'. -/
def pushSameCard : Claim7 := { stood := { row := pushSameRow, standIns := [], harness := (true, "3a17bbba8e809cb73d2231cf03d6d1015de4ca8248fa3f0801e839018c991a37"), looks := false }, kinds := [], alts := [], laidByText := true, laidKinds := [.data], laidTests := true, laidLooks := .later }
def PushSameCardSaid : Prop := Claim7.holds Tryd.pinned (.plain (OpenSpec.ofChange pushSameSpec)) pushSameCard

/-- THE TIED CARD OF 'centolaw8.ConeTells'. -/
def coneTellsCard : Claim7 := { stood := { row := coneTellsRow, standIns := [], harness := (true, "3a17bbba8e809cb73d2231cf03d6d1015de4ca8248fa3f0801e839018c991a37"), looks := false }, kinds := [], alts := [], laidByText := true, laidKinds := [.data], laidTests := true, laidLooks := .later }
def ConeTellsCardSaid : Prop := Claim7.holds Tryd.pinned (.plain (OpenSpec.ofChange coneTellsSpec)) coneTellsCard

/-- THE TIED CARD OF 'centolaw8.ConeOne'. -/
def coneOneCard : Claim7 := { stood := { row := coneOneRow, standIns := [], harness := (true, "3a17bbba8e809cb73d2231cf03d6d1015de4ca8248fa3f0801e839018c991a37"), looks := false }, kinds := [], alts := [], laidByText := true, laidKinds := [.data], laidTests := true, laidLooks := .later }
def ConeOneCardSaid : Prop := Claim7.holds Tryd.pinned (.plain (OpenSpec.ofChange coneOneSpec)) coneOneCard

/-- THE TIED CARD OF 'centolaw8.ConeOwn'. -/
def coneOwnCard : Claim7 := { stood := { row := coneOwnRow, standIns := [], harness := (true, "3a17bbba8e809cb73d2231cf03d6d1015de4ca8248fa3f0801e839018c991a37"), looks := false }, kinds := [], alts := [], laidByText := true, laidKinds := [.data], laidTests := true, laidLooks := .later }
def ConeOwnCardSaid : Prop := Claim7.holds Tryd.pinned (.plain (OpenSpec.ofChange coneOwnSpec)) coneOwnCard

/-- THE TIED CARD OF 'centolaw9.ColimOne'. -/
def colimOneCard : Claim7 := { stood := { row := colimOneRow, standIns := [], harness := (true, "3a17bbba8e809cb73d2231cf03d6d1015de4ca8248fa3f0801e839018c991a37"), looks := false }, kinds := [], alts := [], laidByText := true, laidKinds := [.data], laidTests := true, laidLooks := .later }
def ColimOneCardSaid : Prop := Claim7.holds Tryd.pinned (.plain (OpenSpec.ofChange colimOneSpec)) colimOneCard

/-- THE TIED CARD OF 'centolaw9.ColimPush'. -/
def colimPushCard : Claim7 := { stood := { row := colimPushRow, standIns := [], harness := (true, "3a17bbba8e809cb73d2231cf03d6d1015de4ca8248fa3f0801e839018c991a37"), looks := false }, kinds := [], alts := [], laidByText := true, laidKinds := [.data], laidTests := true, laidLooks := .later }
def ColimPushCardSaid : Prop := Claim7.holds Tryd.pinned (.plain (OpenSpec.ofChange colimPushSpec)) colimPushCard

/-- THE TIED CARD OF 'centolaw9.ColimSteps'. -/
def colimStepsCard : Claim7 := { stood := { row := colimStepsRow, standIns := [], harness := (true, "3a17bbba8e809cb73d2231cf03d6d1015de4ca8248fa3f0801e839018c991a37"), looks := false }, kinds := [], alts := [], laidByText := true, laidKinds := [.data], laidTests := true, laidLooks := .later }
def ColimStepsCardSaid : Prop := Claim7.holds Tryd.pinned (.plain (OpenSpec.ofChange colimStepsSpec)) colimStepsCard

/-- THE TIED CARD OF 'centolaw8.ConeSwaps'. -/
def coneSwapsCard : Claim7 := { stood := { row := coneSwapsRow, standIns := [], harness := (true, "3a17bbba8e809cb73d2231cf03d6d1015de4ca8248fa3f0801e839018c991a37"), looks := false }, kinds := [], alts := [], laidByText := true, laidKinds := [.data], laidTests := true, laidLooks := .later }
def ConeSwapsCardSaid : Prop := Claim7.holds Tryd.pinned (.plain (OpenSpec.ofChange coneSwapsSpec)) coneSwapsCard

/-- THE TIED CARD OF 'centolaw9.ColimPlain'. -/
def colimPlainCard : Claim7 := { stood := { row := colimPlainRow, standIns := [], harness := (true, "3a17bbba8e809cb73d2231cf03d6d1015de4ca8248fa3f0801e839018c991a37"), looks := false }, kinds := [], alts := [], laidByText := true, laidKinds := [.data], laidTests := true, laidLooks := .later }
def ColimPlainCardSaid : Prop := Claim7.holds Tryd.pinned (.plain (OpenSpec.ofChange colimPlainSpec)) colimPlainCard

/-- THE TIED CARD OF 'centolaw5.ArrowTells'. -/
def arrowTellsCard : Claim7 := { stood := { row := arrowTellsRow, standIns := [], harness := (true, "3a17bbba8e809cb73d2231cf03d6d1015de4ca8248fa3f0801e839018c991a37"), looks := false }, kinds := [], alts := [], laidByText := true, laidKinds := [.data], laidTests := true, laidLooks := .later }
def ArrowTellsCardSaid : Prop := Claim7.holds Tryd.pinned (.plain (OpenSpec.ofChange arrowTellsSpec)) arrowTellsCard

/-- THE TIED CARD OF 'centolaw5.ArrowThen'. -/
def arrowThenCard : Claim7 := { stood := { row := arrowThenRow, standIns := [], harness := (true, "3a17bbba8e809cb73d2231cf03d6d1015de4ca8248fa3f0801e839018c991a37"), looks := false }, kinds := [], alts := [], laidByText := true, laidKinds := [.data], laidTests := true, laidLooks := .later }
def ArrowThenCardSaid : Prop := Claim7.holds Tryd.pinned (.plain (OpenSpec.ofChange arrowThenSpec)) arrowThenCard

/-- THE TIED CARD OF 'centolaw5.ArrowTurns'. -/
def arrowTurnsCard : Claim7 := { stood := { row := arrowTurnsRow, standIns := [], harness := (true, "3a17bbba8e809cb73d2231cf03d6d1015de4ca8248fa3f0801e839018c991a37"), looks := false }, kinds := [], alts := [], laidByText := true, laidKinds := [.data], laidTests := true, laidLooks := .later }
def ArrowTurnsCardSaid : Prop := Claim7.holds Tryd.pinned (.plain (OpenSpec.ofChange arrowTurnsSpec)) arrowTurnsCard

/-- THE SECOND FORM's CARD OF 'centolaw7.PushTells'. -/
def pushTellsUptoCard : Claim7 := { stood := { row := pushTellsUptoRow, standIns := [], harness := (true, "3a17bbba8e809cb73d2231cf03d6d1015de4ca8248fa3f0801e839018c991a37"), looks := false }, kinds := [], alts := [], laidByText := true, laidKinds := [.data], laidTests := true, laidLooks := .later }
def PushTellsUptoCardSaid : Prop := Claim7.holds Tryd.pinned (.plain (OpenSpec.upto pushTellsSpec)) pushTellsUptoCard

/-- THE SECOND FORM's CARD OF 'centolaw7.PushSums'. -/
def pushSumsUptoCard : Claim7 := { stood := { row := pushSumsUptoRow, standIns := [], harness := (true, "3a17bbba8e809cb73d2231cf03d6d1015de4ca8248fa3f0801e839018c991a37"), looks := false }, kinds := [], alts := [], laidByText := true, laidKinds := [.data], laidTests := true, laidLooks := .later }
def PushSumsUptoCardSaid : Prop := Claim7.holds Tryd.pinned (.plain (OpenSpec.upto pushSumsSpec)) pushSumsUptoCard

/-- THE SECOND FORM's CARD OF 'centolaw7.PushLines'. -/
def pushLinesUptoCard : Claim7 := { stood := { row := pushLinesUptoRow, standIns := [], harness := (true, "3a17bbba8e809cb73d2231cf03d6d1015de4ca8248fa3f0801e839018c991a37"), looks := false }, kinds := [], alts := [], laidByText := true, laidKinds := [.data], laidTests := true, laidLooks := .later }
def PushLinesUptoCardSaid : Prop := Claim7.holds Tryd.pinned (.plain (OpenSpec.upto pushLinesSpec)) pushLinesUptoCard

/-- THE SECOND FORM's CARD OF 'centolaw7.PushSquare'. -/
def pushSquareUptoCard : Claim7 := { stood := { row := pushSquareUptoRow, standIns := [], harness := (true, "3a17bbba8e809cb73d2231cf03d6d1015de4ca8248fa3f0801e839018c991a37"), looks := false }, kinds := [], alts := [], laidByText := true, laidKinds := [.data], laidTests := true, laidLooks := .later }
def PushSquareUptoCardSaid : Prop := Claim7.holds Tryd.pinned (.plain (OpenSpec.upto pushSquareSpec)) pushSquareUptoCard

/-- THE SECOND FORM's CARD OF 'centolaw7.PushEquals'. -/
def pushEqualsUptoCard : Claim7 := { stood := { row := pushEqualsUptoRow, standIns := [], harness := (true, "3a17bbba8e809cb73d2231cf03d6d1015de4ca8248fa3f0801e839018c991a37"), looks := false }, kinds := [], alts := [], laidByText := true, laidKinds := [.data], laidTests := true, laidLooks := .later }
def PushEqualsUptoCardSaid : Prop := Claim7.holds Tryd.pinned (.plain (OpenSpec.upto pushEqualsSpec)) pushEqualsUptoCard

/-- THE SECOND FORM's CARD OF 'centolaw7.PushSame'. -/
def pushSameUptoCard : Claim7 := { stood := { row := pushSameUptoRow, standIns := [], harness := (true, "3a17bbba8e809cb73d2231cf03d6d1015de4ca8248fa3f0801e839018c991a37"), looks := false }, kinds := [], alts := [], laidByText := true, laidKinds := [.data], laidTests := true, laidLooks := .later }
def PushSameUptoCardSaid : Prop := Claim7.holds Tryd.pinned (.plain (OpenSpec.upto pushSameSpec)) pushSameUptoCard

/-- THE SECOND FORM's CARD OF 'centolaw8.ConeTells'. -/
def coneTellsUptoCard : Claim7 := { stood := { row := coneTellsUptoRow, standIns := [], harness := (true, "3a17bbba8e809cb73d2231cf03d6d1015de4ca8248fa3f0801e839018c991a37"), looks := false }, kinds := [], alts := [], laidByText := true, laidKinds := [.data], laidTests := true, laidLooks := .later }
def ConeTellsUptoCardSaid : Prop := Claim7.holds Tryd.pinned (.plain (OpenSpec.upto coneTellsSpec)) coneTellsUptoCard

/-- THE SECOND FORM's CARD OF 'centolaw8.ConeOne'. -/
def coneOneUptoCard : Claim7 := { stood := { row := coneOneUptoRow, standIns := [], harness := (true, "3a17bbba8e809cb73d2231cf03d6d1015de4ca8248fa3f0801e839018c991a37"), looks := false }, kinds := [], alts := [], laidByText := true, laidKinds := [.data], laidTests := true, laidLooks := .later }
def ConeOneUptoCardSaid : Prop := Claim7.holds Tryd.pinned (.plain (OpenSpec.upto coneOneSpec)) coneOneUptoCard

/-- THE SECOND FORM's CARD OF 'centolaw8.ConeOwn'. -/
def coneOwnUptoCard : Claim7 := { stood := { row := coneOwnUptoRow, standIns := [], harness := (true, "3a17bbba8e809cb73d2231cf03d6d1015de4ca8248fa3f0801e839018c991a37"), looks := false }, kinds := [], alts := [], laidByText := true, laidKinds := [.data], laidTests := true, laidLooks := .later }
def ConeOwnUptoCardSaid : Prop := Claim7.holds Tryd.pinned (.plain (OpenSpec.upto coneOwnSpec)) coneOwnUptoCard

/-- THE SECOND FORM's CARD OF 'centolaw9.ColimOne'. -/
def colimOneUptoCard : Claim7 := { stood := { row := colimOneUptoRow, standIns := [], harness := (true, "3a17bbba8e809cb73d2231cf03d6d1015de4ca8248fa3f0801e839018c991a37"), looks := false }, kinds := [], alts := [], laidByText := true, laidKinds := [.data], laidTests := true, laidLooks := .later }
def ColimOneUptoCardSaid : Prop := Claim7.holds Tryd.pinned (.plain (OpenSpec.upto colimOneSpec)) colimOneUptoCard

/-- THE SECOND FORM's CARD OF 'centolaw9.ColimPush'. -/
def colimPushUptoCard : Claim7 := { stood := { row := colimPushUptoRow, standIns := [], harness := (true, "3a17bbba8e809cb73d2231cf03d6d1015de4ca8248fa3f0801e839018c991a37"), looks := false }, kinds := [], alts := [], laidByText := true, laidKinds := [.data], laidTests := true, laidLooks := .later }
def ColimPushUptoCardSaid : Prop := Claim7.holds Tryd.pinned (.plain (OpenSpec.upto colimPushSpec)) colimPushUptoCard

/-- THE SECOND FORM's CARD OF 'centolaw9.ColimSteps'. -/
def colimStepsUptoCard : Claim7 := { stood := { row := colimStepsUptoRow, standIns := [], harness := (true, "3a17bbba8e809cb73d2231cf03d6d1015de4ca8248fa3f0801e839018c991a37"), looks := false }, kinds := [], alts := [], laidByText := true, laidKinds := [.data], laidTests := true, laidLooks := .later }
def ColimStepsUptoCardSaid : Prop := Claim7.holds Tryd.pinned (.plain (OpenSpec.upto colimStepsSpec)) colimStepsUptoCard

/-- THE SECOND FORM's CARD OF 'centolaw8.ConeSwaps'. -/
def coneSwapsUptoCard : Claim7 := { stood := { row := coneSwapsUptoRow, standIns := [], harness := (true, "3a17bbba8e809cb73d2231cf03d6d1015de4ca8248fa3f0801e839018c991a37"), looks := false }, kinds := [], alts := [], laidByText := true, laidKinds := [.data], laidTests := true, laidLooks := .later }
def ConeSwapsUptoCardSaid : Prop := Claim7.holds Tryd.pinned (.plain (OpenSpec.upto coneSwapsSpec)) coneSwapsUptoCard

/-- THE SECOND FORM's CARD OF 'centolaw9.ColimPlain'. -/
def colimPlainUptoCard : Claim7 := { stood := { row := colimPlainUptoRow, standIns := [], harness := (true, "3a17bbba8e809cb73d2231cf03d6d1015de4ca8248fa3f0801e839018c991a37"), looks := false }, kinds := [], alts := [], laidByText := true, laidKinds := [.data], laidTests := true, laidLooks := .later }
def ColimPlainUptoCardSaid : Prop := Claim7.holds Tryd.pinned (.plain (OpenSpec.upto colimPlainSpec)) colimPlainUptoCard

/-- THE SECOND FORM's CARD OF 'centolaw5.ArrowTells'. -/
def arrowTellsUptoCard : Claim7 := { stood := { row := arrowTellsUptoRow, standIns := [], harness := (true, "3a17bbba8e809cb73d2231cf03d6d1015de4ca8248fa3f0801e839018c991a37"), looks := false }, kinds := [], alts := [], laidByText := true, laidKinds := [.data], laidTests := true, laidLooks := .later }
def ArrowTellsUptoCardSaid : Prop := Claim7.holds Tryd.pinned (.plain (OpenSpec.upto arrowTellsSpec)) arrowTellsUptoCard

/-- THE SECOND FORM's CARD OF 'centolaw5.ArrowThen'. -/
def arrowThenUptoCard : Claim7 := { stood := { row := arrowThenUptoRow, standIns := [], harness := (true, "3a17bbba8e809cb73d2231cf03d6d1015de4ca8248fa3f0801e839018c991a37"), looks := false }, kinds := [], alts := [], laidByText := true, laidKinds := [.data], laidTests := true, laidLooks := .later }
def ArrowThenUptoCardSaid : Prop := Claim7.holds Tryd.pinned (.plain (OpenSpec.upto arrowThenSpec)) arrowThenUptoCard

/-- THE SECOND FORM's CARD OF 'centolaw5.ArrowTurns'. -/
def arrowTurnsUptoCard : Claim7 := { stood := { row := arrowTurnsUptoRow, standIns := [], harness := (true, "3a17bbba8e809cb73d2231cf03d6d1015de4ca8248fa3f0801e839018c991a37"), looks := false }, kinds := [], alts := [], laidByText := true, laidKinds := [.data], laidTests := true, laidLooks := .later }
def ArrowTurnsUptoCardSaid : Prop := Claim7.holds Tryd.pinned (.plain (OpenSpec.upto arrowTurnsSpec)) arrowTurnsUptoCard
end Rows
end Go.Proofs.YtkdkajlgbhggdaaDoor

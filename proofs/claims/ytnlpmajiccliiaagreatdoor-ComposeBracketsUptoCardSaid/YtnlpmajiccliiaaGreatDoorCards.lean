/-
  DERIVED. GIVEN WITH THE SEED: THE CARDS: each row of YtnlpmajiccliiaaGreatDoorRows.lean that lists a variable, with what it lists TIED to the program's text (the seventh form; the later family's looks); each row that meets fmt, with fmt's text TOLD by the authors' own Lean function (tested against real Go, not proved from fmt's source: count such statements apart). THE CARD IS WHAT COUNTS. Prove the row's statement (the work); the ties are given (YtnlpmajiccliiaaGreatDoorTie.lean); close each card by the builder's one call (the guide's Derived/Test/ToyasCard.lean, 'card_holds'). Laid BY PROGRAM, IN A SANDBOX (cutbox-door.mjs). By AI agents, Wed Nov 11 2026. No macro, syntax, notation, axiom, sorry.
-/
import Derived.Test.YtnlpmajiccliiaaGreatDoorRows
import GoSem.ClaimSeven
namespace Go.Proofs.YtnlpmajiccliiaaGreatDoor
namespace Rows

/-- THE TIED CARD OF 'vellumlaw11.ComposePlays'. -/
def composePlaysCard : Claim7 := { stood := { row := composePlaysRow, standIns := [], harness := (true, "0056d9c00e9d7832192c3a690b3251add75626b8998b3b534b9856d74e827343"), looks := true }, kinds := [], alts := [], laidByText := true, laidKinds := [.data, .sentinel, .sentinel, .sentinel, .sentinel, .sentinel, .sentinel, .sentinel, .sentinel, .sentinel, .sentinel, .sentinel, .sentinel, .sentinel, .sentinel, .sentinel, .sentinel, .sentinel, .sentinel, .sentinel, .pinned], laidTests := true, laidLooks := .later }
def ComposePlaysCardSaid : Prop := Claim7.holds Tryz.pinned (.plain (OpenSpec.ofChange composePlaysSpec)) composePlaysCard

/-- THE TIED CARD OF 'vellumlaw11.ComposeAll'. -/
def composeAllCard : Claim7 := { stood := { row := composeAllRow, standIns := [], harness := (true, "0056d9c00e9d7832192c3a690b3251add75626b8998b3b534b9856d74e827343"), looks := true }, kinds := [], alts := [], laidByText := true, laidKinds := [.data, .sentinel, .sentinel, .sentinel, .sentinel, .sentinel, .sentinel, .sentinel, .sentinel, .sentinel, .sentinel, .sentinel, .sentinel, .sentinel, .sentinel, .sentinel, .sentinel, .sentinel, .sentinel, .sentinel, .pinned], laidTests := true, laidLooks := .later }
def ComposeAllCardSaid : Prop := Claim7.holds Tryz.pinned (.plain (OpenSpec.ofChange composeAllSpec)) composeAllCard

/-- THE TIED CARD OF 'vellumlaw11.ComposeBrackets'. -/
def composeBracketsCard : Claim7 := { stood := { row := composeBracketsRow, standIns := [], harness := (true, "0056d9c00e9d7832192c3a690b3251add75626b8998b3b534b9856d74e827343"), looks := true }, kinds := [], alts := [], laidByText := true, laidKinds := [.data, .sentinel, .sentinel, .sentinel, .sentinel, .sentinel, .sentinel, .sentinel, .sentinel, .sentinel, .pinned], laidTests := true, laidLooks := .later }
def ComposeBracketsCardSaid : Prop := Claim7.holds Tryz.pinned (.plain (OpenSpec.ofChange composeBracketsSpec)) composeBracketsCard

/-- THE TIED CARD OF 'vellumlaw10.ApplyPlays'. -/
def applyPlaysCard : Claim7 := { stood := { row := applyPlaysRow, standIns := [], harness := (true, "0056d9c00e9d7832192c3a690b3251add75626b8998b3b534b9856d74e827343"), looks := true }, kinds := [], alts := [], laidByText := true, laidKinds := [.data, .sentinel, .sentinel, .sentinel, .sentinel, .sentinel, .sentinel, .sentinel, .sentinel, .sentinel, .sentinel, .sentinel, .sentinel, .sentinel, .sentinel, .sentinel, .sentinel, .sentinel, .sentinel, .sentinel, .pinned], laidTests := true, laidLooks := .later }
def ApplyPlaysCardSaid : Prop := Claim7.holds Tryz.pinned (.plain (OpenSpec.ofChange applyPlaysSpec)) applyPlaysCard

/-- THE TIED CARD OF 'vellumlaw10.ApplyKept'. -/
def applyKeptCard : Claim7 := { stood := { row := applyKeptRow, standIns := [], harness := (true, "0056d9c00e9d7832192c3a690b3251add75626b8998b3b534b9856d74e827343"), looks := true }, kinds := [], alts := [], laidByText := true, laidKinds := [.data, .sentinel, .sentinel, .sentinel, .sentinel, .sentinel, .sentinel, .sentinel, .sentinel, .sentinel, .sentinel, .sentinel, .sentinel, .sentinel, .sentinel, .sentinel, .sentinel, .sentinel, .sentinel, .sentinel, .pinned], laidTests := true, laidLooks := .later }
def ApplyKeptCardSaid : Prop := Claim7.holds Tryz.pinned (.plain (OpenSpec.ofChange applyKeptSpec)) applyKeptCard

/-- THE TIED CARD OF 'vellumlaw10.ApplyCells'. -/
def applyCellsCard : Claim7 := { stood := { row := applyCellsRow, standIns := [], harness := (true, "0056d9c00e9d7832192c3a690b3251add75626b8998b3b534b9856d74e827343"), looks := true }, kinds := [], alts := [], laidByText := true, laidKinds := [.data, .sentinel, .sentinel, .sentinel, .sentinel, .sentinel, .sentinel, .sentinel, .sentinel, .sentinel, .pinned], laidTests := true, laidLooks := .later }
def ApplyCellsCardSaid : Prop := Claim7.holds Tryz.pinned (.plain (OpenSpec.ofChange applyCellsSpec)) applyCellsCard

/-- THE TIED CARD OF 'vellumlaw10.ApplyFront'. -/
def applyFrontCard : Claim7 := { stood := { row := applyFrontRow, standIns := [], harness := (true, "0056d9c00e9d7832192c3a690b3251add75626b8998b3b534b9856d74e827343"), looks := true }, kinds := [], alts := [], laidByText := true, laidKinds := [.data, .sentinel, .sentinel, .sentinel, .sentinel, .sentinel, .sentinel, .sentinel, .sentinel, .sentinel, .sentinel, .sentinel, .sentinel, .sentinel, .sentinel, .sentinel, .sentinel, .sentinel, .sentinel, .sentinel, .pinned], laidTests := true, laidLooks := .later }
def ApplyFrontCardSaid : Prop := Claim7.holds Tryz.pinned (.plain (OpenSpec.ofChange applyFrontSpec)) applyFrontCard

/-- THE TIED CARD OF 'vellumlaw12.InvertPlays'. -/
def invertPlaysCard : Claim7 := { stood := { row := invertPlaysRow, standIns := [], harness := (true, "0056d9c00e9d7832192c3a690b3251add75626b8998b3b534b9856d74e827343"), looks := true }, kinds := [], alts := [], laidByText := true, laidKinds := [.data, .sentinel, .sentinel, .sentinel, .sentinel, .sentinel, .sentinel, .sentinel, .sentinel, .sentinel, .sentinel, .sentinel, .sentinel, .sentinel, .sentinel, .sentinel, .sentinel, .sentinel, .sentinel, .sentinel, .pinned], laidTests := true, laidLooks := .later }
def InvertPlaysCardSaid : Prop := Claim7.holds Tryz.pinned (.plain (OpenSpec.ofChange invertPlaysSpec)) invertPlaysCard

/-- THE TIED CARD OF 'vellumlaw11.ComposeReach'. -/
def composeReachCard : Claim7 := { stood := { row := composeReachRow, standIns := [], harness := (true, "0056d9c00e9d7832192c3a690b3251add75626b8998b3b534b9856d74e827343"), looks := true }, kinds := [], alts := [], laidByText := true, laidKinds := [.data, .sentinel, .sentinel, .sentinel, .sentinel, .sentinel, .sentinel, .sentinel, .sentinel, .sentinel, .sentinel, .sentinel, .sentinel, .sentinel, .sentinel, .sentinel, .sentinel, .sentinel, .sentinel, .sentinel, .pinned], laidTests := true, laidLooks := .later }
def ComposeReachCardSaid : Prop := Claim7.holds Tryz.pinned (.plain (OpenSpec.ofChange composeReachSpec)) composeReachCard

/-- THE TIED CARD OF 'vellumlaw12.InvertBack'. -/
def invertBackCard : Claim7 := { stood := { row := invertBackRow, standIns := [], harness := (true, "0056d9c00e9d7832192c3a690b3251add75626b8998b3b534b9856d74e827343"), looks := true }, kinds := [], alts := [], laidByText := true, laidKinds := [.data, .sentinel, .sentinel, .sentinel, .sentinel, .sentinel, .sentinel, .sentinel, .sentinel, .sentinel, .sentinel, .sentinel, .sentinel, .sentinel, .sentinel, .sentinel, .sentinel, .sentinel, .sentinel, .sentinel, .pinned], laidTests := true, laidLooks := .later }
def InvertBackCardSaid : Prop := Claim7.holds Tryz.pinned (.plain (OpenSpec.ofChange invertBackSpec)) invertBackCard

/-- THE TIED CARD OF 'vellumlaw12.InvertTwice'. -/
def invertTwiceCard : Claim7 := { stood := { row := invertTwiceRow, standIns := [], harness := (true, "0056d9c00e9d7832192c3a690b3251add75626b8998b3b534b9856d74e827343"), looks := true }, kinds := [], alts := [], laidByText := true, laidKinds := [.data, .sentinel, .sentinel, .sentinel, .sentinel, .sentinel, .sentinel, .sentinel, .sentinel, .sentinel, .pinned], laidTests := true, laidLooks := .later }
def InvertTwiceCardSaid : Prop := Claim7.holds Tryz.pinned (.plain (OpenSpec.ofChange invertTwiceSpec)) invertTwiceCard

/-- THE TIED CARD OF 'vellumlaw11.ComposeApplies'. -/
def composeAppliesCard : Claim7 := { stood := { row := composeAppliesRow, standIns := [], harness := (true, "0056d9c00e9d7832192c3a690b3251add75626b8998b3b534b9856d74e827343"), looks := true }, kinds := [], alts := [], laidByText := true, laidKinds := [.data, .sentinel, .sentinel, .sentinel, .sentinel, .sentinel, .sentinel, .sentinel, .sentinel, .sentinel, .sentinel, .sentinel, .sentinel, .sentinel, .sentinel, .sentinel, .sentinel, .sentinel, .sentinel, .sentinel, .pinned], laidTests := true, laidLooks := .later }
def ComposeAppliesCardSaid : Prop := Claim7.holds Tryz.pinned (.plain (OpenSpec.ofChange composeAppliesSpec)) composeAppliesCard

/-- THE SECOND FORM's CARD OF 'vellumlaw11.ComposePlays'. -/
def composePlaysUptoCard : Claim7 := { stood := { row := composePlaysUptoRow, standIns := [], harness := (true, "0056d9c00e9d7832192c3a690b3251add75626b8998b3b534b9856d74e827343"), looks := true }, kinds := [], alts := [], laidByText := true, laidKinds := [.data, .sentinel, .sentinel, .sentinel, .sentinel, .sentinel, .sentinel, .sentinel, .sentinel, .sentinel, .sentinel, .sentinel, .sentinel, .sentinel, .sentinel, .sentinel, .sentinel, .sentinel, .sentinel, .sentinel, .pinned], laidTests := true, laidLooks := .later }
def ComposePlaysUptoCardSaid : Prop := Claim7.holds Tryz.pinned (.plain (OpenSpec.upto composePlaysSpec)) composePlaysUptoCard

/-- THE SECOND FORM's CARD OF 'vellumlaw11.ComposeAll'. -/
def composeAllUptoCard : Claim7 := { stood := { row := composeAllUptoRow, standIns := [], harness := (true, "0056d9c00e9d7832192c3a690b3251add75626b8998b3b534b9856d74e827343"), looks := true }, kinds := [], alts := [], laidByText := true, laidKinds := [.data, .sentinel, .sentinel, .sentinel, .sentinel, .sentinel, .sentinel, .sentinel, .sentinel, .sentinel, .sentinel, .sentinel, .sentinel, .sentinel, .sentinel, .sentinel, .sentinel, .sentinel, .sentinel, .sentinel, .pinned], laidTests := true, laidLooks := .later }
def ComposeAllUptoCardSaid : Prop := Claim7.holds Tryz.pinned (.plain (OpenSpec.upto composeAllSpec)) composeAllUptoCard

/-- THE SECOND FORM's CARD OF 'vellumlaw11.ComposeBrackets'. -/
def composeBracketsUptoCard : Claim7 := { stood := { row := composeBracketsUptoRow, standIns := [], harness := (true, "0056d9c00e9d7832192c3a690b3251add75626b8998b3b534b9856d74e827343"), looks := true }, kinds := [], alts := [], laidByText := true, laidKinds := [.data, .sentinel, .sentinel, .sentinel, .sentinel, .sentinel, .sentinel, .sentinel, .sentinel, .sentinel, .pinned], laidTests := true, laidLooks := .later }
def ComposeBracketsUptoCardSaid : Prop := Claim7.holds Tryz.pinned (.plain (OpenSpec.upto composeBracketsSpec)) composeBracketsUptoCard

/-- THE SECOND FORM's CARD OF 'vellumlaw10.ApplyPlays'. -/
def applyPlaysUptoCard : Claim7 := { stood := { row := applyPlaysUptoRow, standIns := [], harness := (true, "0056d9c00e9d7832192c3a690b3251add75626b8998b3b534b9856d74e827343"), looks := true }, kinds := [], alts := [], laidByText := true, laidKinds := [.data, .sentinel, .sentinel, .sentinel, .sentinel, .sentinel, .sentinel, .sentinel, .sentinel, .sentinel, .sentinel, .sentinel, .sentinel, .sentinel, .sentinel, .sentinel, .sentinel, .sentinel, .sentinel, .sentinel, .pinned], laidTests := true, laidLooks := .later }
def ApplyPlaysUptoCardSaid : Prop := Claim7.holds Tryz.pinned (.plain (OpenSpec.upto applyPlaysSpec)) applyPlaysUptoCard

/-- THE SECOND FORM's CARD OF 'vellumlaw10.ApplyKept'. -/
def applyKeptUptoCard : Claim7 := { stood := { row := applyKeptUptoRow, standIns := [], harness := (true, "0056d9c00e9d7832192c3a690b3251add75626b8998b3b534b9856d74e827343"), looks := true }, kinds := [], alts := [], laidByText := true, laidKinds := [.data, .sentinel, .sentinel, .sentinel, .sentinel, .sentinel, .sentinel, .sentinel, .sentinel, .sentinel, .sentinel, .sentinel, .sentinel, .sentinel, .sentinel, .sentinel, .sentinel, .sentinel, .sentinel, .sentinel, .pinned], laidTests := true, laidLooks := .later }
def ApplyKeptUptoCardSaid : Prop := Claim7.holds Tryz.pinned (.plain (OpenSpec.upto applyKeptSpec)) applyKeptUptoCard

/-- THE SECOND FORM's CARD OF 'vellumlaw10.ApplyCells'. -/
def applyCellsUptoCard : Claim7 := { stood := { row := applyCellsUptoRow, standIns := [], harness := (true, "0056d9c00e9d7832192c3a690b3251add75626b8998b3b534b9856d74e827343"), looks := true }, kinds := [], alts := [], laidByText := true, laidKinds := [.data, .sentinel, .sentinel, .sentinel, .sentinel, .sentinel, .sentinel, .sentinel, .sentinel, .sentinel, .pinned], laidTests := true, laidLooks := .later }
def ApplyCellsUptoCardSaid : Prop := Claim7.holds Tryz.pinned (.plain (OpenSpec.upto applyCellsSpec)) applyCellsUptoCard

/-- THE SECOND FORM's CARD OF 'vellumlaw10.ApplyFront'. -/
def applyFrontUptoCard : Claim7 := { stood := { row := applyFrontUptoRow, standIns := [], harness := (true, "0056d9c00e9d7832192c3a690b3251add75626b8998b3b534b9856d74e827343"), looks := true }, kinds := [], alts := [], laidByText := true, laidKinds := [.data, .sentinel, .sentinel, .sentinel, .sentinel, .sentinel, .sentinel, .sentinel, .sentinel, .sentinel, .sentinel, .sentinel, .sentinel, .sentinel, .sentinel, .sentinel, .sentinel, .sentinel, .sentinel, .sentinel, .pinned], laidTests := true, laidLooks := .later }
def ApplyFrontUptoCardSaid : Prop := Claim7.holds Tryz.pinned (.plain (OpenSpec.upto applyFrontSpec)) applyFrontUptoCard

/-- THE SECOND FORM's CARD OF 'vellumlaw12.InvertPlays'. -/
def invertPlaysUptoCard : Claim7 := { stood := { row := invertPlaysUptoRow, standIns := [], harness := (true, "0056d9c00e9d7832192c3a690b3251add75626b8998b3b534b9856d74e827343"), looks := true }, kinds := [], alts := [], laidByText := true, laidKinds := [.data, .sentinel, .sentinel, .sentinel, .sentinel, .sentinel, .sentinel, .sentinel, .sentinel, .sentinel, .sentinel, .sentinel, .sentinel, .sentinel, .sentinel, .sentinel, .sentinel, .sentinel, .sentinel, .sentinel, .pinned], laidTests := true, laidLooks := .later }
def InvertPlaysUptoCardSaid : Prop := Claim7.holds Tryz.pinned (.plain (OpenSpec.upto invertPlaysSpec)) invertPlaysUptoCard

/-- THE SECOND FORM's CARD OF 'vellumlaw11.ComposeReach'. -/
def composeReachUptoCard : Claim7 := { stood := { row := composeReachUptoRow, standIns := [], harness := (true, "0056d9c00e9d7832192c3a690b3251add75626b8998b3b534b9856d74e827343"), looks := true }, kinds := [], alts := [], laidByText := true, laidKinds := [.data, .sentinel, .sentinel, .sentinel, .sentinel, .sentinel, .sentinel, .sentinel, .sentinel, .sentinel, .sentinel, .sentinel, .sentinel, .sentinel, .sentinel, .sentinel, .sentinel, .sentinel, .sentinel, .sentinel, .pinned], laidTests := true, laidLooks := .later }
def ComposeReachUptoCardSaid : Prop := Claim7.holds Tryz.pinned (.plain (OpenSpec.upto composeReachSpec)) composeReachUptoCard

/-- THE SECOND FORM's CARD OF 'vellumlaw12.InvertBack'. -/
def invertBackUptoCard : Claim7 := { stood := { row := invertBackUptoRow, standIns := [], harness := (true, "0056d9c00e9d7832192c3a690b3251add75626b8998b3b534b9856d74e827343"), looks := true }, kinds := [], alts := [], laidByText := true, laidKinds := [.data, .sentinel, .sentinel, .sentinel, .sentinel, .sentinel, .sentinel, .sentinel, .sentinel, .sentinel, .sentinel, .sentinel, .sentinel, .sentinel, .sentinel, .sentinel, .sentinel, .sentinel, .sentinel, .sentinel, .pinned], laidTests := true, laidLooks := .later }
def InvertBackUptoCardSaid : Prop := Claim7.holds Tryz.pinned (.plain (OpenSpec.upto invertBackSpec)) invertBackUptoCard

/-- THE SECOND FORM's CARD OF 'vellumlaw12.InvertTwice'. -/
def invertTwiceUptoCard : Claim7 := { stood := { row := invertTwiceUptoRow, standIns := [], harness := (true, "0056d9c00e9d7832192c3a690b3251add75626b8998b3b534b9856d74e827343"), looks := true }, kinds := [], alts := [], laidByText := true, laidKinds := [.data, .sentinel, .sentinel, .sentinel, .sentinel, .sentinel, .sentinel, .sentinel, .sentinel, .sentinel, .pinned], laidTests := true, laidLooks := .later }
def InvertTwiceUptoCardSaid : Prop := Claim7.holds Tryz.pinned (.plain (OpenSpec.upto invertTwiceSpec)) invertTwiceUptoCard

/-- THE SECOND FORM's CARD OF 'vellumlaw11.ComposeApplies'. -/
def composeAppliesUptoCard : Claim7 := { stood := { row := composeAppliesUptoRow, standIns := [], harness := (true, "0056d9c00e9d7832192c3a690b3251add75626b8998b3b534b9856d74e827343"), looks := true }, kinds := [], alts := [], laidByText := true, laidKinds := [.data, .sentinel, .sentinel, .sentinel, .sentinel, .sentinel, .sentinel, .sentinel, .sentinel, .sentinel, .sentinel, .sentinel, .sentinel, .sentinel, .sentinel, .sentinel, .sentinel, .sentinel, .sentinel, .sentinel, .pinned], laidTests := true, laidLooks := .later }
def ComposeAppliesUptoCardSaid : Prop := Claim7.holds Tryz.pinned (.plain (OpenSpec.upto composeAppliesSpec)) composeAppliesUptoCard
end Rows
end Go.Proofs.YtnlpmajiccliiaaGreatDoor

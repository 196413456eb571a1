/-
  DERIVED. GIVEN WITH THE SEED: THE CARDS: each row of YtapolkhdikdjbaaGreatDoorRows.lean that lists a variable, with what it lists TIED to the program's text (the seventh form; the later family's looks); each row that meets fmt, with fmt's text TOLD by the authors' own Lean function (tested against real Go, not proved from fmt's source: count such statements apart). THE CARD IS WHAT COUNTS. Prove the row's statement (the work); the ties are given (YtapolkhdikdjbaaGreatDoorTie.lean); close each card by the builder's one call (the guide's Derived/Test/ToyasCard.lean, 'card_holds'). Laid BY PROGRAM, IN A SANDBOX (cutbox-door.mjs). By AI agents, Wed Nov 11 2026. No macro, syntax, notation, axiom, sorry.
-/
import Derived.Test.YtapolkhdikdjbaaGreatDoorRows
import GoSem.ClaimSeven
namespace Go.Proofs.YtapolkhdikdjbaaGreatDoor
namespace Rows

/-- THE TIED CARD OF 'vellumlaw07.WalkPlays'. -/
def walkPlaysCard : Claim7 := { stood := { row := walkPlaysRow, standIns := [], harness := (true, "905cea56f0b94f921789cdfc1f9527bfb0b3635620c1f772e54b51f1374a6d4c"), looks := true }, kinds := [], alts := [], laidByText := true, laidKinds := [.data, .sentinel, .sentinel, .sentinel, .sentinel, .sentinel, .sentinel, .sentinel, .sentinel, .sentinel, .sentinel, .sentinel, .sentinel, .sentinel, .sentinel, .sentinel, .sentinel, .sentinel, .sentinel, .sentinel, .pinned], laidTests := true, laidLooks := .later }
def WalkPlaysCardSaid : Prop := Claim7.holds Tryz.pinned (.plain (OpenSpec.ofChange walkPlaysSpec)) walkPlaysCard

/-- THE TIED CARD OF 'vellumlaw07.WalkSteps'. -/
def walkStepsCard : Claim7 := { stood := { row := walkStepsRow, standIns := [], harness := (true, "905cea56f0b94f921789cdfc1f9527bfb0b3635620c1f772e54b51f1374a6d4c"), looks := true }, kinds := [], alts := [], laidByText := true, laidKinds := [.data, .sentinel, .sentinel, .sentinel, .sentinel, .sentinel, .sentinel, .sentinel, .sentinel, .sentinel, .pinned], laidTests := true, laidLooks := .later }
def WalkStepsCardSaid : Prop := Claim7.holds Tryz.pinned (.plain (OpenSpec.ofChange walkStepsSpec)) walkStepsCard

/-- THE TIED CARD OF 'vellumlaw07.WalkBack'. -/
def walkBackCard : Claim7 := { stood := { row := walkBackRow, standIns := [], harness := (true, "905cea56f0b94f921789cdfc1f9527bfb0b3635620c1f772e54b51f1374a6d4c"), looks := true }, kinds := [], alts := [], laidByText := true, laidKinds := [.data, .sentinel, .sentinel, .sentinel, .sentinel, .sentinel, .sentinel, .sentinel, .sentinel, .sentinel, .pinned], laidTests := true, laidLooks := .later }
def WalkBackCardSaid : Prop := Claim7.holds Tryz.pinned (.plain (OpenSpec.ofChange walkBackSpec)) walkBackCard

/-- THE TIED CARD OF 'vellumlaw07.WalkSides'. -/
def walkSidesCard : Claim7 := { stood := { row := walkSidesRow, standIns := [], harness := (true, "905cea56f0b94f921789cdfc1f9527bfb0b3635620c1f772e54b51f1374a6d4c"), looks := true }, kinds := [], alts := [], laidByText := true, laidKinds := [.data, .sentinel, .sentinel, .sentinel, .sentinel, .sentinel, .sentinel, .sentinel, .sentinel, .sentinel, .pinned], laidTests := true, laidLooks := .later }
def WalkSidesCardSaid : Prop := Claim7.holds Tryz.pinned (.plain (OpenSpec.ofChange walkSidesSpec)) walkSidesCard

/-- THE TIED CARD OF 'vellumlaw07.WalkEach'. -/
def walkEachCard : Claim7 := { stood := { row := walkEachRow, standIns := [], harness := (true, "905cea56f0b94f921789cdfc1f9527bfb0b3635620c1f772e54b51f1374a6d4c"), looks := true }, kinds := [], alts := [], laidByText := true, laidKinds := [.data, .sentinel, .sentinel, .sentinel, .sentinel, .sentinel, .sentinel, .sentinel, .sentinel, .sentinel, .pinned], laidTests := true, laidLooks := .later }
def WalkEachCardSaid : Prop := Claim7.holds Tryz.pinned (.plain (OpenSpec.ofChange walkEachSpec)) walkEachCard

/-- THE TIED CARD OF 'vellumlaw08.MeasurePlays'. -/
def measurePlaysCard : Claim7 := { stood := { row := measurePlaysRow, standIns := [], harness := (true, "905cea56f0b94f921789cdfc1f9527bfb0b3635620c1f772e54b51f1374a6d4c"), looks := true }, kinds := [], alts := [], laidByText := true, laidKinds := [.data, .sentinel, .sentinel, .sentinel, .sentinel, .sentinel, .sentinel, .sentinel, .sentinel, .sentinel, .sentinel, .sentinel, .sentinel, .sentinel, .sentinel, .sentinel, .sentinel, .sentinel, .sentinel, .sentinel, .pinned], laidTests := true, laidLooks := .later }
def MeasurePlaysCardSaid : Prop := Claim7.holds Tryz.pinned (.plain (OpenSpec.ofChange measurePlaysSpec)) measurePlaysCard

/-- THE TIED CARD OF 'vellumlaw08.MeasureCuts'. -/
def measureCutsCard : Claim7 := { stood := { row := measureCutsRow, standIns := [], harness := (true, "905cea56f0b94f921789cdfc1f9527bfb0b3635620c1f772e54b51f1374a6d4c"), looks := true }, kinds := [], alts := [], laidByText := true, laidKinds := [.data, .sentinel, .sentinel, .sentinel, .sentinel, .sentinel, .sentinel, .sentinel, .sentinel, .sentinel, .pinned], laidTests := true, laidLooks := .later }
def MeasureCutsCardSaid : Prop := Claim7.holds Tryz.pinned (.plain (OpenSpec.ofChange measureCutsSpec)) measureCutsCard

/-- THE TIED CARD OF 'vellumlaw11.ComposePlays'. -/
def composePlaysCard : Claim7 := { stood := { row := composePlaysRow, standIns := [], harness := (true, "905cea56f0b94f921789cdfc1f9527bfb0b3635620c1f772e54b51f1374a6d4c"), looks := true }, kinds := [], alts := [], laidByText := true, laidKinds := [.data, .sentinel, .sentinel, .sentinel, .sentinel, .sentinel, .sentinel, .sentinel, .sentinel, .sentinel, .sentinel, .sentinel, .sentinel, .sentinel, .sentinel, .sentinel, .sentinel, .sentinel, .sentinel, .sentinel, .pinned], laidTests := true, laidLooks := .later }
def ComposePlaysCardSaid : Prop := Claim7.holds Tryz.pinned (.plain (OpenSpec.ofChange composePlaysSpec)) composePlaysCard

/-- THE TIED CARD OF 'vellumlaw10.ApplyPlays'. -/
def applyPlaysCard : Claim7 := { stood := { row := applyPlaysRow, standIns := [], harness := (true, "905cea56f0b94f921789cdfc1f9527bfb0b3635620c1f772e54b51f1374a6d4c"), looks := true }, kinds := [], alts := [], laidByText := true, laidKinds := [.data, .sentinel, .sentinel, .sentinel, .sentinel, .sentinel, .sentinel, .sentinel, .sentinel, .sentinel, .sentinel, .sentinel, .sentinel, .sentinel, .sentinel, .sentinel, .sentinel, .sentinel, .sentinel, .sentinel, .pinned], laidTests := true, laidLooks := .later }
def ApplyPlaysCardSaid : Prop := Claim7.holds Tryz.pinned (.plain (OpenSpec.ofChange applyPlaysSpec)) applyPlaysCard

/-- THE TIED CARD OF 'vellumlaw10.ApplyKept'. -/
def applyKeptCard : Claim7 := { stood := { row := applyKeptRow, standIns := [], harness := (true, "905cea56f0b94f921789cdfc1f9527bfb0b3635620c1f772e54b51f1374a6d4c"), looks := true }, kinds := [], alts := [], laidByText := true, laidKinds := [.data, .sentinel, .sentinel, .sentinel, .sentinel, .sentinel, .sentinel, .sentinel, .sentinel, .sentinel, .sentinel, .sentinel, .sentinel, .sentinel, .sentinel, .sentinel, .sentinel, .sentinel, .sentinel, .sentinel, .pinned], laidTests := true, laidLooks := .later }
def ApplyKeptCardSaid : Prop := Claim7.holds Tryz.pinned (.plain (OpenSpec.ofChange applyKeptSpec)) applyKeptCard

/-- THE TIED CARD OF 'vellumlaw10.ApplyCells'. -/
def applyCellsCard : Claim7 := { stood := { row := applyCellsRow, standIns := [], harness := (true, "905cea56f0b94f921789cdfc1f9527bfb0b3635620c1f772e54b51f1374a6d4c"), looks := true }, kinds := [], alts := [], laidByText := true, laidKinds := [.data, .sentinel, .sentinel, .sentinel, .sentinel, .sentinel, .sentinel, .sentinel, .sentinel, .sentinel, .pinned], laidTests := true, laidLooks := .later }
def ApplyCellsCardSaid : Prop := Claim7.holds Tryz.pinned (.plain (OpenSpec.ofChange applyCellsSpec)) applyCellsCard

/-- THE TIED CARD OF 'vellumlaw10.ApplyFront'. -/
def applyFrontCard : Claim7 := { stood := { row := applyFrontRow, standIns := [], harness := (true, "905cea56f0b94f921789cdfc1f9527bfb0b3635620c1f772e54b51f1374a6d4c"), looks := true }, kinds := [], alts := [], laidByText := true, laidKinds := [.data, .sentinel, .sentinel, .sentinel, .sentinel, .sentinel, .sentinel, .sentinel, .sentinel, .sentinel, .sentinel, .sentinel, .sentinel, .sentinel, .sentinel, .sentinel, .sentinel, .sentinel, .sentinel, .sentinel, .pinned], laidTests := true, laidLooks := .later }
def ApplyFrontCardSaid : Prop := Claim7.holds Tryz.pinned (.plain (OpenSpec.ofChange applyFrontSpec)) applyFrontCard

/-- THE SECOND FORM's CARD OF 'vellumlaw07.WalkPlays'. -/
def walkPlaysUptoCard : Claim7 := { stood := { row := walkPlaysUptoRow, standIns := [], harness := (true, "905cea56f0b94f921789cdfc1f9527bfb0b3635620c1f772e54b51f1374a6d4c"), looks := true }, kinds := [], alts := [], laidByText := true, laidKinds := [.data, .sentinel, .sentinel, .sentinel, .sentinel, .sentinel, .sentinel, .sentinel, .sentinel, .sentinel, .sentinel, .sentinel, .sentinel, .sentinel, .sentinel, .sentinel, .sentinel, .sentinel, .sentinel, .sentinel, .pinned], laidTests := true, laidLooks := .later }
def WalkPlaysUptoCardSaid : Prop := Claim7.holds Tryz.pinned (.plain (OpenSpec.upto walkPlaysSpec)) walkPlaysUptoCard

/-- THE SECOND FORM's CARD OF 'vellumlaw07.WalkSteps'. -/
def walkStepsUptoCard : Claim7 := { stood := { row := walkStepsUptoRow, standIns := [], harness := (true, "905cea56f0b94f921789cdfc1f9527bfb0b3635620c1f772e54b51f1374a6d4c"), looks := true }, kinds := [], alts := [], laidByText := true, laidKinds := [.data, .sentinel, .sentinel, .sentinel, .sentinel, .sentinel, .sentinel, .sentinel, .sentinel, .sentinel, .pinned], laidTests := true, laidLooks := .later }
def WalkStepsUptoCardSaid : Prop := Claim7.holds Tryz.pinned (.plain (OpenSpec.upto walkStepsSpec)) walkStepsUptoCard

/-- THE SECOND FORM's CARD OF 'vellumlaw07.WalkBack'. -/
def walkBackUptoCard : Claim7 := { stood := { row := walkBackUptoRow, standIns := [], harness := (true, "905cea56f0b94f921789cdfc1f9527bfb0b3635620c1f772e54b51f1374a6d4c"), looks := true }, kinds := [], alts := [], laidByText := true, laidKinds := [.data, .sentinel, .sentinel, .sentinel, .sentinel, .sentinel, .sentinel, .sentinel, .sentinel, .sentinel, .pinned], laidTests := true, laidLooks := .later }
def WalkBackUptoCardSaid : Prop := Claim7.holds Tryz.pinned (.plain (OpenSpec.upto walkBackSpec)) walkBackUptoCard

/-- THE SECOND FORM's CARD OF 'vellumlaw07.WalkSides'. -/
def walkSidesUptoCard : Claim7 := { stood := { row := walkSidesUptoRow, standIns := [], harness := (true, "905cea56f0b94f921789cdfc1f9527bfb0b3635620c1f772e54b51f1374a6d4c"), looks := true }, kinds := [], alts := [], laidByText := true, laidKinds := [.data, .sentinel, .sentinel, .sentinel, .sentinel, .sentinel, .sentinel, .sentinel, .sentinel, .sentinel, .pinned], laidTests := true, laidLooks := .later }
def WalkSidesUptoCardSaid : Prop := Claim7.holds Tryz.pinned (.plain (OpenSpec.upto walkSidesSpec)) walkSidesUptoCard

/-- THE SECOND FORM's CARD OF 'vellumlaw07.WalkEach'. -/
def walkEachUptoCard : Claim7 := { stood := { row := walkEachUptoRow, standIns := [], harness := (true, "905cea56f0b94f921789cdfc1f9527bfb0b3635620c1f772e54b51f1374a6d4c"), looks := true }, kinds := [], alts := [], laidByText := true, laidKinds := [.data, .sentinel, .sentinel, .sentinel, .sentinel, .sentinel, .sentinel, .sentinel, .sentinel, .sentinel, .pinned], laidTests := true, laidLooks := .later }
def WalkEachUptoCardSaid : Prop := Claim7.holds Tryz.pinned (.plain (OpenSpec.upto walkEachSpec)) walkEachUptoCard

/-- THE SECOND FORM's CARD OF 'vellumlaw08.MeasurePlays'. -/
def measurePlaysUptoCard : Claim7 := { stood := { row := measurePlaysUptoRow, standIns := [], harness := (true, "905cea56f0b94f921789cdfc1f9527bfb0b3635620c1f772e54b51f1374a6d4c"), looks := true }, kinds := [], alts := [], laidByText := true, laidKinds := [.data, .sentinel, .sentinel, .sentinel, .sentinel, .sentinel, .sentinel, .sentinel, .sentinel, .sentinel, .sentinel, .sentinel, .sentinel, .sentinel, .sentinel, .sentinel, .sentinel, .sentinel, .sentinel, .sentinel, .pinned], laidTests := true, laidLooks := .later }
def MeasurePlaysUptoCardSaid : Prop := Claim7.holds Tryz.pinned (.plain (OpenSpec.upto measurePlaysSpec)) measurePlaysUptoCard

/-- THE SECOND FORM's CARD OF 'vellumlaw08.MeasureCuts'. -/
def measureCutsUptoCard : Claim7 := { stood := { row := measureCutsUptoRow, standIns := [], harness := (true, "905cea56f0b94f921789cdfc1f9527bfb0b3635620c1f772e54b51f1374a6d4c"), looks := true }, kinds := [], alts := [], laidByText := true, laidKinds := [.data, .sentinel, .sentinel, .sentinel, .sentinel, .sentinel, .sentinel, .sentinel, .sentinel, .sentinel, .pinned], laidTests := true, laidLooks := .later }
def MeasureCutsUptoCardSaid : Prop := Claim7.holds Tryz.pinned (.plain (OpenSpec.upto measureCutsSpec)) measureCutsUptoCard

/-- THE SECOND FORM's CARD OF 'vellumlaw11.ComposePlays'. -/
def composePlaysUptoCard : Claim7 := { stood := { row := composePlaysUptoRow, standIns := [], harness := (true, "905cea56f0b94f921789cdfc1f9527bfb0b3635620c1f772e54b51f1374a6d4c"), looks := true }, kinds := [], alts := [], laidByText := true, laidKinds := [.data, .sentinel, .sentinel, .sentinel, .sentinel, .sentinel, .sentinel, .sentinel, .sentinel, .sentinel, .sentinel, .sentinel, .sentinel, .sentinel, .sentinel, .sentinel, .sentinel, .sentinel, .sentinel, .sentinel, .pinned], laidTests := true, laidLooks := .later }
def ComposePlaysUptoCardSaid : Prop := Claim7.holds Tryz.pinned (.plain (OpenSpec.upto composePlaysSpec)) composePlaysUptoCard

/-- THE SECOND FORM's CARD OF 'vellumlaw10.ApplyPlays'. -/
def applyPlaysUptoCard : Claim7 := { stood := { row := applyPlaysUptoRow, standIns := [], harness := (true, "905cea56f0b94f921789cdfc1f9527bfb0b3635620c1f772e54b51f1374a6d4c"), looks := true }, kinds := [], alts := [], laidByText := true, laidKinds := [.data, .sentinel, .sentinel, .sentinel, .sentinel, .sentinel, .sentinel, .sentinel, .sentinel, .sentinel, .sentinel, .sentinel, .sentinel, .sentinel, .sentinel, .sentinel, .sentinel, .sentinel, .sentinel, .sentinel, .pinned], laidTests := true, laidLooks := .later }
def ApplyPlaysUptoCardSaid : Prop := Claim7.holds Tryz.pinned (.plain (OpenSpec.upto applyPlaysSpec)) applyPlaysUptoCard

/-- THE SECOND FORM's CARD OF 'vellumlaw10.ApplyKept'. -/
def applyKeptUptoCard : Claim7 := { stood := { row := applyKeptUptoRow, standIns := [], harness := (true, "905cea56f0b94f921789cdfc1f9527bfb0b3635620c1f772e54b51f1374a6d4c"), looks := true }, kinds := [], alts := [], laidByText := true, laidKinds := [.data, .sentinel, .sentinel, .sentinel, .sentinel, .sentinel, .sentinel, .sentinel, .sentinel, .sentinel, .sentinel, .sentinel, .sentinel, .sentinel, .sentinel, .sentinel, .sentinel, .sentinel, .sentinel, .sentinel, .pinned], laidTests := true, laidLooks := .later }
def ApplyKeptUptoCardSaid : Prop := Claim7.holds Tryz.pinned (.plain (OpenSpec.upto applyKeptSpec)) applyKeptUptoCard

/-- THE SECOND FORM's CARD OF 'vellumlaw10.ApplyCells'. -/
def applyCellsUptoCard : Claim7 := { stood := { row := applyCellsUptoRow, standIns := [], harness := (true, "905cea56f0b94f921789cdfc1f9527bfb0b3635620c1f772e54b51f1374a6d4c"), looks := true }, kinds := [], alts := [], laidByText := true, laidKinds := [.data, .sentinel, .sentinel, .sentinel, .sentinel, .sentinel, .sentinel, .sentinel, .sentinel, .sentinel, .pinned], laidTests := true, laidLooks := .later }
def ApplyCellsUptoCardSaid : Prop := Claim7.holds Tryz.pinned (.plain (OpenSpec.upto applyCellsSpec)) applyCellsUptoCard

/-- THE SECOND FORM's CARD OF 'vellumlaw10.ApplyFront'. -/
def applyFrontUptoCard : Claim7 := { stood := { row := applyFrontUptoRow, standIns := [], harness := (true, "905cea56f0b94f921789cdfc1f9527bfb0b3635620c1f772e54b51f1374a6d4c"), looks := true }, kinds := [], alts := [], laidByText := true, laidKinds := [.data, .sentinel, .sentinel, .sentinel, .sentinel, .sentinel, .sentinel, .sentinel, .sentinel, .sentinel, .sentinel, .sentinel, .sentinel, .sentinel, .sentinel, .sentinel, .sentinel, .sentinel, .sentinel, .sentinel, .pinned], laidTests := true, laidLooks := .later }
def ApplyFrontUptoCardSaid : Prop := Claim7.holds Tryz.pinned (.plain (OpenSpec.upto applyFrontSpec)) applyFrontUptoCard
end Rows
end Go.Proofs.YtapolkhdikdjbaaGreatDoor

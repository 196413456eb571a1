/-
  DERIVED. GIVEN WITH THE SEED: THE CARDS: each row of YtmdakddgeagnmaaDoorRows.lean that lists a variable, with what it lists TIED to the program's text (the seventh form; the later family's looks); each row that meets fmt, with fmt's text TOLD by the authors' own Lean function (tested against real Go, not proved from fmt's source: count such statements apart). THE CARD IS WHAT COUNTS. Prove the row's statement (the work); the ties are given (YtmdakddgeagnmaaDoorTie.lean); close each card by the builder's one call (the guide's Derived/Test/ToyasCard.lean, 'card_holds'). Laid BY PROGRAM, IN A SANDBOX (cutbox-door.mjs). By AI agents, Wed Nov 11 2026. No macro, syntax, notation, axiom, sorry.
-/
import Derived.Test.YtmdakddgeagnmaaDoorRows
import GoSem.ClaimSeven
namespace Go.Proofs.YtmdakddgeagnmaaDoor
namespace Rows

/-- THE TIED CARD OF 'vellumlaw14.PlacesPlays'. -/
def placesPlaysCard : Claim7 := { stood := { row := placesPlaysRow, standIns := [], harness := (true, "4ad095dc6c3eb610829b351e4f3e9e888c2cdce301f84c0cca696f4dc79c07ee"), looks := true }, kinds := [], alts := [], laidByText := true, laidKinds := [.data, .sentinel, .sentinel, .sentinel, .sentinel, .sentinel, .sentinel, .sentinel, .sentinel, .sentinel, .sentinel, .sentinel, .sentinel, .sentinel, .sentinel, .sentinel, .sentinel, .sentinel, .sentinel, .sentinel, .pinned], laidTests := true, laidLooks := .later }
def PlacesPlaysCardSaid : Prop := Claim7.holds Tryd.pinned (.plain (OpenSpec.ofChange placesPlaysSpec)) placesPlaysCard

/-- THE TIED CARD OF 'vellumlaw14.PlacesNeighbours'. -/
def placesNeighboursCard : Claim7 := { stood := { row := placesNeighboursRow, standIns := [], harness := (true, "4ad095dc6c3eb610829b351e4f3e9e888c2cdce301f84c0cca696f4dc79c07ee"), looks := true }, kinds := [], alts := [], laidByText := true, laidKinds := [.data, .sentinel, .sentinel, .sentinel, .sentinel, .sentinel, .sentinel, .sentinel, .sentinel, .sentinel, .sentinel, .sentinel, .sentinel, .sentinel, .sentinel, .sentinel, .sentinel, .sentinel, .sentinel, .sentinel, .pinned], laidTests := true, laidLooks := .later }
def PlacesNeighboursCardSaid : Prop := Claim7.holds Tryd.pinned (.plain (OpenSpec.ofChange placesNeighboursSpec)) placesNeighboursCard

/-- THE TIED CARD OF 'vellumlaw08.MeasureSums'. -/
def measureSumsCard : Claim7 := { stood := { row := measureSumsRow, standIns := [], harness := (true, "4ad095dc6c3eb610829b351e4f3e9e888c2cdce301f84c0cca696f4dc79c07ee"), looks := true }, kinds := [], alts := [], laidByText := true, laidKinds := [.data, .sentinel, .sentinel, .sentinel, .sentinel, .sentinel, .sentinel, .sentinel, .sentinel, .sentinel, .pinned], laidTests := true, laidLooks := .later }
def MeasureSumsCardSaid : Prop := Claim7.holds Tryd.pinned (.plain (OpenSpec.ofChange measureSumsSpec)) measureSumsCard

/-- THE TIED CARD OF 'vellumlaw14.PlacesOrder'. -/
def placesOrderCard : Claim7 := { stood := { row := placesOrderRow, standIns := [], harness := (true, "4ad095dc6c3eb610829b351e4f3e9e888c2cdce301f84c0cca696f4dc79c07ee"), looks := true }, kinds := [], alts := [], laidByText := true, laidKinds := [.data, .sentinel, .sentinel, .sentinel, .sentinel, .sentinel, .sentinel, .sentinel, .sentinel, .sentinel, .pinned], laidTests := true, laidLooks := .later }
def PlacesOrderCardSaid : Prop := Claim7.holds Tryd.pinned (.plain (OpenSpec.ofChange placesOrderSpec)) placesOrderCard

/-- THE TIED CARD OF 'vellumlaw14.PlacesBack'. -/
def placesBackCard : Claim7 := { stood := { row := placesBackRow, standIns := [], harness := (true, "4ad095dc6c3eb610829b351e4f3e9e888c2cdce301f84c0cca696f4dc79c07ee"), looks := true }, kinds := [], alts := [], laidByText := true, laidKinds := [.data, .sentinel, .sentinel, .sentinel, .sentinel, .sentinel, .sentinel, .sentinel, .sentinel, .sentinel, .pinned], laidTests := true, laidLooks := .later }
def PlacesBackCardSaid : Prop := Claim7.holds Tryd.pinned (.plain (OpenSpec.ofChange placesBackSpec)) placesBackCard

/-- THE SECOND FORM's CARD OF 'vellumlaw14.PlacesPlays'. -/
def placesPlaysUptoCard : Claim7 := { stood := { row := placesPlaysUptoRow, standIns := [], harness := (true, "4ad095dc6c3eb610829b351e4f3e9e888c2cdce301f84c0cca696f4dc79c07ee"), looks := true }, kinds := [], alts := [], laidByText := true, laidKinds := [.data, .sentinel, .sentinel, .sentinel, .sentinel, .sentinel, .sentinel, .sentinel, .sentinel, .sentinel, .sentinel, .sentinel, .sentinel, .sentinel, .sentinel, .sentinel, .sentinel, .sentinel, .sentinel, .sentinel, .pinned], laidTests := true, laidLooks := .later }
def PlacesPlaysUptoCardSaid : Prop := Claim7.holds Tryd.pinned (.plain (OpenSpec.upto placesPlaysSpec)) placesPlaysUptoCard

/-- THE SECOND FORM's CARD OF 'vellumlaw14.PlacesNeighbours'. -/
def placesNeighboursUptoCard : Claim7 := { stood := { row := placesNeighboursUptoRow, standIns := [], harness := (true, "4ad095dc6c3eb610829b351e4f3e9e888c2cdce301f84c0cca696f4dc79c07ee"), looks := true }, kinds := [], alts := [], laidByText := true, laidKinds := [.data, .sentinel, .sentinel, .sentinel, .sentinel, .sentinel, .sentinel, .sentinel, .sentinel, .sentinel, .sentinel, .sentinel, .sentinel, .sentinel, .sentinel, .sentinel, .sentinel, .sentinel, .sentinel, .sentinel, .pinned], laidTests := true, laidLooks := .later }
def PlacesNeighboursUptoCardSaid : Prop := Claim7.holds Tryd.pinned (.plain (OpenSpec.upto placesNeighboursSpec)) placesNeighboursUptoCard

/-- THE SECOND FORM's CARD OF 'vellumlaw08.MeasureSums'. -/
def measureSumsUptoCard : Claim7 := { stood := { row := measureSumsUptoRow, standIns := [], harness := (true, "4ad095dc6c3eb610829b351e4f3e9e888c2cdce301f84c0cca696f4dc79c07ee"), looks := true }, kinds := [], alts := [], laidByText := true, laidKinds := [.data, .sentinel, .sentinel, .sentinel, .sentinel, .sentinel, .sentinel, .sentinel, .sentinel, .sentinel, .pinned], laidTests := true, laidLooks := .later }
def MeasureSumsUptoCardSaid : Prop := Claim7.holds Tryd.pinned (.plain (OpenSpec.upto measureSumsSpec)) measureSumsUptoCard

/-- THE SECOND FORM's CARD OF 'vellumlaw14.PlacesOrder'. -/
def placesOrderUptoCard : Claim7 := { stood := { row := placesOrderUptoRow, standIns := [], harness := (true, "4ad095dc6c3eb610829b351e4f3e9e888c2cdce301f84c0cca696f4dc79c07ee"), looks := true }, kinds := [], alts := [], laidByText := true, laidKinds := [.data, .sentinel, .sentinel, .sentinel, .sentinel, .sentinel, .sentinel, .sentinel, .sentinel, .sentinel, .pinned], laidTests := true, laidLooks := .later }
def PlacesOrderUptoCardSaid : Prop := Claim7.holds Tryd.pinned (.plain (OpenSpec.upto placesOrderSpec)) placesOrderUptoCard

/-- THE SECOND FORM's CARD OF 'vellumlaw14.PlacesBack'. -/
def placesBackUptoCard : Claim7 := { stood := { row := placesBackUptoRow, standIns := [], harness := (true, "4ad095dc6c3eb610829b351e4f3e9e888c2cdce301f84c0cca696f4dc79c07ee"), looks := true }, kinds := [], alts := [], laidByText := true, laidKinds := [.data, .sentinel, .sentinel, .sentinel, .sentinel, .sentinel, .sentinel, .sentinel, .sentinel, .sentinel, .pinned], laidTests := true, laidLooks := .later }
def PlacesBackUptoCardSaid : Prop := Claim7.holds Tryd.pinned (.plain (OpenSpec.upto placesBackSpec)) placesBackUptoCard
end Rows
end Go.Proofs.YtmdakddgeagnmaaDoor

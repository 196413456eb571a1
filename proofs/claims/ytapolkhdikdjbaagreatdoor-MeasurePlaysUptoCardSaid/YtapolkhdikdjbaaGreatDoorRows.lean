/-
  NARROWER THAN 'FOR EVERY INPUT', by the rows' own cells (each row's printed sentence says how): WalkPlays: laid · WalkSteps: laid · WalkBack: laid · WalkSides: laid · WalkEach: laid · MeasurePlays: laid · MeasureCuts: laid · ComposePlays: laid · ApplyPlays: laid · ApplyKept: laid · ApplyCells: laid · ApplyFront: laid.
  DERIVED. THE GIVEN ROWS OF THIS SEAT. 12 by the template 'for every input the law returns true; each argument reads behind the call as it read before'; 0 by the template 'total and deterministic' (their statements: YtapolkhdikdjbaaGreatDoorTotals.lean).
  GIVEN WITH THE SEED: the statements are not yours to turn. If you find one false, say at which input.
  Laid BY PROGRAM, IN A SANDBOX (cutbox-rows.mjs): the forced cells as the released guide's own fill.sh prints them over the translation 599386693e9190d6… (all of the seat's roots in one cut). By AI agents, Wed Nov 11 2026. No macro, syntax, notation, axiom, sorry.
-/
import Derived.Test.YtapolkhdikdjbaaGreatDoorChecked
import GoSem.PinnedTables
import GoSem.Claim
import GoSem.ClaimJoined
import GoSem.ClaimMapViews
import Derived.JoinedTies
import Derived.KernelRfl
namespace Go.Proofs.YtapolkhdikdjbaaGreatDoor
/- THE CELL 'sum', in the pinned program and in every row, IS THE sha256 OF THE DUMP (.gsa) THAT YtapolkhdikdjbaaGreatDoorProg.lean LOADS. Nothing in Lean hashes anything: it is a label: what it is worth is what the hold of that sum in a sandbox is worth. -/
noncomputable def Tryz.pinned : Pinned := { name := "ytapolkhdikdjbaagreatdoor", sum := "599386693e9190d6435580cb91c5d97b422c891d634a910956f61f5fe5e2c495", checked := Tryz.checked }
namespace Rows
def none {H : Type} : Left H := { results := [], args := [] }

/- WHAT THE LISTED PACKAGE-LEVEL VARIABLES READ AS WHEN THE CALL BEGINS. Each datum BY PROGRAM (the guide's laid-datum.mjs) off the statement by which the dump's own 'gosem.cut.vars' lays the variable. In a bare row this is a premise. The card (YtapolkhdikdjbaaGreatDoorCards.lean) ties it to the program's text. -/
def laid_unicode_utf8_acceptRanges {H : Type} : DataW H := .agg [.agg [.lit (.int .u8 128), .lit (.int .u8 191)], .agg [.lit (.int .u8 160), .lit (.int .u8 191)], .agg [.lit (.int .u8 128), .lit (.int .u8 159)], .agg [.lit (.int .u8 144), .lit (.int .u8 191)], .agg [.lit (.int .u8 128), .lit (.int .u8 143)], .agg [.lit (.int .u8 0), .lit (.int .u8 0)], .agg [.lit (.int .u8 0), .lit (.int .u8 0)], .agg [.lit (.int .u8 0), .lit (.int .u8 0)], .agg [.lit (.int .u8 0), .lit (.int .u8 0)], .agg [.lit (.int .u8 0), .lit (.int .u8 0)], .agg [.lit (.int .u8 0), .lit (.int .u8 0)], .agg [.lit (.int .u8 0), .lit (.int .u8 0)], .agg [.lit (.int .u8 0), .lit (.int .u8 0)], .agg [.lit (.int .u8 0), .lit (.int .u8 0)], .agg [.lit (.int .u8 0), .lit (.int .u8 0)], .agg [.lit (.int .u8 0), .lit (.int .u8 0)]]
def laid_vellum_api_ErrUtf8 {H : Type} : DataW H := .iface "*errors.errorString" (.ptr (.agg [.lit (.string [118, 101, 108, 108, 117, 109, 58, 32, 117, 116, 102, 45, 56])]))
def laid_vellum_api_ErrJson {H : Type} : DataW H := .iface "*errors.errorString" (.ptr (.agg [.lit (.string [118, 101, 108, 108, 117, 109, 58, 32, 106, 115, 111, 110])]))
def laid_vellum_api_ErrNest {H : Type} : DataW H := .iface "*errors.errorString" (.ptr (.agg [.lit (.string [118, 101, 108, 108, 117, 109, 58, 32, 110, 101, 115, 116, 105, 110, 103])]))
def laid_vellum_api_ErrNumber {H : Type} : DataW H := .iface "*errors.errorString" (.ptr (.agg [.lit (.string [118, 101, 108, 108, 117, 109, 58, 32, 110, 117, 109, 98, 101, 114])]))
def laid_vellum_api_ErrKind {H : Type} : DataW H := .iface "*errors.errorString" (.ptr (.agg [.lit (.string [118, 101, 108, 108, 117, 109, 58, 32, 107, 105, 110, 100])]))
def laid_vellum_api_ErrKey {H : Type} : DataW H := .iface "*errors.errorString" (.ptr (.agg [.lit (.string [118, 101, 108, 108, 117, 109, 58, 32, 107, 101, 121])]))
def laid_vellum_api_ErrNull {H : Type} : DataW H := .iface "*errors.errorString" (.ptr (.agg [.lit (.string [118, 101, 108, 108, 117, 109, 58, 32, 110, 117, 108, 108])]))
def laid_vellum_api_ErrAttrs {H : Type} : DataW H := .iface "*errors.errorString" (.ptr (.agg [.lit (.string [118, 101, 108, 108, 117, 109, 58, 32, 97, 116, 116, 114, 105, 98, 117, 116, 101, 115])]))
def laid_vellum_api_ErrOp {H : Type} : DataW H := .iface "*errors.errorString" (.ptr (.agg [.lit (.string [118, 101, 108, 108, 117, 109, 58, 32, 111, 112, 101, 114, 97, 116, 105, 111, 110])]))
def laid_vellum_api_ErrLimit {H : Type} : DataW H := .iface "*errors.errorString" (.ptr (.agg [.lit (.string [118, 101, 108, 108, 117, 109, 58, 32, 108, 105, 109, 105, 116])]))
def laid_vellum_api_ErrLong {H : Type} : DataW H := .iface "*errors.errorString" (.ptr (.agg [.lit (.string [118, 101, 108, 108, 117, 109, 58, 32, 108, 111, 110, 103])]))
def laid_vellum_api_ErrRange {H : Type} : DataW H := .iface "*errors.errorString" (.ptr (.agg [.lit (.string [118, 101, 108, 108, 117, 109, 58, 32, 114, 97, 110, 103, 101])]))
def laid_vellum_api_ErrSchema {H : Type} : DataW H := .iface "*errors.errorString" (.ptr (.agg [.lit (.string [118, 101, 108, 108, 117, 109, 58, 32, 115, 99, 104, 101, 109, 97])]))
def laid_vellum_api_ErrEnd {H : Type} : DataW H := .iface "*errors.errorString" (.ptr (.agg [.lit (.string [118, 101, 108, 108, 117, 109, 58, 32, 101, 110, 100])]))
def laid_vellum_api_ErrEmpty {H : Type} : DataW H := .iface "*errors.errorString" (.ptr (.agg [.lit (.string [118, 101, 108, 108, 117, 109, 58, 32, 101, 109, 112, 116, 121])]))
def laid_vellum_api_ErrMark {H : Type} : DataW H := .iface "*errors.errorString" (.ptr (.agg [.lit (.string [118, 101, 108, 108, 117, 109, 58, 32, 109, 97, 114, 107])]))
def laid_vellum_api_ErrReplica {H : Type} : DataW H := .iface "*errors.errorString" (.ptr (.agg [.lit (.string [118, 101, 108, 108, 117, 109, 58, 32, 114, 101, 112, 108, 105, 99, 97])]))
def laid_vellum_api_ErrBytes {H : Type} : DataW H := .iface "*errors.errorString" (.ptr (.agg [.lit (.string [118, 101, 108, 108, 117, 109, 58, 32, 98, 121, 116, 101, 115])]))
def laid_vellum_api_ErrCommand {H : Type} : DataW H := .iface "*errors.errorString" (.ptr (.agg [.lit (.string [118, 101, 108, 108, 117, 109, 58, 32, 99, 111, 109, 109, 97, 110, 100])]))
/-- One of Go's own tables, pinned by name: the form's constant. -/
def laid_unicode_utf8_first : DataW Unit := Go.Pinned.utf8First

/-- 'vellumlaw07.WalkPlays': WHATEVER THE INPUT: true; the input reads as it did. -/
def walkPlaysSpec : ChangeSpec := { name := "walkPlays", fn := fun _ => fun
  | [d1, d2] => { results := [.lit (.bool true)], args := [d1, d2] }
  | _ => none }
def walkPlaysRow : OpenClaim := { program := "ytapolkhdikdjbaagreatdoor", sum := "599386693e9190d6435580cb91c5d97b422c891d634a910956f61f5fe5e2c495", func := "vellum/vellumlaw07.WalkPlays", spec := "walkPlays", unfollowed := true, recurses := true, named := ["vellum/api.ErrLong", "vellum/api.ErrOp", "vellum/api.ErrUtf8", "vellum/api.ErrKind", "vellum/api.ErrKey", "unicode/utf8.first", "unicode/utf8.acceptRanges", "vellum/api.ErrLimit", "vellum/api.ErrNull", "vellum/api.ErrAttrs", "vellum/api.ErrRange", "vellum/api.ErrJson", "vellum/api.ErrNest", "vellum/api.ErrNumber", "vellum/api.ErrSchema", "vellum/api.ErrEnd", "vellum/api.ErrEmpty", "vellum/api.ErrMark", "vellum/api.ErrReplica", "vellum/api.ErrBytes", "vellum/api.ErrCommand"], apart := false, laid := [("unicode/utf8.acceptRanges", laid_unicode_utf8_acceptRanges), ("vellum/api.ErrUtf8", laid_vellum_api_ErrUtf8), ("vellum/api.ErrJson", laid_vellum_api_ErrJson), ("vellum/api.ErrNest", laid_vellum_api_ErrNest), ("vellum/api.ErrNumber", laid_vellum_api_ErrNumber), ("vellum/api.ErrKind", laid_vellum_api_ErrKind), ("vellum/api.ErrKey", laid_vellum_api_ErrKey), ("vellum/api.ErrNull", laid_vellum_api_ErrNull), ("vellum/api.ErrAttrs", laid_vellum_api_ErrAttrs), ("vellum/api.ErrOp", laid_vellum_api_ErrOp), ("vellum/api.ErrLimit", laid_vellum_api_ErrLimit), ("vellum/api.ErrLong", laid_vellum_api_ErrLong), ("vellum/api.ErrRange", laid_vellum_api_ErrRange), ("vellum/api.ErrSchema", laid_vellum_api_ErrSchema), ("vellum/api.ErrEnd", laid_vellum_api_ErrEnd), ("vellum/api.ErrEmpty", laid_vellum_api_ErrEmpty), ("vellum/api.ErrMark", laid_vellum_api_ErrMark), ("vellum/api.ErrReplica", laid_vellum_api_ErrReplica), ("vellum/api.ErrBytes", laid_vellum_api_ErrBytes), ("vellum/api.ErrCommand", laid_vellum_api_ErrCommand), ("unicode/utf8.first", laid_unicode_utf8_first)] }
def WalkPlaysSaid : Prop := walkPlaysRow.holds Tryz.pinned (OpenSpec.ofChange walkPlaysSpec)

/-- ITS FALSE NEIGHBOUR: 'it returns false'. Refute it at one input. -/
def walkPlaysWrong : ChangeSpec := { name := "walkPlays", fn := fun _ => fun
  | [d1, d2] => { results := [.lit (.bool false)], args := [d1, d2] }
  | _ => none }
def WalkPlaysWrongFalsely : Prop := walkPlaysRow.holds Tryz.pinned (OpenSpec.ofChange walkPlaysWrong)

/-- 'vellumlaw07.WalkSteps': WHATEVER THE INPUT: true; the input reads as it did. -/
def walkStepsSpec : ChangeSpec := { name := "walkSteps", fn := fun _ => fun
  | [d1, d2, d3] => { results := [.lit (.bool true)], args := [d1, d2, d3] }
  | _ => none }
def walkStepsRow : OpenClaim := { program := "ytapolkhdikdjbaagreatdoor", sum := "599386693e9190d6435580cb91c5d97b422c891d634a910956f61f5fe5e2c495", func := "vellum/vellumlaw07.WalkSteps", spec := "walkSteps", unfollowed := true, recurses := true, named := ["vellum/api.ErrLong", "vellum/api.ErrOp", "vellum/api.ErrUtf8", "vellum/api.ErrKind", "vellum/api.ErrKey", "unicode/utf8.first", "unicode/utf8.acceptRanges", "vellum/api.ErrLimit", "vellum/api.ErrNull", "vellum/api.ErrAttrs", "vellum/api.ErrRange"], apart := false, laid := [("unicode/utf8.acceptRanges", laid_unicode_utf8_acceptRanges), ("vellum/api.ErrUtf8", laid_vellum_api_ErrUtf8), ("vellum/api.ErrKind", laid_vellum_api_ErrKind), ("vellum/api.ErrKey", laid_vellum_api_ErrKey), ("vellum/api.ErrNull", laid_vellum_api_ErrNull), ("vellum/api.ErrAttrs", laid_vellum_api_ErrAttrs), ("vellum/api.ErrOp", laid_vellum_api_ErrOp), ("vellum/api.ErrLimit", laid_vellum_api_ErrLimit), ("vellum/api.ErrLong", laid_vellum_api_ErrLong), ("vellum/api.ErrRange", laid_vellum_api_ErrRange), ("unicode/utf8.first", laid_unicode_utf8_first)] }
def WalkStepsSaid : Prop := walkStepsRow.holds Tryz.pinned (OpenSpec.ofChange walkStepsSpec)

/-- ITS FALSE NEIGHBOUR: 'it returns false'. Refute it at one input. -/
def walkStepsWrong : ChangeSpec := { name := "walkSteps", fn := fun _ => fun
  | [d1, d2, d3] => { results := [.lit (.bool false)], args := [d1, d2, d3] }
  | _ => none }
def WalkStepsWrongFalsely : Prop := walkStepsRow.holds Tryz.pinned (OpenSpec.ofChange walkStepsWrong)

/-- 'vellumlaw07.WalkBack': WHATEVER THE INPUT: true; the input reads as it did. -/
def walkBackSpec : ChangeSpec := { name := "walkBack", fn := fun _ => fun
  | [d1, d2, d3] => { results := [.lit (.bool true)], args := [d1, d2, d3] }
  | _ => none }
def walkBackRow : OpenClaim := { program := "ytapolkhdikdjbaagreatdoor", sum := "599386693e9190d6435580cb91c5d97b422c891d634a910956f61f5fe5e2c495", func := "vellum/vellumlaw07.WalkBack", spec := "walkBack", unfollowed := true, recurses := true, named := ["vellum/api.ErrLong", "vellum/api.ErrOp", "vellum/api.ErrUtf8", "vellum/api.ErrKind", "vellum/api.ErrKey", "unicode/utf8.first", "unicode/utf8.acceptRanges", "vellum/api.ErrLimit", "vellum/api.ErrNull", "vellum/api.ErrAttrs", "vellum/api.ErrRange"], apart := false, laid := [("unicode/utf8.acceptRanges", laid_unicode_utf8_acceptRanges), ("vellum/api.ErrUtf8", laid_vellum_api_ErrUtf8), ("vellum/api.ErrKind", laid_vellum_api_ErrKind), ("vellum/api.ErrKey", laid_vellum_api_ErrKey), ("vellum/api.ErrNull", laid_vellum_api_ErrNull), ("vellum/api.ErrAttrs", laid_vellum_api_ErrAttrs), ("vellum/api.ErrOp", laid_vellum_api_ErrOp), ("vellum/api.ErrLimit", laid_vellum_api_ErrLimit), ("vellum/api.ErrLong", laid_vellum_api_ErrLong), ("vellum/api.ErrRange", laid_vellum_api_ErrRange), ("unicode/utf8.first", laid_unicode_utf8_first)] }
def WalkBackSaid : Prop := walkBackRow.holds Tryz.pinned (OpenSpec.ofChange walkBackSpec)

/-- ITS FALSE NEIGHBOUR: 'it returns false'. Refute it at one input. -/
def walkBackWrong : ChangeSpec := { name := "walkBack", fn := fun _ => fun
  | [d1, d2, d3] => { results := [.lit (.bool false)], args := [d1, d2, d3] }
  | _ => none }
def WalkBackWrongFalsely : Prop := walkBackRow.holds Tryz.pinned (OpenSpec.ofChange walkBackWrong)

/-- 'vellumlaw07.WalkSides': WHATEVER THE INPUT: true; the input reads as it did. -/
def walkSidesSpec : ChangeSpec := { name := "walkSides", fn := fun _ => fun
  | [d1, d2] => { results := [.lit (.bool true)], args := [d1, d2] }
  | _ => none }
def walkSidesRow : OpenClaim := { program := "ytapolkhdikdjbaagreatdoor", sum := "599386693e9190d6435580cb91c5d97b422c891d634a910956f61f5fe5e2c495", func := "vellum/vellumlaw07.WalkSides", spec := "walkSides", unfollowed := true, recurses := true, named := ["vellum/api.ErrLong", "vellum/api.ErrOp", "vellum/api.ErrUtf8", "vellum/api.ErrKind", "vellum/api.ErrKey", "unicode/utf8.first", "unicode/utf8.acceptRanges", "vellum/api.ErrLimit", "vellum/api.ErrNull", "vellum/api.ErrAttrs", "vellum/api.ErrRange"], apart := false, laid := [("unicode/utf8.acceptRanges", laid_unicode_utf8_acceptRanges), ("vellum/api.ErrUtf8", laid_vellum_api_ErrUtf8), ("vellum/api.ErrKind", laid_vellum_api_ErrKind), ("vellum/api.ErrKey", laid_vellum_api_ErrKey), ("vellum/api.ErrNull", laid_vellum_api_ErrNull), ("vellum/api.ErrAttrs", laid_vellum_api_ErrAttrs), ("vellum/api.ErrOp", laid_vellum_api_ErrOp), ("vellum/api.ErrLimit", laid_vellum_api_ErrLimit), ("vellum/api.ErrLong", laid_vellum_api_ErrLong), ("vellum/api.ErrRange", laid_vellum_api_ErrRange), ("unicode/utf8.first", laid_unicode_utf8_first)] }
def WalkSidesSaid : Prop := walkSidesRow.holds Tryz.pinned (OpenSpec.ofChange walkSidesSpec)

/-- ITS FALSE NEIGHBOUR: 'it returns false'. Refute it at one input. -/
def walkSidesWrong : ChangeSpec := { name := "walkSides", fn := fun _ => fun
  | [d1, d2] => { results := [.lit (.bool false)], args := [d1, d2] }
  | _ => none }
def WalkSidesWrongFalsely : Prop := walkSidesRow.holds Tryz.pinned (OpenSpec.ofChange walkSidesWrong)

/-- 'vellumlaw07.WalkEach': WHATEVER THE INPUT: true; the input reads as it did. -/
def walkEachSpec : ChangeSpec := { name := "walkEach", fn := fun _ => fun
  | [d] => { results := [.lit (.bool true)], args := [d] }
  | _ => none }
def walkEachRow : OpenClaim := { program := "ytapolkhdikdjbaagreatdoor", sum := "599386693e9190d6435580cb91c5d97b422c891d634a910956f61f5fe5e2c495", func := "vellum/vellumlaw07.WalkEach", spec := "walkEach", unfollowed := true, recurses := true, named := ["vellum/api.ErrLong", "vellum/api.ErrOp", "vellum/api.ErrUtf8", "vellum/api.ErrKind", "vellum/api.ErrKey", "unicode/utf8.first", "unicode/utf8.acceptRanges", "vellum/api.ErrLimit", "vellum/api.ErrNull", "vellum/api.ErrAttrs", "vellum/api.ErrRange"], apart := false, laid := [("unicode/utf8.acceptRanges", laid_unicode_utf8_acceptRanges), ("vellum/api.ErrUtf8", laid_vellum_api_ErrUtf8), ("vellum/api.ErrKind", laid_vellum_api_ErrKind), ("vellum/api.ErrKey", laid_vellum_api_ErrKey), ("vellum/api.ErrNull", laid_vellum_api_ErrNull), ("vellum/api.ErrAttrs", laid_vellum_api_ErrAttrs), ("vellum/api.ErrOp", laid_vellum_api_ErrOp), ("vellum/api.ErrLimit", laid_vellum_api_ErrLimit), ("vellum/api.ErrLong", laid_vellum_api_ErrLong), ("vellum/api.ErrRange", laid_vellum_api_ErrRange), ("unicode/utf8.first", laid_unicode_utf8_first)] }
def WalkEachSaid : Prop := walkEachRow.holds Tryz.pinned (OpenSpec.ofChange walkEachSpec)

/-- ITS FALSE NEIGHBOUR: 'it returns false'. Refute it at one input. -/
def walkEachWrong : ChangeSpec := { name := "walkEach", fn := fun _ => fun
  | [d] => { results := [.lit (.bool false)], args := [d] }
  | _ => none }
def WalkEachWrongFalsely : Prop := walkEachRow.holds Tryz.pinned (OpenSpec.ofChange walkEachWrong)

/-- 'vellumlaw08.MeasurePlays': WHATEVER THE INPUT: true; the input reads as it did. -/
def measurePlaysSpec : ChangeSpec := { name := "measurePlays", fn := fun _ => fun
  | [d1, d2, d3, d4] => { results := [.lit (.bool true)], args := [d1, d2, d3, d4] }
  | _ => none }
def measurePlaysRow : OpenClaim := { program := "ytapolkhdikdjbaagreatdoor", sum := "599386693e9190d6435580cb91c5d97b422c891d634a910956f61f5fe5e2c495", func := "vellum/vellumlaw08.MeasurePlays", spec := "measurePlays", unfollowed := true, recurses := true, named := ["unicode/utf8.first", "unicode/utf8.acceptRanges", "vellum/api.ErrLong", "vellum/api.ErrOp", "vellum/api.ErrUtf8", "vellum/api.ErrKind", "vellum/api.ErrKey", "vellum/api.ErrLimit", "vellum/api.ErrNull", "vellum/api.ErrAttrs", "vellum/api.ErrRange", "vellum/api.ErrJson", "vellum/api.ErrNest", "vellum/api.ErrNumber", "vellum/api.ErrSchema", "vellum/api.ErrEnd", "vellum/api.ErrEmpty", "vellum/api.ErrMark", "vellum/api.ErrReplica", "vellum/api.ErrBytes", "vellum/api.ErrCommand"], apart := false, laid := [("unicode/utf8.acceptRanges", laid_unicode_utf8_acceptRanges), ("vellum/api.ErrUtf8", laid_vellum_api_ErrUtf8), ("vellum/api.ErrJson", laid_vellum_api_ErrJson), ("vellum/api.ErrNest", laid_vellum_api_ErrNest), ("vellum/api.ErrNumber", laid_vellum_api_ErrNumber), ("vellum/api.ErrKind", laid_vellum_api_ErrKind), ("vellum/api.ErrKey", laid_vellum_api_ErrKey), ("vellum/api.ErrNull", laid_vellum_api_ErrNull), ("vellum/api.ErrAttrs", laid_vellum_api_ErrAttrs), ("vellum/api.ErrOp", laid_vellum_api_ErrOp), ("vellum/api.ErrLimit", laid_vellum_api_ErrLimit), ("vellum/api.ErrLong", laid_vellum_api_ErrLong), ("vellum/api.ErrRange", laid_vellum_api_ErrRange), ("vellum/api.ErrSchema", laid_vellum_api_ErrSchema), ("vellum/api.ErrEnd", laid_vellum_api_ErrEnd), ("vellum/api.ErrEmpty", laid_vellum_api_ErrEmpty), ("vellum/api.ErrMark", laid_vellum_api_ErrMark), ("vellum/api.ErrReplica", laid_vellum_api_ErrReplica), ("vellum/api.ErrBytes", laid_vellum_api_ErrBytes), ("vellum/api.ErrCommand", laid_vellum_api_ErrCommand), ("unicode/utf8.first", laid_unicode_utf8_first)] }
def MeasurePlaysSaid : Prop := measurePlaysRow.holds Tryz.pinned (OpenSpec.ofChange measurePlaysSpec)

/-- ITS FALSE NEIGHBOUR: 'it returns false'. Refute it at one input. -/
def measurePlaysWrong : ChangeSpec := { name := "measurePlays", fn := fun _ => fun
  | [d1, d2, d3, d4] => { results := [.lit (.bool false)], args := [d1, d2, d3, d4] }
  | _ => none }
def MeasurePlaysWrongFalsely : Prop := measurePlaysRow.holds Tryz.pinned (OpenSpec.ofChange measurePlaysWrong)

/-- 'vellumlaw08.MeasureCuts': WHATEVER THE INPUT: true; the input reads as it did. -/
def measureCutsSpec : ChangeSpec := { name := "measureCuts", fn := fun _ => fun
  | [d1, d2, d3] => { results := [.lit (.bool true)], args := [d1, d2, d3] }
  | _ => none }
def measureCutsRow : OpenClaim := { program := "ytapolkhdikdjbaagreatdoor", sum := "599386693e9190d6435580cb91c5d97b422c891d634a910956f61f5fe5e2c495", func := "vellum/vellumlaw08.MeasureCuts", spec := "measureCuts", unfollowed := true, recurses := true, named := ["unicode/utf8.first", "unicode/utf8.acceptRanges", "vellum/api.ErrLong", "vellum/api.ErrOp", "vellum/api.ErrUtf8", "vellum/api.ErrKind", "vellum/api.ErrKey", "vellum/api.ErrLimit", "vellum/api.ErrNull", "vellum/api.ErrAttrs", "vellum/api.ErrRange"], apart := false, laid := [("unicode/utf8.acceptRanges", laid_unicode_utf8_acceptRanges), ("vellum/api.ErrUtf8", laid_vellum_api_ErrUtf8), ("vellum/api.ErrKind", laid_vellum_api_ErrKind), ("vellum/api.ErrKey", laid_vellum_api_ErrKey), ("vellum/api.ErrNull", laid_vellum_api_ErrNull), ("vellum/api.ErrAttrs", laid_vellum_api_ErrAttrs), ("vellum/api.ErrOp", laid_vellum_api_ErrOp), ("vellum/api.ErrLimit", laid_vellum_api_ErrLimit), ("vellum/api.ErrLong", laid_vellum_api_ErrLong), ("vellum/api.ErrRange", laid_vellum_api_ErrRange), ("unicode/utf8.first", laid_unicode_utf8_first)] }
def MeasureCutsSaid : Prop := measureCutsRow.holds Tryz.pinned (OpenSpec.ofChange measureCutsSpec)

/-- ITS FALSE NEIGHBOUR: 'it returns false'. Refute it at one input. -/
def measureCutsWrong : ChangeSpec := { name := "measureCuts", fn := fun _ => fun
  | [d1, d2, d3] => { results := [.lit (.bool false)], args := [d1, d2, d3] }
  | _ => none }
def MeasureCutsWrongFalsely : Prop := measureCutsRow.holds Tryz.pinned (OpenSpec.ofChange measureCutsWrong)

/-- 'vellumlaw11.ComposePlays': WHATEVER THE INPUT: true; the input reads as it did. -/
def composePlaysSpec : ChangeSpec := { name := "composePlays", fn := fun _ => fun
  | [d1, d2] => { results := [.lit (.bool true)], args := [d1, d2] }
  | _ => none }
def composePlaysRow : OpenClaim := { program := "ytapolkhdikdjbaagreatdoor", sum := "599386693e9190d6435580cb91c5d97b422c891d634a910956f61f5fe5e2c495", func := "vellum/vellumlaw11.ComposePlays", spec := "composePlays", unfollowed := true, recurses := true, named := ["unicode/utf8.first", "unicode/utf8.acceptRanges", "vellum/api.ErrLong", "vellum/api.ErrOp", "vellum/api.ErrUtf8", "vellum/api.ErrKind", "vellum/api.ErrKey", "vellum/api.ErrLimit", "vellum/api.ErrNull", "vellum/api.ErrAttrs", "vellum/api.ErrRange", "vellum/api.ErrJson", "vellum/api.ErrNest", "vellum/api.ErrNumber", "vellum/api.ErrSchema", "vellum/api.ErrEnd", "vellum/api.ErrEmpty", "vellum/api.ErrMark", "vellum/api.ErrReplica", "vellum/api.ErrBytes", "vellum/api.ErrCommand"], apart := false, laid := [("unicode/utf8.acceptRanges", laid_unicode_utf8_acceptRanges), ("vellum/api.ErrUtf8", laid_vellum_api_ErrUtf8), ("vellum/api.ErrJson", laid_vellum_api_ErrJson), ("vellum/api.ErrNest", laid_vellum_api_ErrNest), ("vellum/api.ErrNumber", laid_vellum_api_ErrNumber), ("vellum/api.ErrKind", laid_vellum_api_ErrKind), ("vellum/api.ErrKey", laid_vellum_api_ErrKey), ("vellum/api.ErrNull", laid_vellum_api_ErrNull), ("vellum/api.ErrAttrs", laid_vellum_api_ErrAttrs), ("vellum/api.ErrOp", laid_vellum_api_ErrOp), ("vellum/api.ErrLimit", laid_vellum_api_ErrLimit), ("vellum/api.ErrLong", laid_vellum_api_ErrLong), ("vellum/api.ErrRange", laid_vellum_api_ErrRange), ("vellum/api.ErrSchema", laid_vellum_api_ErrSchema), ("vellum/api.ErrEnd", laid_vellum_api_ErrEnd), ("vellum/api.ErrEmpty", laid_vellum_api_ErrEmpty), ("vellum/api.ErrMark", laid_vellum_api_ErrMark), ("vellum/api.ErrReplica", laid_vellum_api_ErrReplica), ("vellum/api.ErrBytes", laid_vellum_api_ErrBytes), ("vellum/api.ErrCommand", laid_vellum_api_ErrCommand), ("unicode/utf8.first", laid_unicode_utf8_first)] }
def ComposePlaysSaid : Prop := composePlaysRow.holds Tryz.pinned (OpenSpec.ofChange composePlaysSpec)

/-- ITS FALSE NEIGHBOUR: 'it returns false'. Refute it at one input. -/
def composePlaysWrong : ChangeSpec := { name := "composePlays", fn := fun _ => fun
  | [d1, d2] => { results := [.lit (.bool false)], args := [d1, d2] }
  | _ => none }
def ComposePlaysWrongFalsely : Prop := composePlaysRow.holds Tryz.pinned (OpenSpec.ofChange composePlaysWrong)

/-- 'vellumlaw10.ApplyPlays': WHATEVER THE INPUT: true; the input reads as it did. -/
def applyPlaysSpec : ChangeSpec := { name := "applyPlays", fn := fun _ => fun
  | [d1, d2] => { results := [.lit (.bool true)], args := [d1, d2] }
  | _ => none }
def applyPlaysRow : OpenClaim := { program := "ytapolkhdikdjbaagreatdoor", sum := "599386693e9190d6435580cb91c5d97b422c891d634a910956f61f5fe5e2c495", func := "vellum/vellumlaw10.ApplyPlays", spec := "applyPlays", unfollowed := true, recurses := true, named := ["vellum/api.ErrLong", "vellum/api.ErrOp", "vellum/api.ErrUtf8", "vellum/api.ErrKind", "vellum/api.ErrKey", "unicode/utf8.first", "unicode/utf8.acceptRanges", "vellum/api.ErrLimit", "vellum/api.ErrNull", "vellum/api.ErrAttrs", "vellum/api.ErrRange", "vellum/api.ErrJson", "vellum/api.ErrNest", "vellum/api.ErrNumber", "vellum/api.ErrSchema", "vellum/api.ErrEnd", "vellum/api.ErrEmpty", "vellum/api.ErrMark", "vellum/api.ErrReplica", "vellum/api.ErrBytes", "vellum/api.ErrCommand"], apart := false, laid := [("unicode/utf8.acceptRanges", laid_unicode_utf8_acceptRanges), ("vellum/api.ErrUtf8", laid_vellum_api_ErrUtf8), ("vellum/api.ErrJson", laid_vellum_api_ErrJson), ("vellum/api.ErrNest", laid_vellum_api_ErrNest), ("vellum/api.ErrNumber", laid_vellum_api_ErrNumber), ("vellum/api.ErrKind", laid_vellum_api_ErrKind), ("vellum/api.ErrKey", laid_vellum_api_ErrKey), ("vellum/api.ErrNull", laid_vellum_api_ErrNull), ("vellum/api.ErrAttrs", laid_vellum_api_ErrAttrs), ("vellum/api.ErrOp", laid_vellum_api_ErrOp), ("vellum/api.ErrLimit", laid_vellum_api_ErrLimit), ("vellum/api.ErrLong", laid_vellum_api_ErrLong), ("vellum/api.ErrRange", laid_vellum_api_ErrRange), ("vellum/api.ErrSchema", laid_vellum_api_ErrSchema), ("vellum/api.ErrEnd", laid_vellum_api_ErrEnd), ("vellum/api.ErrEmpty", laid_vellum_api_ErrEmpty), ("vellum/api.ErrMark", laid_vellum_api_ErrMark), ("vellum/api.ErrReplica", laid_vellum_api_ErrReplica), ("vellum/api.ErrBytes", laid_vellum_api_ErrBytes), ("vellum/api.ErrCommand", laid_vellum_api_ErrCommand), ("unicode/utf8.first", laid_unicode_utf8_first)] }
def ApplyPlaysSaid : Prop := applyPlaysRow.holds Tryz.pinned (OpenSpec.ofChange applyPlaysSpec)

/-- ITS FALSE NEIGHBOUR: 'it returns false'. Refute it at one input. -/
def applyPlaysWrong : ChangeSpec := { name := "applyPlays", fn := fun _ => fun
  | [d1, d2] => { results := [.lit (.bool false)], args := [d1, d2] }
  | _ => none }
def ApplyPlaysWrongFalsely : Prop := applyPlaysRow.holds Tryz.pinned (OpenSpec.ofChange applyPlaysWrong)

/-- 'vellumlaw10.ApplyKept': WHATEVER THE INPUT: true; the input reads as it did. -/
def applyKeptSpec : ChangeSpec := { name := "applyKept", fn := fun _ => fun
  | [d1, d2] => { results := [.lit (.bool true)], args := [d1, d2] }
  | _ => none }
def applyKeptRow : OpenClaim := { program := "ytapolkhdikdjbaagreatdoor", sum := "599386693e9190d6435580cb91c5d97b422c891d634a910956f61f5fe5e2c495", func := "vellum/vellumlaw10.ApplyKept", spec := "applyKept", unfollowed := true, recurses := true, named := ["vellum/api.ErrLong", "vellum/api.ErrOp", "vellum/api.ErrUtf8", "vellum/api.ErrKind", "vellum/api.ErrKey", "unicode/utf8.first", "unicode/utf8.acceptRanges", "vellum/api.ErrLimit", "vellum/api.ErrNull", "vellum/api.ErrAttrs", "vellum/api.ErrRange", "vellum/api.ErrJson", "vellum/api.ErrNest", "vellum/api.ErrNumber", "vellum/api.ErrSchema", "vellum/api.ErrEnd", "vellum/api.ErrEmpty", "vellum/api.ErrMark", "vellum/api.ErrReplica", "vellum/api.ErrBytes", "vellum/api.ErrCommand"], apart := false, laid := [("unicode/utf8.acceptRanges", laid_unicode_utf8_acceptRanges), ("vellum/api.ErrUtf8", laid_vellum_api_ErrUtf8), ("vellum/api.ErrJson", laid_vellum_api_ErrJson), ("vellum/api.ErrNest", laid_vellum_api_ErrNest), ("vellum/api.ErrNumber", laid_vellum_api_ErrNumber), ("vellum/api.ErrKind", laid_vellum_api_ErrKind), ("vellum/api.ErrKey", laid_vellum_api_ErrKey), ("vellum/api.ErrNull", laid_vellum_api_ErrNull), ("vellum/api.ErrAttrs", laid_vellum_api_ErrAttrs), ("vellum/api.ErrOp", laid_vellum_api_ErrOp), ("vellum/api.ErrLimit", laid_vellum_api_ErrLimit), ("vellum/api.ErrLong", laid_vellum_api_ErrLong), ("vellum/api.ErrRange", laid_vellum_api_ErrRange), ("vellum/api.ErrSchema", laid_vellum_api_ErrSchema), ("vellum/api.ErrEnd", laid_vellum_api_ErrEnd), ("vellum/api.ErrEmpty", laid_vellum_api_ErrEmpty), ("vellum/api.ErrMark", laid_vellum_api_ErrMark), ("vellum/api.ErrReplica", laid_vellum_api_ErrReplica), ("vellum/api.ErrBytes", laid_vellum_api_ErrBytes), ("vellum/api.ErrCommand", laid_vellum_api_ErrCommand), ("unicode/utf8.first", laid_unicode_utf8_first)] }
def ApplyKeptSaid : Prop := applyKeptRow.holds Tryz.pinned (OpenSpec.ofChange applyKeptSpec)

/-- ITS FALSE NEIGHBOUR: 'it returns false'. Refute it at one input. -/
def applyKeptWrong : ChangeSpec := { name := "applyKept", fn := fun _ => fun
  | [d1, d2] => { results := [.lit (.bool false)], args := [d1, d2] }
  | _ => none }
def ApplyKeptWrongFalsely : Prop := applyKeptRow.holds Tryz.pinned (OpenSpec.ofChange applyKeptWrong)

/-- 'vellumlaw10.ApplyCells': WHATEVER THE INPUT: true; the input reads as it did. -/
def applyCellsSpec : ChangeSpec := { name := "applyCells", fn := fun _ => fun
  | [d1, d2] => { results := [.lit (.bool true)], args := [d1, d2] }
  | _ => none }
def applyCellsRow : OpenClaim := { program := "ytapolkhdikdjbaagreatdoor", sum := "599386693e9190d6435580cb91c5d97b422c891d634a910956f61f5fe5e2c495", func := "vellum/vellumlaw10.ApplyCells", spec := "applyCells", unfollowed := true, recurses := true, named := ["vellum/api.ErrLong", "vellum/api.ErrOp", "vellum/api.ErrUtf8", "vellum/api.ErrKind", "vellum/api.ErrKey", "unicode/utf8.first", "unicode/utf8.acceptRanges", "vellum/api.ErrLimit", "vellum/api.ErrNull", "vellum/api.ErrAttrs", "vellum/api.ErrRange"], apart := false, laid := [("unicode/utf8.acceptRanges", laid_unicode_utf8_acceptRanges), ("vellum/api.ErrUtf8", laid_vellum_api_ErrUtf8), ("vellum/api.ErrKind", laid_vellum_api_ErrKind), ("vellum/api.ErrKey", laid_vellum_api_ErrKey), ("vellum/api.ErrNull", laid_vellum_api_ErrNull), ("vellum/api.ErrAttrs", laid_vellum_api_ErrAttrs), ("vellum/api.ErrOp", laid_vellum_api_ErrOp), ("vellum/api.ErrLimit", laid_vellum_api_ErrLimit), ("vellum/api.ErrLong", laid_vellum_api_ErrLong), ("vellum/api.ErrRange", laid_vellum_api_ErrRange), ("unicode/utf8.first", laid_unicode_utf8_first)] }
def ApplyCellsSaid : Prop := applyCellsRow.holds Tryz.pinned (OpenSpec.ofChange applyCellsSpec)

/-- ITS FALSE NEIGHBOUR: 'it returns false'. Refute it at one input. -/
def applyCellsWrong : ChangeSpec := { name := "applyCells", fn := fun _ => fun
  | [d1, d2] => { results := [.lit (.bool false)], args := [d1, d2] }
  | _ => none }
def ApplyCellsWrongFalsely : Prop := applyCellsRow.holds Tryz.pinned (OpenSpec.ofChange applyCellsWrong)

/-- 'vellumlaw10.ApplyFront': WHATEVER THE INPUT: true; the input reads as it did. -/
def applyFrontSpec : ChangeSpec := { name := "applyFront", fn := fun _ => fun
  | [d1, d2, d3] => { results := [.lit (.bool true)], args := [d1, d2, d3] }
  | _ => none }
def applyFrontRow : OpenClaim := { program := "ytapolkhdikdjbaagreatdoor", sum := "599386693e9190d6435580cb91c5d97b422c891d634a910956f61f5fe5e2c495", func := "vellum/vellumlaw10.ApplyFront", spec := "applyFront", unfollowed := true, recurses := true, named := ["vellum/api.ErrLong", "vellum/api.ErrOp", "vellum/api.ErrUtf8", "vellum/api.ErrKind", "vellum/api.ErrKey", "unicode/utf8.first", "unicode/utf8.acceptRanges", "vellum/api.ErrLimit", "vellum/api.ErrNull", "vellum/api.ErrAttrs", "vellum/api.ErrRange", "vellum/api.ErrJson", "vellum/api.ErrNest", "vellum/api.ErrNumber", "vellum/api.ErrSchema", "vellum/api.ErrEnd", "vellum/api.ErrEmpty", "vellum/api.ErrMark", "vellum/api.ErrReplica", "vellum/api.ErrBytes", "vellum/api.ErrCommand"], apart := false, laid := [("unicode/utf8.acceptRanges", laid_unicode_utf8_acceptRanges), ("vellum/api.ErrUtf8", laid_vellum_api_ErrUtf8), ("vellum/api.ErrJson", laid_vellum_api_ErrJson), ("vellum/api.ErrNest", laid_vellum_api_ErrNest), ("vellum/api.ErrNumber", laid_vellum_api_ErrNumber), ("vellum/api.ErrKind", laid_vellum_api_ErrKind), ("vellum/api.ErrKey", laid_vellum_api_ErrKey), ("vellum/api.ErrNull", laid_vellum_api_ErrNull), ("vellum/api.ErrAttrs", laid_vellum_api_ErrAttrs), ("vellum/api.ErrOp", laid_vellum_api_ErrOp), ("vellum/api.ErrLimit", laid_vellum_api_ErrLimit), ("vellum/api.ErrLong", laid_vellum_api_ErrLong), ("vellum/api.ErrRange", laid_vellum_api_ErrRange), ("vellum/api.ErrSchema", laid_vellum_api_ErrSchema), ("vellum/api.ErrEnd", laid_vellum_api_ErrEnd), ("vellum/api.ErrEmpty", laid_vellum_api_ErrEmpty), ("vellum/api.ErrMark", laid_vellum_api_ErrMark), ("vellum/api.ErrReplica", laid_vellum_api_ErrReplica), ("vellum/api.ErrBytes", laid_vellum_api_ErrBytes), ("vellum/api.ErrCommand", laid_vellum_api_ErrCommand), ("unicode/utf8.first", laid_unicode_utf8_first)] }
def ApplyFrontSaid : Prop := applyFrontRow.holds Tryz.pinned (OpenSpec.ofChange applyFrontSpec)

/-- ITS FALSE NEIGHBOUR: 'it returns false'. Refute it at one input. -/
def applyFrontWrong : ChangeSpec := { name := "applyFront", fn := fun _ => fun
  | [d1, d2, d3] => { results := [.lit (.bool false)], args := [d1, d2, d3] }
  | _ => none }
def ApplyFrontWrongFalsely : Prop := applyFrontRow.holds Tryz.pinned (OpenSpec.ofChange applyFrontWrong)

/- THE SECOND FORM. 'bulk': how many values and letters a reading holds, each counted each time it is reached (what is shared counts as often as it is met; a slice's spare places count too). A statement '..UptoSaid' is the law's where the arguments, and the package variables that the reading takes, are together of bulk at most 1048576: NARROWER than '..Said'. Prove '..Said' where nothing that the law and all that it calls make is longer than what came in: it says more and counts as full. Else prove '..UptoSaid'. A law counts once. -/
mutual
def uptoBulk {H : Type} : DataW H → Nat
  | .lit (.string bytes) => bytes.length + 1
  | .lit _ => 1
  | .nil => 1
  | .ptr d => uptoBulk d + 1
  | .slice elems spare => uptoBulkAll elems + uptoBulkAll spare + 1
  | .agg parts => uptoBulkAll parts + 1
  | .iface _ d => uptoBulk d + 1
  | .map entries => uptoBulkEntries entries + 1
  | .held _ => 1
def uptoBulkAll {H : Type} : List (DataW H) → Nat
  | [] => 0
  | d :: r => uptoBulk d + uptoBulkAll r
def uptoBulkEntries {H : Type} : List (Lit × DataW H) → Nat
  | [] => 0
  | x :: r => uptoBulkEntry x + uptoBulkEntries r
def uptoBulkEntry {H : Type} : Lit × DataW H → Nat
  | (.string bytes, d) => bytes.length + uptoBulk d + 1
  | (_, d) => uptoBulk d + 1
 end
def uptoSmall : (H : Type) → List (DataW H) → Bool := fun _ ds => decide (uptoBulkAll ds ≤ 1048576)
def OpenSpec.upto (s : _root_.Go.ChangeSpec) : _root_.Go.OpenSpec := { _root_.Go.OpenSpec.ofChange s with cond := some uptoSmall }

/-- 'vellumlaw07.WalkPlays', WHERE WHAT IT READS IS OF BULK AT MOST 1048576: true; the input reads as it did. -/
def walkPlaysUptoRow : OpenClaim := { program := "ytapolkhdikdjbaagreatdoor", sum := "599386693e9190d6435580cb91c5d97b422c891d634a910956f61f5fe5e2c495", func := "vellum/vellumlaw07.WalkPlays", spec := "walkPlays", unfollowed := true, recurses := true, named := ["vellum/api.ErrLong", "vellum/api.ErrOp", "vellum/api.ErrUtf8", "vellum/api.ErrKind", "vellum/api.ErrKey", "unicode/utf8.first", "unicode/utf8.acceptRanges", "vellum/api.ErrLimit", "vellum/api.ErrNull", "vellum/api.ErrAttrs", "vellum/api.ErrRange", "vellum/api.ErrJson", "vellum/api.ErrNest", "vellum/api.ErrNumber", "vellum/api.ErrSchema", "vellum/api.ErrEnd", "vellum/api.ErrEmpty", "vellum/api.ErrMark", "vellum/api.ErrReplica", "vellum/api.ErrBytes", "vellum/api.ErrCommand"], apart := false, laid := [("unicode/utf8.acceptRanges", laid_unicode_utf8_acceptRanges), ("vellum/api.ErrUtf8", laid_vellum_api_ErrUtf8), ("vellum/api.ErrJson", laid_vellum_api_ErrJson), ("vellum/api.ErrNest", laid_vellum_api_ErrNest), ("vellum/api.ErrNumber", laid_vellum_api_ErrNumber), ("vellum/api.ErrKind", laid_vellum_api_ErrKind), ("vellum/api.ErrKey", laid_vellum_api_ErrKey), ("vellum/api.ErrNull", laid_vellum_api_ErrNull), ("vellum/api.ErrAttrs", laid_vellum_api_ErrAttrs), ("vellum/api.ErrOp", laid_vellum_api_ErrOp), ("vellum/api.ErrLimit", laid_vellum_api_ErrLimit), ("vellum/api.ErrLong", laid_vellum_api_ErrLong), ("vellum/api.ErrRange", laid_vellum_api_ErrRange), ("vellum/api.ErrSchema", laid_vellum_api_ErrSchema), ("vellum/api.ErrEnd", laid_vellum_api_ErrEnd), ("vellum/api.ErrEmpty", laid_vellum_api_ErrEmpty), ("vellum/api.ErrMark", laid_vellum_api_ErrMark), ("vellum/api.ErrReplica", laid_vellum_api_ErrReplica), ("vellum/api.ErrBytes", laid_vellum_api_ErrBytes), ("vellum/api.ErrCommand", laid_vellum_api_ErrCommand), ("unicode/utf8.first", laid_unicode_utf8_first)], narrowed := true }
def WalkPlaysUptoSaid : Prop := walkPlaysUptoRow.holds Tryz.pinned (OpenSpec.upto walkPlaysSpec)

/-- 'vellumlaw07.WalkSteps', WHERE WHAT IT READS IS OF BULK AT MOST 1048576: true; the input reads as it did. -/
def walkStepsUptoRow : OpenClaim := { program := "ytapolkhdikdjbaagreatdoor", sum := "599386693e9190d6435580cb91c5d97b422c891d634a910956f61f5fe5e2c495", func := "vellum/vellumlaw07.WalkSteps", spec := "walkSteps", unfollowed := true, recurses := true, named := ["vellum/api.ErrLong", "vellum/api.ErrOp", "vellum/api.ErrUtf8", "vellum/api.ErrKind", "vellum/api.ErrKey", "unicode/utf8.first", "unicode/utf8.acceptRanges", "vellum/api.ErrLimit", "vellum/api.ErrNull", "vellum/api.ErrAttrs", "vellum/api.ErrRange"], apart := false, laid := [("unicode/utf8.acceptRanges", laid_unicode_utf8_acceptRanges), ("vellum/api.ErrUtf8", laid_vellum_api_ErrUtf8), ("vellum/api.ErrKind", laid_vellum_api_ErrKind), ("vellum/api.ErrKey", laid_vellum_api_ErrKey), ("vellum/api.ErrNull", laid_vellum_api_ErrNull), ("vellum/api.ErrAttrs", laid_vellum_api_ErrAttrs), ("vellum/api.ErrOp", laid_vellum_api_ErrOp), ("vellum/api.ErrLimit", laid_vellum_api_ErrLimit), ("vellum/api.ErrLong", laid_vellum_api_ErrLong), ("vellum/api.ErrRange", laid_vellum_api_ErrRange), ("unicode/utf8.first", laid_unicode_utf8_first)], narrowed := true }
def WalkStepsUptoSaid : Prop := walkStepsUptoRow.holds Tryz.pinned (OpenSpec.upto walkStepsSpec)

/-- 'vellumlaw07.WalkBack', WHERE WHAT IT READS IS OF BULK AT MOST 1048576: true; the input reads as it did. -/
def walkBackUptoRow : OpenClaim := { program := "ytapolkhdikdjbaagreatdoor", sum := "599386693e9190d6435580cb91c5d97b422c891d634a910956f61f5fe5e2c495", func := "vellum/vellumlaw07.WalkBack", spec := "walkBack", unfollowed := true, recurses := true, named := ["vellum/api.ErrLong", "vellum/api.ErrOp", "vellum/api.ErrUtf8", "vellum/api.ErrKind", "vellum/api.ErrKey", "unicode/utf8.first", "unicode/utf8.acceptRanges", "vellum/api.ErrLimit", "vellum/api.ErrNull", "vellum/api.ErrAttrs", "vellum/api.ErrRange"], apart := false, laid := [("unicode/utf8.acceptRanges", laid_unicode_utf8_acceptRanges), ("vellum/api.ErrUtf8", laid_vellum_api_ErrUtf8), ("vellum/api.ErrKind", laid_vellum_api_ErrKind), ("vellum/api.ErrKey", laid_vellum_api_ErrKey), ("vellum/api.ErrNull", laid_vellum_api_ErrNull), ("vellum/api.ErrAttrs", laid_vellum_api_ErrAttrs), ("vellum/api.ErrOp", laid_vellum_api_ErrOp), ("vellum/api.ErrLimit", laid_vellum_api_ErrLimit), ("vellum/api.ErrLong", laid_vellum_api_ErrLong), ("vellum/api.ErrRange", laid_vellum_api_ErrRange), ("unicode/utf8.first", laid_unicode_utf8_first)], narrowed := true }
def WalkBackUptoSaid : Prop := walkBackUptoRow.holds Tryz.pinned (OpenSpec.upto walkBackSpec)

/-- 'vellumlaw07.WalkSides', WHERE WHAT IT READS IS OF BULK AT MOST 1048576: true; the input reads as it did. -/
def walkSidesUptoRow : OpenClaim := { program := "ytapolkhdikdjbaagreatdoor", sum := "599386693e9190d6435580cb91c5d97b422c891d634a910956f61f5fe5e2c495", func := "vellum/vellumlaw07.WalkSides", spec := "walkSides", unfollowed := true, recurses := true, named := ["vellum/api.ErrLong", "vellum/api.ErrOp", "vellum/api.ErrUtf8", "vellum/api.ErrKind", "vellum/api.ErrKey", "unicode/utf8.first", "unicode/utf8.acceptRanges", "vellum/api.ErrLimit", "vellum/api.ErrNull", "vellum/api.ErrAttrs", "vellum/api.ErrRange"], apart := false, laid := [("unicode/utf8.acceptRanges", laid_unicode_utf8_acceptRanges), ("vellum/api.ErrUtf8", laid_vellum_api_ErrUtf8), ("vellum/api.ErrKind", laid_vellum_api_ErrKind), ("vellum/api.ErrKey", laid_vellum_api_ErrKey), ("vellum/api.ErrNull", laid_vellum_api_ErrNull), ("vellum/api.ErrAttrs", laid_vellum_api_ErrAttrs), ("vellum/api.ErrOp", laid_vellum_api_ErrOp), ("vellum/api.ErrLimit", laid_vellum_api_ErrLimit), ("vellum/api.ErrLong", laid_vellum_api_ErrLong), ("vellum/api.ErrRange", laid_vellum_api_ErrRange), ("unicode/utf8.first", laid_unicode_utf8_first)], narrowed := true }
def WalkSidesUptoSaid : Prop := walkSidesUptoRow.holds Tryz.pinned (OpenSpec.upto walkSidesSpec)

/-- 'vellumlaw07.WalkEach', WHERE WHAT IT READS IS OF BULK AT MOST 1048576: true; the input reads as it did. -/
def walkEachUptoRow : OpenClaim := { program := "ytapolkhdikdjbaagreatdoor", sum := "599386693e9190d6435580cb91c5d97b422c891d634a910956f61f5fe5e2c495", func := "vellum/vellumlaw07.WalkEach", spec := "walkEach", unfollowed := true, recurses := true, named := ["vellum/api.ErrLong", "vellum/api.ErrOp", "vellum/api.ErrUtf8", "vellum/api.ErrKind", "vellum/api.ErrKey", "unicode/utf8.first", "unicode/utf8.acceptRanges", "vellum/api.ErrLimit", "vellum/api.ErrNull", "vellum/api.ErrAttrs", "vellum/api.ErrRange"], apart := false, laid := [("unicode/utf8.acceptRanges", laid_unicode_utf8_acceptRanges), ("vellum/api.ErrUtf8", laid_vellum_api_ErrUtf8), ("vellum/api.ErrKind", laid_vellum_api_ErrKind), ("vellum/api.ErrKey", laid_vellum_api_ErrKey), ("vellum/api.ErrNull", laid_vellum_api_ErrNull), ("vellum/api.ErrAttrs", laid_vellum_api_ErrAttrs), ("vellum/api.ErrOp", laid_vellum_api_ErrOp), ("vellum/api.ErrLimit", laid_vellum_api_ErrLimit), ("vellum/api.ErrLong", laid_vellum_api_ErrLong), ("vellum/api.ErrRange", laid_vellum_api_ErrRange), ("unicode/utf8.first", laid_unicode_utf8_first)], narrowed := true }
def WalkEachUptoSaid : Prop := walkEachUptoRow.holds Tryz.pinned (OpenSpec.upto walkEachSpec)

/-- 'vellumlaw08.MeasurePlays', WHERE WHAT IT READS IS OF BULK AT MOST 1048576: true; the input reads as it did. -/
def measurePlaysUptoRow : OpenClaim := { program := "ytapolkhdikdjbaagreatdoor", sum := "599386693e9190d6435580cb91c5d97b422c891d634a910956f61f5fe5e2c495", func := "vellum/vellumlaw08.MeasurePlays", spec := "measurePlays", unfollowed := true, recurses := true, named := ["unicode/utf8.first", "unicode/utf8.acceptRanges", "vellum/api.ErrLong", "vellum/api.ErrOp", "vellum/api.ErrUtf8", "vellum/api.ErrKind", "vellum/api.ErrKey", "vellum/api.ErrLimit", "vellum/api.ErrNull", "vellum/api.ErrAttrs", "vellum/api.ErrRange", "vellum/api.ErrJson", "vellum/api.ErrNest", "vellum/api.ErrNumber", "vellum/api.ErrSchema", "vellum/api.ErrEnd", "vellum/api.ErrEmpty", "vellum/api.ErrMark", "vellum/api.ErrReplica", "vellum/api.ErrBytes", "vellum/api.ErrCommand"], apart := false, laid := [("unicode/utf8.acceptRanges", laid_unicode_utf8_acceptRanges), ("vellum/api.ErrUtf8", laid_vellum_api_ErrUtf8), ("vellum/api.ErrJson", laid_vellum_api_ErrJson), ("vellum/api.ErrNest", laid_vellum_api_ErrNest), ("vellum/api.ErrNumber", laid_vellum_api_ErrNumber), ("vellum/api.ErrKind", laid_vellum_api_ErrKind), ("vellum/api.ErrKey", laid_vellum_api_ErrKey), ("vellum/api.ErrNull", laid_vellum_api_ErrNull), ("vellum/api.ErrAttrs", laid_vellum_api_ErrAttrs), ("vellum/api.ErrOp", laid_vellum_api_ErrOp), ("vellum/api.ErrLimit", laid_vellum_api_ErrLimit), ("vellum/api.ErrLong", laid_vellum_api_ErrLong), ("vellum/api.ErrRange", laid_vellum_api_ErrRange), ("vellum/api.ErrSchema", laid_vellum_api_ErrSchema), ("vellum/api.ErrEnd", laid_vellum_api_ErrEnd), ("vellum/api.ErrEmpty", laid_vellum_api_ErrEmpty), ("vellum/api.ErrMark", laid_vellum_api_ErrMark), ("vellum/api.ErrReplica", laid_vellum_api_ErrReplica), ("vellum/api.ErrBytes", laid_vellum_api_ErrBytes), ("vellum/api.ErrCommand", laid_vellum_api_ErrCommand), ("unicode/utf8.first", laid_unicode_utf8_first)], narrowed := true }
def MeasurePlaysUptoSaid : Prop := measurePlaysUptoRow.holds Tryz.pinned (OpenSpec.upto measurePlaysSpec)

/-- 'vellumlaw08.MeasureCuts', WHERE WHAT IT READS IS OF BULK AT MOST 1048576: true; the input reads as it did. -/
def measureCutsUptoRow : OpenClaim := { program := "ytapolkhdikdjbaagreatdoor", sum := "599386693e9190d6435580cb91c5d97b422c891d634a910956f61f5fe5e2c495", func := "vellum/vellumlaw08.MeasureCuts", spec := "measureCuts", unfollowed := true, recurses := true, named := ["unicode/utf8.first", "unicode/utf8.acceptRanges", "vellum/api.ErrLong", "vellum/api.ErrOp", "vellum/api.ErrUtf8", "vellum/api.ErrKind", "vellum/api.ErrKey", "vellum/api.ErrLimit", "vellum/api.ErrNull", "vellum/api.ErrAttrs", "vellum/api.ErrRange"], apart := false, laid := [("unicode/utf8.acceptRanges", laid_unicode_utf8_acceptRanges), ("vellum/api.ErrUtf8", laid_vellum_api_ErrUtf8), ("vellum/api.ErrKind", laid_vellum_api_ErrKind), ("vellum/api.ErrKey", laid_vellum_api_ErrKey), ("vellum/api.ErrNull", laid_vellum_api_ErrNull), ("vellum/api.ErrAttrs", laid_vellum_api_ErrAttrs), ("vellum/api.ErrOp", laid_vellum_api_ErrOp), ("vellum/api.ErrLimit", laid_vellum_api_ErrLimit), ("vellum/api.ErrLong", laid_vellum_api_ErrLong), ("vellum/api.ErrRange", laid_vellum_api_ErrRange), ("unicode/utf8.first", laid_unicode_utf8_first)], narrowed := true }
def MeasureCutsUptoSaid : Prop := measureCutsUptoRow.holds Tryz.pinned (OpenSpec.upto measureCutsSpec)

/-- 'vellumlaw11.ComposePlays', WHERE WHAT IT READS IS OF BULK AT MOST 1048576: true; the input reads as it did. -/
def composePlaysUptoRow : OpenClaim := { program := "ytapolkhdikdjbaagreatdoor", sum := "599386693e9190d6435580cb91c5d97b422c891d634a910956f61f5fe5e2c495", func := "vellum/vellumlaw11.ComposePlays", spec := "composePlays", unfollowed := true, recurses := true, named := ["unicode/utf8.first", "unicode/utf8.acceptRanges", "vellum/api.ErrLong", "vellum/api.ErrOp", "vellum/api.ErrUtf8", "vellum/api.ErrKind", "vellum/api.ErrKey", "vellum/api.ErrLimit", "vellum/api.ErrNull", "vellum/api.ErrAttrs", "vellum/api.ErrRange", "vellum/api.ErrJson", "vellum/api.ErrNest", "vellum/api.ErrNumber", "vellum/api.ErrSchema", "vellum/api.ErrEnd", "vellum/api.ErrEmpty", "vellum/api.ErrMark", "vellum/api.ErrReplica", "vellum/api.ErrBytes", "vellum/api.ErrCommand"], apart := false, laid := [("unicode/utf8.acceptRanges", laid_unicode_utf8_acceptRanges), ("vellum/api.ErrUtf8", laid_vellum_api_ErrUtf8), ("vellum/api.ErrJson", laid_vellum_api_ErrJson), ("vellum/api.ErrNest", laid_vellum_api_ErrNest), ("vellum/api.ErrNumber", laid_vellum_api_ErrNumber), ("vellum/api.ErrKind", laid_vellum_api_ErrKind), ("vellum/api.ErrKey", laid_vellum_api_ErrKey), ("vellum/api.ErrNull", laid_vellum_api_ErrNull), ("vellum/api.ErrAttrs", laid_vellum_api_ErrAttrs), ("vellum/api.ErrOp", laid_vellum_api_ErrOp), ("vellum/api.ErrLimit", laid_vellum_api_ErrLimit), ("vellum/api.ErrLong", laid_vellum_api_ErrLong), ("vellum/api.ErrRange", laid_vellum_api_ErrRange), ("vellum/api.ErrSchema", laid_vellum_api_ErrSchema), ("vellum/api.ErrEnd", laid_vellum_api_ErrEnd), ("vellum/api.ErrEmpty", laid_vellum_api_ErrEmpty), ("vellum/api.ErrMark", laid_vellum_api_ErrMark), ("vellum/api.ErrReplica", laid_vellum_api_ErrReplica), ("vellum/api.ErrBytes", laid_vellum_api_ErrBytes), ("vellum/api.ErrCommand", laid_vellum_api_ErrCommand), ("unicode/utf8.first", laid_unicode_utf8_first)], narrowed := true }
def ComposePlaysUptoSaid : Prop := composePlaysUptoRow.holds Tryz.pinned (OpenSpec.upto composePlaysSpec)

/-- 'vellumlaw10.ApplyPlays', WHERE WHAT IT READS IS OF BULK AT MOST 1048576: true; the input reads as it did. -/
def applyPlaysUptoRow : OpenClaim := { program := "ytapolkhdikdjbaagreatdoor", sum := "599386693e9190d6435580cb91c5d97b422c891d634a910956f61f5fe5e2c495", func := "vellum/vellumlaw10.ApplyPlays", spec := "applyPlays", unfollowed := true, recurses := true, named := ["vellum/api.ErrLong", "vellum/api.ErrOp", "vellum/api.ErrUtf8", "vellum/api.ErrKind", "vellum/api.ErrKey", "unicode/utf8.first", "unicode/utf8.acceptRanges", "vellum/api.ErrLimit", "vellum/api.ErrNull", "vellum/api.ErrAttrs", "vellum/api.ErrRange", "vellum/api.ErrJson", "vellum/api.ErrNest", "vellum/api.ErrNumber", "vellum/api.ErrSchema", "vellum/api.ErrEnd", "vellum/api.ErrEmpty", "vellum/api.ErrMark", "vellum/api.ErrReplica", "vellum/api.ErrBytes", "vellum/api.ErrCommand"], apart := false, laid := [("unicode/utf8.acceptRanges", laid_unicode_utf8_acceptRanges), ("vellum/api.ErrUtf8", laid_vellum_api_ErrUtf8), ("vellum/api.ErrJson", laid_vellum_api_ErrJson), ("vellum/api.ErrNest", laid_vellum_api_ErrNest), ("vellum/api.ErrNumber", laid_vellum_api_ErrNumber), ("vellum/api.ErrKind", laid_vellum_api_ErrKind), ("vellum/api.ErrKey", laid_vellum_api_ErrKey), ("vellum/api.ErrNull", laid_vellum_api_ErrNull), ("vellum/api.ErrAttrs", laid_vellum_api_ErrAttrs), ("vellum/api.ErrOp", laid_vellum_api_ErrOp), ("vellum/api.ErrLimit", laid_vellum_api_ErrLimit), ("vellum/api.ErrLong", laid_vellum_api_ErrLong), ("vellum/api.ErrRange", laid_vellum_api_ErrRange), ("vellum/api.ErrSchema", laid_vellum_api_ErrSchema), ("vellum/api.ErrEnd", laid_vellum_api_ErrEnd), ("vellum/api.ErrEmpty", laid_vellum_api_ErrEmpty), ("vellum/api.ErrMark", laid_vellum_api_ErrMark), ("vellum/api.ErrReplica", laid_vellum_api_ErrReplica), ("vellum/api.ErrBytes", laid_vellum_api_ErrBytes), ("vellum/api.ErrCommand", laid_vellum_api_ErrCommand), ("unicode/utf8.first", laid_unicode_utf8_first)], narrowed := true }
def ApplyPlaysUptoSaid : Prop := applyPlaysUptoRow.holds Tryz.pinned (OpenSpec.upto applyPlaysSpec)

/-- 'vellumlaw10.ApplyKept', WHERE WHAT IT READS IS OF BULK AT MOST 1048576: true; the input reads as it did. -/
def applyKeptUptoRow : OpenClaim := { program := "ytapolkhdikdjbaagreatdoor", sum := "599386693e9190d6435580cb91c5d97b422c891d634a910956f61f5fe5e2c495", func := "vellum/vellumlaw10.ApplyKept", spec := "applyKept", unfollowed := true, recurses := true, named := ["vellum/api.ErrLong", "vellum/api.ErrOp", "vellum/api.ErrUtf8", "vellum/api.ErrKind", "vellum/api.ErrKey", "unicode/utf8.first", "unicode/utf8.acceptRanges", "vellum/api.ErrLimit", "vellum/api.ErrNull", "vellum/api.ErrAttrs", "vellum/api.ErrRange", "vellum/api.ErrJson", "vellum/api.ErrNest", "vellum/api.ErrNumber", "vellum/api.ErrSchema", "vellum/api.ErrEnd", "vellum/api.ErrEmpty", "vellum/api.ErrMark", "vellum/api.ErrReplica", "vellum/api.ErrBytes", "vellum/api.ErrCommand"], apart := false, laid := [("unicode/utf8.acceptRanges", laid_unicode_utf8_acceptRanges), ("vellum/api.ErrUtf8", laid_vellum_api_ErrUtf8), ("vellum/api.ErrJson", laid_vellum_api_ErrJson), ("vellum/api.ErrNest", laid_vellum_api_ErrNest), ("vellum/api.ErrNumber", laid_vellum_api_ErrNumber), ("vellum/api.ErrKind", laid_vellum_api_ErrKind), ("vellum/api.ErrKey", laid_vellum_api_ErrKey), ("vellum/api.ErrNull", laid_vellum_api_ErrNull), ("vellum/api.ErrAttrs", laid_vellum_api_ErrAttrs), ("vellum/api.ErrOp", laid_vellum_api_ErrOp), ("vellum/api.ErrLimit", laid_vellum_api_ErrLimit), ("vellum/api.ErrLong", laid_vellum_api_ErrLong), ("vellum/api.ErrRange", laid_vellum_api_ErrRange), ("vellum/api.ErrSchema", laid_vellum_api_ErrSchema), ("vellum/api.ErrEnd", laid_vellum_api_ErrEnd), ("vellum/api.ErrEmpty", laid_vellum_api_ErrEmpty), ("vellum/api.ErrMark", laid_vellum_api_ErrMark), ("vellum/api.ErrReplica", laid_vellum_api_ErrReplica), ("vellum/api.ErrBytes", laid_vellum_api_ErrBytes), ("vellum/api.ErrCommand", laid_vellum_api_ErrCommand), ("unicode/utf8.first", laid_unicode_utf8_first)], narrowed := true }
def ApplyKeptUptoSaid : Prop := applyKeptUptoRow.holds Tryz.pinned (OpenSpec.upto applyKeptSpec)

/-- 'vellumlaw10.ApplyCells', WHERE WHAT IT READS IS OF BULK AT MOST 1048576: true; the input reads as it did. -/
def applyCellsUptoRow : OpenClaim := { program := "ytapolkhdikdjbaagreatdoor", sum := "599386693e9190d6435580cb91c5d97b422c891d634a910956f61f5fe5e2c495", func := "vellum/vellumlaw10.ApplyCells", spec := "applyCells", unfollowed := true, recurses := true, named := ["vellum/api.ErrLong", "vellum/api.ErrOp", "vellum/api.ErrUtf8", "vellum/api.ErrKind", "vellum/api.ErrKey", "unicode/utf8.first", "unicode/utf8.acceptRanges", "vellum/api.ErrLimit", "vellum/api.ErrNull", "vellum/api.ErrAttrs", "vellum/api.ErrRange"], apart := false, laid := [("unicode/utf8.acceptRanges", laid_unicode_utf8_acceptRanges), ("vellum/api.ErrUtf8", laid_vellum_api_ErrUtf8), ("vellum/api.ErrKind", laid_vellum_api_ErrKind), ("vellum/api.ErrKey", laid_vellum_api_ErrKey), ("vellum/api.ErrNull", laid_vellum_api_ErrNull), ("vellum/api.ErrAttrs", laid_vellum_api_ErrAttrs), ("vellum/api.ErrOp", laid_vellum_api_ErrOp), ("vellum/api.ErrLimit", laid_vellum_api_ErrLimit), ("vellum/api.ErrLong", laid_vellum_api_ErrLong), ("vellum/api.ErrRange", laid_vellum_api_ErrRange), ("unicode/utf8.first", laid_unicode_utf8_first)], narrowed := true }
def ApplyCellsUptoSaid : Prop := applyCellsUptoRow.holds Tryz.pinned (OpenSpec.upto applyCellsSpec)

/-- 'vellumlaw10.ApplyFront', WHERE WHAT IT READS IS OF BULK AT MOST 1048576: true; the input reads as it did. -/
def applyFrontUptoRow : OpenClaim := { program := "ytapolkhdikdjbaagreatdoor", sum := "599386693e9190d6435580cb91c5d97b422c891d634a910956f61f5fe5e2c495", func := "vellum/vellumlaw10.ApplyFront", spec := "applyFront", unfollowed := true, recurses := true, named := ["vellum/api.ErrLong", "vellum/api.ErrOp", "vellum/api.ErrUtf8", "vellum/api.ErrKind", "vellum/api.ErrKey", "unicode/utf8.first", "unicode/utf8.acceptRanges", "vellum/api.ErrLimit", "vellum/api.ErrNull", "vellum/api.ErrAttrs", "vellum/api.ErrRange", "vellum/api.ErrJson", "vellum/api.ErrNest", "vellum/api.ErrNumber", "vellum/api.ErrSchema", "vellum/api.ErrEnd", "vellum/api.ErrEmpty", "vellum/api.ErrMark", "vellum/api.ErrReplica", "vellum/api.ErrBytes", "vellum/api.ErrCommand"], apart := false, laid := [("unicode/utf8.acceptRanges", laid_unicode_utf8_acceptRanges), ("vellum/api.ErrUtf8", laid_vellum_api_ErrUtf8), ("vellum/api.ErrJson", laid_vellum_api_ErrJson), ("vellum/api.ErrNest", laid_vellum_api_ErrNest), ("vellum/api.ErrNumber", laid_vellum_api_ErrNumber), ("vellum/api.ErrKind", laid_vellum_api_ErrKind), ("vellum/api.ErrKey", laid_vellum_api_ErrKey), ("vellum/api.ErrNull", laid_vellum_api_ErrNull), ("vellum/api.ErrAttrs", laid_vellum_api_ErrAttrs), ("vellum/api.ErrOp", laid_vellum_api_ErrOp), ("vellum/api.ErrLimit", laid_vellum_api_ErrLimit), ("vellum/api.ErrLong", laid_vellum_api_ErrLong), ("vellum/api.ErrRange", laid_vellum_api_ErrRange), ("vellum/api.ErrSchema", laid_vellum_api_ErrSchema), ("vellum/api.ErrEnd", laid_vellum_api_ErrEnd), ("vellum/api.ErrEmpty", laid_vellum_api_ErrEmpty), ("vellum/api.ErrMark", laid_vellum_api_ErrMark), ("vellum/api.ErrReplica", laid_vellum_api_ErrReplica), ("vellum/api.ErrBytes", laid_vellum_api_ErrBytes), ("vellum/api.ErrCommand", laid_vellum_api_ErrCommand), ("unicode/utf8.first", laid_unicode_utf8_first)], narrowed := true }
def ApplyFrontUptoSaid : Prop := applyFrontUptoRow.holds Tryz.pinned (OpenSpec.upto applyFrontSpec)

end Rows
end Go.Proofs.YtapolkhdikdjbaaGreatDoor

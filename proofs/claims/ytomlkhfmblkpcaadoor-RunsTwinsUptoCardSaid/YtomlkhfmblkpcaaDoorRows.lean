/-
  NARROWER THAN 'FOR EVERY INPUT', by the rows' own cells (each row's printed sentence says how): RunsRoom: laid · RunsKeeps: laid · RunsPlays: laid · RunsTwins: laid · RunsNone: laid · RunsHolds: laid · RunsRefuses: laid · RunsBreaks: laid.
  DERIVED. THE GIVEN ROWS OF THIS SEAT. 8 by the template 'for every input the law returns true; each argument reads behind the call as it read before'; 0 by the template 'total and deterministic' (their statements: YtomlkhfmblkpcaaDoorTotals.lean).
  GIVEN WITH THE SEED: the statements are not yours to turn. If you find one false, say at which input.
  Laid BY PROGRAM, IN A SANDBOX (cutbox-rows.mjs): the forced cells as the released guide's own fill.sh prints them over the translation d40b949339b69095… (all of the seat's roots in one cut). By AI agents, Wed Nov 11 2026. No macro, syntax, notation, axiom, sorry.
-/
import Derived.Test.YtomlkhfmblkpcaaDoorChecked
import GoSem.Claim
import GoSem.ClaimJoined
import GoSem.ClaimMapViews
import Derived.JoinedTies
import Derived.KernelRfl
namespace Go.Proofs.YtomlkhfmblkpcaaDoor
/- THE CELL 'sum', in the pinned program and in every row, IS THE sha256 OF THE DUMP (.gsa) THAT YtomlkhfmblkpcaaDoorProg.lean LOADS. Nothing in Lean hashes anything: it is a label: what it is worth is what the hold of that sum in a sandbox is worth. -/
noncomputable def Tryd.pinned : Pinned := { name := "ytomlkhfmblkpcaadoor", sum := "d40b949339b690950cdd19f712d2a75ef8b51d71613a1a757758de1af79af029", checked := Tryd.checked }
namespace Rows
def none {H : Type} : Left H := { results := [], args := [] }

/- WHAT THE LISTED PACKAGE-LEVEL VARIABLES READ AS WHEN THE CALL BEGINS. Each datum BY PROGRAM (the guide's laid-datum.mjs) off the statement by which the dump's own 'gosem.cut.vars' lays the variable. In a bare row this is a premise. The card (YtomlkhfmblkpcaaDoorCards.lean) ties it to the program's text. -/
def laid_hornbook_api_FailNil {H : Type} : DataW H := .iface "*errors.errorString" (.ptr (.agg [.lit (.string [110, 111, 32, 111, 98, 106, 101, 99, 116])]))
def laid_hornbook_api_FailNoRun {H : Type} : DataW H := .iface "*errors.errorString" (.ptr (.agg [.lit (.string [110, 111, 32, 115, 117, 99, 104, 32, 114, 117, 110])]))
def laid_hornbook_api_FailSealed {H : Type} : DataW H := .iface "*errors.errorString" (.ptr (.agg [.lit (.string [116, 104, 101, 32, 114, 117, 110, 32, 105, 115, 32, 115, 101, 97, 108, 101, 100])]))
def laid_hornbook_api_FailFull {H : Type} : DataW H := .iface "*errors.errorString" (.ptr (.agg [.lit (.string [116, 104, 101, 32, 115, 116, 111, 114, 101, 32, 105, 115, 32, 102, 117, 108, 108])]))
def laid_hornbook_api_FailSpent {H : Type} : DataW H := .iface "*errors.errorString" (.ptr (.agg [.lit (.string [110, 111, 32, 114, 117, 110, 32, 110, 117, 109, 98, 101, 114, 32, 105, 115, 32, 108, 101, 102, 116])]))
def laid_hornbook_api_FailBroken {H : Type} : DataW H := .iface "*errors.errorString" (.ptr (.agg [.lit (.string [116, 104, 101, 32, 115, 116, 111, 114, 101, 32, 114, 101, 102, 117, 115, 101, 100, 32, 97, 32, 115, 116, 101, 112])]))
def laid_hornbook_api_FailOpen {H : Type} : DataW H := .iface "*errors.errorString" (.ptr (.agg [.lit (.string [116, 104, 101, 32, 114, 117, 110, 32, 105, 115, 32, 110, 111, 116, 32, 115, 101, 97, 108, 101, 100])]))
def laid_hornbook_api_FailRange {H : Type} : DataW H := .iface "*errors.errorString" (.ptr (.agg [.lit (.string [110, 111, 32, 115, 117, 99, 104, 32, 112, 108, 97, 99, 101, 32, 105, 110, 32, 116, 104, 101, 32, 114, 117, 110])]))

/-- 'hornbooklaw05.RunsRoom': WHATEVER THE INPUT: true; the input reads as it did. -/
def runsRoomSpec : ChangeSpec := { name := "runsRoom", fn := fun _ => fun
  | [d1, d2] => { results := [.lit (.bool true)], args := [d1, d2] }
  | _ => none }
def runsRoomRow : OpenClaim := { program := "ytomlkhfmblkpcaadoor", sum := "d40b949339b690950cdd19f712d2a75ef8b51d71613a1a757758de1af79af029", func := "hornbook/hornbooklaw05.RunsRoom", spec := "runsRoom", inPlace := ["internal/abi.NoEscape", "internal/bytealg.MakeNoZero"], named := ["hornbook/api.FailFull", "hornbook/api.FailSpent", "hornbook/api.FailNil", "hornbook/api.FailBroken", "hornbook/api.FailNoRun", "hornbook/api.FailSealed"], apart := false, laid := [("hornbook/api.FailNil", laid_hornbook_api_FailNil), ("hornbook/api.FailNoRun", laid_hornbook_api_FailNoRun), ("hornbook/api.FailSealed", laid_hornbook_api_FailSealed), ("hornbook/api.FailFull", laid_hornbook_api_FailFull), ("hornbook/api.FailSpent", laid_hornbook_api_FailSpent), ("hornbook/api.FailBroken", laid_hornbook_api_FailBroken)] }
def RunsRoomSaid : Prop := runsRoomRow.holds Tryd.pinned (OpenSpec.ofChange runsRoomSpec)

/-- ITS FALSE NEIGHBOUR: 'it returns false'. Refute it at one input. -/
def runsRoomWrong : ChangeSpec := { name := "runsRoom", fn := fun _ => fun
  | [d1, d2] => { results := [.lit (.bool false)], args := [d1, d2] }
  | _ => none }
def RunsRoomWrongFalsely : Prop := runsRoomRow.holds Tryd.pinned (OpenSpec.ofChange runsRoomWrong)

/-- 'hornbooklaw05.RunsKeeps': WHATEVER THE INPUT: true; the input reads as it did. -/
def runsKeepsSpec : ChangeSpec := { name := "runsKeeps", fn := fun _ => fun
  | [d] => { results := [.lit (.bool true)], args := [d] }
  | _ => none }
def runsKeepsRow : OpenClaim := { program := "ytomlkhfmblkpcaadoor", sum := "d40b949339b690950cdd19f712d2a75ef8b51d71613a1a757758de1af79af029", func := "hornbook/hornbooklaw05.RunsKeeps", spec := "runsKeeps", inPlace := ["internal/abi.NoEscape", "internal/bytealg.MakeNoZero"], recurses := true, named := ["hornbook/api.FailFull", "hornbook/api.FailSpent", "hornbook/api.FailNil", "hornbook/api.FailBroken", "hornbook/api.FailNoRun", "hornbook/api.FailSealed"], apart := false, laid := [("hornbook/api.FailNil", laid_hornbook_api_FailNil), ("hornbook/api.FailNoRun", laid_hornbook_api_FailNoRun), ("hornbook/api.FailSealed", laid_hornbook_api_FailSealed), ("hornbook/api.FailFull", laid_hornbook_api_FailFull), ("hornbook/api.FailSpent", laid_hornbook_api_FailSpent), ("hornbook/api.FailBroken", laid_hornbook_api_FailBroken)] }
def RunsKeepsSaid : Prop := runsKeepsRow.holds Tryd.pinned (OpenSpec.ofChange runsKeepsSpec)

/-- ITS FALSE NEIGHBOUR: 'it returns false'. Refute it at one input. -/
def runsKeepsWrong : ChangeSpec := { name := "runsKeeps", fn := fun _ => fun
  | [d] => { results := [.lit (.bool false)], args := [d] }
  | _ => none }
def RunsKeepsWrongFalsely : Prop := runsKeepsRow.holds Tryd.pinned (OpenSpec.ofChange runsKeepsWrong)

/-- 'hornbooklaw05.RunsPlays': WHATEVER THE INPUT: true; the input reads as it did. -/
def runsPlaysSpec : ChangeSpec := { name := "runsPlays", fn := fun _ => fun
  | [d1, d2] => { results := [.lit (.bool true)], args := [d1, d2] }
  | _ => none }
def runsPlaysRow : OpenClaim := { program := "ytomlkhfmblkpcaadoor", sum := "d40b949339b690950cdd19f712d2a75ef8b51d71613a1a757758de1af79af029", func := "hornbook/hornbooklaw05.RunsPlays", spec := "runsPlays", inPlace := ["internal/abi.NoEscape", "internal/bytealg.MakeNoZero"], recurses := true, named := ["hornbook/api.FailFull", "hornbook/api.FailSpent", "hornbook/api.FailNil", "hornbook/api.FailBroken", "hornbook/api.FailNoRun", "hornbook/api.FailSealed", "hornbook/api.FailOpen", "hornbook/api.FailRange"], apart := false, laid := [("hornbook/api.FailNil", laid_hornbook_api_FailNil), ("hornbook/api.FailNoRun", laid_hornbook_api_FailNoRun), ("hornbook/api.FailSealed", laid_hornbook_api_FailSealed), ("hornbook/api.FailOpen", laid_hornbook_api_FailOpen), ("hornbook/api.FailRange", laid_hornbook_api_FailRange), ("hornbook/api.FailFull", laid_hornbook_api_FailFull), ("hornbook/api.FailSpent", laid_hornbook_api_FailSpent), ("hornbook/api.FailBroken", laid_hornbook_api_FailBroken)] }
def RunsPlaysSaid : Prop := runsPlaysRow.holds Tryd.pinned (OpenSpec.ofChange runsPlaysSpec)

/-- ITS FALSE NEIGHBOUR: 'it returns false'. Refute it at one input. -/
def runsPlaysWrong : ChangeSpec := { name := "runsPlays", fn := fun _ => fun
  | [d1, d2] => { results := [.lit (.bool false)], args := [d1, d2] }
  | _ => none }
def RunsPlaysWrongFalsely : Prop := runsPlaysRow.holds Tryd.pinned (OpenSpec.ofChange runsPlaysWrong)

/-- 'hornbooklaw05.RunsTwins': WHATEVER THE INPUT: true; the input reads as it did. -/
def runsTwinsSpec : ChangeSpec := { name := "runsTwins", fn := fun _ => fun
  | [d1, d2] => { results := [.lit (.bool true)], args := [d1, d2] }
  | _ => none }
def runsTwinsRow : OpenClaim := { program := "ytomlkhfmblkpcaadoor", sum := "d40b949339b690950cdd19f712d2a75ef8b51d71613a1a757758de1af79af029", func := "hornbook/hornbooklaw05.RunsTwins", spec := "runsTwins", inPlace := ["internal/abi.NoEscape", "internal/bytealg.MakeNoZero"], recurses := true, named := ["hornbook/api.FailFull", "hornbook/api.FailSpent", "hornbook/api.FailNil", "hornbook/api.FailBroken", "hornbook/api.FailNoRun", "hornbook/api.FailSealed", "hornbook/api.FailOpen", "hornbook/api.FailRange"], apart := false, laid := [("hornbook/api.FailNil", laid_hornbook_api_FailNil), ("hornbook/api.FailNoRun", laid_hornbook_api_FailNoRun), ("hornbook/api.FailSealed", laid_hornbook_api_FailSealed), ("hornbook/api.FailOpen", laid_hornbook_api_FailOpen), ("hornbook/api.FailRange", laid_hornbook_api_FailRange), ("hornbook/api.FailFull", laid_hornbook_api_FailFull), ("hornbook/api.FailSpent", laid_hornbook_api_FailSpent), ("hornbook/api.FailBroken", laid_hornbook_api_FailBroken)] }
def RunsTwinsSaid : Prop := runsTwinsRow.holds Tryd.pinned (OpenSpec.ofChange runsTwinsSpec)

/-- ITS FALSE NEIGHBOUR: 'it returns false'. Refute it at one input. -/
def runsTwinsWrong : ChangeSpec := { name := "runsTwins", fn := fun _ => fun
  | [d1, d2] => { results := [.lit (.bool false)], args := [d1, d2] }
  | _ => none }
def RunsTwinsWrongFalsely : Prop := runsTwinsRow.holds Tryd.pinned (OpenSpec.ofChange runsTwinsWrong)

/-- 'hornbooklaw05.RunsNone': WHATEVER THE INPUT: true; the input reads as it did. -/
def runsNoneSpec : ChangeSpec := { name := "runsNone", fn := fun _ => fun
  | [d] => { results := [.lit (.bool true)], args := [d] }
  | _ => none }
def runsNoneRow : OpenClaim := { program := "ytomlkhfmblkpcaadoor", sum := "d40b949339b690950cdd19f712d2a75ef8b51d71613a1a757758de1af79af029", func := "hornbook/hornbooklaw05.RunsNone", spec := "runsNone", inPlace := ["internal/abi.NoEscape", "internal/bytealg.MakeNoZero"], recurses := true, named := ["hornbook/api.FailFull", "hornbook/api.FailSpent", "hornbook/api.FailNil", "hornbook/api.FailBroken", "hornbook/api.FailNoRun", "hornbook/api.FailSealed", "hornbook/api.FailOpen", "hornbook/api.FailRange"], apart := false, laid := [("hornbook/api.FailNil", laid_hornbook_api_FailNil), ("hornbook/api.FailNoRun", laid_hornbook_api_FailNoRun), ("hornbook/api.FailSealed", laid_hornbook_api_FailSealed), ("hornbook/api.FailOpen", laid_hornbook_api_FailOpen), ("hornbook/api.FailRange", laid_hornbook_api_FailRange), ("hornbook/api.FailFull", laid_hornbook_api_FailFull), ("hornbook/api.FailSpent", laid_hornbook_api_FailSpent), ("hornbook/api.FailBroken", laid_hornbook_api_FailBroken)] }
def RunsNoneSaid : Prop := runsNoneRow.holds Tryd.pinned (OpenSpec.ofChange runsNoneSpec)

/-- ITS FALSE NEIGHBOUR: 'it returns false'. Refute it at one input. -/
def runsNoneWrong : ChangeSpec := { name := "runsNone", fn := fun _ => fun
  | [d] => { results := [.lit (.bool false)], args := [d] }
  | _ => none }
def RunsNoneWrongFalsely : Prop := runsNoneRow.holds Tryd.pinned (OpenSpec.ofChange runsNoneWrong)

/-- 'hornbooklaw05.RunsHolds': WHATEVER THE INPUT: true; the input reads as it did. -/
def runsHoldsSpec : ChangeSpec := { name := "runsHolds", fn := fun _ => fun
  | [d1, d2] => { results := [.lit (.bool true)], args := [d1, d2] }
  | _ => none }
def runsHoldsRow : OpenClaim := { program := "ytomlkhfmblkpcaadoor", sum := "d40b949339b690950cdd19f712d2a75ef8b51d71613a1a757758de1af79af029", func := "hornbook/hornbooklaw05.RunsHolds", spec := "runsHolds", inPlace := ["internal/abi.NoEscape", "internal/bytealg.MakeNoZero"], recurses := true, named := ["hornbook/api.FailFull", "hornbook/api.FailSpent", "hornbook/api.FailNil", "hornbook/api.FailBroken", "hornbook/api.FailNoRun", "hornbook/api.FailSealed", "hornbook/api.FailOpen", "hornbook/api.FailRange"], apart := false, laid := [("hornbook/api.FailNil", laid_hornbook_api_FailNil), ("hornbook/api.FailNoRun", laid_hornbook_api_FailNoRun), ("hornbook/api.FailSealed", laid_hornbook_api_FailSealed), ("hornbook/api.FailOpen", laid_hornbook_api_FailOpen), ("hornbook/api.FailRange", laid_hornbook_api_FailRange), ("hornbook/api.FailFull", laid_hornbook_api_FailFull), ("hornbook/api.FailSpent", laid_hornbook_api_FailSpent), ("hornbook/api.FailBroken", laid_hornbook_api_FailBroken)] }
def RunsHoldsSaid : Prop := runsHoldsRow.holds Tryd.pinned (OpenSpec.ofChange runsHoldsSpec)

/-- ITS FALSE NEIGHBOUR: 'it returns false'. Refute it at one input. -/
def runsHoldsWrong : ChangeSpec := { name := "runsHolds", fn := fun _ => fun
  | [d1, d2] => { results := [.lit (.bool false)], args := [d1, d2] }
  | _ => none }
def RunsHoldsWrongFalsely : Prop := runsHoldsRow.holds Tryd.pinned (OpenSpec.ofChange runsHoldsWrong)

/-- 'hornbooklaw05.RunsRefuses': WHATEVER THE INPUT: true; the input reads as it did. -/
def runsRefusesSpec : ChangeSpec := { name := "runsRefuses", fn := fun _ => fun
  | [d1, d2] => { results := [.lit (.bool true)], args := [d1, d2] }
  | _ => none }
def runsRefusesRow : OpenClaim := { program := "ytomlkhfmblkpcaadoor", sum := "d40b949339b690950cdd19f712d2a75ef8b51d71613a1a757758de1af79af029", func := "hornbook/hornbooklaw05.RunsRefuses", spec := "runsRefuses", inPlace := ["internal/abi.NoEscape", "internal/bytealg.MakeNoZero"], recurses := true, named := ["hornbook/api.FailFull", "hornbook/api.FailSpent", "hornbook/api.FailNil", "hornbook/api.FailBroken", "hornbook/api.FailNoRun", "hornbook/api.FailSealed", "hornbook/api.FailOpen", "hornbook/api.FailRange"], apart := false, laid := [("hornbook/api.FailNil", laid_hornbook_api_FailNil), ("hornbook/api.FailNoRun", laid_hornbook_api_FailNoRun), ("hornbook/api.FailSealed", laid_hornbook_api_FailSealed), ("hornbook/api.FailOpen", laid_hornbook_api_FailOpen), ("hornbook/api.FailRange", laid_hornbook_api_FailRange), ("hornbook/api.FailFull", laid_hornbook_api_FailFull), ("hornbook/api.FailSpent", laid_hornbook_api_FailSpent), ("hornbook/api.FailBroken", laid_hornbook_api_FailBroken)] }
def RunsRefusesSaid : Prop := runsRefusesRow.holds Tryd.pinned (OpenSpec.ofChange runsRefusesSpec)

/-- ITS FALSE NEIGHBOUR: 'it returns false'. Refute it at one input. -/
def runsRefusesWrong : ChangeSpec := { name := "runsRefuses", fn := fun _ => fun
  | [d1, d2] => { results := [.lit (.bool false)], args := [d1, d2] }
  | _ => none }
def RunsRefusesWrongFalsely : Prop := runsRefusesRow.holds Tryd.pinned (OpenSpec.ofChange runsRefusesWrong)

/-- 'hornbooklaw05.RunsBreaks': WHATEVER THE INPUT: true; the input reads as it did. -/
def runsBreaksSpec : ChangeSpec := { name := "runsBreaks", fn := fun _ => fun
  | [d1, d2, d3] => { results := [.lit (.bool true)], args := [d1, d2, d3] }
  | _ => none }
def runsBreaksRow : OpenClaim := { program := "ytomlkhfmblkpcaadoor", sum := "d40b949339b690950cdd19f712d2a75ef8b51d71613a1a757758de1af79af029", func := "hornbook/hornbooklaw05.RunsBreaks", spec := "runsBreaks", inPlace := ["internal/abi.NoEscape", "internal/bytealg.MakeNoZero"], recurses := true, named := ["hornbook/api.FailFull", "hornbook/api.FailSpent", "hornbook/api.FailNil", "hornbook/api.FailBroken", "hornbook/api.FailNoRun", "hornbook/api.FailSealed", "hornbook/api.FailOpen", "hornbook/api.FailRange"], apart := false, laid := [("hornbook/api.FailNil", laid_hornbook_api_FailNil), ("hornbook/api.FailNoRun", laid_hornbook_api_FailNoRun), ("hornbook/api.FailSealed", laid_hornbook_api_FailSealed), ("hornbook/api.FailOpen", laid_hornbook_api_FailOpen), ("hornbook/api.FailRange", laid_hornbook_api_FailRange), ("hornbook/api.FailFull", laid_hornbook_api_FailFull), ("hornbook/api.FailSpent", laid_hornbook_api_FailSpent), ("hornbook/api.FailBroken", laid_hornbook_api_FailBroken)] }
def RunsBreaksSaid : Prop := runsBreaksRow.holds Tryd.pinned (OpenSpec.ofChange runsBreaksSpec)

/-- ITS FALSE NEIGHBOUR: 'it returns false'. Refute it at one input. -/
def runsBreaksWrong : ChangeSpec := { name := "runsBreaks", fn := fun _ => fun
  | [d1, d2, d3] => { results := [.lit (.bool false)], args := [d1, d2, d3] }
  | _ => none }
def RunsBreaksWrongFalsely : Prop := runsBreaksRow.holds Tryd.pinned (OpenSpec.ofChange runsBreaksWrong)

/- THE SECOND FORM. 'bulk': how many values and letters a reading holds, each counted each time it is reached (what is shared counts as often as it is met; a slice's spare places count too). A statement '..UptoSaid' is the law's where the arguments, and the package variables that the reading takes, are together of bulk at most 1048576: NARROWER than '..Said'. Prove '..Said' where nothing that the law and all that it calls make is longer than what came in: it says more and counts as full. Else prove '..UptoSaid'. A law counts once. -/
mutual
def uptoBulk {H : Type} : DataW H → Nat
  | .lit (.string bytes) => bytes.length + 1
  | .lit _ => 1
  | .nil => 1
  | .ptr d => uptoBulk d + 1
  | .slice elems spare => uptoBulkAll elems + uptoBulkAll spare + 1
  | .agg parts => uptoBulkAll parts + 1
  | .iface _ d => uptoBulk d + 1
  | .map entries => uptoBulkEntries entries + 1
  | .held _ => 1
def uptoBulkAll {H : Type} : List (DataW H) → Nat
  | [] => 0
  | d :: r => uptoBulk d + uptoBulkAll r
def uptoBulkEntries {H : Type} : List (Lit × DataW H) → Nat
  | [] => 0
  | x :: r => uptoBulkEntry x + uptoBulkEntries r
def uptoBulkEntry {H : Type} : Lit × DataW H → Nat
  | (.string bytes, d) => bytes.length + uptoBulk d + 1
  | (_, d) => uptoBulk d + 1
 end
def uptoSmall : (H : Type) → List (DataW H) → Bool := fun _ ds => decide (uptoBulkAll ds ≤ 1048576)
def OpenSpec.upto (s : _root_.Go.ChangeSpec) : _root_.Go.OpenSpec := { _root_.Go.OpenSpec.ofChange s with cond := some uptoSmall }

/-- 'hornbooklaw05.RunsRoom', WHERE WHAT IT READS IS OF BULK AT MOST 1048576: true; the input reads as it did. -/
def runsRoomUptoRow : OpenClaim := { program := "ytomlkhfmblkpcaadoor", sum := "d40b949339b690950cdd19f712d2a75ef8b51d71613a1a757758de1af79af029", func := "hornbook/hornbooklaw05.RunsRoom", spec := "runsRoom", inPlace := ["internal/abi.NoEscape", "internal/bytealg.MakeNoZero"], named := ["hornbook/api.FailFull", "hornbook/api.FailSpent", "hornbook/api.FailNil", "hornbook/api.FailBroken", "hornbook/api.FailNoRun", "hornbook/api.FailSealed"], apart := false, laid := [("hornbook/api.FailNil", laid_hornbook_api_FailNil), ("hornbook/api.FailNoRun", laid_hornbook_api_FailNoRun), ("hornbook/api.FailSealed", laid_hornbook_api_FailSealed), ("hornbook/api.FailFull", laid_hornbook_api_FailFull), ("hornbook/api.FailSpent", laid_hornbook_api_FailSpent), ("hornbook/api.FailBroken", laid_hornbook_api_FailBroken)], narrowed := true }
def RunsRoomUptoSaid : Prop := runsRoomUptoRow.holds Tryd.pinned (OpenSpec.upto runsRoomSpec)

/-- 'hornbooklaw05.RunsKeeps', WHERE WHAT IT READS IS OF BULK AT MOST 1048576: true; the input reads as it did. -/
def runsKeepsUptoRow : OpenClaim := { program := "ytomlkhfmblkpcaadoor", sum := "d40b949339b690950cdd19f712d2a75ef8b51d71613a1a757758de1af79af029", func := "hornbook/hornbooklaw05.RunsKeeps", spec := "runsKeeps", inPlace := ["internal/abi.NoEscape", "internal/bytealg.MakeNoZero"], recurses := true, named := ["hornbook/api.FailFull", "hornbook/api.FailSpent", "hornbook/api.FailNil", "hornbook/api.FailBroken", "hornbook/api.FailNoRun", "hornbook/api.FailSealed"], apart := false, laid := [("hornbook/api.FailNil", laid_hornbook_api_FailNil), ("hornbook/api.FailNoRun", laid_hornbook_api_FailNoRun), ("hornbook/api.FailSealed", laid_hornbook_api_FailSealed), ("hornbook/api.FailFull", laid_hornbook_api_FailFull), ("hornbook/api.FailSpent", laid_hornbook_api_FailSpent), ("hornbook/api.FailBroken", laid_hornbook_api_FailBroken)], narrowed := true }
def RunsKeepsUptoSaid : Prop := runsKeepsUptoRow.holds Tryd.pinned (OpenSpec.upto runsKeepsSpec)

/-- 'hornbooklaw05.RunsPlays', WHERE WHAT IT READS IS OF BULK AT MOST 1048576: true; the input reads as it did. -/
def runsPlaysUptoRow : OpenClaim := { program := "ytomlkhfmblkpcaadoor", sum := "d40b949339b690950cdd19f712d2a75ef8b51d71613a1a757758de1af79af029", func := "hornbook/hornbooklaw05.RunsPlays", spec := "runsPlays", inPlace := ["internal/abi.NoEscape", "internal/bytealg.MakeNoZero"], recurses := true, named := ["hornbook/api.FailFull", "hornbook/api.FailSpent", "hornbook/api.FailNil", "hornbook/api.FailBroken", "hornbook/api.FailNoRun", "hornbook/api.FailSealed", "hornbook/api.FailOpen", "hornbook/api.FailRange"], apart := false, laid := [("hornbook/api.FailNil", laid_hornbook_api_FailNil), ("hornbook/api.FailNoRun", laid_hornbook_api_FailNoRun), ("hornbook/api.FailSealed", laid_hornbook_api_FailSealed), ("hornbook/api.FailOpen", laid_hornbook_api_FailOpen), ("hornbook/api.FailRange", laid_hornbook_api_FailRange), ("hornbook/api.FailFull", laid_hornbook_api_FailFull), ("hornbook/api.FailSpent", laid_hornbook_api_FailSpent), ("hornbook/api.FailBroken", laid_hornbook_api_FailBroken)], narrowed := true }
def RunsPlaysUptoSaid : Prop := runsPlaysUptoRow.holds Tryd.pinned (OpenSpec.upto runsPlaysSpec)

/-- 'hornbooklaw05.RunsTwins', WHERE WHAT IT READS IS OF BULK AT MOST 1048576: true; the input reads as it did. -/
def runsTwinsUptoRow : OpenClaim := { program := "ytomlkhfmblkpcaadoor", sum := "d40b949339b690950cdd19f712d2a75ef8b51d71613a1a757758de1af79af029", func := "hornbook/hornbooklaw05.RunsTwins", spec := "runsTwins", inPlace := ["internal/abi.NoEscape", "internal/bytealg.MakeNoZero"], recurses := true, named := ["hornbook/api.FailFull", "hornbook/api.FailSpent", "hornbook/api.FailNil", "hornbook/api.FailBroken", "hornbook/api.FailNoRun", "hornbook/api.FailSealed", "hornbook/api.FailOpen", "hornbook/api.FailRange"], apart := false, laid := [("hornbook/api.FailNil", laid_hornbook_api_FailNil), ("hornbook/api.FailNoRun", laid_hornbook_api_FailNoRun), ("hornbook/api.FailSealed", laid_hornbook_api_FailSealed), ("hornbook/api.FailOpen", laid_hornbook_api_FailOpen), ("hornbook/api.FailRange", laid_hornbook_api_FailRange), ("hornbook/api.FailFull", laid_hornbook_api_FailFull), ("hornbook/api.FailSpent", laid_hornbook_api_FailSpent), ("hornbook/api.FailBroken", laid_hornbook_api_FailBroken)], narrowed := true }
def RunsTwinsUptoSaid : Prop := runsTwinsUptoRow.holds Tryd.pinned (OpenSpec.upto runsTwinsSpec)

/-- 'hornbooklaw05.RunsNone', WHERE WHAT IT READS IS OF BULK AT MOST 1048576: true; the input reads as it did. -/
def runsNoneUptoRow : OpenClaim := { program := "ytomlkhfmblkpcaadoor", sum := "d40b949339b690950cdd19f712d2a75ef8b51d71613a1a757758de1af79af029", func := "hornbook/hornbooklaw05.RunsNone", spec := "runsNone", inPlace := ["internal/abi.NoEscape", "internal/bytealg.MakeNoZero"], recurses := true, named := ["hornbook/api.FailFull", "hornbook/api.FailSpent", "hornbook/api.FailNil", "hornbook/api.FailBroken", "hornbook/api.FailNoRun", "hornbook/api.FailSealed", "hornbook/api.FailOpen", "hornbook/api.FailRange"], apart := false, laid := [("hornbook/api.FailNil", laid_hornbook_api_FailNil), ("hornbook/api.FailNoRun", laid_hornbook_api_FailNoRun), ("hornbook/api.FailSealed", laid_hornbook_api_FailSealed), ("hornbook/api.FailOpen", laid_hornbook_api_FailOpen), ("hornbook/api.FailRange", laid_hornbook_api_FailRange), ("hornbook/api.FailFull", laid_hornbook_api_FailFull), ("hornbook/api.FailSpent", laid_hornbook_api_FailSpent), ("hornbook/api.FailBroken", laid_hornbook_api_FailBroken)], narrowed := true }
def RunsNoneUptoSaid : Prop := runsNoneUptoRow.holds Tryd.pinned (OpenSpec.upto runsNoneSpec)

/-- 'hornbooklaw05.RunsHolds', WHERE WHAT IT READS IS OF BULK AT MOST 1048576: true; the input reads as it did. -/
def runsHoldsUptoRow : OpenClaim := { program := "ytomlkhfmblkpcaadoor", sum := "d40b949339b690950cdd19f712d2a75ef8b51d71613a1a757758de1af79af029", func := "hornbook/hornbooklaw05.RunsHolds", spec := "runsHolds", inPlace := ["internal/abi.NoEscape", "internal/bytealg.MakeNoZero"], recurses := true, named := ["hornbook/api.FailFull", "hornbook/api.FailSpent", "hornbook/api.FailNil", "hornbook/api.FailBroken", "hornbook/api.FailNoRun", "hornbook/api.FailSealed", "hornbook/api.FailOpen", "hornbook/api.FailRange"], apart := false, laid := [("hornbook/api.FailNil", laid_hornbook_api_FailNil), ("hornbook/api.FailNoRun", laid_hornbook_api_FailNoRun), ("hornbook/api.FailSealed", laid_hornbook_api_FailSealed), ("hornbook/api.FailOpen", laid_hornbook_api_FailOpen), ("hornbook/api.FailRange", laid_hornbook_api_FailRange), ("hornbook/api.FailFull", laid_hornbook_api_FailFull), ("hornbook/api.FailSpent", laid_hornbook_api_FailSpent), ("hornbook/api.FailBroken", laid_hornbook_api_FailBroken)], narrowed := true }
def RunsHoldsUptoSaid : Prop := runsHoldsUptoRow.holds Tryd.pinned (OpenSpec.upto runsHoldsSpec)

/-- 'hornbooklaw05.RunsRefuses', WHERE WHAT IT READS IS OF BULK AT MOST 1048576: true; the input reads as it did. -/
def runsRefusesUptoRow : OpenClaim := { program := "ytomlkhfmblkpcaadoor", sum := "d40b949339b690950cdd19f712d2a75ef8b51d71613a1a757758de1af79af029", func := "hornbook/hornbooklaw05.RunsRefuses", spec := "runsRefuses", inPlace := ["internal/abi.NoEscape", "internal/bytealg.MakeNoZero"], recurses := true, named := ["hornbook/api.FailFull", "hornbook/api.FailSpent", "hornbook/api.FailNil", "hornbook/api.FailBroken", "hornbook/api.FailNoRun", "hornbook/api.FailSealed", "hornbook/api.FailOpen", "hornbook/api.FailRange"], apart := false, laid := [("hornbook/api.FailNil", laid_hornbook_api_FailNil), ("hornbook/api.FailNoRun", laid_hornbook_api_FailNoRun), ("hornbook/api.FailSealed", laid_hornbook_api_FailSealed), ("hornbook/api.FailOpen", laid_hornbook_api_FailOpen), ("hornbook/api.FailRange", laid_hornbook_api_FailRange), ("hornbook/api.FailFull", laid_hornbook_api_FailFull), ("hornbook/api.FailSpent", laid_hornbook_api_FailSpent), ("hornbook/api.FailBroken", laid_hornbook_api_FailBroken)], narrowed := true }
def RunsRefusesUptoSaid : Prop := runsRefusesUptoRow.holds Tryd.pinned (OpenSpec.upto runsRefusesSpec)

/-- 'hornbooklaw05.RunsBreaks', WHERE WHAT IT READS IS OF BULK AT MOST 1048576: true; the input reads as it did. -/
def runsBreaksUptoRow : OpenClaim := { program := "ytomlkhfmblkpcaadoor", sum := "d40b949339b690950cdd19f712d2a75ef8b51d71613a1a757758de1af79af029", func := "hornbook/hornbooklaw05.RunsBreaks", spec := "runsBreaks", inPlace := ["internal/abi.NoEscape", "internal/bytealg.MakeNoZero"], recurses := true, named := ["hornbook/api.FailFull", "hornbook/api.FailSpent", "hornbook/api.FailNil", "hornbook/api.FailBroken", "hornbook/api.FailNoRun", "hornbook/api.FailSealed", "hornbook/api.FailOpen", "hornbook/api.FailRange"], apart := false, laid := [("hornbook/api.FailNil", laid_hornbook_api_FailNil), ("hornbook/api.FailNoRun", laid_hornbook_api_FailNoRun), ("hornbook/api.FailSealed", laid_hornbook_api_FailSealed), ("hornbook/api.FailOpen", laid_hornbook_api_FailOpen), ("hornbook/api.FailRange", laid_hornbook_api_FailRange), ("hornbook/api.FailFull", laid_hornbook_api_FailFull), ("hornbook/api.FailSpent", laid_hornbook_api_FailSpent), ("hornbook/api.FailBroken", laid_hornbook_api_FailBroken)], narrowed := true }
def RunsBreaksUptoSaid : Prop := runsBreaksUptoRow.holds Tryd.pinned (OpenSpec.upto runsBreaksSpec)

end Rows
end Go.Proofs.YtomlkhfmblkpcaaDoor

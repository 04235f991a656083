/-
  NARROWER THAN 'FOR EVERY INPUT', by the rows' own cells (each row's printed sentence says how): StreamsPlays: laid.
  DERIVED. THE GIVEN ROWS OF THIS SEAT. 1 by the template 'for every input the law returns true; each argument reads behind the call as it read before'; 0 by the template 'total and deterministic' (their statements: YtgeabmmicofanaaGreatDoorTotals.lean).
  GIVEN WITH THE SEED: the statements are not yours to turn. If you find one false, say at which input.
  Laid BY PROGRAM, IN A SANDBOX (cutbox-rows.mjs): the forced cells as the released guide's own fill.sh prints them over the translation fcdb0d881e406c16… (all of the seat's roots in one cut). By AI agents, Wed Nov 11 2026. No macro, syntax, notation, axiom, sorry.
-/
import Derived.Test.YtgeabmmicofanaaGreatDoorChecked
import GoSem.Claim
import GoSem.ClaimJoined
import GoSem.ClaimMapViews
import Derived.JoinedTies
import Derived.KernelRfl
namespace Go.Proofs.YtgeabmmicofanaaGreatDoor
/- THE CELL 'sum', in the pinned program and in every row, IS THE sha256 OF THE DUMP (.gsa) THAT YtgeabmmicofanaaGreatDoorProg.lean LOADS. Nothing in Lean hashes anything: it is a label: what it is worth is what the hold of that sum in a sandbox is worth. -/
noncomputable def Tryz.pinned : Pinned := { name := "ytgeabmmicofanaagreatdoor", sum := "fcdb0d881e406c16470243cbd8216cce65e0df97469bc4317ff331a2ef3f79ba", checked := Tryz.checked }
namespace Rows
def none {H : Type} : Left H := { results := [], args := [] }

/- WHAT THE LISTED PACKAGE-LEVEL VARIABLES READ AS WHEN THE CALL BEGINS. Each datum BY PROGRAM (the guide's laid-datum.mjs) off the statement by which the dump's own 'gosem.cut.vars' lays the variable. In a bare row this is a premise. The card (YtgeabmmicofanaaGreatDoorCards.lean) ties it to the program's text. -/
def laid_hornbook_api_FailNil {H : Type} : DataW H := .iface "*errors.errorString" (.ptr (.agg [.lit (.string [110, 111, 32, 111, 98, 106, 101, 99, 116])]))
def laid_hornbook_api_FailLimits {H : Type} : DataW H := .iface "*errors.errorString" (.ptr (.agg [.lit (.string [97, 32, 110, 117, 109, 98, 101, 114, 32, 111, 117, 116, 32, 111, 102, 32, 105, 116, 115, 32, 114, 97, 110, 103, 101])]))
def laid_hornbook_api_FailNoRun {H : Type} : DataW H := .iface "*errors.errorString" (.ptr (.agg [.lit (.string [110, 111, 32, 115, 117, 99, 104, 32, 114, 117, 110])]))
def laid_hornbook_api_FailSealed {H : Type} : DataW H := .iface "*errors.errorString" (.ptr (.agg [.lit (.string [116, 104, 101, 32, 114, 117, 110, 32, 105, 115, 32, 115, 101, 97, 108, 101, 100])]))
def laid_hornbook_api_FailOpen {H : Type} : DataW H := .iface "*errors.errorString" (.ptr (.agg [.lit (.string [116, 104, 101, 32, 114, 117, 110, 32, 105, 115, 32, 110, 111, 116, 32, 115, 101, 97, 108, 101, 100])]))
def laid_hornbook_api_FailRange {H : Type} : DataW H := .iface "*errors.errorString" (.ptr (.agg [.lit (.string [110, 111, 32, 115, 117, 99, 104, 32, 112, 108, 97, 99, 101, 32, 105, 110, 32, 116, 104, 101, 32, 114, 117, 110])]))
def laid_hornbook_api_FailFull {H : Type} : DataW H := .iface "*errors.errorString" (.ptr (.agg [.lit (.string [116, 104, 101, 32, 115, 116, 111, 114, 101, 32, 105, 115, 32, 102, 117, 108, 108])]))
def laid_hornbook_api_FailSpent {H : Type} : DataW H := .iface "*errors.errorString" (.ptr (.agg [.lit (.string [110, 111, 32, 114, 117, 110, 32, 110, 117, 109, 98, 101, 114, 32, 105, 115, 32, 108, 101, 102, 116])]))
def laid_hornbook_api_FailBroken {H : Type} : DataW H := .iface "*errors.errorString" (.ptr (.agg [.lit (.string [116, 104, 101, 32, 115, 116, 111, 114, 101, 32, 114, 101, 102, 117, 115, 101, 100, 32, 97, 32, 115, 116, 101, 112])]))
def laid_hornbook_api_FailTorn {H : Type} : DataW H := .iface "*errors.errorString" (.ptr (.agg [.lit (.string [116, 104, 101, 32, 114, 117, 110, 32, 105, 115, 32, 116, 111, 114, 110])]))

/-- 'hornbooklaw08.StreamsPlays': WHATEVER THE INPUT: true; the input reads as it did. -/
def streamsPlaysSpec : ChangeSpec := { name := "streamsPlays", fn := fun _ => fun
  | [d] => { results := [.lit (.bool true)], args := [d] }
  | _ => none }
def streamsPlaysRow : OpenClaim := { program := "ytgeabmmicofanaagreatdoor", sum := "fcdb0d881e406c16470243cbd8216cce65e0df97469bc4317ff331a2ef3f79ba", func := "hornbook/hornbooklaw08.StreamsPlays", spec := "streamsPlays", inPlace := ["internal/abi.NoEscape", "internal/bytealg.MakeNoZero"], unfollowed := true, recurses := true, named := ["hornbook/api.FailSpent", "hornbook/api.FailNil", "hornbook/api.FailBroken", "hornbook/api.FailFull", "hornbook/api.FailNoRun", "hornbook/api.FailSealed", "hornbook/api.FailLimits", "hornbook/api.FailOpen", "hornbook/api.FailRange", "hornbook/api.FailTorn"], apart := false, laid := [("hornbook/api.FailNil", laid_hornbook_api_FailNil), ("hornbook/api.FailLimits", laid_hornbook_api_FailLimits), ("hornbook/api.FailNoRun", laid_hornbook_api_FailNoRun), ("hornbook/api.FailSealed", laid_hornbook_api_FailSealed), ("hornbook/api.FailOpen", laid_hornbook_api_FailOpen), ("hornbook/api.FailRange", laid_hornbook_api_FailRange), ("hornbook/api.FailFull", laid_hornbook_api_FailFull), ("hornbook/api.FailSpent", laid_hornbook_api_FailSpent), ("hornbook/api.FailBroken", laid_hornbook_api_FailBroken), ("hornbook/api.FailTorn", laid_hornbook_api_FailTorn)] }
def StreamsPlaysSaid : Prop := streamsPlaysRow.holds Tryz.pinned (OpenSpec.ofChange streamsPlaysSpec)

/-- ITS FALSE NEIGHBOUR: 'it returns false'. Refute it at one input. -/
def streamsPlaysWrong : ChangeSpec := { name := "streamsPlays", fn := fun _ => fun
  | [d] => { results := [.lit (.bool false)], args := [d] }
  | _ => none }
def StreamsPlaysWrongFalsely : Prop := streamsPlaysRow.holds Tryz.pinned (OpenSpec.ofChange streamsPlaysWrong)

/- THE SECOND FORM. 'bulk': how many values and letters a reading holds, each counted each time it is reached (what is shared counts as often as it is met; a slice's spare places count too). A statement '..UptoSaid' is the law's where the arguments, and the package variables that the reading takes, are together of bulk at most 1048576: NARROWER than '..Said'. Prove '..Said' where nothing that the law and all that it calls make is longer than what came in: it says more and counts as full. Else prove '..UptoSaid'. A law counts once. -/
mutual
def uptoBulk {H : Type} : DataW H → Nat
  | .lit (.string bytes) => bytes.length + 1
  | .lit _ => 1
  | .nil => 1
  | .ptr d => uptoBulk d + 1
  | .slice elems spare => uptoBulkAll elems + uptoBulkAll spare + 1
  | .agg parts => uptoBulkAll parts + 1
  | .iface _ d => uptoBulk d + 1
  | .map entries => uptoBulkEntries entries + 1
  | .held _ => 1
def uptoBulkAll {H : Type} : List (DataW H) → Nat
  | [] => 0
  | d :: r => uptoBulk d + uptoBulkAll r
def uptoBulkEntries {H : Type} : List (Lit × DataW H) → Nat
  | [] => 0
  | x :: r => uptoBulkEntry x + uptoBulkEntries r
def uptoBulkEntry {H : Type} : Lit × DataW H → Nat
  | (.string bytes, d) => bytes.length + uptoBulk d + 1
  | (_, d) => uptoBulk d + 1
 end
def uptoSmall : (H : Type) → List (DataW H) → Bool := fun _ ds => decide (uptoBulkAll ds ≤ 1048576)
def OpenSpec.upto (s : _root_.Go.ChangeSpec) : _root_.Go.OpenSpec := { _root_.Go.OpenSpec.ofChange s with cond := some uptoSmall }

/-- 'hornbooklaw08.StreamsPlays', WHERE WHAT IT READS IS OF BULK AT MOST 1048576: true; the input reads as it did. -/
def streamsPlaysUptoRow : OpenClaim := { program := "ytgeabmmicofanaagreatdoor", sum := "fcdb0d881e406c16470243cbd8216cce65e0df97469bc4317ff331a2ef3f79ba", func := "hornbook/hornbooklaw08.StreamsPlays", spec := "streamsPlays", inPlace := ["internal/abi.NoEscape", "internal/bytealg.MakeNoZero"], unfollowed := true, recurses := true, named := ["hornbook/api.FailSpent", "hornbook/api.FailNil", "hornbook/api.FailBroken", "hornbook/api.FailFull", "hornbook/api.FailNoRun", "hornbook/api.FailSealed", "hornbook/api.FailLimits", "hornbook/api.FailOpen", "hornbook/api.FailRange", "hornbook/api.FailTorn"], apart := false, laid := [("hornbook/api.FailNil", laid_hornbook_api_FailNil), ("hornbook/api.FailLimits", laid_hornbook_api_FailLimits), ("hornbook/api.FailNoRun", laid_hornbook_api_FailNoRun), ("hornbook/api.FailSealed", laid_hornbook_api_FailSealed), ("hornbook/api.FailOpen", laid_hornbook_api_FailOpen), ("hornbook/api.FailRange", laid_hornbook_api_FailRange), ("hornbook/api.FailFull", laid_hornbook_api_FailFull), ("hornbook/api.FailSpent", laid_hornbook_api_FailSpent), ("hornbook/api.FailBroken", laid_hornbook_api_FailBroken), ("hornbook/api.FailTorn", laid_hornbook_api_FailTorn)], narrowed := true }
def StreamsPlaysUptoSaid : Prop := streamsPlaysUptoRow.holds Tryz.pinned (OpenSpec.upto streamsPlaysSpec)

end Rows
end Go.Proofs.YtgeabmmicofanaaGreatDoor

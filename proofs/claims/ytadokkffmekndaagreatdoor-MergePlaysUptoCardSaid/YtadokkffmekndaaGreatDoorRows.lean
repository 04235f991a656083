/-
  NARROWER THAN 'FOR EVERY INPUT', by the rows' own cells (each row's printed sentence says how): MergeSame: laid · MergeAgain: laid · MergeRefuses: laid · MergeLost: laid · MergePlays: laid · MergeSorts: laid.
  DERIVED. THE GIVEN ROWS OF THIS SEAT. 6 by the template 'for every input the law returns true; each argument reads behind the call as it read before'; 0 by the template 'total and deterministic' (their statements: YtadokkffmekndaaGreatDoorTotals.lean).
  GIVEN WITH THE SEED: the statements are not yours to turn. If you find one false, say at which input.
  Laid BY PROGRAM, IN A SANDBOX (cutbox-rows.mjs): the forced cells as the released guide's own fill.sh prints them over the translation 960acc885b256e08… (all of the seat's roots in one cut). By AI agents, Wed Nov 11 2026. No macro, syntax, notation, axiom, sorry.
-/
import Derived.Test.YtadokkffmekndaaGreatDoorChecked
import GoSem.Claim
import GoSem.ClaimJoined
import GoSem.ClaimMapViews
import Derived.JoinedTies
import Derived.KernelRfl
namespace Go.Proofs.YtadokkffmekndaaGreatDoor
/- THE CELL 'sum', in the pinned program and in every row, IS THE sha256 OF THE DUMP (.gsa) THAT YtadokkffmekndaaGreatDoorProg.lean LOADS. Nothing in Lean hashes anything: it is a label: what it is worth is what the hold of that sum in a sandbox is worth. -/
noncomputable def Tryz.pinned : Pinned := { name := "ytadokkffmekndaagreatdoor", sum := "960acc885b256e08743666359b6a1c84c6b8d30dea82278f8d50205ccedab7a1", checked := Tryz.checked }
namespace Rows
def none {H : Type} : Left H := { results := [], args := [] }

/- WHAT THE LISTED PACKAGE-LEVEL VARIABLES READ AS WHEN THE CALL BEGINS. Each datum BY PROGRAM (the guide's laid-datum.mjs) off the statement by which the dump's own 'gosem.cut.vars' lays the variable. In a bare row this is a premise. The card (YtadokkffmekndaaGreatDoorCards.lean) ties it to the program's text. -/
def laid_hornbook_api_FailNil {H : Type} : DataW H := .iface "*errors.errorString" (.ptr (.agg [.lit (.string [110, 111, 32, 111, 98, 106, 101, 99, 116])]))
def laid_hornbook_api_FailLimits {H : Type} : DataW H := .iface "*errors.errorString" (.ptr (.agg [.lit (.string [97, 32, 110, 117, 109, 98, 101, 114, 32, 111, 117, 116, 32, 111, 102, 32, 105, 116, 115, 32, 114, 97, 110, 103, 101])]))
def laid_hornbook_api_FailNoRun {H : Type} : DataW H := .iface "*errors.errorString" (.ptr (.agg [.lit (.string [110, 111, 32, 115, 117, 99, 104, 32, 114, 117, 110])]))
def laid_hornbook_api_FailSealed {H : Type} : DataW H := .iface "*errors.errorString" (.ptr (.agg [.lit (.string [116, 104, 101, 32, 114, 117, 110, 32, 105, 115, 32, 115, 101, 97, 108, 101, 100])]))
def laid_hornbook_api_FailOpen {H : Type} : DataW H := .iface "*errors.errorString" (.ptr (.agg [.lit (.string [116, 104, 101, 32, 114, 117, 110, 32, 105, 115, 32, 110, 111, 116, 32, 115, 101, 97, 108, 101, 100])]))
def laid_hornbook_api_FailRange {H : Type} : DataW H := .iface "*errors.errorString" (.ptr (.agg [.lit (.string [110, 111, 32, 115, 117, 99, 104, 32, 112, 108, 97, 99, 101, 32, 105, 110, 32, 116, 104, 101, 32, 114, 117, 110])]))
def laid_hornbook_api_FailFull {H : Type} : DataW H := .iface "*errors.errorString" (.ptr (.agg [.lit (.string [116, 104, 101, 32, 115, 116, 111, 114, 101, 32, 105, 115, 32, 102, 117, 108, 108])]))
def laid_hornbook_api_FailSpent {H : Type} : DataW H := .iface "*errors.errorString" (.ptr (.agg [.lit (.string [110, 111, 32, 114, 117, 110, 32, 110, 117, 109, 98, 101, 114, 32, 105, 115, 32, 108, 101, 102, 116])]))
def laid_hornbook_api_FailBroken {H : Type} : DataW H := .iface "*errors.errorString" (.ptr (.agg [.lit (.string [116, 104, 101, 32, 115, 116, 111, 114, 101, 32, 114, 101, 102, 117, 115, 101, 100, 32, 97, 32, 115, 116, 101, 112])]))
def laid_hornbook_api_FailRecord {H : Type} : DataW H := .iface "*errors.errorString" (.ptr (.agg [.lit (.string [116, 104, 101, 32, 114, 101, 99, 111, 114, 100, 32, 105, 115, 32, 116, 111, 111, 32, 108, 111, 110, 103])]))
def laid_hornbook_api_FailTorn {H : Type} : DataW H := .iface "*errors.errorString" (.ptr (.agg [.lit (.string [116, 104, 101, 32, 114, 117, 110, 32, 105, 115, 32, 116, 111, 114, 110])]))
def laid_hornbook_api_FailSame {H : Type} : DataW H := .iface "*errors.errorString" (.ptr (.agg [.lit (.string [97, 32, 114, 117, 110, 32, 105, 115, 32, 110, 97, 109, 101, 100, 32, 116, 119, 105, 99, 101])]))
def laid_hornbook_api_FailClosed {H : Type} : DataW H := .iface "*errors.errorString" (.ptr (.agg [.lit (.string [99, 108, 111, 115, 101, 100])]))

/-- 'hornbooklaw10.MergeSame': WHATEVER THE INPUT: true; the input reads as it did. -/
def mergeSameSpec : ChangeSpec := { name := "mergeSame", fn := fun _ => fun
  | [d] => { results := [.lit (.bool true)], args := [d] }
  | _ => none }
def mergeSameRow : OpenClaim := { program := "ytadokkffmekndaagreatdoor", sum := "960acc885b256e08743666359b6a1c84c6b8d30dea82278f8d50205ccedab7a1", func := "hornbook/hornbooklaw10.MergeSame", spec := "mergeSame", inPlace := ["internal/abi.NoEscape", "internal/bytealg.MakeNoZero"], unfollowed := true, recurses := true, named := ["hornbook/api.FailLimits", "hornbook/api.FailNil", "hornbook/api.FailRecord", "hornbook/api.FailSpent", "hornbook/api.FailBroken", "hornbook/api.FailClosed", "hornbook/api.FailNoRun", "hornbook/api.FailFull", "hornbook/api.FailSealed", "hornbook/api.FailSame", "hornbook/api.FailOpen", "hornbook/api.FailRange", "hornbook/api.FailTorn"], apart := false, laid := [("hornbook/api.FailNil", laid_hornbook_api_FailNil), ("hornbook/api.FailLimits", laid_hornbook_api_FailLimits), ("hornbook/api.FailNoRun", laid_hornbook_api_FailNoRun), ("hornbook/api.FailSealed", laid_hornbook_api_FailSealed), ("hornbook/api.FailOpen", laid_hornbook_api_FailOpen), ("hornbook/api.FailRange", laid_hornbook_api_FailRange), ("hornbook/api.FailFull", laid_hornbook_api_FailFull), ("hornbook/api.FailSpent", laid_hornbook_api_FailSpent), ("hornbook/api.FailBroken", laid_hornbook_api_FailBroken), ("hornbook/api.FailRecord", laid_hornbook_api_FailRecord), ("hornbook/api.FailTorn", laid_hornbook_api_FailTorn), ("hornbook/api.FailSame", laid_hornbook_api_FailSame), ("hornbook/api.FailClosed", laid_hornbook_api_FailClosed)] }
def MergeSameSaid : Prop := mergeSameRow.holds Tryz.pinned (OpenSpec.ofChange mergeSameSpec)

/-- ITS FALSE NEIGHBOUR: 'it returns false'. Refute it at one input. -/
def mergeSameWrong : ChangeSpec := { name := "mergeSame", fn := fun _ => fun
  | [d] => { results := [.lit (.bool false)], args := [d] }
  | _ => none }
def MergeSameWrongFalsely : Prop := mergeSameRow.holds Tryz.pinned (OpenSpec.ofChange mergeSameWrong)

/-- 'hornbooklaw10.MergeAgain': WHATEVER THE INPUT: true; the input reads as it did. -/
def mergeAgainSpec : ChangeSpec := { name := "mergeAgain", fn := fun _ => fun
  | [d1, d2, d3] => { results := [.lit (.bool true)], args := [d1, d2, d3] }
  | _ => none }
def mergeAgainRow : OpenClaim := { program := "ytadokkffmekndaagreatdoor", sum := "960acc885b256e08743666359b6a1c84c6b8d30dea82278f8d50205ccedab7a1", func := "hornbook/hornbooklaw10.MergeAgain", spec := "mergeAgain", inPlace := ["internal/abi.NoEscape", "internal/bytealg.MakeNoZero"], unfollowed := true, recurses := true, named := ["hornbook/api.FailLimits", "hornbook/api.FailNil", "hornbook/api.FailRecord", "hornbook/api.FailSpent", "hornbook/api.FailBroken", "hornbook/api.FailClosed", "hornbook/api.FailNoRun", "hornbook/api.FailFull", "hornbook/api.FailSealed", "hornbook/api.FailSame", "hornbook/api.FailOpen", "hornbook/api.FailRange", "hornbook/api.FailTorn"], apart := false, laid := [("hornbook/api.FailNil", laid_hornbook_api_FailNil), ("hornbook/api.FailLimits", laid_hornbook_api_FailLimits), ("hornbook/api.FailNoRun", laid_hornbook_api_FailNoRun), ("hornbook/api.FailSealed", laid_hornbook_api_FailSealed), ("hornbook/api.FailOpen", laid_hornbook_api_FailOpen), ("hornbook/api.FailRange", laid_hornbook_api_FailRange), ("hornbook/api.FailFull", laid_hornbook_api_FailFull), ("hornbook/api.FailSpent", laid_hornbook_api_FailSpent), ("hornbook/api.FailBroken", laid_hornbook_api_FailBroken), ("hornbook/api.FailRecord", laid_hornbook_api_FailRecord), ("hornbook/api.FailTorn", laid_hornbook_api_FailTorn), ("hornbook/api.FailSame", laid_hornbook_api_FailSame), ("hornbook/api.FailClosed", laid_hornbook_api_FailClosed)] }
def MergeAgainSaid : Prop := mergeAgainRow.holds Tryz.pinned (OpenSpec.ofChange mergeAgainSpec)

/-- ITS FALSE NEIGHBOUR: 'it returns false'. Refute it at one input. -/
def mergeAgainWrong : ChangeSpec := { name := "mergeAgain", fn := fun _ => fun
  | [d1, d2, d3] => { results := [.lit (.bool false)], args := [d1, d2, d3] }
  | _ => none }
def MergeAgainWrongFalsely : Prop := mergeAgainRow.holds Tryz.pinned (OpenSpec.ofChange mergeAgainWrong)

/-- 'hornbooklaw10.MergeRefuses': WHATEVER THE INPUT: true; the input reads as it did. -/
def mergeRefusesSpec : ChangeSpec := { name := "mergeRefuses", fn := fun _ => fun
  | [d1, d2, d3] => { results := [.lit (.bool true)], args := [d1, d2, d3] }
  | _ => none }
def mergeRefusesRow : OpenClaim := { program := "ytadokkffmekndaagreatdoor", sum := "960acc885b256e08743666359b6a1c84c6b8d30dea82278f8d50205ccedab7a1", func := "hornbook/hornbooklaw10.MergeRefuses", spec := "mergeRefuses", inPlace := ["internal/abi.NoEscape", "internal/bytealg.MakeNoZero"], unfollowed := true, recurses := true, named := ["hornbook/api.FailNil", "hornbook/api.FailLimits", "hornbook/api.FailSame", "hornbook/api.FailOpen", "hornbook/api.FailNoRun", "hornbook/api.FailRange", "hornbook/api.FailSpent", "hornbook/api.FailBroken", "hornbook/api.FailClosed", "hornbook/api.FailTorn", "hornbook/api.FailRecord", "hornbook/api.FailFull", "hornbook/api.FailSealed"], apart := false, laid := [("hornbook/api.FailNil", laid_hornbook_api_FailNil), ("hornbook/api.FailLimits", laid_hornbook_api_FailLimits), ("hornbook/api.FailNoRun", laid_hornbook_api_FailNoRun), ("hornbook/api.FailSealed", laid_hornbook_api_FailSealed), ("hornbook/api.FailOpen", laid_hornbook_api_FailOpen), ("hornbook/api.FailRange", laid_hornbook_api_FailRange), ("hornbook/api.FailFull", laid_hornbook_api_FailFull), ("hornbook/api.FailSpent", laid_hornbook_api_FailSpent), ("hornbook/api.FailBroken", laid_hornbook_api_FailBroken), ("hornbook/api.FailRecord", laid_hornbook_api_FailRecord), ("hornbook/api.FailTorn", laid_hornbook_api_FailTorn), ("hornbook/api.FailSame", laid_hornbook_api_FailSame), ("hornbook/api.FailClosed", laid_hornbook_api_FailClosed)] }
def MergeRefusesSaid : Prop := mergeRefusesRow.holds Tryz.pinned (OpenSpec.ofChange mergeRefusesSpec)

/-- ITS FALSE NEIGHBOUR: 'it returns false'. Refute it at one input. -/
def mergeRefusesWrong : ChangeSpec := { name := "mergeRefuses", fn := fun _ => fun
  | [d1, d2, d3] => { results := [.lit (.bool false)], args := [d1, d2, d3] }
  | _ => none }
def MergeRefusesWrongFalsely : Prop := mergeRefusesRow.holds Tryz.pinned (OpenSpec.ofChange mergeRefusesWrong)

/-- 'hornbooklaw10.MergeLost': WHATEVER THE INPUT: true; the input reads as it did. -/
def mergeLostSpec : ChangeSpec := { name := "mergeLost", fn := fun _ => fun
  | [d] => { results := [.lit (.bool true)], args := [d] }
  | _ => none }
def mergeLostRow : OpenClaim := { program := "ytadokkffmekndaagreatdoor", sum := "960acc885b256e08743666359b6a1c84c6b8d30dea82278f8d50205ccedab7a1", func := "hornbook/hornbooklaw10.MergeLost", spec := "mergeLost", inPlace := ["internal/abi.NoEscape", "internal/bytealg.MakeNoZero"], unfollowed := true, recurses := true, named := ["hornbook/api.FailLimits", "hornbook/api.FailNil", "hornbook/api.FailRecord", "hornbook/api.FailSpent", "hornbook/api.FailBroken", "hornbook/api.FailClosed", "hornbook/api.FailNoRun", "hornbook/api.FailFull", "hornbook/api.FailSealed", "hornbook/api.FailSame", "hornbook/api.FailOpen", "hornbook/api.FailRange", "hornbook/api.FailTorn"], apart := false, laid := [("hornbook/api.FailNil", laid_hornbook_api_FailNil), ("hornbook/api.FailLimits", laid_hornbook_api_FailLimits), ("hornbook/api.FailNoRun", laid_hornbook_api_FailNoRun), ("hornbook/api.FailSealed", laid_hornbook_api_FailSealed), ("hornbook/api.FailOpen", laid_hornbook_api_FailOpen), ("hornbook/api.FailRange", laid_hornbook_api_FailRange), ("hornbook/api.FailFull", laid_hornbook_api_FailFull), ("hornbook/api.FailSpent", laid_hornbook_api_FailSpent), ("hornbook/api.FailBroken", laid_hornbook_api_FailBroken), ("hornbook/api.FailRecord", laid_hornbook_api_FailRecord), ("hornbook/api.FailTorn", laid_hornbook_api_FailTorn), ("hornbook/api.FailSame", laid_hornbook_api_FailSame), ("hornbook/api.FailClosed", laid_hornbook_api_FailClosed)] }
def MergeLostSaid : Prop := mergeLostRow.holds Tryz.pinned (OpenSpec.ofChange mergeLostSpec)

/-- ITS FALSE NEIGHBOUR: 'it returns false'. Refute it at one input. -/
def mergeLostWrong : ChangeSpec := { name := "mergeLost", fn := fun _ => fun
  | [d] => { results := [.lit (.bool false)], args := [d] }
  | _ => none }
def MergeLostWrongFalsely : Prop := mergeLostRow.holds Tryz.pinned (OpenSpec.ofChange mergeLostWrong)

/-- 'hornbooklaw10.MergePlays': WHATEVER THE INPUT: true; the input reads as it did. -/
def mergePlaysSpec : ChangeSpec := { name := "mergePlays", fn := fun _ => fun
  | [d1, d2] => { results := [.lit (.bool true)], args := [d1, d2] }
  | _ => none }
def mergePlaysRow : OpenClaim := { program := "ytadokkffmekndaagreatdoor", sum := "960acc885b256e08743666359b6a1c84c6b8d30dea82278f8d50205ccedab7a1", func := "hornbook/hornbooklaw10.MergePlays", spec := "mergePlays", inPlace := ["internal/abi.NoEscape", "internal/bytealg.MakeNoZero"], unfollowed := true, recurses := true, named := ["hornbook/api.FailLimits", "hornbook/api.FailNil", "hornbook/api.FailRecord", "hornbook/api.FailSpent", "hornbook/api.FailBroken", "hornbook/api.FailClosed", "hornbook/api.FailNoRun", "hornbook/api.FailFull", "hornbook/api.FailSealed", "hornbook/api.FailSame", "hornbook/api.FailOpen", "hornbook/api.FailRange", "hornbook/api.FailTorn"], apart := false, laid := [("hornbook/api.FailNil", laid_hornbook_api_FailNil), ("hornbook/api.FailLimits", laid_hornbook_api_FailLimits), ("hornbook/api.FailNoRun", laid_hornbook_api_FailNoRun), ("hornbook/api.FailSealed", laid_hornbook_api_FailSealed), ("hornbook/api.FailOpen", laid_hornbook_api_FailOpen), ("hornbook/api.FailRange", laid_hornbook_api_FailRange), ("hornbook/api.FailFull", laid_hornbook_api_FailFull), ("hornbook/api.FailSpent", laid_hornbook_api_FailSpent), ("hornbook/api.FailBroken", laid_hornbook_api_FailBroken), ("hornbook/api.FailRecord", laid_hornbook_api_FailRecord), ("hornbook/api.FailTorn", laid_hornbook_api_FailTorn), ("hornbook/api.FailSame", laid_hornbook_api_FailSame), ("hornbook/api.FailClosed", laid_hornbook_api_FailClosed)] }
def MergePlaysSaid : Prop := mergePlaysRow.holds Tryz.pinned (OpenSpec.ofChange mergePlaysSpec)

/-- ITS FALSE NEIGHBOUR: 'it returns false'. Refute it at one input. -/
def mergePlaysWrong : ChangeSpec := { name := "mergePlays", fn := fun _ => fun
  | [d1, d2] => { results := [.lit (.bool false)], args := [d1, d2] }
  | _ => none }
def MergePlaysWrongFalsely : Prop := mergePlaysRow.holds Tryz.pinned (OpenSpec.ofChange mergePlaysWrong)

/-- 'hornbooklaw10.MergeSorts': WHATEVER THE INPUT: true; the input reads as it did. -/
def mergeSortsSpec : ChangeSpec := { name := "mergeSorts", fn := fun _ => fun
  | [d1, d2, d3] => { results := [.lit (.bool true)], args := [d1, d2, d3] }
  | _ => none }
def mergeSortsRow : OpenClaim := { program := "ytadokkffmekndaagreatdoor", sum := "960acc885b256e08743666359b6a1c84c6b8d30dea82278f8d50205ccedab7a1", func := "hornbook/hornbooklaw10.MergeSorts", spec := "mergeSorts", inPlace := ["internal/abi.NoEscape", "internal/bytealg.MakeNoZero"], unfollowed := true, recurses := true, named := ["hornbook/api.FailLimits", "hornbook/api.FailNil", "hornbook/api.FailRecord", "hornbook/api.FailSpent", "hornbook/api.FailBroken", "hornbook/api.FailClosed", "hornbook/api.FailNoRun", "hornbook/api.FailFull", "hornbook/api.FailSealed", "hornbook/api.FailSame", "hornbook/api.FailOpen", "hornbook/api.FailRange", "hornbook/api.FailTorn"], apart := false, laid := [("hornbook/api.FailNil", laid_hornbook_api_FailNil), ("hornbook/api.FailLimits", laid_hornbook_api_FailLimits), ("hornbook/api.FailNoRun", laid_hornbook_api_FailNoRun), ("hornbook/api.FailSealed", laid_hornbook_api_FailSealed), ("hornbook/api.FailOpen", laid_hornbook_api_FailOpen), ("hornbook/api.FailRange", laid_hornbook_api_FailRange), ("hornbook/api.FailFull", laid_hornbook_api_FailFull), ("hornbook/api.FailSpent", laid_hornbook_api_FailSpent), ("hornbook/api.FailBroken", laid_hornbook_api_FailBroken), ("hornbook/api.FailRecord", laid_hornbook_api_FailRecord), ("hornbook/api.FailTorn", laid_hornbook_api_FailTorn), ("hornbook/api.FailSame", laid_hornbook_api_FailSame), ("hornbook/api.FailClosed", laid_hornbook_api_FailClosed)] }
def MergeSortsSaid : Prop := mergeSortsRow.holds Tryz.pinned (OpenSpec.ofChange mergeSortsSpec)

/-- ITS FALSE NEIGHBOUR: 'it returns false'. Refute it at one input. -/
def mergeSortsWrong : ChangeSpec := { name := "mergeSorts", fn := fun _ => fun
  | [d1, d2, d3] => { results := [.lit (.bool false)], args := [d1, d2, d3] }
  | _ => none }
def MergeSortsWrongFalsely : Prop := mergeSortsRow.holds Tryz.pinned (OpenSpec.ofChange mergeSortsWrong)

/- THE SECOND FORM. 'bulk': how many values and letters a reading holds, each counted each time it is reached (what is shared counts as often as it is met; a slice's spare places count too). A statement '..UptoSaid' is the law's where the arguments, and the package variables that the reading takes, are together of bulk at most 1048576: NARROWER than '..Said'. Prove '..Said' where nothing that the law and all that it calls make is longer than what came in: it says more and counts as full. Else prove '..UptoSaid'. A law counts once. -/
mutual
def uptoBulk {H : Type} : DataW H → Nat
  | .lit (.string bytes) => bytes.length + 1
  | .lit _ => 1
  | .nil => 1
  | .ptr d => uptoBulk d + 1
  | .slice elems spare => uptoBulkAll elems + uptoBulkAll spare + 1
  | .agg parts => uptoBulkAll parts + 1
  | .iface _ d => uptoBulk d + 1
  | .map entries => uptoBulkEntries entries + 1
  | .held _ => 1
def uptoBulkAll {H : Type} : List (DataW H) → Nat
  | [] => 0
  | d :: r => uptoBulk d + uptoBulkAll r
def uptoBulkEntries {H : Type} : List (Lit × DataW H) → Nat
  | [] => 0
  | x :: r => uptoBulkEntry x + uptoBulkEntries r
def uptoBulkEntry {H : Type} : Lit × DataW H → Nat
  | (.string bytes, d) => bytes.length + uptoBulk d + 1
  | (_, d) => uptoBulk d + 1
 end
def uptoSmall : (H : Type) → List (DataW H) → Bool := fun _ ds => decide (uptoBulkAll ds ≤ 1048576)
def OpenSpec.upto (s : _root_.Go.ChangeSpec) : _root_.Go.OpenSpec := { _root_.Go.OpenSpec.ofChange s with cond := some uptoSmall }

/-- 'hornbooklaw10.MergeSame', WHERE WHAT IT READS IS OF BULK AT MOST 1048576: true; the input reads as it did. -/
def mergeSameUptoRow : OpenClaim := { program := "ytadokkffmekndaagreatdoor", sum := "960acc885b256e08743666359b6a1c84c6b8d30dea82278f8d50205ccedab7a1", func := "hornbook/hornbooklaw10.MergeSame", spec := "mergeSame", inPlace := ["internal/abi.NoEscape", "internal/bytealg.MakeNoZero"], unfollowed := true, recurses := true, named := ["hornbook/api.FailLimits", "hornbook/api.FailNil", "hornbook/api.FailRecord", "hornbook/api.FailSpent", "hornbook/api.FailBroken", "hornbook/api.FailClosed", "hornbook/api.FailNoRun", "hornbook/api.FailFull", "hornbook/api.FailSealed", "hornbook/api.FailSame", "hornbook/api.FailOpen", "hornbook/api.FailRange", "hornbook/api.FailTorn"], apart := false, laid := [("hornbook/api.FailNil", laid_hornbook_api_FailNil), ("hornbook/api.FailLimits", laid_hornbook_api_FailLimits), ("hornbook/api.FailNoRun", laid_hornbook_api_FailNoRun), ("hornbook/api.FailSealed", laid_hornbook_api_FailSealed), ("hornbook/api.FailOpen", laid_hornbook_api_FailOpen), ("hornbook/api.FailRange", laid_hornbook_api_FailRange), ("hornbook/api.FailFull", laid_hornbook_api_FailFull), ("hornbook/api.FailSpent", laid_hornbook_api_FailSpent), ("hornbook/api.FailBroken", laid_hornbook_api_FailBroken), ("hornbook/api.FailRecord", laid_hornbook_api_FailRecord), ("hornbook/api.FailTorn", laid_hornbook_api_FailTorn), ("hornbook/api.FailSame", laid_hornbook_api_FailSame), ("hornbook/api.FailClosed", laid_hornbook_api_FailClosed)], narrowed := true }
def MergeSameUptoSaid : Prop := mergeSameUptoRow.holds Tryz.pinned (OpenSpec.upto mergeSameSpec)

/-- 'hornbooklaw10.MergeAgain', WHERE WHAT IT READS IS OF BULK AT MOST 1048576: true; the input reads as it did. -/
def mergeAgainUptoRow : OpenClaim := { program := "ytadokkffmekndaagreatdoor", sum := "960acc885b256e08743666359b6a1c84c6b8d30dea82278f8d50205ccedab7a1", func := "hornbook/hornbooklaw10.MergeAgain", spec := "mergeAgain", inPlace := ["internal/abi.NoEscape", "internal/bytealg.MakeNoZero"], unfollowed := true, recurses := true, named := ["hornbook/api.FailLimits", "hornbook/api.FailNil", "hornbook/api.FailRecord", "hornbook/api.FailSpent", "hornbook/api.FailBroken", "hornbook/api.FailClosed", "hornbook/api.FailNoRun", "hornbook/api.FailFull", "hornbook/api.FailSealed", "hornbook/api.FailSame", "hornbook/api.FailOpen", "hornbook/api.FailRange", "hornbook/api.FailTorn"], apart := false, laid := [("hornbook/api.FailNil", laid_hornbook_api_FailNil), ("hornbook/api.FailLimits", laid_hornbook_api_FailLimits), ("hornbook/api.FailNoRun", laid_hornbook_api_FailNoRun), ("hornbook/api.FailSealed", laid_hornbook_api_FailSealed), ("hornbook/api.FailOpen", laid_hornbook_api_FailOpen), ("hornbook/api.FailRange", laid_hornbook_api_FailRange), ("hornbook/api.FailFull", laid_hornbook_api_FailFull), ("hornbook/api.FailSpent", laid_hornbook_api_FailSpent), ("hornbook/api.FailBroken", laid_hornbook_api_FailBroken), ("hornbook/api.FailRecord", laid_hornbook_api_FailRecord), ("hornbook/api.FailTorn", laid_hornbook_api_FailTorn), ("hornbook/api.FailSame", laid_hornbook_api_FailSame), ("hornbook/api.FailClosed", laid_hornbook_api_FailClosed)], narrowed := true }
def MergeAgainUptoSaid : Prop := mergeAgainUptoRow.holds Tryz.pinned (OpenSpec.upto mergeAgainSpec)

/-- 'hornbooklaw10.MergeRefuses', WHERE WHAT IT READS IS OF BULK AT MOST 1048576: true; the input reads as it did. -/
def mergeRefusesUptoRow : OpenClaim := { program := "ytadokkffmekndaagreatdoor", sum := "960acc885b256e08743666359b6a1c84c6b8d30dea82278f8d50205ccedab7a1", func := "hornbook/hornbooklaw10.MergeRefuses", spec := "mergeRefuses", inPlace := ["internal/abi.NoEscape", "internal/bytealg.MakeNoZero"], unfollowed := true, recurses := true, named := ["hornbook/api.FailNil", "hornbook/api.FailLimits", "hornbook/api.FailSame", "hornbook/api.FailOpen", "hornbook/api.FailNoRun", "hornbook/api.FailRange", "hornbook/api.FailSpent", "hornbook/api.FailBroken", "hornbook/api.FailClosed", "hornbook/api.FailTorn", "hornbook/api.FailRecord", "hornbook/api.FailFull", "hornbook/api.FailSealed"], apart := false, laid := [("hornbook/api.FailNil", laid_hornbook_api_FailNil), ("hornbook/api.FailLimits", laid_hornbook_api_FailLimits), ("hornbook/api.FailNoRun", laid_hornbook_api_FailNoRun), ("hornbook/api.FailSealed", laid_hornbook_api_FailSealed), ("hornbook/api.FailOpen", laid_hornbook_api_FailOpen), ("hornbook/api.FailRange", laid_hornbook_api_FailRange), ("hornbook/api.FailFull", laid_hornbook_api_FailFull), ("hornbook/api.FailSpent", laid_hornbook_api_FailSpent), ("hornbook/api.FailBroken", laid_hornbook_api_FailBroken), ("hornbook/api.FailRecord", laid_hornbook_api_FailRecord), ("hornbook/api.FailTorn", laid_hornbook_api_FailTorn), ("hornbook/api.FailSame", laid_hornbook_api_FailSame), ("hornbook/api.FailClosed", laid_hornbook_api_FailClosed)], narrowed := true }
def MergeRefusesUptoSaid : Prop := mergeRefusesUptoRow.holds Tryz.pinned (OpenSpec.upto mergeRefusesSpec)

/-- 'hornbooklaw10.MergeLost', WHERE WHAT IT READS IS OF BULK AT MOST 1048576: true; the input reads as it did. -/
def mergeLostUptoRow : OpenClaim := { program := "ytadokkffmekndaagreatdoor", sum := "960acc885b256e08743666359b6a1c84c6b8d30dea82278f8d50205ccedab7a1", func := "hornbook/hornbooklaw10.MergeLost", spec := "mergeLost", inPlace := ["internal/abi.NoEscape", "internal/bytealg.MakeNoZero"], unfollowed := true, recurses := true, named := ["hornbook/api.FailLimits", "hornbook/api.FailNil", "hornbook/api.FailRecord", "hornbook/api.FailSpent", "hornbook/api.FailBroken", "hornbook/api.FailClosed", "hornbook/api.FailNoRun", "hornbook/api.FailFull", "hornbook/api.FailSealed", "hornbook/api.FailSame", "hornbook/api.FailOpen", "hornbook/api.FailRange", "hornbook/api.FailTorn"], apart := false, laid := [("hornbook/api.FailNil", laid_hornbook_api_FailNil), ("hornbook/api.FailLimits", laid_hornbook_api_FailLimits), ("hornbook/api.FailNoRun", laid_hornbook_api_FailNoRun), ("hornbook/api.FailSealed", laid_hornbook_api_FailSealed), ("hornbook/api.FailOpen", laid_hornbook_api_FailOpen), ("hornbook/api.FailRange", laid_hornbook_api_FailRange), ("hornbook/api.FailFull", laid_hornbook_api_FailFull), ("hornbook/api.FailSpent", laid_hornbook_api_FailSpent), ("hornbook/api.FailBroken", laid_hornbook_api_FailBroken), ("hornbook/api.FailRecord", laid_hornbook_api_FailRecord), ("hornbook/api.FailTorn", laid_hornbook_api_FailTorn), ("hornbook/api.FailSame", laid_hornbook_api_FailSame), ("hornbook/api.FailClosed", laid_hornbook_api_FailClosed)], narrowed := true }
def MergeLostUptoSaid : Prop := mergeLostUptoRow.holds Tryz.pinned (OpenSpec.upto mergeLostSpec)

/-- 'hornbooklaw10.MergePlays', WHERE WHAT IT READS IS OF BULK AT MOST 1048576: true; the input reads as it did. -/
def mergePlaysUptoRow : OpenClaim := { program := "ytadokkffmekndaagreatdoor", sum := "960acc885b256e08743666359b6a1c84c6b8d30dea82278f8d50205ccedab7a1", func := "hornbook/hornbooklaw10.MergePlays", spec := "mergePlays", inPlace := ["internal/abi.NoEscape", "internal/bytealg.MakeNoZero"], unfollowed := true, recurses := true, named := ["hornbook/api.FailLimits", "hornbook/api.FailNil", "hornbook/api.FailRecord", "hornbook/api.FailSpent", "hornbook/api.FailBroken", "hornbook/api.FailClosed", "hornbook/api.FailNoRun", "hornbook/api.FailFull", "hornbook/api.FailSealed", "hornbook/api.FailSame", "hornbook/api.FailOpen", "hornbook/api.FailRange", "hornbook/api.FailTorn"], apart := false, laid := [("hornbook/api.FailNil", laid_hornbook_api_FailNil), ("hornbook/api.FailLimits", laid_hornbook_api_FailLimits), ("hornbook/api.FailNoRun", laid_hornbook_api_FailNoRun), ("hornbook/api.FailSealed", laid_hornbook_api_FailSealed), ("hornbook/api.FailOpen", laid_hornbook_api_FailOpen), ("hornbook/api.FailRange", laid_hornbook_api_FailRange), ("hornbook/api.FailFull", laid_hornbook_api_FailFull), ("hornbook/api.FailSpent", laid_hornbook_api_FailSpent), ("hornbook/api.FailBroken", laid_hornbook_api_FailBroken), ("hornbook/api.FailRecord", laid_hornbook_api_FailRecord), ("hornbook/api.FailTorn", laid_hornbook_api_FailTorn), ("hornbook/api.FailSame", laid_hornbook_api_FailSame), ("hornbook/api.FailClosed", laid_hornbook_api_FailClosed)], narrowed := true }
def MergePlaysUptoSaid : Prop := mergePlaysUptoRow.holds Tryz.pinned (OpenSpec.upto mergePlaysSpec)

/-- 'hornbooklaw10.MergeSorts', WHERE WHAT IT READS IS OF BULK AT MOST 1048576: true; the input reads as it did. -/
def mergeSortsUptoRow : OpenClaim := { program := "ytadokkffmekndaagreatdoor", sum := "960acc885b256e08743666359b6a1c84c6b8d30dea82278f8d50205ccedab7a1", func := "hornbook/hornbooklaw10.MergeSorts", spec := "mergeSorts", inPlace := ["internal/abi.NoEscape", "internal/bytealg.MakeNoZero"], unfollowed := true, recurses := true, named := ["hornbook/api.FailLimits", "hornbook/api.FailNil", "hornbook/api.FailRecord", "hornbook/api.FailSpent", "hornbook/api.FailBroken", "hornbook/api.FailClosed", "hornbook/api.FailNoRun", "hornbook/api.FailFull", "hornbook/api.FailSealed", "hornbook/api.FailSame", "hornbook/api.FailOpen", "hornbook/api.FailRange", "hornbook/api.FailTorn"], apart := false, laid := [("hornbook/api.FailNil", laid_hornbook_api_FailNil), ("hornbook/api.FailLimits", laid_hornbook_api_FailLimits), ("hornbook/api.FailNoRun", laid_hornbook_api_FailNoRun), ("hornbook/api.FailSealed", laid_hornbook_api_FailSealed), ("hornbook/api.FailOpen", laid_hornbook_api_FailOpen), ("hornbook/api.FailRange", laid_hornbook_api_FailRange), ("hornbook/api.FailFull", laid_hornbook_api_FailFull), ("hornbook/api.FailSpent", laid_hornbook_api_FailSpent), ("hornbook/api.FailBroken", laid_hornbook_api_FailBroken), ("hornbook/api.FailRecord", laid_hornbook_api_FailRecord), ("hornbook/api.FailTorn", laid_hornbook_api_FailTorn), ("hornbook/api.FailSame", laid_hornbook_api_FailSame), ("hornbook/api.FailClosed", laid_hornbook_api_FailClosed)], narrowed := true }
def MergeSortsUptoSaid : Prop := mergeSortsUptoRow.holds Tryz.pinned (OpenSpec.upto mergeSortsSpec)

end Rows
end Go.Proofs.YtadokkffmekndaaGreatDoor

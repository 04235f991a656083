/-
  No cell of these rows narrows 'for every input' (looked for: loops, veiled, ifaces, maps, wideKeys, modest, calm, conditions, laid).
  DERIVED. THE GIVEN ROWS OF THIS SEAT. 5 by the template 'for every input the law returns true; each argument reads behind the call as it read before'; 0 by the template 'total and deterministic' (their statements: YtcbdncjknpdnbaaTotals.lean).
  GIVEN WITH THE SEED: the statements are not yours to turn. If you find one false, say at which input.
  Laid BY PROGRAM, IN A SANDBOX (cutbox-rows.mjs): the forced cells as the released guide's own fill.sh prints them over the translation 6eb2f435a7c040d6… (all of the seat's roots in one cut). By AI agents, Wed Nov 11 2026. No macro, syntax, notation, axiom, sorry.
-/
import Derived.Test.YtcbdncjknpdnbaaChecked
import GoSem.Claim
import GoSem.ClaimJoined
import GoSem.ClaimMapViews
import Derived.JoinedTies
import Derived.KernelRfl
namespace Go.Proofs.Ytcbdncjknpdnbaa
/- THE CELL 'sum', in the pinned program and in every row, IS THE sha256 OF THE DUMP (.gsa) THAT YtcbdncjknpdnbaaProg.lean LOADS. Nothing in Lean hashes anything: it is a label: what it is worth is what the hold of that sum in a sandbox is worth. -/
noncomputable def Try.pinned : Pinned := { name := "ytcbdncjknpdnbaa", sum := "6eb2f435a7c040d692bd65d8e253f121ff7b376eb417e650e120f145f548a25a", checked := Try.checked }
namespace Rows
def none {H : Type} : Left H := { results := [], args := [] }

/-- 'hornbooklaw27.DeltaDiffs': WHATEVER THE INPUT: true; the input reads as it did. -/
def deltaDiffsSpec : ChangeSpec := { name := "deltaDiffs", fn := fun _ => fun
  | [d1, d2] => { results := [.lit (.bool true)], args := [d1, d2] }
  | _ => none }
def deltaDiffsRow : OpenClaim := { program := "ytcbdncjknpdnbaa", sum := "6eb2f435a7c040d692bd65d8e253f121ff7b376eb417e650e120f145f548a25a", func := "hornbook/hornbooklaw27.DeltaDiffs", spec := "deltaDiffs", inPlace := ["internal/abi.NoEscape"], unfollowed := true, recurses := true, plainKeys := false, apart := false }
def DeltaDiffsSaid : Prop := deltaDiffsRow.holds Try.pinned (OpenSpec.ofChange deltaDiffsSpec)

/-- ITS FALSE NEIGHBOUR: 'it returns false'. Refute it at one input. -/
def deltaDiffsWrong : ChangeSpec := { name := "deltaDiffs", fn := fun _ => fun
  | [d1, d2] => { results := [.lit (.bool false)], args := [d1, d2] }
  | _ => none }
def DeltaDiffsWrongFalsely : Prop := deltaDiffsRow.holds Try.pinned (OpenSpec.ofChange deltaDiffsWrong)

/-- 'hornbooklaw27.DeltaTurns': WHATEVER THE INPUT: true; the input reads as it did. -/
def deltaTurnsSpec : ChangeSpec := { name := "deltaTurns", fn := fun _ => fun
  | [d] => { results := [.lit (.bool true)], args := [d] }
  | _ => none }
def deltaTurnsRow : OpenClaim := { program := "ytcbdncjknpdnbaa", sum := "6eb2f435a7c040d692bd65d8e253f121ff7b376eb417e650e120f145f548a25a", func := "hornbook/hornbooklaw27.DeltaTurns", spec := "deltaTurns", inPlace := ["internal/abi.NoEscape"], unfollowed := true, recurses := true, plainKeys := false, apart := false }
def DeltaTurnsSaid : Prop := deltaTurnsRow.holds Try.pinned (OpenSpec.ofChange deltaTurnsSpec)

/-- ITS FALSE NEIGHBOUR: 'it returns false'. Refute it at one input. -/
def deltaTurnsWrong : ChangeSpec := { name := "deltaTurns", fn := fun _ => fun
  | [d] => { results := [.lit (.bool false)], args := [d] }
  | _ => none }
def DeltaTurnsWrongFalsely : Prop := deltaTurnsRow.holds Try.pinned (OpenSpec.ofChange deltaTurnsWrong)

/-- 'hornbooklaw27.DeltaNone': WHATEVER THE INPUT: true; the input reads as it did. -/
def deltaNoneSpec : ChangeSpec := { name := "deltaNone", fn := fun _ => fun
  | [d1, d2] => { results := [.lit (.bool true)], args := [d1, d2] }
  | _ => none }
def deltaNoneRow : OpenClaim := { program := "ytcbdncjknpdnbaa", sum := "6eb2f435a7c040d692bd65d8e253f121ff7b376eb417e650e120f145f548a25a", func := "hornbook/hornbooklaw27.DeltaNone", spec := "deltaNone", inPlace := ["internal/abi.NoEscape"], unfollowed := true, recurses := true, plainKeys := false, apart := false }
def DeltaNoneSaid : Prop := deltaNoneRow.holds Try.pinned (OpenSpec.ofChange deltaNoneSpec)

/-- ITS FALSE NEIGHBOUR: 'it returns false'. Refute it at one input. -/
def deltaNoneWrong : ChangeSpec := { name := "deltaNone", fn := fun _ => fun
  | [d1, d2] => { results := [.lit (.bool false)], args := [d1, d2] }
  | _ => none }
def DeltaNoneWrongFalsely : Prop := deltaNoneRow.holds Try.pinned (OpenSpec.ofChange deltaNoneWrong)

/-- 'hornbooklaw27.DeltaPatches': WHATEVER THE INPUT: true; the input reads as it did. -/
def deltaPatchesSpec : ChangeSpec := { name := "deltaPatches", fn := fun _ => fun
  | [d1, d2] => { results := [.lit (.bool true)], args := [d1, d2] }
  | _ => none }
def deltaPatchesRow : OpenClaim := { program := "ytcbdncjknpdnbaa", sum := "6eb2f435a7c040d692bd65d8e253f121ff7b376eb417e650e120f145f548a25a", func := "hornbook/hornbooklaw27.DeltaPatches", spec := "deltaPatches", inPlace := ["internal/abi.NoEscape"], unfollowed := true, recurses := true, plainKeys := false, apart := false }
def DeltaPatchesSaid : Prop := deltaPatchesRow.holds Try.pinned (OpenSpec.ofChange deltaPatchesSpec)

/-- ITS FALSE NEIGHBOUR: 'it returns false'. Refute it at one input. -/
def deltaPatchesWrong : ChangeSpec := { name := "deltaPatches", fn := fun _ => fun
  | [d1, d2] => { results := [.lit (.bool false)], args := [d1, d2] }
  | _ => none }
def DeltaPatchesWrongFalsely : Prop := deltaPatchesRow.holds Try.pinned (OpenSpec.ofChange deltaPatchesWrong)

/-- 'hornbooklaw27.DeltaBack': WHATEVER THE INPUT: true; the input reads as it did. -/
def deltaBackSpec : ChangeSpec := { name := "deltaBack", fn := fun _ => fun
  | [d1, d2] => { results := [.lit (.bool true)], args := [d1, d2] }
  | _ => none }
def deltaBackRow : OpenClaim := { program := "ytcbdncjknpdnbaa", sum := "6eb2f435a7c040d692bd65d8e253f121ff7b376eb417e650e120f145f548a25a", func := "hornbook/hornbooklaw27.DeltaBack", spec := "deltaBack", inPlace := ["internal/abi.NoEscape"], unfollowed := true, recurses := true, plainKeys := false, apart := false }
def DeltaBackSaid : Prop := deltaBackRow.holds Try.pinned (OpenSpec.ofChange deltaBackSpec)

/-- ITS FALSE NEIGHBOUR: 'it returns false'. Refute it at one input. -/
def deltaBackWrong : ChangeSpec := { name := "deltaBack", fn := fun _ => fun
  | [d1, d2] => { results := [.lit (.bool false)], args := [d1, d2] }
  | _ => none }
def DeltaBackWrongFalsely : Prop := deltaBackRow.holds Try.pinned (OpenSpec.ofChange deltaBackWrong)

/- THE SECOND FORM. 'bulk': how many values and letters a reading holds, each counted each time it is reached (what is shared counts as often as it is met; a slice's spare places count too). A statement '..UptoSaid' is the law's where the arguments, and the package variables that the reading takes, are together of bulk at most 1048576: NARROWER than '..Said'. Prove '..Said' where nothing that the law and all that it calls make is longer than what came in: it says more and counts as full. Else prove '..UptoSaid'. A law counts once. -/
mutual
def uptoBulk {H : Type} : DataW H → Nat
  | .lit (.string bytes) => bytes.length + 1
  | .lit _ => 1
  | .nil => 1
  | .ptr d => uptoBulk d + 1
  | .slice elems spare => uptoBulkAll elems + uptoBulkAll spare + 1
  | .agg parts => uptoBulkAll parts + 1
  | .iface _ d => uptoBulk d + 1
  | .map entries => uptoBulkEntries entries + 1
  | .held _ => 1
def uptoBulkAll {H : Type} : List (DataW H) → Nat
  | [] => 0
  | d :: r => uptoBulk d + uptoBulkAll r
def uptoBulkEntries {H : Type} : List (Lit × DataW H) → Nat
  | [] => 0
  | x :: r => uptoBulkEntry x + uptoBulkEntries r
def uptoBulkEntry {H : Type} : Lit × DataW H → Nat
  | (.string bytes, d) => bytes.length + uptoBulk d + 1
  | (_, d) => uptoBulk d + 1
 end
def uptoSmall : (H : Type) → List (DataW H) → Bool := fun _ ds => decide (uptoBulkAll ds ≤ 1048576)
def OpenSpec.upto (s : _root_.Go.ChangeSpec) : _root_.Go.OpenSpec := { _root_.Go.OpenSpec.ofChange s with cond := some uptoSmall }

/-- 'hornbooklaw27.DeltaDiffs', WHERE WHAT IT READS IS OF BULK AT MOST 1048576: true; the input reads as it did. -/
def deltaDiffsUptoRow : OpenClaim := { program := "ytcbdncjknpdnbaa", sum := "6eb2f435a7c040d692bd65d8e253f121ff7b376eb417e650e120f145f548a25a", func := "hornbook/hornbooklaw27.DeltaDiffs", spec := "deltaDiffs", inPlace := ["internal/abi.NoEscape"], unfollowed := true, recurses := true, plainKeys := false, apart := false, narrowed := true }
def DeltaDiffsUptoSaid : Prop := deltaDiffsUptoRow.holds Try.pinned (OpenSpec.upto deltaDiffsSpec)

/-- 'hornbooklaw27.DeltaTurns', WHERE WHAT IT READS IS OF BULK AT MOST 1048576: true; the input reads as it did. -/
def deltaTurnsUptoRow : OpenClaim := { program := "ytcbdncjknpdnbaa", sum := "6eb2f435a7c040d692bd65d8e253f121ff7b376eb417e650e120f145f548a25a", func := "hornbook/hornbooklaw27.DeltaTurns", spec := "deltaTurns", inPlace := ["internal/abi.NoEscape"], unfollowed := true, recurses := true, plainKeys := false, apart := false, narrowed := true }
def DeltaTurnsUptoSaid : Prop := deltaTurnsUptoRow.holds Try.pinned (OpenSpec.upto deltaTurnsSpec)

/-- 'hornbooklaw27.DeltaNone', WHERE WHAT IT READS IS OF BULK AT MOST 1048576: true; the input reads as it did. -/
def deltaNoneUptoRow : OpenClaim := { program := "ytcbdncjknpdnbaa", sum := "6eb2f435a7c040d692bd65d8e253f121ff7b376eb417e650e120f145f548a25a", func := "hornbook/hornbooklaw27.DeltaNone", spec := "deltaNone", inPlace := ["internal/abi.NoEscape"], unfollowed := true, recurses := true, plainKeys := false, apart := false, narrowed := true }
def DeltaNoneUptoSaid : Prop := deltaNoneUptoRow.holds Try.pinned (OpenSpec.upto deltaNoneSpec)

/-- 'hornbooklaw27.DeltaPatches', WHERE WHAT IT READS IS OF BULK AT MOST 1048576: true; the input reads as it did. -/
def deltaPatchesUptoRow : OpenClaim := { program := "ytcbdncjknpdnbaa", sum := "6eb2f435a7c040d692bd65d8e253f121ff7b376eb417e650e120f145f548a25a", func := "hornbook/hornbooklaw27.DeltaPatches", spec := "deltaPatches", inPlace := ["internal/abi.NoEscape"], unfollowed := true, recurses := true, plainKeys := false, apart := false, narrowed := true }
def DeltaPatchesUptoSaid : Prop := deltaPatchesUptoRow.holds Try.pinned (OpenSpec.upto deltaPatchesSpec)

/-- 'hornbooklaw27.DeltaBack', WHERE WHAT IT READS IS OF BULK AT MOST 1048576: true; the input reads as it did. -/
def deltaBackUptoRow : OpenClaim := { program := "ytcbdncjknpdnbaa", sum := "6eb2f435a7c040d692bd65d8e253f121ff7b376eb417e650e120f145f548a25a", func := "hornbook/hornbooklaw27.DeltaBack", spec := "deltaBack", inPlace := ["internal/abi.NoEscape"], unfollowed := true, recurses := true, plainKeys := false, apart := false, narrowed := true }
def DeltaBackUptoSaid : Prop := deltaBackUptoRow.holds Try.pinned (OpenSpec.upto deltaBackSpec)

end Rows
end Go.Proofs.Ytcbdncjknpdnbaa

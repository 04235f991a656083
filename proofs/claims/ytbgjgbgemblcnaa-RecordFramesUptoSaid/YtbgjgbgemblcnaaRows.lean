/-
  No cell of these rows narrows 'for every input' (looked for: loops, veiled, ifaces, maps, wideKeys, modest, calm, conditions, laid).
  DERIVED. THE GIVEN ROWS OF THIS SEAT. 6 by the template 'for every input the law returns true; each argument reads behind the call as it read before'; 0 by the template 'total and deterministic' (their statements: YtbgjgbgemblcnaaTotals.lean).
  GIVEN WITH THE SEED: the statements are not yours to turn. If you find one false, say at which input.
  Laid BY PROGRAM, IN A SANDBOX (cutbox-rows.mjs): the forced cells as the released guide's own fill.sh prints them over the translation 2db45194e8eced7b… (all of the seat's roots in one cut). By AI agents, Wed Nov 11 2026. No macro, syntax, notation, axiom, sorry.
-/
import Derived.Test.YtbgjgbgemblcnaaChecked
import GoSem.Claim
import GoSem.ClaimJoined
import GoSem.ClaimMapViews
import Derived.JoinedTies
import Derived.KernelRfl
namespace Go.Proofs.Ytbgjgbgemblcnaa
/- THE CELL 'sum', in the pinned program and in every row, IS THE sha256 OF THE DUMP (.gsa) THAT YtbgjgbgemblcnaaProg.lean LOADS. Nothing in Lean hashes anything: it is a label: what it is worth is what the hold of that sum in a sandbox is worth. -/
noncomputable def Try.pinned : Pinned := { name := "ytbgjgbgemblcnaa", sum := "2db45194e8eced7b3aaf0ae0bfb85344d79540118e783e808a650c33e2bb2996", checked := Try.checked }
namespace Rows
def none {H : Type} : Left H := { results := [], args := [] }

/-- 'hornbooklaw06.RecordNumbers': WHATEVER THE INPUT: true; the input reads as it did. -/
def recordNumbersSpec : ChangeSpec := { name := "recordNumbers", fn := fun _ => fun
  | [d] => { results := [.lit (.bool true)], args := [d] }
  | _ => none }
def recordNumbersRow : OpenClaim := { program := "ytbgjgbgemblcnaa", sum := "2db45194e8eced7b3aaf0ae0bfb85344d79540118e783e808a650c33e2bb2996", func := "hornbook/hornbooklaw06.RecordNumbers", spec := "recordNumbers", inPlace := ["internal/abi.NoEscape"], recurses := true, apart := false }
def RecordNumbersSaid : Prop := recordNumbersRow.holds Try.pinned (OpenSpec.ofChange recordNumbersSpec)

/-- ITS FALSE NEIGHBOUR: 'it returns false'. Refute it at one input. -/
def recordNumbersWrong : ChangeSpec := { name := "recordNumbers", fn := fun _ => fun
  | [d] => { results := [.lit (.bool false)], args := [d] }
  | _ => none }
def RecordNumbersWrongFalsely : Prop := recordNumbersRow.holds Try.pinned (OpenSpec.ofChange recordNumbersWrong)

/-- 'hornbooklaw06.RecordFrames': WHATEVER THE INPUT: true; the input reads as it did. -/
def recordFramesSpec : ChangeSpec := { name := "recordFrames", fn := fun _ => fun
  | [d] => { results := [.lit (.bool true)], args := [d] }
  | _ => none }
def recordFramesRow : OpenClaim := { program := "ytbgjgbgemblcnaa", sum := "2db45194e8eced7b3aaf0ae0bfb85344d79540118e783e808a650c33e2bb2996", func := "hornbook/hornbooklaw06.RecordFrames", spec := "recordFrames", inPlace := ["internal/abi.NoEscape"], recurses := true, apart := false }
def RecordFramesSaid : Prop := recordFramesRow.holds Try.pinned (OpenSpec.ofChange recordFramesSpec)

/-- ITS FALSE NEIGHBOUR: 'it returns false'. Refute it at one input. -/
def recordFramesWrong : ChangeSpec := { name := "recordFrames", fn := fun _ => fun
  | [d] => { results := [.lit (.bool false)], args := [d] }
  | _ => none }
def RecordFramesWrongFalsely : Prop := recordFramesRow.holds Try.pinned (OpenSpec.ofChange recordFramesWrong)

/-- 'hornbooklaw06.RecordNumbersRead': WHATEVER THE INPUT: true; the input reads as it did. -/
def recordNumbersReadSpec : ChangeSpec := { name := "recordNumbersRead", fn := fun _ => fun
  | [d1, d2] => { results := [.lit (.bool true)], args := [d1, d2] }
  | _ => none }
def recordNumbersReadRow : OpenClaim := { program := "ytbgjgbgemblcnaa", sum := "2db45194e8eced7b3aaf0ae0bfb85344d79540118e783e808a650c33e2bb2996", func := "hornbook/hornbooklaw06.RecordNumbersRead", spec := "recordNumbersRead", inPlace := ["internal/abi.NoEscape"], apart := false }
def RecordNumbersReadSaid : Prop := recordNumbersReadRow.holds Try.pinned (OpenSpec.ofChange recordNumbersReadSpec)

/-- ITS FALSE NEIGHBOUR: 'it returns false'. Refute it at one input. -/
def recordNumbersReadWrong : ChangeSpec := { name := "recordNumbersRead", fn := fun _ => fun
  | [d1, d2] => { results := [.lit (.bool false)], args := [d1, d2] }
  | _ => none }
def RecordNumbersReadWrongFalsely : Prop := recordNumbersReadRow.holds Try.pinned (OpenSpec.ofChange recordNumbersReadWrong)

/-- 'hornbooklaw06.RecordOneForm': WHATEVER THE INPUT: true; the input reads as it did. -/
def recordOneFormSpec : ChangeSpec := { name := "recordOneForm", fn := fun _ => fun
  | [d1, d2, d3] => { results := [.lit (.bool true)], args := [d1, d2, d3] }
  | _ => none }
def recordOneFormRow : OpenClaim := { program := "ytbgjgbgemblcnaa", sum := "2db45194e8eced7b3aaf0ae0bfb85344d79540118e783e808a650c33e2bb2996", func := "hornbook/hornbooklaw06.RecordOneForm", spec := "recordOneForm", inPlace := ["internal/abi.NoEscape"], apart := false }
def RecordOneFormSaid : Prop := recordOneFormRow.holds Try.pinned (OpenSpec.ofChange recordOneFormSpec)

/-- ITS FALSE NEIGHBOUR: 'it returns false'. Refute it at one input. -/
def recordOneFormWrong : ChangeSpec := { name := "recordOneForm", fn := fun _ => fun
  | [d1, d2, d3] => { results := [.lit (.bool false)], args := [d1, d2, d3] }
  | _ => none }
def RecordOneFormWrongFalsely : Prop := recordOneFormRow.holds Try.pinned (OpenSpec.ofChange recordOneFormWrong)

/-- 'hornbooklaw06.RecordUnframes': WHATEVER THE INPUT: true; the input reads as it did. -/
def recordUnframesSpec : ChangeSpec := { name := "recordUnframes", fn := fun _ => fun
  | [d] => { results := [.lit (.bool true)], args := [d] }
  | _ => none }
def recordUnframesRow : OpenClaim := { program := "ytbgjgbgemblcnaa", sum := "2db45194e8eced7b3aaf0ae0bfb85344d79540118e783e808a650c33e2bb2996", func := "hornbook/hornbooklaw06.RecordUnframes", spec := "recordUnframes", inPlace := ["internal/abi.NoEscape"], apart := false }
def RecordUnframesSaid : Prop := recordUnframesRow.holds Try.pinned (OpenSpec.ofChange recordUnframesSpec)

/-- ITS FALSE NEIGHBOUR: 'it returns false'. Refute it at one input. -/
def recordUnframesWrong : ChangeSpec := { name := "recordUnframes", fn := fun _ => fun
  | [d] => { results := [.lit (.bool false)], args := [d] }
  | _ => none }
def RecordUnframesWrongFalsely : Prop := recordUnframesRow.holds Try.pinned (OpenSpec.ofChange recordUnframesWrong)

/-- 'hornbooklaw06.RecordBack': WHATEVER THE INPUT: true; the input reads as it did. -/
def recordBackSpec : ChangeSpec := { name := "recordBack", fn := fun _ => fun
  | [d1, d2] => { results := [.lit (.bool true)], args := [d1, d2] }
  | _ => none }
def recordBackRow : OpenClaim := { program := "ytbgjgbgemblcnaa", sum := "2db45194e8eced7b3aaf0ae0bfb85344d79540118e783e808a650c33e2bb2996", func := "hornbook/hornbooklaw06.RecordBack", spec := "recordBack", inPlace := ["internal/abi.NoEscape"], apart := false }
def RecordBackSaid : Prop := recordBackRow.holds Try.pinned (OpenSpec.ofChange recordBackSpec)

/-- ITS FALSE NEIGHBOUR: 'it returns false'. Refute it at one input. -/
def recordBackWrong : ChangeSpec := { name := "recordBack", fn := fun _ => fun
  | [d1, d2] => { results := [.lit (.bool false)], args := [d1, d2] }
  | _ => none }
def RecordBackWrongFalsely : Prop := recordBackRow.holds Try.pinned (OpenSpec.ofChange recordBackWrong)

/- THE SECOND FORM. 'bulk': how many values and letters a reading holds, each counted each time it is reached (what is shared counts as often as it is met; a slice's spare places count too). A statement '..UptoSaid' is the law's where the arguments, and the package variables that the reading takes, are together of bulk at most 1048576: NARROWER than '..Said'. Prove '..Said' where nothing that the law and all that it calls make is longer than what came in: it says more and counts as full. Else prove '..UptoSaid'. A law counts once. -/
mutual
def uptoBulk {H : Type} : DataW H → Nat
  | .lit (.string bytes) => bytes.length + 1
  | .lit _ => 1
  | .nil => 1
  | .ptr d => uptoBulk d + 1
  | .slice elems spare => uptoBulkAll elems + uptoBulkAll spare + 1
  | .agg parts => uptoBulkAll parts + 1
  | .iface _ d => uptoBulk d + 1
  | .map entries => uptoBulkEntries entries + 1
  | .held _ => 1
def uptoBulkAll {H : Type} : List (DataW H) → Nat
  | [] => 0
  | d :: r => uptoBulk d + uptoBulkAll r
def uptoBulkEntries {H : Type} : List (Lit × DataW H) → Nat
  | [] => 0
  | x :: r => uptoBulkEntry x + uptoBulkEntries r
def uptoBulkEntry {H : Type} : Lit × DataW H → Nat
  | (.string bytes, d) => bytes.length + uptoBulk d + 1
  | (_, d) => uptoBulk d + 1
 end
def uptoSmall : (H : Type) → List (DataW H) → Bool := fun _ ds => decide (uptoBulkAll ds ≤ 1048576)
def OpenSpec.upto (s : _root_.Go.ChangeSpec) : _root_.Go.OpenSpec := { _root_.Go.OpenSpec.ofChange s with cond := some uptoSmall }

/-- 'hornbooklaw06.RecordNumbers', WHERE WHAT IT READS IS OF BULK AT MOST 1048576: true; the input reads as it did. -/
def recordNumbersUptoRow : OpenClaim := { program := "ytbgjgbgemblcnaa", sum := "2db45194e8eced7b3aaf0ae0bfb85344d79540118e783e808a650c33e2bb2996", func := "hornbook/hornbooklaw06.RecordNumbers", spec := "recordNumbers", inPlace := ["internal/abi.NoEscape"], recurses := true, apart := false, narrowed := true }
def RecordNumbersUptoSaid : Prop := recordNumbersUptoRow.holds Try.pinned (OpenSpec.upto recordNumbersSpec)

/-- 'hornbooklaw06.RecordFrames', WHERE WHAT IT READS IS OF BULK AT MOST 1048576: true; the input reads as it did. -/
def recordFramesUptoRow : OpenClaim := { program := "ytbgjgbgemblcnaa", sum := "2db45194e8eced7b3aaf0ae0bfb85344d79540118e783e808a650c33e2bb2996", func := "hornbook/hornbooklaw06.RecordFrames", spec := "recordFrames", inPlace := ["internal/abi.NoEscape"], recurses := true, apart := false, narrowed := true }
def RecordFramesUptoSaid : Prop := recordFramesUptoRow.holds Try.pinned (OpenSpec.upto recordFramesSpec)

/-- 'hornbooklaw06.RecordNumbersRead', WHERE WHAT IT READS IS OF BULK AT MOST 1048576: true; the input reads as it did. -/
def recordNumbersReadUptoRow : OpenClaim := { program := "ytbgjgbgemblcnaa", sum := "2db45194e8eced7b3aaf0ae0bfb85344d79540118e783e808a650c33e2bb2996", func := "hornbook/hornbooklaw06.RecordNumbersRead", spec := "recordNumbersRead", inPlace := ["internal/abi.NoEscape"], apart := false, narrowed := true }
def RecordNumbersReadUptoSaid : Prop := recordNumbersReadUptoRow.holds Try.pinned (OpenSpec.upto recordNumbersReadSpec)

/-- 'hornbooklaw06.RecordOneForm', WHERE WHAT IT READS IS OF BULK AT MOST 1048576: true; the input reads as it did. -/
def recordOneFormUptoRow : OpenClaim := { program := "ytbgjgbgemblcnaa", sum := "2db45194e8eced7b3aaf0ae0bfb85344d79540118e783e808a650c33e2bb2996", func := "hornbook/hornbooklaw06.RecordOneForm", spec := "recordOneForm", inPlace := ["internal/abi.NoEscape"], apart := false, narrowed := true }
def RecordOneFormUptoSaid : Prop := recordOneFormUptoRow.holds Try.pinned (OpenSpec.upto recordOneFormSpec)

/-- 'hornbooklaw06.RecordUnframes', WHERE WHAT IT READS IS OF BULK AT MOST 1048576: true; the input reads as it did. -/
def recordUnframesUptoRow : OpenClaim := { program := "ytbgjgbgemblcnaa", sum := "2db45194e8eced7b3aaf0ae0bfb85344d79540118e783e808a650c33e2bb2996", func := "hornbook/hornbooklaw06.RecordUnframes", spec := "recordUnframes", inPlace := ["internal/abi.NoEscape"], apart := false, narrowed := true }
def RecordUnframesUptoSaid : Prop := recordUnframesUptoRow.holds Try.pinned (OpenSpec.upto recordUnframesSpec)

/-- 'hornbooklaw06.RecordBack', WHERE WHAT IT READS IS OF BULK AT MOST 1048576: true; the input reads as it did. -/
def recordBackUptoRow : OpenClaim := { program := "ytbgjgbgemblcnaa", sum := "2db45194e8eced7b3aaf0ae0bfb85344d79540118e783e808a650c33e2bb2996", func := "hornbook/hornbooklaw06.RecordBack", spec := "recordBack", inPlace := ["internal/abi.NoEscape"], apart := false, narrowed := true }
def RecordBackUptoSaid : Prop := recordBackUptoRow.holds Try.pinned (OpenSpec.upto recordBackSpec)

end Rows
end Go.Proofs.Ytbgjgbgemblcnaa

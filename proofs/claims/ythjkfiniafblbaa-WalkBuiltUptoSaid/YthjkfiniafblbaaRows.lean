/-
  No cell of these rows narrows 'for every input' (looked for: loops, veiled, ifaces, maps, wideKeys, modest, calm, conditions, laid).
  DERIVED. THE GIVEN ROWS OF THIS SEAT. 11 by the template 'for every input the law returns true; each argument reads behind the call as it read before'; 0 by the template 'total and deterministic' (their statements: YthjkfiniafblbaaTotals.lean).
  GIVEN WITH THE SEED: the statements are not yours to turn. If you find one false, say at which input.
  Laid BY PROGRAM, IN A SANDBOX (cutbox-rows.mjs): the forced cells as the released guide's own fill.sh prints them over the translation 3b0751d867676ff8… (all of the seat's roots in one cut). By AI agents, Wed Nov 11 2026. No macro, syntax, notation, axiom, sorry.
-/
import Derived.Test.YthjkfiniafblbaaChecked
import GoSem.Claim
import GoSem.ClaimJoined
import GoSem.ClaimMapViews
import Derived.JoinedTies
import Derived.KernelRfl
namespace Go.Proofs.Ythjkfiniafblbaa
/- THE CELL 'sum', in the pinned program and in every row, IS THE sha256 OF THE DUMP (.gsa) THAT YthjkfiniafblbaaProg.lean LOADS. Nothing in Lean hashes anything: it is a label: what it is worth is what the hold of that sum in a sandbox is worth. -/
noncomputable def Try.pinned : Pinned := { name := "ythjkfiniafblbaa", sum := "3b0751d867676ff805f9b6f3fc55b051c5582b64a606d488ffcf301ed78e0e92", checked := Try.checked }
namespace Rows
def none {H : Type} : Left H := { results := [], args := [] }

/-- 'hornbooklaw19.WalkNths': WHATEVER THE INPUT: true; the input reads as it did. -/
def walkNthsSpec : ChangeSpec := { name := "walkNths", fn := fun _ => fun
  | [d1, d2] => { results := [.lit (.bool true)], args := [d1, d2] }
  | _ => none }
def walkNthsRow : OpenClaim := { program := "ythjkfiniafblbaa", sum := "3b0751d867676ff805f9b6f3fc55b051c5582b64a606d488ffcf301ed78e0e92", func := "hornbook/hornbooklaw19.WalkNths", spec := "walkNths", inPlace := ["internal/abi.NoEscape"], unfollowed := true, recurses := true, plainKeys := false, apart := false }
def WalkNthsSaid : Prop := walkNthsRow.holds Try.pinned (OpenSpec.ofChange walkNthsSpec)

/-- ITS FALSE NEIGHBOUR: 'it returns false'. Refute it at one input. -/
def walkNthsWrong : ChangeSpec := { name := "walkNths", fn := fun _ => fun
  | [d1, d2] => { results := [.lit (.bool false)], args := [d1, d2] }
  | _ => none }
def WalkNthsWrongFalsely : Prop := walkNthsRow.holds Try.pinned (OpenSpec.ofChange walkNthsWrong)

/-- 'hornbooklaw19.WalkRanks': WHATEVER THE INPUT: true; the input reads as it did. -/
def walkRanksSpec : ChangeSpec := { name := "walkRanks", fn := fun _ => fun
  | [d1, d2] => { results := [.lit (.bool true)], args := [d1, d2] }
  | _ => none }
def walkRanksRow : OpenClaim := { program := "ythjkfiniafblbaa", sum := "3b0751d867676ff805f9b6f3fc55b051c5582b64a606d488ffcf301ed78e0e92", func := "hornbook/hornbooklaw19.WalkRanks", spec := "walkRanks", inPlace := ["internal/abi.NoEscape"], unfollowed := true, recurses := true, plainKeys := false, apart := false }
def WalkRanksSaid : Prop := walkRanksRow.holds Try.pinned (OpenSpec.ofChange walkRanksSpec)

/-- ITS FALSE NEIGHBOUR: 'it returns false'. Refute it at one input. -/
def walkRanksWrong : ChangeSpec := { name := "walkRanks", fn := fun _ => fun
  | [d1, d2] => { results := [.lit (.bool false)], args := [d1, d2] }
  | _ => none }
def WalkRanksWrongFalsely : Prop := walkRanksRow.holds Try.pinned (OpenSpec.ofChange walkRanksWrong)

/-- 'hornbooklaw19.WalkSame': WHATEVER THE INPUT: true; the input reads as it did. -/
def walkSameSpec : ChangeSpec := { name := "walkSame", fn := fun _ => fun
  | [d1, d2] => { results := [.lit (.bool true)], args := [d1, d2] }
  | _ => none }
def walkSameRow : OpenClaim := { program := "ythjkfiniafblbaa", sum := "3b0751d867676ff805f9b6f3fc55b051c5582b64a606d488ffcf301ed78e0e92", func := "hornbook/hornbooklaw19.WalkSame", spec := "walkSame", inPlace := ["internal/abi.NoEscape"], unfollowed := true, recurses := true, plainKeys := false, apart := false }
def WalkSameSaid : Prop := walkSameRow.holds Try.pinned (OpenSpec.ofChange walkSameSpec)

/-- ITS FALSE NEIGHBOUR: 'it returns false'. Refute it at one input. -/
def walkSameWrong : ChangeSpec := { name := "walkSame", fn := fun _ => fun
  | [d1, d2] => { results := [.lit (.bool false)], args := [d1, d2] }
  | _ => none }
def WalkSameWrongFalsely : Prop := walkSameRow.holds Try.pinned (OpenSpec.ofChange walkSameWrong)

/-- 'hornbooklaw19.WalkLists': WHATEVER THE INPUT: true; the input reads as it did. -/
def walkListsSpec : ChangeSpec := { name := "walkLists", fn := fun _ => fun
  | [d1, d2, d3] => { results := [.lit (.bool true)], args := [d1, d2, d3] }
  | _ => none }
def walkListsRow : OpenClaim := { program := "ythjkfiniafblbaa", sum := "3b0751d867676ff805f9b6f3fc55b051c5582b64a606d488ffcf301ed78e0e92", func := "hornbook/hornbooklaw19.WalkLists", spec := "walkLists", inPlace := ["internal/abi.NoEscape"], unfollowed := true, recurses := true, plainKeys := false, apart := false }
def WalkListsSaid : Prop := walkListsRow.holds Try.pinned (OpenSpec.ofChange walkListsSpec)

/-- ITS FALSE NEIGHBOUR: 'it returns false'. Refute it at one input. -/
def walkListsWrong : ChangeSpec := { name := "walkLists", fn := fun _ => fun
  | [d1, d2, d3] => { results := [.lit (.bool false)], args := [d1, d2, d3] }
  | _ => none }
def WalkListsWrongFalsely : Prop := walkListsRow.holds Try.pinned (OpenSpec.ofChange walkListsWrong)

/-- 'hornbooklaw19.WalkAccepts': WHATEVER THE INPUT: true; the input reads as it did. -/
def walkAcceptsSpec : ChangeSpec := { name := "walkAccepts", fn := fun _ => fun
  | [d1, d2] => { results := [.lit (.bool true)], args := [d1, d2] }
  | _ => none }
def walkAcceptsRow : OpenClaim := { program := "ythjkfiniafblbaa", sum := "3b0751d867676ff805f9b6f3fc55b051c5582b64a606d488ffcf301ed78e0e92", func := "hornbook/hornbooklaw19.WalkAccepts", spec := "walkAccepts", inPlace := ["internal/abi.NoEscape"], unfollowed := true, recurses := true, plainKeys := false, apart := false }
def WalkAcceptsSaid : Prop := walkAcceptsRow.holds Try.pinned (OpenSpec.ofChange walkAcceptsSpec)

/-- ITS FALSE NEIGHBOUR: 'it returns false'. Refute it at one input. -/
def walkAcceptsWrong : ChangeSpec := { name := "walkAccepts", fn := fun _ => fun
  | [d1, d2] => { results := [.lit (.bool false)], args := [d1, d2] }
  | _ => none }
def WalkAcceptsWrongFalsely : Prop := walkAcceptsRow.holds Try.pinned (OpenSpec.ofChange walkAcceptsWrong)

/-- 'hornbooklaw19.WalkLeast': WHATEVER THE INPUT: true; the input reads as it did. -/
def walkLeastSpec : ChangeSpec := { name := "walkLeast", fn := fun _ => fun
  | [d] => { results := [.lit (.bool true)], args := [d] }
  | _ => none }
def walkLeastRow : OpenClaim := { program := "ythjkfiniafblbaa", sum := "3b0751d867676ff805f9b6f3fc55b051c5582b64a606d488ffcf301ed78e0e92", func := "hornbook/hornbooklaw19.WalkLeast", spec := "walkLeast", inPlace := ["internal/abi.NoEscape"], unfollowed := true, recurses := true, plainKeys := false, apart := false }
def WalkLeastSaid : Prop := walkLeastRow.holds Try.pinned (OpenSpec.ofChange walkLeastSpec)

/-- ITS FALSE NEIGHBOUR: 'it returns false'. Refute it at one input. -/
def walkLeastWrong : ChangeSpec := { name := "walkLeast", fn := fun _ => fun
  | [d] => { results := [.lit (.bool false)], args := [d] }
  | _ => none }
def WalkLeastWrongFalsely : Prop := walkLeastRow.holds Try.pinned (OpenSpec.ofChange walkLeastWrong)

/-- 'hornbooklaw19.WalkPerfect': WHATEVER THE INPUT: true; the input reads as it did. -/
def walkPerfectSpec : ChangeSpec := { name := "walkPerfect", fn := fun _ => fun
  | [d1, d2, d3] => { results := [.lit (.bool true)], args := [d1, d2, d3] }
  | _ => none }
def walkPerfectRow : OpenClaim := { program := "ythjkfiniafblbaa", sum := "3b0751d867676ff805f9b6f3fc55b051c5582b64a606d488ffcf301ed78e0e92", func := "hornbook/hornbooklaw19.WalkPerfect", spec := "walkPerfect", inPlace := ["internal/abi.NoEscape"], unfollowed := true, recurses := true, plainKeys := false, apart := false }
def WalkPerfectSaid : Prop := walkPerfectRow.holds Try.pinned (OpenSpec.ofChange walkPerfectSpec)

/-- ITS FALSE NEIGHBOUR: 'it returns false'. Refute it at one input. -/
def walkPerfectWrong : ChangeSpec := { name := "walkPerfect", fn := fun _ => fun
  | [d1, d2, d3] => { results := [.lit (.bool false)], args := [d1, d2, d3] }
  | _ => none }
def WalkPerfectWrongFalsely : Prop := walkPerfectRow.holds Try.pinned (OpenSpec.ofChange walkPerfectWrong)

/-- 'hornbooklaw19.WalkFolds': WHATEVER THE INPUT: true; the input reads as it did. -/
def walkFoldsSpec : ChangeSpec := { name := "walkFolds", fn := fun _ => fun
  | [d1, d2] => { results := [.lit (.bool true)], args := [d1, d2] }
  | _ => none }
def walkFoldsRow : OpenClaim := { program := "ythjkfiniafblbaa", sum := "3b0751d867676ff805f9b6f3fc55b051c5582b64a606d488ffcf301ed78e0e92", func := "hornbook/hornbooklaw19.WalkFolds", spec := "walkFolds", inPlace := ["internal/abi.NoEscape"], unfollowed := true, recurses := true, plainKeys := false, apart := false }
def WalkFoldsSaid : Prop := walkFoldsRow.holds Try.pinned (OpenSpec.ofChange walkFoldsSpec)

/-- ITS FALSE NEIGHBOUR: 'it returns false'. Refute it at one input. -/
def walkFoldsWrong : ChangeSpec := { name := "walkFolds", fn := fun _ => fun
  | [d1, d2] => { results := [.lit (.bool false)], args := [d1, d2] }
  | _ => none }
def WalkFoldsWrongFalsely : Prop := walkFoldsRow.holds Try.pinned (OpenSpec.ofChange walkFoldsWrong)

/-- 'hornbooklaw19.WalkBuilt': WHATEVER THE INPUT: true; the input reads as it did. -/
def walkBuiltSpec : ChangeSpec := { name := "walkBuilt", fn := fun _ => fun
  | [d] => { results := [.lit (.bool true)], args := [d] }
  | _ => none }
def walkBuiltRow : OpenClaim := { program := "ythjkfiniafblbaa", sum := "3b0751d867676ff805f9b6f3fc55b051c5582b64a606d488ffcf301ed78e0e92", func := "hornbook/hornbooklaw19.WalkBuilt", spec := "walkBuilt", inPlace := ["internal/abi.NoEscape"], unfollowed := true, recurses := true, plainKeys := false, apart := false }
def WalkBuiltSaid : Prop := walkBuiltRow.holds Try.pinned (OpenSpec.ofChange walkBuiltSpec)

/-- ITS FALSE NEIGHBOUR: 'it returns false'. Refute it at one input. -/
def walkBuiltWrong : ChangeSpec := { name := "walkBuilt", fn := fun _ => fun
  | [d] => { results := [.lit (.bool false)], args := [d] }
  | _ => none }
def WalkBuiltWrongFalsely : Prop := walkBuiltRow.holds Try.pinned (OpenSpec.ofChange walkBuiltWrong)

/-- 'hornbooklaw19.WalkOrder': WHATEVER THE INPUT: true; the input reads as it did. -/
def walkOrderSpec : ChangeSpec := { name := "walkOrder", fn := fun _ => fun
  | [d1, d2, d3] => { results := [.lit (.bool true)], args := [d1, d2, d3] }
  | _ => none }
def walkOrderRow : OpenClaim := { program := "ythjkfiniafblbaa", sum := "3b0751d867676ff805f9b6f3fc55b051c5582b64a606d488ffcf301ed78e0e92", func := "hornbook/hornbooklaw19.WalkOrder", spec := "walkOrder", inPlace := ["internal/abi.NoEscape"], unfollowed := true, recurses := true, plainKeys := false, apart := false }
def WalkOrderSaid : Prop := walkOrderRow.holds Try.pinned (OpenSpec.ofChange walkOrderSpec)

/-- ITS FALSE NEIGHBOUR: 'it returns false'. Refute it at one input. -/
def walkOrderWrong : ChangeSpec := { name := "walkOrder", fn := fun _ => fun
  | [d1, d2, d3] => { results := [.lit (.bool false)], args := [d1, d2, d3] }
  | _ => none }
def WalkOrderWrongFalsely : Prop := walkOrderRow.holds Try.pinned (OpenSpec.ofChange walkOrderWrong)

/-- 'hornbooklaw19.WalkShapes': WHATEVER THE INPUT: true; the input reads as it did. -/
def walkShapesSpec : ChangeSpec := { name := "walkShapes", fn := fun _ => fun
  | [d1, d2, d3] => { results := [.lit (.bool true)], args := [d1, d2, d3] }
  | _ => none }
def walkShapesRow : OpenClaim := { program := "ythjkfiniafblbaa", sum := "3b0751d867676ff805f9b6f3fc55b051c5582b64a606d488ffcf301ed78e0e92", func := "hornbook/hornbooklaw19.WalkShapes", spec := "walkShapes", inPlace := ["internal/abi.NoEscape"], unfollowed := true, recurses := true, plainKeys := false, apart := false }
def WalkShapesSaid : Prop := walkShapesRow.holds Try.pinned (OpenSpec.ofChange walkShapesSpec)

/-- ITS FALSE NEIGHBOUR: 'it returns false'. Refute it at one input. -/
def walkShapesWrong : ChangeSpec := { name := "walkShapes", fn := fun _ => fun
  | [d1, d2, d3] => { results := [.lit (.bool false)], args := [d1, d2, d3] }
  | _ => none }
def WalkShapesWrongFalsely : Prop := walkShapesRow.holds Try.pinned (OpenSpec.ofChange walkShapesWrong)

/- THE SECOND FORM. 'bulk': how many values and letters a reading holds, each counted each time it is reached (what is shared counts as often as it is met; a slice's spare places count too). A statement '..UptoSaid' is the law's where the arguments, and the package variables that the reading takes, are together of bulk at most 1048576: NARROWER than '..Said'. Prove '..Said' where nothing that the law and all that it calls make is longer than what came in: it says more and counts as full. Else prove '..UptoSaid'. A law counts once. -/
mutual
def uptoBulk {H : Type} : DataW H → Nat
  | .lit (.string bytes) => bytes.length + 1
  | .lit _ => 1
  | .nil => 1
  | .ptr d => uptoBulk d + 1
  | .slice elems spare => uptoBulkAll elems + uptoBulkAll spare + 1
  | .agg parts => uptoBulkAll parts + 1
  | .iface _ d => uptoBulk d + 1
  | .map entries => uptoBulkEntries entries + 1
  | .held _ => 1
def uptoBulkAll {H : Type} : List (DataW H) → Nat
  | [] => 0
  | d :: r => uptoBulk d + uptoBulkAll r
def uptoBulkEntries {H : Type} : List (Lit × DataW H) → Nat
  | [] => 0
  | x :: r => uptoBulkEntry x + uptoBulkEntries r
def uptoBulkEntry {H : Type} : Lit × DataW H → Nat
  | (.string bytes, d) => bytes.length + uptoBulk d + 1
  | (_, d) => uptoBulk d + 1
 end
def uptoSmall : (H : Type) → List (DataW H) → Bool := fun _ ds => decide (uptoBulkAll ds ≤ 1048576)
def OpenSpec.upto (s : _root_.Go.ChangeSpec) : _root_.Go.OpenSpec := { _root_.Go.OpenSpec.ofChange s with cond := some uptoSmall }

/-- 'hornbooklaw19.WalkNths', WHERE WHAT IT READS IS OF BULK AT MOST 1048576: true; the input reads as it did. -/
def walkNthsUptoRow : OpenClaim := { program := "ythjkfiniafblbaa", sum := "3b0751d867676ff805f9b6f3fc55b051c5582b64a606d488ffcf301ed78e0e92", func := "hornbook/hornbooklaw19.WalkNths", spec := "walkNths", inPlace := ["internal/abi.NoEscape"], unfollowed := true, recurses := true, plainKeys := false, apart := false, narrowed := true }
def WalkNthsUptoSaid : Prop := walkNthsUptoRow.holds Try.pinned (OpenSpec.upto walkNthsSpec)

/-- 'hornbooklaw19.WalkRanks', WHERE WHAT IT READS IS OF BULK AT MOST 1048576: true; the input reads as it did. -/
def walkRanksUptoRow : OpenClaim := { program := "ythjkfiniafblbaa", sum := "3b0751d867676ff805f9b6f3fc55b051c5582b64a606d488ffcf301ed78e0e92", func := "hornbook/hornbooklaw19.WalkRanks", spec := "walkRanks", inPlace := ["internal/abi.NoEscape"], unfollowed := true, recurses := true, plainKeys := false, apart := false, narrowed := true }
def WalkRanksUptoSaid : Prop := walkRanksUptoRow.holds Try.pinned (OpenSpec.upto walkRanksSpec)

/-- 'hornbooklaw19.WalkSame', WHERE WHAT IT READS IS OF BULK AT MOST 1048576: true; the input reads as it did. -/
def walkSameUptoRow : OpenClaim := { program := "ythjkfiniafblbaa", sum := "3b0751d867676ff805f9b6f3fc55b051c5582b64a606d488ffcf301ed78e0e92", func := "hornbook/hornbooklaw19.WalkSame", spec := "walkSame", inPlace := ["internal/abi.NoEscape"], unfollowed := true, recurses := true, plainKeys := false, apart := false, narrowed := true }
def WalkSameUptoSaid : Prop := walkSameUptoRow.holds Try.pinned (OpenSpec.upto walkSameSpec)

/-- 'hornbooklaw19.WalkLists', WHERE WHAT IT READS IS OF BULK AT MOST 1048576: true; the input reads as it did. -/
def walkListsUptoRow : OpenClaim := { program := "ythjkfiniafblbaa", sum := "3b0751d867676ff805f9b6f3fc55b051c5582b64a606d488ffcf301ed78e0e92", func := "hornbook/hornbooklaw19.WalkLists", spec := "walkLists", inPlace := ["internal/abi.NoEscape"], unfollowed := true, recurses := true, plainKeys := false, apart := false, narrowed := true }
def WalkListsUptoSaid : Prop := walkListsUptoRow.holds Try.pinned (OpenSpec.upto walkListsSpec)

/-- 'hornbooklaw19.WalkAccepts', WHERE WHAT IT READS IS OF BULK AT MOST 1048576: true; the input reads as it did. -/
def walkAcceptsUptoRow : OpenClaim := { program := "ythjkfiniafblbaa", sum := "3b0751d867676ff805f9b6f3fc55b051c5582b64a606d488ffcf301ed78e0e92", func := "hornbook/hornbooklaw19.WalkAccepts", spec := "walkAccepts", inPlace := ["internal/abi.NoEscape"], unfollowed := true, recurses := true, plainKeys := false, apart := false, narrowed := true }
def WalkAcceptsUptoSaid : Prop := walkAcceptsUptoRow.holds Try.pinned (OpenSpec.upto walkAcceptsSpec)

/-- 'hornbooklaw19.WalkLeast', WHERE WHAT IT READS IS OF BULK AT MOST 1048576: true; the input reads as it did. -/
def walkLeastUptoRow : OpenClaim := { program := "ythjkfiniafblbaa", sum := "3b0751d867676ff805f9b6f3fc55b051c5582b64a606d488ffcf301ed78e0e92", func := "hornbook/hornbooklaw19.WalkLeast", spec := "walkLeast", inPlace := ["internal/abi.NoEscape"], unfollowed := true, recurses := true, plainKeys := false, apart := false, narrowed := true }
def WalkLeastUptoSaid : Prop := walkLeastUptoRow.holds Try.pinned (OpenSpec.upto walkLeastSpec)

/-- 'hornbooklaw19.WalkPerfect', WHERE WHAT IT READS IS OF BULK AT MOST 1048576: true; the input reads as it did. -/
def walkPerfectUptoRow : OpenClaim := { program := "ythjkfiniafblbaa", sum := "3b0751d867676ff805f9b6f3fc55b051c5582b64a606d488ffcf301ed78e0e92", func := "hornbook/hornbooklaw19.WalkPerfect", spec := "walkPerfect", inPlace := ["internal/abi.NoEscape"], unfollowed := true, recurses := true, plainKeys := false, apart := false, narrowed := true }
def WalkPerfectUptoSaid : Prop := walkPerfectUptoRow.holds Try.pinned (OpenSpec.upto walkPerfectSpec)

/-- 'hornbooklaw19.WalkFolds', WHERE WHAT IT READS IS OF BULK AT MOST 1048576: true; the input reads as it did. -/
def walkFoldsUptoRow : OpenClaim := { program := "ythjkfiniafblbaa", sum := "3b0751d867676ff805f9b6f3fc55b051c5582b64a606d488ffcf301ed78e0e92", func := "hornbook/hornbooklaw19.WalkFolds", spec := "walkFolds", inPlace := ["internal/abi.NoEscape"], unfollowed := true, recurses := true, plainKeys := false, apart := false, narrowed := true }
def WalkFoldsUptoSaid : Prop := walkFoldsUptoRow.holds Try.pinned (OpenSpec.upto walkFoldsSpec)

/-- 'hornbooklaw19.WalkBuilt', WHERE WHAT IT READS IS OF BULK AT MOST 1048576: true; the input reads as it did. -/
def walkBuiltUptoRow : OpenClaim := { program := "ythjkfiniafblbaa", sum := "3b0751d867676ff805f9b6f3fc55b051c5582b64a606d488ffcf301ed78e0e92", func := "hornbook/hornbooklaw19.WalkBuilt", spec := "walkBuilt", inPlace := ["internal/abi.NoEscape"], unfollowed := true, recurses := true, plainKeys := false, apart := false, narrowed := true }
def WalkBuiltUptoSaid : Prop := walkBuiltUptoRow.holds Try.pinned (OpenSpec.upto walkBuiltSpec)

/-- 'hornbooklaw19.WalkOrder', WHERE WHAT IT READS IS OF BULK AT MOST 1048576: true; the input reads as it did. -/
def walkOrderUptoRow : OpenClaim := { program := "ythjkfiniafblbaa", sum := "3b0751d867676ff805f9b6f3fc55b051c5582b64a606d488ffcf301ed78e0e92", func := "hornbook/hornbooklaw19.WalkOrder", spec := "walkOrder", inPlace := ["internal/abi.NoEscape"], unfollowed := true, recurses := true, plainKeys := false, apart := false, narrowed := true }
def WalkOrderUptoSaid : Prop := walkOrderUptoRow.holds Try.pinned (OpenSpec.upto walkOrderSpec)

/-- 'hornbooklaw19.WalkShapes', WHERE WHAT IT READS IS OF BULK AT MOST 1048576: true; the input reads as it did. -/
def walkShapesUptoRow : OpenClaim := { program := "ythjkfiniafblbaa", sum := "3b0751d867676ff805f9b6f3fc55b051c5582b64a606d488ffcf301ed78e0e92", func := "hornbook/hornbooklaw19.WalkShapes", spec := "walkShapes", inPlace := ["internal/abi.NoEscape"], unfollowed := true, recurses := true, plainKeys := false, apart := false, narrowed := true }
def WalkShapesUptoSaid : Prop := walkShapesUptoRow.holds Try.pinned (OpenSpec.upto walkShapesSpec)

end Rows
end Go.Proofs.Ythjkfiniafblbaa

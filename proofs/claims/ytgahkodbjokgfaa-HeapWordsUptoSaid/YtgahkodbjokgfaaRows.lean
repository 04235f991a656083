/-
  No cell of these rows narrows 'for every input' (looked for: loops, veiled, ifaces, maps, wideKeys, modest, calm, conditions, laid).
  DERIVED. THE GIVEN ROWS OF THIS SEAT. 8 by the template 'for every input the law returns true; each argument reads behind the call as it read before'; 0 by the template 'total and deterministic' (their statements: YtgahkodbjokgfaaTotals.lean).
  GIVEN WITH THE SEED: the statements are not yours to turn. If you find one false, say at which input.
  Laid BY PROGRAM, IN A SANDBOX (cutbox-rows.mjs): the forced cells as the released guide's own fill.sh prints them over the translation 2aa7b27269c3524f… (all of the seat's roots in one cut). By AI agents, Wed Nov 11 2026. No macro, syntax, notation, axiom, sorry.
-/
import Derived.Test.YtgahkodbjokgfaaChecked
import GoSem.Claim
import GoSem.ClaimJoined
import GoSem.ClaimMapViews
import Derived.JoinedTies
import Derived.KernelRfl
namespace Go.Proofs.Ytgahkodbjokgfaa
/- THE CELL 'sum', in the pinned program and in every row, IS THE sha256 OF THE DUMP (.gsa) THAT YtgahkodbjokgfaaProg.lean LOADS. Nothing in Lean hashes anything: it is a label: what it is worth is what the hold of that sum in a sandbox is worth. -/
noncomputable def Try.pinned : Pinned := { name := "ytgahkodbjokgfaa", sum := "2aa7b27269c3524f13f339dc955616efe00ae8add3ae056a9adf89f9850b5eb4", checked := Try.checked }
namespace Rows
def none {H : Type} : Left H := { results := [], args := [] }

/-- 'hornbooklaw07.HeapTurned': WHATEVER THE INPUT: true; the input reads as it did. -/
def heapTurnedSpec : ChangeSpec := { name := "heapTurned", fn := fun _ => fun
  | [d] => { results := [.lit (.bool true)], args := [d] }
  | _ => none }
def heapTurnedRow : OpenClaim := { program := "ytgahkodbjokgfaa", sum := "2aa7b27269c3524f13f339dc955616efe00ae8add3ae056a9adf89f9850b5eb4", func := "hornbook/hornbooklaw07.HeapTurned", spec := "heapTurned", unfollowed := true, recurses := true, apart := false }
def HeapTurnedSaid : Prop := heapTurnedRow.holds Try.pinned (OpenSpec.ofChange heapTurnedSpec)

/-- ITS FALSE NEIGHBOUR: 'it returns false'. Refute it at one input. -/
def heapTurnedWrong : ChangeSpec := { name := "heapTurned", fn := fun _ => fun
  | [d] => { results := [.lit (.bool false)], args := [d] }
  | _ => none }
def HeapTurnedWrongFalsely : Prop := heapTurnedRow.holds Try.pinned (OpenSpec.ofChange heapTurnedWrong)

/-- 'hornbooklaw07.HeapQueues': WHATEVER THE INPUT: true; the input reads as it did. -/
def heapQueuesSpec : ChangeSpec := { name := "heapQueues", fn := fun _ => fun
  | [d1, d2] => { results := [.lit (.bool true)], args := [d1, d2] }
  | _ => none }
def heapQueuesRow : OpenClaim := { program := "ytgahkodbjokgfaa", sum := "2aa7b27269c3524f13f339dc955616efe00ae8add3ae056a9adf89f9850b5eb4", func := "hornbook/hornbooklaw07.HeapQueues", spec := "heapQueues", unfollowed := true, recurses := true, apart := false }
def HeapQueuesSaid : Prop := heapQueuesRow.holds Try.pinned (OpenSpec.ofChange heapQueuesSpec)

/-- ITS FALSE NEIGHBOUR: 'it returns false'. Refute it at one input. -/
def heapQueuesWrong : ChangeSpec := { name := "heapQueues", fn := fun _ => fun
  | [d1, d2] => { results := [.lit (.bool false)], args := [d1, d2] }
  | _ => none }
def HeapQueuesWrongFalsely : Prop := heapQueuesRow.holds Try.pinned (OpenSpec.ofChange heapQueuesWrong)

/-- 'hornbooklaw07.HeapSorts': WHATEVER THE INPUT: true; the input reads as it did. -/
def heapSortsSpec : ChangeSpec := { name := "heapSorts", fn := fun _ => fun
  | [d] => { results := [.lit (.bool true)], args := [d] }
  | _ => none }
def heapSortsRow : OpenClaim := { program := "ytgahkodbjokgfaa", sum := "2aa7b27269c3524f13f339dc955616efe00ae8add3ae056a9adf89f9850b5eb4", func := "hornbook/hornbooklaw07.HeapSorts", spec := "heapSorts", unfollowed := true, recurses := true, apart := false }
def HeapSortsSaid : Prop := heapSortsRow.holds Try.pinned (OpenSpec.ofChange heapSortsSpec)

/-- ITS FALSE NEIGHBOUR: 'it returns false'. Refute it at one input. -/
def heapSortsWrong : ChangeSpec := { name := "heapSorts", fn := fun _ => fun
  | [d] => { results := [.lit (.bool false)], args := [d] }
  | _ => none }
def HeapSortsWrongFalsely : Prop := heapSortsRow.holds Try.pinned (OpenSpec.ofChange heapSortsWrong)

/-- 'hornbooklaw07.HeapKeeps': WHATEVER THE INPUT: true; the input reads as it did. -/
def heapKeepsSpec : ChangeSpec := { name := "heapKeeps", fn := fun _ => fun
  | [d] => { results := [.lit (.bool true)], args := [d] }
  | _ => none }
def heapKeepsRow : OpenClaim := { program := "ytgahkodbjokgfaa", sum := "2aa7b27269c3524f13f339dc955616efe00ae8add3ae056a9adf89f9850b5eb4", func := "hornbook/hornbooklaw07.HeapKeeps", spec := "heapKeeps", unfollowed := true, recurses := true, apart := false }
def HeapKeepsSaid : Prop := heapKeepsRow.holds Try.pinned (OpenSpec.ofChange heapKeepsSpec)

/-- ITS FALSE NEIGHBOUR: 'it returns false'. Refute it at one input. -/
def heapKeepsWrong : ChangeSpec := { name := "heapKeeps", fn := fun _ => fun
  | [d] => { results := [.lit (.bool false)], args := [d] }
  | _ => none }
def HeapKeepsWrongFalsely : Prop := heapKeepsRow.holds Try.pinned (OpenSpec.ofChange heapKeepsWrong)

/-- 'hornbooklaw07.HeapWords': WHATEVER THE INPUT: true; the input reads as it did. -/
def heapWordsSpec : ChangeSpec := { name := "heapWords", fn := fun _ => fun
  | [d1, d2] => { results := [.lit (.bool true)], args := [d1, d2] }
  | _ => none }
def heapWordsRow : OpenClaim := { program := "ytgahkodbjokgfaa", sum := "2aa7b27269c3524f13f339dc955616efe00ae8add3ae056a9adf89f9850b5eb4", func := "hornbook/hornbooklaw07.HeapWords", spec := "heapWords", unfollowed := true, recurses := true, apart := false }
def HeapWordsSaid : Prop := heapWordsRow.holds Try.pinned (OpenSpec.ofChange heapWordsSpec)

/-- ITS FALSE NEIGHBOUR: 'it returns false'. Refute it at one input. -/
def heapWordsWrong : ChangeSpec := { name := "heapWords", fn := fun _ => fun
  | [d1, d2] => { results := [.lit (.bool false)], args := [d1, d2] }
  | _ => none }
def HeapWordsWrongFalsely : Prop := heapWordsRow.holds Try.pinned (OpenSpec.ofChange heapWordsWrong)

/-- 'hornbooklaw07.HeapPlays': WHATEVER THE INPUT: true; the input reads as it did. -/
def heapPlaysSpec : ChangeSpec := { name := "heapPlays", fn := fun _ => fun
  | [d1, d2] => { results := [.lit (.bool true)], args := [d1, d2] }
  | _ => none }
def heapPlaysRow : OpenClaim := { program := "ytgahkodbjokgfaa", sum := "2aa7b27269c3524f13f339dc955616efe00ae8add3ae056a9adf89f9850b5eb4", func := "hornbook/hornbooklaw07.HeapPlays", spec := "heapPlays", unfollowed := true, recurses := true, apart := false }
def HeapPlaysSaid : Prop := heapPlaysRow.holds Try.pinned (OpenSpec.ofChange heapPlaysSpec)

/-- ITS FALSE NEIGHBOUR: 'it returns false'. Refute it at one input. -/
def heapPlaysWrong : ChangeSpec := { name := "heapPlays", fn := fun _ => fun
  | [d1, d2] => { results := [.lit (.bool false)], args := [d1, d2] }
  | _ => none }
def HeapPlaysWrongFalsely : Prop := heapPlaysRow.holds Try.pinned (OpenSpec.ofChange heapPlaysWrong)

/-- 'hornbooklaw07.HeapTwins': WHATEVER THE INPUT: true; the input reads as it did. -/
def heapTwinsSpec : ChangeSpec := { name := "heapTwins", fn := fun _ => fun
  | [d1, d2] => { results := [.lit (.bool true)], args := [d1, d2] }
  | _ => none }
def heapTwinsRow : OpenClaim := { program := "ytgahkodbjokgfaa", sum := "2aa7b27269c3524f13f339dc955616efe00ae8add3ae056a9adf89f9850b5eb4", func := "hornbook/hornbooklaw07.HeapTwins", spec := "heapTwins", unfollowed := true, recurses := true, apart := false }
def HeapTwinsSaid : Prop := heapTwinsRow.holds Try.pinned (OpenSpec.ofChange heapTwinsSpec)

/-- ITS FALSE NEIGHBOUR: 'it returns false'. Refute it at one input. -/
def heapTwinsWrong : ChangeSpec := { name := "heapTwins", fn := fun _ => fun
  | [d1, d2] => { results := [.lit (.bool false)], args := [d1, d2] }
  | _ => none }
def HeapTwinsWrongFalsely : Prop := heapTwinsRow.holds Try.pinned (OpenSpec.ofChange heapTwinsWrong)

/-- 'hornbooklaw07.HeapNone': WHATEVER THE INPUT: true; the input reads as it did. -/
def heapNoneSpec : ChangeSpec := { name := "heapNone", fn := fun _ => fun
  | [d] => { results := [.lit (.bool true)], args := [d] }
  | _ => none }
def heapNoneRow : OpenClaim := { program := "ytgahkodbjokgfaa", sum := "2aa7b27269c3524f13f339dc955616efe00ae8add3ae056a9adf89f9850b5eb4", func := "hornbook/hornbooklaw07.HeapNone", spec := "heapNone", unfollowed := true, recurses := true, apart := false }
def HeapNoneSaid : Prop := heapNoneRow.holds Try.pinned (OpenSpec.ofChange heapNoneSpec)

/-- ITS FALSE NEIGHBOUR: 'it returns false'. Refute it at one input. -/
def heapNoneWrong : ChangeSpec := { name := "heapNone", fn := fun _ => fun
  | [d] => { results := [.lit (.bool false)], args := [d] }
  | _ => none }
def HeapNoneWrongFalsely : Prop := heapNoneRow.holds Try.pinned (OpenSpec.ofChange heapNoneWrong)

/- THE SECOND FORM. 'bulk': how many values and letters a reading holds, each counted each time it is reached (what is shared counts as often as it is met; a slice's spare places count too). A statement '..UptoSaid' is the law's where the arguments, and the package variables that the reading takes, are together of bulk at most 1048576: NARROWER than '..Said'. Prove '..Said' where nothing that the law and all that it calls make is longer than what came in: it says more and counts as full. Else prove '..UptoSaid'. A law counts once. -/
mutual
def uptoBulk {H : Type} : DataW H → Nat
  | .lit (.string bytes) => bytes.length + 1
  | .lit _ => 1
  | .nil => 1
  | .ptr d => uptoBulk d + 1
  | .slice elems spare => uptoBulkAll elems + uptoBulkAll spare + 1
  | .agg parts => uptoBulkAll parts + 1
  | .iface _ d => uptoBulk d + 1
  | .map entries => uptoBulkEntries entries + 1
  | .held _ => 1
def uptoBulkAll {H : Type} : List (DataW H) → Nat
  | [] => 0
  | d :: r => uptoBulk d + uptoBulkAll r
def uptoBulkEntries {H : Type} : List (Lit × DataW H) → Nat
  | [] => 0
  | x :: r => uptoBulkEntry x + uptoBulkEntries r
def uptoBulkEntry {H : Type} : Lit × DataW H → Nat
  | (.string bytes, d) => bytes.length + uptoBulk d + 1
  | (_, d) => uptoBulk d + 1
 end
def uptoSmall : (H : Type) → List (DataW H) → Bool := fun _ ds => decide (uptoBulkAll ds ≤ 1048576)
def OpenSpec.upto (s : _root_.Go.ChangeSpec) : _root_.Go.OpenSpec := { _root_.Go.OpenSpec.ofChange s with cond := some uptoSmall }

/-- 'hornbooklaw07.HeapTurned', WHERE WHAT IT READS IS OF BULK AT MOST 1048576: true; the input reads as it did. -/
def heapTurnedUptoRow : OpenClaim := { program := "ytgahkodbjokgfaa", sum := "2aa7b27269c3524f13f339dc955616efe00ae8add3ae056a9adf89f9850b5eb4", func := "hornbook/hornbooklaw07.HeapTurned", spec := "heapTurned", unfollowed := true, recurses := true, apart := false, narrowed := true }
def HeapTurnedUptoSaid : Prop := heapTurnedUptoRow.holds Try.pinned (OpenSpec.upto heapTurnedSpec)

/-- 'hornbooklaw07.HeapQueues', WHERE WHAT IT READS IS OF BULK AT MOST 1048576: true; the input reads as it did. -/
def heapQueuesUptoRow : OpenClaim := { program := "ytgahkodbjokgfaa", sum := "2aa7b27269c3524f13f339dc955616efe00ae8add3ae056a9adf89f9850b5eb4", func := "hornbook/hornbooklaw07.HeapQueues", spec := "heapQueues", unfollowed := true, recurses := true, apart := false, narrowed := true }
def HeapQueuesUptoSaid : Prop := heapQueuesUptoRow.holds Try.pinned (OpenSpec.upto heapQueuesSpec)

/-- 'hornbooklaw07.HeapSorts', WHERE WHAT IT READS IS OF BULK AT MOST 1048576: true; the input reads as it did. -/
def heapSortsUptoRow : OpenClaim := { program := "ytgahkodbjokgfaa", sum := "2aa7b27269c3524f13f339dc955616efe00ae8add3ae056a9adf89f9850b5eb4", func := "hornbook/hornbooklaw07.HeapSorts", spec := "heapSorts", unfollowed := true, recurses := true, apart := false, narrowed := true }
def HeapSortsUptoSaid : Prop := heapSortsUptoRow.holds Try.pinned (OpenSpec.upto heapSortsSpec)

/-- 'hornbooklaw07.HeapKeeps', WHERE WHAT IT READS IS OF BULK AT MOST 1048576: true; the input reads as it did. -/
def heapKeepsUptoRow : OpenClaim := { program := "ytgahkodbjokgfaa", sum := "2aa7b27269c3524f13f339dc955616efe00ae8add3ae056a9adf89f9850b5eb4", func := "hornbook/hornbooklaw07.HeapKeeps", spec := "heapKeeps", unfollowed := true, recurses := true, apart := false, narrowed := true }
def HeapKeepsUptoSaid : Prop := heapKeepsUptoRow.holds Try.pinned (OpenSpec.upto heapKeepsSpec)

/-- 'hornbooklaw07.HeapWords', WHERE WHAT IT READS IS OF BULK AT MOST 1048576: true; the input reads as it did. -/
def heapWordsUptoRow : OpenClaim := { program := "ytgahkodbjokgfaa", sum := "2aa7b27269c3524f13f339dc955616efe00ae8add3ae056a9adf89f9850b5eb4", func := "hornbook/hornbooklaw07.HeapWords", spec := "heapWords", unfollowed := true, recurses := true, apart := false, narrowed := true }
def HeapWordsUptoSaid : Prop := heapWordsUptoRow.holds Try.pinned (OpenSpec.upto heapWordsSpec)

/-- 'hornbooklaw07.HeapPlays', WHERE WHAT IT READS IS OF BULK AT MOST 1048576: true; the input reads as it did. -/
def heapPlaysUptoRow : OpenClaim := { program := "ytgahkodbjokgfaa", sum := "2aa7b27269c3524f13f339dc955616efe00ae8add3ae056a9adf89f9850b5eb4", func := "hornbook/hornbooklaw07.HeapPlays", spec := "heapPlays", unfollowed := true, recurses := true, apart := false, narrowed := true }
def HeapPlaysUptoSaid : Prop := heapPlaysUptoRow.holds Try.pinned (OpenSpec.upto heapPlaysSpec)

/-- 'hornbooklaw07.HeapTwins', WHERE WHAT IT READS IS OF BULK AT MOST 1048576: true; the input reads as it did. -/
def heapTwinsUptoRow : OpenClaim := { program := "ytgahkodbjokgfaa", sum := "2aa7b27269c3524f13f339dc955616efe00ae8add3ae056a9adf89f9850b5eb4", func := "hornbook/hornbooklaw07.HeapTwins", spec := "heapTwins", unfollowed := true, recurses := true, apart := false, narrowed := true }
def HeapTwinsUptoSaid : Prop := heapTwinsUptoRow.holds Try.pinned (OpenSpec.upto heapTwinsSpec)

/-- 'hornbooklaw07.HeapNone', WHERE WHAT IT READS IS OF BULK AT MOST 1048576: true; the input reads as it did. -/
def heapNoneUptoRow : OpenClaim := { program := "ytgahkodbjokgfaa", sum := "2aa7b27269c3524f13f339dc955616efe00ae8add3ae056a9adf89f9850b5eb4", func := "hornbook/hornbooklaw07.HeapNone", spec := "heapNone", unfollowed := true, recurses := true, apart := false, narrowed := true }
def HeapNoneUptoSaid : Prop := heapNoneUptoRow.holds Try.pinned (OpenSpec.upto heapNoneSpec)

end Rows
end Go.Proofs.Ytgahkodbjokgfaa

/-
  No cell of these rows narrows 'for every input' (looked for: loops, veiled, ifaces, maps, wideKeys, modest, calm, conditions, laid).
  DERIVED. THE GIVEN ROWS OF THIS SEAT. 6 by the template 'for every input the law returns true; each argument reads behind the call as it read before'; 0 by the template 'total and deterministic' (their statements: YtbmfaffnbjmipaaTotals.lean).
  GIVEN WITH THE SEED: the statements are not yours to turn. If you find one false, say at which input.
  Laid BY PROGRAM, IN A SANDBOX (cutbox-rows.mjs): the forced cells as the released guide's own fill.sh prints them over the translation ee771c5e985c87ad… (all of the seat's roots in one cut). By AI agents, Wed Nov 11 2026. No macro, syntax, notation, axiom, sorry.
-/
import Derived.Test.YtbmfaffnbjmipaaChecked
import GoSem.Claim
import GoSem.ClaimJoined
import GoSem.ClaimMapViews
import Derived.JoinedTies
import Derived.KernelRfl
namespace Go.Proofs.Ytbmfaffnbjmipaa
/- THE CELL 'sum', in the pinned program and in every row, IS THE sha256 OF THE DUMP (.gsa) THAT YtbmfaffnbjmipaaProg.lean LOADS. Nothing in Lean hashes anything: it is a label: what it is worth is what the hold of that sum in a sandbox is worth. -/
noncomputable def Try.pinned : Pinned := { name := "ytbmfaffnbjmipaa", sum := "ee771c5e985c87ad02b2d80b303e33c009bfad4cef4b53e4ecb7585b2cb96b04", checked := Try.checked }
namespace Rows
def none {H : Type} : Left H := { results := [], args := [] }

/-- 'hornbooklaw08.StreamsKeeps': WHATEVER THE INPUT: true; the input reads as it did. -/
def streamsKeepsSpec : ChangeSpec := { name := "streamsKeeps", fn := fun _ => fun
  | [d] => { results := [.lit (.bool true)], args := [d] }
  | _ => none }
def streamsKeepsRow : OpenClaim := { program := "ytbmfaffnbjmipaa", sum := "ee771c5e985c87ad02b2d80b303e33c009bfad4cef4b53e4ecb7585b2cb96b04", func := "hornbook/hornbooklaw08.StreamsKeeps", spec := "streamsKeeps", unfollowed := true, recurses := true, apart := false }
def StreamsKeepsSaid : Prop := streamsKeepsRow.holds Try.pinned (OpenSpec.ofChange streamsKeepsSpec)

/-- ITS FALSE NEIGHBOUR: 'it returns false'. Refute it at one input. -/
def streamsKeepsWrong : ChangeSpec := { name := "streamsKeeps", fn := fun _ => fun
  | [d] => { results := [.lit (.bool false)], args := [d] }
  | _ => none }
def StreamsKeepsWrongFalsely : Prop := streamsKeepsRow.holds Try.pinned (OpenSpec.ofChange streamsKeepsWrong)

/-- 'hornbooklaw08.StreamsSorts': WHATEVER THE INPUT: true; the input reads as it did. -/
def streamsSortsSpec : ChangeSpec := { name := "streamsSorts", fn := fun _ => fun
  | [d] => { results := [.lit (.bool true)], args := [d] }
  | _ => none }
def streamsSortsRow : OpenClaim := { program := "ytbmfaffnbjmipaa", sum := "ee771c5e985c87ad02b2d80b303e33c009bfad4cef4b53e4ecb7585b2cb96b04", func := "hornbook/hornbooklaw08.StreamsSorts", spec := "streamsSorts", unfollowed := true, recurses := true, apart := false }
def StreamsSortsSaid : Prop := streamsSortsRow.holds Try.pinned (OpenSpec.ofChange streamsSortsSpec)

/-- ITS FALSE NEIGHBOUR: 'it returns false'. Refute it at one input. -/
def streamsSortsWrong : ChangeSpec := { name := "streamsSorts", fn := fun _ => fun
  | [d] => { results := [.lit (.bool false)], args := [d] }
  | _ => none }
def StreamsSortsWrongFalsely : Prop := streamsSortsRow.holds Try.pinned (OpenSpec.ofChange streamsSortsWrong)

/-- 'hornbooklaw08.StreamsHalves': WHATEVER THE INPUT: true; the input reads as it did. -/
def streamsHalvesSpec : ChangeSpec := { name := "streamsHalves", fn := fun _ => fun
  | [d1, d2] => { results := [.lit (.bool true)], args := [d1, d2] }
  | _ => none }
def streamsHalvesRow : OpenClaim := { program := "ytbmfaffnbjmipaa", sum := "ee771c5e985c87ad02b2d80b303e33c009bfad4cef4b53e4ecb7585b2cb96b04", func := "hornbook/hornbooklaw08.StreamsHalves", spec := "streamsHalves", unfollowed := true, recurses := true, apart := false }
def StreamsHalvesSaid : Prop := streamsHalvesRow.holds Try.pinned (OpenSpec.ofChange streamsHalvesSpec)

/-- ITS FALSE NEIGHBOUR: 'it returns false'. Refute it at one input. -/
def streamsHalvesWrong : ChangeSpec := { name := "streamsHalves", fn := fun _ => fun
  | [d1, d2] => { results := [.lit (.bool false)], args := [d1, d2] }
  | _ => none }
def StreamsHalvesWrongFalsely : Prop := streamsHalvesRow.holds Try.pinned (OpenSpec.ofChange streamsHalvesWrong)

/-- 'hornbooklaw08.StreamsWalks': WHATEVER THE INPUT: true; the input reads as it did. -/
def streamsWalksSpec : ChangeSpec := { name := "streamsWalks", fn := fun _ => fun
  | [d1, d2, d3] => { results := [.lit (.bool true)], args := [d1, d2, d3] }
  | _ => none }
def streamsWalksRow : OpenClaim := { program := "ytbmfaffnbjmipaa", sum := "ee771c5e985c87ad02b2d80b303e33c009bfad4cef4b53e4ecb7585b2cb96b04", func := "hornbook/hornbooklaw08.StreamsWalks", spec := "streamsWalks", unfollowed := true, recurses := true, apart := false }
def StreamsWalksSaid : Prop := streamsWalksRow.holds Try.pinned (OpenSpec.ofChange streamsWalksSpec)

/-- ITS FALSE NEIGHBOUR: 'it returns false'. Refute it at one input. -/
def streamsWalksWrong : ChangeSpec := { name := "streamsWalks", fn := fun _ => fun
  | [d1, d2, d3] => { results := [.lit (.bool false)], args := [d1, d2, d3] }
  | _ => none }
def StreamsWalksWrongFalsely : Prop := streamsWalksRow.holds Try.pinned (OpenSpec.ofChange streamsWalksWrong)

/-- 'hornbooklaw08.StreamsAsked': WHATEVER THE INPUT: true; the input reads as it did. -/
def streamsAskedSpec : ChangeSpec := { name := "streamsAsked", fn := fun _ => fun
  | [d1, d2, d3] => { results := [.lit (.bool true)], args := [d1, d2, d3] }
  | _ => none }
def streamsAskedRow : OpenClaim := { program := "ytbmfaffnbjmipaa", sum := "ee771c5e985c87ad02b2d80b303e33c009bfad4cef4b53e4ecb7585b2cb96b04", func := "hornbook/hornbooklaw08.StreamsAsked", spec := "streamsAsked", unfollowed := true, recurses := true, apart := false }
def StreamsAskedSaid : Prop := streamsAskedRow.holds Try.pinned (OpenSpec.ofChange streamsAskedSpec)

/-- ITS FALSE NEIGHBOUR: 'it returns false'. Refute it at one input. -/
def streamsAskedWrong : ChangeSpec := { name := "streamsAsked", fn := fun _ => fun
  | [d1, d2, d3] => { results := [.lit (.bool false)], args := [d1, d2, d3] }
  | _ => none }
def StreamsAskedWrongFalsely : Prop := streamsAskedRow.holds Try.pinned (OpenSpec.ofChange streamsAskedWrong)

/-- 'hornbooklaw08.StreamsAlgebra': WHATEVER THE INPUT: true; the input reads as it did. -/
def streamsAlgebraSpec : ChangeSpec := { name := "streamsAlgebra", fn := fun _ => fun
  | [d1, d2, d3] => { results := [.lit (.bool true)], args := [d1, d2, d3] }
  | _ => none }
def streamsAlgebraRow : OpenClaim := { program := "ytbmfaffnbjmipaa", sum := "ee771c5e985c87ad02b2d80b303e33c009bfad4cef4b53e4ecb7585b2cb96b04", func := "hornbook/hornbooklaw08.StreamsAlgebra", spec := "streamsAlgebra", unfollowed := true, recurses := true, apart := false }
def StreamsAlgebraSaid : Prop := streamsAlgebraRow.holds Try.pinned (OpenSpec.ofChange streamsAlgebraSpec)

/-- ITS FALSE NEIGHBOUR: 'it returns false'. Refute it at one input. -/
def streamsAlgebraWrong : ChangeSpec := { name := "streamsAlgebra", fn := fun _ => fun
  | [d1, d2, d3] => { results := [.lit (.bool false)], args := [d1, d2, d3] }
  | _ => none }
def StreamsAlgebraWrongFalsely : Prop := streamsAlgebraRow.holds Try.pinned (OpenSpec.ofChange streamsAlgebraWrong)

/- THE SECOND FORM. 'bulk': how many values and letters a reading holds, each counted each time it is reached (what is shared counts as often as it is met; a slice's spare places count too). A statement '..UptoSaid' is the law's where the arguments, and the package variables that the reading takes, are together of bulk at most 1048576: NARROWER than '..Said'. Prove '..Said' where nothing that the law and all that it calls make is longer than what came in: it says more and counts as full. Else prove '..UptoSaid'. A law counts once. -/
mutual
def uptoBulk {H : Type} : DataW H → Nat
  | .lit (.string bytes) => bytes.length + 1
  | .lit _ => 1
  | .nil => 1
  | .ptr d => uptoBulk d + 1
  | .slice elems spare => uptoBulkAll elems + uptoBulkAll spare + 1
  | .agg parts => uptoBulkAll parts + 1
  | .iface _ d => uptoBulk d + 1
  | .map entries => uptoBulkEntries entries + 1
  | .held _ => 1
def uptoBulkAll {H : Type} : List (DataW H) → Nat
  | [] => 0
  | d :: r => uptoBulk d + uptoBulkAll r
def uptoBulkEntries {H : Type} : List (Lit × DataW H) → Nat
  | [] => 0
  | x :: r => uptoBulkEntry x + uptoBulkEntries r
def uptoBulkEntry {H : Type} : Lit × DataW H → Nat
  | (.string bytes, d) => bytes.length + uptoBulk d + 1
  | (_, d) => uptoBulk d + 1
 end
def uptoSmall : (H : Type) → List (DataW H) → Bool := fun _ ds => decide (uptoBulkAll ds ≤ 1048576)
def OpenSpec.upto (s : _root_.Go.ChangeSpec) : _root_.Go.OpenSpec := { _root_.Go.OpenSpec.ofChange s with cond := some uptoSmall }

/-- 'hornbooklaw08.StreamsKeeps', WHERE WHAT IT READS IS OF BULK AT MOST 1048576: true; the input reads as it did. -/
def streamsKeepsUptoRow : OpenClaim := { program := "ytbmfaffnbjmipaa", sum := "ee771c5e985c87ad02b2d80b303e33c009bfad4cef4b53e4ecb7585b2cb96b04", func := "hornbook/hornbooklaw08.StreamsKeeps", spec := "streamsKeeps", unfollowed := true, recurses := true, apart := false, narrowed := true }
def StreamsKeepsUptoSaid : Prop := streamsKeepsUptoRow.holds Try.pinned (OpenSpec.upto streamsKeepsSpec)

/-- 'hornbooklaw08.StreamsSorts', WHERE WHAT IT READS IS OF BULK AT MOST 1048576: true; the input reads as it did. -/
def streamsSortsUptoRow : OpenClaim := { program := "ytbmfaffnbjmipaa", sum := "ee771c5e985c87ad02b2d80b303e33c009bfad4cef4b53e4ecb7585b2cb96b04", func := "hornbook/hornbooklaw08.StreamsSorts", spec := "streamsSorts", unfollowed := true, recurses := true, apart := false, narrowed := true }
def StreamsSortsUptoSaid : Prop := streamsSortsUptoRow.holds Try.pinned (OpenSpec.upto streamsSortsSpec)

/-- 'hornbooklaw08.StreamsHalves', WHERE WHAT IT READS IS OF BULK AT MOST 1048576: true; the input reads as it did. -/
def streamsHalvesUptoRow : OpenClaim := { program := "ytbmfaffnbjmipaa", sum := "ee771c5e985c87ad02b2d80b303e33c009bfad4cef4b53e4ecb7585b2cb96b04", func := "hornbook/hornbooklaw08.StreamsHalves", spec := "streamsHalves", unfollowed := true, recurses := true, apart := false, narrowed := true }
def StreamsHalvesUptoSaid : Prop := streamsHalvesUptoRow.holds Try.pinned (OpenSpec.upto streamsHalvesSpec)

/-- 'hornbooklaw08.StreamsWalks', WHERE WHAT IT READS IS OF BULK AT MOST 1048576: true; the input reads as it did. -/
def streamsWalksUptoRow : OpenClaim := { program := "ytbmfaffnbjmipaa", sum := "ee771c5e985c87ad02b2d80b303e33c009bfad4cef4b53e4ecb7585b2cb96b04", func := "hornbook/hornbooklaw08.StreamsWalks", spec := "streamsWalks", unfollowed := true, recurses := true, apart := false, narrowed := true }
def StreamsWalksUptoSaid : Prop := streamsWalksUptoRow.holds Try.pinned (OpenSpec.upto streamsWalksSpec)

/-- 'hornbooklaw08.StreamsAsked', WHERE WHAT IT READS IS OF BULK AT MOST 1048576: true; the input reads as it did. -/
def streamsAskedUptoRow : OpenClaim := { program := "ytbmfaffnbjmipaa", sum := "ee771c5e985c87ad02b2d80b303e33c009bfad4cef4b53e4ecb7585b2cb96b04", func := "hornbook/hornbooklaw08.StreamsAsked", spec := "streamsAsked", unfollowed := true, recurses := true, apart := false, narrowed := true }
def StreamsAskedUptoSaid : Prop := streamsAskedUptoRow.holds Try.pinned (OpenSpec.upto streamsAskedSpec)

/-- 'hornbooklaw08.StreamsAlgebra', WHERE WHAT IT READS IS OF BULK AT MOST 1048576: true; the input reads as it did. -/
def streamsAlgebraUptoRow : OpenClaim := { program := "ytbmfaffnbjmipaa", sum := "ee771c5e985c87ad02b2d80b303e33c009bfad4cef4b53e4ecb7585b2cb96b04", func := "hornbook/hornbooklaw08.StreamsAlgebra", spec := "streamsAlgebra", unfollowed := true, recurses := true, apart := false, narrowed := true }
def StreamsAlgebraUptoSaid : Prop := streamsAlgebraUptoRow.holds Try.pinned (OpenSpec.upto streamsAlgebraSpec)

end Rows
end Go.Proofs.Ytbmfaffnbjmipaa

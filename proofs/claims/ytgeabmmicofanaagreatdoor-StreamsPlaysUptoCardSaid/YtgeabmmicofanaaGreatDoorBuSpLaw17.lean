/- slices.Sort of ints: the shelf's contract at this seat's numbers. -/
import Derived.Test.YtgeabmmicofanaaGreatDoorBuSpLaw01
import Derived.Shelf.Sort.Plain
import Derived.Shelf.Slices.In.SortNone
import Derived.Sort.OwnSortedInts
import Derived.Test.YtgeabmmicofanaaGreatDoorProg
import Derived.ProofKit
set_option linter.unusedSimpArgs false
set_option linter.unusedVariables false
namespace Go.Proofs.YtgeabmmicofanaaGreatDoor
open Go.Shelf Go.Sort Go.RowKit

abbrev intsV (l : List Int) : List Value := l.map (.int .i64)
end Go.Proofs.YtgeabmmicofanaaGreatDoor

/- slices.Sort, slices.Compact, slices.Clone of texts: the shelf's contracts at this seat's numbers (written in part by port/shelfren.py). -/
import Derived.Test.YtiimpnhjnodgpaaDoorBuStRecLaw03
import Derived.Shelf.Sort.Plain
import Derived.Shelf.Slices.In.SortNone
import Derived.Shelf.Slices.CompactS
import Derived.Shelf.Slices.Clone
import Derived.Sort.OwnSorted
import Derived.Test.YtiimpnhjnodgpaaDoorProg
import Derived.ProofKit
namespace Go.Proofs.YtiimpnhjnodgpaaDoor
open Go.Shelf Go.Sort Go.RowKit

section
variable {W w : World} {R : Thing} {v : Value} {L : List (List UInt8)}
end
end Go.Proofs.YtiimpnhjnodgpaaDoor

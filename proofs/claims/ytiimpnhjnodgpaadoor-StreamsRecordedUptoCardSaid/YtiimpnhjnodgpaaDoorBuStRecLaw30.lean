/- A region that draws its order, whose operations but the last few only read: walked in the order of the text. -/
import Derived.StillTailTactics
import Derived.WalkKit
import Derived.BigQuiet
namespace Go.Proofs.YtiimpnhjnodgpaaDoor
open Go.RowKit

end Go.Proofs.YtiimpnhjnodgpaaDoor

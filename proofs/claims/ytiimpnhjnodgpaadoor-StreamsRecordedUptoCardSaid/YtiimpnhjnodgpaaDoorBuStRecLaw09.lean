/- streams: Of, From, Minus, Common walked as far as they make streams. -/
import Derived.Test.YtiimpnhjnodgpaaDoorBuStRecLaw06
import Derived.Test.YtiimpnhjnodgpaaDoorBuStRecLaw07
import Derived.Test.YtiimpnhjnodgpaaDoorBuStRecLaw08
import Derived.Laws.EntriesVeiled
namespace Go.Proofs.YtiimpnhjnodgpaaDoor
open Go.RowKit

end Go.Proofs.YtiimpnhjnodgpaaDoor

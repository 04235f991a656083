/- Texts sorted and each once: plain law, no program. -/
import Derived.Test.YtiimpnhjnodgpaaDoorBuStRecLaw01
import Derived.Lib.SlicesCompact
import Derived.Sort.Walk0
namespace Go.Proofs.YtiimpnhjnodgpaaDoor

end Go.Proofs.YtiimpnhjnodgpaaDoor

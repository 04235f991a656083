/- streams: Of, From, Minus, Common walked as far as they make streams. -/
import Derived.Test.YtadokkffmekndaaGreatDoorBuMgAgLaw06
import Derived.Test.YtadokkffmekndaaGreatDoorBuMgAgLaw07
import Derived.Test.YtadokkffmekndaaGreatDoorBuMgAgLaw08
import Derived.Laws.EntriesVeiled
set_option linter.unusedSimpArgs false
set_option linter.unusedVariables false
namespace Go.Proofs.YtadokkffmekndaaGreatDoor
open Go.RowKit

end Go.Proofs.YtadokkffmekndaaGreatDoor

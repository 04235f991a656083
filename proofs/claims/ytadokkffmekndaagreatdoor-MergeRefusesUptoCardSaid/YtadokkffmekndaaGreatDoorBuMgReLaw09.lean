/- streams: Of, From, Minus, Common walked as far as they make streams. -/
import Derived.Test.YtadokkffmekndaaGreatDoorBuMgReLaw06
import Derived.Test.YtadokkffmekndaaGreatDoorBuMgReLaw07
import Derived.Test.YtadokkffmekndaaGreatDoorBuMgReLaw08
import Derived.Laws.EntriesVeiled
set_option linter.unusedSimpArgs false
set_option linter.unusedVariables false
namespace Go.Proofs.YtadokkffmekndaaGreatDoor
open Go.RowKit

end Go.Proofs.YtadokkffmekndaaGreatDoor

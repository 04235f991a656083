/- streams: Of, From, Minus, Common walked as far as they make streams. -/
import Derived.Test.YtadokkffmekndaaGreatDoorBuMgSaLaw06
import Derived.Test.YtadokkffmekndaaGreatDoorBuMgSaLaw07
import Derived.Test.YtadokkffmekndaaGreatDoorBuMgSaLaw08
import Derived.Laws.EntriesVeiled
set_option linter.unusedSimpArgs false
set_option linter.unusedVariables false
namespace Go.Proofs.YtadokkffmekndaaGreatDoor
open Go.RowKit

end Go.Proofs.YtadokkffmekndaaGreatDoor

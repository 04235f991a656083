/- hornbookref08.Rising walked. -/
import Derived.Test.YtadokkffmekndaaGreatDoorBuMgAgLaw01
import Derived.Test.YtadokkffmekndaaGreatDoorBuMgAgLaw10
import Derived.Test.YtadokkffmekndaaGreatDoorBuMgAgLaw32
set_option linter.unusedSimpArgs false
set_option linter.unusedVariables false
namespace Go.Proofs.YtadokkffmekndaaGreatDoor
open Go.RowKit

end Go.Proofs.YtadokkffmekndaaGreatDoor

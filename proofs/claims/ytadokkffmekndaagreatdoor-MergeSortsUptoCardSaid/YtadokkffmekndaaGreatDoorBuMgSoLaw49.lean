/- hornbookref08.Rising walked. -/
import Derived.Test.YtadokkffmekndaaGreatDoorBuMgSoLaw01
import Derived.Test.YtadokkffmekndaaGreatDoorBuMgSoLaw10
import Derived.Test.YtadokkffmekndaaGreatDoorBuMgSoLaw32
set_option linter.unusedSimpArgs false
set_option linter.unusedVariables false
namespace Go.Proofs.YtadokkffmekndaaGreatDoor
open Go.RowKit

end Go.Proofs.YtadokkffmekndaaGreatDoor

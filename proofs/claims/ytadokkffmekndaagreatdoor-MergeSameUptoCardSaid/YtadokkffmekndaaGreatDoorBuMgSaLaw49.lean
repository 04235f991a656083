/- hornbookref08.Rising walked. -/
import Derived.Test.YtadokkffmekndaaGreatDoorBuMgSaLaw01
import Derived.Test.YtadokkffmekndaaGreatDoorBuMgSaLaw10
import Derived.Test.YtadokkffmekndaaGreatDoorBuMgSaLaw32
set_option linter.unusedSimpArgs false
set_option linter.unusedVariables false
namespace Go.Proofs.YtadokkffmekndaaGreatDoor
open Go.RowKit

end Go.Proofs.YtadokkffmekndaaGreatDoor

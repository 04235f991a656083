/- hornbookref08.Rising walked. -/
import Derived.Test.YtadokkffmekndaaGreatDoorBuMgReLaw01
import Derived.Test.YtadokkffmekndaaGreatDoorBuMgReLaw10
import Derived.Test.YtadokkffmekndaaGreatDoorBuMgReLaw32
set_option linter.unusedSimpArgs false
set_option linter.unusedVariables false
namespace Go.Proofs.YtadokkffmekndaaGreatDoor
open Go.RowKit

end Go.Proofs.YtadokkffmekndaaGreatDoor

/- hornbookref08 (lists of texts that rise): merge and Of walked. · hornbookref08.Of walked. · hornbookref08: Union, halve and Has walked. -/
import Derived.Test.YtadokkffmekndaaGreatDoorBuMgAgLaw01
import Derived.Test.YtadokkffmekndaaGreatDoorBuMgAgLaw04
import Derived.Test.YtadokkffmekndaaGreatDoorBuMgAgLaw11
import Derived.Test.YtadokkffmekndaaGreatDoorProg
import Derived.Deep.RegionHeld3
import Derived.Deep.QuietTactic
import Derived.BigQuiet
import Derived.BigRegion
set_option linter.unusedSimpArgs false
set_option linter.unusedVariables false
namespace Go.Proofs.YtadokkffmekndaaGreatDoor
section
open Go.RowKit

abbrev tSt : TypeId := 9
end

section
section
open Go.RowKit

end

section
open Go.RowKit

end
end
end Go.Proofs.YtadokkffmekndaaGreatDoor

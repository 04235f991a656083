/- The document's store (hornbookref05): Size, Live, Read walked. · The document's store (hornbookref05): Read, Remove walked. · The document's store (hornbookref05): Remove walked. · The document's store (hornbookref05): Append walked. · runs: the document's store on things: what 'says' calls. -/
import Derived.Test.YtadokkffmekndaaGreatDoorBuMgAgLaw38
import Derived.Test.YtadokkffmekndaaGreatDoorBuMgAgLaw27
import Derived.Deep.DeepCutAuto
set_option linter.unusedSimpArgs false
set_option linter.unusedVariables false
namespace Go.Proofs.YtadokkffmekndaaGreatDoor
section
open Go.RowKit

section
variable {w : World} {rb : Nat} {S : St} {rv : Value} {rs : List RR}
end

end

section
open Go.RowKit

end

section
open Go.RowKit

end

section
open Go.RowKit

end

section
open Go.RowKit

section
variable {W w : World} {R : Thing} {rb : Nat} {S : St}
end
end
end Go.Proofs.YtadokkffmekndaaGreatDoor

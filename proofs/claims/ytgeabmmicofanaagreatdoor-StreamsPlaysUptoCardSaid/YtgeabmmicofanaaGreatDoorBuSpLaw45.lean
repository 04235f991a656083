/- The document's store (hornbookref05): Size, Live, Read walked. · The document's store (hornbookref05): Read, Remove walked. · The document's store (hornbookref05): Remove walked. · The document's store (hornbookref05): Append walked. · runs: the document's store on things: what 'says' calls. -/
import Derived.Test.YtgeabmmicofanaaGreatDoorBuSpLaw44
import Derived.Test.YtgeabmmicofanaaGreatDoorBuSpLaw41
import Derived.Deep.DeepCutAuto
set_option linter.unusedSimpArgs false
set_option linter.unusedVariables false
namespace Go.Proofs.YtgeabmmicofanaaGreatDoor
end Go.Proofs.YtgeabmmicofanaaGreatDoor

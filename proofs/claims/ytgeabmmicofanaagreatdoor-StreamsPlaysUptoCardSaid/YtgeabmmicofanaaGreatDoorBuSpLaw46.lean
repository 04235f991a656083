/- hornbookref06: the document's writer walked: Open, Drop, Put, Close. · record.From refused; the document's Open at a bad block. -/
import Derived.Test.YtgeabmmicofanaaGreatDoorBuSpLaw42
import Derived.Test.YtgeabmmicofanaaGreatDoorBuSpLaw45
import Derived.Test.YtgeabmmicofanaaGreatDoorBuSpLaw22
import Derived.Test.YtgeabmmicofanaaGreatDoorBuSpLaw30
set_option linter.unusedSimpArgs false
set_option linter.unusedVariables false
namespace Go.Proofs.YtgeabmmicofanaaGreatDoor
end Go.Proofs.YtgeabmmicofanaaGreatDoor
namespace Go.Proofs.YtgeabmmicofanaaGreatDoor
open Go.RowKit

section
variable {W w : World} {R : Thing} {b rb : Nat} {ef : Nat → Nat × Nat} {S : St}
end
end Go.Proofs.YtgeabmmicofanaaGreatDoor

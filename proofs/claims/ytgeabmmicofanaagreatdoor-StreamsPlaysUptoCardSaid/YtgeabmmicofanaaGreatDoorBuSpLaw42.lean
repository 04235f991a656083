/- record.Writer: Drop walked; Open refused. · record: calls of no writer and of no reader. · The failures that a writer's calls answer: no program in sight. · How many runs were made; a store stays good: no program in sight. · A run just made; a reader that From makes: no program in sight. -/
import Derived.Test.YtgeabmmicofanaaGreatDoorBuSpLaw23
import Derived.Test.YtgeabmmicofanaaGreatDoorBuSpLaw15
import Derived.Test.YtgeabmmicofanaaGreatDoorBuSpLaw19
import Derived.Test.YtgeabmmicofanaaGreatDoorBuSpLaw30
set_option linter.unusedSimpArgs false
set_option linter.unusedVariables false
namespace Go.Proofs.YtgeabmmicofanaaGreatDoor
open Go.RowKit

def dropP (S : St) (x : WrD) : St × WrD := if x.dead = 13 then (S, x) else ((removeP S x.run).1, { x with dead := 13 })
section
variable {W w : World} {R : Thing} {b : Nat} {ef : Nat → Nat × Nat} {S : St}
end
end Go.Proofs.YtgeabmmicofanaaGreatDoor
namespace Go.Proofs.YtgeabmmicofanaaGreatDoor
open Go.RowKit

section
variable {W w : World} {ef : Nat → Nat × Nat}
end
end Go.Proofs.YtgeabmmicofanaaGreatDoor
namespace Go.Proofs.YtgeabmmicofanaaGreatDoor
open Go.RowKit
end Go.Proofs.YtgeabmmicofanaaGreatDoor
namespace Go.Proofs.YtgeabmmicofanaaGreatDoor

end Go.Proofs.YtgeabmmicofanaaGreatDoor
namespace Go.Proofs.YtgeabmmicofanaaGreatDoor

end Go.Proofs.YtgeabmmicofanaaGreatDoor

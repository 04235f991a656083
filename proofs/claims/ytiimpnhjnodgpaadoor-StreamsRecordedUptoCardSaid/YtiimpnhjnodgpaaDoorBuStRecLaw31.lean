/- record.Writer: Drop walked; Open refused. · record: calls of no writer and of no reader. -/
import Derived.Test.YtiimpnhjnodgpaaDoorBuStRecLaw28
import Derived.Test.YtiimpnhjnodgpaaDoorBuStRecLaw22
import Derived.Test.YtiimpnhjnodgpaaDoorBuStRecLaw26
import Derived.Test.YtiimpnhjnodgpaaDoorBuStRecLaw30
namespace Go.Proofs.YtiimpnhjnodgpaaDoor
open Go.RowKit

def dropP (S : St) (x : WrD) : St × WrD := if x.dead = 13 then (S, x) else ((removeP S x.run).1, { x with dead := 13 })
section
variable {W w : World} {R : Thing} {b : Nat} {ef : Nat → Nat × Nat} {S : St}
end
end Go.Proofs.YtiimpnhjnodgpaaDoor
namespace Go.Proofs.YtiimpnhjnodgpaaDoor
open Go.RowKit

section
variable {W w : World} {ef : Nat → Nat × Nat}
end
end Go.Proofs.YtiimpnhjnodgpaaDoor

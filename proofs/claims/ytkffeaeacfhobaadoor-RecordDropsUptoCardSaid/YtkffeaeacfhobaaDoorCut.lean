/- A statement that only ends normally: what follows, and nothing of the loops around it. -/
import Derived.Test.YtkffeaeacfhobaaDoorRunsEql
import Derived.Deep.RegionWith
namespace Go.Proofs.YtkffeaeacfhobaaDoor
open Go.RowKit

def Only (K : Act → World → Prop) : Exit → Act → World → Prop
  | .normal, a, w => K a w
  | _, _, _ => False
theorem wp_only {P : Program} {s : Code} {K : Act → World → Prop} {Q : Exit → Act → World → Prop} {a : Act} {w : World}
    (h : s.wp P (fun e a w => match e with | .normal => K a w | _ => False) a w) : s.wp P (Exit.then K Q) a w := by
  refine wp_mono h ?_
  intro e a' w' hq
  cases e with
  | normal => exact hq
  | _ => exact hq.elim
end Go.Proofs.YtkffeaeacfhobaaDoor

/- runs: the law's own 'wakes'. · A statement that only ends normally: what follows, and nothing of the loops around it. -/
import Derived.Test.YtgeabmmicofanaaGreatDoorBuSpLaw15
import Derived.Deep.RegionWith
set_option linter.unusedSimpArgs false
set_option linter.unusedVariables false
namespace Go.Proofs.YtgeabmmicofanaaGreatDoor
open Go.RowKit

def wkS1 : St := ⟨5, 0, 0, 1, 0, [(1, ⟨[], false⟩)]⟩
def wkS2 : St := ⟨5, 3, 3, 1, 0, [(1, ⟨[97, 98, 99], false⟩)]⟩
theorem RdRow.of_block {w : World} {g : Nat} {cs : Array Value} {T : TypeId} {fr : Nat × Nat} {n size : Nat} (hg : w.heap[g]? = some (.cells cs T fr)) (h : cs.size = n * size) (hn : n ≤ maxLen) : RdRow w (.slice (some ⟨g, 0, none⟩) n n) n size cs.toList := by
  refine ⟨by simpa using h, _, _, rfl, Nat.le_refl _, hn, fun j u hu => ⟨_, _, rfl, ?_⟩⟩
  have h1 : cs[j]? = some u := by simpa using hu
  simp [World.cell?, hg, h1]

end Go.Proofs.YtgeabmmicofanaaGreatDoor
namespace Go.Proofs.YtgeabmmicofanaaGreatDoor
open Go.RowKit

def Only (K : Act → World → Prop) : Exit → Act → World → Prop
  | .normal, a, w => K a w
  | _, _, _ => False
theorem wp_only {P : Program} {s : Code} {K : Act → World → Prop} {Q : Exit → Act → World → Prop} {a : Act} {w : World}
    (h : s.wp P (fun e a w => match e with | .normal => K a w | _ => False) a w) : s.wp P (Exit.then K Q) a w := by
  refine wp_mono h ?_
  intro e a' w' hq
  cases e with
  | normal => exact hq
  | _ => exact hq.elim
end Go.Proofs.YtgeabmmicofanaaGreatDoor

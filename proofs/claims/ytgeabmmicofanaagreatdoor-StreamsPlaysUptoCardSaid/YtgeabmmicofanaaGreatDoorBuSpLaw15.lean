/- runs: the contracts to use: a store of the call's own. · a failure is itself. · Two failures compared. -/
import Derived.Test.YtgeabmmicofanaaGreatDoorBuSpLaw10
import Derived.Test.YtgeabmmicofanaaGreatDoorBuSpLaw14
import Derived.LaidEql
set_option linter.unusedSimpArgs false
set_option linter.unusedVariables false
namespace Go.Proofs.YtgeabmmicofanaaGreatDoor
open Go.RowKit

/-- In w a store that holds S lies in block b, all of it made since W. -/
structure HoldS (W w : World) (b : Nat) (S : St) : Prop where
  below : Below W.heap.size W w
  store : ∃ mb blk val, StoreI w b mb blk val S ∧ ∀ k ∈ fpS b mb blk val S, W.heap.size ≤ k

theorem HoldS.mono {W w w' : World} {b : Nat} {S : St} (h : HoldS W w b S) (hb : Below w.heap.size w w') : HoldS W w' b S := by
  obtain ⟨mb, blk, val, h1, h2⟩ := h.store
  exact ⟨h.below.trans (hb.mono h.below.size), mb, blk, val, h1.below hb, h2⟩
theorem HoldS.post {W w w' : World} {b mb : Nat} {blk : Nat → Nat} {val : Nat → Value} {S S' : St} (hb : Below W.heap.size W w) (h2 : ∀ k ∈ fpS b mb blk val S, W.heap.size ≤ k)
    (hp : StPost w b mb blk val S S' w') : HoldS W w' b S' := by
  obtain ⟨blk', val', h1, hu, hg⟩ := hp
  refine ⟨hb.trans (hu.below hb.size h2), mb, blk', val', h1, fun k hk => ?_⟩
  rcases hg k hk with h | h
  · exact h2 k h
  · exact Nat.le_trans hb.size h
theorem fails_upd {W w : World} {ef : Nat → Nat × Nat} {fl : List (Nat × Nat)} (hF : Fails W ef fl) (hb : Below W.heap.size W w) {b : Nat} (hB : W.heap.size ≤ b) : ∀ w', Upd [b] w w' → Fails w' ef fl := fun w' hu =>
  hF.below (hb.trans (hu.below hb.size (by simpa using hB)))

section
variable {W w : World} {b : Nat} {S : St} {ef : Nat → Nat × Nat} {fl : List (Nat × Nat)}
end
end Go.Proofs.YtgeabmmicofanaaGreatDoor
namespace Go.Proofs.YtgeabmmicofanaaGreatDoor
open Go.RowKit
end Go.Proofs.YtgeabmmicofanaaGreatDoor
namespace Go.Proofs.YtgeabmmicofanaaGreatDoor
open Go.RowKit

end Go.Proofs.YtgeabmmicofanaaGreatDoor

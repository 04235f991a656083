/- heap: a reference's list in new memory. -/
import Derived.Test.YtgahkodbjokgfaaHeapPlays
namespace Go.Proofs.Ytgahkodbjokgfaa
open Go.RowKit

/-- A reference's list in memory that is new since w0. -/
structure NewR (w0 : World) (b : Nat) (M : List It) (v : Value) (wr : World) : Prop where
  ref : RefH wr b M v
  own : ∀ k ∈ b :: rowOf v, w0.heap.size ≤ k
  below : Below w0.heap.size w0 wr
theorem NewR.step {w0 wr w' : World} {b : Nat} {M M' : List It} {v v' : Value} (h : NewR w0 b M v wr) (hr : RefH w' b M' v') (hu : Upd (b :: rowOf v) wr w') (hg : Grow wr (b :: rowOf v) (b :: rowOf v')) : NewR w0 b M' v' w' :=
  ⟨hr, fun k hk => (hg k hk).elim (h.own k) (fun h1 => Nat.le_trans h.below.size h1), h.below.trans (hu.below h.below.size h.own)⟩
theorem NewR.start (w : World) : NewR w w.heap.size [] (.slice none 0 0) (w.alloc (.cells #[.slice none 0 0] tRH)) :=
  ⟨⟨heap_alloc_new _ _, by simpa [cellsI] using World.ownsRow_nil _ _ _ _⟩, fun k hk => by simp [rowOf, Value.ownBlock] at hk; omega, (Below.refl _ _).alloc (Nat.le_refl _) _⟩
end Go.Proofs.Ytgahkodbjokgfaa

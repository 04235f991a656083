/- record.Frame walked. · hornbookref06.Frame, the law's twin and list, walked. -/
import Derived.Test.YtiimpnhjnodgpaaDoorBuStRecLaw14
import Derived.Test.YtiimpnhjnodgpaaDoorBuStRecLaw12
import Derived.Test.YtiimpnhjnodgpaaDoorBuStRecLaw20
namespace Go.Proofs.YtiimpnhjnodgpaaDoor
open Go.RowKit

/-- The loop of Frame: k records are written. -/
def FrAt (w : World) (ss : List (List UInt8)) (k : Nat) (wr : World) : Prop :=
  k ≤ ss.length ∧ (∀ j, j < k → ∀ r, ss[j]? = some r → r.length ≤ 255) ∧ Lib.IsBuilder tB tU8 w.heap.size w.heap.size (bvs (frameL (ss.take k))) wr ∧ Below w.heap.size w wr

end Go.Proofs.YtiimpnhjnodgpaaDoor
namespace Go.Proofs.YtiimpnhjnodgpaaDoor
open Go.RowKit

/-- A piece of a text is written, byte by byte: of r the first j behind what was there. -/
def CopyAt (w0 : World) (base : List UInt8) (r : ByteArray) (v : Value) (j : Nat) (wr : World) : Prop :=
  j ≤ r.size ∧ wr.ownsRow w0.heap.size 5 1 v (base.length + j) (bvs (base ++ r.data.toList.take j)) ∧ Below w0.heap.size w0 wr
theorem CopyAt.next {w0 wr w1 : World} {base : List UInt8} {r : ByteArray} {v v1 : Value} {j : Nat} (h : CopyAt w0 base r v j wr) (hj : j < r.size) (hB : w0.heap.size ≤ wr.heap.size)
    (hown : w1.ownsRow w0.heap.size 5 1 v1 (base.length + j + 1) (bvs ((base ++ r.data.toList.take j) ++ [r[j]]))) (hg : wr.grownBy w1 v.ownBlock) : CopyAt w0 base r v1 (j + 1) w1 := by
  refine ⟨hj, ?_, grownOwn h.2.2 hB h.2.1 hg⟩
  have e : r.data.toList.take (j + 1) = r.data.toList.take j ++ [r[j]] := by
    rw [List.take_succ_eq_append_getElem (by simpa using hj)]; rfl
  rw [e, ← List.append_assoc]
  exact hown

theorem CopyAt.start {w0 wr : World} {base : List UInt8} (r : ByteArray) {v : Value} (hown : wr.ownsRow w0.heap.size 5 1 v base.length (bvs base)) (hb : Below w0.heap.size w0 wr) : CopyAt w0 base r v 0 wr :=
  ⟨Nat.zero_le _, by simpa using hown, hb⟩
theorem CopyAt.whole {w0 wr : World} {base l : List UInt8} {r : ByteArray} {v : Value} {j : Nat} (h : CopyAt w0 base r v j wr) (hj : ¬ j < r.size) (hl : l = base ++ r.data.toList) : wr.ownsRow w0.heap.size 5 1 v l.length (bvs l) := by
  obtain ⟨h1, h2, _⟩ := h
  have hj : j = r.size := by omega
  subst hl
  subst hj
  rw [List.length_append]
  have e : r.data.toList.length = r.size := by simp
  rw [e]
  rwa [List.take_of_length_le (by simp)] at h2

end Go.Proofs.YtiimpnhjnodgpaaDoor

/- A heap where all are alike: a queue. -/
import Derived.Test.YtgahkodbjokgfaaHeapSortP
namespace Go.Proofs.Ytgahkodbjokgfaa
open Go.RowKit

theorem leastAt_N (L : List It) : ∀ k, leastAt ltN L k = 0
  | 0 => rfl
  | k + 1 => by rw [leastAt]; exact (if_neg (by simp [ltN])).trans (leastAt_N L k)
theorem firstR_N (L : List It) : firstR ltN L = L.getD 0 default := by unfold firstR; rw [leastAt_N]
theorem leftR_N (L : List It) : leftR ltN L = L.tail := by unfold leftR; rw [leastAt_N]; exact List.eraseIdx_zero
theorem drainR_N : ∀ (n : Nat) (L : List It), L.length = n → drainR ltN n L = L
  | 0, L, h => by rw [List.length_eq_zero_iff.1 h]; rfl
  | n + 1, L, h => by
    cases L with
    | nil => simp at h
    | cons x L =>
      rw [drainR, if_neg (by simp), firstR_N, leftR_N]
      show x :: drainR ltN n L = x :: L
      rw [drainR_N n L (by simpa using h)]

/-- What the queue holds when i of 'more' have gone through. -/
def queueAt (items more : List It) (i : Nat) : List It := ((items ++ more).take (items.length + i)).drop i
theorem queueAt_zero (items more : List It) : queueAt items more 0 = items := by simp [queueAt]
theorem queueAt_end (items more : List It) : queueAt items more more.length = (items ++ more).drop more.length := by
  unfold queueAt; rw [List.take_of_length_le (by simp)]
theorem queueAt_length (items more : List It) (i : Nat) (h : i ≤ more.length) : (queueAt items more i).length = items.length := by
  unfold queueAt; rw [List.length_drop, List.length_take, List.length_append]; omega
theorem queueAt_push (items more : List It) (i : Nat) (h : i < more.length) :
    queueAt items more i ++ [more.getD i default] = (items ++ more).getD i default :: queueAt items more (i + 1) := by
  have e1 : (items ++ more).take (items.length + (i + 1)) = (items ++ more).take (items.length + i) ++ [more.getD i default] := by
    rw [← Nat.add_assoc, List.take_add_one]
    congr 1
    rw [List.getElem?_append_right (by omega), Nat.add_sub_cancel_left, List.getElem?_eq_getElem h]
    simp [List.getD_eq_getElem?_getD, h]
  have e2 : queueAt items more i ++ [more.getD i default] = ((items ++ more).take (items.length + (i + 1))).drop i := by
    rw [e1, List.drop_append_of_le_length (by rw [List.length_take, List.length_append]; omega)]; rfl
  rw [e2]
  have hl : i < ((items ++ more).take (items.length + (i + 1))).length := by rw [List.length_take, List.length_append]; omega
  rw [List.drop_eq_getElem_cons hl, List.getElem_take]
  unfold queueAt
  congr 1
  rw [List.getD_eq_getElem?_getD, List.getElem?_eq_getElem (by rw [List.length_append]; omega)]; rfl
end Go.Proofs.Ytgahkodbjokgfaa

/- HeapWords: its arguments as the walk wants them. -/
import Derived.Test.YtgahkodbjokgfaaOpen
import Derived.Test.YtgahkodbjokgfaaWdWalk
namespace Go.Proofs.Ytgahkodbjokgfaa
open Go.RowKit

theorem strs_texts (ss : List (List UInt8)) : strs ss = wd.cellsT (ss.map fun r => ⟨r.toArray⟩) := by simp [strs, wd.cellsT]
theorem heapWords_walk (w : World) (s0 : List (List UInt8)) (v0 : Value) (rd0 : RdRow w v0 s0.length 1 (strs s0)) (h0 : s0.length + sumLen s0 ≤ 1048576) (s1 : List (List UInt8)) (v1 : Value) (rd1 : RdRow w v1 s1.length 1 (strs s1)) (h1 : s1.length + sumLen s1 ≤ 1048576) :
    Calls Try.prog 7 #[v0, v1] w fun e w' => e = .returned (.bool true) ∧ Below w.heap.size w w' :=
  wd.heapWords_walk w (s0.map fun r => ⟨r.toArray⟩) v0 (by rw [← strs_texts, List.length_map]; exact rd0) (by rw [List.length_map]; omega) (s1.map fun r => ⟨r.toArray⟩) v1 (by rw [← strs_texts, List.length_map]; exact rd1) (by rw [List.length_map]; omega)
end Go.Proofs.Ytgahkodbjokgfaa

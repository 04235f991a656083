/- runs: the law's own 'plays', walked: what all its ways share. -/
import Derived.Test.YtomlkhfmblkpcaaDoorRunsOp
namespace Go.Proofs.YtomlkhfmblkpcaaDoor
open Go.RowKit

abbrev zeroAns : Array Value := #[.int .i64 0, .int .i64 0, .string ⟨#[]⟩, .slice none 0 0]
abbrev opCells (o : OpD) : Array Value := #[.int .i64 o.k, .int .i64 o.run, .int .i64 o.pos, .int .i64 o.n, o.v]
/-- Behind the call's own three blocks. -/
theorem At.three {W w : World} {Φ : Thing} (h : At W w Φ) (hs : Stable Φ) (o : OpD) :
    At W (((w.alloc (.cells (opCells o) tOp)).alloc (.cells zeroAns tAns)).alloc (.cells zeroAns tAns)) (Both (CellT (w.heap.size + 2) zeroAns tAns) (Both (CellT (w.heap.size + 1) zeroAns tAns) (Both (CellT w.heap.size (opCells o) tOp) Φ))) := by
  have h1 := h.newCell hs (opCells o) tOp
  have h2 := h1.newCell ((CellT.stable _ _ _).both hs) zeroAns tAns
  have h3 := h2.newCell ((CellT.stable _ _ _).both ((CellT.stable _ _ _).both hs)) zeroAns tAns
  simpa using h3
theorem three_stable {R : Thing} (hR : Stable R) (k1 k2 k3 : Nat) (c1 c2 c3 : Array Value) (T1 T2 T3 : TypeId) : Stable (Both (CellT k1 c1 T1) (Both (CellT k2 c2 T2) (Both (CellT k3 c3 T3) R))) :=
  (CellT.stable _ _ _).both ((CellT.stable _ _ _).both ((CellT.stable _ _ _).both hR))
theorem At.fourth {W w : World} {A B C D E : Thing} (h : At W w (Both A (Both B (Both C (Both D E))))) : At W w (Both D (Both A (Both B (Both C E)))) := by
  obtain ⟨hb, fp, ⟨f, g, h1, ⟨f2, g2, h2, ⟨f3, g3, h3, ⟨f4, g4, h4, h5, m1, m2⟩, i1, i2⟩, j1, j2⟩, l1, l2⟩, h6⟩ := h
  have hg3 : ∀ k, k ∈ g3 ↔ k ∈ f4 ∨ k ∈ g4 := m2
  refine ⟨hb, fp, ⟨f4, f ++ (f2 ++ (f3 ++ g4)), h4, ⟨f, f2 ++ (f3 ++ g4), h1, ⟨f2, f3 ++ g4, h2, ⟨f3, g4, h3, h5, fun k hk hk' => i1 k hk ((m2 k).2 (.inr hk')), fun k => List.mem_append⟩, fun k hk hk' => ?_, fun k => List.mem_append⟩, fun k hk hk' => ?_, fun k => List.mem_append⟩, fun k hk hk' => ?_, fun k => ?_⟩, h6⟩
  · rcases List.mem_append.1 hk' with h | h
    · exact j1 k hk ((i2 k).2 (.inl h))
    · exact j1 k hk ((i2 k).2 (.inr ((m2 k).2 (.inr h))))
  · refine l1 k hk ((j2 k).2 ?_)
    rcases List.mem_append.1 hk' with h | h
    · exact .inl h
    · refine .inr ((i2 k).2 ?_)
      rcases List.mem_append.1 h with h | h
      · exact .inl h
      · exact .inr ((m2 k).2 (.inr h))
  · rcases List.mem_append.1 hk' with h | h
    · exact l1 k h ((j2 k).2 (.inr ((i2 k).2 (.inr ((m2 k).2 (.inl hk))))))
    · rcases List.mem_append.1 h with h | h
      · exact j1 k h ((i2 k).2 (.inr ((m2 k).2 (.inl hk))))
      · rcases List.mem_append.1 h with h | h
        · exact i1 k h ((m2 k).2 (.inl hk))
        · exact m1 k hk h
  · rw [l2, j2, i2, m2, List.mem_append, List.mem_append, List.mem_append]
    constructor
    · rintro (h | h | h | h | h) <;> simp [h]
    · rintro (h | h | h | h | h) <;> simp [h]

end Go.Proofs.YtomlkhfmblkpcaaDoor

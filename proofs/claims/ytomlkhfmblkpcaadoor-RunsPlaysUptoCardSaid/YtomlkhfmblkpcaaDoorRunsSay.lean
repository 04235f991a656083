/- runs: the document's store on things: what 'says' calls. -/
import Derived.Test.YtomlkhfmblkpcaaDoorRunsRef8
import Derived.Test.YtomlkhfmblkpcaaDoorRunsPlay
namespace Go.Proofs.YtomlkhfmblkpcaaDoor
open Go.RowKit

section
variable {W w : World} {R : Thing} {rb : Nat} {S : St}
theorem At.refC (h : At W w (Both (RefT rb S) R)) : w.cell? ⟨rb, 1, none⟩ = some (.int .i64 S.peak) ∧ w.cell? ⟨rb, 2, none⟩ = some (.int .i64 S.made) := by
  obtain ⟨rv, rs, hr, h2⟩ := h.ref
  obtain ⟨_, c1, c2, _, _⟩ := (h2.refR hr).c
  exact ⟨c1, c2⟩
theorem rUsed_at (h : At W w (Both (RefT rb S) R)) (hG : GoodS S) :
    Calls Tryd.prog 42 #[.pointer (some ⟨rb, 0, none⟩)] w fun e w' => e = .returned (.int .i64 S.used) ∧ w = w' := by
  obtain ⟨rv, rs, hr, h2⟩ := h.ref
  exact rUsed_calls (h2.refR hr) hG
theorem rSize_at (h : At W w (Both (RefT rb S) R)) (hG : GoodS S) {z : Int} (hz : inI64 z) :
    Calls Tryd.prog 39 #[.pointer (some ⟨rb, 0, none⟩), .int .i64 z] w fun e w' => e = .returned (.tuple #[.int .i64 (sizeN S z), .int .i64 (sizeC S z)]) ∧ w = w' := by
  obtain ⟨rv, rs, hr, h2⟩ := h.ref
  exact rSize_calls (h2.refR hr) hG hz
theorem rRead_at (h : At W w (Both (RefT rb S) R)) (hG : GoodS S) {z a n : Int} (hz : inI64 z) (ha : inI64 a) (hn : inI64 n) :
    Calls Tryd.prog 38 #[.pointer (some ⟨rb, 0, none⟩), .int .i64 z, .int .i64 a, .int .i64 n] w fun e w' => e = .returned (.tuple #[.string ⟨(readT S z a n).toArray⟩, .int .i64 (readC S z a n)]) ∧ w = w' := by
  obtain ⟨rv, rs, hr, h2⟩ := h.ref
  exact rRead_calls (h2.refR hr) hG hz ha hn
end
end Go.Proofs.YtomlkhfmblkpcaaDoor

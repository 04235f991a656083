/- The eight failures of the scripts' rows. -/
import Derived.Test.YtomlkhfmblkpcaaDoorSent
namespace Go.Proofs.YtomlkhfmblkpcaaDoor
open Go.ChangeShapes Go.WideShapes Go.RowKit
def names8 : List (String × List UInt8) := [("hornbook/api.FailNil", [110, 111, 32, 111, 98, 106, 101, 99, 116]), ("hornbook/api.FailNoRun", [110, 111, 32, 115, 117, 99, 104, 32, 114, 117, 110]), ("hornbook/api.FailSealed", [116, 104, 101, 32, 114, 117, 110, 32, 105, 115, 32, 115, 101, 97, 108, 101, 100]), ("hornbook/api.FailOpen", [116, 104, 101, 32, 114, 117, 110, 32, 105, 115, 32, 110, 111, 116, 32, 115, 101, 97, 108, 101, 100]), ("hornbook/api.FailRange", [110, 111, 32, 115, 117, 99, 104, 32, 112, 108, 97, 99, 101, 32, 105, 110, 32, 116, 104, 101, 32, 114, 117, 110]), ("hornbook/api.FailFull", [116, 104, 101, 32, 115, 116, 111, 114, 101, 32, 105, 115, 32, 102, 117, 108, 108]), ("hornbook/api.FailSpent", [110, 111, 32, 114, 117, 110, 32, 110, 117, 109, 98, 101, 114, 32, 105, 115, 32, 108, 101, 102, 116]), ("hornbook/api.FailBroken", [116, 104, 101, 32, 115, 116, 111, 114, 101, 32, 114, 101, 102, 117, 115, 101, 100, 32, 97, 32, 115, 116, 101, 112])]
theorem gt8_all : ∀ x ∈ names8, ∃ g, Tryd.prog.globalNamed x.1 = some g ∧ (Tryd.prog.globals[g]?).map (·.type) = some tErr := by
  intro x hx
  simp only [names8, List.mem_cons, List.not_mem_nil, or_false] at hx
  rcases hx with rfl | rfl | rfl | rfl | rfl | rfl | rfl | rfl
  · exact ⟨3, by kernel_rfl, by kernel_rfl⟩
  · exact ⟨5, by kernel_rfl, by kernel_rfl⟩
  · exact ⟨6, by kernel_rfl, by kernel_rfl⟩
  · exact ⟨2, by kernel_rfl, by kernel_rfl⟩
  · exact ⟨7, by kernel_rfl, by kernel_rfl⟩
  · exact ⟨0, by kernel_rfl, by kernel_rfl⟩
  · exact ⟨1, by kernel_rfl, by kernel_rfl⟩
  · exact ⟨4, by kernel_rfl, by kernel_rfl⟩

theorem fails8_of {W : World} (h : laidMet Tryd.prog (names8.map sentD) W) : ∃ e, Fails W e failsAll := by
  obtain ⟨ps, h1, h2, h3⟩ := h
  obtain ⟨al, g1, _, g3⟩ := sents_of Tryd.underlying26 rowES Tryd.underlying122 Tryd.underlying136 rfl rfl Tryd.underlying9 cellsES cellsStr names8 ps gt8_all h1 h3
  have hn : ∀ (i : Nat) (x : Nat × Nat), failsAll[i]? = some x → ∃ n, (names8.map (·.1))[i]? = some n ∧ Tryd.prog.globalNamed n = some x.2 := fun i x hx => by
    match i with
    | 0 => cases hx; exact ⟨_, rfl, by kernel_rfl⟩
    | 1 => cases hx; exact ⟨_, rfl, by kernel_rfl⟩
    | 2 => cases hx; exact ⟨_, rfl, by kernel_rfl⟩
    | 3 => cases hx; exact ⟨_, rfl, by kernel_rfl⟩
    | 4 => cases hx; exact ⟨_, rfl, by kernel_rfl⟩
    | 5 => cases hx; exact ⟨_, rfl, by kernel_rfl⟩
    | 6 => cases hx; exact ⟨_, rfl, by kernel_rfl⟩
    | 7 => cases hx; exact ⟨_, rfl, by kernel_rfl⟩
    | i + 8 => simp [failsAll] at hx
  obtain ⟨e, f1, f2, f3⟩ := fails_of (fl := failsAll) tES g3 hn (pairwise_of g1 h2) (by decide)
  exact ⟨e, f1, f2, f3⟩
end Go.Proofs.YtomlkhfmblkpcaaDoor

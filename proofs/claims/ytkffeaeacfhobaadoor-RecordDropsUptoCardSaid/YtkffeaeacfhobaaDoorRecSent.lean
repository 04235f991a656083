/- The twelve failures of the records' rows (written by port/recsent.py). -/
import Derived.Test.YtkffeaeacfhobaaDoorSent
namespace Go.Proofs.YtkffeaeacfhobaaDoor
open Go.ChangeShapes Go.WideShapes Go.RowKit

def names12 : List (String × List UInt8) := [("hornbook/api.FailNil", [110, 111, 32, 111, 98, 106, 101, 99, 116]), ("hornbook/api.FailLimits", [97, 32, 110, 117, 109, 98, 101, 114, 32, 111, 117, 116, 32, 111, 102, 32, 105, 116, 115, 32, 114, 97, 110, 103, 101]), ("hornbook/api.FailNoRun", [110, 111, 32, 115, 117, 99, 104, 32, 114, 117, 110]), ("hornbook/api.FailSealed", [116, 104, 101, 32, 114, 117, 110, 32, 105, 115, 32, 115, 101, 97, 108, 101, 100]), ("hornbook/api.FailOpen", [116, 104, 101, 32, 114, 117, 110, 32, 105, 115, 32, 110, 111, 116, 32, 115, 101, 97, 108, 101, 100]), ("hornbook/api.FailRange", [110, 111, 32, 115, 117, 99, 104, 32, 112, 108, 97, 99, 101, 32, 105, 110, 32, 116, 104, 101, 32, 114, 117, 110]), ("hornbook/api.FailFull", [116, 104, 101, 32, 115, 116, 111, 114, 101, 32, 105, 115, 32, 102, 117, 108, 108]), ("hornbook/api.FailSpent", [110, 111, 32, 114, 117, 110, 32, 110, 117, 109, 98, 101, 114, 32, 105, 115, 32, 108, 101, 102, 116]), ("hornbook/api.FailBroken", [116, 104, 101, 32, 115, 116, 111, 114, 101, 32, 114, 101, 102, 117, 115, 101, 100, 32, 97, 32, 115, 116, 101, 112]), ("hornbook/api.FailRecord", [116, 104, 101, 32, 114, 101, 99, 111, 114, 100, 32, 105, 115, 32, 116, 111, 111, 32, 108, 111, 110, 103]), ("hornbook/api.FailTorn", [116, 104, 101, 32, 114, 117, 110, 32, 105, 115, 32, 116, 111, 114, 110]), ("hornbook/api.FailClosed", [99, 108, 111, 115, 101, 100])]
def fails12 : List (Nat × Nat) := [(1, 2), (2, 0), (3, 5), (4, 8), (5, 6), (6, 7), (7, 9), (8, 10), (9, 11), (10, 3), (11, 4), (13, 1)]
theorem gt_names12 : ∀ x ∈ names12, ∃ g, Tryd.prog.globalNamed x.1 = some g ∧ (Tryd.prog.globals[g]?).map (·.type) = some tErr := by
  intro x hx
  simp only [names12, List.mem_cons, List.not_mem_nil, or_false] at hx
  rcases hx with rfl | rfl | rfl | rfl | rfl | rfl | rfl | rfl | rfl | rfl | rfl | rfl
  · exact ⟨2, by kernel_rfl, by kernel_rfl⟩
  · exact ⟨0, by kernel_rfl, by kernel_rfl⟩
  · exact ⟨5, by kernel_rfl, by kernel_rfl⟩
  · exact ⟨8, by kernel_rfl, by kernel_rfl⟩
  · exact ⟨6, by kernel_rfl, by kernel_rfl⟩
  · exact ⟨7, by kernel_rfl, by kernel_rfl⟩
  · exact ⟨9, by kernel_rfl, by kernel_rfl⟩
  · exact ⟨10, by kernel_rfl, by kernel_rfl⟩
  · exact ⟨11, by kernel_rfl, by kernel_rfl⟩
  · exact ⟨3, by kernel_rfl, by kernel_rfl⟩
  · exact ⟨4, by kernel_rfl, by kernel_rfl⟩
  · exact ⟨1, by kernel_rfl, by kernel_rfl⟩
theorem fails12_of {W : World} (h : laidMet Tryd.prog (names12.map sentD) W) : ∃ e, Fails W e fails12 := by
  obtain ⟨ps, h1, h2, h3⟩ := h
  obtain ⟨al, g1, _, g3⟩ := sents_of Tryd.underlying25 rowES Tryd.underlying167 Tryd.underlying181 rfl rfl Tryd.underlying9 cellsES cellsStr names12 ps gt_names12 h1 h3
  have hn : ∀ (i : Nat) (x : Nat × Nat), fails12[i]? = some x → ∃ n, (names12.map (·.1))[i]? = some n ∧ Tryd.prog.globalNamed n = some x.2 := fun i x hx => by
    match i with
    | 0 => cases hx; exact ⟨_, rfl, by kernel_rfl⟩
    | 1 => cases hx; exact ⟨_, rfl, by kernel_rfl⟩
    | 2 => cases hx; exact ⟨_, rfl, by kernel_rfl⟩
    | 3 => cases hx; exact ⟨_, rfl, by kernel_rfl⟩
    | 4 => cases hx; exact ⟨_, rfl, by kernel_rfl⟩
    | 5 => cases hx; exact ⟨_, rfl, by kernel_rfl⟩
    | 6 => cases hx; exact ⟨_, rfl, by kernel_rfl⟩
    | 7 => cases hx; exact ⟨_, rfl, by kernel_rfl⟩
    | 8 => cases hx; exact ⟨_, rfl, by kernel_rfl⟩
    | 9 => cases hx; exact ⟨_, rfl, by kernel_rfl⟩
    | 10 => cases hx; exact ⟨_, rfl, by kernel_rfl⟩
    | 11 => cases hx; exact ⟨_, rfl, by kernel_rfl⟩
    | i + 12 => simp [fails12] at hx
  obtain ⟨e, f1, f2, f3⟩ := fails_of (fl := fails12) tES g3 hn (pairwise_of g1 h2) (by decide)
  exact ⟨e, f1, f2, f3⟩

def names11 : List (String × List UInt8) := [("hornbook/api.FailNil", [110, 111, 32, 111, 98, 106, 101, 99, 116]), ("hornbook/api.FailLimits", [97, 32, 110, 117, 109, 98, 101, 114, 32, 111, 117, 116, 32, 111, 102, 32, 105, 116, 115, 32, 114, 97, 110, 103, 101]), ("hornbook/api.FailNoRun", [110, 111, 32, 115, 117, 99, 104, 32, 114, 117, 110]), ("hornbook/api.FailSealed", [116, 104, 101, 32, 114, 117, 110, 32, 105, 115, 32, 115, 101, 97, 108, 101, 100]), ("hornbook/api.FailOpen", [116, 104, 101, 32, 114, 117, 110, 32, 105, 115, 32, 110, 111, 116, 32, 115, 101, 97, 108, 101, 100]), ("hornbook/api.FailFull", [116, 104, 101, 32, 115, 116, 111, 114, 101, 32, 105, 115, 32, 102, 117, 108, 108]), ("hornbook/api.FailSpent", [110, 111, 32, 114, 117, 110, 32, 110, 117, 109, 98, 101, 114, 32, 105, 115, 32, 108, 101, 102, 116]), ("hornbook/api.FailBroken", [116, 104, 101, 32, 115, 116, 111, 114, 101, 32, 114, 101, 102, 117, 115, 101, 100, 32, 97, 32, 115, 116, 101, 112]), ("hornbook/api.FailRecord", [116, 104, 101, 32, 114, 101, 99, 111, 114, 100, 32, 105, 115, 32, 116, 111, 111, 32, 108, 111, 110, 103]), ("hornbook/api.FailTorn", [116, 104, 101, 32, 114, 117, 110, 32, 105, 115, 32, 116, 111, 114, 110]), ("hornbook/api.FailClosed", [99, 108, 111, 115, 101, 100])]
def fails11 : List (Nat × Nat) := [(1, 2), (2, 0), (3, 5), (4, 8), (5, 6), (7, 9), (8, 10), (9, 11), (10, 3), (11, 4), (13, 1)]
theorem gt_names11 : ∀ x ∈ names11, ∃ g, Tryd.prog.globalNamed x.1 = some g ∧ (Tryd.prog.globals[g]?).map (·.type) = some tErr := by
  intro x hx
  simp only [names11, List.mem_cons, List.not_mem_nil, or_false] at hx
  rcases hx with rfl | rfl | rfl | rfl | rfl | rfl | rfl | rfl | rfl | rfl | rfl
  · exact ⟨2, by kernel_rfl, by kernel_rfl⟩
  · exact ⟨0, by kernel_rfl, by kernel_rfl⟩
  · exact ⟨5, by kernel_rfl, by kernel_rfl⟩
  · exact ⟨8, by kernel_rfl, by kernel_rfl⟩
  · exact ⟨6, by kernel_rfl, by kernel_rfl⟩
  · exact ⟨9, by kernel_rfl, by kernel_rfl⟩
  · exact ⟨10, by kernel_rfl, by kernel_rfl⟩
  · exact ⟨11, by kernel_rfl, by kernel_rfl⟩
  · exact ⟨3, by kernel_rfl, by kernel_rfl⟩
  · exact ⟨4, by kernel_rfl, by kernel_rfl⟩
  · exact ⟨1, by kernel_rfl, by kernel_rfl⟩
theorem fails11_of {W : World} (h : laidMet Tryd.prog (names11.map sentD) W) : ∃ e, Fails W e fails11 := by
  obtain ⟨ps, h1, h2, h3⟩ := h
  obtain ⟨al, g1, _, g3⟩ := sents_of Tryd.underlying25 rowES Tryd.underlying167 Tryd.underlying181 rfl rfl Tryd.underlying9 cellsES cellsStr names11 ps gt_names11 h1 h3
  have hn : ∀ (i : Nat) (x : Nat × Nat), fails11[i]? = some x → ∃ n, (names11.map (·.1))[i]? = some n ∧ Tryd.prog.globalNamed n = some x.2 := fun i x hx => by
    match i with
    | 0 => cases hx; exact ⟨_, rfl, by kernel_rfl⟩
    | 1 => cases hx; exact ⟨_, rfl, by kernel_rfl⟩
    | 2 => cases hx; exact ⟨_, rfl, by kernel_rfl⟩
    | 3 => cases hx; exact ⟨_, rfl, by kernel_rfl⟩
    | 4 => cases hx; exact ⟨_, rfl, by kernel_rfl⟩
    | 5 => cases hx; exact ⟨_, rfl, by kernel_rfl⟩
    | 6 => cases hx; exact ⟨_, rfl, by kernel_rfl⟩
    | 7 => cases hx; exact ⟨_, rfl, by kernel_rfl⟩
    | 8 => cases hx; exact ⟨_, rfl, by kernel_rfl⟩
    | 9 => cases hx; exact ⟨_, rfl, by kernel_rfl⟩
    | 10 => cases hx; exact ⟨_, rfl, by kernel_rfl⟩
    | i + 11 => simp [fails11] at hx
  obtain ⟨e, f1, f2, f3⟩ := fails_of (fl := fails11) tES g3 hn (pairwise_of g1 h2) (by decide)
  exact ⟨e, f1, f2, f3⟩

end Go.Proofs.YtkffeaeacfhobaaDoor

/- A slice of structs, opened: for any form of element. -/
import Derived.Test.YtadokkffmekndaaGreatDoorBuMgAgLaw02
import Derived.Deep.Slices
import Derived.ChangeArms
set_option linter.unusedSimpArgs false
set_option linter.unusedVariables false
namespace Go.Proofs.YtadokkffmekndaaGreatDoor
open Go.ChangeShapes Go.WideShapes Go.ChangeAt Go.RowKit

theorem flatMap_get {α : Type} [Inhabited α] {n : Nat} {c : α → List Value} (hc : ∀ x, (c x).length = n) (l : List α) {i j : Nat} (hi : i < l.length) (hj : j < n) : (l.flatMap c)[i * n + j]? = (c (l.getD i default))[j]? := by
  induction l generalizing i with
  | nil => simp at hi
  | cons a l ih =>
    rw [List.flatMap_cons]
    cases i with
    | zero => rw [Nat.zero_mul, Nat.zero_add, List.getElem?_append_left (by rw [hc]; exact hj)]; rfl
    | succ i =>
      rw [List.getElem?_append_right (by rw [hc, Nat.add_mul]; omega), hc, show (i + 1) * n + j - n = i * n + j by rw [Nat.add_mul]; omega, ih (by simpa using hi)]
      rfl
theorem RdRow.at {α : Type} [Inhabited α] {n : Nat} {c : α → List Value} (hc : ∀ x, (c x).length = n) {w : World} {v : Value} {l : List α} (h : RdRow w v l.length n (l.flatMap c)) {i : Nat} (hi : i < l.length) (hn : 0 < n) :
    ∃ b off cap, v = .slice (some ⟨b, off, none⟩) l.length cap ∧ ∀ j, j < n → w.cell? ⟨b, off + i * n + j, none⟩ = (c (l.getD i default))[j]? := by
  obtain ⟨_, a, cap, rfl, _, _, hcell⟩ := h
  have g : ∀ j, j < n → ∃ u, (l.flatMap c)[i * n + j]? = some u ∧ (c (l.getD i default))[j]? = some u := fun j hj => by
    have h1 := flatMap_get hc l hi hj
    have h2 : j < (c (l.getD i default)).length := by rw [hc]; exact hj
    exact ⟨_, h1.trans (List.getElem?_eq_getElem h2), List.getElem?_eq_getElem h2⟩
  obtain ⟨u, hu, _⟩ := g 0 hn
  obtain ⟨b, off, rfl, _⟩ := hcell _ _ hu
  refine ⟨b, off, cap, rfl, fun j hj => ?_⟩
  obtain ⟨u, hu, hu2⟩ := g j hj
  obtain ⟨b', off', e, h⟩ := hcell _ _ hu
  cases e
  rw [hu2, ← h, Nat.add_assoc]

section
variable {H : Type} {enc : TypeId × Value → H} {P : Program}
end
end Go.Proofs.YtadokkffmekndaaGreatDoor

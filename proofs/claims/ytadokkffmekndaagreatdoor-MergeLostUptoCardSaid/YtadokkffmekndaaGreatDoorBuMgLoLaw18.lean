/- A slice of structs, opened: for any form of element. -/
import Derived.Test.YtadokkffmekndaaGreatDoorBuMgLoLaw02
import Derived.Deep.Slices
import Derived.ChangeArms
set_option linter.unusedSimpArgs false
set_option linter.unusedVariables false
namespace Go.Proofs.YtadokkffmekndaaGreatDoor
open Go.ChangeShapes Go.WideShapes Go.ChangeAt Go.RowKit
theorem flatMap_get {α : Type} [Inhabited α] {n : Nat} {c : α → List Value} (hc : ∀ x, (c x).length = n) (l : List α) {i j : Nat} (hi : i < l.length) (hj : j < n) : (l.flatMap c)[i * n + j]? = (c (l.getD i default))[j]? := by
  induction l generalizing i with
  | nil => simp at hi
  | cons a l ih =>
    rw [List.flatMap_cons]
    cases i with
    | zero => rw [Nat.zero_mul, Nat.zero_add, List.getElem?_append_left (by rw [hc]; exact hj)]; rfl
    | succ i =>
      rw [List.getElem?_append_right (by rw [hc, Nat.add_mul]; omega), hc, show (i + 1) * n + j - n = i * n + j by rw [Nat.add_mul]; omega, ih (by simpa using hi)]
      rfl
theorem RdRow.at {α : Type} [Inhabited α] {n : Nat} {c : α → List Value} (hc : ∀ x, (c x).length = n) {w : World} {v : Value} {l : List α} (h : RdRow w v l.length n (l.flatMap c)) {i : Nat} (hi : i < l.length) (hn : 0 < n) :
    ∃ b off cap, v = .slice (some ⟨b, off, none⟩) l.length cap ∧ ∀ j, j < n → w.cell? ⟨b, off + i * n + j, none⟩ = (c (l.getD i default))[j]? := by
  obtain ⟨_, a, cap, rfl, _, _, hcell⟩ := h
  have g : ∀ j, j < n → ∃ u, (l.flatMap c)[i * n + j]? = some u ∧ (c (l.getD i default))[j]? = some u := fun j hj => by
    have h1 := flatMap_get hc l hi hj
    have h2 : j < (c (l.getD i default)).length := by rw [hc]; exact hj
    exact ⟨_, h1.trans (List.getElem?_eq_getElem h2), List.getElem?_eq_getElem h2⟩
  obtain ⟨u, hu, _⟩ := g 0 hn
  obtain ⟨b, off, rfl, _⟩ := hcell _ _ hu
  refine ⟨b, off, cap, rfl, fun j hj => ?_⟩
  obtain ⟨u, hu, hu2⟩ := g j hj
  obtain ⟨b', off', e, h⟩ := hcell _ _ hu
  cases e
  rw [hu2, ← h, Nat.add_assoc]
section
variable {H : Type} {enc : TypeId × Value → H} {P : Program}
theorem strs_of {t e : TypeId} (ht : P.underlying t = some (.slice e)) (he : P.underlying e = some .string) (hc : P.cellsOf e = 1) {W : World} {fuel : Nat} {v : Value} {d : DataW H} {ps : List MemPlace}
    (hf : DataW.trod enc P W 0 (fun _ => true) true fuel t [v] = some (d, ps)) :
    ∃ ss : List (List UInt8), RdRow W v ss.length 1 (strs ss) ∧ ss.length + sumLen ss + 1 ≤ Rows.uptoBulk d := by
  rcases open_strings ht he hc hf with ⟨hcs, hx⟩ | ⟨a, len', cap', ss, hcs, _, hl, hm, hz, hx, hcell, hws⟩
  · simp only [List.cons.injEq, and_true] at hcs
    subst hcs
    simp only [Prod.mk.injEq] at hx
    obtain ⟨rfl, rfl⟩ := hx
    exact ⟨[], ⟨rfl, none, 0, rfl, Nat.le_refl _, by simp [maxLen], fun j u hu => by simp at hu⟩, by simp [sumLen, Rows.uptoBulk]⟩
  · simp only [List.cons.injEq, and_true] at hcs
    subst hcs
    simp only [Prod.mk.injEq] at hx
    obtain ⟨rfl, rfl⟩ := hx
    simp only [if_true] at hz
    refine ⟨(ss.take len').map fun s => s.data.toList, ⟨by simp, some a, cap', by simp [hz]; omega, by simp [hz]; omega, hm, ?_⟩, ?_⟩
    · intro j u hu
      simp only [List.map_map, List.getElem?_map, Option.map_eq_some_iff] at hu
      obtain ⟨s, hs, rfl⟩ := hu
      have hj : j < len' := by
        have := (List.getElem?_eq_some_iff.1 hs).1
        simp at this
        omega
      have hs' : ss[j]? = some s := by rwa [List.getElem?_take_of_lt hj] at hs
      have hc := hcell j (by omega)
      obtain ⟨b, off, spot⟩ := a
      have hspot : spot = none := by simpa [Addr.add] using World.cell?_spot (hcell 0 (by omega))
      subst hspot
      refine ⟨b, off, rfl, ?_⟩
      rw [show (⟨b, off, none⟩ : Addr).add j = ⟨b, off + j, none⟩ from by unfold Addr.add; split <;> simp_all] at hc
      rw [hc]
      simp [List.getD, hs']
    · have h1 := bulk_strs (H := H) (ss.take len')
      simp only [Rows.uptoBulk]
      rw [h1]
      simp <;> omega
end
end Go.Proofs.YtadokkffmekndaaGreatDoor

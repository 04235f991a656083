/- An argument '[]int', opened. -/
import Derived.Test.YthjkfiniafblbaaOpen
import Derived.Test.YthjkfiniafblbaaWkCounts
import Derived.ChangeSlices
namespace Go.Proofs.Ythjkfiniafblbaa
open Go.ChangeShapes Go.WideShapes Go.ChangeAt Go.RowKit

section
variable {H : Type} {enc : TypeId × Value → H} {P : Program}
theorem bulk_lits (k : IntKind) (l : List Int) : Rows.uptoBulkAll (H := H) (Go.ChangeShapes.lits k l) = l.length := by
  induction l with
  | nil => rfl
  | cons s l ih =>
    have e : Rows.uptoBulkAll (H := H) (Go.ChangeShapes.lits k (s :: l)) = 1 + Rows.uptoBulkAll (H := H) (Go.ChangeShapes.lits k l) := by
      simp [Go.ChangeShapes.lits, Rows.uptoBulkAll, Rows.uptoBulk]
    rw [e, ih, List.length_cons]; omega

/-- An argument '[]int', opened. -/
theorem open_intl {t e : TypeId} (ht : P.underlying t = some (.slice e)) (he : P.underlying e = some (.int .i64)) (hc : P.cellsOf e = 1) {W : World} {r : Reach} {b0 : Nat} {v : Value} {d : DataW H} {ps : List MemPlace}
    (hval : Value.okWide P W r b0 t v) (hd : DataW.Trod enc P W 0 (fun _ => true) true t v d ps) :
    ∃ ks : List Int, RdRow W v ks.length 1 (intsI ks) ∧ ks.length + 1 ≤ Rows.uptoBulk d := by
  obtain ⟨a0, len, cap, rfl⟩ := okWide_slice ht hval
  obtain ⟨fuel, hf⟩ := hd
  rcases open_ints ht he hc hf with ⟨hcs, hx⟩ | ⟨a, len', cap', ss, hcs, _, hl, hm, hz, hx, hcell, hws⟩
  · simp [Value.cells] at hcs
    obtain ⟨rfl, rfl, rfl⟩ := hcs
    simp only [Prod.mk.injEq] at hx
    obtain ⟨rfl, rfl⟩ := hx
    exact ⟨[], ⟨rfl, none, 0, rfl, Nat.le_refl _, by simp [maxLen], fun j u hu => by simp at hu⟩, by simp [Rows.uptoBulk]⟩
  · simp [Value.cells] at hcs
    obtain ⟨rfl, rfl, rfl⟩ := hcs
    simp only [Prod.mk.injEq] at hx
    obtain ⟨rfl, rfl⟩ := hx
    simp only [if_true] at hz
    refine ⟨ss.take len, ⟨by simp, some a, cap, by simp [hz]; omega, by simp [hz]; omega, hm, ?_⟩, ?_⟩
    · intro j u hu
      simp only [List.getElem?_map, Option.map_eq_some_iff] at hu
      obtain ⟨s, hs, rfl⟩ := hu
      have hj : j < len := by
        have := (List.getElem?_eq_some_iff.1 hs).1
        simp at this
        omega
      have hs' : ss[j]? = some s := by rwa [List.getElem?_take_of_lt hj] at hs
      have hc := hcell j (by omega)
      obtain ⟨b, off, spot⟩ := a
      have hspot : spot = none := by simpa [Addr.add] using World.cell?_spot (hcell 0 (by omega))
      subst hspot
      refine ⟨b, off, rfl, ?_⟩
      rw [show (⟨b, off, none⟩ : Addr).add j = ⟨b, off + j, none⟩ from by unfold Addr.add; split <;> simp_all] at hc
      rw [hc]
      simp [List.getD, hs']
    · have h1 := bulk_lits (H := H) .i64 (ss.take len)
      simp only [Rows.uptoBulk]
      rw [h1]
      simp <;> omega
end
end Go.Proofs.Ythjkfiniafblbaa

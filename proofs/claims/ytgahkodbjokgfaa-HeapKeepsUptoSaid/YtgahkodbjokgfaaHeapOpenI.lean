/- An argument '[]heap.Item', opened. -/
import Derived.Test.YtgahkodbjokgfaaOpen
import Derived.Test.YtgahkodbjokgfaaHeapWakes
import Derived.Deep.SlicePairs
import Derived.ChangeArms
namespace Go.Proofs.Ytgahkodbjokgfaa
open Go.ChangeShapes Go.WideShapes Go.ChangeAt Go.RowKit

/-- An argument '[]heap.Item', opened. -/
theorem open_items {H : Type} {enc : TypeId × Value → H} {W : World} {r : Reach} {b0 : Nat} {v : Value} {d : DataW H} {ps : List MemPlace}
    (hval : Value.okWide Try.prog W r b0 22 v) (hd : DataW.Trod enc Try.prog W 0 (fun _ => true) true 22 v d ps) :
    ∃ xs : List It, RdRow W v xs.length 2 (cellsI xs) ∧ xs.length * 3 + 1 ≤ Rows.uptoBulk d := by
  obtain ⟨a0, len, cap, rfl⟩ := okWide_slice Try.underlying22 hval
  obtain ⟨fuel, hf⟩ := hd
  rcases Go.Deep.open_slice_pairs Try.underlying22 Try.underlying25 (by kernel_rfl) rfl rfl (by kernel_rfl) (by kernel_rfl) hf with ⟨hcs, hx⟩ | ⟨a, len', cap', m, n, V0, V1, D0, D1, P0, P1, hcs, _, hl, hm, hz, hx, hc⟩
  · simp [Value.cells] at hcs
    obtain ⟨rfl, rfl, rfl⟩ := hcs
    simp only [Prod.mk.injEq] at hx
    obtain ⟨rfl, rfl⟩ := hx
    exact ⟨[], ⟨rfl, none, 0, rfl, Nat.le_refl _, by simp [maxLen], fun j u hu => by simp [cellsI] at hu⟩, by simp [Rows.uptoBulk]⟩
  · simp [Value.cells] at hcs
    obtain ⟨rfl, rfl, rfl⟩ := hcs
    simp only [Prod.mk.injEq] at hx
    obtain ⟨rfl, rfl⟩ := hx
    simp only [if_true] at hz
    subst hz
    have hint : ∀ i, i < m → ∃ x : It, V0 i = .int .i64 x.key ∧ V1 i = .int .i64 x.tag ∧ D0 i = .lit (.int .i64 x.key) ∧ D1 i = .lit (.int .i64 x.tag) := fun i hi => by
      obtain ⟨_, _, h0, h1⟩ := hc i hi
      obtain ⟨k, e0, e1, _⟩ := DataW.trod_int Try.underlying3 h0
      obtain ⟨t, g0, g1, _⟩ := DataW.trod_int Try.underlying3 h1
      simp only [List.cons.injEq, and_true, Prod.mk.injEq] at e0 e1 g0 g1
      exact ⟨⟨k, t⟩, e0, g0, e1.1, g1.1⟩
    let f : Nat → It := fun i => if h : i < m then (hint i h).choose else default
    have hfs : ∀ i (h : i < m), V0 i = .int .i64 (f i).key ∧ V1 i = .int .i64 (f i).tag ∧ D0 i = .lit (.int .i64 (f i).key) ∧ D1 i = .lit (.int .i64 (f i).tag) := fun i h => by
      have : f i = (hint i h).choose := by simp only [f]; rw [dif_pos h]
      rw [this]; exact (hint i h).choose_spec
    have hgd : ∀ i, i < len → ((List.range len).map f).getD i default = f i := fun i h => by
      rw [List.getD_eq_getElem?_getD, List.getElem?_map, List.getElem?_range h]; rfl
    refine ⟨(List.range len).map f, ⟨by simp [cellsI_length], some a, m, by simp, by simpa using hl, hm, fun j u hu => ?_⟩, ?_⟩
    · have hj : j < len * 2 := by
        have := (List.getElem?_eq_some_iff.1 hu).1
        simpa [cellsI_length] using this
      have hq : j / 2 < len := by omega
      obtain ⟨g0, g1⟩ := cellsI_get ((List.range len).map f) (j / 2) (by simpa using hq)
      rw [hgd _ hq] at g0 g1
      obtain ⟨c0, c1, _, _⟩ := hc (j / 2) (by omega)
      obtain ⟨v0, v1, _, _⟩ := hfs (j / 2) (by omega)
      obtain ⟨b, off, spot⟩ := a
      have hspot : spot = none := by simpa [Addr.add] using World.cell?_spot (hc 0 (by omega)).1
      subst hspot
      have ha : ∀ k, (⟨b, off, none⟩ : Addr).add k = ⟨b, off + k, none⟩ := fun k => by unfold Addr.add; split <;> simp_all
      rw [ha] at c0 c1
      refine ⟨b, off, rfl, ?_⟩
      rcases (by omega : j = j / 2 * 2 ∨ j = j / 2 * 2 + 1) with e | e
      · rw [e, g0] at hu
        rw [e, c0, v0, ← hu]
      · rw [e, g1] at hu
        rw [e, c1, v1, ← hu]
    · have hb : ∀ l : List Nat, (∀ i ∈ l, i < len) → Rows.uptoBulkAll (H := H) (l.map fun i => .agg [D0 i, D1 i]) = l.length * 3 := fun l => by
        induction l with
        | nil => intro _; rfl
        | cons i l ih =>
          intro h
          obtain ⟨_, _, d0, d1⟩ := hfs i (by have := h i (by simp); omega)
          have e : Rows.uptoBulkAll (H := H) ((i :: l).map fun i => .agg [D0 i, D1 i]) = 3 + Rows.uptoBulkAll (H := H) (l.map fun i => .agg [D0 i, D1 i]) := by
            simp [Rows.uptoBulkAll, Rows.uptoBulk, d0, d1]
          rw [e, ih (fun i hi => h i (by simp [hi])), List.length_cons]; omega
      have h1 := hb (List.range len) (fun i hi => by simpa using hi)
      simp only [Rows.uptoBulk]
      rw [h1]
      simp <;> omega
end Go.Proofs.Ytgahkodbjokgfaa

/- An argument '[]Op', opened. -/
import Derived.Test.YtgahkodbjokgfaaOpen
import Derived.Test.YtgahkodbjokgfaaHeapOpenI
import Derived.Test.YtgahkodbjokgfaaHeapPlays
namespace Go.Proofs.Ytgahkodbjokgfaa
open Go.ChangeShapes Go.WideShapes Go.ChangeAt Go.RowKit

theorem cells2_length {α : Type} (f g : α → Value) (l : List α) : (l.flatMap fun x => [f x, g x]).length = l.length * 2 := by
  induction l with
  | nil => rfl
  | cons e l ih => simp only [List.flatMap_cons, List.length_append, List.length_cons, List.length_nil] at ih ⊢; omega

section
variable {H : Type} {enc : TypeId × Value → H}
/-- Items that are reached, opened. -/
theorem items_of {W : World} {fuel : Nat} {v : Value} {d : DataW H} {ps : List MemPlace}
    (hf : DataW.trod enc Try.prog W 0 (fun _ => true) true fuel 22 [v] = some (d, ps)) :
    ∃ xs : List It, RdRow W v xs.length 2 (cellsI xs) ∧ xs.length * 3 + 1 ≤ Rows.uptoBulk d := by
  rcases Go.Deep.open_slice_pairs Try.underlying22 Try.underlying25 (by kernel_rfl) rfl rfl (by kernel_rfl) (by kernel_rfl) hf with ⟨hcs, hx⟩ | ⟨a, len, m, m', n, V0, V1, D0, D1, P0, P1, hcs, _, hl, hm, hz, hx, hc⟩
  · simp only [List.cons.injEq, and_true] at hcs
    subst hcs
    simp only [Prod.mk.injEq] at hx
    obtain ⟨rfl, rfl⟩ := hx
    exact ⟨[], ⟨rfl, none, 0, rfl, Nat.le_refl _, by simp [maxLen], fun j u hu => by simp [cellsI] at hu⟩, by simp [Rows.uptoBulk]⟩
  · simp only [List.cons.injEq, and_true] at hcs
    subst hcs
    simp only [Prod.mk.injEq] at hx
    obtain ⟨rfl, rfl⟩ := hx
    simp only [if_true] at hz
    subst hz
    have hint : ∀ i, i < m' → ∃ x : It, V0 i = .int .i64 x.key ∧ V1 i = .int .i64 x.tag ∧ D0 i = .lit (.int .i64 x.key) ∧ D1 i = .lit (.int .i64 x.tag) := fun i hi => by
      obtain ⟨_, _, h0, h1⟩ := hc i hi
      obtain ⟨k, e0, e1, _⟩ := DataW.trod_int Try.underlying3 h0
      obtain ⟨t, g0, g1, _⟩ := DataW.trod_int Try.underlying3 h1
      simp only [List.cons.injEq, and_true, Prod.mk.injEq] at e0 e1 g0 g1
      exact ⟨⟨k, t⟩, e0, g0, e1.1, g1.1⟩
    let f : Nat → It := fun i => if h : i < m' then (hint i h).choose else default
    have hfs : ∀ i (h : i < m'), V0 i = .int .i64 (f i).key ∧ V1 i = .int .i64 (f i).tag ∧ D0 i = .lit (.int .i64 (f i).key) ∧ D1 i = .lit (.int .i64 (f i).tag) := fun i h => by
      have : f i = (hint i h).choose := by simp only [f]; rw [dif_pos h]
      rw [this]; exact (hint i h).choose_spec
    have hgd : ∀ i, i < len → ((List.range len).map f).getD i default = f i := fun i h => by
      rw [List.getD_eq_getElem?_getD, List.getElem?_map, List.getElem?_range h]; rfl
    refine ⟨(List.range len).map f, ⟨by simp [cellsI_length], some a, m', by simp, by simpa using hl, hm, fun j u hu => ?_⟩, ?_⟩
    · have hj : j < len * 2 := by
        have := (List.getElem?_eq_some_iff.1 hu).1
        simpa [cellsI_length] using this
      have hq : j / 2 < len := by omega
      obtain ⟨g0, g1⟩ := cellsI_get ((List.range len).map f) (j / 2) (by simpa using hq)
      rw [hgd _ hq] at g0 g1
      obtain ⟨c0, c1, _, _⟩ := hc (j / 2) (by omega)
      obtain ⟨v0, v1, _, _⟩ := hfs (j / 2) (by omega)
      obtain ⟨b, off, spot⟩ := a
      have hspot : spot = none := by simpa [Addr.add] using World.cell?_spot (hc 0 (by omega)).1
      subst hspot
      have ha : ∀ k, (⟨b, off, none⟩ : Addr).add k = ⟨b, off + k, none⟩ := fun k => by unfold Addr.add; split <;> simp_all
      rw [ha] at c0 c1
      refine ⟨b, off, rfl, ?_⟩
      rcases (by omega : j = j / 2 * 2 ∨ j = j / 2 * 2 + 1) with e | e
      · rw [e, g0] at hu
        rw [e, c0, v0, ← hu]
      · rw [e, g1] at hu
        rw [e, c1, v1, ← hu]
    · have hb : ∀ l : List Nat, (∀ i ∈ l, i < len) → Rows.uptoBulkAll (H := H) (l.map fun i => .agg [D0 i, D1 i]) = l.length * 3 := fun l => by
        induction l with
        | nil => intro _; rfl
        | cons i l ih =>
          intro h
          obtain ⟨_, _, d0, d1⟩ := hfs i (by have := h i (by simp); omega)
          have e : Rows.uptoBulkAll (H := H) ((i :: l).map fun i => .agg [D0 i, D1 i]) = 3 + Rows.uptoBulkAll (H := H) (l.map fun i => .agg [D0 i, D1 i]) := by
            simp [Rows.uptoBulkAll, Rows.uptoBulk, d0, d1]
          rw [e, ih (fun i hi => h i (by simp [hi])), List.length_cons]; omega
      have h1 := hb (List.range len) (fun i hi => by simpa using hi)
      simp only [Rows.uptoBulk]
      rw [h1]
      simp <;> omega

/-- An argument '[]Op', opened. -/
theorem open_ops {W : World} {r : Reach} {b0 : Nat} {v : Value} {d : DataW H} {ps : List MemPlace}
    (hval : Value.okWide Try.prog W r b0 59 v) (hd : DataW.Trod enc Try.prog W 0 (fun _ => true) true 59 v d ps) :
    ∃ ops : List OpD, OpsRow W v ops ∧ ops.length + inFirst ops ops.length + 1 ≤ Rows.uptoBulk d := by
  obtain ⟨a0, len, cap, rfl⟩ := okWide_slice Try.underlying59 hval
  obtain ⟨fuel, hf⟩ := hd
  rcases Go.Deep.open_slice_pairs Try.underlying59 Try.underlying61 (by kernel_rfl) rfl rfl (by kernel_rfl) (by kernel_rfl) hf with ⟨hcs, hx⟩ | ⟨a, len', cap', m, n, V0, V1, D0, D1, P0, P1, hcs, _, hl, hm, hz, hx, hc⟩
  · simp [Value.cells] at hcs
    obtain ⟨rfl, rfl, rfl⟩ := hcs
    simp only [Prod.mk.injEq] at hx
    obtain ⟨rfl, rfl⟩ := hx
    exact ⟨[], ⟨⟨rfl, none, 0, rfl, Nat.le_refl _, by simp [maxLen], fun j u hu => by simp [cellsO] at hu⟩, by simp⟩, by simp [Rows.uptoBulk, inFirst]⟩
  · simp [Value.cells] at hcs
    obtain ⟨rfl, rfl, rfl⟩ := hcs
    simp only [Prod.mk.injEq] at hx
    obtain ⟨rfl, rfl⟩ := hx
    simp only [if_true] at hz
    subst hz
    have hint : ∀ i, i < m → ∃ o : OpD, V0 i = .int .i64 o.k ∧ V1 i = o.v ∧ D0 i = .lit (.int .i64 o.k) ∧ RdRow W o.v o.xs.length 2 (cellsI o.xs) ∧ o.xs.length * 3 + 1 ≤ Rows.uptoBulk (D1 i) := fun i hi => by
      obtain ⟨_, _, h0, h1⟩ := hc i hi
      obtain ⟨k, e0, e1, _⟩ := DataW.trod_int Try.underlying3 h0
      obtain ⟨xs, g0, g1⟩ := items_of h1
      simp only [List.cons.injEq, and_true, Prod.mk.injEq] at e0 e1
      exact ⟨⟨k, V1 i, xs⟩, e0, rfl, e1.1, g0, g1⟩
    let f : Nat → OpD := fun i => if h : i < m then (hint i h).choose else default
    have hfs : ∀ i (h : i < m), V0 i = .int .i64 (f i).k ∧ V1 i = (f i).v ∧ D0 i = .lit (.int .i64 (f i).k) ∧ RdRow W (f i).v (f i).xs.length 2 (cellsI (f i).xs) ∧ (f i).xs.length * 3 + 1 ≤ Rows.uptoBulk (D1 i) := fun i h => by
      have : f i = (hint i h).choose := by simp only [f]; rw [dif_pos h]
      rw [this]; exact (hint i h).choose_spec
    have hgd : ∀ i, i < len → ((List.range len).map f).getD i default = f i := fun i h => by
      rw [List.getD_eq_getElem?_getD, List.getElem?_map, List.getElem?_range h]; rfl
    refine ⟨(List.range len).map f, ⟨⟨?_, some a, m, by simp, by simpa using hl, hm, fun j u hu => ?_⟩, fun o ho => ?_⟩, ?_⟩
    · unfold cellsO; rw [cells2_length]
    · have hlen : (cellsO ((List.range len).map f)).length = len * 2 := by unfold cellsO; rw [cells2_length]; simp
      have hj : j < len * 2 := by
        have := (List.getElem?_eq_some_iff.1 hu).1
        omega
      have hq : j / 2 < len := by omega
      obtain ⟨g0, g1⟩ := cells2_get (fun o : OpD => .int .i64 o.k) (fun o => o.v) ((List.range len).map f) (j / 2) (by simpa using hq)
      rw [hgd _ hq] at g0 g1
      obtain ⟨c0, c1, _, _⟩ := hc (j / 2) (by omega)
      obtain ⟨v0, v1, _, _⟩ := hfs (j / 2) (by omega)
      obtain ⟨b, off, spot⟩ := a
      have hspot : spot = none := by simpa [Addr.add] using World.cell?_spot (hc 0 (by omega)).1
      subst hspot
      have ha : ∀ k, (⟨b, off, none⟩ : Addr).add k = ⟨b, off + k, none⟩ := fun k => by unfold Addr.add; split <;> simp_all
      rw [ha] at c0 c1
      refine ⟨b, off, rfl, ?_⟩
      unfold cellsO at hu
      rcases (by omega : j = j / 2 * 2 ∨ j = j / 2 * 2 + 1) with e | e
      · rw [e, g0] at hu
        rw [e, c0, v0, ← hu]
      · rw [e, g1] at hu
        rw [e, c1, v1, ← hu]
    · obtain ⟨i, hi, rfl⟩ := List.mem_map.1 ho
      exact (hfs i (by have := List.mem_range.1 hi; omega)).2.2.2.1
    · have hb : ∀ l : List Nat, (∀ i ∈ l, i < len) → l.length + ((l.map f).map fun o => o.xs.length).sum ≤ Rows.uptoBulkAll (H := H) (l.map fun i => .agg [D0 i, D1 i]) := fun l => by
        induction l with
        | nil => intro _; exact Nat.le_refl _
        | cons i l ih =>
          intro h
          obtain ⟨_, _, d0, _, d1⟩ := hfs i (by have := h i (by simp); omega)
          have e : Rows.uptoBulkAll (H := H) ((i :: l).map fun i => .agg [D0 i, D1 i]) = (1 + (1 + Rows.uptoBulk (D1 i))) + Rows.uptoBulkAll (H := H) (l.map fun i => .agg [D0 i, D1 i]) := by
            simp [Rows.uptoBulkAll, Rows.uptoBulk, d0] <;> omega
          have := ih (fun i hi => h i (by simp [hi]))
          rw [e]
          simp only [List.length_cons, List.map_cons, List.sum_cons]
          omega
      have h1 := hb (List.range len) (fun i hi => by simpa using hi)
      simp only [Rows.uptoBulk]
      unfold inFirst
      rw [List.take_length]
      simp only [List.length_range, List.length_map] at h1 ⊢
      omega
end
end Go.Proofs.Ytgahkodbjokgfaa

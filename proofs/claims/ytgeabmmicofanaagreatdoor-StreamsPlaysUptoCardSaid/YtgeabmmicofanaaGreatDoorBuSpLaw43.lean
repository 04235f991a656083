/- A slice of structs, opened: for any form of element. -/
import Derived.Test.YtgeabmmicofanaaGreatDoorBuSpLaw02
import Derived.Deep.Slices
import Derived.ChangeArms
set_option linter.unusedSimpArgs false
set_option linter.unusedVariables false
namespace Go.Proofs.YtgeabmmicofanaaGreatDoor
open Go.ChangeShapes Go.WideShapes Go.ChangeAt Go.RowKit

theorem flatMap_len {α : Type} {n : Nat} {c : α → List Value} (hc : ∀ x, (c x).length = n) (l : List α) : (l.flatMap c).length = l.length * n := by
  induction l with
  | nil => simp
  | cons a l ih => rw [List.flatMap_cons, List.length_append, ih, hc, List.length_cons, Nat.add_mul]; omega
theorem flatMap_get {α : Type} [Inhabited α] {n : Nat} {c : α → List Value} (hc : ∀ x, (c x).length = n) (l : List α) {i j : Nat} (hi : i < l.length) (hj : j < n) : (l.flatMap c)[i * n + j]? = (c (l.getD i default))[j]? := by
  induction l generalizing i with
  | nil => simp at hi
  | cons a l ih =>
    rw [List.flatMap_cons]
    cases i with
    | zero => rw [Nat.zero_mul, Nat.zero_add, List.getElem?_append_left (by rw [hc]; exact hj)]; rfl
    | succ i =>
      rw [List.getElem?_append_right (by rw [hc, Nat.add_mul]; omega), hc, show (i + 1) * n + j - n = i * n + j by rw [Nat.add_mul]; omega, ih (by simpa using hi)]
      rfl
theorem RdRow.at {α : Type} [Inhabited α] {n : Nat} {c : α → List Value} (hc : ∀ x, (c x).length = n) {w : World} {v : Value} {l : List α} (h : RdRow w v l.length n (l.flatMap c)) {i : Nat} (hi : i < l.length) (hn : 0 < n) :
    ∃ b off cap, v = .slice (some ⟨b, off, none⟩) l.length cap ∧ ∀ j, j < n → w.cell? ⟨b, off + i * n + j, none⟩ = (c (l.getD i default))[j]? := by
  obtain ⟨_, a, cap, rfl, _, _, hcell⟩ := h
  have g : ∀ j, j < n → ∃ u, (l.flatMap c)[i * n + j]? = some u ∧ (c (l.getD i default))[j]? = some u := fun j hj => by
    have h1 := flatMap_get hc l hi hj
    have h2 : j < (c (l.getD i default)).length := by rw [hc]; exact hj
    exact ⟨_, h1.trans (List.getElem?_eq_getElem h2), List.getElem?_eq_getElem h2⟩
  obtain ⟨u, hu, _⟩ := g 0 hn
  obtain ⟨b, off, rfl, _⟩ := hcell _ _ hu
  refine ⟨b, off, cap, rfl, fun j hj => ?_⟩
  obtain ⟨u, hu, hu2⟩ := g j hj
  obtain ⟨b', off', e, h⟩ := hcell _ _ hu
  cases e
  rw [hu2, ← h, Nat.add_assoc]

section
variable {H : Type} {enc : TypeId × Value → H} {P : Program}
theorem open_rowsG {α : Type} [Inhabited α] {n : Nat} {c : α → List Value} {Q : α → Prop} {B : α → Nat} (hlen : ∀ x, (c x).length = n) (hn : 0 < n) {t e : TypeId} (ht : P.underlying t = some (.slice e)) (ce : P.cellsOf e = n) {W : World}
    (one : ∀ (fuel : Nat) (cs : List Value) (y : DataW H × List MemPlace), cs.length = n → DataW.trod enc P W 0 (fun _ => true) true fuel e cs = some y → ∃ x : α, cs = c x ∧ Q x ∧ B x ≤ Rows.uptoBulk y.1)
    {fuel : Nat} {v : Value} {d : DataW H} {ps : List MemPlace} (hf : DataW.trod enc P W 0 (fun _ => true) true fuel t [v] = some (d, ps)) :
    ∃ xs : List α, RdRow W v xs.length n (xs.flatMap c) ∧ (∀ x ∈ xs, Q x) ∧ (xs.map B).sum + 1 ≤ Rows.uptoBulk d := by
  rcases Go.Deep.open_slice ht hf with ⟨hcs, hx⟩ | ⟨a, len, cap, m, fl, D, Pl, hcs, _, hl, hm, hmm, hx, hc⟩
  · simp only [List.cons.injEq, and_true] at hcs
    subst hcs
    simp only [Prod.mk.injEq] at hx
    obtain ⟨rfl, rfl⟩ := hx
    exact ⟨[], ⟨by simp, none, 0, rfl, Nat.le_refl _, by simp [maxLen], fun j u hu => by simp at hu⟩, by simp, by simp [Rows.uptoBulk]⟩
  · simp only [List.cons.injEq, and_true] at hcs
    subst hcs
    simp only [Prod.mk.injEq] at hx
    obtain ⟨rfl, rfl⟩ := hx
    simp only [if_true] at hmm
    subst hmm
    have each : ∀ i, i < m → ∃ x : α, W.cells? 0 (a.add (i * n)) n = some (c x) ∧ Q x ∧ B x ≤ Rows.uptoBulk (D i) := fun i hi => by
      obtain ⟨cs', h1, h2⟩ := hc i hi
      rw [ce] at h1
      obtain ⟨_, hl1, _⟩ := World.cells?_some h1
      obtain ⟨x, rfl, hq, hb⟩ := one _ _ _ hl1 h2
      exact ⟨x, h1, hq, hb⟩
    let f : Nat → α := fun i => if h : i < m then (each i h).choose else default
    have hfs : ∀ i (_ : i < m), W.cells? 0 (a.add (i * n)) n = some (c (f i)) ∧ Q (f i) ∧ B (f i) ≤ Rows.uptoBulk (D i) := fun i h => by
      have : f i = (each i h).choose := by simp only [f]; rw [dif_pos h]
      rw [this]; exact (each i h).choose_spec
    have hgd : ∀ i, i < len → ((List.range len).map f).getD i default = f i := fun i h => by
      rw [List.getD_eq_getElem?_getD, List.getElem?_map, List.getElem?_range h]; rfl
    refine ⟨(List.range len).map f, ⟨by rw [flatMap_len hlen], some a, m, by simp, by simpa using hl, hm, fun j u hu => ?_⟩, fun x hx => ?_, ?_⟩
    · have hj : j < len * n := by
        have := (List.getElem?_eq_some_iff.1 hu).1
        simpa [flatMap_len hlen] using this
      have hq : j / n < len := Nat.div_lt_of_lt_mul (by rwa [Nat.mul_comm] at hj)
      have hr : j % n < n := Nat.mod_lt _ hn
      have hjj : j / n * n + j % n = j := by rw [Nat.mul_comm]; exact Nat.div_add_mod j n
      have g := flatMap_get hlen ((List.range len).map f) (i := j / n) (j := j % n) (by simpa using hq) hr
      rw [hgd _ hq, hjj, hu] at g
      obtain ⟨h1, _, _⟩ := hfs (j / n) (by omega)
      obtain ⟨_, _, hcell⟩ := World.cells?_some h1
      have h2 := hcell (j % n) hr
      obtain ⟨b, off, spot⟩ := a
      have hc2 : (c (f (j / n)))[j % n]? = some u := g.symm
      rw [Go.Deep.add_add, hjj, hc2] at h2
      obtain ⟨z1, _, _⟩ := hfs 0 (Nat.lt_of_lt_of_le (Nat.lt_of_le_of_lt (Nat.zero_le _) hq) hl)
      obtain ⟨_, _, zc⟩ := World.cells?_some z1
      have z2 := zc 0 hn
      rw [List.getElem?_eq_getElem (show 0 < (c (f 0)).length by rw [hlen]; exact hn)] at z2
      have hspot : spot = none := by simpa [Addr.add] using World.cell?_spot z2
      subst hspot
      exact ⟨b, off, rfl, by rw [show (⟨b, off, none⟩ : Addr).add j = ⟨b, off + j, none⟩ from by unfold Addr.add; split <;> simp_all] at h2; exact h2⟩
    · obtain ⟨i, hi, rfl⟩ := List.mem_map.1 hx
      exact (hfs i (by have := List.mem_range.1 hi; omega)).2.1
    · have hb : ∀ l : List Nat, (∀ i ∈ l, i < len) → ((l.map f).map B).sum ≤ Rows.uptoBulkAll (H := H) (l.map D) := fun l => by
        induction l with
        | nil => intro _; exact Nat.le_refl _
        | cons i l ih =>
          intro h
          have h1 := (hfs i (by have := h i (by simp); omega)).2.2
          have := ih (fun i hi => h i (by simp [hi]))
          simp only [List.map_cons, List.sum_cons, Rows.uptoBulkAll]
          omega
      have h1 := hb (List.range len) (fun i hi => by simpa using hi)
      simp only [Rows.uptoBulk]
      omega
/-- A slice of strings in a cell, opened. -/
theorem strs_of {t e : TypeId} (ht : P.underlying t = some (.slice e)) (he : P.underlying e = some .string) (hc : P.cellsOf e = 1) {W : World} {fuel : Nat} {v : Value} {d : DataW H} {ps : List MemPlace}
    (hf : DataW.trod enc P W 0 (fun _ => true) true fuel t [v] = some (d, ps)) :
    ∃ ss : List (List UInt8), RdRow W v ss.length 1 (strs ss) ∧ ss.length + sumLen ss + 1 ≤ Rows.uptoBulk d := by
  rcases open_strings ht he hc hf with ⟨hcs, hx⟩ | ⟨a, len', cap', ss, hcs, _, hl, hm, hz, hx, hcell, hws⟩
  · simp only [List.cons.injEq, and_true] at hcs
    subst hcs
    simp only [Prod.mk.injEq] at hx
    obtain ⟨rfl, rfl⟩ := hx
    exact ⟨[], ⟨rfl, none, 0, rfl, Nat.le_refl _, by simp [maxLen], fun j u hu => by simp at hu⟩, by simp [sumLen, Rows.uptoBulk]⟩
  · simp only [List.cons.injEq, and_true] at hcs
    subst hcs
    simp only [Prod.mk.injEq] at hx
    obtain ⟨rfl, rfl⟩ := hx
    simp only [if_true] at hz
    refine ⟨(ss.take len').map fun s => s.data.toList, ⟨by simp, some a, cap', by simp [hz]; omega, by simp [hz]; omega, hm, ?_⟩, ?_⟩
    · intro j u hu
      simp only [List.map_map, List.getElem?_map, Option.map_eq_some_iff] at hu
      obtain ⟨s, hs, rfl⟩ := hu
      have hj : j < len' := by
        have := (List.getElem?_eq_some_iff.1 hs).1
        simp at this
        omega
      have hs' : ss[j]? = some s := by rwa [List.getElem?_take_of_lt hj] at hs
      have hc := hcell j (by omega)
      obtain ⟨b, off, spot⟩ := a
      have hspot : spot = none := by simpa [Addr.add] using World.cell?_spot (hcell 0 (by omega))
      subst hspot
      refine ⟨b, off, rfl, ?_⟩
      rw [show (⟨b, off, none⟩ : Addr).add j = ⟨b, off + j, none⟩ from by unfold Addr.add; split <;> simp_all] at hc
      rw [hc]
      simp [List.getD, hs']
    · have h1 := bulk_strs (H := H) (ss.take len')
      simp only [Rows.uptoBulk]
      rw [h1]
      simp <;> omega
end
end Go.Proofs.YtgeabmmicofanaaGreatDoor

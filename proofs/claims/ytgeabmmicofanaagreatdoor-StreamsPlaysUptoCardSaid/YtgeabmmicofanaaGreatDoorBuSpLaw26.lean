/- Texts sorted and each once: plain law, no program. -/
import Derived.Test.YtgeabmmicofanaaGreatDoorBuSpLaw01
import Derived.Lib.SlicesCompact
import Derived.Sort.Walk0
set_option linter.unusedSimpArgs false
set_option linter.unusedVariables false
namespace Go.Proofs.YtgeabmmicofanaaGreatDoor

theorem comp_step {zs : List (List UInt8)} (hs : ∀ i j : Nat, i < j → ∀ x y, zs[i]? = some x → zs[j]? = some y → Op.bytesLess y x = false) : ∀ m, m ≤ zs.length →
    RisesL (Lib.compactUpTo zs.toArray m) ∧ ∀ z, z ∈ Lib.compactUpTo zs.toArray m ↔ ∃ j, j < m ∧ zs[j]? = some z := by
  intro m
  induction m with
  | zero => intro _; exact ⟨by simp [Lib.compactUpTo, RisesL], fun z => by simp [Lib.compactUpTo]⟩
  | succ m ih =>
    intro hm
    obtain ⟨ih1, ih2⟩ := ih (by omega)
    obtain ⟨y, hy⟩ : ∃ y, zs[m]? = some y := ⟨zs[m], List.getElem?_eq_getElem (by omega)⟩
    have hy' : zs.toArray[m]! = y := by simp [hy]
    rw [Lib.compactUpTo_succ, hy']
    by_cases hk : Lib.keeps zs.toArray m = true
    · rw [if_pos hk]
      refine ⟨?_, fun z => ?_⟩
      · refine List.pairwise_append.2 ⟨ih1, List.pairwise_singleton _ _, fun x hx b hb => ?_⟩
        simp only [List.mem_singleton] at hb
        subst hb
        obtain ⟨j, hj, hx⟩ := (ih2 x).1 hx
        refine bl_total (hs j m hj x b hx hy) fun e => ?_
        subst e
        have hm0 : m ≠ 0 := by omega
        obtain ⟨p, hp⟩ : ∃ p, zs[m - 1]? = some p := ⟨zs[m - 1], List.getElem?_eq_getElem (by omega)⟩
        have hp' : zs.toArray[m - 1]! = p := by simp [hp]
        have hne : b ≠ p := by
          have := hk
          simp only [Lib.keeps, decide_eq_true_eq] at this
          rw [hy', hp'] at this
          exact this.resolve_left hm0
        by_cases hjm : j = m - 1
        · subst hjm; rw [hx] at hp; cases hp; exact hne rfl
        · have q1 := hs j (m - 1) (by omega) b p hx hp
          have q2 := hs (m - 1) m (by omega) p b hp hy
          have := bl_total q1 (fun e => hne e.symm)
          rw [q2] at this
          cases this
      · rw [List.mem_append, ih2, List.mem_singleton]
        constructor
        · rintro (⟨j, h1, h2⟩ | rfl)
          · exact ⟨j, by omega, h2⟩
          · exact ⟨m, by omega, hy⟩
        · rintro ⟨j, h1, h2⟩
          by_cases e : j = m
          · subst e; rw [hy] at h2; cases h2; exact .inr rfl
          · exact .inl ⟨j, by omega, h2⟩
    · rw [if_neg hk, List.append_nil]
      refine ⟨ih1, fun z => ?_⟩
      rw [ih2]
      have hk' := hk
      simp only [Lib.keeps, decide_eq_true_eq, not_or, Decidable.not_not] at hk'
      obtain ⟨hm0, heq⟩ := hk'
      obtain ⟨p, hp⟩ : ∃ p, zs[m - 1]? = some p := ⟨zs[m - 1], List.getElem?_eq_getElem (by omega)⟩
      have hp' : zs.toArray[m - 1]! = p := by simp [hp]
      rw [hy', hp'] at heq
      subst heq
      constructor
      · rintro ⟨j, h1, h2⟩; exact ⟨j, by omega, h2⟩
      · rintro ⟨j, h1, h2⟩
        by_cases e : j = m
        · subst e; rw [hy] at h2; cases h2; exact ⟨j - 1, by omega, hp⟩
        · exact ⟨j, by omega, h2⟩
theorem compact_sort (L : List (List UInt8)) : Lib.compact (L.mergeSort fun x y => decide (x ≤ y)) = ofL L := by
  have hp := List.pairwise_mergeSort (le := fun x y : List UInt8 => decide (x ≤ y)) (fun a b c h1 h2 => by simp at *; exact List.le_trans h1 h2) (fun a b => by simp; exact List.le_total a b) L
  obtain ⟨h1, h2⟩ := comp_step (zs := L.mergeSort fun x y => decide (x ≤ y)) (fun i j hij x y hx hy => by
    obtain ⟨hi, rfl⟩ := List.getElem?_eq_some_iff.1 hx
    obtain ⟨hj, rfl⟩ := List.getElem?_eq_some_iff.1 hy
    have := List.pairwise_iff_getElem.1 hp i j hi hj hij
    rw [Go.Proofs.bytesLess_eq]
    simp only [decide_eq_true_eq] at this
    simpa using this) _ (Nat.le_refl _)
  refine RisesL.ext h1 (ofL_rises L) fun z => ?_
  unfold Lib.compact
  rw [h2, ofL_mem, ← (List.mergeSort_perm L fun x y => decide (x ≤ y)).mem_iff, List.mem_iff_getElem?]
  constructor
  · rintro ⟨j, _, h⟩; exact ⟨j, h⟩
  · rintro ⟨j, h⟩; exact ⟨j, (List.getElem?_eq_some_iff.1 h).1, h⟩
end Go.Proofs.YtgeabmmicofanaaGreatDoor

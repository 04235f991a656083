/- The list drained by falling keys, turned round, is the turned list drained by rising ones. No program in sight. -/
import Derived.Test.YtgahkodbjokgfaaHeapSortP
namespace Go.Proofs.Ytgahkodbjokgfaa
open Go.RowKit

theorem drainR_filter {lt : It → It → Bool} (hlt : hp.Ord lt) (hk : ∀ x y : It, x.key = y.key → lt x y = false) (c : Int) : ∀ (n : Nat) (L : List It), L.length = n → (drainR lt n L).filter (fun x => x.key == c) = L.filter (fun x => x.key == c)
  | 0, L, h => by rw [List.length_eq_zero_iff.1 h]; rfl
  | n + 1, L, h => by
    have hL : L ≠ [] := fun e => by subst e; simp at h
    have h1 := leftR_length (lt := lt) hL
    obtain ⟨hkl, hf⟩ := firstR_get (lt := lt) hL
    obtain ⟨_, _, i2⟩ := leastAt_is hlt hL
    rw [drainR, if_neg hL, hf]
    have ih := drainR_filter hlt hk c n (leftR lt L) (by omega)
    have hle : leftR lt L = L.eraseIdx (leastAt lt L L.length) := rfl
    rw [hle] at ih ⊢
    generalize leastAt lt L L.length = k at *
    have g : ∀ i (hi : i < L.length), L.getD i default = L[i] := fun i hi => by rw [List.getD_eq_getElem?_getD, List.getElem?_eq_getElem hi]; rfl
    have e1 : L = L.take k ++ L[k] :: L.drop (k + 1) := by rw [← List.drop_eq_getElem_cons hkl, List.take_append_drop]
    have e2 : L.eraseIdx k = L.take k ++ L.drop (k + 1) := List.eraseIdx_eq_take_drop_succ L k
    have hpre : L[k].key = c → (L.take k).filter (fun x => x.key == c) = [] := fun hc => by
      rw [List.filter_eq_nil_iff]
      intro x hx hxc
      obtain ⟨j, hj, rfl⟩ := List.mem_iff_getElem.1 hx
      rw [List.length_take] at hj
      rw [List.getElem_take] at hxc
      have h2 := i2 j (by omega)
      rw [g _ hkl, g _ (by omega)] at h2
      rw [hk _ _ (by rw [hc]; simpa using (beq_iff_eq.1 hxc).symm)] at h2
      cases h2
    rw [List.filter_cons, ih, e2, List.filter_append]
    conv => rhs; rw [e1, List.filter_append, List.filter_cons]
    by_cases hc : L[k].key = c
    · rw [if_pos (by simpa using hc), if_pos (by simpa using hc), hpre hc]; rfl
    · rw [if_neg (by simpa using hc), if_neg (by simpa using hc)]

theorem eq_of_filter : ∀ (A B : List It), A.Pairwise (fun x y => x.key ≤ y.key) → B.Pairwise (fun x y => x.key ≤ y.key) → (∀ c : Int, A.filter (fun x => x.key == c) = B.filter (fun x => x.key == c)) → A = B
  | [], B, _, _, h => by
    cases B with
    | nil => rfl
    | cons b B => have := h b.key; simp at this
  | a :: A, [], _, _, h => by have := h a.key; simp at this
  | a :: A, b :: B, hA, hB, h => by
    have ha : a ∈ (b :: B).filter (fun x => x.key == a.key) := by rw [← h a.key]; simp
    have hb : b ∈ (a :: A).filter (fun x => x.key == b.key) := by rw [h b.key]; simp
    have ha := (List.mem_filter.1 ha).1
    have hb := (List.mem_filter.1 hb).1
    rw [List.pairwise_cons] at hA hB
    have e : a.key = b.key := by
      have h1 : b.key ≤ a.key := by
        rcases List.mem_cons.1 ha with rfl | ha
        · exact Int.le_refl _
        · exact hB.1 a ha
      have h2 : a.key ≤ b.key := by
        rcases List.mem_cons.1 hb with rfl | hb
        · exact Int.le_refl _
        · exact hA.1 b hb
      omega
    have hab := h a.key
    rw [List.filter_cons, List.filter_cons, if_pos (by simp), if_pos (by simp [e])] at hab
    have hab1 : a = b := (List.cons.inj hab).1
    subst hab1
    rw [eq_of_filter A B hA.2 hB.2 fun c => by
      have := h c
      rw [List.filter_cons, List.filter_cons] at this
      by_cases hc : (a.key == c) = true
      · rw [if_pos hc, if_pos hc] at this; exact (List.cons.inj this).2
      · rw [if_neg hc, if_neg hc] at this; exact this]

theorem turned (L : List It) : (drainR ltF L.length L).reverse = drainR ltK L.length L.reverse := by
  apply eq_of_filter
  · rw [List.pairwise_reverse]
    have := drainR_sorted ordF (R := fun _ _ => True) L.length L rfl (List.pairwise_iff_getElem.2 fun _ _ _ _ _ => trivial)
    exact this.imp fun {x y} h => by
      rcases h with h | ⟨h, _⟩
      · simp [ltF] at h; omega
      · simp [ltF] at h; omega
  · have := drainR_sorted ordK (R := fun _ _ => True) L.length L.reverse (by simp) (List.pairwise_iff_getElem.2 fun _ _ _ _ _ => trivial)
    exact this.imp fun {x y} h => by
      rcases h with h | ⟨h, _⟩
      · simp [ltK] at h; omega
      · simp [ltK] at h; omega
  · intro c
    rw [List.filter_reverse, drainR_filter ordF (fun x y h => by simp [ltF, h]) c _ _ rfl, drainR_filter ordK (fun x y h => by simp [ltK, h]) c _ _ (by simp), List.filter_reverse]
end Go.Proofs.Ytgahkodbjokgfaa

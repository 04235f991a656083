/- The drained list: a permutation, in order. -/
import Derived.Test.YtgahkodbjokgfaaHeapWakes
namespace Go.Proofs.Ytgahkodbjokgfaa
open Go.RowKit

theorem firstR_get {lt : It → It → Bool} {L : List It} (h : L ≠ []) : ∃ hk : leastAt lt L L.length < L.length, firstR lt L = L[leastAt lt L L.length] := by
  have hl : L.length ≠ 0 := by simpa using h
  have hk := leastAt_lt lt L _ hl
  exact ⟨hk, by unfold firstR; rw [List.getD_eq_getElem?_getD, List.getElem?_eq_getElem hk]; rfl⟩
theorem drainR_perm (lt : It → It → Bool) : ∀ (n : Nat) (L : List It), L.length = n → (drainR lt n L).Perm L
  | 0, L, h => by rw [List.length_eq_zero_iff.1 h]; exact List.Perm.refl _
  | n + 1, L, h => by
    have hL : L ≠ [] := fun e => by subst e; simp at h
    have h1 := leftR_length (lt := lt) hL
    obtain ⟨hk, hf⟩ := firstR_get (lt := lt) hL
    rw [drainR, if_neg hL, hf]
    exact ((drainR_perm lt n (leftR lt L) (by omega)).cons _).trans (hp.perm_eraseIdx L _ hk).symm
theorem drainR_sorted {lt : It → It → Bool} (hlt : hp.Ord lt) {R : It → It → Prop} : ∀ (n : Nat) (L : List It), L.length = n → L.Pairwise R → (drainR lt n L).Pairwise fun x y => lt x y = true ∨ (lt y x = false ∧ R x y)
  | 0, L, h, _ => by rw [drainR]; exact List.Pairwise.nil
  | n + 1, L, h, hR => by
    have hL : L ≠ [] := fun e => by subst e; simp at h
    have h1 := leftR_length (lt := lt) hL
    obtain ⟨hk, hf⟩ := firstR_get (lt := lt) hL
    rw [drainR, if_neg hL, List.pairwise_cons]
    refine ⟨fun y hy => ?_, drainR_sorted hlt n _ (by omega) (hR.sublist (List.eraseIdx_sublist _ _))⟩
    have hm := ((drainR_perm lt n (leftR lt L) (by omega)).mem_iff).1 hy
    obtain ⟨j, hj, hne, rfl⟩ := List.mem_eraseIdx_iff_getElem.1 hm
    obtain ⟨_, i1, i2⟩ := leastAt_is hlt hL
    have g : ∀ i (hi : i < L.length), L.getD i default = L[i] := fun i hi => by rw [List.getD_eq_getElem?_getD, List.getElem?_eq_getElem hi]; rfl
    rw [hf]
    rcases Nat.lt_or_gt_of_ne hne with h2 | h2
    · left
      have := i2 j h2
      rwa [g _ hk, g _ hj] at this
    · right
      have := i1 j hj
      rw [g _ hk, g _ hj] at this
      exact ⟨this, List.pairwise_iff_getElem.1 hR _ _ hk hj h2⟩

/-- Keys, tagged in the order of their coming in. -/
def numbered (keys : List Int) : List It := keys.mapIdx fun i k => ⟨k, (i : Int)⟩
theorem numbered_length (keys : List Int) : (numbered keys).length = keys.length := by simp [numbered]
theorem numbered_get (keys : List Int) (i : Nat) (h : i < keys.length) : (numbered keys)[i]'(by rw [numbered_length]; exact h) = ⟨keys[i], (i : Int)⟩ := by simp [numbered]
theorem numbered_take (keys : List Int) (i : Nat) (h : i < keys.length) : numbered (keys.take (i + 1)) = numbered (keys.take i) ++ [⟨keys.getD i 0, (i : Int)⟩] := by
  unfold numbered
  rw [List.take_add_one, List.getElem?_eq_getElem h]
  rw [Option.toList_some, List.mapIdx_append]
  simp only [List.mapIdx_cons, List.mapIdx_nil, List.length_take, Nat.min_eq_left (Nat.le_of_lt h), Nat.zero_add, List.getD_eq_getElem?_getD, List.getElem?_eq_getElem h, Option.getD_some]
theorem numbered_pairwise (keys : List Int) : (numbered keys).Pairwise fun x y => x.tag < y.tag := by
  rw [List.pairwise_iff_getElem]
  intro i j hi hj hij
  rw [numbered_length] at hi hj
  rw [numbered_get _ _ hi, numbered_get _ _ hj]
  show (i : Int) < j
  omega

/-- What HeapSorts asks of the drained list, place by place. -/
structure SortAt (keys : List Int) (D : List It) (i t : Nat) (k : Int) : Prop where
  at_ : D.getD i default = ⟨k, (t : Int)⟩
  lt : t < keys.length
  key : keys.getD t 0 = k
  fresh : (D.take i).any (fun x => x.tag == (t : Int)) = false
  order : 0 < i → (D.getD (i - 1) default).key < k ∨ ((D.getD (i - 1) default).key = k ∧ (D.getD (i - 1) default).tag < (t : Int))
theorem sortAt (keys : List Int) (i : Nat) (hi : i < keys.length) : ∃ t k, SortAt keys (drainR ltK keys.length (numbered keys)) i t k := by
  have hp := drainR_perm ltK keys.length (numbered keys) (numbered_length keys)
  have hs := drainR_sorted ordK keys.length (numbered keys) (numbered_length keys) (numbered_pairwise keys)
  have hn : ((drainR ltK keys.length (numbered keys)).map (·.tag)).Nodup := by
    refine ((hp.map _).nodup_iff).2 ?_
    rw [List.nodup_iff_pairwise_ne, List.pairwise_map]
    exact (numbered_pairwise keys).imp fun h => by omega
  have hlen : (drainR ltK keys.length (numbered keys)).length = keys.length := drainR_len ltK _ _ (numbered_length keys)
  generalize drainR ltK keys.length (numbered keys) = D at *
  have hiD : i < D.length := by omega
  have g : ∀ i (hi : i < D.length), D.getD i default = D[i] := fun i hi => by rw [List.getD_eq_getElem?_getD, List.getElem?_eq_getElem hi]; rfl
  have hm : D[i] ∈ numbered keys := hp.mem_iff.1 (List.getElem_mem hiD)
  obtain ⟨t, ht, he⟩ := List.mem_iff_getElem.1 hm
  rw [numbered_length] at ht
  rw [numbered_get _ _ ht] at he
  refine ⟨t, keys[t], by rw [g _ hiD, he], ht, by simp [List.getD_eq_getElem?_getD, ht], ?_, fun h0 => ?_⟩
  · rw [List.any_eq_false]
    intro x hx hxt
    obtain ⟨j, hj, rfl⟩ := List.mem_iff_getElem.1 hx
    rw [List.length_take] at hj
    rw [List.getElem_take] at hxt
    have h2 := List.pairwise_iff_getElem.1 (List.nodup_iff_pairwise_ne.1 hn) j i (by simp; omega) (by simpa using hiD) (by omega)
    simp only [List.getElem_map] at h2
    rw [← he] at h2
    simp at hxt
    exact h2 hxt
  · have h2 := List.pairwise_iff_getElem.1 hs (i - 1) i (by omega) hiD (by omega)
    rw [g _ (by omega)]
    rw [← he] at h2
    rcases h2 with h2 | ⟨h2, h3⟩
    · left; simpa [ltK] using h2
    · simp only [ltK, decide_eq_false_iff_not, Int.not_lt] at h2
      by_cases h4 : (D[i - 1]'(by omega)).key < keys[t]
      · exact .inl h4
      · right
        exact ⟨by omega, h3⟩
end Go.Proofs.Ytgahkodbjokgfaa

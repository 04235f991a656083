/- A heap as a list, in plain words: rise, sink, what they keep, what comes out first. No program in sight. -/
namespace Go.Proofs.Ytbmfaffnbjmipaa.hp

section
variable {β : Type} [Inhabited β]

def swapL (l : List β) (i j : Nat) : List β := (l.set i (l.getD j default)).set j (l.getD i default)

/-- Up from the place i. -/
def riseL (R : β → β → Bool) (l : List β) (i : Nat) : List β :=
  if 0 < i ∧ R (l.getD i default) (l.getD ((i - 1) / 2) default) = true then riseL R (swapL l i ((i - 1) / 2)) ((i - 1) / 2) else l
termination_by i
decreasing_by omega

/-- The least of i and its children. -/
def leastL (R : β → β → Bool) (l : List β) (i : Nat) : Nat :=
  let a := if 2 * i + 1 < l.length ∧ R (l.getD (2 * i + 1) default) (l.getD i default) = true then 2 * i + 1 else i
  if 2 * i + 2 < l.length ∧ R (l.getD (2 * i + 2) default) (l.getD a default) = true then 2 * i + 2 else a

theorem leastL_bound (R : β → β → Bool) (l : List β) (i : Nat) : leastL R l i = i ∨ (i < leastL R l i ∧ leastL R l i < l.length) := by
  unfold leastL
  by_cases h1 : 2 * i + 1 < l.length ∧ R (l.getD (2 * i + 1) default) (l.getD i default) = true
  · simp only [if_pos h1]
    by_cases h2 : 2 * i + 2 < l.length ∧ R (l.getD (2 * i + 2) default) (l.getD (2 * i + 1) default) = true
    · simp only [if_pos h2]; omega
    · simp only [if_neg h2]; omega
  · simp only [if_neg h1]
    by_cases h2 : 2 * i + 2 < l.length ∧ R (l.getD (2 * i + 2) default) (l.getD i default) = true
    · simp only [if_pos h2]; omega
    · simp only [if_neg h2]; simp

/-- Down from the place i. -/
def sinkL (R : β → β → Bool) (l : List β) (i : Nat) : List β :=
  if _h : leastL R l i ≠ i then sinkL R (swapL l i (leastL R l i)) (leastL R l i) else l
termination_by l.length - i
decreasing_by
  have e : (swapL l i (leastL R l i)).length = l.length := by simp [swapL]
  rw [e]
  have := leastL_bound R l i
  omega

theorem swapL_length (l : List β) (i j : Nat) : (swapL l i j).length = l.length := by simp [swapL]

theorem riseL_go {R : β → β → Bool} {l : List β} {i : Nat} (h : 0 < i) (hr : R (l.getD i default) (l.getD ((i - 1) / 2) default) = true) : riseL R l i = riseL R (swapL l i ((i - 1) / 2)) ((i - 1) / 2) := by
  rw [riseL, if_pos ⟨h, hr⟩]
theorem riseL_stop {R : β → β → Bool} {l : List β} {i : Nat} (h : ¬ (0 < i ∧ R (l.getD i default) (l.getD ((i - 1) / 2) default) = true)) : riseL R l i = l := by
  rw [riseL, if_neg h]
theorem sinkL_go {R : β → β → Bool} {l : List β} {i : Nat} (h : leastL R l i ≠ i) : sinkL R l i = sinkL R (swapL l i (leastL R l i)) (leastL R l i) := by
  rw [sinkL, dif_pos h]
theorem sinkL_stop {R : β → β → Bool} {l : List β} {i : Nat} (h : leastL R l i = i) : sinkL R l i = l := by
  rw [sinkL, dif_neg (by simpa using h)]

theorem getD_swapL {l : List β} {i j k : Nat} (hi : i < l.length) (hj : j < l.length) : (swapL l i j).getD k default = if k = j then l.getD i default else if k = i then l.getD j default else l.getD k default := by
  simp only [swapL, List.getD_eq_getElem?_getD, List.getElem?_set, List.length_set]
  by_cases h1 : j = k
  · subst h1; simp [hj]
  · rw [if_neg h1, if_neg (show ¬ k = j from fun h => h1 h.symm)]
    by_cases h2 : i = k
    · subst h2; simp [hi]
    · rw [if_neg h2, if_neg (show ¬ k = i from fun h => h2 h.symm)]

theorem set_perm {l : List β} {i : Nat} (hi : i < l.length) (x : β) : (l.getD i default :: l.set i x).Perm (x :: l) := by
  induction l generalizing i with
  | nil => simp at hi
  | cons a l ih =>
    cases i with
    | zero => simpa using List.Perm.swap x a l
    | succ i =>
      have := ih (i := i) (by simpa using hi)
      simp only [List.getD_cons_succ, List.set_cons_succ]
      exact ((List.Perm.swap _ _ _).trans (this.cons a)).trans (List.Perm.swap _ _ _)

theorem swapL_perm {l : List β} {i j : Nat} (hi : i < l.length) (hj : j < l.length) : (swapL l i j).Perm l := by
  by_cases hij : i = j
  · subst hij
    have e : swapL l i i = l := by
      apply List.ext_getElem?
      intro k
      simp only [swapL, List.getElem?_set, List.length_set]
      by_cases h : i = k
      · subst h; simp [hi]
      · simp [h]
    rw [e]
  · have h1 := set_perm (l := l.set i (l.getD j default)) (i := j) (by simpa using hj) (l.getD i default)
    have e : (l.set i (l.getD j default)).getD j default = l.getD j default := by
      simp only [List.getD_eq_getElem?_getD, List.getElem?_set]; rw [if_neg hij]
    rw [e] at h1
    have h2 := set_perm hi (l.getD j default)
    exact (List.Perm.cons_inv (h1.trans h2))

/-- What an order ahead of others must be: no two ahead of each other; not behind, carried on. -/
structure Ord (R : β → β → Bool) : Prop where
  asymm : ∀ x y, R x y = true → R y x = false
  neg : ∀ x y z, R y x = false → R z y = false → R z x = false

theorem riseL_length (R : β → β → Bool) (l : List β) (i : Nat) : (riseL R l i).length = l.length := by
  induction i using Nat.strongRecOn generalizing l with
  | ind i ih =>
    by_cases h : 0 < i ∧ R (l.getD i default) (l.getD ((i - 1) / 2) default) = true
    · rw [riseL_go h.1 h.2, ih _ (by omega), swapL_length]
    · rw [riseL_stop h]
theorem riseL_perm (R : β → β → Bool) (l : List β) (i : Nat) (hi : i < l.length) : (riseL R l i).Perm l := by
  induction i using Nat.strongRecOn generalizing l with
  | ind i ih =>
    by_cases h : 0 < i ∧ R (l.getD i default) (l.getD ((i - 1) / 2) default) = true
    · rw [riseL_go h.1 h.2]
      exact (ih _ (by omega) _ (by rw [swapL_length]; omega)).trans (swapL_perm hi (by omega))
    · rw [riseL_stop h]

/-- No place is ahead of the one above it. -/
def Heap (R : β → β → Bool) (l : List β) : Prop := ∀ j, 0 < j → j < l.length → R (l.getD j default) (l.getD ((j - 1) / 2) default) = false

/-- .. but for the place i, whose children are not ahead of what is above it. -/
def HeapUp (R : β → β → Bool) (l : List β) (i : Nat) : Prop :=
  (∀ j, 0 < j → j < l.length → j ≠ i → R (l.getD j default) (l.getD ((j - 1) / 2) default) = false) ∧
  (∀ j, 0 < j → j < l.length → (j - 1) / 2 = i → 0 < i → R (l.getD j default) (l.getD ((i - 1) / 2) default) = false)

theorem rise_heap {R : β → β → Bool} (hR : Ord R) {l : List β} {i : Nat} (hi : i < l.length) (h : HeapUp R l i) : Heap R (riseL R l i) := by
  induction i using Nat.strongRecOn generalizing l with
  | ind i ih =>
    by_cases hc : 0 < i ∧ R (l.getD i default) (l.getD ((i - 1) / 2) default) = true
    · rw [riseL_go hc.1 hc.2]
      have hp : (i - 1) / 2 < l.length := by omega
      have hpi : (i - 1) / 2 ≠ i := by omega
      refine ih _ (by omega) (by rw [swapL_length]; exact hp) ⟨?_, ?_⟩
      · intro j h0 hj hne
        rw [swapL_length] at hj
        rw [getD_swapL hi hp, getD_swapL hi hp, if_neg hne]
        by_cases hji : j = i
        · subst hji
          rw [if_pos rfl, if_pos rfl]
          exact hR.asymm _ _ hc.2
        · rw [if_neg hji]
          by_cases hq : (j - 1) / 2 = (i - 1) / 2
          · rw [if_pos hq]
            have h1 := h.1 j h0 hj hji
            rw [hq] at h1
            exact hR.neg _ _ _ (hR.asymm _ _ hc.2) h1
          · rw [if_neg hq]
            by_cases hq2 : (j - 1) / 2 = i
            · rw [if_pos hq2]
              exact h.2 j h0 hj hq2 hc.1
            · rw [if_neg hq2]
              exact h.1 j h0 hj hji
      · intro j h0 hj hq hp0
        rw [swapL_length] at hj
        have hppi : ((i - 1) / 2 - 1) / 2 ≠ i := by omega
        have hppp : ((i - 1) / 2 - 1) / 2 ≠ (i - 1) / 2 := by omega
        rw [getD_swapL hi hp, getD_swapL hi hp, if_neg hppp, if_neg hppi, if_neg (show ¬ j = (i - 1) / 2 by omega)]
        have h1 := h.1 ((i - 1) / 2) hp0 hp hpi
        by_cases hji : j = i
        · rw [if_pos hji]; exact h1
        · rw [if_neg hji]
          have h2 := h.1 j h0 hj hji
          rw [hq] at h2
          exact hR.neg _ _ _ h1 h2
    · rw [riseL_stop hc]
      intro j h0 hj
      by_cases hji : j = i
      · subst hji
        cases hb : R (l.getD j default) (l.getD ((j - 1) / 2) default) with
        | false => rfl
        | true => exact absurd ⟨h0, hb⟩ hc
      · exact h.1 j h0 hj hji

/-- .. but for the children of the place i. -/
def HeapDown (R : β → β → Bool) (l : List β) (i : Nat) : Prop :=
  (∀ j, 0 < j → j < l.length → (j - 1) / 2 ≠ i → R (l.getD j default) (l.getD ((j - 1) / 2) default) = false) ∧
  (∀ j, 0 < j → j < l.length → (j - 1) / 2 = i → 0 < i → R (l.getD j default) (l.getD ((i - 1) / 2) default) = false)

theorem leastL_spec {R : β → β → Bool} (hR : Ord R) (l : List β) (i : Nat) (hi : i < l.length) :
    (leastL R l i = i ∨ leastL R l i = 2 * i + 1 ∨ leastL R l i = 2 * i + 2) ∧ leastL R l i < l.length ∧
    (leastL R l i ≠ i → R (l.getD (leastL R l i) default) (l.getD i default) = true) ∧
    (∀ j, 0 < j → j < l.length → (j - 1) / 2 = i → R (l.getD j default) (l.getD (leastL R l i) default) = false) := by
  have irr : ∀ x, R x x = false := fun x => by
    cases h : R x x with
    | false => rfl
    | true => have := hR.asymm _ _ h; rw [h] at this; exact this
  have hj2 : ∀ j, 0 < j → (j - 1) / 2 = i → j = 2 * i + 1 ∨ j = 2 * i + 2 := fun j h0 h => by omega
  unfold leastL
  by_cases h1 : 2 * i + 1 < l.length ∧ R (l.getD (2 * i + 1) default) (l.getD i default) = true
  · simp only [if_pos h1]
    by_cases h2 : 2 * i + 2 < l.length ∧ R (l.getD (2 * i + 2) default) (l.getD (2 * i + 1) default) = true
    · simp only [if_pos h2]
      refine ⟨by simp, h2.1, fun _ => ?_, fun j h0 hj hq => ?_⟩
      · cases hb : R (l.getD (2 * i + 2) default) (l.getD i default) with
        | true => rfl
        | false => have := hR.neg _ _ _ (hR.asymm _ _ h1.2) hb; rw [h2.2] at this; exact this.symm
      · rcases hj2 j h0 hq with rfl | rfl
        · exact hR.asymm _ _ h2.2
        · exact irr _
    · simp only [if_neg h2]
      refine ⟨by simp, h1.1, fun _ => h1.2, fun j h0 hj hq => ?_⟩
      rcases hj2 j h0 hq with rfl | rfl
      · exact irr _
      · cases hb : R (l.getD (2 * i + 2) default) (l.getD (2 * i + 1) default) with
        | false => rfl
        | true => exact absurd ⟨hj, hb⟩ h2
  · simp only [if_neg h1]
    by_cases h2 : 2 * i + 2 < l.length ∧ R (l.getD (2 * i + 2) default) (l.getD i default) = true
    · simp only [if_pos h2]
      refine ⟨by simp, h2.1, fun _ => h2.2, fun j h0 hj hq => ?_⟩
      rcases hj2 j h0 hq with rfl | rfl
      · have hb : R (l.getD (2 * i + 1) default) (l.getD i default) = false := by
          cases hb : R (l.getD (2 * i + 1) default) (l.getD i default) with
          | false => rfl
          | true => exact absurd ⟨by omega, hb⟩ h1
        exact hR.neg _ _ _ (hR.asymm _ _ h2.2) hb
      · exact irr _
    · simp only [if_neg h2]
      refine ⟨by simp, hi, fun h => absurd rfl h, fun j h0 hj hq => ?_⟩
      rcases hj2 j h0 hq with rfl | rfl
      · cases hb : R (l.getD (2 * i + 1) default) (l.getD i default) with
        | false => rfl
        | true => exact absurd ⟨hj, hb⟩ h1
      · cases hb : R (l.getD (2 * i + 2) default) (l.getD i default) with
        | false => rfl
        | true => exact absurd ⟨hj, hb⟩ h2

theorem sinkL_length (R : β → β → Bool) (l : List β) (i : Nat) : (sinkL R l i).length = l.length := by
  induction hn : l.length - i using Nat.strongRecOn generalizing l i with
  | ind n ih =>
    by_cases h : leastL R l i = i
    · rw [sinkL_stop h]
    · have hb := (leastL_bound R l i).resolve_left h
      rw [sinkL_go h, ih _ (by rw [← hn, swapL_length]; omega) _ _ rfl, swapL_length]
theorem sinkL_perm (R : β → β → Bool) (l : List β) (i : Nat) (hi : i < l.length ∨ l = []) : (sinkL R l i).Perm l := by
  induction hn : l.length - i using Nat.strongRecOn generalizing l i with
  | ind n ih =>
    by_cases h : leastL R l i = i
    · rw [sinkL_stop h]
    · have hb := (leastL_bound R l i).resolve_left h
      have hi' : i < l.length := by omega
      rw [sinkL_go h]
      exact (ih _ (by rw [← hn, swapL_length]; omega) _ _ (.inl (by rw [swapL_length]; exact hb.2)) rfl).trans (swapL_perm hi' hb.2)

theorem sink_heap {R : β → β → Bool} (hR : Ord R) {l : List β} {i : Nat} (hi : i < l.length) (h : HeapDown R l i) : Heap R (sinkL R l i) := by
  induction hn : l.length - i using Nat.strongRecOn generalizing l i with
  | ind n ih =>
    obtain ⟨hch, hlt, hahead, hmin⟩ := leastL_spec hR l i hi
    by_cases hc : leastL R l i = i
    · rw [sinkL_stop hc]
      rw [hc] at hmin
      intro j h0 hj
      by_cases hq : (j - 1) / 2 = i
      · rw [hq]; exact hmin j h0 hj hq
      · exact h.1 j h0 hj hq
    · rw [sinkL_go hc]
      have hb := (leastL_bound R l i).resolve_left hc
      have hr := hahead hc
      have hcm : (leastL R l i - 1) / 2 = i := by omega
      generalize leastL R l i = m at *
      refine ih _ (by rw [← hn, swapL_length]; omega) (by rw [swapL_length]; exact hlt) ⟨?_, ?_⟩ rfl
      · intro j h0 hj hne
        rw [swapL_length] at hj
        rw [getD_swapL hi hlt, getD_swapL hi hlt, if_neg hne]
        by_cases hjm : j = m
        · subst hjm
          rw [if_pos rfl, if_pos hcm]
          exact hR.asymm _ _ hr
        · rw [if_neg hjm]
          by_cases hji : j = i
          · subst hji
            rw [if_pos rfl, if_neg (show ¬ (j - 1) / 2 = j by omega)]
            exact h.2 m (by omega) hlt hcm h0
          · rw [if_neg hji]
            by_cases hq : (j - 1) / 2 = i
            · rw [if_pos hq]; exact hmin j h0 hj hq
            · rw [if_neg hq]; exact h.1 j h0 hj hq
      · intro j h0 hj hq _
        rw [swapL_length] at hj
        rw [getD_swapL hi hlt, getD_swapL hi hlt, hcm, if_neg (show ¬ i = m by omega), if_pos rfl, if_neg (show ¬ j = m by omega), if_neg (show ¬ j = i by omega)]
        have := h.1 j h0 hj (by omega)
        rw [hq] at this
        exact this

/-- The root is ahead of all. -/
theorem heap_root {R : β → β → Bool} (hR : Ord R) {l : List β} (h : Heap R l) : ∀ j, j < l.length → R (l.getD j default) (l.getD 0 default) = false := by
  intro j
  induction j using Nat.strongRecOn with
  | ind j ih =>
    intro hj
    by_cases h0 : j = 0
    · subst h0
      cases hb : R (l.getD 0 default) (l.getD 0 default) with
      | false => rfl
      | true => have := hR.asymm _ _ hb; rw [hb] at this; exact this
    · exact hR.neg _ _ _ (ih ((j - 1) / 2) (by omega) (by omega)) (h j (by omega) hj)
theorem heap_root_mem {R : β → β → Bool} (hR : Ord R) {l : List β} (h : Heap R l) {x : β} (hx : x ∈ l) : R x (l.getD 0 default) = false := by
  obtain ⟨j, hj, rfl⟩ := List.getElem_of_mem hx
  have := heap_root hR h j hj
  simpa [List.getD_eq_getElem?_getD, hj] using this

/-- One more, at the end: then up. -/
theorem push_heap {R : β → β → Bool} (hR : Ord R) {l : List β} (h : Heap R l) (x : β) : Heap R (riseL R (l ++ [x]) l.length) := by
  have ha : ∀ j, j < l.length → (l ++ [x]).getD j default = l.getD j default := fun j hj => by
    simp only [List.getD_eq_getElem?_getD]; rw [List.getElem?_append_left hj]
  refine rise_heap hR (by simp) ⟨fun j h0 hj hne => ?_, fun j h0 hj hq hp => ?_⟩
  · have hj' : j < l.length := by simp at hj; omega
    rw [ha j hj', ha _ (by omega)]
    exact h j h0 hj'
  · simp at hj; omega
/-- The root, and what is left when the last is put in its place and let down. -/
def popL (R : β → β → Bool) (l : List β) : List β := sinkL R ((swapL l 0 (l.length - 1)).take (l.length - 1)) 0
theorem pop_perm {R : β → β → Bool} {l : List β} (hl : l ≠ []) : (l.getD 0 default :: popL R l).Perm l := by
  have hlen : 0 < l.length := List.length_pos_iff.2 hl
  have h1 : (popL R l).Perm ((swapL l 0 (l.length - 1)).take (l.length - 1)) := by
    apply sinkL_perm
    by_cases h : l.length - 1 = 0
    · right; rw [h]; rfl
    · left; rw [List.length_take, swapL_length]; omega
  have h2 : swapL l 0 (l.length - 1) = (swapL l 0 (l.length - 1)).take (l.length - 1) ++ [l.getD 0 default] := by
    have h3 := getD_swapL (l := l) (i := 0) (j := l.length - 1) (k := l.length - 1) hlen (by omega)
    rw [if_pos rfl] at h3
    have h4 : (swapL l 0 (l.length - 1)).length = (l.length - 1) + 1 := by rw [swapL_length]; omega
    conv => lhs; rw [← List.take_length (l := swapL l 0 (l.length - 1)), h4]
    rw [List.take_succ_eq_append_getElem (by omega)]
    congr 1
    rw [← h3, List.getD_eq_getElem?_getD, List.getElem?_eq_getElem (by omega)]
    rfl
  have h5 := swapL_perm (l := l) (i := 0) (j := l.length - 1) hlen (by omega)
  rw [h2] at h5
  exact ((h1.cons _).trans (List.perm_append_singleton _ _).symm).trans h5
theorem pop_heap {R : β → β → Bool} (hR : Ord R) {l : List β} (h : Heap R l) (hl : l ≠ []) : Heap R (popL R l) := by
  have hlen : 0 < l.length := List.length_pos_iff.2 hl
  by_cases h1 : l.length = 1
  · have : (popL R l) = [] := by
      unfold popL
      rw [h1]
      have hz : leastL R ((swapL l 0 (1 - 1)).take (1 - 1)) 0 = 0 := by simp [leastL]
      rw [sinkL_stop hz]; rfl
    rw [this]
    intro j _ hj; simp at hj
  · have hg : ∀ j, j < l.length - 1 → ((swapL l 0 (l.length - 1)).take (l.length - 1)).getD j default = if j = 0 then l.getD (l.length - 1) default else l.getD j default := by
      intro j hj
      have := getD_swapL (l := l) (i := 0) (j := l.length - 1) (k := j) hlen (by omega)
      rw [if_neg (by omega)] at this
      rw [← this, List.getD_eq_getElem?_getD, List.getElem?_take_of_lt hj, List.getD_eq_getElem?_getD]
    have hlt : ((swapL l 0 (l.length - 1)).take (l.length - 1)).length = l.length - 1 := by rw [List.length_take, swapL_length]; omega
    refine sink_heap hR (by rw [hlt]; omega) ⟨fun j h0 hj hq => ?_, fun j _ _ _ h0 => absurd h0 (by omega)⟩
    rw [hlt] at hj
    rw [hg j hj, hg _ (by omega), if_neg (by omega), if_neg hq]
    exact h j h0 (by omega)
/-- Another in the root's place, let down. -/
theorem replace_heap {R : β → β → Bool} (hR : Ord R) {l : List β} (h : Heap R l) (hl : l ≠ []) (x : β) : Heap R (sinkL R (l.set 0 x) 0) := by
  have hlen : 0 < l.length := List.length_pos_iff.2 hl
  have hg : ∀ j, 0 < j → (l.set 0 x).getD j default = l.getD j default := fun j hj => by
    simp only [List.getD_eq_getElem?_getD, List.getElem?_set]; rw [if_neg (by omega)]
  refine sink_heap hR (by simpa using hlen) ⟨fun j h0 hj hq => ?_, fun j _ _ _ h0 => absurd h0 (by omega)⟩
  rw [hg j h0, hg _ (by omega)]
  exact h j h0 (by simpa using hj)
theorem replace_perm {R : β → β → Bool} {l : List β} (hl : l ≠ []) (x : β) : (l.getD 0 default :: sinkL R (l.set 0 x) 0).Perm (x :: l) := by
  have hlen : 0 < l.length := List.length_pos_iff.2 hl
  exact ((sinkL_perm R (l.set 0 x) 0 (.inl (by simpa using hlen))).cons _).trans (set_perm hlen x)
theorem push_perm {R : β → β → Bool} (l : List β) (x : β) : (riseL R (l ++ [x]) l.length).Perm (x :: l) :=
  (riseL_perm R _ _ (by simp)).trans (List.perm_append_singleton _ _)

end
end Go.Proofs.Ytbmfaffnbjmipaa.hp

/- What a heap gives, against the list of what came in, in the order of its coming in. No program in sight. -/
import Derived.Test.YtbmfaffnbjmipaaHeapPlain
namespace Go.Proofs.Ytbmfaffnbjmipaa.hp

/-- Entries: a thing with the number of its coming in. -/
def ahead {α : Type} (lt : α → α → Bool) (x y : α × Nat) : Bool := if lt x.1 y.1 then true else if lt y.1 x.1 then false else decide (x.2 < y.2)

theorem ahead_ord {α : Type} {lt : α → α → Bool} (h : Ord lt) : Ord (ahead lt) where
  asymm x y hxy := by
    unfold ahead at hxy ⊢
    by_cases h1 : lt x.1 y.1 = true
    · rw [if_neg (by simp [h.asymm _ _ h1]), if_pos h1]
    · rw [if_neg h1] at hxy
      by_cases h2 : lt y.1 x.1 = true
      · rw [if_pos h2] at hxy; cases hxy
      · rw [if_neg h2] at hxy
        rw [if_neg h2, if_neg h1]
        simp at hxy ⊢; omega
  neg x y z hyx hzy := by
    unfold ahead at hyx hzy ⊢
    by_cases a1 : lt y.1 x.1 = true
    · rw [if_pos a1] at hyx; cases hyx
    · by_cases b1 : lt z.1 y.1 = true
      · rw [if_pos b1] at hzy; cases hzy
      · have c1 := h.neg _ _ _ (by simpa using a1) (by simpa using b1)
        rw [if_neg a1] at hyx
        rw [if_neg b1] at hzy
        rw [if_neg (by simp [c1])]
        by_cases a2 : lt x.1 y.1 = true
        · -- x < y <= z: x < z
          have c2 : lt x.1 z.1 = true := by
            cases hb : lt x.1 z.1 with
            | true => rfl
            | false => have := h.neg _ _ _ (by simpa using b1) hb; rw [a2] at this; exact this.symm
          rw [if_pos c2]
        · rw [if_neg a2] at hyx
          by_cases b2 : lt y.1 z.1 = true
          · have c2 : lt x.1 z.1 = true := by
              cases hb : lt x.1 z.1 with
              | true => rfl
              | false => have := h.neg _ _ _ hb (by simpa using a1); rw [b2] at this; exact this.symm
            rw [if_pos c2]
          · rw [if_neg b2] at hzy
            by_cases c2 : lt x.1 z.1 = true
            · rw [if_pos c2]
            · rw [if_neg c2]
              simp at hyx hzy ⊢; omega

section
variable {α : Type} [Inhabited α]

/-- The first of the least. -/
def IsLeast (lt : α → α → Bool) (L : List α) (k : Nat) : Prop :=
  k < L.length ∧ (∀ j, j < L.length → lt (L.getD j default) (L.getD k default) = false) ∧ (∀ j, j < k → lt (L.getD k default) (L.getD j default) = true)

theorem IsLeast.unique {lt : α → α → Bool} {L : List α} {k m : Nat} (hk : IsLeast lt L k) (hm : IsLeast lt L m) : k = m := by
  rcases Nat.lt_trichotomy k m with h | h | h
  · have := hm.2.2 k h
    rw [hk.2.1 m hm.1] at this; cases this
  · exact h
  · have := hk.2.2 m h
    rw [hm.2.1 k hk.1] at this; cases this

/-- The heap l holds just the things of L, numbered in the order of their coming in, the numbers at most 'turns'. -/
def Holds (lt : α → α → Bool) (l : List (α × Nat)) (turns : Nat) (L : List α) : Prop :=
  Heap (ahead lt) l ∧ ∃ ts : List Nat, ts.length = L.length ∧ ts.Pairwise (· < ·) ∧ (∀ t ∈ ts, t ≤ turns) ∧ l.Perm (L.zip ts)

theorem Holds.nil (lt : α → α → Bool) (n : Nat) : Holds lt [] n [] := ⟨fun j _ hj => by simp at hj, [], rfl, List.Pairwise.nil, by simp, by simp⟩

theorem Holds.length {lt : α → α → Bool} {l : List (α × Nat)} {n : Nat} {L : List α} (h : Holds lt l n L) : l.length = L.length := by
  obtain ⟨_, ts, h1, _, _, h2⟩ := h
  rw [h2.length_eq, List.length_zip, h1]; omega

theorem Holds.push {lt : α → α → Bool} (hlt : Ord lt) {l : List (α × Nat)} {n : Nat} {L : List α} (h : Holds lt l n L) (x : α) : Holds lt (riseL (ahead lt) (l ++ [(x, n + 1)]) l.length) (n + 1) (L ++ [x]) := by
  obtain ⟨hh, ts, h1, h2, h3, h4⟩ := h
  refine ⟨push_heap (ahead_ord hlt) hh _, ts ++ [n + 1], by simp [h1], ?_, ?_, ?_⟩
  · rw [List.pairwise_append]
    refine ⟨h2, List.pairwise_singleton _ _, fun a ha b hb => ?_⟩
    simp at hb; subst hb
    have := h3 a ha; omega
  · intro t ht
    rcases List.mem_append.1 ht with ht | ht
    · have := h3 t ht; omega
    · simp at ht; omega
  · rw [List.zip_append h1.symm]
    exact (push_perm l _).trans ((h4.cons _).trans (List.perm_append_singleton _ _).symm)

theorem zip_eraseIdx {γ δ : Type} : ∀ (L : List γ) (ts : List δ) (k : Nat), (L.zip ts).eraseIdx k = (L.eraseIdx k).zip (ts.eraseIdx k)
  | [], ts, k => by cases ts <;> simp
  | a :: L, [], k => by simp
  | a :: L, t :: ts, 0 => by simp
  | a :: L, t :: ts, k + 1 => by simp [zip_eraseIdx L ts k]

theorem perm_eraseIdx {γ : Type} : ∀ (l : List γ) (k : Nat) (h : k < l.length), l.Perm (l[k] :: l.eraseIdx k)
  | a :: l, 0, _ => by simp
  | a :: l, k + 1, h => by
    have := perm_eraseIdx l k (by simpa using h)
    simp only [List.getElem_cons_succ, List.eraseIdx_cons_succ]
    exact (this.cons a).trans (List.Perm.swap _ _ _)

/-- What stands at the root is the first of the least. -/
theorem Holds.root {lt : α → α → Bool} (hlt : Ord lt) {l : List (α × Nat)} {n : Nat} {L : List α} (h : Holds lt l n L) (hne : l ≠ []) :
    ∃ k, IsLeast lt L k ∧ (l.getD 0 default).1 = L.getD k default ∧ ∀ l', (l.getD 0 default :: l').Perm l → Heap (ahead lt) l' → Holds lt l' n (L.eraseIdx k) := by
  obtain ⟨hh, ts, h1, h2, h3, h4⟩ := h
  have hlen : 0 < l.length := List.length_pos_iff.2 hne
  have hroot : l.getD 0 default ∈ L.zip ts := by
    rw [← h4.mem_iff, List.getD_eq_getElem?_getD, List.getElem?_eq_getElem hlen]
    exact List.getElem_mem hlen
  obtain ⟨k, hk, hkr⟩ := List.getElem_of_mem hroot
  have hkL : k < L.length := by rw [List.length_zip] at hk; omega
  have hkt : k < ts.length := by omega
  rw [List.getElem_zip] at hkr
  have hmin : ∀ j (hj : j < L.length), ahead lt (L[j], ts[j]'(by omega)) (L[k], ts[k]) = false := by
    intro j hj
    have hm : (L[j], ts[j]'(by omega)) ∈ l := by
      rw [h4.mem_iff]
      exact List.mem_iff_getElem.2 ⟨j, by rw [List.length_zip]; omega, by rw [List.getElem_zip]⟩
    have := heap_root_mem (ahead_ord hlt) hh hm
    rwa [← hkr] at this
  have hgd : ∀ j (hj : j < L.length), L.getD j default = L[j] := fun j hj => by
    rw [List.getD_eq_getElem?_getD, List.getElem?_eq_getElem hj]; rfl
  refine ⟨k, ⟨hkL, fun j hj => ?_, fun j hj => ?_⟩, by rw [← hkr, hgd k hkL], fun l' hp hheap => ?_⟩
  · rw [hgd j hj, hgd k hkL]
    have := hmin j hj
    unfold ahead at this
    cases hb : lt L[j] L[k] with
    | false => rfl
    | true => rw [if_pos hb] at this; cases this
  · have hjL : j < L.length := by omega
    rw [hgd j hjL, hgd k hkL]
    have := hmin j hjL
    unfold ahead at this
    cases hc : lt L[k] L[j] with
    | true => rfl
    | false =>
      cases hb : lt L[j] L[k] with
      | true => rw [if_pos hb] at this; cases this
      | false =>
        have hlt2 : ts[j]'(by omega) < ts[k] := List.pairwise_iff_getElem.1 h2 j k (by omega) hkt hj
        simp only [hb, hc, Bool.false_eq_true, if_false, decide_eq_false_iff_not] at this
        exact absurd hlt2 this
  · refine ⟨hheap, ts.eraseIdx k, by rw [List.length_eraseIdx, List.length_eraseIdx, h1], h2.sublist (List.eraseIdx_sublist _ _), fun t ht => h3 t (List.mem_of_mem_eraseIdx ht), ?_⟩
    have h5 := perm_eraseIdx (L.zip ts) k hk
    rw [List.getElem_zip, hkr, zip_eraseIdx] at h5
    exact List.Perm.cons_inv (hp.trans (h4.trans h5))

theorem Holds.pop {lt : α → α → Bool} (hlt : Ord lt) {l : List (α × Nat)} {n : Nat} {L : List α} (h : Holds lt l n L) (hne : l ≠ []) :
    ∃ k, IsLeast lt L k ∧ (l.getD 0 default).1 = L.getD k default ∧ Holds lt (popL (ahead lt) l) n (L.eraseIdx k) := by
  obtain ⟨k, h1, h2, h3⟩ := h.root hlt hne
  exact ⟨k, h1, h2, h3 _ (pop_perm hne) (pop_heap (ahead_ord hlt) h.1 hne)⟩

theorem Holds.replace {lt : α → α → Bool} (hlt : Ord lt) {l : List (α × Nat)} {n : Nat} {L : List α} (h : Holds lt l n L) (hne : l ≠ []) (x : α) :
    ∃ k, IsLeast lt L k ∧ (l.getD 0 default).1 = L.getD k default ∧ Holds lt (sinkL (ahead lt) (l.set 0 (x, n + 1)) 0) (n + 1) (L.eraseIdx k ++ [x]) := by
  obtain ⟨k, h1, h2, h3⟩ := h.root hlt hne
  refine ⟨k, h1, h2, ?_⟩
  obtain ⟨_, ts, g1, g2, g3, g4⟩ := h3 _ (pop_perm hne) (pop_heap (ahead_ord hlt) h.1 hne)
  refine ⟨replace_heap (ahead_ord hlt) h.1 hne _, ts ++ [n + 1], by simp [g1], ?_, ?_, ?_⟩
  · rw [List.pairwise_append]
    refine ⟨g2, List.pairwise_singleton _ _, fun a ha b hb => ?_⟩
    simp at hb; subst hb
    have := g3 a ha; omega
  · intro t ht
    rcases List.mem_append.1 ht with ht | ht
    · have := g3 t ht; omega
    · simp at ht; omega
  · rw [List.zip_append g1.symm]
    have p1 := replace_perm (R := ahead lt) hne (x, n + 1)
    have p2 := pop_perm (R := ahead lt) hne
    have p3 : (l.getD 0 default :: sinkL (ahead lt) (l.set 0 (x, n + 1)) 0).Perm (l.getD 0 default :: ((x, n + 1) :: popL (ahead lt) l)) :=
      p1.trans ((p2.symm.cons _).trans (List.Perm.swap _ _ _))
    exact (List.Perm.cons_inv p3).trans ((g4.cons _).trans (List.perm_append_singleton _ _).symm)

end
end Go.Proofs.Ytbmfaffnbjmipaa.hp

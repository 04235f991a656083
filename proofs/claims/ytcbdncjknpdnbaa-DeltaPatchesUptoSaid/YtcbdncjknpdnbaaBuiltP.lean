/- How large the tree of words and its least automaton are; no program. -/
import Derived.Test.YtcbdncjknpdnbaaDawgU
import Derived.Test.YtcbdncjknpdnbaaAut
namespace Go.Proofs.Ytcbdncjknpdnbaa

/-- How many edges a tree has. -/
def szT : Trie → Nat
  | .fin _ => 0
  | .edge _ c r => 1 + szT c + szT r
theorem szT_newT : ∀ (w : List UInt8), szT (newT w) = w.length
  | [] => rfl
  | c :: w => by simp only [newT, szT, szT_newT w, List.length_cons]; omega
theorem szT_mark : ∀ (t : Trie), szT (markT t) = szT t
  | .fin _ => rfl
  | .edge b c r => by simp only [markT, szT, szT_mark r]
theorem szT_insW : ∀ (t : Trie) (w : List UInt8), szT (insW t w) ≤ szT t + w.length
  | .fin f, [] => by simp [insW, addW, markT, szT]
  | .fin f, c :: w => by simp only [insW, addW, snocT, szT, szT_newT, List.length_cons]; omega
  | .edge b c (.fin f), [] => by simp [insW, szT]
  | .edge b c (.fin f), x :: w => by
    simp only [insW]
    split
    · have := szT_insW c w
      simp only [szT, List.length_cons]; omega
    · simp only [szT, szT_newT, List.length_cons]; omega
  | .edge b c (.edge b' c' r'), w => by
    have := szT_insW (.edge b' c' r') w
    simp only [insW, szT] at this ⊢
    omega
/-- How many bytes in all. -/
abbrev sumL (L : List (List UInt8)) : Nat := (L.map List.length).sum
theorem szT_fold : ∀ (L : List (List UInt8)) (t : Trie), szT (L.foldl insW t) ≤ szT t + sumL L
  | [], t => by simp
  | w :: L, t => by
    have h1 := szT_fold L (insW t w)
    have h2 := szT_insW t w
    have e : sumL (w :: L) = w.length + sumL L := by simp [sumL]
    simp only [List.foldl_cons]
    omega
theorem szT_setT (L : List (List UInt8)) : szT (setT L) ≤ sumL L := by
  have := szT_fold L (.fin false)
  simpa [szT, setT] using this
theorem edgesN_app (A B : List Sta) : edgesN (A ++ B) = edgesN A + edgesN B := by simp [edgesN]
theorem layE_sz : ∀ (t : Trie) (T : List Trie), (layE t T).2.1.length ≤ szT t ∧ edgesN (layE t T).2.1 + (layE t T).2.2.length ≤ szT t
  | .fin _, T => by simp [layE, szT, edgesN]
  | .edge b c r, T => by
    by_cases hc : c ∈ T
    · rw [layE_old hc]
      obtain ⟨h1, h2⟩ := layE_sz r T
      simp only [szT, List.length_cons]
      omega
    · rw [layE_new hc]
      obtain ⟨h1, h2⟩ := layE_sz c (T ++ [c])
      obtain ⟨h3, h4⟩ := layE_sz r (layE c (T ++ [c])).1
      simp only [szT, List.length_cons, List.cons_append, List.length_append]
      have e : edgesN (⟨c.final, (layE c (T ++ [c])).2.2⟩ :: ((layE c (T ++ [c])).2.1 ++ (layE r (layE c (T ++ [c])).1).2.1)) = (layE c (T ++ [c])).2.2.length + (edgesN (layE c (T ++ [c])).2.1 + edgesN (layE r (layE c (T ++ [c])).1).2.1) := by
        rw [← edgesN_app]; simp [edgesN]
      rw [e]
      omega
theorem minT_sz (t : Trie) : (minT t).length ≤ szT t + 1 ∧ edgesN (minT t) ≤ szT t := by
  obtain ⟨h1, h2⟩ := layE_sz t [t]
  unfold minT
  have e : edgesN (⟨t.final, (layE t [t]).2.2⟩ :: (layE t [t]).2.1) = (layE t [t]).2.2.length + edgesN (layE t [t]).2.1 := by simp [edgesN]
  rw [e]
  simp only [List.length_cons]
  omega
theorem sumL_app (a b : List (List UInt8)) : sumL (a ++ b) = sumL a + sumL b := by simp [sumL]
theorem mergeL_sum : ∀ (a b : List (List UInt8)), sumL (mergeL a b) ≤ sumL a + sumL b
  | [], b => by rw [mergeL_nil]; simp
  | x :: a, [] => by rw [mergeL_end]; simp
  | x :: a, y :: b => by
    by_cases h : Op.bytesLess x y = true
    · rw [mergeL_lt h]
      have := mergeL_sum a (y :: b)
      simp only [sumL, List.map_cons, List.sum_cons] at this ⊢
      omega
    · have h0 : Op.bytesLess x y = false := by simpa using h
      by_cases e : x = y
      · rw [mergeL_eq e]
        have := mergeL_sum a b
        simp only [sumL, List.map_cons, List.sum_cons] at this ⊢
        omega
      · rw [mergeL_gt h0 e]
        have := mergeL_sum (x :: a) b
        simp only [sumL, List.map_cons, List.sum_cons] at this ⊢
        omega
termination_by a b => a.length + b.length
theorem ofL_sum (L : List (List UInt8)) : sumL (ofL L) ≤ sumL L := by
  induction hn : L.length using Nat.strongRecOn generalizing L with
  | ind n ih =>
    match L, hn with
    | [], _ => rw [ofL_nil]; exact Nat.le_refl _
    | [x], hn => rw [ofL_one]; exact Nat.le_refl _
    | x :: y :: l, hn =>
      rw [ofL_two (by simp)]
      have h1 := mergeL_sum (ofL ((x :: y :: l).take ((x :: y :: l).length / 2))) (ofL ((x :: y :: l).drop ((x :: y :: l).length / 2)))
      have h2 := ih ((x :: y :: l).take ((x :: y :: l).length / 2)).length (by simp only [List.length_take, List.length_cons] at hn ⊢; omega) _ rfl
      have h3 := ih ((x :: y :: l).drop ((x :: y :: l).length / 2)).length (by simp only [List.length_drop, List.length_cons] at hn ⊢; omega) _ rfl
      have h4 := sumL_app ((x :: y :: l).take ((x :: y :: l).length / 2)) ((x :: y :: l).drop ((x :: y :: l).length / 2))
      rw [List.take_append_drop] at h4
      omega
/-- The words that fit. -/
def fitF (F : List (List UInt8)) (w : List UInt8) : List (List UInt8) := if w.length ≤ 255 ∧ F.length < 4096 then F ++ [w] else F
structure FitI (F L : List (List UInt8)) : Prop where
  all : ∀ r ∈ F, r.length ≤ 255
  len : F.length ≤ 4096
  sum : F.length + sumL F ≤ L.length + sumL L
theorem FitI.start : FitI [] [] := ⟨by simp, by simp, by simp⟩
theorem FitI.step {F L : List (List UInt8)} (h : FitI F L) (w : List UInt8) : FitI (fitF F w) (L ++ [w]) := by
  have hs := h.sum
  unfold fitF
  split
  · rename_i hw
    refine ⟨fun r hr => ?_, by simp; omega, ?_⟩
    · rcases List.mem_append.1 hr with hr | hr
      · exact h.all r hr
      · rw [List.mem_singleton] at hr; subst hr; exact hw.1
    · rw [sumL_app, sumL_app]; simp only [List.length_append, List.length_singleton]; omega
  · refine ⟨h.all, h.len, ?_⟩
    rw [sumL_app]; simp only [List.length_append, List.length_singleton]; omega
/-- What the builder makes of the words that fit. -/
theorem built_facts {F L : List (List UInt8)} (h : FitI F L) (hl : L.length + sumL L ≤ 1048576) : buildP (ofL F) = some (minT (setT (ofL F))) ∧ wT (setT (ofL F)) [] = ofL F ∧ Good (setT (ofL F)) ∧ ((minT (setT (ofL F))).length ≤ 1048576 ∧ edgesN (minT (setT (ofL F))) ≤ 1048576) ∧ (ofL F).length ≤ 4096 ∧ ∀ r ∈ ofL F, r.length ≤ 255 := by
  have hr := ofL_rises F
  have hlen := ofL_len F
  have hF := h.len
  have hall : ∀ r ∈ ofL F, r.length ≤ 255 := fun r hr => h.all r ((ofL_mem F r).1 hr)
  obtain ⟨h1, h2⟩ := setT_words hr
  obtain ⟨h3, h4⟩ := minT_sz (setT (ofL F))
  have h5 := szT_setT (ofL F)
  have h6 := ofL_sum F
  have h7 := h.sum
  refine ⟨build_tree hall (by omega) hr, h1, h2, ⟨?_, by omega⟩, by omega, hall⟩
  by_cases h0 : F = []
  · subst h0
    rw [ofL_nil] at h3 h5 ⊢
    have e : sumL [] = 0 := rfl
    omega
  · have : 0 < F.length := List.length_pos_iff.2 h0
    omega
theorem cnt_words {t : Trie} (h : Good t) : cntT t = (wT t []).length := by
  rw [wT_seg h [], seg_len]
  rfl
end Go.Proofs.Ytcbdncjknpdnbaa

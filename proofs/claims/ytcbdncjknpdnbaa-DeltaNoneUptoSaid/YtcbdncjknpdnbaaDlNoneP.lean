/- delta: the words tell the tree; what a tree accepts; how many changes go which way; no program. -/
import Derived.Test.YtcbdncjknpdnbaaDlP
import Derived.Test.YtcbdncjknpdnbaaDlRef
namespace Go.Proofs.Ytcbdncjknpdnbaa

theorem acc_mem {t : Trie} (hk : Good t) (w : List UInt8) : (accT t w).1 = decide (w ∈ wT t []) := by
  rw [accT_rank]
  cases h : (rankT t w).2 with
  | true =>
    obtain ⟨h1, h2⟩ := (rank_nthT hk w).1 h
    have := words_get hk h1
    rw [h2] at this
    exact (decide_eq_true (List.mem_of_getElem? this)).symm
  | false =>
    symm
    rw [decide_eq_false_iff_not]
    intro hm
    obtain ⟨n, hn⟩ := List.mem_iff_getElem?.1 hm
    have hl : n < cntT t := by rw [cnt_words hk]; exact (List.getElem?_eq_some_iff.1 hn).1
    rw [words_get hk hl] at hn
    cases hn
    rw [nthT_rank hk hl] at h
    cases h
theorem lE_above : ∀ (t : Trie) {p : Int}, okE False t p → ∀ u ∈ lE t [], ∃ x w, u = x :: w ∧ p < x.toNat
  | .fin _, _, _, u, hu => by simp [lE] at hu
  | .edge b c r, p, hk, u, hu => by
    rw [lE_edge] at hu
    rcases List.mem_append.1 hu with h | h
    · obtain ⟨v, _, rfl⟩ := List.mem_map.1 h
      exact ⟨b, v, rfl, hk.1⟩
    · obtain ⟨x, w, h1, h2⟩ := lE_above r hk.2.2.2 u h
      have := hk.1
      exact ⟨x, w, h1, by omega⟩
theorem wT_final {t t' : Trie} {p p' : Int} (hk : okE False t p) (hk' : okE False t' p') (h : wT t [] = wT t' []) : t.final = t'.final ∧ lE t [] = lE t' [] := by
  have nil_of : ∀ {t : Trie} {p : Int}, okE False t p → ([] ∈ wT t [] ↔ t.final = true) := fun {t p} hk => by
    unfold wT headL
    constructor
    · intro hm
      rcases List.mem_append.1 hm with h | h
      · split at h
        · rename_i hc; exact hc.1
        · cases h
      · obtain ⟨x, w, h1, _⟩ := lE_above t hk [] h
        cases h1
    · intro hf
      rw [if_pos ⟨hf, rfl⟩]; simp
  have hf : t.final = t'.final := by
    have h1 := nil_of hk
    have h2 := nil_of hk'
    rw [h] at h1
    cases hx : t.final <;> cases hy : t'.final <;> simp_all
  refine ⟨hf, ?_⟩
  unfold wT headL at h
  rw [hf] at h
  exact List.append_cancel_left h
theorem lE_inj : ∀ (t t' : Trie) {p p' : Int}, okE False t p → okE False t' p' → t.final = t'.final → lE t [] = lE t' [] → t = t'
  | .fin f, .fin f', _, _, _, _, hf, _ => by simp only [Trie.final] at hf; rw [hf]
  | .fin f, .edge b c r, _, _, _, hk', _, h => by
    rw [lE_edge] at h
    obtain ⟨u, hu⟩ := has_word hk'.2.2.1 (hk'.2.1.resolve_right id)
    have : b :: u ∈ lE (.fin f) [] := by rw [h]; exact List.mem_append.2 (.inl (List.mem_map.2 ⟨u, hu, rfl⟩))
    simp [lE] at this
  | .edge b c r, .fin f, _, _, hk, _, _, h => by
    rw [lE_edge] at h
    obtain ⟨u, hu⟩ := has_word hk.2.2.1 (hk.2.1.resolve_right id)
    have : b :: u ∈ lE (.fin f) [] := by rw [← h]; exact List.mem_append.2 (.inl (List.mem_map.2 ⟨u, hu, rfl⟩))
    simp [lE] at this
  | .edge b c r, .edge b' c' r', p, p', hk, hk', hf, h => by
    rw [lE_edge, lE_edge] at h
    obtain ⟨u, hu⟩ := has_word hk.2.2.1 (hk.2.1.resolve_right id)
    obtain ⟨u', hu'⟩ := has_word hk'.2.2.1 (hk'.2.1.resolve_right id)
    obtain ⟨v, vs, hv⟩ := List.exists_cons_of_ne_nil (List.ne_nil_of_mem hu)
    obtain ⟨v', vs', hv'⟩ := List.exists_cons_of_ne_nil (List.ne_nil_of_mem hu')
    have hb : b = b' := by
      rw [hv, hv'] at h
      simp only [List.map_cons, List.cons_append, List.cons.injEq] at h
      exact h.1.1
    subst hb
    have side : ∀ {c r : Trie} {p : Int}, okE False (.edge b c r) p → ((wT c []).map (b :: ·) ++ lE r []).filter (fun u => u.head? == some b) = (wT c []).map (b :: ·) ∧ ((wT c []).map (b :: ·) ++ lE r []).filter (fun u => u.head? != some b) = lE r [] := fun {c r p} hk => by
      have h1 : ∀ u ∈ (wT c []).map (b :: ·), u.head? = some b := fun u hu => by
        obtain ⟨v, _, rfl⟩ := List.mem_map.1 hu; rfl
      have h2 : ∀ u ∈ lE r [], u.head? ≠ some b := fun u hu => by
        obtain ⟨x, w, rfl, hx⟩ := lE_above r hk.2.2.2 u hu
        intro e
        simp only [List.head?_cons, Option.some.injEq] at e
        subst e; omega
      constructor
      · rw [List.filter_append, List.filter_eq_self.2 (fun u hu => by simp [h1 u hu]), List.filter_eq_nil_iff.2 (fun u hu => by simpa using h2 u hu), List.append_nil]
      · rw [List.filter_append, List.filter_eq_nil_iff.2 (fun u hu => by simp [h1 u hu]), List.filter_eq_self.2 (fun u hu => by simpa using h2 u hu), List.nil_append]
    have s1 := side hk
    have s2 := side hk'
    rw [h] at s1
    have e1 : (wT c []).map (b :: ·) = (wT c' []).map (b :: ·) := s1.1.symm.trans s2.1
    have e2 : lE r [] = lE r' [] := s1.2.symm.trans s2.2
    have e3 : wT c [] = wT c' [] := (by have := congrArg (List.map List.tail) e1; simpa [Function.comp_def] using this)
    obtain ⟨e4, e5⟩ := wT_final hk.2.2.1 hk'.2.2.1 e3
    rw [lE_inj c c' hk.2.2.1 hk'.2.2.1 e4 e5, lE_inj r r' hk.2.2.2 hk'.2.2.2 hf e2]
theorem wT_inj {t t' : Trie} (hk : Good t) (hk' : Good t') (h : wT t [] = wT t' []) : t = t' := by
  obtain ⟨h1, h2⟩ := wT_final hk hk' h
  exact lE_inj t t' hk hk' h1 h2
/-- Nothing differs. -/
theorem diff_nil {xs ys : List (List UInt8)} (hx : RisesL xs) (hy : RisesL ys) : diffL xs ys = [] ↔ xs = ys := by
  have hs := diff_spec hx hy
  constructor
  · intro h
    refine RisesL.ext hx hy fun w => ?_
    have h1 := hs.mem w true
    have h2 := hs.mem w false
    rw [h] at h1 h2
    simp at h1 h2
    exact ⟨h1, fun hm => Classical.byContradiction fun hn => h2 hn hm⟩
  · rintro rfl
    refine List.eq_nil_iff_forall_not_mem.2 fun p hp => ?_
    rcases (hs.mem p.1 p.2).1 hp with ⟨_, h1, h2⟩ | ⟨_, h1, h2⟩
    · exact h2 h1
    · exact h1 h2
/-- How many more words there are behind the changes. -/
def dlt (D : List Chg) : Int := (D.map fun c => if c.2 then -1 else 1).sum
theorem dlt_app (D E : List Chg) : dlt (D ++ E) = dlt D + dlt E := by simp [dlt]
theorem dlt_puts (ys : List (List UInt8)) : dlt (puts ys) = ys.length := by
  induction ys with
  | nil => rfl
  | cons y ys ih =>
    have : puts (y :: ys) = [(y, false)] ++ puts ys := rfl
    rw [this, dlt_app, ih]
    simp [dlt]
    omega
theorem dlt_diff : ∀ (xs ys : List (List UInt8)), (xs.length : Int) + dlt (diffL xs ys) = ys.length
  | [], ys => by rw [diffL, dlt_puts]; simp
  | x :: xs, ys => by
    have happ := congrArg List.length (low_upp x ys)
    rw [List.length_append] at happ
    rw [diffL, dlt_app, dlt_puts]
    cases hu : uppL x ys with
    | nil =>
      rw [hu] at happ
      have e : dlt ((x, true) :: diffL xs []) = -1 + dlt (diffL xs []) := by simp [dlt]
      have := dlt_diff xs []
      simp only [List.length_cons, List.length_nil] at happ this ⊢
      rw [e]; omega
    | cons y zs =>
      rw [hu] at happ
      dsimp only
      split
      · have := dlt_diff xs zs
        simp only [List.length_cons] at happ ⊢
        omega
      · have e : dlt ((x, true) :: diffL xs (y :: zs)) = -1 + dlt (diffL xs (y :: zs)) := by simp [dlt]
        have := dlt_diff xs (y :: zs)
        simp only [List.length_cons] at happ this ⊢
        rw [e]; omega
theorem dlt_take {D : List Chg} {i : Nat} {c : Chg} (h : D[i]? = some c) : dlt (D.take (i + 1)) = dlt (D.take i) + if c.2 then -1 else 1 := by
  rw [List.take_add_one, h]
  rw [dlt_app]; simp [dlt]
theorem dlt_bound (D : List Chg) : -(D.length : Int) ≤ dlt D ∧ dlt D ≤ D.length := by
  induction D with
  | nil => simp [dlt]
  | cons c D ih =>
    have : dlt (c :: D) = (if c.2 then -1 else 1) + dlt D := by simp [dlt]
    rw [this]
    simp only [List.length_cons]
    split <;> omega
/-- A change is in one list alone. -/
theorem diff_in {xs ys : List (List UInt8)} (hx : RisesL xs) (hy : RisesL ys) {i : Nat} {c : Chg} (h : (diffL xs ys)[i]? = some c) : decide (c.1 ∈ xs) = c.2 ∧ decide (c.1 ∈ ys) = !c.2 := by
  have hm := List.mem_of_getElem? h
  rcases ((diff_spec hx hy).mem c.1 c.2).1 hm with ⟨h1, h2, h3⟩ | ⟨h1, h2, h3⟩
  · rw [h1]; exact ⟨decide_eq_true h2, decide_eq_false h3⟩
  · rw [h1]; exact ⟨decide_eq_false h2, decide_eq_true h3⟩
theorem diff_rise {xs ys : List (List UInt8)} (hx : RisesL xs) (hy : RisesL ys) {i j : Nat} (hij : i < j) {c d : Chg} (h : (diffL xs ys)[i]? = some c) (k : (diffL xs ys)[j]? = some d) : LtW c.1 d.1 :=
  rises_get (diff_spec hx hy).rises hij (by rw [List.getElem?_map, h]; rfl) (by rw [List.getElem?_map, k]; rfl)
theorem diff_len : ∀ (xs ys : List (List UInt8)), (diffL xs ys).length ≤ xs.length + ys.length
  | [], ys => by rw [diffL]; simp [puts]
  | x :: xs, ys => by
    have happ := congrArg List.length (low_upp x ys)
    rw [List.length_append] at happ
    have hp : (puts (lowL x ys)).length = (lowL x ys).length := by simp [puts]
    rw [diffL, List.length_append, hp]
    cases hu : uppL x ys with
    | nil =>
      rw [hu] at happ
      have := diff_len xs []
      simp only [List.length_cons, List.length_nil] at happ this ⊢
      omega
    | cons y zs =>
      rw [hu] at happ
      dsimp only
      split
      · have := diff_len xs zs
        simp only [List.length_cons] at happ ⊢
        omega
      · have := diff_len xs (y :: zs)
        simp only [List.length_cons] at happ this ⊢
        omega
theorem word_len {t : Trie} (hk : Good t) {w : List UInt8} (h : w ∈ wT t []) : w.length ≤ htT t := by
  obtain ⟨n, hn⟩ := List.mem_iff_getElem?.1 h
  have hl : n < cntT t := by rw [cnt_words hk]; exact (List.getElem?_eq_some_iff.1 hn).1
  rw [words_get hk hl] at hn
  cases hn
  exact nthT_len hl
theorem diff_word {xs ys : List (List UInt8)} (hx : RisesL xs) (hy : RisesL ys) {i : Nat} {c : Chg} (h : (diffL xs ys)[i]? = some c) : c.1 ∈ xs ∨ c.1 ∈ ys := by
  rcases ((diff_spec hx hy).mem c.1 c.2).1 (List.mem_of_getElem? h) with ⟨_, h1, _⟩ | ⟨_, _, h1⟩
  · exact .inl h1
  · exact .inr h1
end Go.Proofs.Ytcbdncjknpdnbaa

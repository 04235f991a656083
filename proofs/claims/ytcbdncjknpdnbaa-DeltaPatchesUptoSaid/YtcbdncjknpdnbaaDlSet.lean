/- delta: the words tell the tree; what a tree accepts; how many changes go which way; no program. · delta: a set of words, changed; no program. · A set of words in memory: a map of the call's own from strings to 1. -/
import Derived.Test.YtcbdncjknpdnbaaDlP
import Derived.Test.YtcbdncjknpdnbaaDlRef
import Derived.Test.YtcbdncjknpdnbaaDlTurn
import Derived.Test.YtcbdncjknpdnbaaStrP
import Derived.Test.YtcbdncjknpdnbaaRng
import Derived.Maps.OwnIn
import Derived.Maps.RangeWalk
import Derived.StringKeys
namespace Go.Proofs.Ytcbdncjknpdnbaa
section
theorem acc_mem {t : Trie} (hk : Good t) (w : List UInt8) : (accT t w).1 = decide (w ∈ wT t []) := by
  rw [accT_rank]
  cases h : (rankT t w).2 with
  | true =>
    obtain ⟨h1, h2⟩ := (rank_nthT hk w).1 h
    have := words_get hk h1
    rw [h2] at this
    exact (decide_eq_true (List.mem_of_getElem? this)).symm
  | false =>
    symm
    rw [decide_eq_false_iff_not]
    intro hm
    obtain ⟨n, hn⟩ := List.mem_iff_getElem?.1 hm
    have hl : n < cntT t := by rw [cnt_words hk]; exact (List.getElem?_eq_some_iff.1 hn).1
    rw [words_get hk hl] at hn
    cases hn
    rw [nthT_rank hk hl] at h
    cases h
theorem lE_above : ∀ (t : Trie) {p : Int}, okE False t p → ∀ u ∈ lE t [], ∃ x w, u = x :: w ∧ p < x.toNat
  | .fin _, _, _, u, hu => by simp [lE] at hu
  | .edge b c r, p, hk, u, hu => by
    rw [lE_edge] at hu
    rcases List.mem_append.1 hu with h | h
    · obtain ⟨v, _, rfl⟩ := List.mem_map.1 h
      exact ⟨b, v, rfl, hk.1⟩
    · obtain ⟨x, w, h1, h2⟩ := lE_above r hk.2.2.2 u h
      have := hk.1
      exact ⟨x, w, h1, by omega⟩
theorem wT_final {t t' : Trie} {p p' : Int} (hk : okE False t p) (hk' : okE False t' p') (h : wT t [] = wT t' []) : t.final = t'.final ∧ lE t [] = lE t' [] := by
  have nil_of : ∀ {t : Trie} {p : Int}, okE False t p → ([] ∈ wT t [] ↔ t.final = true) := fun {t p} hk => by
    unfold wT headL
    constructor
    · intro hm
      rcases List.mem_append.1 hm with h | h
      · split at h
        · rename_i hc; exact hc.1
        · cases h
      · obtain ⟨x, w, h1, _⟩ := lE_above t hk [] h
        cases h1
    · intro hf
      rw [if_pos ⟨hf, rfl⟩]; simp
  have hf : t.final = t'.final := by
    have h1 := nil_of hk
    have h2 := nil_of hk'
    rw [h] at h1
    cases hx : t.final <;> cases hy : t'.final <;> simp_all
  refine ⟨hf, ?_⟩
  unfold wT headL at h
  rw [hf] at h
  exact List.append_cancel_left h
theorem lE_inj : ∀ (t t' : Trie) {p p' : Int}, okE False t p → okE False t' p' → t.final = t'.final → lE t [] = lE t' [] → t = t'
  | .fin f, .fin f', _, _, _, _, hf, _ => by simp only [Trie.final] at hf; rw [hf]
  | .fin f, .edge b c r, _, _, _, hk', _, h => by
    rw [lE_edge] at h
    obtain ⟨u, hu⟩ := has_word hk'.2.2.1 (hk'.2.1.resolve_right id)
    have : b :: u ∈ lE (.fin f) [] := by rw [h]; exact List.mem_append.2 (.inl (List.mem_map.2 ⟨u, hu, rfl⟩))
    simp [lE] at this
  | .edge b c r, .fin f, _, _, hk, _, _, h => by
    rw [lE_edge] at h
    obtain ⟨u, hu⟩ := has_word hk.2.2.1 (hk.2.1.resolve_right id)
    have : b :: u ∈ lE (.fin f) [] := by rw [← h]; exact List.mem_append.2 (.inl (List.mem_map.2 ⟨u, hu, rfl⟩))
    simp [lE] at this
  | .edge b c r, .edge b' c' r', p, p', hk, hk', hf, h => by
    rw [lE_edge, lE_edge] at h
    obtain ⟨u, hu⟩ := has_word hk.2.2.1 (hk.2.1.resolve_right id)
    obtain ⟨u', hu'⟩ := has_word hk'.2.2.1 (hk'.2.1.resolve_right id)
    obtain ⟨v, vs, hv⟩ := List.exists_cons_of_ne_nil (List.ne_nil_of_mem hu)
    obtain ⟨v', vs', hv'⟩ := List.exists_cons_of_ne_nil (List.ne_nil_of_mem hu')
    have hb : b = b' := by
      rw [hv, hv'] at h
      simp only [List.map_cons, List.cons_append, List.cons.injEq] at h
      exact h.1.1
    subst hb
    have side : ∀ {c r : Trie} {p : Int}, okE False (.edge b c r) p → ((wT c []).map (b :: ·) ++ lE r []).filter (fun u => u.head? == some b) = (wT c []).map (b :: ·) ∧ ((wT c []).map (b :: ·) ++ lE r []).filter (fun u => u.head? != some b) = lE r [] := fun {c r p} hk => by
      have h1 : ∀ u ∈ (wT c []).map (b :: ·), u.head? = some b := fun u hu => by
        obtain ⟨v, _, rfl⟩ := List.mem_map.1 hu; rfl
      have h2 : ∀ u ∈ lE r [], u.head? ≠ some b := fun u hu => by
        obtain ⟨x, w, rfl, hx⟩ := lE_above r hk.2.2.2 u hu
        intro e
        simp only [List.head?_cons, Option.some.injEq] at e
        subst e; omega
      constructor
      · rw [List.filter_append, List.filter_eq_self.2 (fun u hu => by simp [h1 u hu]), List.filter_eq_nil_iff.2 (fun u hu => by simpa using h2 u hu), List.append_nil]
      · rw [List.filter_append, List.filter_eq_nil_iff.2 (fun u hu => by simp [h1 u hu]), List.filter_eq_self.2 (fun u hu => by simpa using h2 u hu), List.nil_append]
    have s1 := side hk
    have s2 := side hk'
    rw [h] at s1
    have e1 : (wT c []).map (b :: ·) = (wT c' []).map (b :: ·) := s1.1.symm.trans s2.1
    have e2 : lE r [] = lE r' [] := s1.2.symm.trans s2.2
    have e3 : wT c [] = wT c' [] := (by have := congrArg (List.map List.tail) e1; simpa [Function.comp_def] using this)
    obtain ⟨e4, e5⟩ := wT_final hk.2.2.1 hk'.2.2.1 e3
    rw [lE_inj c c' hk.2.2.1 hk'.2.2.1 e4 e5, lE_inj r r' hk.2.2.2 hk'.2.2.2 hf e2]
theorem wT_inj {t t' : Trie} (hk : Good t) (hk' : Good t') (h : wT t [] = wT t' []) : t = t' := by
  obtain ⟨h1, h2⟩ := wT_final hk hk' h
  exact lE_inj t t' hk hk' h1 h2
/-- Nothing differs. -/
theorem diff_nil {xs ys : List (List UInt8)} (hx : RisesL xs) (hy : RisesL ys) : diffL xs ys = [] ↔ xs = ys := by
  have hs := diff_spec hx hy
  constructor
  · intro h
    refine RisesL.ext hx hy fun w => ?_
    have h1 := hs.mem w true
    have h2 := hs.mem w false
    rw [h] at h1 h2
    simp at h1 h2
    exact ⟨h1, fun hm => Classical.byContradiction fun hn => h2 hn hm⟩
  · rintro rfl
    refine List.eq_nil_iff_forall_not_mem.2 fun p hp => ?_
    rcases (hs.mem p.1 p.2).1 hp with ⟨_, h1, h2⟩ | ⟨_, h1, h2⟩
    · exact h2 h1
    · exact h1 h2
/-- How many more words there are behind the changes. -/
def dlt (D : List Chg) : Int := (D.map fun c => if c.2 then -1 else 1).sum
theorem dlt_app (D E : List Chg) : dlt (D ++ E) = dlt D + dlt E := by simp [dlt]
theorem dlt_puts (ys : List (List UInt8)) : dlt (puts ys) = ys.length := by
  induction ys with
  | nil => rfl
  | cons y ys ih =>
    have : puts (y :: ys) = [(y, false)] ++ puts ys := rfl
    rw [this, dlt_app, ih]
    simp [dlt]
    omega
theorem dlt_diff : ∀ (xs ys : List (List UInt8)), (xs.length : Int) + dlt (diffL xs ys) = ys.length
  | [], ys => by rw [diffL, dlt_puts]; simp
  | x :: xs, ys => by
    have happ := congrArg List.length (low_upp x ys)
    rw [List.length_append] at happ
    rw [diffL, dlt_app, dlt_puts]
    cases hu : uppL x ys with
    | nil =>
      rw [hu] at happ
      have e : dlt ((x, true) :: diffL xs []) = -1 + dlt (diffL xs []) := by simp [dlt]
      have := dlt_diff xs []
      simp only [List.length_cons, List.length_nil] at happ this ⊢
      rw [e]; omega
    | cons y zs =>
      rw [hu] at happ
      dsimp only
      split
      · have := dlt_diff xs zs
        simp only [List.length_cons] at happ ⊢
        omega
      · have e : dlt ((x, true) :: diffL xs (y :: zs)) = -1 + dlt (diffL xs (y :: zs)) := by simp [dlt]
        have := dlt_diff xs (y :: zs)
        simp only [List.length_cons] at happ this ⊢
        rw [e]; omega
theorem dlt_take {D : List Chg} {i : Nat} {c : Chg} (h : D[i]? = some c) : dlt (D.take (i + 1)) = dlt (D.take i) + if c.2 then -1 else 1 := by
  rw [List.take_add_one, h]
  rw [dlt_app]; simp [dlt]
theorem dlt_bound (D : List Chg) : -(D.length : Int) ≤ dlt D ∧ dlt D ≤ D.length := by
  induction D with
  | nil => simp [dlt]
  | cons c D ih =>
    have : dlt (c :: D) = (if c.2 then -1 else 1) + dlt D := by simp [dlt]
    rw [this]
    simp only [List.length_cons]
    split <;> omega
/-- A change is in one list alone. -/
theorem diff_in {xs ys : List (List UInt8)} (hx : RisesL xs) (hy : RisesL ys) {i : Nat} {c : Chg} (h : (diffL xs ys)[i]? = some c) : decide (c.1 ∈ xs) = c.2 ∧ decide (c.1 ∈ ys) = !c.2 := by
  have hm := List.mem_of_getElem? h
  rcases ((diff_spec hx hy).mem c.1 c.2).1 hm with ⟨h1, h2, h3⟩ | ⟨h1, h2, h3⟩
  · rw [h1]; exact ⟨decide_eq_true h2, decide_eq_false h3⟩
  · rw [h1]; exact ⟨decide_eq_false h2, decide_eq_true h3⟩
theorem diff_rise {xs ys : List (List UInt8)} (hx : RisesL xs) (hy : RisesL ys) {i j : Nat} (hij : i < j) {c d : Chg} (h : (diffL xs ys)[i]? = some c) (k : (diffL xs ys)[j]? = some d) : LtW c.1 d.1 :=
  rises_get (diff_spec hx hy).rises hij (by rw [List.getElem?_map, h]; rfl) (by rw [List.getElem?_map, k]; rfl)
theorem diff_len : ∀ (xs ys : List (List UInt8)), (diffL xs ys).length ≤ xs.length + ys.length
  | [], ys => by rw [diffL]; simp [puts]
  | x :: xs, ys => by
    have happ := congrArg List.length (low_upp x ys)
    rw [List.length_append] at happ
    have hp : (puts (lowL x ys)).length = (lowL x ys).length := by simp [puts]
    rw [diffL, List.length_append, hp]
    cases hu : uppL x ys with
    | nil =>
      rw [hu] at happ
      have := diff_len xs []
      simp only [List.length_cons, List.length_nil] at happ this ⊢
      omega
    | cons y zs =>
      rw [hu] at happ
      dsimp only
      split
      · have := diff_len xs zs
        simp only [List.length_cons] at happ ⊢
        omega
      · have := diff_len xs (y :: zs)
        simp only [List.length_cons] at happ this ⊢
        omega
theorem word_len {t : Trie} (hk : Good t) {w : List UInt8} (h : w ∈ wT t []) : w.length ≤ htT t := by
  obtain ⟨n, hn⟩ := List.mem_iff_getElem?.1 h
  have hl : n < cntT t := by rw [cnt_words hk]; exact (List.getElem?_eq_some_iff.1 hn).1
  rw [words_get hk hl] at hn
  cases hn
  exact nthT_len hl
theorem diff_word {xs ys : List (List UInt8)} (hx : RisesL xs) (hy : RisesL ys) {i : Nat} {c : Chg} (h : (diffL xs ys)[i]? = some c) : c.1 ∈ xs ∨ c.1 ∈ ys := by
  rcases ((diff_spec hx hy).mem c.1 c.2).1 (List.mem_of_getElem? h) with ⟨_, h1, _⟩ | ⟨_, _, h1⟩
  · exact .inl h1
  · exact .inr h1
end

section
/-- One change. -/
def stepS (S : List (List UInt8)) (c : Chg) : Option (List (List UInt8)) := if decide (c.1 ∈ S) != c.2 then none else some (if c.2 then minusL S [c.1] else mergeL S [c.1])
/-- Changes, one after the other. -/
def patchS : List (List UInt8) → List Chg → Option (List (List UInt8))
  | S, [] => some S
  | S, c :: D => match stepS S c with
    | none => none
    | some T => patchS T D
theorem patch_snoc : ∀ (D : List Chg) (S : List (List UInt8)) (c : Chg), patchS S (D ++ [c]) = match patchS S D with | none => none | some T => stepS T c
  | [], S, c => by simp only [List.nil_append, patchS]; cases stepS S c <;> rfl
  | d :: D, S, c => by
    simp only [List.cons_append, patchS]
    cases stepS S d with
    | none => rfl
    | some T => exact patch_snoc D T c
theorem patch_app : ∀ (D E : List Chg) (S : List (List UInt8)), patchS S (D ++ E) = match patchS S D with | none => none | some T => patchS T E
  | [], E, S => rfl
  | d :: D, E, S => by
    simp only [List.cons_append, patchS]
    cases stepS S d with
    | none => rfl
    | some T => exact patch_app D E T
/-- What fails stays so. -/
theorem patch_none {D : List Chg} {S : List (List UInt8)} {k : Nat} (h : patchS S (D.take k) = none) : patchS S D = none := by
  rw [← List.take_append_drop k D, patch_app, h]
theorem rises_one (w : List UInt8) : RisesL [w] := List.pairwise_singleton _ _
theorem minus_mem {S : List (List UInt8)} {v w : List UInt8} : w ∈ minusL S [v] ↔ w ∈ S ∧ w ≠ v := by
  unfold minusL
  rw [List.mem_filter]
  simp
theorem step_some {S T : List (List UInt8)} {c : Chg} (h : stepS S c = some T) : decide (c.1 ∈ S) = c.2 ∧ T = if c.2 then minusL S [c.1] else mergeL S [c.1] := by
  unfold stepS at h
  split at h
  · cases h
  · rename_i hc
    exact ⟨by simpa using hc, by cases h; rfl⟩
theorem step_ok {S : List (List UInt8)} {c : Chg} (h : decide (c.1 ∈ S) = c.2) : stepS S c = some (if c.2 then minusL S [c.1] else mergeL S [c.1]) := by
  unfold stepS
  rw [h]
  simp
theorem step_no {S : List (List UInt8)} {c : Chg} (h : decide (c.1 ∈ S) ≠ c.2) : stepS S c = none := by
  unfold stepS
  rw [if_pos (by simpa using h)]
theorem step_rises {S T : List (List UInt8)} {c : Chg} (hr : RisesL S) (h : stepS S c = some T) : RisesL T := by
  obtain ⟨_, rfl⟩ := step_some h
  split
  · exact minusL_rises hr _
  · exact mergeL_rises hr (rises_one _)
theorem step_len {S T : List (List UInt8)} {c : Chg} (h : stepS S c = some T) : T.length ≤ S.length + 1 := by
  obtain ⟨_, rfl⟩ := step_some h
  split
  · have : (minusL S [c.1]).length ≤ S.length := by unfold minusL; exact List.length_filter_le _ _
    omega
  · have := mergeL_len S [c.1]; simpa using this
theorem step_in {S T : List (List UInt8)} {c : Chg} (h : stepS S c = some T) {w : List UInt8} (hw : w ∈ T) : w ∈ S ∨ w = c.1 := by
  obtain ⟨_, rfl⟩ := step_some h
  split at hw
  · exact .inl (minus_mem.1 hw).1
  · rcases (mergeL_mem _ _ _).1 hw with h | h
    · exact .inl h
    · exact .inr (by simpa using h)
structure PatOk (S : List (List UInt8)) (D : List Chg) (T : List (List UInt8)) : Prop where
  rises : RisesL T
  len : T.length ≤ S.length + D.length
  words : ∀ w ∈ T, w ∈ S ∨ ∃ c ∈ D, c.1 = w
theorem patch_ok : ∀ {D : List Chg} {S T : List (List UInt8)}, RisesL S → patchS S D = some T → PatOk S D T
  | [], S, T, hr, h => by
    simp only [patchS, Option.some.injEq] at h
    subst h
    exact ⟨hr, by simp, fun w hw => .inl hw⟩
  | c :: D, S, T, hr, h => by
    simp only [patchS] at h
    cases hs : stepS S c with
    | none => rw [hs] at h; cases h
    | some U =>
      rw [hs] at h
      have ih := patch_ok (step_rises hr hs) h
      have hl := step_len hs
      have h2 := ih.len
      refine ⟨ih.rises, by simp only [List.length_cons]; omega, fun w hw => ?_⟩
      rcases ih.words w hw with h1 | ⟨d, hd, rfl⟩
      · rcases step_in hs h1 with h3 | rfl
        · exact .inl h3
        · exact .inr ⟨c, by simp, rfl⟩
      · exact .inr ⟨d, by simp [hd], rfl⟩
/-- Changes that each fit, of unlike words. -/
theorem patch_fit : ∀ {D : List Chg} {S : List (List UInt8)}, RisesL S → (D.map Prod.fst).Nodup → (∀ c ∈ D, decide (c.1 ∈ S) = c.2) →
    ∃ T, patchS S D = some T ∧ RisesL T ∧ ∀ w, w ∈ T ↔ (w, false) ∈ D ∨ (w ∈ S ∧ (w, true) ∉ D)
  | [], S, hr, _, _ => ⟨S, rfl, hr, fun w => by simp⟩
  | c :: D, S, hr, hn, hf => by
    have hc := hf c (by simp)
    rw [List.map_cons, List.nodup_cons] at hn
    have hs := step_ok hc
    obtain ⟨U, hU⟩ : ∃ U, (if c.2 then minusL S [c.1] else mergeL S [c.1]) = U := ⟨_, rfl⟩
    rw [hU] at hs
    have hm : ∀ w, w ∈ U ↔ if w = c.1 then c.2 = false else w ∈ S := fun w => by
      rw [← hU]
      cases h2 : c.2 with
      | true =>
        rw [if_pos rfl, minus_mem]
        by_cases e : w = c.1
        · rw [if_pos e]; simp [e]
        · rw [if_neg e]; simp [e]
      | false =>
        rw [if_neg (by simp), mergeL_mem]
        by_cases e : w = c.1
        · rw [if_pos e]; simp [e]
        · rw [if_neg e]; simp [e]
    have hnd : ∀ d ∈ D, d.1 ≠ c.1 := fun d hd e => hn.1 (e ▸ List.mem_map.2 ⟨d, hd, rfl⟩)
    obtain ⟨T, h1, h2, h3⟩ := patch_fit (D := D) (step_rises hr hs) hn.2 fun d hd => by
      rw [← hf d (by simp [hd])]
      have := hm d.1
      rw [if_neg (hnd d hd)] at this
      simp only [decide_eq_decide]
      exact this
    refine ⟨T, by simp only [patchS, hs]; exact h1, h2, fun w => ?_⟩
    rw [h3, hm]
    by_cases e : w = c.1
    · subst e
      have h4 : ∀ f, (c.1, f) ∉ D := fun f hm => hnd _ hm rfl
      rw [if_pos rfl]
      simp only [List.mem_cons]
      have h5 : ∀ f : Bool, ((c.1, f) = c) ↔ f = c.2 := fun f => ⟨fun h => by rw [← h], fun h => by rw [h]⟩
      simp only [h5, h4, or_false, not_false_eq_true, and_true, false_or]
      cases hx : c.2 with
      | true => simp
      | false =>
        rw [hx, decide_eq_false_iff_not] at hc
        simp
    · rw [if_neg e]
      have h5 : ∀ f : Bool, ((w, f) ∈ c :: D) ↔ (w, f) ∈ D := fun f => by
        rw [List.mem_cons]
        exact ⟨fun h => h.resolve_left fun h => e (by rw [← h]), .inr⟩
      rw [h5, h5]
theorem patch_there {xs ys : List (List UInt8)} (hx : RisesL xs) (hy : RisesL ys) : patchS xs (diffL xs ys) = some ys := by
  have hs := diff_spec hx hy
  obtain ⟨T, h1, h2, h3⟩ := patch_fit (D := diffL xs ys) (S := xs) hx hs.rises.nodup fun c hc => by
    rcases (hs.mem c.1 c.2).1 hc with ⟨e, h, _⟩ | ⟨e, h, _⟩ <;> rw [e] <;> simp [h]
  rw [h1]
  congr 1
  refine RisesL.ext h2 hy fun w => ?_
  rw [h3, hs.mem, hs.mem]
  by_cases a : w ∈ xs <;> by_cases b : w ∈ ys <;> simp [a, b]
theorem mem_turn {D : List Chg} {w : List UInt8} {f : Bool} : (w, f) ∈ turnL D ↔ (w, !f) ∈ D := by
  unfold turnL
  rw [List.mem_map]
  constructor
  · rintro ⟨c, hc, e⟩
    simp only [flipC, Prod.mk.injEq] at e
    obtain ⟨rfl, rfl⟩ := e
    rw [Bool.not_not]
    exact List.mem_reverse.1 hc
  · intro h
    exact ⟨(w, !f), List.mem_reverse.2 h, by simp [flipC]⟩
theorem patch_back {xs ys : List (List UInt8)} (hx : RisesL xs) (hy : RisesL ys) : patchS ys (turnL (diffL xs ys)) = some xs := by
  have hs := diff_spec hx hy
  have hnd : ((turnL (diffL xs ys)).map Prod.fst).Nodup := by
    unfold turnL
    rw [List.map_map]
    have : (Prod.fst ∘ flipC) = (Prod.fst : Chg → List UInt8) := rfl
    rw [this, List.map_reverse]
    exact (List.reverse_perm _).nodup_iff.2 hs.rises.nodup
  obtain ⟨T, h1, h2, h3⟩ := patch_fit (D := turnL (diffL xs ys)) (S := ys) hy hnd fun c hc => by
    obtain ⟨w, f⟩ := c
    rw [mem_turn] at hc
    rcases (hs.mem w (!f)).1 hc with ⟨e, h, k⟩ | ⟨e, h, k⟩
    · have : f = false := by simpa using e
      subst this; simpa using k
    · have : f = true := by simpa using e
      subst this; simpa using k
  rw [h1]
  congr 1
  refine RisesL.ext h2 hx fun w => ?_
  rw [h3, mem_turn, mem_turn, hs.mem, hs.mem]
  by_cases a : w ∈ xs <;> by_cases b : w ∈ ys <;> simp [a, b]
/-- Words in whatever order, sorted. -/
theorem sort_rises {zs S : List (List UInt8)} (hr : RisesL S) (hp : zs.Perm S) : (zs.mergeSort fun x y => decide (x ≤ y)) = S := by
  have hs := List.pairwise_mergeSort (le := fun x y : List UInt8 => decide (x ≤ y)) (fun a b c h1 h2 => by simp at *; exact List.le_trans h1 h2) (fun a b => by simp; exact List.le_total a b) zs
  have hle : ∀ {x y : List UInt8}, x ≤ y → Op.bytesLess y x = false := fun {x y} h => by
    rw [Go.Proofs.bytesLess_eq]; simpa using h
  refine List.Perm.eq_of_pairwise (le := fun a b : List UInt8 => Op.bytesLess b a = false) (fun a b _ _ h1 h2 => ?_) (hs.imp fun h => hle (by simpa using h)) (hr.imp fun h => LtW.not h) ((List.mergeSort_perm _ _).trans hp)
  refine Classical.byContradiction fun e => ?_
  have := bl_total h1 (fun h => e h.symm)
  rw [h2] at this
  cases this
end

section
open Go.RowKit
open Go.Maps (Keyed)

abbrev tMS : TypeId := 89
abbrev tInS : TypeId := 3
theorem strKey : Keyed Try.prog tTx := Go.Maps.string_keyed Try.underlying9
theorem zeroIn (w : World) : (zeroValue tInS).run Try.prog w = .ok (.int .i64 0) w := by kernel_rfl
theorem mk_ms (w : World) : (Instr.makeMap tMS none).run Try.prog w = .ok (.map (some w.heap.size)) (w.alloc (.map #[] 0)) := by kernel_rfl
abbrev sLit (s : List UInt8) : Lit := .string s
abbrev oneD : DataW Unit := .lit (.int .i64 1)
theorem keyOf_s {s : ByteArray} (h : s.size ≤ maxLen) : keyOf Try.prog tTx (.string s) = some (.string s.data.toList) := Go.WideMaps.keyOf_string_mk Try.underlying9 h
theorem key_lit {s : List UInt8} (h : s.length ≤ maxLen) : WideAt.IsKeyLit (sLit s) := strKey.key (keyOf_s (s := ⟨s.toArray⟩) h)
/-- The map reads as the set S. -/
def SetD (D : DataW Unit) (S : List (List UInt8)) : Prop := ∀ (s : List UInt8) (zd : DataW Unit), D.atKey (sLit s) zd = if s ∈ S then oneD else zd
theorem setD_nil : SetD (.map []) [] := fun s zd => by simp [DataW.atKey]
theorem setD_put {D : DataW Unit} {S T : List (List UInt8)} (h : SetD D S) (hm : Maps.IsMap D) {s : List UInt8} (hs : s.length ≤ maxLen) (hT : ∀ x, x ∈ T ↔ x = s ∨ x ∈ S) : SetD (D.put (sLit s) oneD) T := fun x zd => by
  by_cases e : x = s
  · subst e
    rw [Maps.atKey_put_same hm (key_lit hs), if_pos ((hT x).2 (.inl rfl))]
  · rw [Maps.atKey_put_other (by simpa using e), h]
    have : (x ∈ T) ↔ x ∈ S := by rw [hT]; simp [e]
    simp only [this]
theorem setD_del {D : DataW Unit} {S T : List (List UInt8)} (h : SetD D S) {s : List UInt8} (hT : ∀ x, x ∈ T ↔ x ∈ S ∧ x ≠ s) : SetD (D.del (sLit s)) T := fun x zd => by
  by_cases e : x = s
  · subst e
    rw [Maps.atKey_del_same, if_neg fun hm => ((hT x).1 hm).2 rfl]
  · rw [Maps.atKey_del_other (by simpa using e), h]
    have : (x ∈ T) ↔ x ∈ S := by rw [hT]; simp [e]
    simp only [this]
theorem setD_has {D : DataW Unit} {S : List (List UInt8)} (h : SetD D S) (s : List UInt8) : Maps.has D (sLit s) = decide (s ∈ S) := by
  by_cases e : s ∈ S
  · rw [decide_eq_true e]
    exact Maps.has_true_of_atKey fun zd => by rw [h, if_pos e]
  · rw [decide_eq_false e]
    exact Maps.has_false_of_atKey fun zd => by rw [h, if_neg e]
/-- The set, in block b; at most n entries. -/
def SetT (b n : Nat) (S : List (List UInt8)) : Thing := fun w fp => fp = [b] ∧ ∃ D : DataW Unit, w.ownsMap Try.prog tTx (plainElem Try.prog tInS) b n D ∧ SetD D S
theorem ownsMap_block {w w' : World} {b n : Nat} {D : DataW Unit} (h : w.ownsMap Try.prog tTx (plainElem Try.prog tInS) b n D) (hb : w'.heap[b]? = w.heap[b]?) : w'.ownsMap Try.prog tTx (plainElem Try.prog tInS) b n D := by
  obtain ⟨es, clock, h1, h2⟩ := h
  exact ⟨es, clock, hb.trans h1, h2⟩
theorem SetT.stable (b n : Nat) (S : List (List UInt8)) : Stable (SetT b n S) :=
  ⟨fun w fp h j hj => by obtain ⟨rfl, D, h1, _⟩ := h; rw [List.mem_singleton] at hj; subst hj; exact h1.lt,
   fun w w' fp h hs => by obtain ⟨rfl, D, h1, h2⟩ := h; exact ⟨rfl, D, ownsMap_block h1 (hs b (by simp)), h2⟩⟩
section
variable {W w : World} {R : Thing} {b n : Nat} {S T : List (List UInt8)}
theorem At.newSet {Φ : Thing} (h : At W w Φ) (hs : Stable Φ) : At W (w.alloc (.map #[] 0)) (Both (SetT w.heap.size 0 []) Φ) :=
  h.add hs ((Below.refl _ _).alloc (Nat.le_refl _) _) (fp := [w.heap.size]) ⟨rfl, _, World.ownsMap_made _ _ _ _, setD_nil⟩ (by simp)
theorem At.set (h : At W w (Both (SetT b n S) R)) : ∃ D : DataW Unit, w.ownsMap Try.prog tTx (plainElem Try.prog tInS) b n D ∧ SetD D S := by
  obtain ⟨_, fp, ⟨f, g, ⟨_, h1⟩, _⟩, _⟩ := h
  exact h1
theorem At.setMono {m : Nat} (h : At W w (Both (SetT b n S) R)) (hm : n ≤ m) : At W w (Both (SetT b m S) R) :=
  h.impl fun _ ⟨f, g, ⟨h1, D, h2, h3⟩, h4⟩ => ⟨f, g, ⟨h1, D, h2.mono hm, h3⟩, h4⟩
theorem At.setGet (h : At W w (Both (SetT b n S) R)) {s : ByteArray} (hs : s.size ≤ maxLen) :
    (Instr.lookup tMS (.map (some b)) (.string s) false).run Try.prog w = .ok (.int .i64 (if s.data.toList ∈ S then 1 else 0)) w := by
  obtain ⟨D, h1, h2⟩ := h.set
  obtain ⟨c, hrun, hat, _⟩ := h1.lookup_int strKey Try.underlying89 Try.underlying3 (zeroIn w) (keyOf_s hs)
  rw [h2] at hat
  have hc : c = if s.data.toList ∈ S then 1 else 0 := by
    split at hat
    · rename_i hm
      rw [if_pos hm]
      simp only [DataW.lit.injEq, Lit.int.injEq, true_and] at hat; exact hat.symm
    · rename_i hm
      rw [if_neg hm]
      simp only [DataW.lit.injEq, Lit.int.injEq, true_and] at hat; exact hat.symm
  rw [← hc]
  exact hrun
theorem At.setPut (h : At W w (Both (SetT b n S) R)) (hR : Stable R) (hn : n < maxLen) {s : ByteArray} (hs : s.size ≤ maxLen) (hT : ∀ x, x ∈ T ↔ x = s.data.toList ∨ x ∈ S) :
    ∃ w', (Instr.mapUpdate tMS (.map (some b)) (.string s) (.int .i64 1)).run Try.prog w = .ok () w' ∧ At W w' (Both (SetT b (n + 1) T) R) := by
  obtain ⟨fp, ⟨rfl, D, h1, h2⟩, h3, h4⟩ := h.step
  obtain ⟨w', hrun, r1, r2⟩ := h1.update strKey Try.underlying89 hn (keyOf_s hs) (plainElem_int Try.underlying3 (by decide) : plainElem Try.prog tInS (.int .i64 1) = some (oneD, []))
  exact ⟨w', hrun, h4 hR _ _ ⟨[b], ⟨rfl, _, r1, setD_put h2 h1.isMap (by simpa using hs) hT⟩, (Upd.refl _ _).grown r2 (fun k hk => by cases hk; exact .inl (by simp)), fun j hj => .inl hj⟩⟩
theorem At.setDel (h : At W w (Both (SetT b n S) R)) (hR : Stable R) {s : ByteArray} (hs : s.size ≤ maxLen) (ty : TypeId) (hT : ∀ x, x ∈ T ↔ x ∈ S ∧ x ≠ s.data.toList) :
    ∃ w', (Builtin.delete_ #[tMS, tTx] ty #[.map (some b), .string s]).run Try.prog w = .ok (.tuple #[]) w' ∧ At W w' (Both (SetT b n T) R) := by
  obtain ⟨fp, ⟨rfl, D, h1, h2⟩, h3, h4⟩ := h.step
  obtain ⟨w', hrun, r1, r2⟩ := h1.drop strKey Try.underlying89 (keyOf_s hs) ty
  exact ⟨w', hrun, h4 hR _ _ ⟨[b], ⟨rfl, _, r1, setD_del h2 hT⟩, (Upd.refl _ _).grown r2.grown (fun k hk => by cases hk; exact .inl (by simp)), fun j hj => .inl hj⟩⟩
end
section
variable {P : Program} {w : World} {ops : Array Oper} {rest : List Oper} {o : Oper} {a : Act} {Q : Exit → Act → World → Prop} {F : Fence} {nF : Nat}
theorem wpList_upd {w' : World} (hg : o.guard = none) (m x v : Operand) (t : TypeId) (hop : o.op = Op.mapUpdate t m x v) {mv key val : Value} (hm : a.eval m = mv) (hx : a.eval x = key) (hv : a.eval v = val)
    (hrun : (Instr.mapUpdate t mv key val).run P w = .ok () w') (h : wpList P ops Q rest (a.put o.dst undef) w') : wpList P ops Q (o :: rest) a w := by
  refine wpList_plain hg fun K' hK' => ?_
  unfold Oper.wp
  simp only [execOp, hop, hm, hx, hv, Sem.run_bind, Sem.run_pure, Result.andThen]
  rw [hrun]
  exact hK' _ _ h
theorem wpListIn_upd {w' : World} (hg : o.guard = none) (m x v : Operand) (t : TypeId) (hop : o.op = Op.mapUpdate t m x v) {mv key val : Value} (hm : a.eval m = mv) (hx : a.eval x = key) (hv : a.eval v = val)
    (hrun : (Instr.mapUpdate t mv key val).run P w = .ok () w') (h : wpListIn F nF P ops Q rest (a.put o.dst undef) w') : wpListIn F nF P ops Q (o :: rest) a w := by
  refine wpListIn_plain hg fun K' hK' => ?_
  unfold Oper.wpIn
  refine ⟨by simp [Oper.about, hop], ?_⟩
  rw [Oper.semAt_plain F _ _ (by rw [hop]; intro c hc'; cases hc')]
  simp [execOp, hop, hm, hx, hv, hrun, Result.andThen]
  exact hK' _ _ h
theorem wpList_del {w' : World} (hg : o.guard = none) (m x : Operand) (t k : TypeId) (hop : o.op = Op.call { callee := Callee.builtin Builtin.delete, args := #[m, x], argTypes := #[t, k] }) {mv key : Value} (hm : a.eval m = mv) (hx : a.eval x = key)
    (hrun : (Builtin.delete_ #[t, k] o.type #[mv, key]).run P w = .ok (.tuple #[]) w') (h : wpList P ops Q rest (a.put o.dst (.tuple #[])) w') : wpList P ops Q (o :: rest) a w := by
  refine wpList_plain hg fun K' hK' => ?_
  unfold Oper.wp
  simp [execOp, hop, resolve, invoke, builtin, hm, hx, hrun, Result.andThen]
  exact hK' _ _ h
end
/-! ### Going over it -/
def RngT (b r n : Nat) (D : DataW Unit) (left : Lit → Bool) (cnt : Nat) : Thing := fun w fp => fp = [b, r] ∧ w.ranges Try.prog tTx (plainElem Try.prog tInS) b r n D left cnt
theorem RngT.stable (b r n : Nat) (D : DataW Unit) (left : Lit → Bool) (cnt : Nat) : Stable (RngT b r n D left cnt) :=
  ⟨fun w fp h j hj => by
      obtain ⟨rfl, h1⟩ := h
      simp only [List.mem_cons, List.not_mem_nil, or_false] at hj
      rcases hj with rfl | rfl
      · exact h1.owns.lt
      · exact h1.lt,
   fun w w' fp h hs => by
      obtain ⟨rfl, es, clock, since, seen, c0, hb, F, hz, hD, hr, rest⟩ := h
      exact ⟨rfl, es, clock, since, seen, c0, (hs b (by simp)).trans hb, F, hz, hD, (hs r (by simp)).trans hr, rest⟩⟩
/-- The words met so far. -/
structure MetS (D : DataW Unit) (left : Lit → Bool) (zs : List (List UInt8)) : Prop where
  nodup : zs.Nodup
  mem : ∀ x, x ∈ zs ↔ (Maps.has D (sLit x) = true ∧ left (sLit x) = false)
theorem MetS.start (D : DataW Unit) : MetS D (Maps.has D) [] := ⟨List.nodup_nil, fun x => by simp⟩
theorem MetS.step {D : DataW Unit} {left : Lit → Bool} {zs : List (List UInt8)} (h : MetS D left zs) {x : List UInt8} (hx : left (sLit x) = true) {y : DataW Unit} (hat : ∀ zd, D.atKey (sLit x) zd = y) :
    MetS D (fun z => left z && !z.sameKey (sLit x)) (zs ++ [x]) := by
  have hhas := Maps.has_true_of_atKey hat
  refine ⟨?_, fun z => ?_⟩
  · rw [List.nodup_append]
    refine ⟨h.nodup, by simp, fun a ha b hb => ?_⟩
    simp only [List.mem_singleton] at hb
    subst hb
    rintro rfl
    have := ((h.mem a).1 ha).2
    rw [hx] at this
    cases this
  · rw [List.mem_append, h.mem, List.mem_singleton]
    by_cases hz : z = x
    · subst hz
      simp [hhas, Lit.sameKey]
    · simp [hz, Lit.sameKey]
theorem MetS.sub {D : DataW Unit} {left : Lit → Bool} {zs S : List (List UInt8)} (h : MetS D left zs) (hD : SetD D S) : ∀ x ∈ zs, x ∈ S := fun x hx => by
  have := ((h.mem x).1 hx).1
  rw [setD_has hD] at this
  simpa using this
theorem MetS.perm {D : DataW Unit} {left : Lit → Bool} {zs S : List (List UInt8)} (h : MetS D left zs) (hl : ∀ kl, left kl = false) (hD : SetD D S) (hr : RisesL S) : zs.Perm S :=
  (List.perm_ext_iff_of_nodup h.nodup hr.nodup).2 fun x => by rw [h.mem, setD_has hD, hl]; simp
theorem MetS.len {D : DataW Unit} {left : Lit → Bool} {zs S : List (List UInt8)} (h : MetS D left zs) (hD : SetD D S) : zs.length ≤ S.length := by
  have go : ∀ (l r : List (List UInt8)), l.Nodup → (∀ x ∈ l, x ∈ r) → l.length ≤ r.length := by
    intro l
    induction l with
    | nil => intro r _ _; exact Nat.zero_le _
    | cons x l ih =>
      intro r hn hs
      have hx := hs x (by simp)
      have h1 := ih (r.erase x) (List.nodup_cons.1 hn).2 (fun y hy => (List.mem_erase_of_ne (by rintro rfl; exact (List.nodup_cons.1 hn).1 hy)).2 (hs y (by simp [hy])))
      rw [List.length_erase_of_mem hx] at h1
      have : 0 < r.length := List.length_pos_of_mem hx
      simp; omega
  exact go _ _ h.nodup (h.sub hD)
theorem intR_inv (v : Value) (y : DataW Unit × List MemPlace) (h : plainElem Try.prog tInS v = some y) : ∃ c : Int, v = .int .i64 c := by
  obtain ⟨a, h1, _⟩ := plainElem_int_inv Try.underlying3 h
  exact ⟨a, h1⟩
theorem strK_inv (key : Value) (kl : Lit) (h : keyOf Try.prog tTx key = some kl) : ∃ x : ByteArray, key = .string x := Maps.keyOf_string_inv Try.underlying9 h
theorem At.rng {W w : World} {R : Thing} {b r n : Nat} {D : DataW Unit} {left : Lit → Bool} {cnt : Nat} (h : At W w (Both (RngT b r n D left cnt) R)) : w.ranges Try.prog tTx (plainElem Try.prog tInS) b r n D left cnt := by
  obtain ⟨_, fp, ⟨f, g, ⟨_, h1⟩, _⟩, _⟩ := h
  exact h1
theorem At.rngStep {W w w' : World} {R : Thing} {b r n : Nat} {D : DataW Unit} {left left' : Lit → Bool} {cnt cnt' : Nat} (h : At W w (Both (RngT b r n D left cnt) R)) (hR : Stable R) (hg : w.grownBy w' (some r)) (hr : w'.ranges Try.prog tTx (plainElem Try.prog tInS) b r n D left' cnt') :
    At W w' (Both (RngT b r n D left' cnt') R) := by
  obtain ⟨fp, ⟨rfl, _⟩, h3, h4⟩ := h.step
  exact h4 hR _ _ ⟨[b, r], ⟨rfl, hr⟩, (Upd.refl _ _).grown hg (fun k hk => by cases hk; exact .inl (by simp)), fun j hj => .inl hj⟩
theorem At.rngStart {W w w' : World} {R : Thing} {b n : Nat} {S : List (List UInt8)} (h : At W w (Both (SetT b n S) R)) (hR : Stable R) {D : DataW Unit} {left : Lit → Bool} {cnt : Nat} (hg : w.grownBy w' none) (hr : w'.ranges Try.prog tTx (plainElem Try.prog tInS) b w.heap.size n D left cnt) :
    At W w' (Both (RngT b w.heap.size n D left cnt) R) := by
  obtain ⟨fp, ⟨rfl, _⟩, h3, h4⟩ := h.step
  exact h4 hR _ _ ⟨[b, w.heap.size], ⟨rfl, hr⟩, (Upd.refl _ _).grown hg (fun k hk => by cases hk), fun j hj => by
    simp only [List.mem_cons, List.not_mem_nil, or_false] at hj
    rcases hj with rfl | rfl
    · exact .inl (by simp)
    · exact .inr (Nat.le_refl _)⟩
end
end Go.Proofs.Ytcbdncjknpdnbaa

/- Plain facts on numbers and records as bytes: no program in sight. -/

set_option linter.unusedSimpArgs false
set_option linter.unusedVariables false

namespace Go.Proofs.YthcicmbkkkhifaaGreatDoor

/-- A number in its one form. -/
def uintL (n : Nat) : List UInt8 :=
  if n < 128 then [UInt8.ofNat n] else UInt8.ofNat (n % 128 + 128) :: uintL (n / 128)
termination_by n
decreasing_by omega

theorem uintL_lt {n : Nat} (h : n < 128) : uintL n = [UInt8.ofNat n] := by rw [uintL, if_pos h]
theorem uintL_ge {n : Nat} (h : ¬ n < 128) : uintL n = UInt8.ofNat (n % 128 + 128) :: uintL (n / 128) := by rw [uintL, if_neg h]

theorem uintL_length : ∀ {k n : Nat}, n < 128 ^ (k + 1) → (uintL n).length ≤ k + 1 := by
  intro k
  induction k with
  | zero => intro n h; rw [uintL_lt (by simpa using h)]; simp
  | succ k ih =>
    intro n h
    by_cases hn : n < 128
    · rw [uintL_lt hn]; simp
    · rw [uintL_ge hn, List.length_cons]
      have : n / 128 < 128 ^ (k + 1) := Nat.div_lt_of_lt_mul (by rw [Nat.mul_comm, ← Nat.pow_succ]; exact h)
      have := ih this
      omega
theorem uintL_length10 {n : Nat} (h : n < 18446744073709551616) : (uintL n).length ≤ 10 :=
  uintL_length (k := 9) (Nat.lt_trans h (by decide))
/-- What has been written: k bytes, m is left. -/
def UintAt (n m k : Nat) (l : List UInt8) : Prop := l.length = k ∧ l ++ uintL m = uintL n ∧ m * 128 ^ k ≤ n ∧ (k = 0 ∨ 0 < m)

theorem UintAt.start (n : Nat) : UintAt n n 0 [] := ⟨rfl, rfl, by simp, .inl rfl⟩
theorem UintAt.next {n m k : Nat} {l : List UInt8} (h : UintAt n m k l) (hm : ¬ m < 128) : UintAt n (m / 128) (k + 1) (l ++ [UInt8.ofNat (m % 128 + 128)]) := by
  obtain ⟨h1, h2, h3, _⟩ := h
  refine ⟨by simp [h1], by rw [← h2, uintL_ge hm]; simp, ?_, .inr (by omega)⟩
  have : m / 128 * 128 ^ (k + 1) ≤ m * 128 ^ k := by
    rw [Nat.pow_succ, Nat.mul_comm (128 ^ k), ← Nat.mul_assoc]
    exact Nat.mul_le_mul_right _ (Nat.div_mul_le_self m 128)
  omega
theorem UintAt.done {n m k : Nat} {l : List UInt8} (h : UintAt n m k l) (hm : m < 128) : l ++ [UInt8.ofNat m] = uintL n := by
  rw [← h.2.1, uintL_lt hm]
theorem UintAt.le {n m k : Nat} {l : List UInt8} (h : UintAt n m k l) (hn : n < 18446744073709551616) : k ≤ 9 := by
  obtain ⟨_, _, h3, h4⟩ := h
  rcases h4 with h4 | h4
  · omega
  apply Classical.byContradiction
  intro hk
  have : 128 ^ 10 ≤ 128 ^ k := Nat.pow_le_pow_right (by omega) (by omega)
  have h4 : 1 * 128 ^ k ≤ m * 128 ^ k := Nat.mul_le_mul_right _ h4
  have : (128 : Nat) ^ 10 = 1180591620717411303424 := by decide
  omega

/-! ### Numbers read -/

/-- How many bytes at the beginning say that more follow. -/
def lead : List UInt8 → Nat
  | [] => 0
  | c :: r => if 128 ≤ c.toNat then lead r + 1 else 0
/-- Digits to the base 128, the least first. -/
def valU : List UInt8 → Nat
  | [] => 0
  | c :: r => c.toNat % 128 + 128 * valU r
/-- The number that begins l: itself, how many bytes it takes, the error. -/
def rdU (l : List UInt8) : Nat × Nat × Nat :=
  if 10 ≤ lead l then (0, 0, 61) else
  match l[lead l]? with
  | none => (0, 0, 60)
  | some c => if (lead l = 9 ∧ 1 < c.toNat) ∨ (0 < lead l ∧ c.toNat = 0) then (0, 0, 61) else (valU (l.take (lead l + 1)), lead l + 1, 0)
def rdAt (l : List UInt8) (at_ : Int) : Nat × Int × Nat :=
  if at_ < 0 ∨ (l.length : Int) ≤ at_ then (0, 0, 60) else
  let r := rdU (l.drop at_.toNat)
  if r.2.2 = 0 then (r.1, at_ + r.2.1, 0) else (0, 0, r.2.2)

theorem lead_le (l : List UInt8) : lead l ≤ l.length := by
  induction l with
  | nil => simp [lead]
  | cons c r ih => simp only [lead, List.length_cons]; split <;> omega
/-- k bytes have been met that say that more follow. -/
theorem lead_ge {l : List UInt8} : ∀ {k : Nat}, k ≤ l.length → (∀ j, j < k → ∀ c, l[j]? = some c → 128 ≤ c.toNat) → k ≤ lead l := by
  induction l with
  | nil => intro k hk _; simpa [lead] using hk
  | cons c r ih =>
    intro k hk h
    cases k with
    | zero => omega
    | succ k =>
      have h0 := h 0 (by omega) c (by simp)
      simp only [lead, if_pos h0]
      have := ih (k := k) (by simpa using hk) (fun j hj d hd => h (j + 1) (by omega) d (by simpa using hd))
      omega
theorem lead_stop {l : List UInt8} : ∀ {k : Nat} {c : UInt8}, l[k]? = some c → c.toNat < 128 → lead l ≤ k := by
  induction l with
  | nil => intro k c h; simp at h
  | cons d r ih =>
    intro k c h hc
    simp only [lead]
    split
    · rename_i hd
      cases k with
      | zero => simp at h; subst h; omega
      | succ k => have := ih (k := k) (by simpa using h) hc; omega
    · omega
theorem valU_lt (l : List UInt8) : valU l < 128 ^ l.length := by
  induction l with
  | nil => simp [valU]
  | cons c r ih =>
    simp only [valU, List.length_cons, Nat.pow_succ]
    have := Nat.mod_lt c.toNat (show 128 > 0 by decide)
    omega
theorem valU_snoc (l : List UInt8) (c : UInt8) : valU (l ++ [c]) = valU l + c.toNat % 128 * 128 ^ l.length := by
  induction l with
  | nil => simp [valU]
  | cons d r ih =>
    simp only [List.cons_append, valU, ih, List.length_cons, Nat.pow_succ]
    rw [Nat.mul_add, ← Nat.mul_assoc, ← Nat.mul_assoc, Nat.mul_comm 128 (c.toNat % 128), Nat.mul_assoc, Nat.mul_assoc, Nat.mul_comm 128 (128 ^ _)]
    omega

theorem rdU_ok {l : List UInt8} (h : (rdU l).2.2 = 0) : 1 ≤ (rdU l).2.1 ∧ (rdU l).2.1 ≤ 10 ∧ (rdU l).2.1 ≤ l.length ∧ (rdU l).1 < 18446744073709551616 ∧ (rdU l).1 = valU (l.take (rdU l).2.1) := by
  have hl := lead_le l
  by_cases h1 : 10 ≤ lead l
  · simp only [rdU, if_pos h1] at h; omega
  · cases hc : l[lead l]? with
    | none => simp only [rdU, if_neg h1, hc] at h; omega
    | some c =>
      by_cases h2 : (lead l = 9 ∧ 1 < c.toNat) ∨ (0 < lead l ∧ c.toNat = 0)
      · simp only [rdU, if_neg h1, hc, if_pos h2] at h; omega
      · have e : rdU l = (valU (l.take (lead l + 1)), lead l + 1, 0) := by simp only [rdU, if_neg h1, hc, if_neg h2]
        rw [e]
        have hlt : lead l < l.length := (List.getElem?_eq_some_iff.1 hc).1
        refine ⟨by simp, by simp; omega, by simp; omega, ?_, rfl⟩
        have ht : l.take (lead l + 1) = l.take (lead l) ++ [c] := by
          obtain ⟨hk, rfl⟩ := List.getElem?_eq_some_iff.1 hc
          rw [List.take_succ_eq_append_getElem hk]
        have hv := valU_lt (l.take (lead l))
        have hlen : (l.take (lead l)).length = lead l := List.length_take_of_le hl
        rw [hlen] at hv
        show valU (l.take (lead l + 1)) < 18446744073709551616
        rw [ht, valU_snoc, hlen]
        have hc := Nat.mod_lt c.toNat (show 128 > 0 by decide)
        by_cases h9 : lead l = 9
        · have hc1 : c.toNat % 128 ≤ 1 := by omega
          rw [h9] at hv ⊢
          have h3 : c.toNat % 128 * 128 ^ 9 ≤ 1 * 128 ^ 9 := Nat.mul_le_mul_right _ hc1
          have : (128 : Nat) ^ 9 = 9223372036854775808 := by decide
          omega
        · have h3 : (128 : Nat) ^ lead l ≤ 128 ^ 8 := Nat.pow_le_pow_right (by decide) (by omega)
          have h4 : c.toNat % 128 * 128 ^ lead l ≤ 127 * 128 ^ 8 := Nat.mul_le_mul (by omega) h3
          have : (128 : Nat) ^ 8 = 72057594037927936 := by decide
          omega

theorem rdAt_ok {l : List UInt8} {a : Int} (h : (rdAt l a).2.2 = 0) : 0 ≤ a ∧ (rdAt l a).1 < 18446744073709551616 ∧ a + 1 ≤ (rdAt l a).2.1 ∧ (rdAt l a).2.1 ≤ a + 10 ∧ (rdAt l a).2.1 ≤ l.length := by
  unfold rdAt at h ⊢
  by_cases h0 : a < 0 ∨ (l.length : Int) ≤ a
  · rw [if_pos h0] at h; simp at h
  · rw [if_neg h0] at h ⊢
    dsimp only at h ⊢
    by_cases h1 : (rdU (l.drop a.toNat)).2.2 = 0
    · rw [if_pos h1]
      have := rdU_ok h1
      simp only [List.length_drop] at this
      dsimp only
      omega
    · rw [if_neg h1] at h; exact absurd h h1

/-! ### Records read -/

/-- The record at a place, and the place behind it; else the error. -/
def nextAt (l : List UInt8) (a : Int) : List UInt8 × Int × Nat :=
  if (rdAt l a).2.2 ≠ 0 then ([], 0, (rdAt l a).2.2) else
  if 255 < (rdAt l a).1 then ([], 0, 62) else
  if (l.length : Int) - (rdAt l a).2.1 < (rdAt l a).1 then ([], 0, 60) else
  ((l.drop (rdAt l a).2.1.toNat).take (rdAt l a).1, (rdAt l a).2.1 + (rdAt l a).1, 0)

theorem nextAt_ok {l : List UInt8} {a : Int} (h : (nextAt l a).2.2 = 0) : 0 ≤ a ∧ a + 1 ≤ (nextAt l a).2.1 ∧ (nextAt l a).2.1 ≤ l.length ∧ (nextAt l a).1.length ≤ 255 := by
  unfold nextAt at h ⊢
  by_cases h1 : (rdAt l a).2.2 ≠ 0
  · rw [if_pos h1] at h; exact absurd h h1
  · rw [if_neg h1] at h ⊢
    have h1 := rdAt_ok (Classical.not_not.1 h1)
    by_cases h2 : 255 < (rdAt l a).1
    · rw [if_pos h2] at h; simp at h
    · rw [if_neg h2] at h ⊢
      by_cases h3 : (l.length : Int) - (rdAt l a).2.1 < (rdAt l a).1
      · rw [if_pos h3] at h; simp at h
      · rw [if_neg h3]
        refine ⟨h1.1, by dsimp only; omega, by dsimp only; omega, ?_⟩
        simp only [List.length_take]
        omega

/-- The records ahead of the first fault, and that fault. -/
def headsL (l : List UInt8) : List (List UInt8) × Nat :=
  if l = [] then ([], 0) else
  if (nextAt l 0).2.2 ≠ 0 then ([], (nextAt l 0).2.2) else
  if _h : (l.drop (nextAt l 0).2.1.toNat).length < l.length then
    ((nextAt l 0).1 :: (headsL (l.drop (nextAt l 0).2.1.toNat)).1, (headsL (l.drop (nextAt l 0).2.1.toNat)).2)
  else ([], 0)
termination_by l.length
decreasing_by all_goals exact _h

theorem headsL_nil : headsL [] = ([], 0) := by rw [headsL, if_pos rfl]
theorem headsL_ok {l : List UInt8} (h0 : l ≠ []) (h : (nextAt l 0).2.2 = 0) :
    headsL l = ((nextAt l 0).1 :: (headsL (l.drop (nextAt l 0).2.1.toNat)).1, (headsL (l.drop (nextAt l 0).2.1.toNat)).2) := by
  have h1 := nextAt_ok h
  rw [headsL, if_neg h0, if_neg (by simpa using h), dif_pos]
  simp only [List.length_drop]
  omega

theorem rdAt_drop {l : List UInt8} {a : Nat} (ha : a < l.length) : rdAt l a = if (rdAt (l.drop a) 0).2.2 = 0 then ((rdAt (l.drop a) 0).1, (a : Int) + (rdAt (l.drop a) 0).2.1, 0) else (0, 0, (rdAt (l.drop a) 0).2.2) := by
  have c1 : ¬ ((a : Int) < 0 ∨ (l.length : Int) ≤ a) := by omega
  have c2 : ¬ ((0 : Int) < 0 ∨ ((l.drop a).length : Int) ≤ 0) := by simp only [List.length_drop]; omega
  unfold rdAt
  rw [if_neg c1, if_neg c2]
  simp only [Int.toNat_natCast, Int.toNat_zero, List.drop_zero]
  by_cases h : (rdU (l.drop a)).2.2 = 0
  · simp only [if_pos h]; simp
  · simp only [if_neg h]

theorem nextAt_drop {l : List UInt8} {a : Nat} (ha : a < l.length) : nextAt l a = if (nextAt (l.drop a) 0).2.2 = 0 then ((nextAt (l.drop a) 0).1, (a : Int) + (nextAt (l.drop a) 0).2.1, 0) else ([], 0, (nextAt (l.drop a) 0).2.2) := by
  have e := rdAt_drop ha
  by_cases h : (rdAt (l.drop a) 0).2.2 = 0
  · rw [if_pos h] at e
    have hk := rdAt_ok h
    have hn : nextAt l a = if 255 < (rdAt (l.drop a) 0).1 then ([], 0, 62) else
        if (l.length : Int) - (a + (rdAt (l.drop a) 0).2.1) < (rdAt (l.drop a) 0).1 then ([], 0, 60) else
        ((l.drop ((a : Int) + (rdAt (l.drop a) 0).2.1).toNat).take (rdAt (l.drop a) 0).1, (a : Int) + (rdAt (l.drop a) 0).2.1 + (rdAt (l.drop a) 0).1, 0) := by
      unfold nextAt; rw [e]; simp
    have hm : nextAt (l.drop a) 0 = if 255 < (rdAt (l.drop a) 0).1 then ([], 0, 62) else
        if ((l.drop a).length : Int) - (rdAt (l.drop a) 0).2.1 < (rdAt (l.drop a) 0).1 then ([], 0, 60) else
        (((l.drop a).drop (rdAt (l.drop a) 0).2.1.toNat).take (rdAt (l.drop a) 0).1, (rdAt (l.drop a) 0).2.1 + (rdAt (l.drop a) 0).1, 0) := by
      unfold nextAt; rw [if_neg (by simpa using h)]
    rw [hn, hm]
    by_cases h2 : 255 < (rdAt (l.drop a) 0).1
    · simp [if_pos h2]
    · simp only [if_neg h2]
      by_cases h3 : (l.length : Int) - (a + (rdAt (l.drop a) 0).2.1) < (rdAt (l.drop a) 0).1
      · have h4 : ((l.drop a).length : Int) - (rdAt (l.drop a) 0).2.1 < (rdAt (l.drop a) 0).1 := by simp only [List.length_drop]; omega
        rw [if_pos h3, if_pos h4]; simp
      · have h4 : ¬ ((l.drop a).length : Int) - (rdAt (l.drop a) 0).2.1 < (rdAt (l.drop a) 0).1 := by simp only [List.length_drop]; omega
        rw [if_neg h3, if_neg h4]
        simp only [List.drop_drop, if_true]
        have e1 : ((a : Int) + (rdAt (l.drop a) 0).2.1).toNat = a + (rdAt (l.drop a) 0).2.1.toNat := by omega
        rw [e1, Int.add_assoc]
  · rw [if_neg h] at e
    have hn : nextAt l a = ([], 0, (rdAt (l.drop a) 0).2.2) := by unfold nextAt; rw [e]; simp [h]
    have hm : nextAt (l.drop a) 0 = ([], 0, (rdAt (l.drop a) 0).2.2) := by unfold nextAt; rw [if_pos h]
    rw [hn, hm]; simp [h]

/-- Read so far: acc, at the place a. -/
def HeadsAt (l : List UInt8) (a : Nat) (acc : List (List UInt8)) : Prop := a ≤ l.length ∧ acc.length ≤ a ∧ headsL l = (acc ++ (headsL (l.drop a)).1, (headsL (l.drop a)).2) ∧ (∀ r ∈ acc, r.length ≤ 255)
theorem HeadsAt.start (l : List UInt8) : HeadsAt l 0 [] := ⟨by simp, by simp, by simp, by simp⟩
theorem HeadsAt.next {l : List UInt8} {a : Nat} {acc : List (List UInt8)} (h : HeadsAt l a acc) (ha : a < l.length) (hn : (nextAt l a).2.2 = 0) : HeadsAt l (nextAt l a).2.1.toNat (acc ++ [(nextAt l a).1]) := by
  have h0 : l.drop a ≠ [] := by intro e; have := congrArg List.length e; simp at this; omega
  have hd := nextAt_drop ha
  have hz : (nextAt (l.drop a) 0).2.2 = 0 := by
    apply Classical.byContradiction
    intro hne
    rw [if_neg hne] at hd
    rw [hd] at hn
    exact hne hn
  have hok := nextAt_ok hn
  have hok2 := nextAt_ok hz
  rw [if_pos hz] at hd
  have e1 : (nextAt l a).1 = (nextAt (l.drop a) 0).1 := by rw [hd]
  have e2 : (nextAt l a).2.1 = (a : Int) + (nextAt (l.drop a) 0).2.1 := by rw [hd]
  have e3 : (nextAt l a).2.1.toNat = a + (nextAt (l.drop a) 0).2.1.toNat := by omega
  refine ⟨by omega, ?_, ?_, ?_⟩
  · have := h.2.1; simp only [List.length_append, List.length_cons, List.length_nil]; omega
  · rw [h.2.2.1, headsL_ok h0 hz, e3, List.drop_drop, e1]; simp
  · intro r hr
    rcases List.mem_append.1 hr with hr | hr
    · exact h.2.2.2 r hr
    · simp at hr; subst hr; exact hok.2.2.2
theorem HeadsAt.done {l : List UInt8} {a : Nat} {acc : List (List UInt8)} (h : HeadsAt l a acc) (ha : ¬ a < l.length) : headsL l = (acc, 0) := by
  rw [h.2.2.1, List.drop_eq_nil_of_le (by omega), headsL_nil]; simp

/-! ### Records framed -/

/-- The records, each behind its length. -/
def frameL : List (List UInt8) → List UInt8
  | [] => []
  | r :: rs => uintL r.length ++ r ++ frameL rs
def fits (ss : List (List UInt8)) : Bool := ss.all fun r => decide (r.length ≤ 255)
def frameR (ss : List (List UInt8)) : List UInt8 × Nat := if fits ss then (frameL ss, 0) else ([], 62)

theorem frameL_append (a b : List (List UInt8)) : frameL (a ++ b) = frameL a ++ frameL b := by
  induction a with
  | nil => rfl
  | cons r rs ih => simp [frameL, ih]
theorem frameL_snoc (a : List (List UInt8)) (r : List UInt8) : frameL (a ++ [r]) = frameL a ++ (uintL r.length ++ r) := by
  rw [frameL_append]; simp [frameL]
theorem frameL_take_le (ss : List (List UInt8)) (k : Nat) : (frameL (ss.take k)).length ≤ (frameL ss).length := by
  have h : ss = ss.take k ++ ss.drop k := (List.take_append_drop k ss).symm
  have h2 := congrArg (fun l => (frameL l).length) h
  simp only [frameL_append, List.length_append] at h2
  omega
theorem frameL_at {ss : List (List UInt8)} {k : Nat} {r : List UInt8} (h : ss[k]? = some r) : frameL (ss.take (k + 1)) = frameL (ss.take k) ++ (uintL r.length ++ r) := by
  obtain ⟨hk, rfl⟩ := List.getElem?_eq_some_iff.1 h
  rw [List.take_succ_eq_append_getElem hk, frameL_snoc]
theorem fits_of {ss : List (List UInt8)} (h : ∀ j, j < ss.length → ∀ r, ss[j]? = some r → r.length ≤ 255) : fits ss = true := by
  unfold fits
  rw [List.all_eq_true]
  intro r hr
  obtain ⟨j, hj, rfl⟩ := List.getElem_of_mem hr
  simpa using h j hj _ (List.getElem?_eq_getElem hj)
theorem fits_not {ss : List (List UInt8)} {k : Nat} {r : List UInt8} (h : ss[k]? = some r) (hr : 255 < r.length) : fits ss = false := by
  unfold fits
  rw [List.all_eq_false]
  exact ⟨r, List.mem_of_getElem? h, by simp; omega⟩

/-! ### There and back -/

/-- A number's one form. -/
def isForm : List UInt8 → Prop
  | [] => False
  | c :: r => if r = [] then c.toNat < 128 else 128 ≤ c.toNat ∧ isForm r ∧ valU r ≠ 0

end Go.Proofs.YthcicmbkkkhifaaGreatDoor

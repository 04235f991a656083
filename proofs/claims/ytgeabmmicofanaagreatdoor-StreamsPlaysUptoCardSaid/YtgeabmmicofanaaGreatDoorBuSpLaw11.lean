/- Plain facts on numbers and records as bytes: no program in sight. · A heap as a list, in plain words: rise, sink, what they keep, what comes out first. No program in sight. · What a heap gives, against the list of what came in, in the order of its coming in. No program in sight. -/

set_option linter.unusedSimpArgs false
set_option linter.unusedVariables false

namespace Go.Proofs.YtgeabmmicofanaaGreatDoor

/-- A number in its one form. -/
def uintL (n : Nat) : List UInt8 :=
  if n < 128 then [UInt8.ofNat n] else UInt8.ofNat (n % 128 + 128) :: uintL (n / 128)
termination_by n
decreasing_by omega

theorem uintL_lt {n : Nat} (h : n < 128) : uintL n = [UInt8.ofNat n] := by rw [uintL, if_pos h]
theorem uintL_ge {n : Nat} (h : ¬ n < 128) : uintL n = UInt8.ofNat (n % 128 + 128) :: uintL (n / 128) := by rw [uintL, if_neg h]

theorem uintL_length : ∀ {k n : Nat}, n < 128 ^ (k + 1) → (uintL n).length ≤ k + 1 := by
  intro k
  induction k with
  | zero => intro n h; rw [uintL_lt (by simpa using h)]; simp
  | succ k ih =>
    intro n h
    by_cases hn : n < 128
    · rw [uintL_lt hn]; simp
    · rw [uintL_ge hn, List.length_cons]
      have : n / 128 < 128 ^ (k + 1) := Nat.div_lt_of_lt_mul (by rw [Nat.mul_comm, ← Nat.pow_succ]; exact h)
      have := ih this
      omega
theorem uintL_length10 {n : Nat} (h : n < 18446744073709551616) : (uintL n).length ≤ 10 :=
  uintL_length (k := 9) (Nat.lt_trans h (by decide))
/-- What has been written: k bytes, m is left. -/
def UintAt (n m k : Nat) (l : List UInt8) : Prop := l.length = k ∧ l ++ uintL m = uintL n ∧ m * 128 ^ k ≤ n ∧ (k = 0 ∨ 0 < m)

theorem UintAt.start (n : Nat) : UintAt n n 0 [] := ⟨rfl, rfl, by simp, .inl rfl⟩
theorem UintAt.next {n m k : Nat} {l : List UInt8} (h : UintAt n m k l) (hm : ¬ m < 128) : UintAt n (m / 128) (k + 1) (l ++ [UInt8.ofNat (m % 128 + 128)]) := by
  obtain ⟨h1, h2, h3, _⟩ := h
  refine ⟨by simp [h1], by rw [← h2, uintL_ge hm]; simp, ?_, .inr (by omega)⟩
  have : m / 128 * 128 ^ (k + 1) ≤ m * 128 ^ k := by
    rw [Nat.pow_succ, Nat.mul_comm (128 ^ k), ← Nat.mul_assoc]
    exact Nat.mul_le_mul_right _ (Nat.div_mul_le_self m 128)
  omega
theorem UintAt.done {n m k : Nat} {l : List UInt8} (h : UintAt n m k l) (hm : m < 128) : l ++ [UInt8.ofNat m] = uintL n := by
  rw [← h.2.1, uintL_lt hm]
theorem UintAt.le {n m k : Nat} {l : List UInt8} (h : UintAt n m k l) (hn : n < 18446744073709551616) : k ≤ 9 := by
  obtain ⟨_, _, h3, h4⟩ := h
  rcases h4 with h4 | h4
  · omega
  apply Classical.byContradiction
  intro hk
  have : 128 ^ 10 ≤ 128 ^ k := Nat.pow_le_pow_right (by omega) (by omega)
  have h4 : 1 * 128 ^ k ≤ m * 128 ^ k := Nat.mul_le_mul_right _ h4
  have : (128 : Nat) ^ 10 = 1180591620717411303424 := by decide
  omega

/-! ### Numbers read -/

/-- How many bytes at the beginning say that more follow. -/
def lead : List UInt8 → Nat
  | [] => 0
  | c :: r => if 128 ≤ c.toNat then lead r + 1 else 0
/-- Digits to the base 128, the least first. -/
def valU : List UInt8 → Nat
  | [] => 0
  | c :: r => c.toNat % 128 + 128 * valU r
/-- The number that begins l: itself, how many bytes it takes, the error. -/
def rdU (l : List UInt8) : Nat × Nat × Nat :=
  if 10 ≤ lead l then (0, 0, 61) else
  match l[lead l]? with
  | none => (0, 0, 60)
  | some c => if (lead l = 9 ∧ 1 < c.toNat) ∨ (0 < lead l ∧ c.toNat = 0) then (0, 0, 61) else (valU (l.take (lead l + 1)), lead l + 1, 0)
def rdAt (l : List UInt8) (at_ : Int) : Nat × Int × Nat :=
  if at_ < 0 ∨ (l.length : Int) ≤ at_ then (0, 0, 60) else
  let r := rdU (l.drop at_.toNat)
  if r.2.2 = 0 then (r.1, at_ + r.2.1, 0) else (0, 0, r.2.2)

theorem lead_le (l : List UInt8) : lead l ≤ l.length := by
  induction l with
  | nil => simp [lead]
  | cons c r ih => simp only [lead, List.length_cons]; split <;> omega
/-- k bytes have been met that say that more follow. -/
theorem lead_ge {l : List UInt8} : ∀ {k : Nat}, k ≤ l.length → (∀ j, j < k → ∀ c, l[j]? = some c → 128 ≤ c.toNat) → k ≤ lead l := by
  induction l with
  | nil => intro k hk _; simpa [lead] using hk
  | cons c r ih =>
    intro k hk h
    cases k with
    | zero => omega
    | succ k =>
      have h0 := h 0 (by omega) c (by simp)
      simp only [lead, if_pos h0]
      have := ih (k := k) (by simpa using hk) (fun j hj d hd => h (j + 1) (by omega) d (by simpa using hd))
      omega
theorem lead_stop {l : List UInt8} : ∀ {k : Nat} {c : UInt8}, l[k]? = some c → c.toNat < 128 → lead l ≤ k := by
  induction l with
  | nil => intro k c h; simp at h
  | cons d r ih =>
    intro k c h hc
    simp only [lead]
    split
    · rename_i hd
      cases k with
      | zero => simp at h; subst h; omega
      | succ k => have := ih (k := k) (by simpa using h) hc; omega
    · omega
theorem valU_lt (l : List UInt8) : valU l < 128 ^ l.length := by
  induction l with
  | nil => simp [valU]
  | cons c r ih =>
    simp only [valU, List.length_cons, Nat.pow_succ]
    have := Nat.mod_lt c.toNat (show 128 > 0 by decide)
    omega
theorem valU_snoc (l : List UInt8) (c : UInt8) : valU (l ++ [c]) = valU l + c.toNat % 128 * 128 ^ l.length := by
  induction l with
  | nil => simp [valU]
  | cons d r ih =>
    simp only [List.cons_append, valU, ih, List.length_cons, Nat.pow_succ]
    rw [Nat.mul_add, ← Nat.mul_assoc, ← Nat.mul_assoc, Nat.mul_comm 128 (c.toNat % 128), Nat.mul_assoc, Nat.mul_assoc, Nat.mul_comm 128 (128 ^ _)]
    omega

theorem valU_drop (l : List UInt8) : ∀ i, valU (l.drop i) ≤ valU l := by
  induction l with
  | nil => intro i; simp
  | cons c r ih =>
    intro i
    cases i with
    | zero => simp
    | succ i => simp only [List.drop_succ_cons, valU]; have := ih i; omega
theorem valU_cons_at {l : List UInt8} {i : Nat} {c : UInt8} (h : l[i]? = some c) : valU (l.drop i) = c.toNat % 128 + 128 * valU (l.drop (i + 1)) := by
  obtain ⟨hk, rfl⟩ := List.getElem?_eq_some_iff.1 h
  rw [List.drop_eq_getElem_cons hk, valU]

theorem rdU_ok {l : List UInt8} (h : (rdU l).2.2 = 0) : 1 ≤ (rdU l).2.1 ∧ (rdU l).2.1 ≤ 10 ∧ (rdU l).2.1 ≤ l.length ∧ (rdU l).1 < 18446744073709551616 ∧ (rdU l).1 = valU (l.take (rdU l).2.1) := by
  have hl := lead_le l
  by_cases h1 : 10 ≤ lead l
  · simp only [rdU, if_pos h1] at h; omega
  · cases hc : l[lead l]? with
    | none => simp only [rdU, if_neg h1, hc] at h; omega
    | some c =>
      by_cases h2 : (lead l = 9 ∧ 1 < c.toNat) ∨ (0 < lead l ∧ c.toNat = 0)
      · simp only [rdU, if_neg h1, hc, if_pos h2] at h; omega
      · have e : rdU l = (valU (l.take (lead l + 1)), lead l + 1, 0) := by simp only [rdU, if_neg h1, hc, if_neg h2]
        rw [e]
        have hlt : lead l < l.length := (List.getElem?_eq_some_iff.1 hc).1
        refine ⟨by simp, by simp; omega, by simp; omega, ?_, rfl⟩
        have ht : l.take (lead l + 1) = l.take (lead l) ++ [c] := by
          obtain ⟨hk, rfl⟩ := List.getElem?_eq_some_iff.1 hc
          rw [List.take_succ_eq_append_getElem hk]
        have hv := valU_lt (l.take (lead l))
        have hlen : (l.take (lead l)).length = lead l := List.length_take_of_le hl
        rw [hlen] at hv
        show valU (l.take (lead l + 1)) < 18446744073709551616
        rw [ht, valU_snoc, hlen]
        have hc := Nat.mod_lt c.toNat (show 128 > 0 by decide)
        by_cases h9 : lead l = 9
        · have hc1 : c.toNat % 128 ≤ 1 := by omega
          rw [h9] at hv ⊢
          have h3 : c.toNat % 128 * 128 ^ 9 ≤ 1 * 128 ^ 9 := Nat.mul_le_mul_right _ hc1
          have : (128 : Nat) ^ 9 = 9223372036854775808 := by decide
          omega
        · have h3 : (128 : Nat) ^ lead l ≤ 128 ^ 8 := Nat.pow_le_pow_right (by decide) (by omega)
          have h4 : c.toNat % 128 * 128 ^ lead l ≤ 127 * 128 ^ 8 := Nat.mul_le_mul (by omega) h3
          have : (128 : Nat) ^ 8 = 72057594037927936 := by decide
          omega

theorem rdAt_ok {l : List UInt8} {a : Int} (h : (rdAt l a).2.2 = 0) : 0 ≤ a ∧ (rdAt l a).1 < 18446744073709551616 ∧ a + 1 ≤ (rdAt l a).2.1 ∧ (rdAt l a).2.1 ≤ a + 10 ∧ (rdAt l a).2.1 ≤ l.length := by
  unfold rdAt at h ⊢
  by_cases h0 : a < 0 ∨ (l.length : Int) ≤ a
  · rw [if_pos h0] at h; simp at h
  · rw [if_neg h0] at h ⊢
    dsimp only at h ⊢
    by_cases h1 : (rdU (l.drop a.toNat)).2.2 = 0
    · rw [if_pos h1]
      have := rdU_ok h1
      simp only [List.length_drop] at this
      dsimp only
      omega
    · rw [if_neg h1] at h; exact absurd h h1

/-! ### Records read -/

/-- The record at a place, and the place behind it; else the error. -/
def nextAt (l : List UInt8) (a : Int) : List UInt8 × Int × Nat :=
  if (rdAt l a).2.2 ≠ 0 then ([], 0, (rdAt l a).2.2) else
  if 255 < (rdAt l a).1 then ([], 0, 62) else
  if (l.length : Int) - (rdAt l a).2.1 < (rdAt l a).1 then ([], 0, 60) else
  ((l.drop (rdAt l a).2.1.toNat).take (rdAt l a).1, (rdAt l a).2.1 + (rdAt l a).1, 0)

theorem nextAt_ok {l : List UInt8} {a : Int} (h : (nextAt l a).2.2 = 0) : 0 ≤ a ∧ a + 1 ≤ (nextAt l a).2.1 ∧ (nextAt l a).2.1 ≤ l.length ∧ (nextAt l a).1.length ≤ 255 := by
  unfold nextAt at h ⊢
  by_cases h1 : (rdAt l a).2.2 ≠ 0
  · rw [if_pos h1] at h; exact absurd h h1
  · rw [if_neg h1] at h ⊢
    have h1 := rdAt_ok (Classical.not_not.1 h1)
    by_cases h2 : 255 < (rdAt l a).1
    · rw [if_pos h2] at h; simp at h
    · rw [if_neg h2] at h ⊢
      by_cases h3 : (l.length : Int) - (rdAt l a).2.1 < (rdAt l a).1
      · rw [if_pos h3] at h; simp at h
      · rw [if_neg h3]
        refine ⟨h1.1, by dsimp only; omega, by dsimp only; omega, ?_⟩
        simp only [List.length_take]
        omega

/-- The records ahead of the first fault, and that fault. -/
def headsL (l : List UInt8) : List (List UInt8) × Nat :=
  if l = [] then ([], 0) else
  if (nextAt l 0).2.2 ≠ 0 then ([], (nextAt l 0).2.2) else
  if _h : (l.drop (nextAt l 0).2.1.toNat).length < l.length then
    ((nextAt l 0).1 :: (headsL (l.drop (nextAt l 0).2.1.toNat)).1, (headsL (l.drop (nextAt l 0).2.1.toNat)).2)
  else ([], 0)
termination_by l.length
decreasing_by all_goals exact _h

theorem headsL_nil : headsL [] = ([], 0) := by rw [headsL, if_pos rfl]
theorem headsL_err {l : List UInt8} (h0 : l ≠ []) (h : (nextAt l 0).2.2 ≠ 0) : headsL l = ([], (nextAt l 0).2.2) := by
  rw [headsL, if_neg h0, if_pos h]
theorem headsL_ok {l : List UInt8} (h0 : l ≠ []) (h : (nextAt l 0).2.2 = 0) :
    headsL l = ((nextAt l 0).1 :: (headsL (l.drop (nextAt l 0).2.1.toNat)).1, (headsL (l.drop (nextAt l 0).2.1.toNat)).2) := by
  have h1 := nextAt_ok h
  rw [headsL, if_neg h0, if_neg (by simpa using h), dif_pos]
  simp only [List.length_drop]
  omega

theorem rdAt_drop {l : List UInt8} {a : Nat} (ha : a < l.length) : rdAt l a = if (rdAt (l.drop a) 0).2.2 = 0 then ((rdAt (l.drop a) 0).1, (a : Int) + (rdAt (l.drop a) 0).2.1, 0) else (0, 0, (rdAt (l.drop a) 0).2.2) := by
  have c1 : ¬ ((a : Int) < 0 ∨ (l.length : Int) ≤ a) := by omega
  have c2 : ¬ ((0 : Int) < 0 ∨ ((l.drop a).length : Int) ≤ 0) := by simp only [List.length_drop]; omega
  unfold rdAt
  rw [if_neg c1, if_neg c2]
  simp only [Int.toNat_natCast, Int.toNat_zero, List.drop_zero]
  by_cases h : (rdU (l.drop a)).2.2 = 0
  · simp only [if_pos h]; simp
  · simp only [if_neg h]

theorem nextAt_drop {l : List UInt8} {a : Nat} (ha : a < l.length) : nextAt l a = if (nextAt (l.drop a) 0).2.2 = 0 then ((nextAt (l.drop a) 0).1, (a : Int) + (nextAt (l.drop a) 0).2.1, 0) else ([], 0, (nextAt (l.drop a) 0).2.2) := by
  have e := rdAt_drop ha
  by_cases h : (rdAt (l.drop a) 0).2.2 = 0
  · rw [if_pos h] at e
    have hk := rdAt_ok h
    have hn : nextAt l a = if 255 < (rdAt (l.drop a) 0).1 then ([], 0, 62) else
        if (l.length : Int) - (a + (rdAt (l.drop a) 0).2.1) < (rdAt (l.drop a) 0).1 then ([], 0, 60) else
        ((l.drop ((a : Int) + (rdAt (l.drop a) 0).2.1).toNat).take (rdAt (l.drop a) 0).1, (a : Int) + (rdAt (l.drop a) 0).2.1 + (rdAt (l.drop a) 0).1, 0) := by
      unfold nextAt; rw [e]; simp
    have hm : nextAt (l.drop a) 0 = if 255 < (rdAt (l.drop a) 0).1 then ([], 0, 62) else
        if ((l.drop a).length : Int) - (rdAt (l.drop a) 0).2.1 < (rdAt (l.drop a) 0).1 then ([], 0, 60) else
        (((l.drop a).drop (rdAt (l.drop a) 0).2.1.toNat).take (rdAt (l.drop a) 0).1, (rdAt (l.drop a) 0).2.1 + (rdAt (l.drop a) 0).1, 0) := by
      unfold nextAt; rw [if_neg (by simpa using h)]
    rw [hn, hm]
    by_cases h2 : 255 < (rdAt (l.drop a) 0).1
    · simp [if_pos h2]
    · simp only [if_neg h2]
      by_cases h3 : (l.length : Int) - (a + (rdAt (l.drop a) 0).2.1) < (rdAt (l.drop a) 0).1
      · have h4 : ((l.drop a).length : Int) - (rdAt (l.drop a) 0).2.1 < (rdAt (l.drop a) 0).1 := by simp only [List.length_drop]; omega
        rw [if_pos h3, if_pos h4]; simp
      · have h4 : ¬ ((l.drop a).length : Int) - (rdAt (l.drop a) 0).2.1 < (rdAt (l.drop a) 0).1 := by simp only [List.length_drop]; omega
        rw [if_neg h3, if_neg h4]
        simp only [List.drop_drop, if_true]
        have e1 : ((a : Int) + (rdAt (l.drop a) 0).2.1).toNat = a + (rdAt (l.drop a) 0).2.1.toNat := by omega
        rw [e1, Int.add_assoc]
  · rw [if_neg h] at e
    have hn : nextAt l a = ([], 0, (rdAt (l.drop a) 0).2.2) := by unfold nextAt; rw [e]; simp [h]
    have hm : nextAt (l.drop a) 0 = ([], 0, (rdAt (l.drop a) 0).2.2) := by unfold nextAt; rw [if_pos h]
    rw [hn, hm]; simp [h]

/-- Read so far: acc, at the place a. -/
def HeadsAt (l : List UInt8) (a : Nat) (acc : List (List UInt8)) : Prop := a ≤ l.length ∧ acc.length ≤ a ∧ headsL l = (acc ++ (headsL (l.drop a)).1, (headsL (l.drop a)).2) ∧ (∀ r ∈ acc, r.length ≤ 255)
theorem HeadsAt.start (l : List UInt8) : HeadsAt l 0 [] := ⟨by simp, by simp, by simp, by simp⟩
theorem HeadsAt.next {l : List UInt8} {a : Nat} {acc : List (List UInt8)} (h : HeadsAt l a acc) (ha : a < l.length) (hn : (nextAt l a).2.2 = 0) : HeadsAt l (nextAt l a).2.1.toNat (acc ++ [(nextAt l a).1]) := by
  have h0 : l.drop a ≠ [] := by intro e; have := congrArg List.length e; simp at this; omega
  have hd := nextAt_drop ha
  have hz : (nextAt (l.drop a) 0).2.2 = 0 := by
    apply Classical.byContradiction
    intro hne
    rw [if_neg hne] at hd
    rw [hd] at hn
    exact hne hn
  have hok := nextAt_ok hn
  have hok2 := nextAt_ok hz
  rw [if_pos hz] at hd
  have e1 : (nextAt l a).1 = (nextAt (l.drop a) 0).1 := by rw [hd]
  have e2 : (nextAt l a).2.1 = (a : Int) + (nextAt (l.drop a) 0).2.1 := by rw [hd]
  have e3 : (nextAt l a).2.1.toNat = a + (nextAt (l.drop a) 0).2.1.toNat := by omega
  refine ⟨by omega, ?_, ?_, ?_⟩
  · have := h.2.1; simp only [List.length_append, List.length_cons, List.length_nil]; omega
  · rw [h.2.2.1, headsL_ok h0 hz, e3, List.drop_drop, e1]; simp
  · intro r hr
    rcases List.mem_append.1 hr with hr | hr
    · exact h.2.2.2 r hr
    · simp at hr; subst hr; exact hok.2.2.2
theorem HeadsAt.fault {l : List UInt8} {a : Nat} {acc : List (List UInt8)} (h : HeadsAt l a acc) (ha : a < l.length) (hn : (nextAt l a).2.2 ≠ 0) : headsL l = (acc, (nextAt l a).2.2) := by
  have h0 : l.drop a ≠ [] := by intro e; have := congrArg List.length e; simp at this; omega
  have hd := nextAt_drop ha
  have hz : (nextAt (l.drop a) 0).2.2 ≠ 0 := by
    intro hz
    rw [if_pos hz] at hd
    rw [hd] at hn
    exact hn rfl
  rw [if_neg hz] at hd
  rw [h.2.2.1, headsL_err h0 hz, hd]; simp
theorem HeadsAt.done {l : List UInt8} {a : Nat} {acc : List (List UInt8)} (h : HeadsAt l a acc) (ha : ¬ a < l.length) : headsL l = (acc, 0) := by
  rw [h.2.2.1, List.drop_eq_nil_of_le (by omega), headsL_nil]; simp

/-! ### Records framed -/

/-- The records, each behind its length. -/
def frameL : List (List UInt8) → List UInt8
  | [] => []
  | r :: rs => uintL r.length ++ r ++ frameL rs
def fits (ss : List (List UInt8)) : Bool := ss.all fun r => decide (r.length ≤ 255)
def frameR (ss : List (List UInt8)) : List UInt8 × Nat := if fits ss then (frameL ss, 0) else ([], 62)

theorem frameL_append (a b : List (List UInt8)) : frameL (a ++ b) = frameL a ++ frameL b := by
  induction a with
  | nil => rfl
  | cons r rs ih => simp [frameL, ih]
theorem frameL_snoc (a : List (List UInt8)) (r : List UInt8) : frameL (a ++ [r]) = frameL a ++ (uintL r.length ++ r) := by
  rw [frameL_append]; simp [frameL]
theorem frameL_take_le (ss : List (List UInt8)) (k : Nat) : (frameL (ss.take k)).length ≤ (frameL ss).length := by
  have h : ss = ss.take k ++ ss.drop k := (List.take_append_drop k ss).symm
  have h2 := congrArg (fun l => (frameL l).length) h
  simp only [frameL_append, List.length_append] at h2
  omega
theorem frameL_at {ss : List (List UInt8)} {k : Nat} {r : List UInt8} (h : ss[k]? = some r) : frameL (ss.take (k + 1)) = frameL (ss.take k) ++ (uintL r.length ++ r) := by
  obtain ⟨hk, rfl⟩ := List.getElem?_eq_some_iff.1 h
  rw [List.take_succ_eq_append_getElem hk, frameL_snoc]
theorem fits_of {ss : List (List UInt8)} (h : ∀ j, j < ss.length → ∀ r, ss[j]? = some r → r.length ≤ 255) : fits ss = true := by
  unfold fits
  rw [List.all_eq_true]
  intro r hr
  obtain ⟨j, hj, rfl⟩ := List.getElem_of_mem hr
  simpa using h j hj _ (List.getElem?_eq_getElem hj)
theorem fits_not {ss : List (List UInt8)} {k : Nat} {r : List UInt8} (h : ss[k]? = some r) (hr : 255 < r.length) : fits ss = false := by
  unfold fits
  rw [List.all_eq_false]
  exact ⟨r, List.mem_of_getElem? h, by simp; omega⟩

/-! ### There and back -/

/-- A number's one form. -/
def isForm : List UInt8 → Prop
  | [] => False
  | c :: r => if r = [] then c.toNat < 128 else 128 ≤ c.toNat ∧ isForm r ∧ valU r ≠ 0

end Go.Proofs.YtgeabmmicofanaaGreatDoor

namespace Go.Proofs.YtgeabmmicofanaaGreatDoor.hp

section
variable {β : Type} [Inhabited β]

def swapL (l : List β) (i j : Nat) : List β := (l.set i (l.getD j default)).set j (l.getD i default)

/-- Up from the place i. -/
def riseL (R : β → β → Bool) (l : List β) (i : Nat) : List β :=
  if 0 < i ∧ R (l.getD i default) (l.getD ((i - 1) / 2) default) = true then riseL R (swapL l i ((i - 1) / 2)) ((i - 1) / 2) else l
termination_by i
decreasing_by omega

/-- The least of i and its children. -/
def leastL (R : β → β → Bool) (l : List β) (i : Nat) : Nat :=
  let a := if 2 * i + 1 < l.length ∧ R (l.getD (2 * i + 1) default) (l.getD i default) = true then 2 * i + 1 else i
  if 2 * i + 2 < l.length ∧ R (l.getD (2 * i + 2) default) (l.getD a default) = true then 2 * i + 2 else a

theorem leastL_bound (R : β → β → Bool) (l : List β) (i : Nat) : leastL R l i = i ∨ (i < leastL R l i ∧ leastL R l i < l.length) := by
  unfold leastL
  by_cases h1 : 2 * i + 1 < l.length ∧ R (l.getD (2 * i + 1) default) (l.getD i default) = true
  · simp only [if_pos h1]
    by_cases h2 : 2 * i + 2 < l.length ∧ R (l.getD (2 * i + 2) default) (l.getD (2 * i + 1) default) = true
    · simp only [if_pos h2]; omega
    · simp only [if_neg h2]; omega
  · simp only [if_neg h1]
    by_cases h2 : 2 * i + 2 < l.length ∧ R (l.getD (2 * i + 2) default) (l.getD i default) = true
    · simp only [if_pos h2]; omega
    · simp only [if_neg h2]; simp

/-- Down from the place i. -/
def sinkL (R : β → β → Bool) (l : List β) (i : Nat) : List β :=
  if _h : leastL R l i ≠ i then sinkL R (swapL l i (leastL R l i)) (leastL R l i) else l
termination_by l.length - i
decreasing_by
  have e : (swapL l i (leastL R l i)).length = l.length := by simp [swapL]
  rw [e]
  have := leastL_bound R l i
  omega

theorem swapL_length (l : List β) (i j : Nat) : (swapL l i j).length = l.length := by simp [swapL]

theorem riseL_go {R : β → β → Bool} {l : List β} {i : Nat} (h : 0 < i) (hr : R (l.getD i default) (l.getD ((i - 1) / 2) default) = true) : riseL R l i = riseL R (swapL l i ((i - 1) / 2)) ((i - 1) / 2) := by
  rw [riseL, if_pos ⟨h, hr⟩]
theorem riseL_stop {R : β → β → Bool} {l : List β} {i : Nat} (h : ¬ (0 < i ∧ R (l.getD i default) (l.getD ((i - 1) / 2) default) = true)) : riseL R l i = l := by
  rw [riseL, if_neg h]
theorem sinkL_go {R : β → β → Bool} {l : List β} {i : Nat} (h : leastL R l i ≠ i) : sinkL R l i = sinkL R (swapL l i (leastL R l i)) (leastL R l i) := by
  rw [sinkL, dif_pos h]
theorem sinkL_stop {R : β → β → Bool} {l : List β} {i : Nat} (h : leastL R l i = i) : sinkL R l i = l := by
  rw [sinkL, dif_neg (by simpa using h)]

theorem getD_swapL {l : List β} {i j k : Nat} (hi : i < l.length) (hj : j < l.length) : (swapL l i j).getD k default = if k = j then l.getD i default else if k = i then l.getD j default else l.getD k default := by
  simp only [swapL, List.getD_eq_getElem?_getD, List.getElem?_set, List.length_set]
  by_cases h1 : j = k
  · subst h1; simp [hj]
  · rw [if_neg h1, if_neg (show ¬ k = j from fun h => h1 h.symm)]
    by_cases h2 : i = k
    · subst h2; simp [hi]
    · rw [if_neg h2, if_neg (show ¬ k = i from fun h => h2 h.symm)]

theorem set_perm {l : List β} {i : Nat} (hi : i < l.length) (x : β) : (l.getD i default :: l.set i x).Perm (x :: l) := by
  induction l generalizing i with
  | nil => simp at hi
  | cons a l ih =>
    cases i with
    | zero => simpa using List.Perm.swap x a l
    | succ i =>
      have := ih (i := i) (by simpa using hi)
      simp only [List.getD_cons_succ, List.set_cons_succ]
      exact ((List.Perm.swap _ _ _).trans (this.cons a)).trans (List.Perm.swap _ _ _)

theorem swapL_perm {l : List β} {i j : Nat} (hi : i < l.length) (hj : j < l.length) : (swapL l i j).Perm l := by
  by_cases hij : i = j
  · subst hij
    have e : swapL l i i = l := by
      apply List.ext_getElem?
      intro k
      simp only [swapL, List.getElem?_set, List.length_set]
      by_cases h : i = k
      · subst h; simp [hi]
      · simp [h]
    rw [e]
  · have h1 := set_perm (l := l.set i (l.getD j default)) (i := j) (by simpa using hj) (l.getD i default)
    have e : (l.set i (l.getD j default)).getD j default = l.getD j default := by
      simp only [List.getD_eq_getElem?_getD, List.getElem?_set]; rw [if_neg hij]
    rw [e] at h1
    have h2 := set_perm hi (l.getD j default)
    exact (List.Perm.cons_inv (h1.trans h2))

/-- What an order ahead of others must be: no two ahead of each other; not behind, carried on. -/
structure Ord (R : β → β → Bool) : Prop where
  asymm : ∀ x y, R x y = true → R y x = false
  neg : ∀ x y z, R y x = false → R z y = false → R z x = false

theorem riseL_length (R : β → β → Bool) (l : List β) (i : Nat) : (riseL R l i).length = l.length := by
  induction i using Nat.strongRecOn generalizing l with
  | ind i ih =>
    by_cases h : 0 < i ∧ R (l.getD i default) (l.getD ((i - 1) / 2) default) = true
    · rw [riseL_go h.1 h.2, ih _ (by omega), swapL_length]
    · rw [riseL_stop h]
theorem riseL_perm (R : β → β → Bool) (l : List β) (i : Nat) (hi : i < l.length) : (riseL R l i).Perm l := by
  induction i using Nat.strongRecOn generalizing l with
  | ind i ih =>
    by_cases h : 0 < i ∧ R (l.getD i default) (l.getD ((i - 1) / 2) default) = true
    · rw [riseL_go h.1 h.2]
      exact (ih _ (by omega) _ (by rw [swapL_length]; omega)).trans (swapL_perm hi (by omega))
    · rw [riseL_stop h]

/-- No place is ahead of the one above it. -/
def Heap (R : β → β → Bool) (l : List β) : Prop := ∀ j, 0 < j → j < l.length → R (l.getD j default) (l.getD ((j - 1) / 2) default) = false

/-- .. but for the place i, whose children are not ahead of what is above it. -/
def HeapUp (R : β → β → Bool) (l : List β) (i : Nat) : Prop :=
  (∀ j, 0 < j → j < l.length → j ≠ i → R (l.getD j default) (l.getD ((j - 1) / 2) default) = false) ∧
  (∀ j, 0 < j → j < l.length → (j - 1) / 2 = i → 0 < i → R (l.getD j default) (l.getD ((i - 1) / 2) default) = false)

theorem rise_heap {R : β → β → Bool} (hR : Ord R) {l : List β} {i : Nat} (hi : i < l.length) (h : HeapUp R l i) : Heap R (riseL R l i) := by
  induction i using Nat.strongRecOn generalizing l with
  | ind i ih =>
    by_cases hc : 0 < i ∧ R (l.getD i default) (l.getD ((i - 1) / 2) default) = true
    · rw [riseL_go hc.1 hc.2]
      have hp : (i - 1) / 2 < l.length := by omega
      have hpi : (i - 1) / 2 ≠ i := by omega
      refine ih _ (by omega) (by rw [swapL_length]; exact hp) ⟨?_, ?_⟩
      · intro j h0 hj hne
        rw [swapL_length] at hj
        rw [getD_swapL hi hp, getD_swapL hi hp, if_neg hne]
        by_cases hji : j = i
        · subst hji
          rw [if_pos rfl, if_pos rfl]
          exact hR.asymm _ _ hc.2
        · rw [if_neg hji]
          by_cases hq : (j - 1) / 2 = (i - 1) / 2
          · rw [if_pos hq]
            have h1 := h.1 j h0 hj hji
            rw [hq] at h1
            exact hR.neg _ _ _ (hR.asymm _ _ hc.2) h1
          · rw [if_neg hq]
            by_cases hq2 : (j - 1) / 2 = i
            · rw [if_pos hq2]
              exact h.2 j h0 hj hq2 hc.1
            · rw [if_neg hq2]
              exact h.1 j h0 hj hji
      · intro j h0 hj hq hp0
        rw [swapL_length] at hj
        have hppi : ((i - 1) / 2 - 1) / 2 ≠ i := by omega
        have hppp : ((i - 1) / 2 - 1) / 2 ≠ (i - 1) / 2 := by omega
        rw [getD_swapL hi hp, getD_swapL hi hp, if_neg hppp, if_neg hppi, if_neg (show ¬ j = (i - 1) / 2 by omega)]
        have h1 := h.1 ((i - 1) / 2) hp0 hp hpi
        by_cases hji : j = i
        · rw [if_pos hji]; exact h1
        · rw [if_neg hji]
          have h2 := h.1 j h0 hj hji
          rw [hq] at h2
          exact hR.neg _ _ _ h1 h2
    · rw [riseL_stop hc]
      intro j h0 hj
      by_cases hji : j = i
      · subst hji
        cases hb : R (l.getD j default) (l.getD ((j - 1) / 2) default) with
        | false => rfl
        | true => exact absurd ⟨h0, hb⟩ hc
      · exact h.1 j h0 hj hji

/-- .. but for the children of the place i. -/
def HeapDown (R : β → β → Bool) (l : List β) (i : Nat) : Prop :=
  (∀ j, 0 < j → j < l.length → (j - 1) / 2 ≠ i → R (l.getD j default) (l.getD ((j - 1) / 2) default) = false) ∧
  (∀ j, 0 < j → j < l.length → (j - 1) / 2 = i → 0 < i → R (l.getD j default) (l.getD ((i - 1) / 2) default) = false)

theorem leastL_spec {R : β → β → Bool} (hR : Ord R) (l : List β) (i : Nat) (hi : i < l.length) :
    (leastL R l i = i ∨ leastL R l i = 2 * i + 1 ∨ leastL R l i = 2 * i + 2) ∧ leastL R l i < l.length ∧
    (leastL R l i ≠ i → R (l.getD (leastL R l i) default) (l.getD i default) = true) ∧
    (∀ j, 0 < j → j < l.length → (j - 1) / 2 = i → R (l.getD j default) (l.getD (leastL R l i) default) = false) := by
  have irr : ∀ x, R x x = false := fun x => by
    cases h : R x x with
    | false => rfl
    | true => have := hR.asymm _ _ h; rw [h] at this; exact this
  have hj2 : ∀ j, 0 < j → (j - 1) / 2 = i → j = 2 * i + 1 ∨ j = 2 * i + 2 := fun j h0 h => by omega
  unfold leastL
  by_cases h1 : 2 * i + 1 < l.length ∧ R (l.getD (2 * i + 1) default) (l.getD i default) = true
  · simp only [if_pos h1]
    by_cases h2 : 2 * i + 2 < l.length ∧ R (l.getD (2 * i + 2) default) (l.getD (2 * i + 1) default) = true
    · simp only [if_pos h2]
      refine ⟨by simp, h2.1, fun _ => ?_, fun j h0 hj hq => ?_⟩
      · cases hb : R (l.getD (2 * i + 2) default) (l.getD i default) with
        | true => rfl
        | false => have := hR.neg _ _ _ (hR.asymm _ _ h1.2) hb; rw [h2.2] at this; exact this.symm
      · rcases hj2 j h0 hq with rfl | rfl
        · exact hR.asymm _ _ h2.2
        · exact irr _
    · simp only [if_neg h2]
      refine ⟨by simp, h1.1, fun _ => h1.2, fun j h0 hj hq => ?_⟩
      rcases hj2 j h0 hq with rfl | rfl
      · exact irr _
      · cases hb : R (l.getD (2 * i + 2) default) (l.getD (2 * i + 1) default) with
        | false => rfl
        | true => exact absurd ⟨hj, hb⟩ h2
  · simp only [if_neg h1]
    by_cases h2 : 2 * i + 2 < l.length ∧ R (l.getD (2 * i + 2) default) (l.getD i default) = true
    · simp only [if_pos h2]
      refine ⟨by simp, h2.1, fun _ => h2.2, fun j h0 hj hq => ?_⟩
      rcases hj2 j h0 hq with rfl | rfl
      · have hb : R (l.getD (2 * i + 1) default) (l.getD i default) = false := by
          cases hb : R (l.getD (2 * i + 1) default) (l.getD i default) with
          | false => rfl
          | true => exact absurd ⟨by omega, hb⟩ h1
        exact hR.neg _ _ _ (hR.asymm _ _ h2.2) hb
      · exact irr _
    · simp only [if_neg h2]
      refine ⟨by simp, hi, fun h => absurd rfl h, fun j h0 hj hq => ?_⟩
      rcases hj2 j h0 hq with rfl | rfl
      · cases hb : R (l.getD (2 * i + 1) default) (l.getD i default) with
        | false => rfl
        | true => exact absurd ⟨hj, hb⟩ h1
      · cases hb : R (l.getD (2 * i + 2) default) (l.getD i default) with
        | false => rfl
        | true => exact absurd ⟨hj, hb⟩ h2

theorem sinkL_length (R : β → β → Bool) (l : List β) (i : Nat) : (sinkL R l i).length = l.length := by
  induction hn : l.length - i using Nat.strongRecOn generalizing l i with
  | ind n ih =>
    by_cases h : leastL R l i = i
    · rw [sinkL_stop h]
    · have hb := (leastL_bound R l i).resolve_left h
      rw [sinkL_go h, ih _ (by rw [← hn, swapL_length]; omega) _ _ rfl, swapL_length]
theorem sinkL_perm (R : β → β → Bool) (l : List β) (i : Nat) (hi : i < l.length ∨ l = []) : (sinkL R l i).Perm l := by
  induction hn : l.length - i using Nat.strongRecOn generalizing l i with
  | ind n ih =>
    by_cases h : leastL R l i = i
    · rw [sinkL_stop h]
    · have hb := (leastL_bound R l i).resolve_left h
      have hi' : i < l.length := by omega
      rw [sinkL_go h]
      exact (ih _ (by rw [← hn, swapL_length]; omega) _ _ (.inl (by rw [swapL_length]; exact hb.2)) rfl).trans (swapL_perm hi' hb.2)

theorem sink_heap {R : β → β → Bool} (hR : Ord R) {l : List β} {i : Nat} (hi : i < l.length) (h : HeapDown R l i) : Heap R (sinkL R l i) := by
  induction hn : l.length - i using Nat.strongRecOn generalizing l i with
  | ind n ih =>
    obtain ⟨hch, hlt, hahead, hmin⟩ := leastL_spec hR l i hi
    by_cases hc : leastL R l i = i
    · rw [sinkL_stop hc]
      rw [hc] at hmin
      intro j h0 hj
      by_cases hq : (j - 1) / 2 = i
      · rw [hq]; exact hmin j h0 hj hq
      · exact h.1 j h0 hj hq
    · rw [sinkL_go hc]
      have hb := (leastL_bound R l i).resolve_left hc
      have hr := hahead hc
      have hcm : (leastL R l i - 1) / 2 = i := by omega
      generalize leastL R l i = m at *
      refine ih _ (by rw [← hn, swapL_length]; omega) (by rw [swapL_length]; exact hlt) ⟨?_, ?_⟩ rfl
      · intro j h0 hj hne
        rw [swapL_length] at hj
        rw [getD_swapL hi hlt, getD_swapL hi hlt, if_neg hne]
        by_cases hjm : j = m
        · subst hjm
          rw [if_pos rfl, if_pos hcm]
          exact hR.asymm _ _ hr
        · rw [if_neg hjm]
          by_cases hji : j = i
          · subst hji
            rw [if_pos rfl, if_neg (show ¬ (j - 1) / 2 = j by omega)]
            exact h.2 m (by omega) hlt hcm h0
          · rw [if_neg hji]
            by_cases hq : (j - 1) / 2 = i
            · rw [if_pos hq]; exact hmin j h0 hj hq
            · rw [if_neg hq]; exact h.1 j h0 hj hq
      · intro j h0 hj hq _
        rw [swapL_length] at hj
        rw [getD_swapL hi hlt, getD_swapL hi hlt, hcm, if_neg (show ¬ i = m by omega), if_pos rfl, if_neg (show ¬ j = m by omega), if_neg (show ¬ j = i by omega)]
        have := h.1 j h0 hj (by omega)
        rw [hq] at this
        exact this

/-- The root is ahead of all. -/
theorem heap_root {R : β → β → Bool} (hR : Ord R) {l : List β} (h : Heap R l) : ∀ j, j < l.length → R (l.getD j default) (l.getD 0 default) = false := by
  intro j
  induction j using Nat.strongRecOn with
  | ind j ih =>
    intro hj
    by_cases h0 : j = 0
    · subst h0
      cases hb : R (l.getD 0 default) (l.getD 0 default) with
      | false => rfl
      | true => have := hR.asymm _ _ hb; rw [hb] at this; exact this
    · exact hR.neg _ _ _ (ih ((j - 1) / 2) (by omega) (by omega)) (h j (by omega) hj)
theorem heap_root_mem {R : β → β → Bool} (hR : Ord R) {l : List β} (h : Heap R l) {x : β} (hx : x ∈ l) : R x (l.getD 0 default) = false := by
  obtain ⟨j, hj, rfl⟩ := List.getElem_of_mem hx
  have := heap_root hR h j hj
  simpa [List.getD_eq_getElem?_getD, hj] using this

/-- One more, at the end: then up. -/
theorem push_heap {R : β → β → Bool} (hR : Ord R) {l : List β} (h : Heap R l) (x : β) : Heap R (riseL R (l ++ [x]) l.length) := by
  have ha : ∀ j, j < l.length → (l ++ [x]).getD j default = l.getD j default := fun j hj => by
    simp only [List.getD_eq_getElem?_getD]; rw [List.getElem?_append_left hj]
  refine rise_heap hR (by simp) ⟨fun j h0 hj hne => ?_, fun j h0 hj hq hp => ?_⟩
  · have hj' : j < l.length := by simp at hj; omega
    rw [ha j hj', ha _ (by omega)]
    exact h j h0 hj'
  · simp at hj; omega
/-- The root, and what is left when the last is put in its place and let down. -/
def popL (R : β → β → Bool) (l : List β) : List β := sinkL R ((swapL l 0 (l.length - 1)).take (l.length - 1)) 0
theorem pop_perm {R : β → β → Bool} {l : List β} (hl : l ≠ []) : (l.getD 0 default :: popL R l).Perm l := by
  have hlen : 0 < l.length := List.length_pos_iff.2 hl
  have h1 : (popL R l).Perm ((swapL l 0 (l.length - 1)).take (l.length - 1)) := by
    apply sinkL_perm
    by_cases h : l.length - 1 = 0
    · right; rw [h]; rfl
    · left; rw [List.length_take, swapL_length]; omega
  have h2 : swapL l 0 (l.length - 1) = (swapL l 0 (l.length - 1)).take (l.length - 1) ++ [l.getD 0 default] := by
    have h3 := getD_swapL (l := l) (i := 0) (j := l.length - 1) (k := l.length - 1) hlen (by omega)
    rw [if_pos rfl] at h3
    have h4 : (swapL l 0 (l.length - 1)).length = (l.length - 1) + 1 := by rw [swapL_length]; omega
    conv => lhs; rw [← List.take_length (l := swapL l 0 (l.length - 1)), h4]
    rw [List.take_succ_eq_append_getElem (by omega)]
    congr 1
    rw [← h3, List.getD_eq_getElem?_getD, List.getElem?_eq_getElem (by omega)]
    rfl
  have h5 := swapL_perm (l := l) (i := 0) (j := l.length - 1) hlen (by omega)
  rw [h2] at h5
  exact ((h1.cons _).trans (List.perm_append_singleton _ _).symm).trans h5
theorem pop_heap {R : β → β → Bool} (hR : Ord R) {l : List β} (h : Heap R l) (hl : l ≠ []) : Heap R (popL R l) := by
  have hlen : 0 < l.length := List.length_pos_iff.2 hl
  by_cases h1 : l.length = 1
  · have : (popL R l) = [] := by
      unfold popL
      rw [h1]
      have hz : leastL R ((swapL l 0 (1 - 1)).take (1 - 1)) 0 = 0 := by simp [leastL]
      rw [sinkL_stop hz]; rfl
    rw [this]
    intro j _ hj; simp at hj
  · have hg : ∀ j, j < l.length - 1 → ((swapL l 0 (l.length - 1)).take (l.length - 1)).getD j default = if j = 0 then l.getD (l.length - 1) default else l.getD j default := by
      intro j hj
      have := getD_swapL (l := l) (i := 0) (j := l.length - 1) (k := j) hlen (by omega)
      rw [if_neg (by omega)] at this
      rw [← this, List.getD_eq_getElem?_getD, List.getElem?_take_of_lt hj, List.getD_eq_getElem?_getD]
    have hlt : ((swapL l 0 (l.length - 1)).take (l.length - 1)).length = l.length - 1 := by rw [List.length_take, swapL_length]; omega
    refine sink_heap hR (by rw [hlt]; omega) ⟨fun j h0 hj hq => ?_, fun j _ _ _ h0 => absurd h0 (by omega)⟩
    rw [hlt] at hj
    rw [hg j hj, hg _ (by omega), if_neg (by omega), if_neg hq]
    exact h j h0 (by omega)
/-- Another in the root's place, let down. -/
theorem replace_heap {R : β → β → Bool} (hR : Ord R) {l : List β} (h : Heap R l) (hl : l ≠ []) (x : β) : Heap R (sinkL R (l.set 0 x) 0) := by
  have hlen : 0 < l.length := List.length_pos_iff.2 hl
  have hg : ∀ j, 0 < j → (l.set 0 x).getD j default = l.getD j default := fun j hj => by
    simp only [List.getD_eq_getElem?_getD, List.getElem?_set]; rw [if_neg (by omega)]
  refine sink_heap hR (by simpa using hlen) ⟨fun j h0 hj hq => ?_, fun j _ _ _ h0 => absurd h0 (by omega)⟩
  rw [hg j h0, hg _ (by omega)]
  exact h j h0 (by simpa using hj)
theorem replace_perm {R : β → β → Bool} {l : List β} (hl : l ≠ []) (x : β) : (l.getD 0 default :: sinkL R (l.set 0 x) 0).Perm (x :: l) := by
  have hlen : 0 < l.length := List.length_pos_iff.2 hl
  exact ((sinkL_perm R (l.set 0 x) 0 (.inl (by simpa using hlen))).cons _).trans (set_perm hlen x)
theorem push_perm {R : β → β → Bool} (l : List β) (x : β) : (riseL R (l ++ [x]) l.length).Perm (x :: l) :=
  (riseL_perm R _ _ (by simp)).trans (List.perm_append_singleton _ _)

end
end Go.Proofs.YtgeabmmicofanaaGreatDoor.hp
namespace Go.Proofs.YtgeabmmicofanaaGreatDoor.hp

/-- Entries: a thing with the number of its coming in. -/
def ahead {α : Type} (lt : α → α → Bool) (x y : α × Nat) : Bool := if lt x.1 y.1 then true else if lt y.1 x.1 then false else decide (x.2 < y.2)

theorem ahead_ord {α : Type} {lt : α → α → Bool} (h : Ord lt) : Ord (ahead lt) where
  asymm x y hxy := by
    unfold ahead at hxy ⊢
    by_cases h1 : lt x.1 y.1 = true
    · rw [if_neg (by simp [h.asymm _ _ h1]), if_pos h1]
    · rw [if_neg h1] at hxy
      by_cases h2 : lt y.1 x.1 = true
      · rw [if_pos h2] at hxy; cases hxy
      · rw [if_neg h2] at hxy
        rw [if_neg h2, if_neg h1]
        simp at hxy ⊢; omega
  neg x y z hyx hzy := by
    unfold ahead at hyx hzy ⊢
    by_cases a1 : lt y.1 x.1 = true
    · rw [if_pos a1] at hyx; cases hyx
    · by_cases b1 : lt z.1 y.1 = true
      · rw [if_pos b1] at hzy; cases hzy
      · have c1 := h.neg _ _ _ (by simpa using a1) (by simpa using b1)
        rw [if_neg a1] at hyx
        rw [if_neg b1] at hzy
        rw [if_neg (by simp [c1])]
        by_cases a2 : lt x.1 y.1 = true
        · -- x < y <= z: x < z
          have c2 : lt x.1 z.1 = true := by
            cases hb : lt x.1 z.1 with
            | true => rfl
            | false => have := h.neg _ _ _ (by simpa using b1) hb; rw [a2] at this; exact this.symm
          rw [if_pos c2]
        · rw [if_neg a2] at hyx
          by_cases b2 : lt y.1 z.1 = true
          · have c2 : lt x.1 z.1 = true := by
              cases hb : lt x.1 z.1 with
              | true => rfl
              | false => have := h.neg _ _ _ hb (by simpa using a1); rw [b2] at this; exact this.symm
            rw [if_pos c2]
          · rw [if_neg b2] at hzy
            by_cases c2 : lt x.1 z.1 = true
            · rw [if_pos c2]
            · rw [if_neg c2]
              simp at hyx hzy ⊢; omega

section
variable {α : Type} [Inhabited α]

/-- The first of the least. -/
def IsLeast (lt : α → α → Bool) (L : List α) (k : Nat) : Prop :=
  k < L.length ∧ (∀ j, j < L.length → lt (L.getD j default) (L.getD k default) = false) ∧ (∀ j, j < k → lt (L.getD k default) (L.getD j default) = true)

theorem IsLeast.unique {lt : α → α → Bool} {L : List α} {k m : Nat} (hk : IsLeast lt L k) (hm : IsLeast lt L m) : k = m := by
  rcases Nat.lt_trichotomy k m with h | h | h
  · have := hm.2.2 k h
    rw [hk.2.1 m hm.1] at this; cases this
  · exact h
  · have := hk.2.2 m h
    rw [hm.2.1 k hk.1] at this; cases this

/-- The heap l holds just the things of L, numbered in the order of their coming in, the numbers at most 'turns'. -/
def Holds (lt : α → α → Bool) (l : List (α × Nat)) (turns : Nat) (L : List α) : Prop :=
  Heap (ahead lt) l ∧ ∃ ts : List Nat, ts.length = L.length ∧ ts.Pairwise (· < ·) ∧ (∀ t ∈ ts, t ≤ turns) ∧ l.Perm (L.zip ts)

theorem Holds.nil (lt : α → α → Bool) (n : Nat) : Holds lt [] n [] := ⟨fun j _ hj => by simp at hj, [], rfl, List.Pairwise.nil, by simp, by simp⟩

theorem Holds.length {lt : α → α → Bool} {l : List (α × Nat)} {n : Nat} {L : List α} (h : Holds lt l n L) : l.length = L.length := by
  obtain ⟨_, ts, h1, _, _, h2⟩ := h
  rw [h2.length_eq, List.length_zip, h1]; omega

theorem Holds.push {lt : α → α → Bool} (hlt : Ord lt) {l : List (α × Nat)} {n : Nat} {L : List α} (h : Holds lt l n L) (x : α) : Holds lt (riseL (ahead lt) (l ++ [(x, n + 1)]) l.length) (n + 1) (L ++ [x]) := by
  obtain ⟨hh, ts, h1, h2, h3, h4⟩ := h
  refine ⟨push_heap (ahead_ord hlt) hh _, ts ++ [n + 1], by simp [h1], ?_, ?_, ?_⟩
  · rw [List.pairwise_append]
    refine ⟨h2, List.pairwise_singleton _ _, fun a ha b hb => ?_⟩
    simp at hb; subst hb
    have := h3 a ha; omega
  · intro t ht
    rcases List.mem_append.1 ht with ht | ht
    · have := h3 t ht; omega
    · simp at ht; omega
  · rw [List.zip_append h1.symm]
    exact (push_perm l _).trans ((h4.cons _).trans (List.perm_append_singleton _ _).symm)

theorem zip_eraseIdx {γ δ : Type} : ∀ (L : List γ) (ts : List δ) (k : Nat), (L.zip ts).eraseIdx k = (L.eraseIdx k).zip (ts.eraseIdx k)
  | [], ts, k => by cases ts <;> simp
  | a :: L, [], k => by simp
  | a :: L, t :: ts, 0 => by simp
  | a :: L, t :: ts, k + 1 => by simp [zip_eraseIdx L ts k]

theorem perm_eraseIdx {γ : Type} : ∀ (l : List γ) (k : Nat) (h : k < l.length), l.Perm (l[k] :: l.eraseIdx k)
  | a :: l, 0, _ => by simp
  | a :: l, k + 1, h => by
    have := perm_eraseIdx l k (by simpa using h)
    simp only [List.getElem_cons_succ, List.eraseIdx_cons_succ]
    exact (this.cons a).trans (List.Perm.swap _ _ _)

/-- What stands at the root is the first of the least. -/
theorem Holds.root {lt : α → α → Bool} (hlt : Ord lt) {l : List (α × Nat)} {n : Nat} {L : List α} (h : Holds lt l n L) (hne : l ≠ []) :
    ∃ k, IsLeast lt L k ∧ (l.getD 0 default).1 = L.getD k default ∧ ∀ l', (l.getD 0 default :: l').Perm l → Heap (ahead lt) l' → Holds lt l' n (L.eraseIdx k) := by
  obtain ⟨hh, ts, h1, h2, h3, h4⟩ := h
  have hlen : 0 < l.length := List.length_pos_iff.2 hne
  have hroot : l.getD 0 default ∈ L.zip ts := by
    rw [← h4.mem_iff, List.getD_eq_getElem?_getD, List.getElem?_eq_getElem hlen]
    exact List.getElem_mem hlen
  obtain ⟨k, hk, hkr⟩ := List.getElem_of_mem hroot
  have hkL : k < L.length := by rw [List.length_zip] at hk; omega
  have hkt : k < ts.length := by omega
  rw [List.getElem_zip] at hkr
  have hmin : ∀ j (hj : j < L.length), ahead lt (L[j], ts[j]'(by omega)) (L[k], ts[k]) = false := by
    intro j hj
    have hm : (L[j], ts[j]'(by omega)) ∈ l := by
      rw [h4.mem_iff]
      exact List.mem_iff_getElem.2 ⟨j, by rw [List.length_zip]; omega, by rw [List.getElem_zip]⟩
    have := heap_root_mem (ahead_ord hlt) hh hm
    rwa [← hkr] at this
  have hgd : ∀ j (hj : j < L.length), L.getD j default = L[j] := fun j hj => by
    rw [List.getD_eq_getElem?_getD, List.getElem?_eq_getElem hj]; rfl
  refine ⟨k, ⟨hkL, fun j hj => ?_, fun j hj => ?_⟩, by rw [← hkr, hgd k hkL], fun l' hp hheap => ?_⟩
  · rw [hgd j hj, hgd k hkL]
    have := hmin j hj
    unfold ahead at this
    cases hb : lt L[j] L[k] with
    | false => rfl
    | true => rw [if_pos hb] at this; cases this
  · have hjL : j < L.length := by omega
    rw [hgd j hjL, hgd k hkL]
    have := hmin j hjL
    unfold ahead at this
    cases hc : lt L[k] L[j] with
    | true => rfl
    | false =>
      cases hb : lt L[j] L[k] with
      | true => rw [if_pos hb] at this; cases this
      | false =>
        have hlt2 : ts[j]'(by omega) < ts[k] := List.pairwise_iff_getElem.1 h2 j k (by omega) hkt hj
        simp only [hb, hc, Bool.false_eq_true, if_false, decide_eq_false_iff_not] at this
        exact absurd hlt2 this
  · refine ⟨hheap, ts.eraseIdx k, by rw [List.length_eraseIdx, List.length_eraseIdx, h1], h2.sublist (List.eraseIdx_sublist _ _), fun t ht => h3 t (List.mem_of_mem_eraseIdx ht), ?_⟩
    have h5 := perm_eraseIdx (L.zip ts) k hk
    rw [List.getElem_zip, hkr, zip_eraseIdx] at h5
    exact List.Perm.cons_inv (hp.trans (h4.trans h5))

theorem Holds.pop {lt : α → α → Bool} (hlt : Ord lt) {l : List (α × Nat)} {n : Nat} {L : List α} (h : Holds lt l n L) (hne : l ≠ []) :
    ∃ k, IsLeast lt L k ∧ (l.getD 0 default).1 = L.getD k default ∧ Holds lt (popL (ahead lt) l) n (L.eraseIdx k) := by
  obtain ⟨k, h1, h2, h3⟩ := h.root hlt hne
  exact ⟨k, h1, h2, h3 _ (pop_perm hne) (pop_heap (ahead_ord hlt) h.1 hne)⟩

theorem Holds.replace {lt : α → α → Bool} (hlt : Ord lt) {l : List (α × Nat)} {n : Nat} {L : List α} (h : Holds lt l n L) (hne : l ≠ []) (x : α) :
    ∃ k, IsLeast lt L k ∧ (l.getD 0 default).1 = L.getD k default ∧ Holds lt (sinkL (ahead lt) (l.set 0 (x, n + 1)) 0) (n + 1) (L.eraseIdx k ++ [x]) := by
  obtain ⟨k, h1, h2, h3⟩ := h.root hlt hne
  refine ⟨k, h1, h2, ?_⟩
  obtain ⟨_, ts, g1, g2, g3, g4⟩ := h3 _ (pop_perm hne) (pop_heap (ahead_ord hlt) h.1 hne)
  refine ⟨replace_heap (ahead_ord hlt) h.1 hne _, ts ++ [n + 1], by simp [g1], ?_, ?_, ?_⟩
  · rw [List.pairwise_append]
    refine ⟨g2, List.pairwise_singleton _ _, fun a ha b hb => ?_⟩
    simp at hb; subst hb
    have := g3 a ha; omega
  · intro t ht
    rcases List.mem_append.1 ht with ht | ht
    · have := g3 t ht; omega
    · simp at ht; omega
  · rw [List.zip_append g1.symm]
    have p1 := replace_perm (R := ahead lt) hne (x, n + 1)
    have p2 := pop_perm (R := ahead lt) hne
    have p3 : (l.getD 0 default :: sinkL (ahead lt) (l.set 0 (x, n + 1)) 0).Perm (l.getD 0 default :: ((x, n + 1) :: popL (ahead lt) l)) :=
      p1.trans ((p2.symm.cons _).trans (List.Perm.swap _ _ _))
    exact (List.Perm.cons_inv p3).trans ((g4.cons _).trans (List.perm_append_singleton _ _).symm)

end
end Go.Proofs.YtgeabmmicofanaaGreatDoor.hp

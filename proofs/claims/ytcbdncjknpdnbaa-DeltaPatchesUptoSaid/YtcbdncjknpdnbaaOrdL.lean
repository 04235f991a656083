/- Texts in their order, lists of them that rise, merged, sorted, cut; no program. -/
import Derived.Test.YtcbdncjknpdnbaaKit
namespace Go.Proofs.Ytcbdncjknpdnbaa

theorem bl_cons (a : UInt8) (x y : List UInt8) : Op.bytesLess (a :: x) (a :: y) = Op.bytesLess x y := by
  simp [Op.bytesLess]
theorem bl_lt {a b : UInt8} (h : a.toNat < b.toNat) (x y : List UInt8) : Op.bytesLess (a :: x) (b :: y) = true := by
  have : a < b := h
  simp [Op.bytesLess, this]
theorem bl_gt {a b : UInt8} (h : b.toNat < a.toNat) (x y : List UInt8) : Op.bytesLess (a :: x) (b :: y) = false := by
  have h1 : ¬ a < b := fun h' => by have : a.toNat < b.toNat := h'; omega
  have h2 : (a == b) = false := by rw [beq_eq_false_iff_ne]; intro e; subst e; omega
  simp [Op.bytesLess, h1, h2]
theorem bl_nil (x : List UInt8) : Op.bytesLess x [] = false := by cases x <;> rfl
theorem bl_trans : ∀ {x y z : List UInt8}, Op.bytesLess x y = true → Op.bytesLess y z = true → Op.bytesLess x z = true
  | x, [], _, h, _ => by rw [bl_nil] at h; cases h
  | _, _ :: _, [], _, k => by rw [bl_nil] at k; cases k
  | [], _ :: _, _ :: _, _, _ => rfl
  | a :: x, b :: y, c :: z, h, k => by
    rcases Nat.lt_trichotomy a.toNat b.toNat with h1 | h1 | h1
    · rcases Nat.lt_trichotomy b.toNat c.toNat with h2 | h2 | h2
      · exact bl_lt (by omega) _ _
      · exact bl_lt (by omega) _ _
      · rw [bl_gt h2] at k; cases k
    · obtain rfl : a = b := UInt8.toNat_inj.1 h1
      rcases Nat.lt_trichotomy a.toNat c.toNat with h2 | h2 | h2
      · exact bl_lt h2 _ _
      · obtain rfl : a = c := UInt8.toNat_inj.1 h2
        rw [bl_cons] at h k ⊢
        exact bl_trans h k
      · rw [bl_gt h2] at k; cases k
    · rw [bl_gt h1] at h; cases h
theorem bl_irrefl : ∀ (x : List UInt8), Op.bytesLess x x = false
  | [] => rfl
  | a :: x => by rw [bl_cons]; exact bl_irrefl x
theorem bl_total : ∀ {x y : List UInt8}, Op.bytesLess x y = false → x ≠ y → Op.bytesLess y x = true
  | [], [], _, h => absurd rfl h
  | [], b :: y, h, _ => by simp [Op.bytesLess] at h
  | a :: x, [], _, _ => rfl
  | a :: x, b :: y, h, hn => by
    rcases Nat.lt_trichotomy a.toNat b.toNat with h1 | h1 | h1
    · rw [bl_lt h1] at h; cases h
    · obtain rfl : a = b := UInt8.toNat_inj.1 h1
      rw [bl_cons] at h ⊢
      exact bl_total h fun e => hn (by rw [e])
    · exact bl_lt h1 _ _
abbrev LtW (a b : List UInt8) : Prop := Op.bytesLess a b = true
theorem LtW.ne {a b : List UInt8} (h : LtW a b) : a ≠ b := fun e => by subst e; rw [LtW, bl_irrefl] at h; cases h
theorem LtW.not {a b : List UInt8} (h : LtW a b) : Op.bytesLess b a = false := by
  cases hb : Op.bytesLess b a with
  | false => rfl
  | true => exact absurd rfl (LtW.ne (bl_trans h hb))
/-- Not above, and above: below. -/
theorem LtW.of_le {a b c : List UInt8} (h : Op.bytesLess b a = false) (k : LtW b c) : LtW a c := by
  by_cases e : b = a
  · subst e; exact k
  · exact bl_trans (bl_total h e) k
theorem LtW.le_of {a b c : List UInt8} (h : LtW a b) (k : Op.bytesLess c b = false) : LtW a c := by
  by_cases e : c = b
  · subst e; exact h
  · exact bl_trans h (bl_total k e)
/-- Each text above all that are ahead of it. -/
def RisesL (L : List (List UInt8)) : Prop := L.Pairwise LtW
theorem RisesL.nodup {L : List (List UInt8)} (h : RisesL L) : L.Nodup := List.Pairwise.imp (fun h => LtW.ne h) h
/-- Two lists that rise with the same texts are one. -/
theorem RisesL.ext : ∀ {a b : List (List UInt8)}, RisesL a → RisesL b → (∀ x, x ∈ a ↔ x ∈ b) → a = b
  | [], [], _, _, _ => rfl
  | [], y :: b, _, _, h => by have := (h y).2 (by simp); simp at this
  | x :: a, [], _, _, h => by have := (h x).1 (by simp); simp at this
  | x :: a, y :: b, ha, hb, h => by
    obtain ⟨ha1, ha2⟩ := List.pairwise_cons.1 ha
    obtain ⟨hb1, hb2⟩ := List.pairwise_cons.1 hb
    have hxy : x = y := by
      rcases List.mem_cons.1 ((h x).1 (by simp)) with h1 | h1
      · exact h1
      · rcases List.mem_cons.1 ((h y).2 (by simp)) with h2 | h2
        · exact h2.symm
        · exact absurd rfl (LtW.ne (bl_trans (hb1 x h1) (ha1 y h2)))
    subst hxy
    rw [RisesL.ext ha2 hb2 fun z => ?_]
    constructor
    · intro hz
      rcases List.mem_cons.1 ((h z).1 (by simp [hz])) with h1 | h1
      · subst h1; exact absurd rfl (LtW.ne (ha1 z hz))
      · exact h1
    · intro hz
      rcases List.mem_cons.1 ((h z).2 (by simp [hz])) with h1 | h1
      · subst h1; exact absurd rfl (LtW.ne (hb1 z hz))
      · exact h1

/-! ### Merged -/

/-- Two rising lists as one, each text once. -/
def mergeL : List (List UInt8) → List (List UInt8) → List (List UInt8)
  | [], b => b
  | x :: a, [] => x :: a
  | x :: a, y :: b => if Op.bytesLess x y = true then x :: mergeL a (y :: b) else if x = y then y :: mergeL a b else y :: mergeL (x :: a) b
termination_by a b => a.length + b.length
theorem mergeL_nil (b : List (List UInt8)) : mergeL [] b = b := by rw [mergeL]
theorem mergeL_end : ∀ (a : List (List UInt8)), mergeL a [] = a
  | [] => by rw [mergeL]
  | x :: a => by rw [mergeL]
theorem mergeL_lt {x y : List UInt8} (h : Op.bytesLess x y = true) (a b : List (List UInt8)) : mergeL (x :: a) (y :: b) = x :: mergeL a (y :: b) := by rw [mergeL, if_pos h]
theorem mergeL_eq {x y : List UInt8} (h : x = y) (a b : List (List UInt8)) : mergeL (x :: a) (y :: b) = y :: mergeL a b := by
  rw [mergeL, if_neg (by rw [h, bl_irrefl]; simp), if_pos h]
theorem mergeL_gt {x y : List UInt8} (h : Op.bytesLess x y = false) (hn : x ≠ y) (a b : List (List UInt8)) : mergeL (x :: a) (y :: b) = y :: mergeL (x :: a) b := by
  rw [mergeL, if_neg (by rw [h]; simp), if_neg hn]
theorem mergeL_mem : ∀ (a b : List (List UInt8)) (z : List UInt8), z ∈ mergeL a b ↔ z ∈ a ∨ z ∈ b
  | [], b, z => by rw [mergeL_nil]; simp
  | x :: a, [], z => by rw [mergeL_end]; simp
  | x :: a, y :: b, z => by
    by_cases h : Op.bytesLess x y = true
    · rw [mergeL_lt h, List.mem_cons, mergeL_mem a (y :: b) z]; simp only [List.mem_cons]; exact (or_assoc).symm
    · have h0 : Op.bytesLess x y = false := by simpa using h
      by_cases e : x = y
      · rw [mergeL_eq e, List.mem_cons, mergeL_mem a b z]
        subst e
        simp only [List.mem_cons]
        constructor
        · rintro (h | h | h)
          · exact .inl (.inl h)
          · exact .inl (.inr h)
          · exact .inr (.inr h)
        · rintro ((h | h) | h | h)
          · exact .inl h
          · exact .inr (.inl h)
          · exact .inl h
          · exact .inr (.inr h)
      · rw [mergeL_gt h0 e, List.mem_cons, mergeL_mem (x :: a) b z]
        simp only [List.mem_cons]
        constructor
        · rintro (h | (h | h) | h)
          · exact .inr (.inl h)
          · exact .inl (.inl h)
          · exact .inl (.inr h)
          · exact .inr (.inr h)
        · rintro ((h | h) | h | h)
          · exact .inr (.inl (.inl h))
          · exact .inr (.inl (.inr h))
          · exact .inl h
          · exact .inr (.inr h)
termination_by a b => a.length + b.length
theorem mergeL_rises : ∀ {a b : List (List UInt8)}, RisesL a → RisesL b → RisesL (mergeL a b)
  | [], b, _, h => by rw [mergeL_nil]; exact h
  | x :: a, [], h, _ => by rw [mergeL_end]; exact h
  | x :: a, y :: b, ha, hb => by
    obtain ⟨ha1, ha2⟩ := List.pairwise_cons.1 ha
    obtain ⟨hb1, hb2⟩ := List.pairwise_cons.1 hb
    by_cases h : Op.bytesLess x y = true
    · rw [mergeL_lt h]
      refine List.pairwise_cons.2 ⟨fun z hz => ?_, mergeL_rises ha2 hb⟩
      rcases (mergeL_mem _ _ z).1 hz with h1 | h1
      · exact ha1 z h1
      · rcases List.mem_cons.1 h1 with h1 | h1
        · subst h1; exact h
        · exact bl_trans h (hb1 z h1)
    · have h0 : Op.bytesLess x y = false := by simpa using h
      by_cases e : x = y
      · rw [mergeL_eq e]
        refine List.pairwise_cons.2 ⟨fun z hz => ?_, mergeL_rises ha2 hb2⟩
        rcases (mergeL_mem _ _ z).1 hz with h1 | h1
        · subst e; exact ha1 z h1
        · exact hb1 z h1
      · rw [mergeL_gt h0 e]
        have hyx : LtW y x := bl_total h0 e
        refine List.pairwise_cons.2 ⟨fun z hz => ?_, mergeL_rises ha hb2⟩
        rcases (mergeL_mem _ _ z).1 hz with h1 | h1
        · rcases List.mem_cons.1 h1 with h1 | h1
          · subst h1; exact hyx
          · exact bl_trans hyx (ha1 z h1)
        · exact hb1 z h1
termination_by a b => a.length + b.length
theorem mergeL_len : ∀ (a b : List (List UInt8)), (mergeL a b).length ≤ a.length + b.length
  | [], b => by rw [mergeL_nil]; simp
  | x :: a, [] => by rw [mergeL_end]; simp
  | x :: a, y :: b => by
    by_cases h : Op.bytesLess x y = true
    · rw [mergeL_lt h]
      have := mergeL_len a (y :: b)
      simp only [List.length_cons] at this ⊢
      omega
    · have h0 : Op.bytesLess x y = false := by simpa using h
      by_cases e : x = y
      · rw [mergeL_eq e]
        have := mergeL_len a b
        simp only [List.length_cons]
        omega
      · rw [mergeL_gt h0 e]
        have := mergeL_len (x :: a) b
        simp only [List.length_cons] at this ⊢
        omega
termination_by a b => a.length + b.length

/-! ### Sorted, each once -/

def ofL : List (List UInt8) → List (List UInt8)
  | [] => []
  | [x] => [x]
  | x :: y :: l => mergeL (ofL ((x :: y :: l).take ((x :: y :: l).length / 2))) (ofL ((x :: y :: l).drop ((x :: y :: l).length / 2)))
termination_by l => l.length
decreasing_by
  · simp only [List.length_take, List.length_cons]; omega
  · simp only [List.length_drop, List.length_cons]; omega
theorem ofL_nil : ofL [] = [] := by rw [ofL]
theorem ofL_one (x : List UInt8) : ofL [x] = [x] := by rw [ofL]
theorem ofL_two {L : List (List UInt8)} (h : 2 ≤ L.length) : ofL L = mergeL (ofL (L.take (L.length / 2))) (ofL (L.drop (L.length / 2))) := by
  match L, h with
  | x :: y :: l, _ => rw [ofL]
theorem ofL_mem (L : List (List UInt8)) : ∀ z, z ∈ ofL L ↔ z ∈ L := by
  induction hn : L.length using Nat.strongRecOn generalizing L with
  | ind n ih =>
    intro z
    match L, hn with
    | [], _ => rw [ofL_nil]
    | [x], _ => rw [ofL_one]
    | x :: y :: l, hn =>
      rw [ofL_two (by simp), mergeL_mem]
      rw [ih _ (by simp only [List.length_take, List.length_cons] at hn ⊢; omega) _ rfl z, ih _ (by simp only [List.length_drop, List.length_cons] at hn ⊢; omega) _ rfl z, ← List.mem_append, List.take_append_drop]
theorem ofL_rises (L : List (List UInt8)) : RisesL (ofL L) := by
  induction hn : L.length using Nat.strongRecOn generalizing L with
  | ind n ih =>
    match L, hn with
    | [], _ => rw [ofL_nil]; exact List.Pairwise.nil
    | [x], _ => rw [ofL_one]; exact List.pairwise_singleton _ _
    | x :: y :: l, hn =>
      rw [ofL_two (by simp)]
      exact mergeL_rises (ih _ (by simp only [List.length_take, List.length_cons] at hn ⊢; omega) _ rfl) (ih _ (by simp only [List.length_drop, List.length_cons] at hn ⊢; omega) _ rfl)
theorem ofL_len (L : List (List UInt8)) : (ofL L).length ≤ L.length := by
  induction hn : L.length using Nat.strongRecOn generalizing L with
  | ind n ih =>
    match L, hn with
    | [], _ => rw [ofL_nil]; simp
    | [x], hn => rw [ofL_one]; simpa using Nat.le_of_eq hn
    | x :: y :: l, hn =>
      rw [ofL_two (by simp)]
      have h1 := mergeL_len (ofL ((x :: y :: l).take ((x :: y :: l).length / 2))) (ofL ((x :: y :: l).drop ((x :: y :: l).length / 2)))
      have h2 := ih ((x :: y :: l).take ((x :: y :: l).length / 2)).length (by simp only [List.length_take, List.length_cons] at hn ⊢; omega) _ rfl
      have h3 := ih ((x :: y :: l).drop ((x :: y :: l).length / 2)).length (by simp only [List.length_drop, List.length_cons] at hn ⊢; omega) _ rfl
      have h4 : ((x :: y :: l).take ((x :: y :: l).length / 2)).length + ((x :: y :: l).drop ((x :: y :: l).length / 2)).length = (x :: y :: l).length := by rw [← List.length_append, List.take_append_drop]
      omega

/-! ### Asked, cut -/

/-- How many texts are below w. -/
def belowL (L : List (List UInt8)) (w : List UInt8) : Nat := (L.takeWhile fun x => Op.bytesLess x w).length
def minusL (a b : List (List UInt8)) : List (List UInt8) := a.filter fun x => decide (x ∉ b)
def commonW (a b : List (List UInt8)) : List (List UInt8) := a.filter fun x => decide (x ∈ b)
def fromL (a : List (List UInt8)) (w : List UInt8) : List (List UInt8) := a.drop (belowL a w)
theorem belowL_le (L : List (List UInt8)) (w : List UInt8) : belowL L w ≤ L.length := (List.takeWhile_sublist _).length_le
theorem rises_get {L : List (List UInt8)} (h : RisesL L) {i j : Nat} (hij : i < j) {x y : List UInt8} (hx : L[i]? = some x) (hy : L[j]? = some y) : LtW x y := by
  obtain ⟨hi, rfl⟩ := List.getElem?_eq_some_iff.1 hx
  obtain ⟨hj, rfl⟩ := List.getElem?_eq_some_iff.1 hy
  exact List.pairwise_iff_getElem.1 h i j hi hj hij
/-- The texts below w are those ahead of this place. -/
theorem belowL_iff {L : List (List UInt8)} (h : RisesL L) (w : List UInt8) : ∀ (i : Nat) (x : List UInt8), L[i]? = some x → (i < belowL L w ↔ LtW x w) := by
  unfold belowL
  induction L with
  | nil => intro i x hx; simp at hx
  | cons a L ih =>
    obtain ⟨h1, h2⟩ := List.pairwise_cons.1 h
    intro i x hx
    simp only [List.takeWhile_cons]
    cases hb : Op.bytesLess a w with
    | true =>
      simp only [if_true, List.length_cons]
      cases i with
      | zero => simp at hx; subst hx; simp [LtW, hb]
      | succ i =>
        have := ih h2 i x (by simpa using hx)
        rw [← this]
        omega
    | false =>
      simp only [Bool.false_eq_true, if_false, List.length_nil]
      constructor
      · intro h; omega
      · intro hxw
        cases i with
        | zero => simp at hx; subst hx; rw [LtW, hb] at hxw; cases hxw
        | succ i =>
          have := h1 x (List.mem_of_getElem? (by simpa using hx))
          have := bl_trans this hxw
          rw [hb] at this
          cases this
theorem minusL_rises {a : List (List UInt8)} (h : RisesL a) (b : List (List UInt8)) : RisesL (minusL a b) := List.Pairwise.filter _ h
theorem commonW_rises {a : List (List UInt8)} (h : RisesL a) (b : List (List UInt8)) : RisesL (commonW a b) := List.Pairwise.filter _ h
theorem fromL_rises {a : List (List UInt8)} (h : RisesL a) (w : List UInt8) : RisesL (fromL a w) := List.Pairwise.drop h
/-- The texts up to the first that does not rise. -/
def risingL : List (List UInt8) → List (List UInt8)
  | [] => []
  | [x] => [x]
  | x :: y :: l => if Op.bytesLess x y = true then x :: risingL (y :: l) else [x]
theorem has_none {L : List (List UInt8)} {w : List UInt8} (hb : ∀ y ∈ L, LtW y w) : decide (w ∈ L) = false := by
  rw [decide_eq_false_iff_not]
  exact fun h => absurd rfl (LtW.ne (hb w h))
/-- The first of M that is not below x is x, just where x is in M. -/
theorem mem_at {M : List (List UInt8)} (hM : RisesL M) {i : Nat} {x y : List UInt8} (hb : ∀ z ∈ M.take i, LtW z x) (hy : M[i]? = some y) (hyx : Op.bytesLess y x = false) : decide (x ∈ M) = (y == x) := by
  by_cases e : y = x
  · subst e
    simp [List.mem_of_getElem? hy]
  · rw [beq_eq_false_iff_ne.2 e, decide_eq_false_iff_not]
    intro hm
    obtain ⟨j, hj⟩ := List.mem_iff_getElem?.1 hm
    rcases Nat.lt_trichotomy j i with h1 | h1 | h1
    · have h2 : x ∈ M.take i := List.mem_of_getElem? (i := j) (by rw [List.getElem?_take_of_lt h1]; exact hj)
      exact absurd rfl (LtW.ne (hb x h2))
    · subst h1; rw [hj] at hy; cases hy; exact e rfl
    · have := rises_get hM h1 hy hj
      rw [LtW, hyx] at this
      cases this
theorem mem_end {M : List (List UInt8)} {x : List UInt8} (hb : ∀ z ∈ M, LtW z x) : decide (x ∈ M) = false := has_none hb
end Go.Proofs.Ytcbdncjknpdnbaa

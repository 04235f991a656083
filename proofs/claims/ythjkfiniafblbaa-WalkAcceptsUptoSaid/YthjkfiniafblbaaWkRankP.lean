/- A byte's step in a tree; which words a tree accepts; how many words are below one; no program. -/
import Derived.Test.YthjkfiniafblbaaWkNthP
namespace Go.Proofs.Ythjkfiniafblbaa

/-- The tree behind a byte. -/
def stepE : Trie → UInt8 → Option Trie
  | .fin _, _ => none
  | .edge b c r, x => if b = x then some c else stepE r x
/-- How many words lead over lower bytes. -/
def lowE : Trie → UInt8 → Nat
  | .fin _, _ => 0
  | .edge b c r, x => (if b.toNat < x.toNat then cntT c else 0) + lowE r x
/-- Is the word accepted; how many bytes were gone over. -/
def accT : Trie → List UInt8 → Bool × Nat
  | t, [] => (t.final, 0)
  | t, x :: w => match stepE t x with
    | none => (false, 0)
    | some c => ((accT c w).1, (accT c w).2 + 1)
/-- How many words are below; is it one. -/
def rankT : Trie → List UInt8 → Nat × Bool
  | t, [] => (0, t.final)
  | t, x :: w => match stepE t x with
    | none => (finN t.final + lowE t x, false)
    | some c => (finN t.final + lowE t x + (rankT c w).1, (rankT c w).2)
theorem accT_none {t : Trie} {x : UInt8} {w : List UInt8} (h : stepE t x = none) : accT t (x :: w) = (false, 0) := by simp only [accT, h]
theorem accT_some {t c : Trie} {x : UInt8} {w : List UInt8} (h : stepE t x = some c) : accT t (x :: w) = ((accT c w).1, (accT c w).2 + 1) := by simp only [accT, h]
theorem rankT_none {t : Trie} {x : UInt8} {w : List UInt8} (h : stepE t x = none) : rankT t (x :: w) = (finN t.final + lowE t x, false) := by simp only [rankT, h]
theorem rankT_some {t c : Trie} {x : UInt8} {w : List UInt8} (h : stepE t x = some c) : rankT t (x :: w) = (finN t.final + lowE t x + (rankT c w).1, (rankT c w).2) := by simp only [rankT, h]
theorem stepE_here {b x : UInt8} {c r : Trie} (h : b = x) : stepE (.edge b c r) x = some c := by simp only [stepE]; rw [if_pos h]
theorem stepE_on {b x : UInt8} {c r : Trie} (h : b ≠ x) : stepE (.edge b c r) x = stepE r x := by simp only [stepE]; rw [if_neg h]
theorem stepE_low {x : UInt8} : ∀ {t : Trie} {p : Int}, okE False t p → (x.toNat : Int) ≤ p → stepE t x = none
  | .fin _, _, _, _ => rfl
  | .edge b c r, p, h, hp => by
    have h1 := h.1
    rw [stepE_on (fun e => by subst e; omega)]
    exact stepE_low h.2.2.2 (by omega)
theorem stepE_eN {x : UInt8} : ∀ {t c : Trie}, stepE t x = some c → lowE t x + cntT c ≤ eN t
  | .fin _, _, h => by simp [stepE] at h
  | .edge b c r, c', h => by
    by_cases hb : b = x
    · rw [stepE_here hb] at h
      cases h
      subst hb
      simp only [lowE, eN]
      rw [if_neg (Nat.lt_irrefl _)]
      have : ∀ t : Trie, lowE t b ≤ eN t := fun t => by
        induction t with
        | fin => exact Nat.le_refl _
        | edge b' c r _ ih => simp only [lowE, eN]; split <;> omega
      have := this r
      omega
    · rw [stepE_on hb] at h
      have := stepE_eN h
      simp only [lowE, eN]
      split <;> omega
theorem lowE_eN (x : UInt8) (t : Trie) : lowE t x ≤ eN t := by
  induction t with
  | fin => exact Nat.le_refl _
  | edge b' c r _ ih => simp only [lowE, eN]; split <;> omega
theorem stepE_good {x : UInt8} : ∀ {t c : Trie} {p : Int}, okE False t p → stepE t x = some c → Good c
  | .fin _, _, _, _, h => by simp [stepE] at h
  | .edge b c r, c', p, hk, h => by
    by_cases hb : b = x
    · rw [stepE_here hb] at h
      cases h
      exact hk.2.2.1
    · rw [stepE_on hb] at h
      exact stepE_good hk.2.2.2 h
/-- Where a step leads. -/
theorem stepE_unf {A : List Sta} {x : UInt8} : ∀ {t c : Trie} {f : Bool} {es : List Ed}, UnfE A t f es → stepE t x = some c → ∃ (j : Nat) (e : Ed), es[j]? = some e ∧ e.1 = x ∧ (∀ q, q < j → ∀ e' : Ed, es[q]? = some e' → e'.1 ≠ x) ∧ 0 ≤ e.2 ∧ Unf A e.2.toNat c
  | .fin _, _, _, _, _, h => by simp [stepE] at h
  | .edge b c r, c', f, es, hu, h => by
    obtain ⟨m, es', rfl, ⟨y, hm, hy, hc⟩, hr⟩ := hu
    by_cases hb : b = x
    · rw [stepE_here hb] at h
      cases h
      exact ⟨0, _, rfl, hb, fun q hq => absurd hq (Nat.not_lt_zero _), hm, ⟨y, hy, hc⟩⟩
    · rw [stepE_on hb] at h
      obtain ⟨j, e, h1, h2, h3, h4, h5⟩ := stepE_unf hr h
      refine ⟨j + 1, e, by simpa using h1, h2, fun q hq e' he' => ?_, h4, h5⟩
      cases q with
      | zero => simp at he'; subst he'; exact hb
      | succ q => exact h3 q (by omega) e' (by simpa using he')
theorem stepE_miss {A : List Sta} {x : UInt8} : ∀ {t : Trie} {f : Bool} {es : List Ed}, UnfE A t f es → stepE t x = none → ∀ e ∈ es, e.1 ≠ x
  | .fin _, f, es, hu, _, e, he => by obtain ⟨rfl, _⟩ := hu; cases he
  | .edge b c r, f, es, hu, h, e, he => by
    obtain ⟨m, es', rfl, _, hr⟩ := hu
    by_cases hb : b = x
    · rw [stepE_here hb] at h; cases h
    · rw [stepE_on hb] at h
      rcases List.mem_cons.1 he with rfl | he
      · exact hb
      · exact stepE_miss hr h e he
/-- Its bytes rise. -/
theorem rising_edges {A : List Sta} : ∀ {t : Trie} {f : Bool} {es : List Ed} {p : Int}, UnfE A t f es → okE False t p → (∀ e ∈ es, p < e.1.toNat) ∧ ∀ (i j : Nat) (a b : Ed), i < j → es[i]? = some a → es[j]? = some b → a.1.toNat < b.1.toNat
  | .fin _, f, es, p, hu, _ => by obtain ⟨rfl, _⟩ := hu; exact ⟨by simp, fun i j a b _ h => by simp at h⟩
  | .edge c t r, f, es, p, hu, hk => by
    obtain ⟨m, es', rfl, _, hr⟩ := hu
    obtain ⟨h1, h2⟩ := rising_edges hr hk.2.2.2
    have h0 := hk.1
    refine ⟨fun e he => ?_, fun i j a b hij ha hb => ?_⟩
    · rcases List.mem_cons.1 he with rfl | he
      · exact h0
      · have := h1 e he; omega
    · cases j with
      | zero => omega
      | succ j =>
        have hb' : es'[j]? = some b := by simpa using hb
        cases i with
        | zero =>
          simp at ha
          subst ha
          have := h1 b (List.mem_of_getElem? hb')
          show c.toNat < b.1.toNat
          omega
        | succ i => exact h2 i j a b (by omega) (by simpa using ha) hb'
theorem rankT_le : ∀ (w : List UInt8) (t : Trie), (rankT t w).1 ≤ cntT t
  | [], t => Nat.zero_le _
  | x :: w, t => by
    cases h : stepE t x with
    | none =>
      rw [rankT_none h, cntT_eN]
      have := lowE_eN x t
      dsimp only
      omega
    | some c =>
      rw [rankT_some h, cntT_eN]
      have := stepE_eN h
      have := rankT_le w c
      dsimp only
      omega
theorem accT_le : ∀ (w : List UInt8) (t : Trie), (accT t w).2 ≤ w.length
  | [], t => Nat.zero_le _
  | x :: w, t => by
    cases h : stepE t x with
    | none => rw [accT_none h]; exact Nat.zero_le _
    | some c =>
      rw [accT_some h]
      have := accT_le w c
      simp only [List.length_cons]
      omega
end Go.Proofs.Ythjkfiniafblbaa

/- The n-th word of a tree; no program. -/
import Derived.Test.YthjkfiniafblbaaWkTree
namespace Go.Proofs.Ythjkfiniafblbaa

/-- The n-th word over the edges. -/
def nthE : Trie → Nat → List UInt8
  | .fin _, _ => []
  | .edge b c r, n => if n < cntT c then b :: (if c.final = true then (if n = 0 then [] else nthE c (n - 1)) else nthE c n) else nthE r (n - cntT c)
/-- The n-th word of the tree. -/
def nthT (t : Trie) (n : Nat) : List UInt8 := if t.final = true then (if n = 0 then [] else nthE t (n - 1)) else nthE t n
/-- How many words over the edges. -/
def eN : Trie → Nat
  | .fin _ => 0
  | .edge _ c r => cntT c + eN r
theorem cntT_eN : ∀ t : Trie, cntT t = finN t.final + eN t
  | .fin f => by cases f <;> rfl
  | .edge b c r => by
    simp only [cntT, eN, Trie.final]
    rw [cntT_eN r]; omega
theorem nthE_here {b : UInt8} {c r : Trie} {n : Nat} (h : n < cntT c) : nthE (.edge b c r) n = b :: nthT c n := by
  simp only [nthE, nthT]; rw [if_pos h]
theorem nthE_on {b : UInt8} {c r : Trie} {n : Nat} (h : ¬ n < cntT c) : nthE (.edge b c r) n = nthE r (n - cntT c) := by
  simp only [nthE]; rw [if_neg h]
theorem nthT_done {t : Trie} (h : t.final = true) : nthT t 0 = [] := by unfold nthT; rw [if_pos h, if_pos rfl]
theorem nthT_fin {t : Trie} {n : Nat} (h : t.final = true) (hn : n ≠ 0) : nthT t n = nthE t (n - 1) := by unfold nthT; rw [if_pos h, if_neg hn]
theorem nthT_not {t : Trie} {n : Nat} (h : t.final = false) : nthT t n = nthE t n := by unfold nthT; rw [if_neg (by rw [h]; simp)]
theorem cntT_mem {A : List Sta} : ∀ {t : Trie} {f : Bool} {es : List Ed}, UnfE A t f es → ∀ e ∈ es, ∃ c, Unf A e.2.toNat c ∧ cntT c ≤ cntT t
  | .fin _, f, es, h, e, he => by obtain ⟨rfl, _⟩ := h; cases he
  | .edge b c r, f, es, h, e, he => by
    obtain ⟨m, es', rfl, ⟨x, hm, hx, hc⟩, hr⟩ := h
    rcases List.mem_cons.1 he with rfl | he
    · exact ⟨c, ⟨x, hx, hc⟩, Nat.le_add_right _ _⟩
    · obtain ⟨c', h1, h2⟩ := cntT_mem hr e he
      exact ⟨c', h1, Nat.le_trans h2 (Nat.le_add_left _ _)⟩
theorem capN_small {n : Nat} (h : n ≤ 1099511627776) : capN n = n := by unfold capN; omega
theorem capN_ge {n : Nat} (h : capN n ≤ 1099511627776) : n ≤ 1099511627776 := by unfold capN at h; omega
/-- A table of all the counts. -/
def CntL (A : List Sta) (cs : List Int) : Prop := cs.length = A.length ∧ ∀ i t, Unf A i t → cs[i]? = some (cntI t)
theorem eN_pos {t : Trie} {n : Nat} (h : n < cntT t) (hr : ¬ (t.final = true ∧ n = 0)) : n - finN t.final < eN t ∧ nthT t n = nthE t (n - finN t.final) := by
  have e := cntT_eN t
  cases hf : t.final with
  | true =>
    have h0 : n ≠ 0 := fun h0 => hr ⟨hf, h0⟩
    rw [hf] at e
    have e1 : finN true = 1 := rfl
    rw [e1] at e ⊢
    exact ⟨by omega, nthT_fin hf h0⟩
  | false =>
    rw [hf] at e
    have e1 : finN false = 0 := rfl
    rw [e1] at e ⊢
    exact ⟨by omega, nthT_not hf⟩
theorem eN_nil {A : List Sta} {t : Trie} {f : Bool} {n : Nat} (h : UnfE A t f []) (hn : n < eN t) : False := by
  rw [h.nil] at hn
  exact absurd hn (Nat.not_lt_zero _)
end Go.Proofs.Ythjkfiniafblbaa

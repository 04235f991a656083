/- walk.Nth walked. -/
import Derived.Test.YtcbdncjknpdnbaaWkCount
import Derived.Test.YtcbdncjknpdnbaaTrie
import Derived.Test.YtcbdncjknpdnbaaBuilder
namespace Go.Proofs.Ytcbdncjknpdnbaa
open Go.RowKit

/-- Is n the number of a word? -/
abbrev nthIn (t : Trie) (n : Int) : Prop := 0 ≤ n ∧ n < (cntT t : Int)
def nthS (t : Trie) (n : Int) : ByteArray := if nthIn t n then ⟨(nthT t n.toNat).toArray⟩ else ⟨#[]⟩
def nthB (t : Trie) (n : Int) : Bool := decide (nthIn t n)
theorem nthS_in {t : Trie} {m : Nat} (h : m < cntT t) : nthS t (m : Int) = ⟨(nthT t m).toArray⟩ ∧ nthB t (m : Int) = true := by
  have h1 : nthIn t (m : Int) := ⟨by omega, by omega⟩
  unfold nthS nthB
  rw [if_pos h1, Int.toNat_natCast]
  exact ⟨rfl, decide_eq_true h1⟩
theorem nthS_out {t : Trie} {n : Int} (h : ¬ nthIn t n) : nthS t n = ⟨#[]⟩ ∧ nthB t n = false := by
  unfold nthS nthB
  rw [if_neg h]
  exact ⟨rfl, decide_eq_false h⟩
theorem cell_row {w : World} {g i N : Nat} {cs : List Int} (h : RdRow w (.slice (some ⟨g, 0, none⟩) N N) N 1 (intsI cs)) {c : Int} (hc : cs[i]? = some c) : w.cell? ⟨g, i, none⟩ = some (.int .i64 c) := by
  obtain ⟨_, ad, cap', hv, _, _, h2⟩ := h
  obtain ⟨b', off', hb, h3⟩ := h2 i _ (intsI_get hc)
  cases hv
  cases hb
  rw [Nat.zero_add] at h3
  exact h3
def sLen : Value → Nat
  | .slice _ n _ => n
  | _ => 0
theorem drop_at {α : Type} {l : List α} {j : Nat} {e : α} (he : l[j]? = some e) : l.drop j = e :: l.drop (j + 1) := by
  obtain ⟨h1, h2⟩ := List.getElem?_eq_some_iff.1 he
  rw [List.drop_eq_getElem_cons h1, h2]

end Go.Proofs.Ytcbdncjknpdnbaa

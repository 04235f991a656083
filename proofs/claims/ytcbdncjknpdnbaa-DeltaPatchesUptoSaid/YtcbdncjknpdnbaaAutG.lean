/- An automaton of the call's own in memory. -/
import Derived.Test.YtcbdncjknpdnbaaCellT
import Derived.Test.YtcbdncjknpdnbaaAut
namespace Go.Proofs.Ytcbdncjknpdnbaa
open Go.RowKit

theorem edcs_one (es : List Ed) : ∀ u ∈ es.flatMap edc, u.oneCell' = true := by
  intro u hu
  obtain ⟨e, _, hu⟩ := List.mem_flatMap.1 hu
  simp at hu
  rcases hu with rfl | rfl <;> rfl
theorem two_one (a b : Value) (ha : a.oneCell' = true) (hb : b.oneCell' = true) : ∀ u ∈ (#[a, b] : Array Value).toList, u.oneCell' = true := by
  intro u hu
  simp at hu
  rcases hu with rfl | rfl
  · exact ha
  · exact hb
theorem slice_one (a : Option Addr) (n c : Nat) : (Value.slice a n c).oneCell' = true := rfl

/-- The edges of many states. -/
abbrev EdsG (tE : TypeId) (xs : List (Sta × Value)) : Thing := AllRows tE 2 (fun x => x.2) (fun x => x.1.edges.flatMap edc) (fun x => x.1.edges.length) xs
/-- An automaton of the call's own. -/
def AutG (tS tE : TypeId) (v : Value) (A : List Sta) : Thing := fun w fp => ∃ xs : List (Sta × Value), xs.map Prod.fst = A ∧ Both (RowG tS 2 v xs.length (xs.flatMap stc)) (EdsG tE xs) w fp
theorem AutG.stable (tS tE : TypeId) (v : Value) (A : List Sta) : Stable (AutG tS tE v A) :=
  ⟨fun w fp h => by obtain ⟨xs, _, h2⟩ := h; exact ((RowG.stable _ _ _ _ _).both (AllRows.stable _ _ _ _ _ _)).lt _ _ h2,
   fun w w' fp h hs => by obtain ⟨xs, h1, h2⟩ := h; exact ⟨xs, h1, ((RowG.stable _ _ _ _ _).both (AllRows.stable _ _ _ _ _ _)).same _ _ _ h2 hs⟩⟩
theorem Both.assoc' {A B C : Thing} {w : World} {fp : List Nat} (h : Both A (Both B C) w fp) : Both (Both A B) C w fp := by
  obtain ⟨f, g, h1, ⟨f2, g2, h2, h3, h4, h5⟩, h6, h7⟩ := h
  refine ⟨f ++ f2, g2, ⟨f, f2, h1, h2, fun k hk hk' => h6 k hk ((h5 k).2 (.inl hk')), fun k => List.mem_append⟩, h3, fun k hk hk' => ?_, fun k => ?_⟩
  · rcases List.mem_append.1 hk with hk | hk
    · exact h6 k hk ((h5 k).2 (.inr hk'))
    · exact h4 k hk hk'
  · rw [h7, h5, List.mem_append, or_assoc]
theorem Both.unassoc {A B C : Thing} {w : World} {fp : List Nat} (h : Both (Both A B) C w fp) : Both A (Both B C) w fp := by
  obtain ⟨f, g, ⟨f1, g1, h1, h2, h3, h4⟩, h5, h6, h7⟩ := h
  refine ⟨f1, g1 ++ g, h1, ⟨g1, g, h2, h5, fun k hk hk' => h6 k ((h4 k).2 (.inr hk)) hk', fun k => List.mem_append⟩, fun k hk hk' => ?_, fun k => ?_⟩
  · rcases List.mem_append.1 hk' with hk' | hk'
    · exact h3 k hk hk'
    · exact h6 k ((h4 k).2 (.inl hk)) hk'
  · rw [h7, h4, List.mem_append, or_assoc]
theorem Both.monoL {A Φ Ψ : Thing} (hi : ∀ w fp, Φ w fp → Ψ w fp) {w : World} {fp : List Nat} (h : Both Φ A w fp) : Both Ψ A w fp := by
  obtain ⟨f, g, h1, h2, h3, h4⟩ := h
  exact ⟨f, g, hi _ _ h1, h2, h3, h4⟩
section
variable {W w : World} {R : Thing} {tS tE : TypeId} {v : Value} {A : List Sta}
theorem At.autG {xs : List (Sta × Value)} (h : At W w (Both (RowG tS 2 v xs.length (xs.flatMap stc)) (Both (EdsG tE xs) R))) : At W w (Both (AutG tS tE v (xs.map Prod.fst)) R) :=
  h.impl fun _ q => Both.monoL (fun _ _ q => ⟨xs, rfl, q⟩) q.assoc'
theorem At.autRows (h : At W w (Both (AutG tS tE v A) R)) : ∃ xs : List (Sta × Value), xs.map Prod.fst = A ∧ At W w (Both (RowG tS 2 v xs.length (xs.flatMap stc)) (Both (EdsG tE xs) R)) := by
  obtain ⟨h0, fp, ⟨f, g, ⟨xs, h1, h2⟩, h3, h4, h5⟩, h6⟩ := h
  exact ⟨xs, h1, h0, fp, Both.unassoc ⟨f, g, h2, h3, h4, h5⟩, h6⟩
theorem At.autRd (h : At W w (Both (AutG tS tE v A) R)) : RdAut w v A := by
  obtain ⟨xs, h1, h2⟩ := h.autRows
  exact ⟨xs, h1, RdRow.of_own h2.rowG, fun x hx => RdRow.of_own (h2.drop.allRows x hx)⟩
theorem At.noAut {Φ : Thing} (h : At W w Φ) (hs : Stable Φ) (tS tE : TypeId) : At W w (Both (RowG tS 2 (.slice none 0 0) ([] : List (Sta × Value)).length (([] : List (Sta × Value)).flatMap stc)) (Both (EdsG tE []) Φ)) :=
  (h.noRows hs tE 2 _ _ _).noRowG ((AllRows.stable _ _ _ _ _ _).both hs) tS 2
end
end Go.Proofs.Ytcbdncjknpdnbaa

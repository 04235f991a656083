/- The document's store (hornbookref05) in memory; its reading functions walked. · The document's store (hornbookref05): New, Used, refused, fit, Size, Break, Seal walked. · The document's store (hornbookref05): New, Create, Seal, Break, Size, Read walked. · The document's store (hornbookref05): Seal, Size, Read, Live walked. -/
import Derived.Test.YtgeabmmicofanaaGreatDoorBuSpLaw19
import Derived.Test.YtgeabmmicofanaaGreatDoorBuSpLaw15
import Derived.Test.YtgeabmmicofanaaGreatDoorBuSpLaw43
import Derived.Test.YtgeabmmicofanaaGreatDoorBuSpLaw03
import Derived.Test.YtgeabmmicofanaaGreatDoorBuSpLaw16
set_option linter.unusedSimpArgs false
set_option linter.unusedVariables false
namespace Go.Proofs.YtgeabmmicofanaaGreatDoor
section
open Go.RowKit

structure RR where
  num : Nat
  v : Value
  text : List UInt8
  sealed : Bool
instance : Inhabited RR := ⟨⟨0, .slice none 0 0, [], false⟩⟩
abbrev cellsR (r : RR) : List Value := [.int .i64 r.num, r.v, .bool r.sealed]
def runOf (r : RR) : Nat × RunD := (r.num, ⟨r.text, r.sealed⟩)
abbrev refCells (S : St) (rv : Value) : Array Value := #[.int .i64 S.cap, .int .i64 S.peak, .int .i64 S.made, .int .i64 S.left, rv]
def TextT (r : RR) : Thing := RowG tU8 1 r.v r.text.length (bvs r.text)
def TextsT : List RR → Thing
  | [] => Nought
  | r :: l => Both (TextT r) (TextsT l)
theorem TextT.stable (r : RR) : Stable (TextT r) := RowG.stable _ _ _ _ _
theorem TextsT.stable : ∀ l, Stable (TextsT l)
  | [] => Stable.nought
  | r :: l => (TextT.stable r).both (TextsT.stable l)
theorem Both.out {A B C : Thing} {w : World} {fp : List Nat} (h : Both (Both A B) C w fp) : Both A (Both B C) w fp := by
  obtain ⟨f, g, ⟨f1, g1, h1, h2, h3, h4⟩, h5, h6, h7⟩ := h
  refine ⟨f1, g1 ++ g, h1, ⟨g1, g, h2, h5, fun k hk => h6 k ((h4 k).2 (.inr hk)), fun k => List.mem_append⟩, fun k hk hk' => ?_, fun k => ?_⟩
  · rcases List.mem_append.1 hk' with h8 | h8
    · exact h3 k hk h8
    · exact h6 k ((h4 k).2 (.inl hk)) h8
  · rw [h7, h4, List.mem_append, or_assoc]
theorem TextsT.mem {rs : List RR} {w : World} {fp : List Nat} (h : TextsT rs w fp) {r : RR} (hr : r ∈ rs) : w.ownsRow 0 tU8 1 r.v r.text.length (bvs r.text) := by
  induction rs generalizing fp with
  | nil => cases hr
  | cons a l ih =>
    obtain ⟨f, g, h1, h2, _⟩ := h
    rcases List.mem_cons.1 hr with rfl | hr
    · exact h1.1
    · exact ih h2 hr
/-- One text to the front. -/
theorem TextsT.pull {l1 l2 : List RR} {r : RR} {w : World} {fp : List Nat} (h : TextsT (l1 ++ r :: l2) w fp) : Both (TextT r) (TextsT (l1 ++ l2)) w fp := by
  induction l1 generalizing fp w with
  | nil => exact h
  | cons a l ih => exact Both.assoc (Both.mono (fun w fp h => ih h) h)
theorem TextsT.push {l1 l2 : List RR} {r : RR} {w : World} {fp : List Nat} (h : Both (TextT r) (TextsT (l1 ++ l2)) w fp) : TextsT (l1 ++ r :: l2) w fp := by
  induction l1 generalizing fp w with
  | nil => exact h
  | cons a l ih => exact Both.mono (fun w fp h => ih h) (Both.assoc h)

section
variable {w : World} {rb : Nat} {S : St} {rv : Value} {rs : List RR}
end

/-- Where a number stands. -/
def PlaceR (rs : List RR) (S : St) (z r : Int) : Prop := (S.find z = none ∧ r = -1) ∨ ∃ i : Nat, i < rs.length ∧ ((rs.getD i default).num : Int) = z ∧ S.find z = some (runOf (rs.getD i default)) ∧ r = i
end

section
open Go.RowKit

def lens (rs : List RR) : List Nat := rs.map fun r => r.text.length
/-- The place of an open run, or the failure. -/
def FitR (rs : List RR) (S : St) (z i : Int) (c : Nat) : Prop :=
  (S.find z = none ∧ i = 0 ∧ c = 3) ∨ ∃ j : Nat, j < rs.length ∧ ((rs.getD j default).num : Int) = z ∧ S.find z = some (runOf (rs.getD j default)) ∧ (((rs.getD j default).sealed = true ∧ i = 0 ∧ c = 4) ∨ ((rs.getD j default).sealed = false ∧ i = j ∧ c = 0))
end

section
open Go.RowKit

end

section
open Go.RowKit

theorem split_at {α : Type} [Inhabited α] {l : List α} {j : Nat} (hj : j < l.length) : l = l.take j ++ l.getD j default :: l.drop (j + 1) := by
  rw [List.getD_eq_getElem?_getD, List.getElem?_eq_getElem hj]
  simp
theorem set_split {α : Type} {l : List α} {j : Nat} {x : α} (hj : j < l.length) : l.set j x = l.take j ++ x :: l.drop (j + 1) := by
  rw [List.set_eq_take_append_cons_drop, if_pos hj]
/-- The j-th text to the front. -/
theorem TextsT.get {rs : List RR} {j : Nat} (hj : j < rs.length) {w : World} {fp : List Nat} (h : TextsT rs w fp) : Both (TextT (rs.getD j default)) (TextsT (rs.take j ++ rs.drop (j + 1))) w fp :=
  TextsT.pull (by rw [← split_at hj]; exact h)
theorem TextsT.put {rs : List RR} {j : Nat} (hj : j < rs.length) {x : RR} {w : World} {fp : List Nat} (h : Both (TextT x) (TextsT (rs.take j ++ rs.drop (j + 1))) w fp) : TextsT (rs.set j x) w fp := by
  rw [set_split hj]; exact TextsT.push h
theorem TextsT.same {rs : List RR} {j : Nat} (hj : j < rs.length) {x : RR} (hv : x.v = (rs.getD j default).v) (ht : x.text = (rs.getD j default).text) {w : World} {fp : List Nat} (h : TextsT rs w fp) : TextsT (rs.set j x) w fp := by
  refine TextsT.put hj ?_
  have e : TextT x = TextT (rs.getD j default) := by unfold TextT; rw [hv, ht]
  rw [e]; exact TextsT.get hj h

end
end Go.Proofs.YtgeabmmicofanaaGreatDoor

/- The document's store (hornbookref05) in memory; its reading functions walked. · The document's store (hornbookref05): New, Used, refused, fit, Size, Break, Seal walked. · The document's store (hornbookref05): New, Create, Seal, Break, Size, Read walked. · The document's store (hornbookref05): Seal, Size, Read, Live walked. -/
import Derived.Test.YtadokkffmekndaaGreatDoorBuMgAgLaw31
import Derived.Test.YtadokkffmekndaaGreatDoorBuMgAgLaw27
import Derived.Test.YtadokkffmekndaaGreatDoorBuMgAgLaw37
import Derived.Test.YtadokkffmekndaaGreatDoorBuMgAgLaw03
import Derived.Test.YtadokkffmekndaaGreatDoorBuMgAgLaw28
set_option linter.unusedSimpArgs false
set_option linter.unusedVariables false
namespace Go.Proofs.YtadokkffmekndaaGreatDoor
section
open Go.RowKit

structure RR where
  num : Nat
  v : Value
  text : List UInt8
  sealed : Bool
instance : Inhabited RR := ⟨⟨0, .slice none 0 0, [], false⟩⟩
abbrev tRef : TypeId := 90
abbrev tRRun : TypeId := 107
abbrev cellsR (r : RR) : List Value := [.int .i64 r.num, r.v, .bool r.sealed]
def runOf (r : RR) : Nat × RunD := (r.num, ⟨r.text, r.sealed⟩)
abbrev refCells (S : St) (rv : Value) : Array Value := #[.int .i64 S.cap, .int .i64 S.peak, .int .i64 S.made, .int .i64 S.left, rv]
def TextT (r : RR) : Thing := RowG tU8 1 r.v r.text.length (bvs r.text)
def TextsT : List RR → Thing
  | [] => Nought
  | r :: l => Both (TextT r) (TextsT l)
theorem TextT.stable (r : RR) : Stable (TextT r) := RowG.stable _ _ _ _ _
theorem TextsT.stable : ∀ l, Stable (TextsT l)
  | [] => Stable.nought
  | r :: l => (TextT.stable r).both (TextsT.stable l)
/-- The document's store. -/
def RefT (rb : Nat) (S : St) : Thing := fun w fp => ∃ rv rs, S.runs = rs.map runOf ∧ Both (CellT rb (refCells S rv) tRef) (Both (RowG tRRun 3 rv rs.length (rs.flatMap cellsR)) (TextsT rs)) w fp
theorem refIn_stable (rb : Nat) (S : St) (rv : Value) (rs : List RR) : Stable (Both (CellT rb (refCells S rv) tRef) (Both (RowG tRRun 3 rv rs.length (rs.flatMap cellsR)) (TextsT rs))) :=
  (CellT.stable _ _ _).both ((RowG.stable _ _ _ _ _).both (TextsT.stable _))
theorem RefT.stable (rb : Nat) (S : St) : Stable (RefT rb S) :=
  ⟨fun w fp h => by obtain ⟨rv, rs, _, h1⟩ := h; exact (refIn_stable rb S rv rs).lt _ _ h1, fun w w' fp h hs => by
    obtain ⟨rv, rs, h0, h1⟩ := h
    exact ⟨rv, rs, h0, (refIn_stable rb S rv rs).same _ _ _ h1 hs⟩⟩

theorem Both.out {A B C : Thing} {w : World} {fp : List Nat} (h : Both (Both A B) C w fp) : Both A (Both B C) w fp := by
  obtain ⟨f, g, ⟨f1, g1, h1, h2, h3, h4⟩, h5, h6, h7⟩ := h
  refine ⟨f1, g1 ++ g, h1, ⟨g1, g, h2, h5, fun k hk => h6 k ((h4 k).2 (.inr hk)), fun k => List.mem_append⟩, fun k hk hk' => ?_, fun k => ?_⟩
  · rcases List.mem_append.1 hk' with h8 | h8
    · exact h3 k hk h8
    · exact h6 k ((h4 k).2 (.inl hk)) h8
  · rw [h7, h4, List.mem_append, or_assoc]
theorem TextsT.mem {rs : List RR} {w : World} {fp : List Nat} (h : TextsT rs w fp) {r : RR} (hr : r ∈ rs) : w.ownsRow 0 tU8 1 r.v r.text.length (bvs r.text) := by
  induction rs generalizing fp with
  | nil => cases hr
  | cons a l ih =>
    obtain ⟨f, g, h1, h2, _⟩ := h
    rcases List.mem_cons.1 hr with rfl | hr
    · exact h1.1
    · exact ih h2 hr
/-- One text to the front. -/
theorem TextsT.pull {l1 l2 : List RR} {r : RR} {w : World} {fp : List Nat} (h : TextsT (l1 ++ r :: l2) w fp) : Both (TextT r) (TextsT (l1 ++ l2)) w fp := by
  induction l1 generalizing fp w with
  | nil => exact h
  | cons a l ih => exact Both.assoc (Both.mono (fun w fp h => ih h) h)
theorem TextsT.push {l1 l2 : List RR} {r : RR} {w : World} {fp : List Nat} (h : Both (TextT r) (TextsT (l1 ++ l2)) w fp) : TextsT (l1 ++ r :: l2) w fp := by
  induction l1 generalizing fp w with
  | nil => exact h
  | cons a l ih => exact Both.mono (fun w fp h => ih h) (Both.assoc h)

/-- What a reading walk needs. -/
structure RefR (w : World) (rb : Nat) (S : St) (rv : Value) (rs : List RR) : Prop where
  runs : S.runs = rs.map runOf
  cells : w.heap[rb]? = some (.cells (refCells S rv) tRef (0, 0))
  row : w.ownsRow 0 tRRun 3 rv rs.length (rs.flatMap cellsR)
  texts : ∀ r ∈ rs, w.ownsRow 0 tU8 1 r.v r.text.length (bvs r.text)
section
variable {w : World} {rb : Nat} {S : St} {rv : Value} {rs : List RR}
theorem RefR.c (h : RefR w rb S rv rs) : w.cell? ⟨rb, 0, none⟩ = some (.int .i64 S.cap) ∧ w.cell? ⟨rb, 1, none⟩ = some (.int .i64 S.peak) ∧ w.cell? ⟨rb, 2, none⟩ = some (.int .i64 S.made) ∧ w.cell? ⟨rb, 3, none⟩ = some (.int .i64 S.left) ∧ w.cell? ⟨rb, 4, none⟩ = some rv := by
  have h1 := h.cells
  exact ⟨by simp [World.cell?, h1], by simp [World.cell?, h1], by simp [World.cell?, h1], by simp [World.cell?, h1], by simp [World.cell?, h1]⟩
theorem RefR.fz (h : RefR w rb S rv rs) (k : Nat) : w.frozen? ⟨rb, k, none⟩ = false := by simp [World.frozen?, h.cells]
theorem RefR.below {w' : World} (h : RefR w rb S rv rs) (hb : Below w.heap.size w w') : RefR w' rb S rv rs :=
  ⟨h.runs, by rw [hb.block rb (lt_of_heap h.cells)]; exact h.cells, ownsRow_below h.row hb, fun r hr => ownsRow_below (h.texts r hr) hb⟩
theorem RefR.shape (h : RefR w rb S rv rs) : ∃ ao cap, rv = .slice ao rs.length cap ∧ rs.length ≤ cap ∧ cap ≤ maxLen := own_shape h.row
theorem RefR.used (h : RefR w rb S rv rs) : usedOf S.runs = (rs.map fun r => r.text.length).sum := by
  rw [h.runs]; unfold usedOf; rw [List.map_map]; rfl
theorem RefR.rise (h : RefR w rb S rv rs) (hG : GoodS S) {i j : Nat} (hj : j < rs.length) (hij : i < j) : (rs.getD i default).num < (rs.getD j default).num := by
  have h1 := hG.rising
  rw [h.runs, List.pairwise_map] at h1
  have := List.pairwise_iff_getElem.1 h1 i j (by omega) hj hij
  rw [List.getD_eq_getElem?_getD, List.getD_eq_getElem?_getD, List.getElem?_eq_getElem (show i < rs.length by omega), List.getElem?_eq_getElem hj]
  exact this
end

theorem rising_unique {l : List (Nat × RunD)} (hr : l.Pairwise fun p q => p.1 < q.1) {p q : Nat × RunD} (hp : p ∈ l) (hq : q ∈ l) (h : p.1 = q.1) : p = q := by
  induction l with
  | nil => cases hp
  | cons a l ih =>
    obtain ⟨h1, h2⟩ := List.pairwise_cons.1 hr
    rcases List.mem_cons.1 hp with rfl | hp2 <;> rcases List.mem_cons.1 hq with rfl | hq2
    · rfl
    · have := h1 q hq2; omega
    · have := h1 p hp2; omega
    · exact ih h2 hp2 hq2
theorem find_of_mem {S : St} (hG : GoodS S) {p : Nat × RunD} (hp : p ∈ S.runs) : S.find p.1 = some p := by
  cases hf : S.find (p.1 : Int) with
  | none =>
    unfold St.find at hf
    have := List.find?_eq_none.1 hf p hp
    simp at this
  | some q =>
    obtain ⟨h1, h2⟩ := find_mem hf
    rw [rising_unique hG.rising h1 hp (Int.ofNat.inj h2)]
theorem rising_len {l : List (Nat × RunD)} (hr : l.Pairwise fun p q => p.1 < q.1) {a m : Nat} (h : ∀ p ∈ l, a < p.1 ∧ p.1 ≤ m) : l.length ≤ m - a := by
  induction l generalizing a with
  | nil => simp
  | cons p l ih =>
    obtain ⟨h1, h2⟩ := List.pairwise_cons.1 hr
    have := ih h2 (a := p.1) (fun q hq => ⟨h1 q hq, (h q (by simp [hq])).2⟩)
    have := h p (by simp)
    simp only [List.length_cons]
    omega
theorem RefR.len {w : World} {rb : Nat} {S : St} {rv : Value} {rs : List RR} (h : RefR w rb S rv rs) (hG : GoodS S) : rs.length ≤ 16777216 := by
  have h1 := rising_len (a := 0) (m := S.made) hG.rising (fun p hp => by have := hG.inside p hp; omega)
  rw [h.runs, List.length_map] at h1
  have := hG.sizes
  omega

/-- Where a number stands. -/
def PlaceR (rs : List RR) (S : St) (z r : Int) : Prop := (S.find z = none ∧ r = -1) ∨ ∃ i : Nat, i < rs.length ∧ ((rs.getD i default).num : Int) = z ∧ S.find z = some (runOf (rs.getD i default)) ∧ r = i
end

section
open Go.RowKit

def lens (rs : List RR) : List Nat := rs.map fun r => r.text.length
/-- The place of an open run, or the failure. -/
def FitR (rs : List RR) (S : St) (z i : Int) (c : Nat) : Prop :=
  (S.find z = none ∧ i = 0 ∧ c = 3) ∨ ∃ j : Nat, j < rs.length ∧ ((rs.getD j default).num : Int) = z ∧ S.find z = some (runOf (rs.getD j default)) ∧ (((rs.getD j default).sealed = true ∧ i = 0 ∧ c = 4) ∨ ((rs.getD j default).sealed = false ∧ i = j ∧ c = 0))
end

section
open Go.RowKit

end

section
open Go.RowKit

theorem split_at {α : Type} [Inhabited α] {l : List α} {j : Nat} (hj : j < l.length) : l = l.take j ++ l.getD j default :: l.drop (j + 1) := by
  rw [List.getD_eq_getElem?_getD, List.getElem?_eq_getElem hj]
  simp
theorem set_split {α : Type} {l : List α} {j : Nat} {x : α} (hj : j < l.length) : l.set j x = l.take j ++ x :: l.drop (j + 1) := by
  rw [List.set_eq_take_append_cons_drop, if_pos hj]
/-- The j-th text to the front. -/
theorem TextsT.get {rs : List RR} {j : Nat} (hj : j < rs.length) {w : World} {fp : List Nat} (h : TextsT rs w fp) : Both (TextT (rs.getD j default)) (TextsT (rs.take j ++ rs.drop (j + 1))) w fp :=
  TextsT.pull (by rw [← split_at hj]; exact h)
theorem TextsT.put {rs : List RR} {j : Nat} (hj : j < rs.length) {x : RR} {w : World} {fp : List Nat} (h : Both (TextT x) (TextsT (rs.take j ++ rs.drop (j + 1))) w fp) : TextsT (rs.set j x) w fp := by
  rw [set_split hj]; exact TextsT.push h
theorem TextsT.same {rs : List RR} {j : Nat} (hj : j < rs.length) {x : RR} (hv : x.v = (rs.getD j default).v) (ht : x.text = (rs.getD j default).text) {w : World} {fp : List Nat} (h : TextsT rs w fp) : TextsT (rs.set j x) w fp := by
  refine TextsT.put hj ?_
  have e : TextT x = TextT (rs.getD j default) := by unfold TextT; rw [hv, ht]
  rw [e]; exact TextsT.get hj h

end
end Go.Proofs.YtadokkffmekndaaGreatDoor

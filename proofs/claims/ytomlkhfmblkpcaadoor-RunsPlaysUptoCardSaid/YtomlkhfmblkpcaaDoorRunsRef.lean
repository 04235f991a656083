/- The document's store (hornbookref05) in memory; its reading functions walked. -/
import Derived.Test.YtomlkhfmblkpcaaDoorRunsGood
import Derived.Test.YtomlkhfmblkpcaaDoorStructRows
import Derived.Test.YtomlkhfmblkpcaaDoorAppendAt
namespace Go.Proofs.YtomlkhfmblkpcaaDoor
open Go.RowKit

structure RR where
  num : Nat
  v : Value
  text : List UInt8
  sealed : Bool
instance : Inhabited RR := ⟨⟨0, .slice none 0 0, [], false⟩⟩
abbrev tRef : TypeId := 72
abbrev tRRun : TypeId := 96
abbrev cellsR (r : RR) : List Value := [.int .i64 r.num, r.v, .bool r.sealed]
theorem cellsR_len : ∀ r, (cellsR r).length = 3 := fun _ => rfl
def runOf (r : RR) : Nat × RunD := (r.num, ⟨r.text, r.sealed⟩)
abbrev refCells (S : St) (rv : Value) : Array Value := #[.int .i64 S.cap, .int .i64 S.peak, .int .i64 S.made, .int .i64 S.left, rv]
def TextT (r : RR) : Thing := RowG tU8 1 r.v r.text.length (bvs r.text)
def TextsT : List RR → Thing
  | [] => Nought
  | r :: l => Both (TextT r) (TextsT l)
theorem TextT.stable (r : RR) : Stable (TextT r) := RowG.stable _ _ _ _ _
theorem TextsT.stable : ∀ l, Stable (TextsT l)
  | [] => Stable.nought
  | r :: l => (TextT.stable r).both (TextsT.stable l)
/-- The document's store. -/
def RefT (rb : Nat) (S : St) : Thing := fun w fp => ∃ rv rs, S.runs = rs.map runOf ∧ Both (CellT rb (refCells S rv) tRef) (Both (RowG tRRun 3 rv rs.length (rs.flatMap cellsR)) (TextsT rs)) w fp
theorem refIn_stable (rb : Nat) (S : St) (rv : Value) (rs : List RR) : Stable (Both (CellT rb (refCells S rv) tRef) (Both (RowG tRRun 3 rv rs.length (rs.flatMap cellsR)) (TextsT rs))) :=
  (CellT.stable _ _ _).both ((RowG.stable _ _ _ _ _).both (TextsT.stable _))
theorem RefT.stable (rb : Nat) (S : St) : Stable (RefT rb S) :=
  ⟨fun w fp h => by obtain ⟨rv, rs, _, h1⟩ := h; exact (refIn_stable rb S rv rs).lt _ _ h1, fun w w' fp h hs => by
    obtain ⟨rv, rs, h0, h1⟩ := h
    exact ⟨rv, rs, h0, (refIn_stable rb S rv rs).same _ _ _ h1 hs⟩⟩

theorem Both.out {A B C : Thing} {w : World} {fp : List Nat} (h : Both (Both A B) C w fp) : Both A (Both B C) w fp := by
  obtain ⟨f, g, ⟨f1, g1, h1, h2, h3, h4⟩, h5, h6, h7⟩ := h
  refine ⟨f1, g1 ++ g, h1, ⟨g1, g, h2, h5, fun k hk => h6 k ((h4 k).2 (.inr hk)), fun k => List.mem_append⟩, fun k hk hk' => ?_, fun k => ?_⟩
  · rcases List.mem_append.1 hk' with h8 | h8
    · exact h3 k hk h8
    · exact h6 k ((h4 k).2 (.inl hk)) h8
  · rw [h7, h4, List.mem_append, or_assoc]
theorem Both.inn {A B C : Thing} {w : World} {fp : List Nat} (h : Both A (Both B C) w fp) : Both (Both A B) C w fp := by
  obtain ⟨f, g, h1, ⟨f1, g1, h2, h3, h4, h5⟩, h6, h7⟩ := h
  refine ⟨f ++ f1, g1, ⟨f, f1, h1, h2, fun k hk hk' => h6 k hk ((h5 k).2 (.inl hk')), fun k => List.mem_append⟩, h3, fun k hk hk' => ?_, fun k => ?_⟩
  · rcases List.mem_append.1 hk with h8 | h8
    · exact h6 k h8 ((h5 k).2 (.inr hk'))
    · exact h4 k h8 hk'
  · rw [h7, h5, List.mem_append, or_assoc]
/-- Opened and shut. -/
theorem At.ref {W w : World} {R : Thing} {rb : Nat} {S : St} (h : At W w (Both (RefT rb S) R)) : ∃ rv rs, S.runs = rs.map runOf ∧ At W w (Both (CellT rb (refCells S rv) tRef) (Both (RowG tRRun 3 rv rs.length (rs.flatMap cellsR)) (Both (TextsT rs) R))) := by
  obtain ⟨h0, fp, ⟨f, g, ⟨rv, rs, hr, h1⟩, h2, h3, h4⟩, h5⟩ := h
  exact ⟨rv, rs, hr, h0, fp, Both.mono (fun w fp h => h.out) (Both.out ⟨f, g, h1, h2, h3, h4⟩), h5⟩
theorem At.toRef {W w : World} {R : Thing} {rb : Nat} {S : St} {rv : Value} {rs : List RR} (hr : S.runs = rs.map runOf) (h : At W w (Both (CellT rb (refCells S rv) tRef) (Both (RowG tRRun 3 rv rs.length (rs.flatMap cellsR)) (Both (TextsT rs) R)))) : At W w (Both (RefT rb S) R) := by
  obtain ⟨h0, fp, h1, h5⟩ := h
  obtain ⟨f, g, h2, h3, h4, h6⟩ := Both.inn (Both.mono (fun w fp h => Both.inn h) h1)
  exact ⟨h0, fp, ⟨f, g, ⟨rv, rs, hr, h2⟩, h3, h4, h6⟩, h5⟩
theorem TextsT.mem {rs : List RR} {w : World} {fp : List Nat} (h : TextsT rs w fp) {r : RR} (hr : r ∈ rs) : w.ownsRow 0 tU8 1 r.v r.text.length (bvs r.text) := by
  induction rs generalizing fp with
  | nil => cases hr
  | cons a l ih =>
    obtain ⟨f, g, h1, h2, _⟩ := h
    rcases List.mem_cons.1 hr with rfl | hr
    · exact h1.1
    · exact ih h2 hr
/-- One text to the front. -/
theorem TextsT.pull {l1 l2 : List RR} {r : RR} {w : World} {fp : List Nat} (h : TextsT (l1 ++ r :: l2) w fp) : Both (TextT r) (TextsT (l1 ++ l2)) w fp := by
  induction l1 generalizing fp w with
  | nil => exact h
  | cons a l ih => exact Both.assoc (Both.mono (fun w fp h => ih h) h)
theorem TextsT.push {l1 l2 : List RR} {r : RR} {w : World} {fp : List Nat} (h : Both (TextT r) (TextsT (l1 ++ l2)) w fp) : TextsT (l1 ++ r :: l2) w fp := by
  induction l1 generalizing fp w with
  | nil => exact h
  | cons a l ih => exact Both.mono (fun w fp h => ih h) (Both.assoc h)

/-- What a reading walk needs. -/
structure RefR (w : World) (rb : Nat) (S : St) (rv : Value) (rs : List RR) : Prop where
  runs : S.runs = rs.map runOf
  cells : w.heap[rb]? = some (.cells (refCells S rv) tRef (0, 0))
  row : w.ownsRow 0 tRRun 3 rv rs.length (rs.flatMap cellsR)
  texts : ∀ r ∈ rs, w.ownsRow 0 tU8 1 r.v r.text.length (bvs r.text)
theorem At.refR {W w : World} {R : Thing} {rb : Nat} {S : St} {rv : Value} {rs : List RR} (hr : S.runs = rs.map runOf) (h : At W w (Both (CellT rb (refCells S rv) tRef) (Both (RowG tRRun 3 rv rs.length (rs.flatMap cellsR)) (Both (TextsT rs) R)))) : RefR w rb S rv rs := by
  refine ⟨hr, h.cell.1, h.drop.rowG, fun r hm => ?_⟩
  obtain ⟨_, fp, ⟨f, g, h1, _⟩, _⟩ := h.drop.drop
  exact TextsT.mem h1 hm
section
variable {w : World} {rb : Nat} {S : St} {rv : Value} {rs : List RR}
theorem RefR.c (h : RefR w rb S rv rs) : w.cell? ⟨rb, 0, none⟩ = some (.int .i64 S.cap) ∧ w.cell? ⟨rb, 1, none⟩ = some (.int .i64 S.peak) ∧ w.cell? ⟨rb, 2, none⟩ = some (.int .i64 S.made) ∧ w.cell? ⟨rb, 3, none⟩ = some (.int .i64 S.left) ∧ w.cell? ⟨rb, 4, none⟩ = some rv := by
  have h1 := h.cells
  exact ⟨by simp [World.cell?, h1], by simp [World.cell?, h1], by simp [World.cell?, h1], by simp [World.cell?, h1], by simp [World.cell?, h1]⟩
theorem RefR.fz (h : RefR w rb S rv rs) (k : Nat) : w.frozen? ⟨rb, k, none⟩ = false := by simp [World.frozen?, h.cells]
theorem RefR.below {w' : World} (h : RefR w rb S rv rs) (hb : Below w.heap.size w w') : RefR w' rb S rv rs :=
  ⟨h.runs, by rw [hb.block rb (lt_of_heap h.cells)]; exact h.cells, ownsRow_below h.row hb, fun r hr => ownsRow_below (h.texts r hr) hb⟩
theorem RefR.shape (h : RefR w rb S rv rs) : ∃ ao cap, rv = .slice ao rs.length cap ∧ rs.length ≤ cap ∧ cap ≤ maxLen := own_shape h.row
theorem RefR.item (h : RefR w rb S rv rs) {i : Nat} (hi : i < rs.length) : ∃ g cap, rv = .slice (some ⟨g, 0, none⟩) rs.length cap ∧ w.cell? ⟨g, i * 3, none⟩ = some (.int .i64 (rs.getD i default).num) ∧ w.cell? ⟨g, i * 3 + 1, none⟩ = some (rs.getD i default).v ∧ w.cell? ⟨g, i * 3 + 2, none⟩ = some (.bool (rs.getD i default).sealed) ∧ ∀ k, w.frozen? ⟨g, k, none⟩ = false := by
  obtain ⟨g, cap, rfl, _, _, _⟩ := own_cut h.row (by omega)
  have hc : ∀ j, j < 3 → w.cell? ⟨g, i * 3 + j, none⟩ = (cellsR (rs.getD i default))[j]? := fun j hj => by
    rw [h.row.cellAt _ (by omega), flatMap_get cellsR_len rs hi hj]
  exact ⟨g, cap, rfl, hc 0 (by omega), hc 1 (by omega), hc 2 (by omega), h.row.frozenAt⟩
theorem RefR.used (h : RefR w rb S rv rs) : usedOf S.runs = (rs.map fun r => r.text.length).sum := by
  rw [h.runs]; unfold usedOf; rw [List.map_map]; rfl
theorem RefR.rise (h : RefR w rb S rv rs) (hG : GoodS S) {i j : Nat} (hj : j < rs.length) (hij : i < j) : (rs.getD i default).num < (rs.getD j default).num := by
  have h1 := hG.rising
  rw [h.runs, List.pairwise_map] at h1
  have := List.pairwise_iff_getElem.1 h1 i j (by omega) hj hij
  rw [List.getD_eq_getElem?_getD, List.getD_eq_getElem?_getD, List.getElem?_eq_getElem (show i < rs.length by omega), List.getElem?_eq_getElem hj]
  exact this
end

theorem rising_unique {l : List (Nat × RunD)} (hr : l.Pairwise fun p q => p.1 < q.1) {p q : Nat × RunD} (hp : p ∈ l) (hq : q ∈ l) (h : p.1 = q.1) : p = q := by
  induction l with
  | nil => cases hp
  | cons a l ih =>
    obtain ⟨h1, h2⟩ := List.pairwise_cons.1 hr
    rcases List.mem_cons.1 hp with rfl | hp2 <;> rcases List.mem_cons.1 hq with rfl | hq2
    · rfl
    · have := h1 q hq2; omega
    · have := h1 p hp2; omega
    · exact ih h2 hp2 hq2
theorem find_of_mem {S : St} (hG : GoodS S) {p : Nat × RunD} (hp : p ∈ S.runs) : S.find p.1 = some p := by
  cases hf : S.find (p.1 : Int) with
  | none =>
    unfold St.find at hf
    have := List.find?_eq_none.1 hf p hp
    simp at this
  | some q =>
    obtain ⟨h1, h2⟩ := find_mem hf
    rw [rising_unique hG.rising h1 hp (Int.ofNat.inj h2)]
theorem find_no {S : St} {z : Int} (h : ∀ p ∈ S.runs, (p.1 : Int) ≠ z) : S.find z = none := by
  unfold St.find
  rw [List.find?_eq_none]
  intro p hp
  simpa using h p hp
theorem getD_mem {α : Type} [Inhabited α] {l : List α} {i : Nat} (h : i < l.length) : l.getD i default ∈ l := by
  rw [List.getD_eq_getElem?_getD, List.getElem?_eq_getElem h]
  exact List.getElem_mem h
theorem mem_getD {α : Type} [Inhabited α] {l : List α} {a : α} (h : a ∈ l) : ∃ i, i < l.length ∧ l.getD i default = a := by
  obtain ⟨i, hi, rfl⟩ := List.getElem_of_mem h
  exact ⟨i, hi, by rw [List.getD_eq_getElem?_getD, List.getElem?_eq_getElem hi]; rfl⟩
theorem rising_len {l : List (Nat × RunD)} (hr : l.Pairwise fun p q => p.1 < q.1) {a m : Nat} (h : ∀ p ∈ l, a < p.1 ∧ p.1 ≤ m) : l.length ≤ m - a := by
  induction l generalizing a with
  | nil => simp
  | cons p l ih =>
    obtain ⟨h1, h2⟩ := List.pairwise_cons.1 hr
    have := ih h2 (a := p.1) (fun q hq => ⟨h1 q hq, (h q (by simp [hq])).2⟩)
    have := h p (by simp)
    simp only [List.length_cons]
    omega
theorem RefR.len {w : World} {rb : Nat} {S : St} {rv : Value} {rs : List RR} (h : RefR w rb S rv rs) (hG : GoodS S) : rs.length ≤ 16777216 := by
  have h1 := rising_len (a := 0) (m := S.made) hG.rising (fun p hp => by have := hG.inside p hp; omega)
  rw [h.runs, List.length_map] at h1
  have := hG.sizes
  omega

/-- Where a number stands. -/
def PlaceR (rs : List RR) (S : St) (z r : Int) : Prop := (S.find z = none ∧ r = -1) ∨ ∃ i : Nat, i < rs.length ∧ ((rs.getD i default).num : Int) = z ∧ S.find z = some (runOf (rs.getD i default)) ∧ r = i
set_option maxRecDepth 100000 in
set_option maxHeartbeats 1600000 in
theorem place_calls {w : World} {rb : Nat} {S : St} {rv : Value} {rs : List RR} (h : RefR w rb S rv rs) (hG : GoodS S) {z : Int} (hz : inI64 z) :
    Calls Tryd.prog 51 #[.pointer (some ⟨rb, 0, none⟩), .int .i64 z] w fun e w' => (∃ r : Int, e = .returned (.int .i64 r) ∧ PlaceR rs S z r) ∧ w = w' := by
  obtain ⟨c0, c1, c2, c3, c4⟩ := h.c
  obtain ⟨ao, cap, hrv, hcap, hcm⟩ := h.shape
  subst hrv
  have hn := h.len hG
  have H := Lib.hid h
  have HG := Lib.hid hG
  clear h hG c0 c1 c2 c3
  go_enter Tryd.func51, Tryd.ntmps51
  (repeat' (first | (go_big_may; fail) | go_values | go_skip | go_guarded | go_step | go_upon | go_back | dsimp only))
  go_loop [5, 6] (fun a b => ∃ lo hi : Nat, a = .int .i64 lo ∧ b = .int .i64 hi ∧ lo ≤ hi ∧ hi ≤ rs.length ∧ (∀ i, i < lo → ((rs.getD i default).num : Int) < z) ∧ (∀ i, hi ≤ i → i < rs.length → z ≤ (rs.getD i default).num)) (fun a b => (intOf b - intOf a).toNat)
  case atStart => exact ⟨0, rs.length, rfl, rfl, by omega, by omega, fun i hi => by omega, fun i h1 h2 => by omega⟩
  case round =>
    obtain ⟨lo, hi, rfl, rfl, h1, h2, h3, h4⟩ := hrel
    have H3 := Lib.hid h3
    have H4 := Lib.hid h4
    clear h3 h4
    by_cases hlt : (lo : Int) < hi
    · have hw1 : IntKind.i64.wrap ((hi : Int) - lo) = (hi : Int) - lo := by rw [IntKind.wrap_i64] <;> omega
      have hml : lo + (hi - lo) / 2 < rs.length := by omega
      have hm0 : ((lo : Int) + ((hi - lo : Nat) : Int) / 2) = ((lo + (hi - lo) / 2 : Nat) : Int) := by omega
      have hw2 : IntKind.i64.wrap ((lo : Int) + ((hi - lo : Nat) : Int) / 2) = (lo : Int) + ((hi - lo : Nat) : Int) / 2 := by rw [IntKind.wrap_i64] <;> omega
      have hw3 : IntKind.i64.wrap ((lo : Int) + ((hi - lo : Nat) : Int) / 2 + 1) = (lo : Int) + ((hi - lo : Nat) : Int) / 2 + 1 := by rw [IntKind.wrap_i64] <;> omega
      obtain ⟨g, cap', hsl, i0, i1, i2, _⟩ := H.out.item hml
      cases hsl
      have HM := Lib.hid hm0
      have mono : ∀ i j, i ≤ j → j < rs.length → (rs.getD i default).num ≤ (rs.getD j default).num := fun i j hij hj => by
        rcases Nat.lt_or_ge i j with h5 | h5
        · exact Nat.le_of_lt (H.out.rise HG.out hj h5)
        · rw [show i = j by omega]; exact Nat.le_refl _
      have MONO := Lib.hid mono
      have HML := Lib.hid hml
      clear hm0 mono
      obtain ⟨q, hq⟩ : ∃ q, q = rs.getD (lo + (hi - lo) / 2) default := ⟨_, rfl⟩
      rw [← hq] at i0
      have HQ := Lib.hid hq
      clear hq i1 i2
      by_cases hcmp : (q.num : Int) < z
      · have HC := Lib.hid hcmp
        (repeat' (first | (go_big_may; fail) | go_values | go_skip | go_guarded | go_step | go_upon | go_back | dsimp only))
        refine ⟨⟨lo + (hi - lo) / 2 + 1, hi, ?_, rfl, by omega, h2, fun i hi' => ?_, H4.out⟩, ?_⟩
        · congr 1; omega
        · have := MONO.out i (lo + (hi - lo) / 2) (by omega) HML.out
          have := HC.out
          rw [HQ.out] at this
          omega
        · have := HM.out
          simp [intOf] <;> omega
      · have HC := Lib.hid hcmp
        (repeat' (first | (go_big_may; fail) | go_values | go_skip | go_guarded | go_step | go_upon | go_back | dsimp only))
        refine ⟨⟨lo, lo + (hi - lo) / 2, rfl, ?_, by omega, by omega, H3.out, fun i hi' hl => ?_⟩, ?_⟩
        · congr 1; omega
        · have := MONO.out (lo + (hi - lo) / 2) i (by omega) hl
          have := HC.out
          rw [HQ.out] at this
          omega
        · have := HM.out
          simp [intOf] <;> omega
    · obtain rfl : hi = lo := by omega
      rename Nat => lo
      by_cases hl : (lo : Int) < rs.length
      · obtain ⟨g, cap', hsl, i0, i1, i2, _⟩ := H.out.item (i := lo) (by omega)
        cases hsl
        obtain ⟨q, hq⟩ : ∃ q, q = rs.getD lo default := ⟨_, rfl⟩
        rw [← hq] at i0
        have HQ := Lib.hid hq
        have hk0 : (0 : Int) ≤ lo := by omega
        clear hq i1 i2 hlt h1
        by_cases hc : (q.num : Int) = z
        · have HP := Lib.hid (show PlaceR rs S z lo from .inr ⟨lo, by omega, by rw [← HQ.out]; exact hc, by
            rw [← HQ.out]
            have := find_of_mem HG.out (p := runOf q) (by rw [H.out.runs]; exact List.mem_map.2 ⟨q, by rw [HQ.out]; exact getD_mem (by omega), rfl⟩)
            rw [← hc]; exact this, rfl⟩)
          subst hc
          (repeat' (first | (go_big_may; fail) | go_values | go_skip | go_guarded | go_step | go_upon | go_back | dsimp only))
          go_ret
          exact ⟨⟨_, rfl, HP.out⟩, rfl⟩
        · have HP := Lib.hid (show PlaceR rs S z (-1) from .inl ⟨find_no fun p hp => by
            rw [H.out.runs] at hp
            obtain ⟨r, hr, rfl⟩ := List.mem_map.1 hp
            obtain ⟨i, hi, rfl⟩ := mem_getD hr
            rcases Nat.lt_trichotomy i lo with h5 | h5 | h5
            · have := H3.out i h5
              show ((rs.getD i default).num : Int) ≠ z
              omega
            · subst h5; rw [← HQ.out]; exact hc
            · have h6 := H4.out lo (by omega) (by omega)
              have := H.out.rise HG.out hi h5
              rw [← HQ.out] at h6 this
              show ((rs.getD i default).num : Int) ≠ z
              omega, rfl⟩)
          have hcb : ((q.num : Int) == z) = false := by simpa using hc
          (repeat' (first | (go_big_may; fail) | go_values | go_skip | go_guarded | go_step | go_upon | go_back | dsimp only))
          go_ret
          exact ⟨⟨_, rfl, HP.out⟩, rfl⟩
      · have HP := Lib.hid (show PlaceR rs S z (-1) from .inl ⟨find_no fun p hp => by
          rw [H.out.runs] at hp
          obtain ⟨r, hr, rfl⟩ := List.mem_map.1 hp
          obtain ⟨i, hi, rfl⟩ := mem_getD hr
          have := H3.out i (by omega)
          show ((rs.getD i default).num : Int) ≠ z
          omega, rfl⟩)
        (repeat' (first | (go_big_may; fail) | go_values | go_skip | go_guarded | go_step | go_upon | go_back | dsimp only))
        go_ret
        exact ⟨⟨_, rfl, HP.out⟩, rfl⟩
end Go.Proofs.YtomlkhfmblkpcaaDoor

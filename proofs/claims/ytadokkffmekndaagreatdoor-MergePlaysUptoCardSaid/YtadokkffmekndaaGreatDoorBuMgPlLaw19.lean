/- The document's store (hornbookref05) in memory; its reading functions walked. · The document's store (hornbookref05): New, Used, refused, fit, Size, Break, Seal walked. · The document's store (hornbookref05): New, Create, Seal, Break, Size, Read walked. · The document's store (hornbookref05): Seal, Size, Read, Live walked. -/
import Derived.Test.YtadokkffmekndaaGreatDoorBuMgPlLaw17
import Derived.Test.YtadokkffmekndaaGreatDoorBuMgPlLaw12
import Derived.Test.YtadokkffmekndaaGreatDoorBuMgPlLaw18
import Derived.Test.YtadokkffmekndaaGreatDoorBuMgPlLaw04
import Derived.Test.YtadokkffmekndaaGreatDoorBuMgPlLaw13
set_option linter.unusedSimpArgs false
set_option linter.unusedVariables false
namespace Go.Proofs.YtadokkffmekndaaGreatDoor
section
open Go.RowKit
structure RR where
  num : Nat
  v : Value
  text : List UInt8
  sealed : Bool
instance : Inhabited RR := ⟨⟨0, .slice none 0 0, [], false⟩⟩
abbrev tRef : TypeId := 90
abbrev tRRun : TypeId := 107
abbrev cellsR (r : RR) : List Value := [.int .i64 r.num, r.v, .bool r.sealed]
theorem cellsR_len : ∀ r, (cellsR r).length = 3 := fun _ => rfl
def runOf (r : RR) : Nat × RunD := (r.num, ⟨r.text, r.sealed⟩)
abbrev refCells (S : St) (rv : Value) : Array Value := #[.int .i64 S.cap, .int .i64 S.peak, .int .i64 S.made, .int .i64 S.left, rv]
def TextT (r : RR) : Thing := RowG tU8 1 r.v r.text.length (bvs r.text)
def TextsT : List RR → Thing
  | [] => Nought
  | r :: l => Both (TextT r) (TextsT l)
theorem TextT.stable (r : RR) : Stable (TextT r) := RowG.stable _ _ _ _ _
theorem TextsT.stable : ∀ l, Stable (TextsT l)
  | [] => Stable.nought
  | r :: l => (TextT.stable r).both (TextsT.stable l)
def RefT (rb : Nat) (S : St) : Thing := fun w fp => ∃ rv rs, S.runs = rs.map runOf ∧ Both (CellT rb (refCells S rv) tRef) (Both (RowG tRRun 3 rv rs.length (rs.flatMap cellsR)) (TextsT rs)) w fp
theorem refIn_stable (rb : Nat) (S : St) (rv : Value) (rs : List RR) : Stable (Both (CellT rb (refCells S rv) tRef) (Both (RowG tRRun 3 rv rs.length (rs.flatMap cellsR)) (TextsT rs))) :=
  (CellT.stable _ _ _).both ((RowG.stable _ _ _ _ _).both (TextsT.stable _))
theorem RefT.stable (rb : Nat) (S : St) : Stable (RefT rb S) :=
  ⟨fun w fp h => by obtain ⟨rv, rs, _, h1⟩ := h; exact (refIn_stable rb S rv rs).lt _ _ h1, fun w w' fp h hs => by
    obtain ⟨rv, rs, h0, h1⟩ := h
    exact ⟨rv, rs, h0, (refIn_stable rb S rv rs).same _ _ _ h1 hs⟩⟩
theorem Both.out {A B C : Thing} {w : World} {fp : List Nat} (h : Both (Both A B) C w fp) : Both A (Both B C) w fp := by
  obtain ⟨f, g, ⟨f1, g1, h1, h2, h3, h4⟩, h5, h6, h7⟩ := h
  refine ⟨f1, g1 ++ g, h1, ⟨g1, g, h2, h5, fun k hk => h6 k ((h4 k).2 (.inr hk)), fun k => List.mem_append⟩, fun k hk hk' => ?_, fun k => ?_⟩
  · rcases List.mem_append.1 hk' with h8 | h8
    · exact h3 k hk h8
    · exact h6 k ((h4 k).2 (.inl hk)) h8
  · rw [h7, h4, List.mem_append, or_assoc]
theorem Both.inn {A B C : Thing} {w : World} {fp : List Nat} (h : Both A (Both B C) w fp) : Both (Both A B) C w fp := by
  obtain ⟨f, g, h1, ⟨f1, g1, h2, h3, h4, h5⟩, h6, h7⟩ := h
  refine ⟨f ++ f1, g1, ⟨f, f1, h1, h2, fun k hk hk' => h6 k hk ((h5 k).2 (.inl hk')), fun k => List.mem_append⟩, h3, fun k hk hk' => ?_, fun k => ?_⟩
  · rcases List.mem_append.1 hk with h8 | h8
    · exact h6 k h8 ((h5 k).2 (.inr hk'))
    · exact h4 k h8 hk'
  · rw [h7, h5, List.mem_append, or_assoc]
theorem At.ref {W w : World} {R : Thing} {rb : Nat} {S : St} (h : At W w (Both (RefT rb S) R)) : ∃ rv rs, S.runs = rs.map runOf ∧ At W w (Both (CellT rb (refCells S rv) tRef) (Both (RowG tRRun 3 rv rs.length (rs.flatMap cellsR)) (Both (TextsT rs) R))) := by
  obtain ⟨h0, fp, ⟨f, g, ⟨rv, rs, hr, h1⟩, h2, h3, h4⟩, h5⟩ := h
  exact ⟨rv, rs, hr, h0, fp, Both.mono (fun w fp h => h.out) (Both.out ⟨f, g, h1, h2, h3, h4⟩), h5⟩
theorem At.toRef {W w : World} {R : Thing} {rb : Nat} {S : St} {rv : Value} {rs : List RR} (hr : S.runs = rs.map runOf) (h : At W w (Both (CellT rb (refCells S rv) tRef) (Both (RowG tRRun 3 rv rs.length (rs.flatMap cellsR)) (Both (TextsT rs) R)))) : At W w (Both (RefT rb S) R) := by
  obtain ⟨h0, fp, h1, h5⟩ := h
  obtain ⟨f, g, h2, h3, h4, h6⟩ := Both.inn (Both.mono (fun w fp h => Both.inn h) h1)
  exact ⟨h0, fp, ⟨f, g, ⟨rv, rs, hr, h2⟩, h3, h4, h6⟩, h5⟩
theorem TextsT.mem {rs : List RR} {w : World} {fp : List Nat} (h : TextsT rs w fp) {r : RR} (hr : r ∈ rs) : w.ownsRow 0 tU8 1 r.v r.text.length (bvs r.text) := by
  induction rs generalizing fp with
  | nil => cases hr
  | cons a l ih =>
    obtain ⟨f, g, h1, h2, _⟩ := h
    rcases List.mem_cons.1 hr with rfl | hr
    · exact h1.1
    · exact ih h2 hr
theorem TextsT.pull {l1 l2 : List RR} {r : RR} {w : World} {fp : List Nat} (h : TextsT (l1 ++ r :: l2) w fp) : Both (TextT r) (TextsT (l1 ++ l2)) w fp := by
  induction l1 generalizing fp w with
  | nil => exact h
  | cons a l ih => exact Both.assoc (Both.mono (fun w fp h => ih h) h)
theorem TextsT.push {l1 l2 : List RR} {r : RR} {w : World} {fp : List Nat} (h : Both (TextT r) (TextsT (l1 ++ l2)) w fp) : TextsT (l1 ++ r :: l2) w fp := by
  induction l1 generalizing fp w with
  | nil => exact h
  | cons a l ih => exact Both.mono (fun w fp h => ih h) (Both.assoc h)
structure RefR (w : World) (rb : Nat) (S : St) (rv : Value) (rs : List RR) : Prop where
  runs : S.runs = rs.map runOf
  cells : w.heap[rb]? = some (.cells (refCells S rv) tRef (0, 0))
  row : w.ownsRow 0 tRRun 3 rv rs.length (rs.flatMap cellsR)
  texts : ∀ r ∈ rs, w.ownsRow 0 tU8 1 r.v r.text.length (bvs r.text)
theorem At.refR {W w : World} {R : Thing} {rb : Nat} {S : St} {rv : Value} {rs : List RR} (hr : S.runs = rs.map runOf) (h : At W w (Both (CellT rb (refCells S rv) tRef) (Both (RowG tRRun 3 rv rs.length (rs.flatMap cellsR)) (Both (TextsT rs) R)))) : RefR w rb S rv rs := by
  refine ⟨hr, h.cell.1, h.drop.rowG, fun r hm => ?_⟩
  obtain ⟨_, fp, ⟨f, g, h1, _⟩, _⟩ := h.drop.drop
  exact TextsT.mem h1 hm
section
variable {w : World} {rb : Nat} {S : St} {rv : Value} {rs : List RR}
theorem RefR.c (h : RefR w rb S rv rs) : w.cell? ⟨rb, 0, none⟩ = some (.int .i64 S.cap) ∧ w.cell? ⟨rb, 1, none⟩ = some (.int .i64 S.peak) ∧ w.cell? ⟨rb, 2, none⟩ = some (.int .i64 S.made) ∧ w.cell? ⟨rb, 3, none⟩ = some (.int .i64 S.left) ∧ w.cell? ⟨rb, 4, none⟩ = some rv := by
  have h1 := h.cells
  exact ⟨by simp [World.cell?, h1], by simp [World.cell?, h1], by simp [World.cell?, h1], by simp [World.cell?, h1], by simp [World.cell?, h1]⟩
theorem RefR.fz (h : RefR w rb S rv rs) (k : Nat) : w.frozen? ⟨rb, k, none⟩ = false := by simp [World.frozen?, h.cells]
theorem RefR.below {w' : World} (h : RefR w rb S rv rs) (hb : Below w.heap.size w w') : RefR w' rb S rv rs :=
  ⟨h.runs, by rw [hb.block rb (lt_of_heap h.cells)]; exact h.cells, ownsRow_below h.row hb, fun r hr => ownsRow_below (h.texts r hr) hb⟩
theorem RefR.shape (h : RefR w rb S rv rs) : ∃ ao cap, rv = .slice ao rs.length cap ∧ rs.length ≤ cap ∧ cap ≤ maxLen := own_shape h.row
theorem RefR.item (h : RefR w rb S rv rs) {i : Nat} (hi : i < rs.length) : ∃ g cap, rv = .slice (some ⟨g, 0, none⟩) rs.length cap ∧ w.cell? ⟨g, i * 3, none⟩ = some (.int .i64 (rs.getD i default).num) ∧ w.cell? ⟨g, i * 3 + 1, none⟩ = some (rs.getD i default).v ∧ w.cell? ⟨g, i * 3 + 2, none⟩ = some (.bool (rs.getD i default).sealed) ∧ ∀ k, w.frozen? ⟨g, k, none⟩ = false := by
  obtain ⟨g, cap, rfl, _, _, _⟩ := own_cut h.row (by omega)
  have hc : ∀ j, j < 3 → w.cell? ⟨g, i * 3 + j, none⟩ = (cellsR (rs.getD i default))[j]? := fun j hj => by
    rw [h.row.cellAt _ (by omega), flatMap_get cellsR_len rs hi hj]
  exact ⟨g, cap, rfl, hc 0 (by omega), hc 1 (by omega), hc 2 (by omega), h.row.frozenAt⟩
theorem RefR.used (h : RefR w rb S rv rs) : usedOf S.runs = (rs.map fun r => r.text.length).sum := by
  rw [h.runs]; unfold usedOf; rw [List.map_map]; rfl
theorem RefR.rise (h : RefR w rb S rv rs) (hG : GoodS S) {i j : Nat} (hj : j < rs.length) (hij : i < j) : (rs.getD i default).num < (rs.getD j default).num := by
  have h1 := hG.rising
  rw [h.runs, List.pairwise_map] at h1
  have := List.pairwise_iff_getElem.1 h1 i j (by omega) hj hij
  rw [List.getD_eq_getElem?_getD, List.getD_eq_getElem?_getD, List.getElem?_eq_getElem (show i < rs.length by omega), List.getElem?_eq_getElem hj]
  exact this
end
theorem rising_unique {l : List (Nat × RunD)} (hr : l.Pairwise fun p q => p.1 < q.1) {p q : Nat × RunD} (hp : p ∈ l) (hq : q ∈ l) (h : p.1 = q.1) : p = q := by
  induction l with
  | nil => cases hp
  | cons a l ih =>
    obtain ⟨h1, h2⟩ := List.pairwise_cons.1 hr
    rcases List.mem_cons.1 hp with rfl | hp2 <;> rcases List.mem_cons.1 hq with rfl | hq2
    · rfl
    · have := h1 q hq2; omega
    · have := h1 p hp2; omega
    · exact ih h2 hp2 hq2
theorem find_of_mem {S : St} (hG : GoodS S) {p : Nat × RunD} (hp : p ∈ S.runs) : S.find p.1 = some p := by
  cases hf : S.find (p.1 : Int) with
  | none =>
    unfold St.find at hf
    have := List.find?_eq_none.1 hf p hp
    simp at this
  | some q =>
    obtain ⟨h1, h2⟩ := find_mem hf
    rw [rising_unique hG.rising h1 hp (Int.ofNat.inj h2)]
theorem find_no {S : St} {z : Int} (h : ∀ p ∈ S.runs, (p.1 : Int) ≠ z) : S.find z = none := by
  unfold St.find
  rw [List.find?_eq_none]
  intro p hp
  simpa using h p hp
theorem getD_mem {α : Type} [Inhabited α] {l : List α} {i : Nat} (h : i < l.length) : l.getD i default ∈ l := by
  rw [List.getD_eq_getElem?_getD, List.getElem?_eq_getElem h]
  exact List.getElem_mem h
theorem mem_getD {α : Type} [Inhabited α] {l : List α} {a : α} (h : a ∈ l) : ∃ i, i < l.length ∧ l.getD i default = a := by
  obtain ⟨i, hi, rfl⟩ := List.getElem_of_mem h
  exact ⟨i, hi, by rw [List.getD_eq_getElem?_getD, List.getElem?_eq_getElem hi]; rfl⟩
theorem rising_len {l : List (Nat × RunD)} (hr : l.Pairwise fun p q => p.1 < q.1) {a m : Nat} (h : ∀ p ∈ l, a < p.1 ∧ p.1 ≤ m) : l.length ≤ m - a := by
  induction l generalizing a with
  | nil => simp
  | cons p l ih =>
    obtain ⟨h1, h2⟩ := List.pairwise_cons.1 hr
    have := ih h2 (a := p.1) (fun q hq => ⟨h1 q hq, (h q (by simp [hq])).2⟩)
    have := h p (by simp)
    simp only [List.length_cons]
    omega
theorem RefR.len {w : World} {rb : Nat} {S : St} {rv : Value} {rs : List RR} (h : RefR w rb S rv rs) (hG : GoodS S) : rs.length ≤ 16777216 := by
  have h1 := rising_len (a := 0) (m := S.made) hG.rising (fun p hp => by have := hG.inside p hp; omega)
  rw [h.runs, List.length_map] at h1
  have := hG.sizes
  omega
def PlaceR (rs : List RR) (S : St) (z r : Int) : Prop := (S.find z = none ∧ r = -1) ∨ ∃ i : Nat, i < rs.length ∧ ((rs.getD i default).num : Int) = z ∧ S.find z = some (runOf (rs.getD i default)) ∧ r = i
set_option maxRecDepth 100000 in
set_option maxHeartbeats 1600000 in
theorem place_calls {w : World} {rb : Nat} {S : St} {rv : Value} {rs : List RR} (h : RefR w rb S rv rs) (hG : GoodS S) {z : Int} (hz : inI64 z) :
    Calls Tryz.prog 74 #[.pointer (some ⟨rb, 0, none⟩), .int .i64 z] w fun e w' => (∃ r : Int, e = .returned (.int .i64 r) ∧ PlaceR rs S z r) ∧ w = w' := by
  obtain ⟨c0, c1, c2, c3, c4⟩ := h.c
  obtain ⟨ao, cap, hrv, hcap, hcm⟩ := h.shape
  subst hrv
  have hn := h.len hG
  have H := Lib.hid h
  have HG := Lib.hid hG
  clear h hG c0 c1 c2 c3
  go_enter Tryz.func74, Tryz.ntmps74
  (repeat' (first | go_values | go_skip | go_guarded | go_step | go_upon | go_back | dsimp only))
  go_loop [5, 6] (fun a b => ∃ lo hi : Nat, a = .int .i64 lo ∧ b = .int .i64 hi ∧ lo ≤ hi ∧ hi ≤ rs.length ∧ (∀ i, i < lo → ((rs.getD i default).num : Int) < z) ∧ (∀ i, hi ≤ i → i < rs.length → z ≤ (rs.getD i default).num)) (fun a b => (intOf b - intOf a).toNat)
  case atStart => exact ⟨0, rs.length, rfl, rfl, by omega, by omega, fun i hi => by omega, fun i h1 h2 => by omega⟩
  case round =>
    obtain ⟨lo, hi, rfl, rfl, h1, h2, h3, h4⟩ := hrel
    have H3 := Lib.hid h3
    have H4 := Lib.hid h4
    clear h3 h4
    by_cases hlt : (lo : Int) < hi
    · have hw1 : IntKind.i64.wrap ((hi : Int) - lo) = (hi : Int) - lo := by rw [IntKind.wrap_i64] <;> omega
      have hml : lo + (hi - lo) / 2 < rs.length := by omega
      have hm0 : ((lo : Int) + ((hi - lo : Nat) : Int) / 2) = ((lo + (hi - lo) / 2 : Nat) : Int) := by omega
      have hw2 : IntKind.i64.wrap ((lo : Int) + ((hi - lo : Nat) : Int) / 2) = (lo : Int) + ((hi - lo : Nat) : Int) / 2 := by rw [IntKind.wrap_i64] <;> omega
      have hw3 : IntKind.i64.wrap ((lo : Int) + ((hi - lo : Nat) : Int) / 2 + 1) = (lo : Int) + ((hi - lo : Nat) : Int) / 2 + 1 := by rw [IntKind.wrap_i64] <;> omega
      obtain ⟨g, cap', hsl, i0, i1, i2, _⟩ := H.out.item hml
      cases hsl
      have HM := Lib.hid hm0
      have mono : ∀ i j, i ≤ j → j < rs.length → (rs.getD i default).num ≤ (rs.getD j default).num := fun i j hij hj => by
        rcases Nat.lt_or_ge i j with h5 | h5
        · exact Nat.le_of_lt (H.out.rise HG.out hj h5)
        · rw [show i = j by omega]; exact Nat.le_refl _
      have MONO := Lib.hid mono
      have HML := Lib.hid hml
      clear hm0 mono
      obtain ⟨q, hq⟩ : ∃ q, q = rs.getD (lo + (hi - lo) / 2) default := ⟨_, rfl⟩
      rw [← hq] at i0
      have HQ := Lib.hid hq
      clear hq i1 i2
      by_cases hcmp : (q.num : Int) < z
      · have HC := Lib.hid hcmp
        (repeat' (first | go_values | go_skip | go_guarded | go_step | go_upon | go_back | dsimp only))
        refine ⟨⟨lo + (hi - lo) / 2 + 1, hi, ?_, rfl, by omega, h2, fun i hi' => ?_, H4.out⟩, ?_⟩
        · congr 1; omega
        · have := MONO.out i (lo + (hi - lo) / 2) (by omega) HML.out
          have := HC.out
          rw [HQ.out] at this
          omega
        · have := HM.out
          simp [intOf] <;> omega
      · have HC := Lib.hid hcmp
        (repeat' (first | go_values | go_skip | go_guarded | go_step | go_upon | go_back | dsimp only))
        refine ⟨⟨lo, lo + (hi - lo) / 2, rfl, ?_, by omega, by omega, H3.out, fun i hi' hl => ?_⟩, ?_⟩
        · congr 1; omega
        · have := MONO.out (lo + (hi - lo) / 2) i (by omega) hl
          have := HC.out
          rw [HQ.out] at this
          omega
        · have := HM.out
          simp [intOf] <;> omega
    · obtain rfl : hi = lo := by omega
      rename Nat => lo
      by_cases hl : (lo : Int) < rs.length
      · obtain ⟨g, cap', hsl, i0, i1, i2, _⟩ := H.out.item (i := lo) (by omega)
        cases hsl
        obtain ⟨q, hq⟩ : ∃ q, q = rs.getD lo default := ⟨_, rfl⟩
        rw [← hq] at i0
        have HQ := Lib.hid hq
        have hk0 : (0 : Int) ≤ lo := by omega
        clear hq i1 i2 hlt h1
        by_cases hc : (q.num : Int) = z
        · have HP := Lib.hid (show PlaceR rs S z lo from .inr ⟨lo, by omega, by rw [← HQ.out]; exact hc, by
            rw [← HQ.out]
            have := find_of_mem HG.out (p := runOf q) (by rw [H.out.runs]; exact List.mem_map.2 ⟨q, by rw [HQ.out]; exact getD_mem (by omega), rfl⟩)
            rw [← hc]; exact this, rfl⟩)
          subst hc
          (repeat' (first | go_values | go_skip | go_guarded | go_step | go_upon | go_back | dsimp only))
          go_ret
          exact ⟨⟨_, rfl, HP.out⟩, rfl⟩
        · have HP := Lib.hid (show PlaceR rs S z (-1) from .inl ⟨find_no fun p hp => by
            rw [H.out.runs] at hp
            obtain ⟨r, hr, rfl⟩ := List.mem_map.1 hp
            obtain ⟨i, hi, rfl⟩ := mem_getD hr
            rcases Nat.lt_trichotomy i lo with h5 | h5 | h5
            · have := H3.out i h5
              show ((rs.getD i default).num : Int) ≠ z
              omega
            · subst h5; rw [← HQ.out]; exact hc
            · have h6 := H4.out lo (by omega) (by omega)
              have := H.out.rise HG.out hi h5
              rw [← HQ.out] at h6 this
              show ((rs.getD i default).num : Int) ≠ z
              omega, rfl⟩)
          have hcb : ((q.num : Int) == z) = false := by simpa using hc
          (repeat' (first | go_values | go_skip | go_guarded | go_step | go_upon | go_back | dsimp only))
          go_ret
          exact ⟨⟨_, rfl, HP.out⟩, rfl⟩
      · have HP := Lib.hid (show PlaceR rs S z (-1) from .inl ⟨find_no fun p hp => by
          rw [H.out.runs] at hp
          obtain ⟨r, hr, rfl⟩ := List.mem_map.1 hp
          obtain ⟨i, hi, rfl⟩ := mem_getD hr
          have := H3.out i (by omega)
          show ((rs.getD i default).num : Int) ≠ z
          omega, rfl⟩)
        (repeat' (first | go_values | go_skip | go_guarded | go_step | go_upon | go_back | dsimp only))
        go_ret
        exact ⟨⟨_, rfl, HP.out⟩, rfl⟩
end
section
open Go.RowKit
theorem sum_take_succ {l : List Nat} {k : Nat} (h : k < l.length) : (l.take (k + 1)).sum = (l.take k).sum + l.getD k 0 := by
  rw [List.take_add_one, List.getElem?_eq_getElem h, List.getD_eq_getElem?_getD, List.getElem?_eq_getElem h]
  simp only [Option.toList_some, List.sum_append, List.sum_cons, List.sum_nil, Nat.add_zero, Option.getD_some]
theorem sum_take_le (l : List Nat) (k : Nat) : (l.take k).sum ≤ l.sum := by
  conv => rhs; rw [← List.take_append_drop k l, List.sum_append]
  omega
def lens (rs : List RR) : List Nat := rs.map fun r => r.text.length
set_option maxRecDepth 100000 in
set_option maxHeartbeats 1600000 in
theorem rUsed_calls0 {w : World} {rb : Nat} {S : St} {rv : Value} {rs : List RR} (h : RefR w rb S rv rs) (hGu : S.used = usedOf S.runs) (hn : rs.length ≤ 16777216) (hs : S.used ≤ 67108864) :
    Calls Tryz.prog 54 #[.pointer (some ⟨rb, 0, none⟩)] w fun e w' => e = .returned (.int .i64 S.used) ∧ w = w' := by
  obtain ⟨_, _, _, _, c4⟩ := h.c
  obtain ⟨ao, cap, hrv, hcap, hcm⟩ := h.shape
  subst hrv
  have hu : S.used = (lens rs).sum := by rw [hGu, h.used]; rfl
  have hll : (lens rs).length = rs.length := by simp [lens]
  have H := Lib.hid h
  clear h hGu
  go_enter Tryz.func54, Tryz.ntmps54
  (repeat' (first | go_values | go_skip | go_guarded | go_step | go_upon | go_back | dsimp only))
  go_loop [3, 4] (fun a b => ∃ k : Nat, a = .int .i64 (((lens rs).take k).sum : Nat) ∧ b = .int .i64 k ∧ k ≤ rs.length) (fun a b => rs.length - (intOf b).toNat)
  case atStart => exact ⟨0, rfl, rfl, by omega⟩
  case round =>
    obtain ⟨k, rfl, rfl, hk⟩ := hrel
    by_cases hlt : (k : Int) < rs.length
    · obtain ⟨g, cap', hsl, i0, i1, i2, _⟩ := H.out.item (i := k) (by omega)
      cases hsl
      have htx := H.out.texts _ (getD_mem (show k < rs.length by omega))
      have hsum := sum_take_succ (l := lens rs) (k := k) (by omega)
      have hle := sum_take_le (lens rs) (k + 1)
      have hgd : (lens rs).getD k 0 = (rs.getD k default).text.length := by
        unfold lens
        rw [List.getD_eq_getElem?_getD, List.getD_eq_getElem?_getD, List.getElem?_map, List.getElem?_eq_getElem (show k < rs.length by omega)]
        rfl
      rw [hgd] at hsum
      obtain ⟨at_, capt, hv, _, _⟩ := own_shape htx
      generalize rs.getD k default = q at *
      obtain ⟨qn, qv, qt, qs⟩ := q
      dsimp only at hv i1 hsum
      subst hv
      have hk0 : (0 : Int) ≤ k := by omega
      have HS := Lib.hid hsum
      have hw1 : IntKind.i64.wrap ((((lens rs).take k).sum : Int) + qt.length) = (((lens rs).take k).sum : Int) + qt.length := by rw [IntKind.wrap_i64] <;> omega
      generalize ((lens rs).take k).sum = sk at *
      clear hsum htx i0 i2 hgd
      (repeat' (first | go_values | go_skip | go_guarded | go_step | go_upon | go_back | dsimp only))
      refine ⟨⟨k + 1, ?_, by simp, by omega⟩, by simp [intOf] <;> omega⟩
      rw [HS.out]; simp
    · have hkn : k = rs.length := by omega
      subst hkn
      have he : ((lens rs).take rs.length).sum = S.used := by rw [← hll, List.take_length, hu]
      rw [he]
      (repeat' (first | go_values | go_skip | go_guarded | go_step | go_upon | go_back | dsimp only))
      go_ret
      exact ⟨rfl, rfl⟩
theorem rUsed_calls {w : World} {rb : Nat} {S : St} {rv : Value} {rs : List RR} (h : RefR w rb S rv rs) (hG : GoodS S) :
    Calls Tryz.prog 54 #[.pointer (some ⟨rb, 0, none⟩)] w fun e w' => e = .returned (.int .i64 S.used) ∧ w = w' :=
  rUsed_calls0 h hG.used (h.len hG) (by have := hG.sizes; omega)
set_option maxRecDepth 100000 in
set_option maxHeartbeats 1600000 in
theorem refused_at {W w : World} {R : Thing} {rb : Nat} {S : St} (h : At W w (Both (RefT rb S) R)) (hR : Stable R) (hG : GoodS S) :
    Calls Tryz.prog 64 #[.pointer (some ⟨rb, 0, none⟩)] w fun e w' => e = .returned (.bool (decide (S.left = 1))) ∧ At W w' (Both (RefT rb (stepS S)) R) := by
  have hl := hG.sizes.2.2.2.2
  obtain ⟨rv, rs, hr, h1⟩ := h.ref
  have hf := h1.refR hr
  obtain ⟨_, _, _, c3, _⟩ := hf.c
  have fz := hf.fz
  have hst : Stable (Both (RowG tRRun 3 rv rs.length (rs.flatMap cellsR)) (Both (TextsT rs) R)) := (RowG.stable _ _ _ _ _).both ((TextsT.stable _).both hR)
  by_cases h0 : S.left = 0
  · have hs : stepS S = S := by unfold stepS; rw [h0]; cases S; simp_all
    rw [hs, h0]
    rw [h0] at c3
    have HH := Lib.hid h
    clear h h1 hf hr hst hs hl h0 hG
    go_enter Tryz.func64, Tryz.ntmps64
    (repeat' (first | go_values | go_skip | go_guarded | go_step | go_upon | go_back | dsimp only))
    go_ret
    exact ⟨rfl, HH.out⟩
  · obtain ⟨n, hn⟩ : ∃ n, S.left = n + 1 := ⟨S.left - 1, by omega⟩
    have h2 := h1.setCell hst 3 (.int .i64 (n : Int))
    have hc : (refCells S rv).setIfInBounds 3 (.int .i64 (n : Int)) = refCells (stepS S) rv := by
      unfold stepS; simp [refCells, hn]
    rw [hc] at h2
    have HH := Lib.hid (At.toRef (S := stepS S) hr h2)
    rw [hn] at c3 hl ⊢
    have e1 : ((n + 1 : Nat) : Int) = (n : Int) + 1 := by omega
    rw [e1] at c3
    have hw1 : IntKind.i64.wrap ((n : Int) + 1 - 1) = n := by rw [IntKind.wrap_i64] <;> omega
    have hd : (decide (n + 1 = 1)) = ((n : Int) == 0) := by
      by_cases hz : n = 0
      · subst hz; rfl
      · rw [decide_eq_false (by omega)]; symm; simpa using hz
    rw [hd]
    have hn0 : ¬ ((n : Int) + 1 < 1) := by omega
    clear h h1 hf hr hst h2 hc hn h0 e1 hG hd
    go_enter Tryz.func64, Tryz.ntmps64
    (repeat' (first | go_values | go_skip | go_guarded | go_step | go_upon | go_back | dsimp only))
    go_ret
    exact ⟨rfl, HH.out⟩
def FitR (rs : List RR) (S : St) (z i : Int) (c : Nat) : Prop :=
  (S.find z = none ∧ i = 0 ∧ c = 3) ∨ ∃ j : Nat, j < rs.length ∧ ((rs.getD j default).num : Int) = z ∧ S.find z = some (runOf (rs.getD j default)) ∧ (((rs.getD j default).sealed = true ∧ i = 0 ∧ c = 4) ∨ ((rs.getD j default).sealed = false ∧ i = j ∧ c = 0))
set_option maxRecDepth 100000 in
set_option maxHeartbeats 1600000 in
theorem fit_calls {w : World} {rb : Nat} {S : St} {rv : Value} {rs : List RR} (h : RefR w rb S rv rs) (hG : GoodS S) {z : Int} (hz : inI64 z) :
    Calls Tryz.prog 67 #[.pointer (some ⟨rb, 0, none⟩), .int .i64 z] w fun e w' => (∃ (i : Int) (c : Nat), e = .returned (.tuple #[.int .i64 i, .int .i64 c]) ∧ FitR rs S z i c) ∧ w = w' := by
  have H := Lib.hid h
  have HG := Lib.hid hG
  have hn := h.len hG
  obtain ⟨_, _, _, _, c4⟩ := h.c
  obtain ⟨ao, cap, hrv, hcap, hcm⟩ := h.shape
  subst hrv
  clear h hG
  go_enter Tryz.func67, Tryz.ntmps67
  (repeat' (first | go_values | go_skip | go_guarded | go_step | go_upon | go_back | dsimp only))
  refine (place_calls H.out HG.out hz).mono ?_
  rintro e w1 ⟨⟨r, rfl, hp⟩, rfl⟩
  rcases hp with ⟨hf, rfl⟩ | ⟨j, hj, hnum, hf, rfl⟩
  · have HF := Lib.hid hf
    clear hf
    (repeat' (first | go_values | go_skip | go_guarded | go_step | go_upon | go_back | dsimp only))
    go_ret2
    exact ⟨⟨_, _, rfl, .inl ⟨HF.out, rfl, rfl⟩⟩, rfl⟩
  · obtain ⟨g, cap', hsl, _, _, i2, _⟩ := H.out.item hj
    cases hsl
    have hj0 : (0 : Int) ≤ j := by omega
    have hj1 : (j : Int) < rs.length := by omega
    have HF := Lib.hid hf
    have HN := Lib.hid hnum
    clear hf hnum
    cases hs : (rs.getD j default).sealed with
    | true =>
      rw [hs] at i2
      have HS := Lib.hid hs
      clear hs
      (repeat' (first | go_values | go_skip | go_guarded | go_step | go_upon | go_back | dsimp only))
      go_ret2
      exact ⟨⟨_, _, rfl, .inr ⟨j, hj, HN.out, HF.out, .inl ⟨HS.out, rfl, rfl⟩⟩⟩, rfl⟩
    | false =>
      rw [hs] at i2
      have HS := Lib.hid hs
      clear hs
      (repeat' (first | go_values | go_skip | go_guarded | go_step | go_upon | go_back | dsimp only))
      go_ret2
      exact ⟨⟨_, _, rfl, .inr ⟨j, hj, HN.out, HF.out, .inr ⟨HS.out, rfl, rfl⟩⟩⟩, rfl⟩
end
section
open Go.RowKit
set_option maxRecDepth 100000 in
set_option maxHeartbeats 1600000 in
theorem rNew_at {W w : World} {Φ : Thing} (h : At W w Φ) (hs : Stable Φ) {c : Int} (hc : inI64 c) :
    Calls Tryz.prog 19 #[.int .i64 c] w fun e w' => e = .returned (.pointer (some ⟨w.heap.size, 0, none⟩)) ∧ At W w' (Both (RefT w.heap.size (newSt c)) Φ) := by
  have h1 : At W w (Both Nought Φ) := h.add hs (Below.refl _ _) (fp := []) rfl (by simp)
  have h2 := h1.noRowG (Stable.nought.both hs) tRRun 3
  have h3 := h2.newCell ((RowG.stable _ _ _ _ _).both (Stable.nought.both hs)) (refCells (newSt c) (.slice none 0 0)) tRef
  have h4 := At.toRef (S := newSt c) (rs := []) rfl h3
  have hcp : ((newSt c).cap : Int) = max 0 (min c 67108864) := by simp only [newSt]; omega
  have hz : (newSt c).peak = 0 ∧ (newSt c).made = 0 ∧ (newSt c).left = 0 := ⟨rfl, rfl, rfl⟩
  unfold refCells at h4
  rw [hcp, hz.1, hz.2.1, hz.2.2] at h4
  have H := Lib.hid h4
  clear h h1 h2 h3 h4 hcp hz
  by_cases h0 : c < 0
  · rw [show max 0 (min c 67108864) = (0 : Int) by omega] at H
    go_enter Tryz.func19, Tryz.ntmps19
    (repeat' (first | go_values | go_skip | go_guarded | go_step | go_upon | go_back | dsimp only))
    go_ret
    exact ⟨rfl, H.out⟩
  · by_cases h1 : 67108864 < c
    · rw [show max 0 (min c 67108864) = (67108864 : Int) by omega] at H
      go_enter Tryz.func19, Tryz.ntmps19
      (repeat' (first | go_values | go_skip | go_guarded | go_step | go_upon | go_back | dsimp only))
      go_ret
      exact ⟨rfl, H.out⟩
    · rw [show max 0 (min c 67108864) = c by omega] at H
      go_enter Tryz.func19, Tryz.ntmps19
      (repeat' (first | go_values | go_skip | go_guarded | go_step | go_upon | go_back | dsimp only))
      go_ret
      exact ⟨rfl, H.out⟩
theorem refCells_left (S : St) (rv : Value) (n : Nat) : (refCells S rv).setIfInBounds 3 (.int .i64 (n : Int)) = refCells { S with left := n } rv := by simp [refCells]
set_option maxRecDepth 100000 in
set_option maxHeartbeats 1600000 in
theorem rBreak_at {W w : World} {R : Thing} {rb : Nat} {S : St} (h : At W w (Both (RefT rb S) R)) (hR : Stable R) {z : Int} (hz : inI64 z) :
    Calls Tryz.prog 23 #[.pointer (some ⟨rb, 0, none⟩), .int .i64 z] w fun e w' => e = .returned (.tuple #[]) ∧ At W w' (Both (RefT rb (breakS S z)) R) := by
  obtain ⟨rv, rs, hr, h1⟩ := h.ref
  have hf := h1.refR hr
  obtain ⟨_, _, _, c3, _⟩ := hf.c
  have fz := hf.fz
  have hst : Stable (Both (RowG tRRun 3 rv rs.length (rs.flatMap cellsR)) (Both (TextsT rs) R)) := (RowG.stable _ _ _ _ _).both ((TextsT.stable _).both hR)
  have h2 := h1.setCell hst 3 (.int .i64 (z.toNat : Int))
  rw [refCells_left] at h2
  have HH := Lib.hid (At.toRef (S := breakS S z) hr h2)
  clear h h1 hf hr hst h2
  by_cases h0 : z < 0
  · rw [show ((z.toNat : Nat) : Int) = 0 by omega] at HH
    go_enter Tryz.func23, Tryz.ntmps23
    (repeat' (first | go_values | go_skip | go_guarded | go_step | go_upon | go_back | dsimp only))
    go_end0
    exact ⟨rfl, HH.out⟩
  · rw [show ((z.toNat : Nat) : Int) = z by omega] at HH
    go_enter Tryz.func23, Tryz.ntmps23
    (repeat' (first | go_values | go_skip | go_guarded | go_step | go_upon | go_back | dsimp only))
    go_end0
    exact ⟨rfl, HH.out⟩
theorem TextsT.nil_end {rs : List RR} {n : Nat} {b : Bool} {w : World} {fp : List Nat} (h : TextsT rs w fp) : TextsT (rs ++ [⟨n, .slice none 0 0, [], b⟩]) w fp :=
  TextsT.push (l2 := []) ⟨[], fp, ⟨World.ownsRow_nil _ _ _ _, rfl⟩, by rw [List.append_nil]; exact h, by simp, fun k => by simp⟩
theorem info_run : (Tryz.prog.info? tRRun).map (fun i => (i.zero, i.size, i.bytes)) = some (some (.agg #[.int .i64 0, .slice none 0 0, .bool false]), 3, 40) := by kernel_rfl
set_option maxRecDepth 100000 in
set_option maxHeartbeats 3200000 in
theorem rCreate_at {W w : World} {R : Thing} {rb : Nat} {S : St} (h : At W w (Both (RefT rb S) R)) (hR : Stable R) (hG : GoodS S) :
    Calls Tryz.prog 43 #[.pointer (some ⟨rb, 0, none⟩)] w fun e w' => e = .returned (.tuple #[.int .i64 (createP S).2.1, .int .i64 (createP S).2.2]) ∧ At W w' (Both (RefT rb (createP S).1) R) := by
  have HREF := Lib.hid (refused_at h hR hG)
  have HG := Lib.hid hG
  have HR := Lib.hid hR
  unfold createP
  clear h hG hR
  by_cases h9 : S.left = 1
  · rw [if_pos h9]
    rw [decide_eq_true h9] at HREF
    clear h9
    go_enter Tryz.func43, Tryz.ntmps43
    (repeat' (first | go_values | go_skip | go_guarded | go_step | go_upon | go_back | dsimp only))
    refine HREF.out.mono ?_
    rintro e w1 ⟨rfl, h1⟩
    have H1 := Lib.hid h1
    clear h1
    (repeat' (first | go_values | go_skip | go_guarded | go_step | go_upon | go_back | dsimp only))
    go_ret2
    exact ⟨rfl, H1.out⟩
  · rw [if_neg h9]
    rw [decide_eq_false h9] at HREF
    have hm := HG.out.sizes.2.2.2.1
    by_cases h8 : S.made = 16777216
    · rw [if_pos h8]
      go_enter Tryz.func43, Tryz.ntmps43
      (repeat' (first | go_values | go_skip | go_guarded | go_step | go_upon | go_back | dsimp only))
      refine HREF.out.mono ?_
      rintro e w1 ⟨rfl, h1⟩
      obtain ⟨rv, rs, hr, h2⟩ := h1.ref
      obtain ⟨_, _, c2, _, _⟩ := (h2.refR hr).c
      have e0 : (stepS S).made = S.made := rfl
      rw [e0] at c2
      have H1 := Lib.hid h1
      have h8' : (16777216 : Int) ≤ (S.made : Int) := by omega
      clear h1 h2 h9 hr h8
      (repeat' (first | go_values | go_skip | go_guarded | go_step | go_upon | go_back | dsimp only))
      go_ret2
      exact ⟨rfl, H1.out⟩
    · rw [if_neg h8]
      dsimp only
      have e1 : ((S.made + 1 : Nat) : Int) = (S.made : Int) + 1 := by omega
      rw [e1]
      go_enter Tryz.func43, Tryz.ntmps43
      (repeat' (first | go_values | go_skip | go_guarded | go_step | go_upon | go_back | dsimp only))
      refine HREF.out.mono ?_
      rintro e w1 ⟨rfl, h1⟩
      obtain ⟨rv, rs, hr, h2⟩ := h1.ref
      have hf := h2.refR hr
      obtain ⟨_, _, c2, _, _⟩ := hf.c
      have fz := hf.fz
      have hn := hf.len HG.out.step
      have e0 : (stepS S).made = S.made := rfl
      rw [e0] at c2
      have hw1 : IntKind.i64.wrap ((S.made : Int) + 1) = (S.made : Int) + 1 := by rw [IntKind.wrap_i64] <;> omega
      have h8' : ¬ (16777216 : Int) ≤ (S.made : Int) := by omega
      have hstR : Stable (Both (TextsT rs) R) := (TextsT.stable _).both HR.out
      have hst : Stable (Both (RowG tRRun 3 rv rs.length (rs.flatMap cellsR)) (Both (TextsT rs) R)) := (RowG.stable _ _ _ _ _).both hstR
      have h3 := h2.setCell hst 2 (.int .i64 ((S.made : Int) + 1))
      have HR3 := Lib.hid hr
      clear h1 h2 h9 hr h8 hf
      have cB := cell_of h3.cell.1 2
      obtain ⟨X, hX⟩ : ∃ X, X = w1.setCell ⟨rb, 2, none⟩ (.int .i64 ((S.made : Int) + 1)) := ⟨_, rfl⟩
      rw [← hX] at h3 cB
      have HX := Lib.hid hX
      have H3 := Lib.hid h3
      have HST := Lib.hid hst
      have HSTR := Lib.hid hstR
      have CB := Lib.hid cB
      clear hX h3 hst hstR cB
      (repeat' (first | go_values | go_skip | go_guarded | go_step | go_upon | go_back | dsimp only))
      rw [← HX.out]
      clear HX c2 fz
      have h3 := H3.out
      have cB := CB.out
      have hlt := lt_of_heap h3.cell.1
      have cA := cell_of h3.cell.1 4
      simp only [refCells, List.setIfInBounds_toArray, List.set_cons_zero, List.set_cons_succ, List.getElem?_toArray, List.getElem?_cons_zero, List.getElem?_cons_succ] at cA cB
      have fA := thaw_of h3.cell.1
      obtain ⟨v2, w2, hrun, h4, _, _⟩ := append_at_run (P := Tryz.prog) 88 88 tRRun Tryz.underlying88 info_run rfl (by decide) (h3.swap.mono ((RowG.stable _ _ _ _ _).both ((CellT.stable _ _ _).both HSTR.out)) ((Below.refl _ _).drew)) ((CellT.stable _ _ _).both HSTR.out) (C := #[.int .i64 ((S.made : Int) + 1), .slice none 0 0, .bool false]) (m := 1) (c := 1) rfl (by intro u hu; simp at hu; rcases hu with rfl | rfl | rfl <;> rfl) (by unfold maxLen; omega) (by omega)
      obtain ⟨ao2, cap2, hv2, _, _⟩ := own_shape h4.rowG
      subst hv2
      have cC := cell_of h4.drop.cell.1 4
      have cD := cell_of h4.drop.cell.1 2
      simp only [refCells, List.setIfInBounds_toArray, List.set_cons_zero, List.set_cons_succ, List.getElem?_toArray, List.getElem?_cons_zero, List.getElem?_cons_succ] at cC cD
      have fC := thaw_of h4.drop.cell.1
      have hlt2 := lt_of_heap h4.drop.cell.1
      have h5 := h4.swap.setCell ((RowG.stable _ _ _ _ _).both HSTR.out) 4 (.slice ao2 (rs.length + 1) cap2)
      have h6 : At W (w2.setCell ⟨rb, 4, none⟩ (.slice ao2 (rs.length + 1) cap2)) (Both (RefT rb (createS (stepS S))) R) := by
        refine At.toRef (rv := .slice ao2 (rs.length + 1) cap2) (rs := rs ++ [⟨S.made + 1, .slice none 0 0, [], false⟩]) (by show (stepS S).runs ++ [(S.made + 1, ⟨[], false⟩)] = _; rw [HR3.out, List.map_append]; rfl) (h5.impl fun fp q => ?_)
        have q2 := Both.mono (fun w fp h => Both.mono (fun w fp h => Both.comm (Both.mono (fun w fp h => TextsT.nil_end (n := S.made + 1) (b := false) h) (Both.comm h))) h) q
        simpa [refCells, createS, stepS, cellsR] using q2
      have H6 := Lib.hid h6
      have hm6 : (w2.setCell ⟨rb, 4, none⟩ (.slice ao2 (rs.length + 1) cap2)).cell? ⟨rb, 2, none⟩ = some (.int .i64 ((S.made : Int) + 1)) := by
        have := cell_of h5.cell.1 2
        rw [this]; simp [refCells]
      have HM6 := Lib.hid hm6
      clear h3 h4 h5 h6 hm6 H3 CB
      go_region_law (refine step_append_run rfl _ _ 88 rfl _ _ rfl rfl hrun ?_)
      all_goals
        clear hrun cA cB cC cD fA fC
        have hm := HM6.out
        have h6 := H6.out
        generalize w2.setCell ⟨rb, 4, none⟩ (.slice ao2 (rs.length + 1) cap2) = w6 at *
        have H6 := Lib.hid h6
        clear h6
        (repeat' (first | go_values | go_skip | go_guarded | go_step | go_upon | go_back | dsimp only))
        go_ret2
        exact ⟨rfl, H6.out⟩
end
section
open Go.RowKit
theorem flatMap_set {α : Type} [Inhabited α] {n : Nat} {c : α → List Value} (hc : ∀ x, (c x).length = n) (l : List α) {j k : Nat} {u : Value} {x : α} (hj : j < l.length) (hk : k < n) (hx : (c (l.getD j default)).set k u = c x) :
    (l.flatMap c).set (j * n + k) u = (l.set j x).flatMap c := by
  induction l generalizing j with
  | nil => simp at hj
  | cons a l ih =>
    cases j with
    | zero =>
      rw [List.set_cons_zero, List.flatMap_cons, List.flatMap_cons, Nat.zero_mul, Nat.zero_add, List.set_append_left _ _ (by rw [hc]; exact hk)]
      congr 1
    | succ j =>
      rw [List.set_cons_succ, List.flatMap_cons, List.flatMap_cons, List.set_append_right _ _ (by rw [hc, Nat.add_mul]; omega), hc, show (j + 1) * n + k - n = j * n + k by rw [Nat.add_mul]; omega, ih (by simpa using hj) hx]
theorem split_at {α : Type} [Inhabited α] {l : List α} {j : Nat} (hj : j < l.length) : l = l.take j ++ l.getD j default :: l.drop (j + 1) := by
  rw [List.getD_eq_getElem?_getD, List.getElem?_eq_getElem hj]
  simp
theorem set_split {α : Type} {l : List α} {j : Nat} {x : α} (hj : j < l.length) : l.set j x = l.take j ++ x :: l.drop (j + 1) := by
  rw [List.set_eq_take_append_cons_drop, if_pos hj]
theorem TextsT.get {rs : List RR} {j : Nat} (hj : j < rs.length) {w : World} {fp : List Nat} (h : TextsT rs w fp) : Both (TextT (rs.getD j default)) (TextsT (rs.take j ++ rs.drop (j + 1))) w fp :=
  TextsT.pull (by rw [← split_at hj]; exact h)
theorem TextsT.put {rs : List RR} {j : Nat} (hj : j < rs.length) {x : RR} {w : World} {fp : List Nat} (h : Both (TextT x) (TextsT (rs.take j ++ rs.drop (j + 1))) w fp) : TextsT (rs.set j x) w fp := by
  rw [set_split hj]; exact TextsT.push h
theorem TextsT.same {rs : List RR} {j : Nat} (hj : j < rs.length) {x : RR} (hv : x.v = (rs.getD j default).v) (ht : x.text = (rs.getD j default).text) {w : World} {fp : List Nat} (h : TextsT rs w fp) : TextsT (rs.set j x) w fp := by
  refine TextsT.put hj ?_
  have e : TextT x = TextT (rs.getD j default) := by unfold TextT; rw [hv, ht]
  rw [e]; exact TextsT.get hj h
theorem nums_ne {S : St} (hG : GoodS S) {rs : List RR} (hr : S.runs = rs.map runOf) {i j : Nat} (hi : i < rs.length) (hj : j < rs.length) (hij : i ≠ j) : (rs.getD i default).num ≠ (rs.getD j default).num := by
  have h1 := hG.rising
  rw [hr, List.pairwise_map] at h1
  have h2 := List.pairwise_iff_getElem.1 h1
  rw [List.getD_eq_getElem?_getD, List.getD_eq_getElem?_getD, List.getElem?_eq_getElem hi, List.getElem?_eq_getElem hj]
  show rs[i].num ≠ rs[j].num
  rcases Nat.lt_or_gt_of_ne hij with h3 | h3
  · have := h2 i j hi hj h3
    have : rs[i].num < rs[j].num := this
    omega
  · have := h2 j i hj hi h3
    have : rs[j].num < rs[i].num := this
    omega
theorem runs_set {S : St} (hG : GoodS S) {rs : List RR} (hr : S.runs = rs.map runOf) {j : Nat} (hj : j < rs.length) {x : RR} (hx : x.num = (rs.getD j default).num) :
    (S.runs.map fun q => if q.1 = x.num then (x.num, (runOf x).2) else q) = (rs.set j x).map runOf := by
  rw [hr]
  apply List.ext_getElem?
  intro i
  rw [List.getElem?_map, List.getElem?_map, List.getElem?_map, List.getElem?_set]
  by_cases hij : j = i
  · subst hij
    rw [if_pos rfl, if_pos hj, List.getElem?_eq_getElem hj]
    have e : rs.getD j default = rs[j] := by rw [List.getD_eq_getElem?_getD, List.getElem?_eq_getElem hj]; rfl
    rw [e] at hx
    simp [runOf, hx]
  · rw [if_neg hij]
    by_cases hi : i < rs.length
    · rw [List.getElem?_eq_getElem hi]
      have h2 := nums_ne hG hr hi hj (fun e => hij e.symm)
      rw [← hx, List.getD_eq_getElem?_getD, List.getElem?_eq_getElem hi] at h2
      have h3 : rs[i].num ≠ x.num := h2
      simp [runOf, h3]
    · rw [List.getElem?_eq_none (by omega)]; rfl
set_option maxRecDepth 100000 in
set_option maxHeartbeats 1600000 in
theorem rSeal_at {W w : World} {R : Thing} {rb : Nat} {S : St} (h : At W w (Both (RefT rb S) R)) (hR : Stable R) (hG : GoodS S) {z : Int} (hz : inI64 z) :
    Calls Tryz.prog 47 #[.pointer (some ⟨rb, 0, none⟩), .int .i64 z] w fun e w' => e = .returned (.int .i64 (sealP S z).2) ∧ At W w' (Both (RefT rb (sealP S z).1) R) := by
  have HREF := Lib.hid (refused_at h hR hG)
  have HG := Lib.hid hG
  have HR := Lib.hid hR
  clear h hG hR
  by_cases h9 : S.left = 1
  · rw [show sealP S z = (stepS S, 9) from withRun_broken h9]
    rw [decide_eq_true h9] at HREF
    clear h9
    go_enter Tryz.func47, Tryz.ntmps47
    (repeat' (first | go_values | go_skip | go_guarded | go_step | go_upon | go_back | dsimp only))
    refine HREF.out.mono ?_
    rintro e w1 ⟨rfl, h1⟩
    have H1 := Lib.hid h1
    clear h1
    (repeat' (first | go_values | go_skip | go_guarded | go_step | go_upon | go_back | dsimp only))
    go_ret
    exact ⟨rfl, H1.out⟩
  · rw [decide_eq_false h9] at HREF
    have HK : ∀ w1, At W w1 (Both (RefT rb (stepS S)) R) → ∃ rv rs, (stepS S).runs = rs.map runOf ∧ RefR w1 rb (stepS S) rv rs ∧ At W w1 (Both (CellT rb (refCells (stepS S) rv) tRef) (Both (RowG tRRun 3 rv rs.length (rs.flatMap cellsR)) (Both (TextsT rs) R))) := fun w1 h1 => by
      obtain ⟨rv, rs, hr, h2⟩ := h1.ref
      exact ⟨rv, rs, hr, h2.refR hr, h2⟩
    have hfe : (stepS S).find z = S.find z := rfl
    cases hf : S.find z with
    | none =>
      rw [show sealP S z = (stepS S, 3) from by unfold sealP withRun; rw [if_neg h9, hf]]
      have HF := Lib.hid (hfe.trans hf)
      have HKK := Lib.hid HK
      clear h9 hf HK hfe
      go_enter Tryz.func47, Tryz.ntmps47
      (repeat' (first | go_values | go_skip | go_guarded | go_step | go_upon | go_back | dsimp only))
      refine HREF.out.mono ?_
      rintro e w1 ⟨rfl, h1⟩
      obtain ⟨rv, rs, hr, hrd, h2⟩ := HKK.out _ h1
      have H1 := Lib.hid h1
      have HRD := Lib.hid hrd
      clear h1 hr hrd h2
      (repeat' (first | go_values | go_skip | go_guarded | go_step | go_upon | go_back | dsimp only))
      refine (fit_calls HRD.out HG.out.step hz).mono ?_
      rintro e w2 ⟨⟨i, c, rfl, hfit⟩, rfl⟩
      obtain ⟨rfl, rfl⟩ : i = 0 ∧ c = 3 := by
        rcases hfit with ⟨_, h1, h2⟩ | ⟨j, _, _, h1, _⟩
        · exact ⟨h1, h2⟩
        · rw [HF.out] at h1; cases h1
      clear hfit
      (repeat' (first | go_values | go_skip | go_guarded | go_step | go_upon | go_back | dsimp only))
      go_ret
      exact ⟨rfl, H1.out⟩
    | some p =>
      by_cases hs : p.2.sealed = true
      · rw [show sealP S z = (stepS S, 4) from by unfold sealP withRun; rw [if_neg h9, hf]; dsimp only; rw [if_pos hs]]
        have HF := Lib.hid (hfe.trans hf)
        have HKK := Lib.hid HK
        have HS := Lib.hid hs
        clear h9 hf HK hfe hs
        go_enter Tryz.func47, Tryz.ntmps47
        (repeat' (first | go_values | go_skip | go_guarded | go_step | go_upon | go_back | dsimp only))
        refine HREF.out.mono ?_
        rintro e w1 ⟨rfl, h1⟩
        obtain ⟨rv, rs, hr, hrd, h2⟩ := HKK.out _ h1
        have H1 := Lib.hid h1
        have HRD := Lib.hid hrd
        clear h1 hr hrd h2
        (repeat' (first | go_values | go_skip | go_guarded | go_step | go_upon | go_back | dsimp only))
        refine (fit_calls HRD.out HG.out.step hz).mono ?_
        rintro e w2 ⟨⟨i, c, rfl, hfit⟩, rfl⟩
        obtain ⟨rfl, rfl⟩ : i = 0 ∧ c = 4 := by
          rcases hfit with ⟨h1, _⟩ | ⟨j, _, _, h1, h2⟩
          · rw [HF.out] at h1; cases h1
          · rw [HF.out] at h1
            cases h1
            rcases h2 with ⟨_, h3, h4⟩ | ⟨h2, _⟩
            · exact ⟨h3, h4⟩
            · have := HS.out
              simp only [runOf] at this
              rw [h2] at this; cases this
        clear hfit
        (repeat' (first | go_values | go_skip | go_guarded | go_step | go_upon | go_back | dsimp only))
        go_ret
        exact ⟨rfl, H1.out⟩
      · rw [show sealP S z = ((stepS S).setRun p.1 ⟨p.2.text, true⟩, 0) from by unfold sealP withRun; rw [if_neg h9, hf]; dsimp only; rw [if_neg hs]]
        have HF := Lib.hid (hfe.trans hf)
        have HKK := Lib.hid HK
        have HS := Lib.hid hs
        clear h9 hf HK hfe hs
        go_enter Tryz.func47, Tryz.ntmps47
        (repeat' (first | go_values | go_skip | go_guarded | go_step | go_upon | go_back | dsimp only))
        refine HREF.out.mono ?_
        rintro e w1 ⟨rfl, h1⟩
        obtain ⟨rv, rs, hr, hrd, h2⟩ := HKK.out _ h1
        have HRD := Lib.hid hrd
        have HRS := Lib.hid hr
        have H2 := Lib.hid h2
        clear h1 hr hrd h2
        (repeat' (first | go_values | go_skip | go_guarded | go_step | go_upon | go_back | dsimp only))
        refine (fit_calls HRD.out HG.out.step hz).mono ?_
        rintro e w2 ⟨⟨i, c, rfl, hfit⟩, rfl⟩
        obtain ⟨j, hj, hp, rfl, rfl⟩ : ∃ j : Nat, j < rs.length ∧ p = runOf (rs.getD j default) ∧ i = j ∧ c = 0 := by
          rcases hfit with ⟨h1, _⟩ | ⟨j, hj, _, h1, h2⟩
          · rw [HF.out] at h1; cases h1
          · rw [HF.out] at h1
            rcases h2 with ⟨h2, _⟩ | ⟨_, h3, h4⟩
            · cases h1
              exact absurd h2 HS.out
            · exact ⟨j, hj, by cases h1; rfl, h3, h4⟩
        have HP := Lib.hid hp
        have h2 := H2.out
        obtain ⟨g, cap, hsl, _, _, i2, fz⟩ := HRD.out.item hj
        subst hsl
        obtain ⟨_, _, _, _, c4⟩ := HRD.out.c
        have hj0 : (0 : Int) ≤ j := by omega
        have hj1 : (j : Int) < rs.length := by omega
        have hstR : Stable (Both (TextsT rs) R) := (TextsT.stable _).both HR.out
        have h3 := h2.swap.storeG ((CellT.stable _ _ _).both hstR) (j * 3 + 2) (.bool true)
        rw [flatMap_set cellsR_len rs (x := ⟨(rs.getD j default).num, (rs.getD j default).v, (rs.getD j default).text, true⟩) hj (by omega) rfl] at h3
        have h4 : At W (w1.setCell ⟨g, j * 3 + 2, none⟩ (.bool true)) (Both (RefT rb ((stepS S).setRun p.1 ⟨p.2.text, true⟩)) R) := by
          refine At.toRef (rv := .slice (some ⟨g, 0, none⟩) rs.length cap) (rs := rs.set j ⟨(rs.getD j default).num, (rs.getD j default).v, (rs.getD j default).text, true⟩) ?_ (h3.swap.impl fun fp q => ?_)
          · have := runs_set (x := ⟨(rs.getD j default).num, (rs.getD j default).v, (rs.getD j default).text, true⟩) HG.out.step HRS.out hj rfl
            rw [← this, HP.out]
            rfl
          · have q2 := Both.mono (fun w fp h => Both.mono (fun w fp h => Both.comm (Both.mono (fun w fp h => TextsT.same (x := ⟨(rs.getD j default).num, (rs.getD j default).v, (rs.getD j default).text, true⟩) hj rfl rfl h) (Both.comm h))) h) q
            rw [List.length_set]
            exact q2
        have H4 := Lib.hid h4
        clear h2 h3 h4 hp hfit
        (repeat' (first | go_values | go_skip | go_guarded | go_step | go_upon | go_back | dsimp only))
        go_ret
        exact ⟨rfl, H4.out⟩
end
end Go.Proofs.YtadokkffmekndaaGreatDoor

/- heap of texts: the law's take. -/
import Derived.Test.YtgahkodbjokgfaaWdNew
import Derived.Lib.Strings
namespace Go.Proofs.Ytgahkodbjokgfaa.wd
open Go.RowKit

/-- Texts at the head of a block. -/
def AllAt (w : World) (g : Nat) (B : List ByteArray) : Prop := ∃ cur, w.heap[g]? = some (.cells cur 9 (0, 0)) ∧ cur.toList.take B.length = cellsT B
theorem AllAt.cell {w : World} {g : Nat} {B : List ByteArray} (h : AllAt w g B) {i : Nat} (hi : i < B.length) : w.cell? ⟨g, i, none⟩ = some (.string (B.getD i default)) := by
  obtain ⟨cur, h1, h2⟩ := h
  have h3 := congrArg (fun l => l[i]?) h2
  simp only [List.getElem?_take_of_lt hi] at h3
  have h4 : (cellsT B)[i]? = some (.string (B.getD i default)) := by simp [cellsT, List.getD_eq_getElem?_getD, hi]
  rw [h4] at h3
  simp only [World.cell?, h1]
  simpa using h3
theorem AllAt.frozen {w : World} {g : Nat} {B : List ByteArray} (h : AllAt w g B) (k : Nat) : w.frozen? ⟨g, k, none⟩ = false := by
  obtain ⟨cur, h1, _⟩ := h
  simp [World.frozen?, h1]
theorem AllAt.block {w w' : World} {g : Nat} {B : List ByteArray} (h : AllAt w g B) (hb : w'.heap[g]? = w.heap[g]?) : AllAt w' g B := by
  obtain ⟨cur, h1, h2⟩ := h
  exact ⟨cur, by rw [hb]; exact h1, h2⟩
theorem AllAt.front {w : World} {g : Nat} {B : List ByteArray} (h : AllAt w g B) {n : Nat} (hn : n ≤ B.length) : AllAt w g (B.take n) := by
  obtain ⟨cur, h1, h2⟩ := h
  refine ⟨cur, h1, ?_⟩
  have h3 := congrArg (fun l => l.take n) h2
  simp only [List.take_take, Nat.min_eq_left hn] at h3
  rw [List.length_take, Nat.min_eq_left hn, h3]
  simp [cellsT, List.map_take]
theorem AllAt.swap {w : World} {g : Nat} {B : List ByteArray} (h : AllAt w g B) {i j : Nat} (hi : i < B.length) (hj : j < B.length) :
    AllAt ((w.setCell ⟨g, i, none⟩ (.string (B.getD j default))).setCell ⟨g, j, none⟩ (.string (B.getD i default))) g (hp.swapL B i j) := by
  obtain ⟨cur, h1, h2⟩ := h
  have hcs : B.length ≤ cur.size := by
    have := congrArg List.length h2
    simp [cellsT] at this; omega
  refine ⟨_, heap_setCell (heap_setCell h1 _) _, ?_⟩
  rw [hp.swapL_length]
  apply List.ext_getElem?
  intro k
  by_cases hk : k < B.length
  · have h3 := congrArg (fun l => l[k]?) h2
    simp only [List.getElem?_take_of_lt hk] at h3
    have h4 : (cellsT B)[k]? = some (.string (B.getD k default)) := by simp [cellsT, List.getD_eq_getElem?_getD, hk]
    rw [h4] at h3
    have h5 : (cellsT (hp.swapL B i j))[k]? = some (.string ((hp.swapL B i j).getD k default)) := by
      have : k < (hp.swapL B i j).length := by rw [hp.swapL_length]; exact hk
      simp [cellsT, List.getD_eq_getElem?_getD, this]
    rw [h5, hp.getD_swapL hi hj, List.getElem?_take_of_lt hk]
    simp only [Array.getElem?_toList, Array.getElem?_setIfInBounds, Array.size_setIfInBounds] at h3 ⊢
    by_cases hkj : j = k
    · subst hkj; rw [if_pos rfl, if_pos (by omega), if_pos rfl]
    · by_cases hki : i = k
      · subst hki; rw [if_neg hkj, if_pos rfl, if_pos (by omega), if_neg (fun e => hkj e.symm), if_pos rfl]
      · rw [if_neg hkj, if_neg hki, if_neg (fun e => hkj e.symm), if_neg (fun e => hki e.symm), h3]
  · rw [List.getElem?_eq_none (by rw [List.length_take]; omega), List.getElem?_eq_none (by simp [cellsT, hp.swapL_length]; omega)]

theorem toList_ne {x y : ByteArray} (h : x ≠ y) : (x.toList == y.toList) = false := by
  rw [beq_eq_false_iff_ne, Lib.toList_data, Lib.toList_data]
  intro e
  apply h
  cases x; cases y
  simpa using e
theorem toList_same (x : ByteArray) : (x.toList == x.toList) = true := by simp

set_option maxHeartbeats 1600000 in
theorem take_calls {w : World} {g m cap : Nat} {B : List ByteArray} (h : AllAt w g B) (hm : B.length = m + 1) (hm2 : m ≤ 1099511627776) {x : ByteArray} (hx : x ∈ B) :
    Calls Try.prog 29 #[.slice (some ⟨g, 0, none⟩) (m + 1) cap, .string x] w fun e w' => e = .returned (.bool true) ∧ ∃ i, i ≤ m ∧ B.getD i default = x ∧ AllAt w' g (hp.swapL B i m) ∧ Upd [g] w w' := by
  have H := Lib.hid h
  have HM := Lib.hid hm
  have HX := Lib.hid hx
  clear h hm hx
  go_enter Try.func29, Try.ntmps29
  (repeat' (first | (go_big_may; fail) | go_values | go_skip | go_guarded | go_step | go_upon | go_back | dsimp only))
  go_loop [8] (fun z => ∃ k : Nat, z = .int .i64 k ∧ k ≤ m + 1 ∧ ∀ j, j < k → B.getD j default ≠ x) (fun z => m + 1 - (intOf z).toNat)
  case atStart => exact ⟨0, rfl, Nat.zero_le _, fun j hj => absurd hj (Nat.not_lt_zero _)⟩
  case round =>
    obtain ⟨k, rfl, hk, hno⟩ := hrel
    have HNO := Lib.hid hno
    clear hno
    have hk1 : (0 : Int) ≤ k := by omega
    by_cases hlt : k < m + 1
    · have hk2 : (k : Int) < m + 1 := by omega
      have x0 := H.out.cell (i := k) (by rw [HM.out]; exact hlt)
      have y0 := H.out.cell (i := m) (by rw [HM.out]; omega)
      have hf := H.out.frozen
      by_cases hy : B.getD k default = x
      · have heq := toList_same x
        have HY := Lib.hid hy
        rw [hy] at x0
        generalize hz : B.getD m default = z at *
        have HZ := Lib.hid hz
        have hi5 : IntKind.i64.wrap ((m : Int) + 1 - 1) = (m : Int) := by rw [IntKind.wrap_i64]; omega
        have hm3 : (0 : Int) ≤ m := by omega
        have hm4 : (m : Int) < m + 1 := by omega
        clear hy hz
        rcases Nat.lt_or_eq_of_le (show k ≤ m by omega) with hkm | hkm
        · (repeat' (first | (go_big_may; fail) | go_values | go_skip | go_guarded | go_step | go_upon | go_back | dsimp only))
          go_region
          all_goals
            (repeat' (first | (go_big_may; fail) | go_values | go_skip | go_guarded | go_step | go_upon | go_back | dsimp only))
            go_ret
            refine ⟨rfl, k, Nat.le_of_lt hkm, HY.out, ?_, ?_⟩
            · have := H.out.swap (i := k) (j := m) (by rw [HM.out]; omega) (by rw [HM.out]; omega)
              rw [HY.out, HZ.out] at this
              exact this.block rfl
            · exact (((Upd.refl _ _).setCell (p := ⟨g, k, none⟩) (.inl (by simp)) _).setCell (p := ⟨g, m, none⟩) (.inl (by simp)) _).drew
        · subst k
          clear y0
          (repeat' (first | (go_big_may; fail) | go_values | go_skip | go_guarded | go_step | go_upon | go_back | dsimp only))
          go_region
          all_goals
            (repeat' (first | (go_big_may; fail) | go_values | go_skip | go_guarded | go_step | go_upon | go_back | dsimp only))
            go_ret
            refine ⟨rfl, m, Nat.le_refl _, HY.out, ?_, ?_⟩
            · have := H.out.swap (i := m) (j := m) (by rw [HM.out]; omega) (by rw [HM.out]; omega)
              rw [HY.out] at this
              exact this.block rfl
            · exact (((Upd.refl _ _).setCell (p := ⟨g, m, none⟩) (.inl (by simp)) _).setCell (p := ⟨g, m, none⟩) (.inl (by simp)) _).drew
      · have heq := toList_ne hy
        have HY := Lib.hid hy
        generalize hyy : B.getD k default = y at *
        have HYY := Lib.hid hyy
        clear y0 hf hy hyy
        (repeat' (first | (go_big_may; fail) | go_values | go_skip | go_guarded | go_step | go_upon | go_back | dsimp only))
        go_round
        case rel =>
          refine ⟨k + 1, by simp, hlt, fun j hj => ?_⟩
          rcases Nat.lt_succ_iff_lt_or_eq.1 hj with h1 | h1
          · exact HNO.out j h1
          · subst h1; rw [HYY.out]; exact HY.out
        case measure => simp [intOf] <;> omega
    · exfalso
      obtain ⟨j, hj, hjx⟩ := List.getElem_of_mem HX.out
      exact HNO.out j (by have := HM.out; omega) (by rw [List.getD_eq_getElem?_getD, List.getElem?_eq_getElem hj]; exact hjx)
end Go.Proofs.Ytgahkodbjokgfaa.wd

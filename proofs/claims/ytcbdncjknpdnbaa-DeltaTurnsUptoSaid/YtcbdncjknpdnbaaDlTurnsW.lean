/- DeltaTurns walked. -/
import Derived.Test.YtcbdncjknpdnbaaDlTurn
import Derived.Test.YtcbdncjknpdnbaaDlOpen
namespace Go.Proofs.Ytcbdncjknpdnbaa
open Go.RowKit

set_option maxRecDepth 100000 in
set_option maxHeartbeats 6400000 in
theorem deltaTurns_walk (W : World) (D : List Chg) (v0 : Value) (hD : RdRow W v0 D.length 2 (D.flatMap chc)) (hb : bulkC D ≤ 1048576) :
    Calls Try.prog 4 #[v0] W fun e W' => e = .returned (.bool true) ∧ Below W.heap.size W W' := by
  obtain ⟨da, dc, rfl, _, _⟩ := hD.shape
  have hn : D.length ≤ 1048576 := Nat.le_trans (bulkC_len D) hb
  have HD := Lib.hid hD
  have HTL := Lib.hid (turn_len D)
  have HTT := Lib.hid (turn_turn D)
  clear hD hb
  have HTW := Lib.hid (twin_calls HD.out (by omega))
  go_enter Try.func4, Try.ntmps4
  (repeat' (first | (go_big_may; fail) | go_values | go_skip | go_guarded | go_step | go_upon | go_back | dsimp only))
  refine HTW.out.mono ?_
  rintro e1 w1 ⟨v1, rfl, h1⟩
  obtain ⟨g1, c1, rfl, _, _⟩ := own_shape h1.rowG
  have H1 := Lib.hid h1
  have HST1 := Lib.hid ((RowG.stable tCh 2 (.slice g1 D.length c1) D.length (D.flatMap chc)).both Stable.nought)
  have HT := Lib.hid (Turn_calls (RdRow.of_own h1.rowG) (by omega))
  clear h1 HTW
  (repeat' (first | (go_big_may; fail) | go_values | go_skip | go_guarded | go_step | go_upon | go_back | dsimp only))
  refine HT.out.mono ?_
  rintro e2 w2 ⟨v2, rfl, h2⟩
  have H2 := Lib.hid (H1.out.glue HST1.out h2)
  have HT2 := Lib.hid (Turn_calls (RdRow.of_own H2.out.drop.rowG) (by omega))
  have HST2 := Lib.hid ((RowG.stable tCh 2 v2 (turnL D).length ((turnL D).flatMap chc)).both HST1.out)
  clear h2 HT H1
  (repeat' (first | (go_big_may; fail) | go_values | go_skip | go_guarded | go_step | go_upon | go_back | dsimp only))
  refine HT2.out.mono ?_
  rintro e3 w3 ⟨v3, rfl, h3⟩
  have H3 := Lib.hid (H2.out.glue HST2.out h3)
  have HST3 := Lib.hid ((RowG.stable tCh 2 v3 (turnL D).length ((turnL D).flatMap chc)).both HST2.out)
  have HRF := Lib.hid (refs_calls (HD.out.below H3.out.below) (by omega))
  clear h3 HT2 H2
  (repeat' (first | (go_big_may; fail) | go_values | go_skip | go_guarded | go_step | go_upon | go_back | dsimp only))
  refine HRF.out.mono ?_
  rintro e4 w4 ⟨v4, rfl, h4⟩
  have H4 := Lib.hid (H3.out.mono HST3.out h4.below)
  have HRT := Lib.hid (RTurn_calls (RdRow.of_own h4.rowG) (by omega))
  clear HRF H3
  obtain ⟨g4, c4, rfl, _, _⟩ := own_shape h4.rowG
  clear h4
  (repeat' (first | (go_big_may; fail) | go_values | go_skip | go_guarded | go_step | go_upon | go_back | dsimp only))
  refine HRT.out.mono ?_
  rintro e5 w5 ⟨v5, rfl, h5⟩
  have H5 := Lib.hid (H4.out.glue HST3.out h5)
  have HST5 := Lib.hid ((RowG.stable tRCh 2 v5 (turnL D).length ((turnL D).flatMap rchc)).both HST3.out)
  obtain ⟨g5, c5, rfl, _, _⟩ := own_shape h5.rowG
  obtain ⟨g3, c3, rfl, _, _⟩ := own_shape H5.out.drop.rowG
  obtain ⟨g2, c2, rfl, _, _⟩ := own_shape H5.out.drop.drop.rowG
  have HW := Lib.hid (wakes_calls w5)
  clear h5 HRT H4
  have hTLn : (turnL D).length ≤ 1048576 := by rw [HTL.out]; exact hn
  generalize turnL D = T at *
  (repeat' (first | (go_big_may; fail) | go_values | go_skip | go_guarded | go_step | go_upon | go_back | dsimp only))
  refine HW.out.mono ?_
  rintro e6 w6 ⟨rfl, hb6⟩
  have H6 := Lib.hid (H5.out.mono HST5.out hb6)
  have ha := alike_calls (RdRow.of_own H6.out.drop.drop.rowG) (RdRow.of_own H6.out.rowG)
  rw [decide_eq_true rfl] at ha
  have HA1 := Lib.hid ha
  clear hb6 HW H5 ha
  (repeat' (first | (go_big_may; fail) | go_values | go_skip | go_guarded | go_step | go_upon | go_back | dsimp only))
  refine HA1.out.mono ?_
  rintro e7 w7 ⟨rfl, hb7⟩
  have H7 := Lib.hid (H6.out.mono HST5.out hb7)
  have ha := alike_calls (RdRow.of_own H7.out.drop.rowG) (RdRow.of_own H7.out.rowG)
  rw [decide_eq_true rfl] at ha
  have HA2 := Lib.hid ha
  clear hb7 HA1 H6 ha
  (repeat' (first | (go_big_may; fail) | go_values | go_skip | go_guarded | go_step | go_upon | go_back | dsimp only))
  refine HA2.out.mono ?_
  rintro e8 w8 ⟨rfl, hb8⟩
  have H8 := Lib.hid (H7.out.mono HST5.out hb8)
  have HRF := Lib.hid (refs_calls (HD.out.below H8.out.below) (by omega))
  clear hb8 HA2 H7
  (repeat' (first | (go_big_may; fail) | go_values | go_skip | go_guarded | go_step | go_upon | go_back | dsimp only))
  refine HRF.out.mono ?_
  rintro e9 w9 ⟨v9, rfl, h9⟩
  have H9 := Lib.hid (H8.out.mono HST5.out h9.below)
  obtain ⟨g9, c9, rfl, _, _⟩ := own_shape h9.rowG
  have ha := alike_calls (RdRow.of_own H9.out.drop.drop.drop.rowG) (RdRow.of_own h9.rowG)
  rw [decide_eq_true rfl] at ha
  have HA3 := Lib.hid ha
  clear h9 HRF H8 ha
  (repeat' (first | (go_big_may; fail) | go_values | go_skip | go_guarded | go_step | go_upon | go_back | dsimp only))
  refine HA3.out.mono ?_
  rintro e10 w10 ⟨rfl, hb10⟩
  have H10 := Lib.hid (H9.out.mono HST5.out hb10).swap.pull3
  clear hb10 HA3 H9
  (repeat' (first | (go_big_may; fail) | go_values | go_skip | go_guarded | go_step | go_upon | go_back | dsimp only))
  go_loopw [40] (fun vi wr => ∃ (i : Nat) (ls : List Value), vi = .int .i64 i ∧ i ≤ T.length ∧ ls.length = T.length * 2 ∧ At W wr (Both (RowG tCh 2 (.slice g2 T.length c2) T.length ls) (Both (RowG tCh 2 (.slice g3 T.length c3) T.length (T.flatMap chc)) (Both (RowG tRCh 2 (.slice g5 T.length c5) T.length (T.flatMap rchc)) (Both (RowG tCh 2 (.slice g1 D.length c1) D.length (D.flatMap chc)) Nought))))) (fun vi _ => T.length - (intOf vi).toNat)
  case atStart => exact ⟨0, _, rfl, Nat.zero_le _, flatMap_len chc_len _, H10.out⟩
  case round =>
    obtain ⟨i, ls, rfl, hi, hls, h11⟩ := hrel
    have hst11 : Stable (Both (RowG tCh 2 (.slice g3 T.length c3) T.length (T.flatMap chc)) (Both (RowG tRCh 2 (.slice g5 T.length c5) T.length (T.flatMap rchc)) (Both (RowG tCh 2 (.slice g1 D.length c1) D.length (D.flatMap chc)) Nought))) := (RowG.stable _ _ _ _ _).both ((RowG.stable _ _ _ _ _).both HST1.out)
    by_cases hlt : i < T.length
    · have hiI : (i : Int) < (T.length : Int) := by omega
      obtain ⟨g, cap, hg, _, _, _⟩ := own_cut h11.rowG (by omega)
      simp only [Value.slice.injEq] at hg
      obtain ⟨rfl, _, rfl⟩ := hg
      obtain ⟨r1, r2, r3⟩ := h11.rowCell (j := i * 2) (u := ls[i * 2]'(by omega)) (List.getElem?_eq_getElem (by omega))
      have h12 := h11.storeG hst11 (i * 2) (.string ⟨#[109, 97, 114, 107]⟩)
      have H12 := Lib.hid h12
      clear h11 h12
      (repeat' (first | (go_big_may; fail) | go_values | go_skip | go_guarded | go_step | go_upon | go_back | dsimp only))
      go_roundw
      case rel => exact ⟨i + 1, _, by simp, by omega, by simpa using hls, H12.out⟩
      case measure => simp [intOf] <;> omega
    · obtain rfl : i = T.length := by omega
      have hiI : ¬ (T.length : Int) < (T.length : Int) := by omega
      have H11 := Lib.hid h11.drop
      have ha := alike_calls (RdRow.of_own h11.drop.rowG) (RdRow.of_own h11.drop.drop.rowG)
      rw [decide_eq_true rfl] at ha
      have HA4 := Lib.hid ha
      have HST11 := Lib.hid hst11
      clear h11 ha hst11
      (repeat' (first | (go_big_may; fail) | go_values | go_skip | go_guarded | go_step | go_upon | go_back | dsimp only))
      refine HA4.out.mono ?_
      rintro e12 w12 ⟨rfl, hb12⟩
      have H12 := Lib.hid (H11.out.mono HST11.out hb12)
      have HRF := Lib.hid (refs_calls (HD.out.below H12.out.below) (by omega))
      clear hb12 HA4 H11
      (repeat' (first | (go_big_may; fail) | go_values | go_skip | go_guarded | go_step | go_upon | go_back | dsimp only))
      refine HRF.out.mono ?_
      rintro e13 w13 ⟨v13, rfl, h13⟩
      have H13 := Lib.hid (H12.out.mono HST11.out h13.below)
      obtain ⟨g13, c13, rfl, _, _⟩ := own_shape h13.rowG
      have ha := alike_calls (RdRow.of_own H13.out.drop.drop.rowG) (RdRow.of_own h13.rowG)
      rw [decide_eq_true rfl] at ha
      have HA5 := Lib.hid ha
      clear h13 HRF H12 ha
      (repeat' (first | (go_big_may; fail) | go_values | go_skip | go_guarded | go_step | go_upon | go_back | dsimp only))
      refine HA5.out.mono ?_
      rintro e14 w14 ⟨rfl, hb14⟩
      have H14 := Lib.hid (H13.out.mono HST11.out hb14)
      have ht := Turn_calls (RdRow.of_own H14.out.rowG) (by omega)
      rw [HTT.out] at ht
      have HT := Lib.hid ht
      clear hb14 HA5 H13 ht
      (repeat' (first | (go_big_may; fail) | go_values | go_skip | go_guarded | go_step | go_upon | go_back | dsimp only))
      refine HT.out.mono ?_
      rintro e15 w15 ⟨v15, rfl, h15⟩
      have H15 := Lib.hid (H14.out.glue HST11.out h15)
      obtain ⟨g15, c15, rfl, _, _⟩ := own_shape h15.rowG
      have HRF := Lib.hid (refs_calls (HD.out.below H15.out.below) (by omega))
      clear h15 HT H14
      (repeat' (first | (go_big_may; fail) | go_values | go_skip | go_guarded | go_step | go_upon | go_back | dsimp only))
      refine HRF.out.mono ?_
      rintro e16 w16 ⟨v16, rfl, h16⟩
      have H16 := Lib.hid (H15.out.mono ((RowG.stable _ _ _ _ _).both HST11.out) h16.below)
      obtain ⟨g16, c16, rfl, _, _⟩ := own_shape h16.rowG
      have ha := alike_calls (RdRow.of_own H16.out.rowG) (RdRow.of_own h16.rowG)
      rw [decide_eq_true rfl] at ha
      have HA6 := Lib.hid ha
      clear h16 HRF H15 ha
      (repeat' (first | (go_big_may; fail) | go_values | go_skip | go_guarded | go_step | go_upon | go_back | dsimp only))
      refine HA6.out.mono ?_
      rintro e17 w17 ⟨rfl, hb17⟩
      have HB := Lib.hid (H16.out.mono ((RowG.stable _ _ _ _ _).both HST11.out) hb17).below
      clear hb17 HA6 H16
      (repeat' (first | (go_big_may; fail) | go_values | go_skip | go_guarded | go_step | go_upon | go_back | dsimp only))
      go_ret
      exact ⟨rfl, HB.out⟩
end Go.Proofs.Ytcbdncjknpdnbaa

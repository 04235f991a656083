/- DeltaNone walked. -/
import Derived.Test.YtcbdncjknpdnbaaDlLaw
import Derived.Test.YtcbdncjknpdnbaaDlNoneP
import Derived.Test.YtcbdncjknpdnbaaWkSame
import Derived.Test.YtcbdncjknpdnbaaWkAccepts
import Derived.Test.YtcbdncjknpdnbaaOpen
namespace Go.Proofs.Ytcbdncjknpdnbaa
open Go.RowKit

theorem lkN {w a b : World} (h : Below w.heap.size w a) (k : Below a.heap.size a b) : Below w.heap.size w b := h.trans (k.mono h.size)
theorem diffI_le {i n m : Nat} (h : i ≤ n) (k : n ≤ m) : i ≤ m := Nat.le_trans h k
set_option maxRecDepth 100000 in
set_option maxHeartbeats 12800000 in
theorem deltaNone_walk (W : World) (A : List Sta) (v0 : Value) (hA : RdAut W v0 A) (hlA : A.length ≤ 1048576 ∧ edgesN A ≤ 1048576) (B : List Sta) (v1 : Value) (hB : RdAut W v1 B) (hlB : B.length ≤ 1048576 ∧ edgesN B ≤ 1048576) :
    Calls Try.prog 5 #[v0, v1] W fun e W' => e = .returned (.bool true) ∧ Below W.heap.size W W' := by
  obtain ⟨aa, ac, rfl, _, _⟩ := hA.shape
  obtain ⟨ba, bc, rfl, _, _⟩ := hB.shape
  have HA := Lib.hid hA
  have HB := Lib.hid hB
  have HW := Lib.hid (wakes_calls W)
  clear hA hB
  go_enter Try.func5, Try.ntmps5
  (repeat' (first | (go_big_may; fail) | go_values | go_skip | go_guarded | go_step | go_upon | go_back | dsimp only))
  refine HW.out.mono ?_
  rintro e1 w1 ⟨rfl, hb1⟩
  have HB1 := Lib.hid hb1
  clear hb1 HW
  rcases fit2_or A B with ⟨ta, tb, hf⟩ | ⟨E, hE, h0⟩
  · obtain ⟨hra, hrb, hna, hnb⟩ := hf.rises
    have hga := good_root hf.sa hf.ua
    have hgb := good_root hf.sb hf.ub
    have hd := Diff_ok (HA.out.below HB1.out) (HB.out.below HB1.out) hlA hlB hf.fit hf.ua hf.ub hna hnb
    have HSM := Lib.hid (fun (w : World) (hb : Below W.heap.size W w) => Same_calls (HA.out.below hb) (HB.out.below hb) hlA hlB hf.sa hf.sb hf.ua hf.ub)
    have HCA := Lib.hid (fun (w : World) (hb : Below W.heap.size W w) => Count_calls (HA.out.below hb) hlA hf.sa hf.ua)
    have HCB := Lib.hid (fun (w : World) (hb : Below W.heap.size W w) => Count_calls (HB.out.below hb) hlB hf.sb hf.ub)
    have HAA := Lib.hid (fun (w : World) (s : ByteArray) (hb : Below W.heap.size W w) => Accepts_calls (HA.out.below hb) hlA hf.sa hf.ua s)
    have HAB := Lib.hid (fun (w : World) (s : ByteArray) (hb : Below W.heap.size W w) => Accepts_calls (HB.out.below hb) hlB hf.sb hf.ub s)
    have ea1 : countV ta = ((wT ta []).length : Int) := by unfold countV; rw [cnt_words hga, if_pos (by omega)]
    have ea2 : countE ta = 0 := by unfold countE; rw [cnt_words hga, if_pos (by omega)]
    have eb1 : countV tb = ((wT tb []).length : Int) := by unfold countV; rw [cnt_words hgb, if_pos (by omega)]
    have eb2 : countE tb = 0 := by unfold countE; rw [cnt_words hgb, if_pos (by omega)]
    rw [ea1, ea2] at HCA
    rw [eb1, eb2] at HCB
    have hsame : (ta = tb) ↔ diffL (wT ta []) (wT tb []) = [] := by
      rw [diff_nil hra hrb]
      exact ⟨fun h => by rw [h], fun h => wT_inj hga hgb h⟩
    have HIN := Lib.hid (fun (i : Nat) (c : Chg) (h : (diffL (wT ta []) (wT tb []))[i]? = some c) => diff_in hra hrb h)
    have HRI := Lib.hid (fun (i j : Nat) (c d : Chg) (hij : i < j) (h : (diffL (wT ta []) (wT tb []))[i]? = some c) (k : (diffL (wT ta []) (wT tb []))[j]? = some d) => diff_rise hra hrb hij h k)
    have hdl := diff_len (wT ta []) (wT tb [])
    have HDT := Lib.hid (dlt_diff (wT ta []) (wT tb []))
    have hhta := htT_lt hf.ua
    have hhtb := htT_lt hf.ub
    have HWL := Lib.hid (fun (i : Nat) (c : Chg) (h : (diffL (wT ta []) (wT tb []))[i]? = some c) => show c.1.length ≤ 1048576 by
      rcases diff_word hra hrb h with h1 | h1
      · have := word_len hga h1; omega
      · have := word_len hgb h1; omega)
    have HMA := Lib.hid (fun w => acc_mem hga w)
    have HMB := Lib.hid (fun w => acc_mem hgb w)
    have HSA := Lib.hid hsame
    clear ea1 ea2 eb1 eb2 hsame hf hra hrb hga hgb
    generalize wT ta [] = xs at *
    generalize wT tb [] = ys at *
    generalize diffL xs ys = D at *
    have HD := Lib.hid hd
    clear hd
    (repeat' (first | (go_big_may; fail) | go_values | go_skip | go_guarded | go_step | go_upon | go_back | dsimp only))
    refine HD.out.mono ?_
    rintro e3 w3 ⟨vo, rfl, h3⟩
    obtain ⟨oa, oc, rfl, _, hoc⟩ := own_shape h3.rowG
    unfold maxLen at hoc
    have H3 := Lib.hid (h3.rebase HB1.out)
    have HST := Lib.hid ((RowG.stable tCh 2 (.slice oa D.length oc) D.length (D.flatMap chc)).both Stable.nought)
    have hsm := HSM.out w3 H3.out.below
    have hcs : decide (ta = tb) = ((D.length : Int) == 0) := by
      by_cases hD : D = []
      · rw [decide_eq_true (HSA.out.2 hD), hD]; rfl
      · rw [decide_eq_false (fun h => hD (HSA.out.1 h))]
        have : D.length ≠ 0 := fun h => hD (List.eq_nil_of_length_eq_zero h)
        symm
        rw [beq_eq_false_iff_ne]; omega
    rw [hcs] at hsm
    have HSMC := Lib.hid hsm
    clear h3 hsm hcs HD
    obtain ⟨bz, hbz⟩ : ∃ bz, ((D.length : Int) == 0) = bz := ⟨_, rfl⟩
    rw [hbz] at HSMC
    (repeat' (first | (go_big_may; fail) | go_values | go_skip | go_guarded | go_step | go_upon | go_back | dsimp only))
    refine HSMC.out.mono ?_
    rintro e4 w4 ⟨rfl, hb4⟩
    have H4 := Lib.hid (H3.out.mono HST.out hb4)
    clear hb4 HSMC
    (repeat' (first | (go_big_may; fail) | go_values | go_skip | go_guarded | go_step | go_upon | go_back | dsimp only))
    refine (HCA.out w4 H4.out.below).mono ?_
    rintro e5 w5 ⟨rfl, hb5⟩
    have H5 := Lib.hid (H4.out.mono HST.out hb5)
    clear hb5 H4
    (repeat' (first | (go_big_may; fail) | go_values | go_skip | go_guarded | go_step | go_upon | go_back | dsimp only))
    refine (HCB.out w5 H5.out.below).mono ?_
    rintro e6 w6 ⟨rfl, hb6⟩
    have H6 := Lib.hid (H5.out.mono HST.out hb6)
    have hdt0 : (xs.length : Int) + dlt (D.take 0) = xs.length := by simp [dlt]
    have HD0 := Lib.hid hdt0
    clear hb6 H5 hdt0
    (repeat' (first | (go_big_may; fail) | go_values | go_skip | go_guarded | go_step | go_upon | go_back | dsimp only))
    clear hbz
    go_loopw [9, 61] (fun vn vi wr => ∃ (i : Nat), vi = .int .i64 i ∧ vn = .int .i64 ((xs.length : Int) + dlt (D.take i)) ∧ i ≤ D.length ∧ At W wr (Both (RowG tCh 2 (.slice oa D.length oc) D.length (D.flatMap chc)) Nought)) (fun _ vi _ => D.length - (intOf vi).toNat)
    case atStart => exact ⟨0, rfl, by rw [HD0.out], Nat.zero_le _, H6.out⟩
    case round =>
      obtain ⟨i, rfl, rfl, hi, h7⟩ := hrel
      by_cases hlt : i < D.length
      · obtain ⟨c, hc⟩ : ∃ c, D[i]? = some c := ⟨_, List.getElem?_eq_getElem hlt⟩
        obtain ⟨g, off, cp, hsl, hx0, hx1⟩ := chg_at (fun _ => rfl) (RdRow.of_own h7.rowG) hc
        cases hsl
        have hiI : (i : Int) < (D.length : Int) := by omega
        have h8 := h7.newCell HST.out #[.string ⟨c.1.toArray⟩, .bool c.2] tCh
        have hin := HIN.out i c hc
        have hbd := dlt_bound (D.take i)
        rw [List.length_take, Nat.min_eq_left hi] at hbd
        have hstep := dlt_take hc
        have hsz : (⟨c.1.toArray⟩ : ByteArray).size ≤ 1048576 := HWL.out i c hc
        have hax := HAA.out (wr.alloc (.cells #[.string ⟨c.1.toArray⟩, .bool c.2] tCh)) ⟨c.1.toArray⟩ h8.below hsz
        have hay := fun w hb => HAB.out w ⟨c.1.toArray⟩ hb hsz
        rw [show (⟨c.1.toArray⟩ : ByteArray).data.toList = c.1 from rfl, HMA.out, hin.1] at hax
        simp only [HMB.out, hin.2] at hay
        have HAX := Lib.hid hax
        have HAY := Lib.hid hay
        have H8 := Lib.hid h8
        have HC := Lib.hid hc
        generalize (accT ta c.1).2 = na at *
        generalize (accT tb c.1).2 = nb at *
        clear hin hax hay hc hsz
        generalize hdd : dlt (D.take i) = di at *
        have HDD := Lib.hid hdd
        clear hdd
        obtain ⟨cw, co⟩ := c
        dsimp only at hx0 hx1 hstep HAX HAY H8 ⊢
        have hst8 := (CellT.stable wr.heap.size #[.string ⟨cw.toArray⟩, .bool co] tCh).both HST.out
        have HST8 := Lib.hid hst8
        clear hst8 h7
        obtain ⟨z0, _, zlt⟩ := h8.cellF (o := 0) rfl
        clear h8
        (repeat' (first | (go_big_may; fail) | go_values | go_skip | go_guarded | go_step | go_upon | go_back | dsimp only))
        refine HAX.out.mono ?_
        rintro e9 w9 ⟨rfl, hb9⟩
        have H9 := Lib.hid (H8.out.mono HST8.out hb9)
        obtain ⟨y0, _, _⟩ := H9.out.cellF (o := 0) rfl
        clear hb9 HAX
        (repeat' (first | (go_big_may; fail) | go_values | go_skip | go_guarded | go_step | go_upon | go_back | dsimp only))
        refine (HAY.out w9 H9.out.below).mono ?_
        rintro e10 w10 ⟨rfl, hb10⟩
        have H10 := Lib.hid (H9.out.mono HST8.out hb10)
        obtain ⟨x0, _, _⟩ := H10.out.cellF (o := 0) rfl
        obtain ⟨x1, _, _⟩ := H10.out.cellF (o := 1) rfl
        clear hb10 HAY z0 y0
        have hli := diffI_le hi hdl
        cases co
        all_goals
          rcases Nat.eq_zero_or_pos i with hi0 | hi0
          · have hi0I : ¬ (0 : Int) < i := by omega
            have hi0N : ¬ 0 < i := by omega
            clear hi0
            (repeat' (first | (go_big_may; fail) | go_values | go_skip | go_guarded | go_step | go_upon | go_back | dsimp only))
            (refine region_still_tail 24 (by kernel_rfl) (by kernel_rfl) ?_; simp only [List.take_succ_cons, List.take_zero, List.drop_succ_cons, List.drop_zero]; (iterate 24 (first | ((with_reducible refine still_plain ?_ rfl ?_ ?_); rotate_left; (next => (go_simp; (try with_reducible rfl))); simp only [Act.put, List.setIfInBounds_toArray, List.set_cons_zero, List.set_cons_succ]) | ((with_reducible refine still_skip ?_ ?_); (next => (go_simp; done)); simp only [Act.put, List.setIfInBounds_toArray, List.set_cons_zero, List.set_cons_succ]) | ((with_reducible refine still_val ?_ ?_ ?_ ?_); rotate_left; (next => (go_simp; done)); (next => (go_simp; (try with_reducible rfl))); simp only [Act.put, List.setIfInBounds_toArray, List.set_cons_zero, List.set_cons_succ]))); (with_reducible refine wpStill_nil ?_))
            (repeat' (first | (go_big_may; fail) | go_values | go_skip | go_guarded | go_step | go_upon | go_back | dsimp only))
            go_roundw
            case rel => exact ⟨i + 1, by simp, by rw [hstep]; congr 1; simp <;> omega, by omega, (H10.out.drew HST8.out).drop⟩
            case measure => simp [intOf] <;> omega
          · obtain ⟨j, hj⟩ : ∃ j : Nat, i = j + 1 := ⟨i - 1, by omega⟩
            obtain ⟨p, hp⟩ : ∃ p, D[j]? = some p := ⟨_, List.getElem?_eq_getElem (by omega)⟩
            obtain ⟨g2, off2, cp2, hsl, hz0, _⟩ := chg_at (fun _ => rfl) (RdRow.of_own H10.out.drop.rowG) hp
            cases hsl
            have hlt2 := HRI.out j i p _ (by omega) hp HC.out
            obtain ⟨pw, po⟩ := p
            dsimp only [LtW] at hz0 hlt2
            have hjw : IntKind.i64.wrap ((i : Int) - 1) = (j : Int) := by rw [IntKind.wrap_i64] <;> omega
            have hj0 : (0 : Int) ≤ j := by omega
            have hj1 : (j : Int) < D.length := by omega
            have hi0I : (0 : Int) < i := by omega
            clear hj hp
            (repeat' (first | (go_big_may; fail) | go_values | go_skip | go_guarded | go_step | go_upon | go_back | dsimp only))
            (refine region_still_tail 24 (by kernel_rfl) (by kernel_rfl) ?_; simp only [List.take_succ_cons, List.take_zero, List.drop_succ_cons, List.drop_zero]; (iterate 24 (first | ((with_reducible refine still_plain ?_ rfl ?_ ?_); rotate_left; (next => (go_simp; (try with_reducible rfl))); simp only [Act.put, List.setIfInBounds_toArray, List.set_cons_zero, List.set_cons_succ]) | ((with_reducible refine still_skip ?_ ?_); (next => (go_simp; done)); simp only [Act.put, List.setIfInBounds_toArray, List.set_cons_zero, List.set_cons_succ]) | ((with_reducible refine still_val ?_ ?_ ?_ ?_); rotate_left; (next => (go_simp; done)); (next => (go_simp; (try with_reducible rfl))); simp only [Act.put, List.setIfInBounds_toArray, List.set_cons_zero, List.set_cons_succ]))); (with_reducible refine wpStill_nil ?_))
            (repeat' (first | (go_big_may; fail) | go_values | go_skip | go_guarded | go_step | go_upon | go_back | dsimp only))
            · go_ret
              exact ⟨rfl, H10.out.below.trans ⟨rfl, rfl, rfl, Nat.le_refl _, fun _ _ => rfl⟩⟩
            · go_roundw
              case rel => exact ⟨i + 1, by simp, by rw [hstep]; congr 1; simp <;> omega, by omega, (H10.out.drew HST8.out).drop⟩
              case measure => simp [intOf] <;> omega
      · obtain rfl : i = D.length := by omega
        have hiI : ¬ (D.length : Int) < (D.length : Int) := by omega
        have hbb := h7.below
        have HBB := Lib.hid hbb
        rw [List.take_length, HDT.out]
        clear h7 hbb
        (repeat' (first | (go_big_may; fail) | go_values | go_skip | go_guarded | go_step | go_upon | go_back | dsimp only))
        go_ret
        exact ⟨by simp, HBB.out⟩
  · have HD := Lib.hid (Diff_bad (HA.out.below HB1.out) (HB.out.below HB1.out) hlA hlB hE h0)
    have hne : (E != 0) = true := by simpa using h0
    clear hE h0
    (repeat' (first | (go_big_may; fail) | go_values | go_skip | go_guarded | go_step | go_upon | go_back | dsimp only))
    refine HD.out.mono ?_
    rintro e3 w3 ⟨rfl, hb3⟩
    have HB3 := Lib.hid (lkN HB1.out hb3)
    clear hb3 HD
    (repeat' (first | (go_big_may; fail) | go_values | go_skip | go_guarded | go_step | go_upon | go_back | dsimp only))
    go_ret
    exact ⟨rfl, HB3.out⟩
end Go.Proofs.Ytcbdncjknpdnbaa

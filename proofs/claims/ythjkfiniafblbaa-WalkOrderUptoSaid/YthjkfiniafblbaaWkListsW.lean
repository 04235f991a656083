/- The document's List; WalkLists walked. -/
import Derived.Test.YthjkfiniafblbaaWkMore
import Derived.Test.YthjkfiniafblbaaWkWakes
import Derived.Test.YthjkfiniafblbaaWkNthsW
namespace Go.Proofs.Ythjkfiniafblbaa
open Go.RowKit

theorem At.join {W w w' : World} {Φ Ψ : Thing} (h : At W w Φ) (hs : Stable Φ) (k : At w w' Ψ) : At W w' (Both Ψ Φ) := by
  obtain ⟨hb, fp, h1, h2⟩ := k
  exact h.add hs hb h1 h2

set_option maxRecDepth 100000 in
set_option maxHeartbeats 1600000 in
theorem RList_calls {w : World} {A : List Sta} {va : Value} (hA : RdAut w va A) {t : Trie} (ht : Unf A 0 t) (hl : A.length ≤ 1048576) (fs : ByteArray) (most : Int) :
    Calls Try.prog 26 #[va, .string fs, .int .i64 most] w fun e w' => ∃ vo, e = .returned vo ∧ At w w' (Both (RowG tStr 1 vo (listT t fs.data.toList most).length (strs (listT t fs.data.toList most))) Nought) := by
  have hht := htT_lt ht
  have h0 := ((At.nought (Below.refl w.heap.size w)).noRowG Stable.nought tStr 1).noRowG ((RowG.stable _ _ _ _ _).both Stable.nought) 5 1
  by_cases hm : most < 1
  · have HLT := Lib.hid (listT_none (t := t) (f := fs.data.toList) hm)
    have H0 := Lib.hid h0
    have hm2 : ¬ (4096 : Int) < most := by omega
    clear hA ht h0
    go_enter Try.func26, Try.ntmps26
    (repeat' (first | (go_big_may; fail) | go_values | go_skip | go_guarded | go_step | go_upon | go_back | dsimp only))
    go_ret
    rw [HLT.out]
    exact ⟨_, rfl, H0.out.drop⟩
  · obtain ⟨M, hM⟩ : ∃ M : Nat, min most 4096 = (M : Int) := ⟨(min most 4096).toNat, by omega⟩
    have hM2 : M ≤ 4096 := by omega
    have hM1 : ¬ (M : Int) < 1 := by omega
    have hlt : listT t fs.data.toList most = (wT t fs.data.toList).take M := by rw [listT_some hm, hM, Int.toNat_natCast]
    have HLT := Lib.hid hlt
    have hmo := more_at hA M hM2 (htT t + 1) w 0 t fs true (.slice none 0 0) (.slice none 0 0) [] [] Nought h0 Stable.nought ht (by omega) (by simp; omega) (by simp)
    rw [List.nil_append, pwT_nil, show leftF true fs ([] : List UInt8).length = fs.data.toList from rfl] at hmo
    have HMO := Lib.hid hmo
    clear hA ht h0 hmo hlt
    by_cases hbig : 4096 < most
    · have he : (M : Int) = 4096 := by omega
      obtain rfl : M = 4096 := by omega
      clear hM he
      go_enter Try.func26, Try.ntmps26
      (repeat' (first | (go_big_may; fail) | go_values | go_skip | go_guarded | go_step | go_upon | go_back | dsimp only))
      refine HMO.out.mono ?_
      rintro e1 w1 ⟨vl, rfl, h1⟩
      have H1 := Lib.hid h1
      clear h1
      (repeat' (first | (go_big_may; fail) | go_values | go_skip | go_guarded | go_step | go_upon | go_back | dsimp only))
      go_ret
      rw [HLT.out]
      exact ⟨_, rfl, H1.out.drop⟩
    · obtain rfl : most = (M : Int) := by omega
      clear hM
      go_enter Try.func26, Try.ntmps26
      (repeat' (first | (go_big_may; fail) | go_values | go_skip | go_guarded | go_step | go_upon | go_back | dsimp only))
      refine HMO.out.mono ?_
      rintro e1 w1 ⟨vl, rfl, h1⟩
      have H1 := Lib.hid h1
      clear h1
      (repeat' (first | (go_big_may; fail) | go_values | go_skip | go_guarded | go_step | go_upon | go_back | dsimp only))
      go_ret
      rw [HLT.out]
      exact ⟨_, rfl, H1.out.drop⟩

set_option maxRecDepth 100000 in
set_option maxHeartbeats 3200000 in
theorem walkLists_walk (W : World) (A : List Sta) (v0 : Value) (hA : RdAut W v0 A) (hl : A.length + edgesN A ≤ 1048576) (fs : ByteArray) (_hfs : fs.size ≤ 1048576) (most : Int) (_hmo : -9223372036854775808 ≤ most ∧ most ≤ 9223372036854775807) :
    Calls Try.prog 6 #[v0, .string fs, .int .i64 most] W fun e W' => e = .returned (.bool true) ∧ Below W.heap.size W W' := by
  have HW := Lib.hid (wakes_calls W)
  have HA := Lib.hid hA
  have hAl : A.length ≤ 1048576 := by omega
  clear hA
  go_enter Try.func6, Try.ntmps6
  (repeat' (first | (go_big_may; fail) | go_values | go_skip | go_guarded | go_step | go_upon | go_back | dsimp only))
  refine HW.out.mono ?_
  rintro e1 w1 ⟨rfl, hb1⟩
  have HB1 := Lib.hid hb1
  have HRF := Lib.hid (ref_calls (HA.out.below hb1) hl)
  clear hb1 HW
  (repeat' (first | (go_big_may; fail) | go_values | go_skip | go_guarded | go_step | go_upon | go_back | dsimp only))
  refine HRF.out.mono ?_
  rintro e2 w2 ⟨vx, rfl, h2⟩
  have HB2 := Lib.hid (lk HB1.out h2.below)
  have HX := Lib.hid h2.autRd
  have HS := Lib.hid (RShape_calls h2.autRd hl)
  clear h2 HRF
  (repeat' (first | (go_big_may; fail) | go_values | go_skip | go_guarded | go_step | go_upon | go_back | dsimp only))
  refine HS.out.mono ?_
  rintro e3 w3 ⟨rfl, hb3⟩
  have HB3 := Lib.hid (lk HB2.out hb3)
  have HX3 := Lib.hid (HX.out.below hb3)
  clear hb3 HS HX
  cases hs : shapeB A with
  | false =>
    rw [shapeV_bad hs]
    clear hs
    (repeat' (first | (go_big_may; fail) | go_values | go_skip | go_guarded | go_step | go_upon | go_back | dsimp only))
    go_ret
    exact ⟨rfl, HB3.out⟩
  | true =>
    rw [shapeV_ok hs]
    have hsh := shaped_of hs
    obtain ⟨t, ht, _, _⟩ := hsh.tr 0 hsh.pos
    have HS := Lib.hid hs
    have HT := Lib.hid ht
    have HRL := Lib.hid (RList_calls HX3.out ht hAl fs most)
    have hLTl := listT_len t fs.data.toList most
    obtain ⟨LT, hLT⟩ : ∃ LT, LT = listT t fs.data.toList most := ⟨_, rfl⟩
    rw [← hLT] at HRL hLTl
    have HLT := Lib.hid hLT
    have HLE := Lib.hid (decide_eq_true (rfl : LT = LT))
    clear hs hsh ht hLT
    (repeat' (first | (go_big_may; fail) | go_values | go_skip | go_guarded | go_step | go_upon | go_back | dsimp only))
    refine HRL.out.mono ?_
    rintro e4 w4 ⟨vw, rfl, h4⟩
    obtain ⟨wa, wc, rfl, _, _⟩ := own_shape h4.rowG
    have H4 := Lib.hid ((At.nought HB3.out).join Stable.nought h4.keep)
    have HTW := Lib.hid (twin_calls (HA.out.below H4.out.below) hl)
    have HST := Lib.hid (fun v => (RowG.stable tStr 1 v LT.length (strs LT)).both Stable.nought)
    clear h4 HRL
    (repeat' (first | (go_big_may; fail) | go_values | go_skip | go_guarded | go_step | go_upon | go_back | dsimp only))
    refine HTW.out.mono ?_
    rintro e5 w5 ⟨vt, rfl, h5⟩
    have H5 := Lib.hid (H4.out.mono (HST.out _) h5.below)
    have hli := List_calls h5.autRd hl HS.out HT.out fs most
    rw [← HLT.out] at hli
    have HLI := Lib.hid hli
    clear h5 HTW hli H4
    (repeat' (first | (go_big_may; fail) | go_values | go_skip | go_guarded | go_step | go_upon | go_back | dsimp only))
    refine HLI.out.mono ?_
    rintro e6 w6 ⟨vl, rfl, h6⟩
    obtain ⟨la, lc, rfl, _, _⟩ := own_shape h6.rowG
    have H6 := Lib.hid (H5.out.join (HST.out _) h6.keep)
    have HTW := Lib.hid (twin_calls (HA.out.below H6.out.below) hl)
    clear h6 HLI H5
    (repeat' (first | (go_big_may; fail) | go_values | go_skip | go_guarded | go_step | go_upon | go_back | dsimp only))
    refine HTW.out.mono ?_
    rintro e7 w7 ⟨vt7, rfl, h7⟩
    have H7 := Lib.hid (H6.out.mono ((RowG.stable _ _ _ _ _).both (HST.out _)) h7.below)
    have hli := List_calls h7.autRd hl HS.out HT.out fs most
    rw [← HLT.out] at hli
    have HLI := Lib.hid hli
    clear h7 HTW hli H6
    (repeat' (first | (go_big_may; fail) | go_values | go_skip | go_guarded | go_step | go_upon | go_back | dsimp only))
    refine HLI.out.mono ?_
    rintro e8 w8 ⟨vm, rfl, h8⟩
    obtain ⟨ma, mc, rfl, _, _⟩ := own_shape h8.rowG
    have H8 := Lib.hid (H7.out.join ((RowG.stable _ _ _ _ _).both (HST.out _)) h8.keep).swap
    have hs1 := same_calls LT LT _ _ w8 (RdRow.of_own H8.out.rowG) (RdRow.of_own H8.out.drop.drop.rowG)
    rw [HLE.out] at hs1
    have HS1 := Lib.hid hs1
    clear h8 HLI H7 hs1
    (repeat' (first | (go_big_may; fail) | go_values | go_skip | go_guarded | go_step | go_upon | go_back | dsimp only))
    refine HS1.out.mono ?_
    rintro e9 w9 ⟨rfl, hb9⟩
    have H9 := Lib.hid (H8.out.mono ((RowG.stable _ _ _ _ _).both ((RowG.stable _ _ _ _ _).both (HST.out _))) hb9)
    have hs2 := same_calls LT LT _ _ w9 (RdRow.of_own H9.out.drop.rowG) (RdRow.of_own H9.out.drop.drop.rowG)
    rw [HLE.out] at hs2
    have HS2 := Lib.hid hs2
    clear hb9 HS1 H8 hs2
    (repeat' (first | (go_big_may; fail) | go_values | go_skip | go_guarded | go_step | go_upon | go_back | dsimp only))
    refine HS2.out.mono ?_
    rintro e10 w10 ⟨rfl, hb10⟩
    have H10 := Lib.hid (H9.out.mono ((RowG.stable _ _ _ _ _).both ((RowG.stable _ _ _ _ _).both (HST.out _))) hb10)
    clear hb10 HS2 H9
    (repeat' (first | (go_big_may; fail) | go_values | go_skip | go_guarded | go_step | go_upon | go_back | dsimp only))
    go_loopw [61] (fun vi wr => ∃ (i : Nat) (ls : List Value), vi = .int .i64 i ∧ i ≤ LT.length ∧ ls.length = LT.length ∧ At W wr (Both (RowG tStr 1 (.slice la LT.length lc) LT.length ls) (Both (RowG tStr 1 (.slice ma LT.length mc) LT.length (strs LT)) (Both (RowG tStr 1 (.slice wa LT.length wc) LT.length (strs LT)) Nought)))) (fun vi _ => LT.length - (intOf vi).toNat)
    case atStart => exact ⟨0, _, rfl, Nat.zero_le _, by simp, H10.out⟩
    case round =>
      obtain ⟨i, ls, rfl, hi, hls, h11⟩ := hrel
      by_cases hlt : i < LT.length
      · have hiI : (i : Int) < (LT.length : Int) := by omega
        obtain ⟨g, cap, hg, _, _, _⟩ := own_cut h11.rowG (by omega)
        simp only [Value.slice.injEq] at hg
        obtain ⟨rfl, _, rfl⟩ := hg
        obtain ⟨r1, r2, r3⟩ := h11.rowCell (j := i) (u := ls[i]'(by omega)) (List.getElem?_eq_getElem (by omega))
        have h12 := h11.storeG ((RowG.stable _ _ _ _ _).both (HST.out _)) i (.string ⟨#[109, 97, 114, 107]⟩)
        have H12 := Lib.hid h12
        clear h11 h12
        (repeat' (first | (go_big_may; fail) | go_values | go_skip | go_guarded | go_step | go_upon | go_back | dsimp only))
        go_roundw
        case rel => exact ⟨i + 1, _, by simp, by omega, by simpa using hls, H12.out⟩
        case measure => simp [intOf] <;> omega
      · obtain rfl : i = LT.length := by omega
        have hs3 := same_calls LT LT _ _ wr (RdRow.of_own h11.drop.rowG) (RdRow.of_own h11.drop.drop.rowG)
        rw [HLE.out] at hs3
        have HS3 := Lib.hid hs3
        have HB := Lib.hid h11.below
        clear h11 hs3
        (repeat' (first | (go_big_may; fail) | go_values | go_skip | go_guarded | go_step | go_upon | go_back | dsimp only))
        refine HS3.out.mono ?_
        rintro e12 w12 ⟨rfl, hb12⟩
        have HB12 := Lib.hid (lk HB.out hb12)
        clear hb12
        (repeat' (first | (go_big_may; fail) | go_values | go_skip | go_guarded | go_step | go_upon | go_back | dsimp only))
        go_ret
        exact ⟨rfl, HB12.out⟩
end Go.Proofs.Ythjkfiniafblbaa

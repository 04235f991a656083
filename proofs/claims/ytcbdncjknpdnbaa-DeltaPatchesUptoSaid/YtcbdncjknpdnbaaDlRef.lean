/- hornbookref27: words and Diff walked. -/
import Derived.Test.YtcbdncjknpdnbaaWkRNth
import Derived.Test.YtcbdncjknpdnbaaWkOrdP
import Derived.Test.YtcbdncjknpdnbaaBuiltP
import Derived.Test.YtcbdncjknpdnbaaRef8b
import Derived.Test.YtcbdncjknpdnbaaDlP
import Derived.Test.YtcbdncjknpdnbaaDlWords
namespace Go.Proofs.Ytcbdncjknpdnbaa
open Go.RowKit

theorem rankT_nil (t : Trie) : (rankT t []).1 = 0 := rfl
theorem words_get {t : Trie} (hk : Good t) {n : Nat} (h : n < cntT t) : (wT t [])[n]? = some (nthT t n) := by
  rw [wT_seg hk [], rankT_nil, Nat.sub_zero, seg_get _ _ _ _ h, Nat.zero_add]
theorem words_rise {t : Trie} (hk : Good t) : RisesL (wT t []) := by
  rw [wT_seg hk [], rankT_nil, Nat.sub_zero]
  unfold RisesL seg
  rw [List.pairwise_map]
  refine (List.pairwise_lt_range (n := cntT t)).imp_of_mem ?_
  intro a b ha hb hab
  rw [List.mem_range] at ha hb
  have := nthT_rise hk hab (by omega)
  simpa [LtW] using this
theorem take_word {t : Trie} (hk : Good t) {n : Nat} (h : n < cntT t) : (wT t []).take n ++ [nthT t n] = (wT t []).take (n + 1) := by
  rw [List.take_add_one, words_get hk h]; rfl
theorem good_root {A : List Sta} (hs : shapeB A = true) {t : Trie} (ht : Unf A 0 t) : Good t := by
  have hsh := shaped_of hs
  obtain ⟨t2, h2, h3, _⟩ := hsh.tr 0 hsh.pos
  rw [ht.uniq h2]; exact h3
set_option maxRecDepth 100000 in
set_option maxHeartbeats 3200000 in
theorem RWords_calls {w : World} {A : List Sta} {va : Value} (hA : RdAut w va A) (hl : A.length ≤ 1048576 ∧ edgesN A ≤ 1048576) (hs : shapeB A = true) {t : Trie} (ht : Unf A 0 t) (hc : cntT t ≤ 65536) :
    Calls Try.prog 28 #[va] w fun e w' => ∃ vo, e = .returned (.tuple #[vo, .bool true]) ∧ At w w' (Both (RowG tSt 1 vo (wT t []).length (strs (wT t []))) Nought) := by
  have hsh := shaped_of hs
  have HG := Lib.hid (good_root hs ht)
  have HLN := Lib.hid (cnt_words HG.out)
  have HC := Lib.hid (RCounts_calls hA hl hsh)
  have HA := Lib.hid hA
  have HT := Lib.hid ht
  obtain ⟨a0, c0, hv, _, hc0⟩ := hA.shape
  unfold maxLen at hc0
  have hpos : (0 : Int) < (A.length : Int) := by have := hsh.pos; omega
  subst hv
  clear hA hs ht hsh
  go_enter Try.func28, Try.ntmps28
  (repeat' (first | (go_big_may; fail) | go_values | go_skip | go_guarded | go_step | go_upon | go_back | dsimp only))
  refine HC.out.mono ?_
  rintro e1 w1 ⟨cs, g, rfl, hcs, h1⟩
  have HCS := Lib.hid hcs
  have c0 := cell_row (RdRow.of_own h1.rowG) (hcs.2 0 t HT.out)
  have hci : cntI t = (cntT t : Int) := by unfold cntI; rw [capN_small (by omega)]
  rw [hci] at c0
  have hcI : ¬ (65536 : Int) < (cntT t : Int) := by omega
  have H1 := Lib.hid (h1.noRowG ((RowG.stable _ _ _ _ _).both Stable.nought) tSt 1)
  have HCI := Lib.hid hci
  clear hcs h1 HC hci
  (repeat' (first | (go_big_may; fail) | go_values | go_skip | go_guarded | go_step | go_upon | go_back | dsimp only))
  clear c0
  go_loopw [5, 6] (fun vo vi wr => ∃ i : Nat, vi = .int .i64 i ∧ i ≤ cntT t ∧ At w wr (Both (RowG tSt 1 vo ((wT t []).take i).length (strs ((wT t []).take i))) (Both (RowG tInt 1 (.slice (some ⟨g, 0, none⟩) A.length A.length) A.length (intsI cs)) Nought))) (fun _ vi _ => cntT t - (intOf vi).toNat)
  case atStart => exact ⟨0, rfl, Nat.zero_le _, H1.out⟩
  case round =>
    obtain ⟨i, rfl, hi, h2⟩ := hrel
    obtain ⟨oa, oc, hvo, _, hoc⟩ := own_shape h2.rowG
    subst hvo
    unfold maxLen at hoc
    have hrd := RdRow.of_own h2.drop.rowG
    have c0 := cell_row hrd (HCS.out.2 0 t HT.out)
    rw [HCI.out] at c0
    have hst2 : Stable (Both (RowG tInt 1 (.slice (some ⟨g, 0, none⟩) A.length A.length) A.length (intsI cs)) Nought) := (RowG.stable _ _ _ _ _).both Stable.nought
    by_cases hlt : i < cntT t
    · have hiI : (i : Int) < (cntT t : Int) := by omega
      have hn := RNth_calls (HA.out.below h2.below) hl HT.out (by omega) (i : Int) HCS.out hrd
      have hns := nthS_in hlt
      rw [hns.1, hns.2] at hn
      have HN := Lib.hid hn
      have H2 := Lib.hid h2
      have HTK := Lib.hid (take_word HG.out hlt)
      have hll : ((wT t []).take i).length = i := by rw [List.length_take, ← HLN.out]; omega
      have HLL := Lib.hid hll
      clear hn hns h2 hrd
      generalize nthT t i = x at *
      generalize (wT t []).take i = L0 at *
      have hL0 : L0.length ≤ 65536 := by rw [hll]; omega
      clear hll
      (repeat' (first | (go_big_may; fail) | go_values | go_skip | go_guarded | go_step | go_upon | go_back | dsimp only))
      refine HN.out.mono ?_
      rintro e3 w3 ⟨rfl, hb3⟩
      have H3 := Lib.hid (H2.out.mono ((RowG.stable _ _ _ _ _).both hst2) hb3)
      clear hb3 c0 HN
      (repeat' (first | (go_big_may; ((at_builtin; go_must (refine wpList_append_to rfl _ _ 66 tSt rfl Try.underlying66 info_St8 rfl (by decide) rfl (H3.out) (hst2) rfl (by first | rfl | simp) rfl (one_str _) (by unfold maxLen; omega) (by omega) ?_); intro a2 c2 w4 h4 _); have H4 := Lib.hid h4; clear h4)) | go_values | go_skip | go_guarded | go_step | go_upon | go_back | dsimp only))
      go_roundw
      case rel =>
        refine ⟨i + 1, by simp, by omega, ?_⟩
        rw [← HTK.out, strs_snoc, List.length_append]
        exact H4.out
      case measure => simp [intOf] <;> omega
    · obtain rfl : i = cntT t := by omega
      have hiI : ¬ (cntT t : Int) < (cntT t : Int) := by omega
      rw [List.take_of_length_le (by rw [← HLN.out]; exact Nat.le_refl _)] at h2
      have H2 := Lib.hid h2
      rw [List.take_of_length_le (by rw [← HLN.out]; exact Nat.le_refl _)]
      clear h2 hrd
      (repeat' (first | (go_big_may; fail) | go_values | go_skip | go_guarded | go_step | go_upon | go_back | dsimp only))
      go_ret2
      exact ⟨_, rfl, H2.out.swap.drop⟩
set_option maxRecDepth 100000 in
set_option maxHeartbeats 3200000 in
theorem RWords_many {w : World} {A : List Sta} {va : Value} (hA : RdAut w va A) (hl : A.length ≤ 1048576 ∧ edgesN A ≤ 1048576) (hs : shapeB A = true) {t : Trie} (ht : Unf A 0 t) (hc : 65536 < cntT t) :
    Calls Try.prog 28 #[va] w fun e w' => e = .returned (.tuple #[.slice none 0 0, .bool false]) ∧ Below w.heap.size w w' := by
  have hsh := shaped_of hs
  have HC := Lib.hid (RCounts_calls hA hl hsh)
  have HT := Lib.hid ht
  obtain ⟨a0, c0, hv, _, hc0⟩ := hA.shape
  unfold maxLen at hc0
  have hpos : (0 : Int) < (A.length : Int) := by have := hsh.pos; omega
  subst hv
  clear hA hs ht hsh
  go_enter Try.func28, Try.ntmps28
  (repeat' (first | (go_big_may; fail) | go_values | go_skip | go_guarded | go_step | go_upon | go_back | dsimp only))
  refine HC.out.mono ?_
  rintro e1 w1 ⟨cs, g, rfl, hcs, h1⟩
  have c0 := cell_row (RdRow.of_own h1.rowG) (hcs.2 0 t HT.out)
  have hcI : (65536 : Int) < cntI t := by unfold cntI capN; omega
  have HB := Lib.hid h1.below
  generalize cntI t = ci at *
  clear hcs h1 HC
  (repeat' (first | (go_big_may; fail) | go_values | go_skip | go_guarded | go_step | go_upon | go_back | dsimp only))
  go_ret2
  exact ⟨rfl, HB.out⟩
abbrev tRCh : TypeId := 75
abbrev rchc (c : Chg) : List Value := [.string ⟨c.1.toArray⟩, .bool c.2]
theorem rchc_len : ∀ c, (rchc c).length = 2 := fun _ => rfl
theorem info_RCh : (Try.prog.info? tRCh).map (fun i => (i.zero, i.size, i.bytes)) = some (some (.agg #[.string ⟨#[]⟩, .bool false]), 2, 24) := by kernel_rfl
theorem rchc_one (c : Chg) : ∀ u ∈ (#[.string ⟨c.1.toArray⟩, .bool c.2] : Array Value).toList, u.oneCell' = true := by
  intro u hu
  simp at hu
  rcases hu with rfl | rfl <;> rfl
/-- What of these words differs. -/
def refDU (xs ys U : List (List UInt8)) : List Chg := (U.filter fun w => decide (w ∈ xs) != decide (w ∈ ys)).map fun w => (w, decide (w ∈ xs))
theorem refDU_all (xs ys : List (List UInt8)) : refDU xs ys (mergeL xs ys) = refD xs ys := rfl
theorem refDU_yes {xs ys U : List (List UInt8)} {w : List UInt8} (h : (decide (w ∈ xs) != decide (w ∈ ys)) = true) : refDU xs ys (U ++ [w]) = refDU xs ys U ++ [(w, decide (w ∈ xs))] := by
  unfold refDU
  rw [List.filter_append, List.map_append]
  simp only [List.filter_cons, h, if_true, List.filter_nil, List.map_cons, List.map_nil]
theorem refDU_no {xs ys U : List (List UInt8)} {w : List UInt8} (h : (decide (w ∈ xs) != decide (w ∈ ys)) = false) : refDU xs ys (U ++ [w]) = refDU xs ys U := by
  unfold refDU
  rw [List.filter_append, List.map_append]
  simp only [List.filter_cons, h, List.filter_nil]
  simp
theorem refDU_len (xs ys U : List (List UInt8)) : (refDU xs ys U).length ≤ U.length := by
  unfold refDU
  rw [List.length_map]
  exact List.length_filter_le _ _
theorem two_str {w : World} {v : Value} {L : List (List UInt8)} (h : RdRow w v L.length 1 (strs L)) {i : Nat} (hi : i < L.length) : ∃ b off cap, v = .slice (some ⟨b, off, none⟩) L.length cap ∧ w.cell? ⟨b, off + i, none⟩ = some (.string ⟨(L[i]).toArray⟩) :=
  h.str (List.getElem?_eq_getElem hi)
set_option maxRecDepth 100000 in
set_option maxHeartbeats 3200000 in
theorem RDiff_ok {w : World} {A B : List Sta} {va vb : Value} (hA : RdAut w va A) (hB : RdAut w vb B) (hlA : A.length ≤ 1048576 ∧ edgesN A ≤ 1048576) (hlB : B.length ≤ 1048576 ∧ edgesN B ≤ 1048576) (hsa : shapeB A = true) (hsb : shapeB B = true) {ta tb : Trie} (hta : Unf A 0 ta) (htb : Unf B 0 tb) (hca : cntT ta ≤ 65536) (hcb : cntT tb ≤ 65536) :
    Calls Try.prog 10 #[va, vb] w fun e w' => ∃ vo, e = .returned (.tuple #[vo, .int .i64 0]) ∧ At w w' (Both (RowG tRCh 2 vo (refD (wT ta []) (wT tb [])).length ((refD (wT ta []) (wT tb [])).flatMap rchc)) Nought) := by
  have HSA := Lib.hid (fun (w1 : World) (hb : Below w.heap.size w w1) => RShape_calls (hA.below hb) hlA)
  have HSB := Lib.hid (fun (w1 : World) (hb : Below w.heap.size w w1) => RShape_calls (hB.below hb) hlB)
  rw [shapeV_ok hsa] at HSA
  rw [shapeV_ok hsb] at HSB
  have HWA := Lib.hid (fun (w1 : World) (hb : Below w.heap.size w w1) => RWords_calls (hA.below hb) hlA hsa hta hca)
  have HWB := Lib.hid (fun (w1 : World) (hb : Below w.heap.size w w1) => RWords_calls (hB.below hb) hlB hsb htb hcb)
  have hra := words_rise (good_root hsa hta)
  have hrb := words_rise (good_root hsb htb)
  have hna := cnt_words (good_root hsa hta)
  have hnb := cnt_words (good_root hsb htb)
  obtain ⟨aa, ac, rfl, _, _⟩ := hA.shape
  obtain ⟨ba, bc, rfl, _, _⟩ := hB.shape
  clear hA hB hsa hsb hta htb
  rw [hna] at hca
  rw [hnb] at hcb
  generalize wT ta [] = xs at *
  generalize wT tb [] = ys at *
  clear hna hnb
  have HRA := Lib.hid hra
  have HRB := Lib.hid hrb
  have hul := mergeL_len xs ys
  rw [← refDU_all]
  have HRU := Lib.hid (fun (w : World) (va vb : Value) (ha : RdRow w va xs.length 1 (strs xs)) (hb : RdRow w vb ys.length 1 (strs ys)) => RUnion_calls ha hb (by omega))
  generalize mergeL xs ys = U at *
  clear hra hrb
  go_enter Try.func10, Try.ntmps10
  (repeat' (first | (go_big_may; fail) | go_values | go_skip | go_guarded | go_step | go_upon | go_back | dsimp only))
  refine (HSA.out w (Below.refl _ _)).mono ?_
  rintro e1 w1 ⟨rfl, hb1⟩
  have HB1 := Lib.hid hb1
  clear hb1
  (repeat' (first | (go_big_may; fail) | go_values | go_skip | go_guarded | go_step | go_upon | go_back | dsimp only))
  refine (HSB.out w1 HB1.out).mono ?_
  rintro e2 w2 ⟨rfl, hb2⟩
  have HB2 := Lib.hid (HB1.out.trans (hb2.mono HB1.out.size))
  clear hb2
  (repeat' (first | (go_big_may; fail) | go_values | go_skip | go_guarded | go_step | go_upon | go_back | dsimp only))
  refine (HWA.out w2 HB2.out).mono ?_
  rintro e3 w3 ⟨vx, rfl, h3⟩
  have H3 := Lib.hid (h3.rebase HB2.out)
  clear h3
  (repeat' (first | (go_big_may; fail) | go_values | go_skip | go_guarded | go_step | go_upon | go_back | dsimp only))
  refine (HWB.out w3 H3.out.below).mono ?_
  rintro e4 w4 ⟨vy, rfl, h4⟩
  have H4 := Lib.hid (H3.out.glue ((RowG.stable _ _ _ _ _).both Stable.nought) h4)
  clear h4
  obtain ⟨xa, xc, rfl, _, hxc⟩ := own_shape H4.out.drop.rowG
  obtain ⟨ya, yc, rfl, _, hyc⟩ := own_shape H4.out.rowG
  have HU := Lib.hid (HRU.out _ _ _ (RdRow.of_own H4.out.drop.rowG) (RdRow.of_own H4.out.rowG))
  clear H3
  (repeat' (first | (go_big_may; fail) | go_values | go_skip | go_guarded | go_step | go_upon | go_back | dsimp only))
  refine HU.out.mono ?_
  rintro e5 w5 ⟨vu, rfl, h5⟩
  have hst4 : Stable (Both (RowG tSt 1 (.slice ya ys.length yc) ys.length (strs ys)) (Both (RowG tSt 1 (.slice xa xs.length xc) xs.length (strs xs)) Nought)) := (RowG.stable _ _ _ _ _).both ((RowG.stable _ _ _ _ _).both Stable.nought)
  have h6 := H4.out.glue hst4 h5
  obtain ⟨ua, uc, rfl, _, huc⟩ := own_shape h6.rowG
  unfold maxLen at huc
  have H6 := Lib.hid (h6.noRowG ((RowG.stable _ _ _ _ _).both hst4) tRCh 2)
  clear h5 h6 HU H4
  (repeat' (first | (go_big_may; fail) | go_values | go_skip | go_guarded | go_step | go_upon | go_back | dsimp only))
  go_loopw [12, 14] (fun vo vi wr => ∃ i : Nat, vi = .int .i64 i ∧ i ≤ U.length ∧ At w wr (Both (RowG tRCh 2 vo (refDU xs ys (U.take i)).length ((refDU xs ys (U.take i)).flatMap rchc)) (Both (RowG tSt 1 (.slice ua U.length uc) U.length (strs U)) (Both (RowG tSt 1 (.slice ya ys.length yc) ys.length (strs ys)) (Both (RowG tSt 1 (.slice xa xs.length xc) xs.length (strs xs)) Nought))))) (fun _ vi _ => U.length - (intOf vi).toNat)
  case atStart => exact ⟨0, rfl, Nat.zero_le _, H6.out⟩
  case round =>
    obtain ⟨i, rfl, hi, h7⟩ := hrel
    obtain ⟨oa, oc, hvo, _, hoc⟩ := own_shape h7.rowG
    subst hvo
    unfold maxLen at hoc
    have hdl := refDU_len xs ys (U.take i)
    rw [List.length_take, Nat.min_eq_left hi] at hdl
    by_cases hlt : i < U.length
    · have hiI : (i : Int) < (U.length : Int) := by omega
      obtain ⟨b, off, cap, hsl, hc⟩ := two_str (RdRow.of_own h7.drop.rowG) hlt
      cases hsl
      have htk : U.take i ++ [U[i]] = U.take (i + 1) := by rw [List.take_add_one, List.getElem?_eq_getElem hlt]; rfl
      have HX := Lib.hid (RHas_calls HRA.out (RdRow.of_own h7.drop.drop.drop.rowG) (by omega) (U[i]))
      have HY := Lib.hid (RHas_calls HRB.out (RdRow.of_own h7.drop.drop.rowG) (by omega) (U[i]))
      have H7 := Lib.hid h7
      have HST := Lib.hid ((RowG.stable tSt 1 (.slice (some ⟨b, off, none⟩) U.length uc) U.length (strs U)).both hst4)
      have HTK := Lib.hid htk
      clear h7 htk
      generalize U[i] = x at *
      cases hin : decide (x ∈ xs) with
      | true =>
        cases his : decide (x ∈ ys) with
        | true =>
          have HD := Lib.hid (refDU_no (U := U.take i) (xs := xs) (ys := ys) (w := x) (by rw [hin, his]; rfl))
          rw [hin] at HX
          rw [his] at HY
          clear hin his
          (repeat' (first | (go_big_may; fail) | go_values | go_skip | go_guarded | go_step | go_upon | go_back | dsimp only))
          refine HX.out.mono ?_
          rintro e8 w8 ⟨rfl, rfl⟩
          (repeat' (first | (go_big_may; fail) | go_values | go_skip | go_guarded | go_step | go_upon | go_back | dsimp only))
          refine HY.out.mono ?_
          rintro e9 w9 ⟨rfl, rfl⟩
          (repeat' (first | (go_big_may; fail) | go_values | go_skip | go_guarded | go_step | go_upon | go_back | dsimp only))
          go_roundw
          case rel =>
            refine ⟨i + 1, by simp, by omega, ?_⟩
            rw [← HTK.out, HD.out]
            exact H7.out
          case measure => simp [intOf] <;> omega
        | false =>
          have hdy := refDU_yes (U := U.take i) (xs := xs) (ys := ys) (w := x) (by rw [hin, his]; rfl)
          obtain ⟨D0, hD0⟩ : ∃ D0, refDU xs ys (U.take i) = D0 := ⟨_, rfl⟩
          rw [hin] at HX
          rw [his] at HY
          rw [hD0] at hdy hdl H7 ⊢
          rw [hin] at hdy
          have HD := Lib.hid hdy
          clear hdy hD0 hin his
          (repeat' (first | (go_big_may; fail) | go_values | go_skip | go_guarded | go_step | go_upon | go_back | dsimp only))
          refine HX.out.mono ?_
          rintro e8 w8 ⟨rfl, rfl⟩
          (repeat' (first | (go_big_may; fail) | go_values | go_skip | go_guarded | go_step | go_upon | go_back | dsimp only))
          refine HY.out.mono ?_
          rintro e9 w9 ⟨rfl, rfl⟩
          (repeat' (first | (go_big_may; ((at_builtin; go_must (refine wpList_append_to rfl _ _ 29 tRCh rfl Try.underlying29 info_RCh rfl (by decide) rfl (H7.out) (HST.out) rfl (by first | rfl | simp) rfl (rchc_one (x, true)) (by unfold maxLen; omega) (by omega) ?_); intro a2 c2 w10 h10 _); have H10 := Lib.hid h10; clear h10)) | go_values | go_skip | go_guarded | go_step | go_upon | go_back | dsimp only))
          go_roundw
          case rel =>
            refine ⟨i + 1, by simp, by omega, ?_⟩
            rw [← HTK.out, HD.out, List.length_append, List.flatMap_append]
            exact H10.out
          case measure => simp [intOf] <;> omega
      | false =>
        cases his : decide (x ∈ ys) with
        | true =>
          have hdy := refDU_yes (U := U.take i) (xs := xs) (ys := ys) (w := x) (by rw [hin, his]; rfl)
          obtain ⟨D0, hD0⟩ : ∃ D0, refDU xs ys (U.take i) = D0 := ⟨_, rfl⟩
          rw [hin] at HX
          rw [his] at HY
          rw [hD0] at hdy hdl H7 ⊢
          rw [hin] at hdy
          have HD := Lib.hid hdy
          clear hdy hD0 hin his
          (repeat' (first | (go_big_may; fail) | go_values | go_skip | go_guarded | go_step | go_upon | go_back | dsimp only))
          refine HX.out.mono ?_
          rintro e8 w8 ⟨rfl, rfl⟩
          (repeat' (first | (go_big_may; fail) | go_values | go_skip | go_guarded | go_step | go_upon | go_back | dsimp only))
          refine HY.out.mono ?_
          rintro e9 w9 ⟨rfl, rfl⟩
          (repeat' (first | (go_big_may; ((at_builtin; go_must (refine wpList_append_to rfl _ _ 29 tRCh rfl Try.underlying29 info_RCh rfl (by decide) rfl (H7.out) (HST.out) rfl (by first | rfl | simp) rfl (rchc_one (x, false)) (by unfold maxLen; omega) (by omega) ?_); intro a2 c2 w10 h10 _); have H10 := Lib.hid h10; clear h10)) | go_values | go_skip | go_guarded | go_step | go_upon | go_back | dsimp only))
          go_roundw
          case rel =>
            refine ⟨i + 1, by simp, by omega, ?_⟩
            rw [← HTK.out, HD.out, List.length_append, List.flatMap_append]
            exact H10.out
          case measure => simp [intOf] <;> omega
        | false =>
          have HD := Lib.hid (refDU_no (U := U.take i) (xs := xs) (ys := ys) (w := x) (by rw [hin, his]; rfl))
          rw [hin] at HX
          rw [his] at HY
          clear hin his
          (repeat' (first | (go_big_may; fail) | go_values | go_skip | go_guarded | go_step | go_upon | go_back | dsimp only))
          refine HX.out.mono ?_
          rintro e8 w8 ⟨rfl, rfl⟩
          (repeat' (first | (go_big_may; fail) | go_values | go_skip | go_guarded | go_step | go_upon | go_back | dsimp only))
          refine HY.out.mono ?_
          rintro e9 w9 ⟨rfl, rfl⟩
          (repeat' (first | (go_big_may; fail) | go_values | go_skip | go_guarded | go_step | go_upon | go_back | dsimp only))
          go_roundw
          case rel =>
            refine ⟨i + 1, by simp, by omega, ?_⟩
            rw [← HTK.out, HD.out]
            exact H7.out
          case measure => simp [intOf] <;> omega
    · obtain rfl : i = U.length := by omega
      have hiI : ¬ (U.length : Int) < (U.length : Int) := by omega
      rw [List.take_length] at h7 ⊢
      have H7 := Lib.hid h7
      clear h7
      (repeat' (first | (go_big_may; fail) | go_values | go_skip | go_guarded | go_step | go_upon | go_back | dsimp only))
      go_ret2
      exact ⟨_, rfl, H7.out.swap.drop.swap.drop.swap.drop⟩
set_option maxRecDepth 100000 in
set_option maxHeartbeats 3200000 in
theorem RDiff_bad {w : World} {A B : List Sta} {va vb : Value} (hA : RdAut w va A) (hB : RdAut w vb B) (hlA : A.length ≤ 1048576 ∧ edgesN A ≤ 1048576) (hlB : B.length ≤ 1048576 ∧ edgesN B ≤ 1048576) {E : Int} (hE : FitR [A, B] E) (h0 : E ≠ 0) :
    Calls Try.prog 10 #[va, vb] w fun e w' => e = .returned (.tuple #[.slice none 0 0, .int .i64 E]) ∧ Below w.heap.size w w' := by
  have HSA := Lib.hid (RShape_calls hA hlA)
  have HSB := Lib.hid (fun (w1 : World) (hb : Below w.heap.size w w1) => RShape_calls (hB.below hb) hlB)
  obtain ⟨aa, ac, hva, _, _⟩ := hA.shape
  obtain ⟨ba, bc, hvb, _, _⟩ := hB.shape
  have HA := Lib.hid hA
  have HB := Lib.hid hB
  have HE := Lib.hid hE
  subst hva hvb
  clear hA hB hE
  cases hsa : shapeB A with
  | false =>
    obtain rfl := HE.out.bad (A := A) (by simp) hsa
    rw [shapeV_bad hsa] at HSA
    have hx : (shapeV B = 0) ∨ (shapeV B = 190) := by unfold shapeV; split <;> simp
    generalize shapeV B = eb at *
    clear hsa h0
    go_enter Try.func10, Try.ntmps10
    (repeat' (first | (go_big_may; fail) | go_values | go_skip | go_guarded | go_step | go_upon | go_back | dsimp only))
    refine HSA.out.mono ?_
    rintro e1 w1 ⟨rfl, hb1⟩
    have HB1 := Lib.hid hb1
    clear hb1 hx
    (repeat' (first | (go_big_may; fail) | go_values | go_skip | go_guarded | go_step | go_upon | go_back | dsimp only))
    refine (HSB.out w1 HB1.out).mono ?_
    rintro e2 w2 ⟨rfl, hb2⟩
    have HB2 := Lib.hid (HB1.out.trans (hb2.mono HB1.out.size))
    clear hb2
    (repeat' (first | (go_big_may; fail) | go_values | go_skip | go_guarded | go_step | go_upon | go_back | dsimp only))
    go_ret2
    exact ⟨rfl, HB2.out⟩
  | true =>
    rw [shapeV_ok hsa] at HSA
    cases hsb : shapeB B with
    | false =>
      obtain rfl := HE.out.bad (A := B) (by simp) hsb
      rw [shapeV_bad hsb] at HSB
      clear hsa hsb h0
      go_enter Try.func10, Try.ntmps10
      (repeat' (first | (go_big_may; fail) | go_values | go_skip | go_guarded | go_step | go_upon | go_back | dsimp only))
      refine HSA.out.mono ?_
      rintro e1 w1 ⟨rfl, hb1⟩
      have HB1 := Lib.hid hb1
      clear hb1
      (repeat' (first | (go_big_may; fail) | go_values | go_skip | go_guarded | go_step | go_upon | go_back | dsimp only))
      refine (HSB.out w1 HB1.out).mono ?_
      rintro e2 w2 ⟨rfl, hb2⟩
      have HB2 := Lib.hid (HB1.out.trans (hb2.mono HB1.out.size))
      clear hb2
      (repeat' (first | (go_big_may; fail) | go_values | go_skip | go_guarded | go_step | go_upon | go_back | dsimp only))
      go_ret2
      exact ⟨rfl, HB2.out⟩
    | true =>
      rw [shapeV_ok hsb] at HSB
      have hall : ∀ C ∈ [A, B], shapeB C = true := fun C hC => by simp at hC; rcases hC with rfl | rfl <;> assumption
      have hsha := shaped_of hsa
      have hshb := shaped_of hsb
      obtain ⟨ta, hta, _⟩ := hsha.tr 0 hsha.pos
      obtain ⟨tb, htb, _⟩ := hshb.tr 0 hshb.pos
      have h191 : E = 191 := by
        rcases HE.out with ⟨_, C, hC, hs⟩ | ⟨_, ⟨h, _⟩ | ⟨h, _⟩⟩
        · rw [hall C hC] at hs; cases hs
        · exact h
        · exact absurd h h0
      have hmany : 65536 < cntT ta ∨ 65536 < cntT tb := by
        refine Classical.byContradiction fun h => h0 (HE.out.ok hall fun C hC t ht => ?_)
        simp at hC
        rcases hC with rfl | rfl
        · rw [ht.uniq hta]; omega
        · rw [ht.uniq htb]; omega
      subst h191
      by_cases hca : 65536 < cntT ta
      · have HWA := Lib.hid (fun (w1 : World) (hb : Below w.heap.size w w1) => RWords_many (HA.out.below hb) hlA hsa hta hca)
        by_cases hcb : 65536 < cntT tb
        · have HWB := Lib.hid (fun (w1 : World) (hb : Below w.heap.size w w1) => RWords_many (HB.out.below hb) hlB hsb htb hcb)
          clear hall hsa hsb hta htb h0 hsha hshb hmany
          go_enter Try.func10, Try.ntmps10
          (repeat' (first | (go_big_may; fail) | go_values | go_skip | go_guarded | go_step | go_upon | go_back | dsimp only))
          refine HSA.out.mono ?_
          rintro e1 w1 ⟨rfl, hb1⟩
          have HB1 := Lib.hid hb1
          clear hb1
          (repeat' (first | (go_big_may; fail) | go_values | go_skip | go_guarded | go_step | go_upon | go_back | dsimp only))
          refine (HSB.out w1 HB1.out).mono ?_
          rintro e2 w2 ⟨rfl, hb2⟩
          have HB2 := Lib.hid (HB1.out.trans (hb2.mono HB1.out.size))
          clear hb2
          (repeat' (first | (go_big_may; fail) | go_values | go_skip | go_guarded | go_step | go_upon | go_back | dsimp only))
          refine (HWA.out w2 HB2.out).mono ?_
          rintro e3 w3 ⟨rfl, hb3⟩
          have HB3 := Lib.hid (HB2.out.trans (hb3.mono HB2.out.size))
          clear hb3
          (repeat' (first | (go_big_may; fail) | go_values | go_skip | go_guarded | go_step | go_upon | go_back | dsimp only))
          refine (HWB.out w3 HB3.out).mono ?_
          rintro e4 w4 ⟨rfl, hb4⟩
          have HB4 := Lib.hid (HB3.out.trans (hb4.mono HB3.out.size))
          clear hb4
          (repeat' (first | (go_big_may; fail) | go_values | go_skip | go_guarded | go_step | go_upon | go_back | dsimp only))
          go_ret2
          exact ⟨rfl, HB4.out⟩
        · have HWB := Lib.hid (fun (w1 : World) (hb : Below w.heap.size w w1) => RWords_calls (HB.out.below hb) hlB hsb htb (by omega))
          clear hall hsa hsb hta htb h0 hsha hshb hmany
          go_enter Try.func10, Try.ntmps10
          (repeat' (first | (go_big_may; fail) | go_values | go_skip | go_guarded | go_step | go_upon | go_back | dsimp only))
          refine HSA.out.mono ?_
          rintro e1 w1 ⟨rfl, hb1⟩
          have HB1 := Lib.hid hb1
          clear hb1
          (repeat' (first | (go_big_may; fail) | go_values | go_skip | go_guarded | go_step | go_upon | go_back | dsimp only))
          refine (HSB.out w1 HB1.out).mono ?_
          rintro e2 w2 ⟨rfl, hb2⟩
          have HB2 := Lib.hid (HB1.out.trans (hb2.mono HB1.out.size))
          clear hb2
          (repeat' (first | (go_big_may; fail) | go_values | go_skip | go_guarded | go_step | go_upon | go_back | dsimp only))
          refine (HWA.out w2 HB2.out).mono ?_
          rintro e3 w3 ⟨rfl, hb3⟩
          have HB3 := Lib.hid (HB2.out.trans (hb3.mono HB2.out.size))
          clear hb3
          (repeat' (first | (go_big_may; fail) | go_values | go_skip | go_guarded | go_step | go_upon | go_back | dsimp only))
          refine (HWB.out w3 HB3.out).mono ?_
          rintro e4 w4 ⟨v4, rfl, h4⟩
          obtain ⟨a4, c4, rfl, _, _⟩ := own_shape h4.rowG
          have HB4 := Lib.hid (HB3.out.trans (h4.below.mono HB3.out.size))
          clear h4
          (repeat' (first | (go_big_may; fail) | go_values | go_skip | go_guarded | go_step | go_upon | go_back | dsimp only))
          go_ret2
          exact ⟨rfl, HB4.out⟩
      · have HWA := Lib.hid (fun (w1 : World) (hb : Below w.heap.size w w1) => RWords_calls (HA.out.below hb) hlA hsa hta (by omega))
        have HWB := Lib.hid (fun (w1 : World) (hb : Below w.heap.size w w1) => RWords_many (HB.out.below hb) hlB hsb htb (by omega))
        clear hall hsa hsb hta htb h0 hsha hshb hmany
        go_enter Try.func10, Try.ntmps10
        (repeat' (first | (go_big_may; fail) | go_values | go_skip | go_guarded | go_step | go_upon | go_back | dsimp only))
        refine HSA.out.mono ?_
        rintro e1 w1 ⟨rfl, hb1⟩
        have HB1 := Lib.hid hb1
        clear hb1
        (repeat' (first | (go_big_may; fail) | go_values | go_skip | go_guarded | go_step | go_upon | go_back | dsimp only))
        refine (HSB.out w1 HB1.out).mono ?_
        rintro e2 w2 ⟨rfl, hb2⟩
        have HB2 := Lib.hid (HB1.out.trans (hb2.mono HB1.out.size))
        clear hb2
        (repeat' (first | (go_big_may; fail) | go_values | go_skip | go_guarded | go_step | go_upon | go_back | dsimp only))
        refine (HWA.out w2 HB2.out).mono ?_
        rintro e3 w3 ⟨v3, rfl, h3⟩
        obtain ⟨a3, c3, rfl, _, _⟩ := own_shape h3.rowG
        have HB3 := Lib.hid (HB2.out.trans (h3.below.mono HB2.out.size))
        clear h3
        (repeat' (first | (go_big_may; fail) | go_values | go_skip | go_guarded | go_step | go_upon | go_back | dsimp only))
        refine (HWB.out w3 HB3.out).mono ?_
        rintro e4 w4 ⟨rfl, hb4⟩
        have HB4 := Lib.hid (HB3.out.trans (hb4.mono HB3.out.size))
        clear hb4
        (repeat' (first | (go_big_may; fail) | go_values | go_skip | go_guarded | go_step | go_upon | go_back | dsimp only))
        go_ret2
        exact ⟨rfl, HB4.out⟩
end Go.Proofs.Ytcbdncjknpdnbaa

/- WalkBuilt walked. -/
import Derived.Test.YthjkfiniafblbaaBuiltP
import Derived.Test.YthjkfiniafblbaaRef8b
import Derived.Test.YthjkfiniafblbaaWkEqual
import Derived.Test.YthjkfiniafblbaaMinMz
import Derived.Test.YthjkfiniafblbaaWkList
import Derived.Test.YthjkfiniafblbaaWkWakes
namespace Go.Proofs.Ythjkfiniafblbaa
open Go.RowKit

theorem rises_of {L : List (List UInt8)} (h : RisesL L) : Rises L := fun j a b ha hb => by
  have h1 := rises_get h (Nat.lt_succ_self j) ha hb
  have h2 := h1.not
  have h3 := h1.ne
  refine ⟨by simpa using h2, ?_⟩
  simp
  exact fun e => h3 e.symm
theorem At.jointB {W w w' : World} {Φ Ψ : Thing} (h : At W w Φ) (hs : Stable Φ) (k : At w w' Ψ) : At W w' (Both Ψ Φ) := by
  obtain ⟨hb, fp, h1, h2⟩ := k
  exact h.add hs hb h1 h2
set_option maxRecDepth 100000 in
set_option maxHeartbeats 6400000 in
theorem walkBuilt_walk (W : World) (ss : List (List UInt8)) (v0 : Value) (hv : RdRow W v0 ss.length 1 (strs ss)) (hm : ss.length + sumL ss ≤ 1048576) :
    Calls Try.prog 11 #[v0] W fun e W' => e = .returned (.bool true) ∧ Below W.heap.size W W' := by
  have HW := Lib.hid (wakes_calls W)
  obtain ⟨va, vc, rfl, hvc1, hvc2⟩ := hv.shape
  unfold maxLen at hvc2
  have HV := Lib.hid hv
  clear hv
  go_enter Try.func11, Try.ntmps11
  (repeat' (first | (go_big_may; fail) | go_values | go_skip | go_guarded | go_step | go_upon | go_back | dsimp only))
  refine HW.out.mono ?_
  rintro e1 w1 ⟨rfl, hb1⟩
  have H1 := Lib.hid ((At.nought hb1).noRowG Stable.nought tSt 1)
  clear hb1 HW
  (repeat' (first | (go_big_may; fail) | go_values | go_skip | go_guarded | go_step | go_upon | go_back | dsimp only))
  go_loopw [3, 18] (fun vf vi wr => ∃ (i : Nat) (F : List (List UInt8)), vi = .int .i64 i ∧ i ≤ ss.length ∧ FitI F (ss.take i) ∧ At W wr (Both (RowG tSt 1 vf F.length (strs F)) Nought)) (fun _ vi _ => ss.length - (intOf vi).toNat)
  case atStart => exact ⟨0, [], rfl, Nat.zero_le _, FitI.start, H1.out⟩
  case round =>
    obtain ⟨i, F, rfl, hi, hfit, h2⟩ := hrel
    obtain ⟨fa, fc, hu3, _, _⟩ := own_shape h2.rowG
    subst hu3
    have hFl := hfit.len
    by_cases hlt : i < ss.length
    · obtain ⟨r, hr⟩ : ∃ r, ss[i]? = some r := ⟨_, List.getElem?_eq_getElem hlt⟩
      obtain ⟨b, off, cap, hsl, hc⟩ := (HV.out.below h2.below).str hr
      cases hsl
      have hiI : (i : Int) < (ss.length : Int) := by omega
      have hst := hfit.step r
      rw [show ss.take i ++ [r] = ss.take (i + 1) from by rw [List.take_add_one, hr]; rfl] at hst
      have H2 := Lib.hid h2
      have HST := Lib.hid hst
      clear h2 hr hst hfit
      by_cases hr255 : r.length ≤ 255
      · have hrI : (r.length : Int) ≤ 255 := by omega
        by_cases hF : F.length < 4096
        · have hFI : (F.length : Int) < 4096 := by omega
          have hff : fitF F r = F ++ [r] := by unfold fitF; rw [if_pos ⟨hr255, hF⟩]
          have HFF := Lib.hid hff
          clear hff
          (repeat' (first | (go_big_may; ((at_builtin; go_must (refine wpList_append_to rfl _ _ 36 tSt rfl Try.underlying36 info_St8 rfl (by decide) rfl (H2.out) (Stable.nought) rfl (by first | rfl | simp) rfl (one_str _) (by unfold maxLen; omega) (by omega) ?_); intro a2 c2 w2 h3 _); have H3 := Lib.hid h3; clear h3)) | go_values | go_skip | go_guarded | go_step | go_upon | go_back | dsimp only))
          go_roundw
          case rel =>
            refine ⟨i + 1, F ++ [r], by simp, by omega, by rw [← HFF.out]; exact HST.out, ?_⟩
            rw [strs_snoc, List.length_append]; exact H3.out
          case measure => simp [intOf] <;> omega
        · have hFI : ¬ (F.length : Int) < 4096 := by omega
          have hff : fitF F r = F := by unfold fitF; rw [if_neg (fun h => hF h.2)]
          have HFF := Lib.hid hff
          clear hff
          (repeat' (first | (go_big_may; fail) | go_values | go_skip | go_guarded | go_step | go_upon | go_back | dsimp only))
          go_roundw
          case rel => exact ⟨i + 1, F, by simp, by omega, by rw [HFF.out] at HST; exact HST.out, H2.out⟩
          case measure => simp [intOf] <;> omega
      · have hrI : ¬ (r.length : Int) ≤ 255 := by omega
        have hff : fitF F r = F := by unfold fitF; rw [if_neg (fun h => hr255 h.1)]
        have HFF := Lib.hid hff
        clear hff
        (repeat' (first | (go_big_may; fail) | go_values | go_skip | go_guarded | go_step | go_upon | go_back | dsimp only))
        go_roundw
        case rel => exact ⟨i + 1, F, by simp, by omega, by rw [HFF.out] at HST; exact HST.out, H2.out⟩
        case measure => simp [intOf] <;> omega
    · obtain rfl : i = ss.length := by omega
      have hiI : ¬ (ss.length : Int) < (ss.length : Int) := by omega
      rw [List.take_length] at hfit
      obtain ⟨f1, f2, f3, f4, f5, f6⟩ := built_facts hfit hm
      have hcnt := cnt_words f3
      rw [f2] at hcnt
      have HOF := Lib.hid (Of_at F.length wr F _ (Nat.le_refl _) (by omega) (RdRow.of_own h2.rowG))
      have hris := rises_of (ofL_rises F)
      have HB2 := Lib.hid h2.below
      clear h2 hfit
      generalize hWd : ofL F = Wd at *
      generalize hT : setT Wd = t at *
      have hsM := minT_shape f3 f4.1
      have hlist : listT t (⟨#[]⟩ : ByteArray).data.toList 4096 = Wd := by
        rw [listT_some (by decide), show (⟨#[]⟩ : ByteArray).data.toList = [] from rfl, f2]
        exact List.take_of_length_le (by omega)
      have HBU := Lib.hid (fun (w : World) (v : Value) (h : RdRow w v Wd.length 1 (strs Wd)) => Build_at (W := w) h f6 (by omega) hris f1 (by omega))
      have HSH := Lib.hid (fun (w : World) (v : Value) (h : RdAut w v (minT t)) => by
        have h := Shape_calls h f4
        rw [shapeV_ok hsM] at h
        exact h)
      have HCN := Lib.hid (fun (w : World) (v : Value) (h : RdAut w v (minT t)) => by
        have h := Count_calls h f4 hsM (minT_unf t)
        have hc1 : cntT t ≤ 1099511627776 := by omega
        simp only [countV, countE, if_pos hc1, hcnt] at h
        exact h)
      have HLI := Lib.hid (fun (w : World) (v : Value) (h : RdAut w v (minT t)) => by
        have h := List_calls h f4 hsM (minT_unf t) (⟨#[]⟩ : ByteArray) 4096
        rw [hlist] at h
        exact h)
      have HMI := Lib.hid (fun (w : World) (v : Value) (h : RdAut w v (minT t)) => Minimize_calls h f4 hsM (minT_unf t))
      have HRF := Lib.hid (fun (w : World) (v : Value) (h : RdAut w v (minT t)) => ref_calls h f4)
      have HEQ := Lib.hid (fun (w : World) (va vb : Value) (ha : RdAut w va (minT t)) (hb : RdAut w vb (minT t)) => by
        have h := Equal_calls ha hb f4 f4
        rw [decide_eq_true rfl] at h
        exact h)
      have HSA := Lib.hid (fun (w : World) (va vb : Value) (ha : RdRow w va Wd.length 1 (strs Wd)) (hb : RdRow w vb Wd.length 1 (strs Wd)) => by
        have h := same_calls Wd Wd va vb w ha hb
        rw [decide_eq_true rfl] at h
        exact h)
      clear f1 f2 f3 f6 hcnt hris hsM hlist hWd hT
      generalize minT t = M at *
      (repeat' (first | (go_big_may; fail) | go_values | go_skip | go_guarded | go_step | go_upon | go_back | dsimp only))
      refine HOF.out.mono ?_
      rintro e2 w2 ⟨vW, rfl, h3⟩
      obtain ⟨wa, wcp, hvW, _, hwc⟩ := own_shape h3.rowG
      unfold maxLen at hwc
      subst hvW
      have H3 := Lib.hid ((At.nought HB2.out).jointB Stable.nought h3.keep)
      have HRD := Lib.hid (RdRow.of_own h3.rowG)
      have hsW := (RowG.stable tSt 1 (.slice wa Wd.length wcp) Wd.length (strs Wd)).both Stable.nought
      clear h3 HOF
      (repeat' (first | (go_big_may; (at_builtin; go_must (refine wpList_append_rd rfl _ _ 36 tSt rfl Try.underlying36 info_St8 rfl (by decide) rfl (World.ownsRow_nil w2 w2.heap.size tSt 1) rfl HRD.out (strs_oneCell _) (Nat.le_refl _) (by unfold maxLen; omega) (by omega) ?_); intro v3 w3 hown3 hgrow3 _; have hb3 := grownOwn (Below.refl _ _) (Nat.le_refl _) (World.ownsRow_nil w2 w2.heap.size tSt 1) hgrow3; rw [List.nil_append, Nat.zero_add] at hown3; have HO3 := Lib.hid (RdRow.of_own hown3); have H4 := Lib.hid (H3.out.mono hsW hb3); clear hown3 hgrow3 hb3)) | go_values | go_skip | go_guarded | go_step | go_upon | go_back | dsimp only))
      have HC := Lib.hid (HBU.out w3 v3 HO3.out)
      refine HC.out.mono ?_
      rintro e5 w5 ⟨vA, rfl, h5⟩
      have H5 := Lib.hid (H4.out.jointB hsW h5.keep)
      have hsA := (AutG.stable tAS tAE vA M).both hsW
      have HC := Lib.hid (HSH.out w5 vA H5.out.autRd)
      clear h5 H4
      (repeat' (first | (go_big_may; fail) | go_values | go_skip | go_guarded | go_step | go_upon | go_back | dsimp only))
      refine HC.out.mono ?_
      rintro e6 w6 ⟨rfl, hb6⟩
      have H6 := Lib.hid (H5.out.mono hsA hb6)
      have HC := Lib.hid (HCN.out w6 vA H6.out.autRd)
      clear hb6 H5
      (repeat' (first | (go_big_may; fail) | go_values | go_skip | go_guarded | go_step | go_upon | go_back | dsimp only))
      refine HC.out.mono ?_
      rintro e7 w7 ⟨rfl, hb7⟩
      have H7 := Lib.hid (H6.out.mono hsA hb7)
      have HC := Lib.hid (HLI.out w7 vA H7.out.autRd)
      clear hb7 H6
      (repeat' (first | (go_big_may; fail) | go_values | go_skip | go_guarded | go_step | go_upon | go_back | dsimp only))
      refine HC.out.mono ?_
      rintro e8 w8 ⟨vL, rfl, h8⟩
      have H8 := Lib.hid (H7.out.jointB hsA h8.keep)
      have hsL := (RowG.stable tStr 1 vL Wd.length (strs Wd)).both hsA
      have HC := Lib.hid (HMI.out w8 vA H8.out.drop.autRd)
      clear h8 H7
      (repeat' (first | (go_big_may; fail) | go_values | go_skip | go_guarded | go_step | go_upon | go_back | dsimp only))
      refine HC.out.mono ?_
      rintro e9 w9 ⟨vB, rfl, h9⟩
      have H9 := Lib.hid (H8.out.jointB hsL h9.keep)
      have hsB := (AutG.stable tAS tAE vB M).both hsL
      have HC := Lib.hid (HSA.out w9 vL _ (RdRow.of_own H9.out.drop.rowG) (RdRow.of_own H9.out.drop.drop.drop.rowG))
      clear h9 H8
      (repeat' (first | (go_big_may; fail) | go_values | go_skip | go_guarded | go_step | go_upon | go_back | dsimp only))
      refine HC.out.mono ?_
      rintro e10 w10 ⟨rfl, hb10⟩
      have H10 := Lib.hid (H9.out.mono hsB hb10)
      have HC := Lib.hid (HRF.out w10 vA H10.out.drop.drop.autRd)
      clear hb10 H9
      (repeat' (first | (go_big_may; fail) | go_values | go_skip | go_guarded | go_step | go_upon | go_back | dsimp only))
      refine HC.out.mono ?_
      rintro e11 w11 ⟨v11, rfl, h11⟩
      have H11 := Lib.hid (H10.out.jointB hsB h11.keep)
      have hs11 := (AutG.stable tRS tRE v11 M).both hsB
      have HC := Lib.hid (HRF.out w11 vB H11.out.drop.autRd)
      clear h11 H10
      (repeat' (first | (go_big_may; fail) | go_values | go_skip | go_guarded | go_step | go_upon | go_back | dsimp only))
      refine HC.out.mono ?_
      rintro e12 w12 ⟨v12, rfl, h12⟩
      have H12 := Lib.hid (H11.out.mono hs11 h12.below)
      have HC := Lib.hid (HEQ.out w12 v11 v12 H12.out.autRd h12.autRd)
      clear h12 H11
      (repeat' (first | (go_big_may; fail) | go_values | go_skip | go_guarded | go_step | go_upon | go_back | dsimp only))
      refine HC.out.mono ?_
      rintro e13 w13 ⟨rfl, hb13⟩
      have HB13 := Lib.hid (H12.out.below.trans (hb13.mono H12.out.below.size))
      clear hb13 H12
      (repeat' (first | (go_big_may; fail) | go_values | go_skip | go_guarded | go_step | go_upon | go_back | dsimp only))
      go_ret
      exact ⟨rfl, HB13.out⟩
end Go.Proofs.Ythjkfiniafblbaa

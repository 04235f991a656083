/- DeltaBack walked. -/
import Derived.Test.YtcbdncjknpdnbaaDlPatch
import Derived.Test.YtcbdncjknpdnbaaMinMz
import Derived.Test.YtcbdncjknpdnbaaWkEqual
import Derived.Test.YtcbdncjknpdnbaaOpen
import Derived.Test.YtcbdncjknpdnbaaSmP
namespace Go.Proofs.Ytcbdncjknpdnbaa
open Go.RowKit

theorem lkB {w a b : World} (h : Below w.heap.size w a) (k : Below a.heap.size a b) : Below w.heap.size w b := h.trans (k.mono h.size)
/-- What Count says, and whether the automaton fits. -/
theorem count_any (A : List Sta) (hl : A.length ≤ 1048576 ∧ edgesN A ≤ 1048576) : ∃ n f : Int, (∀ w va, RdAut w va A → Calls Try.prog 19 #[va] w fun e w' => e = .returned (.tuple #[.int .i64 n, .int .i64 f]) ∧ Below w.heap.size w w') ∧
    ((f = 0 ∧ n ≤ 65536) → shapeB A = true ∧ ∃ t, Unf A 0 t ∧ cntT t ≤ 65536) := by
  cases hs : shapeB A with
  | false => exact ⟨0, 190, fun w va h => Count_bad h hl hs, fun h => by omega⟩
  | true =>
    have hsh := shaped_of hs
    obtain ⟨t, ht, _⟩ := hsh.tr 0 hsh.pos
    refine ⟨countV t, countE t, fun w va h => Count_calls h hl hs ht, fun h => ⟨rfl, t, ht, ?_⟩⟩
    unfold countV countE at h
    split at h <;> omega
theorem setT_of {t : Trie} (hk : Good t) : setT (wT t []) = t := by
  obtain ⟨h1, h2⟩ := setT_words (words_rise hk)
  exact wT_inj h2 hk h1
theorem longC_turn (D : List Chg) : longC (turnL D) = longC D := by
  unfold longC turnL
  rw [List.any_map, List.any_reverse]
  rfl
theorem long_len {A : List Sta} {t : Trie} (hk : Good t) (hu : Unf A 0 t) {w : List UInt8} (h : w ∈ wT t []) (hw : 255 < w.length) : 255 < A.length := by
  have := word_len hk h
  have := htT_lt hu
  omega
theorem long_calls (w : World) (a : Option Addr) (n c : Nat) : Calls Try.prog 23 #[.slice a n c] w fun e w' => e = .returned (.bool (decide (255 < n))) ∧ w' = w := by
  by_cases h : 255 < n
  · have hI : (255 : Int) < (n : Int) := by omega
    rw [decide_eq_true h]
    go_enter Try.func23, Try.ntmps23
    (repeat' (first | (go_big_may; fail) | go_values | go_skip | go_guarded | go_step | go_upon | go_back | dsimp only))
    go_ret
    exact ⟨rfl, rfl⟩
  · have hI : ¬ (255 : Int) < (n : Int) := by omega
    rw [decide_eq_false h]
    go_enter Try.func23, Try.ntmps23
    (repeat' (first | (go_big_may; fail) | go_values | go_skip | go_guarded | go_step | go_upon | go_back | dsimp only))
    go_ret
    exact ⟨rfl, rfl⟩
set_option maxRecDepth 100000 in
set_option maxHeartbeats 3200000 in
theorem deltaBack_walk (W : World) (A : List Sta) (v0 : Value) (hA : RdAut W v0 A) (hlA : A.length ≤ 1048576 ∧ edgesN A ≤ 1048576) (B : List Sta) (v1 : Value) (hB : RdAut W v1 B) (hlB : B.length ≤ 1048576 ∧ edgesN B ≤ 1048576) :
    Calls Try.prog 7 #[v0, v1] W fun e W' => e = .returned (.bool true) ∧ Below W.heap.size W W' := by
  obtain ⟨aa, ac, rfl, _, _⟩ := hA.shape
  obtain ⟨ba, bc, rfl, _, _⟩ := hB.shape
  have HA := Lib.hid hA
  have HB := Lib.hid hB
  have HW := Lib.hid (wakes_calls W)
  clear hA hB
  go_enter Try.func7, Try.ntmps7
  (repeat' (first | (go_big_may; fail) | go_values | go_skip | go_guarded | go_step | go_upon | go_back | dsimp only))
  refine HW.out.mono ?_
  rintro e1 w1 ⟨rfl, hb1⟩
  have HB1 := Lib.hid hb1
  clear hb1 HW
  rcases fit2_or A B with ⟨ta, tb, hf⟩ | ⟨E, hE, h0⟩
  · obtain ⟨hra, hrb, hna, hnb⟩ := hf.rises
    have hga := good_root hf.sa hf.ua
    have hgb := good_root hf.sb hf.ub
    have hd := Diff_ok (HA.out.below HB1.out) (HB.out.below HB1.out) hlA hlB hf.fit hf.ua hf.ub hna hnb
    have hdl := diff_len (wT ta []) (wT tb [])
    have HWL := Lib.hid (fun (c : Chg) (h : c ∈ diffL (wT ta []) (wT tb [])) => show c.1 ∈ wT ta [] ∨ c.1 ∈ wT tb [] by
      obtain ⟨i, hi⟩ := List.mem_iff_getElem?.1 h
      exact diff_word hra hrb hi)
    have HF := Lib.hid hf
    have HRA := Lib.hid hra
    have HRB := Lib.hid hrb
    have HGA := Lib.hid hga
    have HGB := Lib.hid hgb
    have HD := Lib.hid hd
    have HTH := Lib.hid (patch_there hra hrb)
    have HBK := Lib.hid (patch_back hra hrb)
    obtain ⟨D, hDe⟩ : ∃ D, diffL (wT ta []) (wT tb []) = D := ⟨_, rfl⟩
    rw [hDe] at HD HTH HBK HWL hdl
    have hmB : (minT tb).length ≤ 1048576 ∧ edgesN (minT tb) ≤ 1048576 := by have := minT_le hf.ub; have := minT_edges hf.ub; omega
    have hmA : (minT ta).length ≤ 1048576 ∧ edgesN (minT ta) ≤ 1048576 := by have := minT_le hf.ua; have := minT_edges hf.ua; omega
    have hcw : ∀ c ∈ D, c.1.length ≤ 1048576 := fun c hc => by
      rcases HWL.out c hc with h | h
      · have := word_len hga h; have := htT_lt hf.ua; omega
      · have := word_len hgb h; have := htT_lt hf.ub; omega
    have HCW := Lib.hid hcw
    have HMA := Lib.hid hmA
    have HMB := Lib.hid hmB
    have hDn : D.length ≤ 1048576 := by omega
    clear hra hrb hga hgb hf hd hDe hmA hmB hcw
    (repeat' (first | (go_big_may; fail) | go_values | go_skip | go_guarded | go_step | go_upon | go_back | dsimp only))
    refine HD.out.mono ?_
    rintro e3 w3 ⟨vo, rfl, h3⟩
    obtain ⟨oa, oc, rfl, _, hoc⟩ := own_shape h3.rowG
    have H3 := Lib.hid (h3.rebase HB1.out)
    have HST := Lib.hid ((RowG.stable tCh 2 (.slice oa D.length oc) D.length (D.flatMap chc)).both Stable.nought)
    have HP := Lib.hid (Patch_ok (HA.out.below H3.out.below) hlA (RdRow.of_own h3.rowG) hDn HCW.out HF.out.sa HF.out.ua HF.out.ca)
    clear h3 HD
    (repeat' (first | (go_big_may; fail) | go_values | go_skip | go_guarded | go_step | go_upon | go_back | dsimp only))
    refine HP.out.mono ?_
    rintro e4 w4 (⟨hlo, rfl, hb4⟩ | ⟨_, hno, _⟩ | ⟨hlo, S, hS, vc, rfl, h4⟩)
    · have hlong : 255 < A.length ∨ 255 < B.length := by
        rw [Bool.or_eq_true] at hlo
        rcases hlo with h | h
        · obtain ⟨c, hc, hl⟩ := List.any_eq_true.1 h
          rcases HWL.out c hc with h1 | h1
          · exact .inl (long_len HGA.out HF.out.ua h1 (by simpa using hl))
          · exact .inr (long_len HGB.out HF.out.ub h1 (by simpa using hl))
        · obtain ⟨x, hx, hl⟩ := List.any_eq_true.1 h
          exact .inl (long_len HGA.out HF.out.ua hx (by simpa using hl))
      have H4 := Lib.hid (H3.out.mono HST.out hb4)
      have hlc := long_calls w4 aa A.length ac
      have hlc2 := fun w => long_calls w ba B.length bc
      clear hlo hb4 HP
      by_cases hla : 255 < A.length
      · rw [decide_eq_true hla] at hlc
        have HLC := Lib.hid hlc
        clear hlong hla hlc hlc2
        (repeat' (first | (go_big_may; fail) | go_values | go_skip | go_guarded | go_step | go_upon | go_back | dsimp only))
        refine HLC.out.mono ?_
        rintro e5 w5 ⟨rfl, rfl⟩
        (repeat' (first | (go_big_may; fail) | go_values | go_skip | go_guarded | go_step | go_upon | go_back | dsimp only))
        go_ret
        exact ⟨rfl, H4.out.below⟩
      · have hlb := hlong.resolve_left hla
        rw [decide_eq_false hla] at hlc
        simp only [decide_eq_true hlb] at hlc2
        have HLC := Lib.hid hlc
        have HLC2 := Lib.hid hlc2
        clear hlong hla hlb hlc hlc2
        (repeat' (first | (go_big_may; fail) | go_values | go_skip | go_guarded | go_step | go_upon | go_back | dsimp only))
        refine HLC.out.mono ?_
        rintro e5 w5 ⟨rfl, rfl⟩
        (repeat' (first | (go_big_may; fail) | go_values | go_skip | go_guarded | go_step | go_upon | go_back | dsimp only))
        refine (HLC2.out _).mono ?_
        rintro e6 w6 ⟨rfl, rfl⟩
        (repeat' (first | (go_big_may; fail) | go_values | go_skip | go_guarded | go_step | go_upon | go_back | dsimp only))
        go_ret
        exact ⟨rfl, H4.out.below⟩
    · rw [HTH.out] at hno; cases hno
    · have hS2 : S = wT tb [] := by rw [HTH.out] at hS; cases hS; rfl
      rw [hS2, setT_of HGB.out] at h4
      have H4 := Lib.hid (H3.out.glue HST.out h4)
      have HST4 := Lib.hid ((AutG.stable tAS tAE vc (minT tb)).both HST.out)
      have HLO := Lib.hid hlo
      have HMZ := Lib.hid (fun (w : World) (hb : Below W.heap.size W w) => Minimize_calls (HB.out.below hb) hlB HF.out.sb HF.out.ub)
      have HMZA := Lib.hid (fun (w : World) (hb : Below W.heap.size W w) => Minimize_calls (HA.out.below hb) hlA HF.out.sa HF.out.ua)
      obtain ⟨ca, cc, rfl, _, _⟩ := h4.autRd.shape
      clear h4 hlo hS hS2 HP
      (repeat' (first | (go_big_may; fail) | go_values | go_skip | go_guarded | go_step | go_upon | go_back | dsimp only))
      refine (HMZ.out w4 H4.out.below).mono ?_
      rintro e5 w5 ⟨vm, rfl, h5⟩
      have H5 := Lib.hid (H4.out.glue HST4.out h5)
      have HST5 := Lib.hid ((AutG.stable tAS tAE vm (minT tb)).both HST4.out)
      obtain ⟨ma, mc, rfl, _, _⟩ := h5.autRd.shape
      have HR1 := Lib.hid (ref_calls H5.out.drop.autRd HMB.out)
      clear h5 H4
      (repeat' (first | (go_big_may; fail) | go_values | go_skip | go_guarded | go_step | go_upon | go_back | dsimp only))
      refine HR1.out.mono ?_
      rintro e6 w6 ⟨v6, rfl, h6⟩
      have H6 := Lib.hid (H5.out.glue HST5.out h6)
      have HST6 := Lib.hid ((AutG.stable tRS tRE v6 (minT tb)).both HST5.out)
      have HR2 := Lib.hid (ref_calls H6.out.drop.autRd HMB.out)
      clear h6 H5 HR1
      (repeat' (first | (go_big_may; fail) | go_values | go_skip | go_guarded | go_step | go_upon | go_back | dsimp only))
      refine HR2.out.mono ?_
      rintro e7 w7 ⟨v7, rfl, h7⟩
      have H7 := Lib.hid (H6.out.glue HST6.out h7)
      have HST7 := Lib.hid ((AutG.stable tRS tRE v7 (minT tb)).both HST6.out)
      have heq := Equal_calls H7.out.drop.autRd H7.out.autRd HMB.out HMB.out
      rw [decide_eq_true rfl] at heq
      obtain ⟨a6, c6, rfl, _, _⟩ := H7.out.drop.autRd.shape
      obtain ⟨a7, c7, rfl, _, _⟩ := H7.out.autRd.shape
      have HEQ := Lib.hid heq
      clear h7 H6 HR2 heq
      (repeat' (first | (go_big_may; fail) | go_values | go_skip | go_guarded | go_step | go_upon | go_back | dsimp only))
      refine HEQ.out.mono ?_
      rintro e8 w8 ⟨rfl, hb8⟩
      have H8 := Lib.hid ((H7.out.mono HST7.out hb8).drop.drop.drop)
      have HT := Lib.hid (Turn_calls (RdRow.of_own H8.out.drop.rowG) (by omega))
      clear hb8 H7 HEQ
      (repeat' (first | (go_big_may; fail) | go_values | go_skip | go_guarded | go_step | go_upon | go_back | dsimp only))
      refine HT.out.mono ?_
      rintro e9 w9 ⟨v9, rfl, h9⟩
      have H9 := Lib.hid (H8.out.glue HST4.out h9)
      have HST9 := Lib.hid ((RowG.stable tCh 2 v9 (turnL D).length ((turnL D).flatMap chc)).both HST4.out)
      have hsm := minT_shape HGB.out HMB.out.1
      have hPt := Patch_ok H9.out.drop.autRd HMB.out (RdRow.of_own H9.out.rowG) (by rw [turn_len]; exact hDn) (fun c hc => HCW.out (flipC c) (by
        obtain ⟨x, y⟩ := c
        exact mem_turn.1 hc)) hsm (minT_unf tb) HF.out.cb
      obtain ⟨a9, c9, rfl, _, _⟩ := own_shape h9.rowG
      have HPT := Lib.hid hPt
      clear h9 HT H8 hsm hPt
      (repeat' (first | (go_big_may; fail) | go_values | go_skip | go_guarded | go_step | go_upon | go_back | dsimp only))
      refine HPT.out.mono ?_
      rintro e10 w10 (⟨hlo, _⟩ | ⟨_, hno, _⟩ | ⟨_, S2, hS2, vd, rfl, h10⟩)
      · exfalso
        have h1 := HLO.out
        rw [Bool.or_eq_false_iff] at h1
        rw [longC_turn, h1.1, Bool.false_or] at hlo
        obtain ⟨x, hx, hl⟩ := List.any_eq_true.1 hlo
        have hx2 : x ∈ wT ta [] ∨ ∃ c ∈ D, c.1 = x := (patch_ok HRA.out HTH.out).words x hx
        rcases hx2 with h2 | ⟨c, hc, rfl⟩
        · have := h1.2
          unfold longW at this
          rw [List.any_eq_false] at this
          exact this x h2 hl
        · have := h1.1
          unfold longC at this
          rw [List.any_eq_false] at this
          exact this c hc hl
      · rw [HBK.out] at hno; cases hno
      · have hS3 : S2 = wT ta [] := by rw [HBK.out] at hS2; cases hS2; rfl
        rw [hS3, setT_of HGA.out] at h10
        have H10 := Lib.hid (H9.out.glue HST9.out h10)
        have HST10 := Lib.hid ((AutG.stable tAS tAE vd (minT ta)).both HST9.out)
        obtain ⟨da, dc, rfl, _, _⟩ := h10.autRd.shape
        clear h10 hS2 hS3 H9 HPT
        (repeat' (first | (go_big_may; fail) | go_values | go_skip | go_guarded | go_step | go_upon | go_back | dsimp only))
        refine (HMZA.out w10 H10.out.below).mono ?_
        rintro e11 w11 ⟨vm2, rfl, h11⟩
        have H11 := Lib.hid (H10.out.glue HST10.out h11)
        have HST11 := Lib.hid ((AutG.stable tAS tAE vm2 (minT ta)).both HST10.out)
        obtain ⟨ma2, mc2, rfl, _, _⟩ := h11.autRd.shape
        have HR1 := Lib.hid (ref_calls H11.out.drop.autRd HMA.out)
        clear h11 H10
        (repeat' (first | (go_big_may; fail) | go_values | go_skip | go_guarded | go_step | go_upon | go_back | dsimp only))
        refine HR1.out.mono ?_
        rintro e12 w12 ⟨v12, rfl, h12⟩
        have H12 := Lib.hid (H11.out.glue HST11.out h12)
        have HST12 := Lib.hid ((AutG.stable tRS tRE v12 (minT ta)).both HST11.out)
        have HR2 := Lib.hid (ref_calls H12.out.drop.autRd HMA.out)
        clear h12 H11 HR1
        (repeat' (first | (go_big_may; fail) | go_values | go_skip | go_guarded | go_step | go_upon | go_back | dsimp only))
        refine HR2.out.mono ?_
        rintro e13 w13 ⟨v13, rfl, h13⟩
        have H13 := Lib.hid (H12.out.glue HST12.out h13)
        have HST13 := Lib.hid ((AutG.stable tRS tRE v13 (minT ta)).both HST12.out)
        have heq := Equal_calls H13.out.drop.autRd H13.out.autRd HMA.out HMA.out
        rw [decide_eq_true rfl] at heq
        obtain ⟨a12, c12, rfl, _, _⟩ := H13.out.drop.autRd.shape
        obtain ⟨a13, c13, rfl, _, _⟩ := H13.out.autRd.shape
        have HEQ := Lib.hid heq
        clear h13 H12 HR2 heq
        (repeat' (first | (go_big_may; fail) | go_values | go_skip | go_guarded | go_step | go_upon | go_back | dsimp only))
        refine HEQ.out.mono ?_
        rintro e14 w14 ⟨rfl, hb14⟩
        have HBB := Lib.hid (H13.out.mono HST13.out hb14).below
        clear hb14 H13 HEQ
        (repeat' (first | (go_big_may; fail) | go_values | go_skip | go_guarded | go_step | go_upon | go_back | dsimp only))
        go_ret
        exact ⟨rfl, HBB.out⟩
  · have HD := Lib.hid (Diff_bad (HA.out.below HB1.out) (HB.out.below HB1.out) hlA hlB hE h0)
    have hne : (E != 0) = true := by simpa using h0
    obtain ⟨n, f, hca, hfa⟩ := count_any A hlA
    obtain ⟨m, g, hcb, hfb⟩ := count_any B hlB
    have hor : ¬ ((f = 0 ∧ n ≤ 65536) ∧ (g = 0 ∧ m ≤ 65536)) := fun h => by
      obtain ⟨h1, ta, h2, h3⟩ := hfa h.1
      obtain ⟨h4, tb, h5, h6⟩ := hfb h.2
      have hfit := fit_two h1 h4 h2 h5 h3 h6
      rcases hE with ⟨h7, C, hC, hs⟩ | ⟨_, ⟨h7, C, hC, t, ht, hc⟩ | ⟨h7, _⟩⟩
      · simp at hC; rcases hC with rfl | rfl
        · rw [h1] at hs; cases hs
        · rw [h4] at hs; cases hs
      · simp at hC; rcases hC with rfl | rfl
        · rw [ht.uniq h2] at hc; omega
        · rw [ht.uniq h5] at hc; omega
      · exact h0 h7
    have HCA := Lib.hid hca
    have HCB := Lib.hid hcb
    clear hE h0 hca hcb hfa hfb
    (repeat' (first | (go_big_may; fail) | go_values | go_skip | go_guarded | go_step | go_upon | go_back | dsimp only))
    refine HD.out.mono ?_
    rintro e3 w3 ⟨rfl, hb3⟩
    have HB3 := Lib.hid (lkB HB1.out hb3)
    clear hb3 HD
    by_cases hf0 : f = 0
    · have hfb : (f != 0) = false := by simp [hf0]
      by_cases hg0 : g = 0
      · have hgb : (g != 0) = false := by simp [hg0]
        by_cases hn : n ≤ 65536
        · have hm : ¬ m ≤ 65536 := fun hm => hor ⟨⟨hf0, hn⟩, hg0, hm⟩
          have hnI : ¬ 65536 < n := by omega
          have hmI : 65536 < m := by omega
          clear hor hf0 hg0 hn hm
          (repeat' (first | (go_big_may; fail) | go_values | go_skip | go_guarded | go_step | go_upon | go_back | dsimp only))
          refine (HCA.out _ _ (HA.out.below HB3.out)).mono ?_
          rintro e4 w4 ⟨rfl, hb4⟩
          have HB4 := Lib.hid (lkB HB3.out hb4)
          clear hb4
          (repeat' (first | (go_big_may; fail) | go_values | go_skip | go_guarded | go_step | go_upon | go_back | dsimp only))
          refine (HCB.out _ _ (HB.out.below HB4.out)).mono ?_
          rintro e5 w5 ⟨rfl, hb5⟩
          have HB5 := Lib.hid (lkB HB4.out hb5)
          clear hb5
          (repeat' (first | (go_big_may; fail) | go_values | go_skip | go_guarded | go_step | go_upon | go_back | dsimp only))
          go_ret
          exact ⟨rfl, HB5.out⟩
        · have hnI : 65536 < n := by omega
          clear hor hf0 hg0 hn
          (repeat' (first | (go_big_may; fail) | go_values | go_skip | go_guarded | go_step | go_upon | go_back | dsimp only))
          refine (HCA.out _ _ (HA.out.below HB3.out)).mono ?_
          rintro e4 w4 ⟨rfl, hb4⟩
          have HB4 := Lib.hid (lkB HB3.out hb4)
          clear hb4
          (repeat' (first | (go_big_may; fail) | go_values | go_skip | go_guarded | go_step | go_upon | go_back | dsimp only))
          refine (HCB.out _ _ (HB.out.below HB4.out)).mono ?_
          rintro e5 w5 ⟨rfl, hb5⟩
          have HB5 := Lib.hid (lkB HB4.out hb5)
          clear hb5
          (repeat' (first | (go_big_may; fail) | go_values | go_skip | go_guarded | go_step | go_upon | go_back | dsimp only))
          go_ret
          exact ⟨rfl, HB5.out⟩
      · have hgb : (g != 0) = true := by simpa using hg0
        clear hor hf0 hg0
        (repeat' (first | (go_big_may; fail) | go_values | go_skip | go_guarded | go_step | go_upon | go_back | dsimp only))
        refine (HCA.out _ _ (HA.out.below HB3.out)).mono ?_
        rintro e4 w4 ⟨rfl, hb4⟩
        have HB4 := Lib.hid (lkB HB3.out hb4)
        clear hb4
        (repeat' (first | (go_big_may; fail) | go_values | go_skip | go_guarded | go_step | go_upon | go_back | dsimp only))
        refine (HCB.out _ _ (HB.out.below HB4.out)).mono ?_
        rintro e5 w5 ⟨rfl, hb5⟩
        have HB5 := Lib.hid (lkB HB4.out hb5)
        clear hb5
        (repeat' (first | (go_big_may; fail) | go_values | go_skip | go_guarded | go_step | go_upon | go_back | dsimp only))
        go_ret
        exact ⟨rfl, HB5.out⟩
    · have hfb : (f != 0) = true := by simpa using hf0
      clear hor hf0
      (repeat' (first | (go_big_may; fail) | go_values | go_skip | go_guarded | go_step | go_upon | go_back | dsimp only))
      refine (HCA.out _ _ (HA.out.below HB3.out)).mono ?_
      rintro e4 w4 ⟨rfl, hb4⟩
      have HB4 := Lib.hid (lkB HB3.out hb4)
      clear hb4
      (repeat' (first | (go_big_may; fail) | go_values | go_skip | go_guarded | go_step | go_upon | go_back | dsimp only))
      refine (HCB.out _ _ (HB.out.below HB4.out)).mono ?_
      rintro e5 w5 ⟨rfl, hb5⟩
      have HB5 := Lib.hid (lkB HB4.out hb5)
      clear hb5
      (repeat' (first | (go_big_may; fail) | go_values | go_skip | go_guarded | go_step | go_upon | go_back | dsimp only))
      go_ret
      exact ⟨rfl, HB5.out⟩
end Go.Proofs.Ytcbdncjknpdnbaa

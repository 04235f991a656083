/- hornbookref19.Equal walked. -/
import Derived.Test.YtcbdncjknpdnbaaWkRef
import Derived.Test.YtcbdncjknpdnbaaStill
namespace Go.Proofs.Ytcbdncjknpdnbaa
open Go.RowKit

set_option maxRecDepth 100000 in
set_option maxHeartbeats 6400000 in
theorem Equal_big {w : World} {A B : List Sta} {va vb : Value} (hA : RdAut w va A) (hB : RdAut w vb B) (hl : A.length ≤ 1099511627776 ∧ edgesN A ≤ 1099511627776) (_hl2 : B.length ≤ 1099511627776 ∧ edgesN B ≤ 1099511627776) :
    Calls Try.prog 13 #[va, vb] w fun e w' => e = .returned (.bool (decide (A = B))) ∧ Below w.heap.size w w' := by
  obtain ⟨a0, c0, hv, _, hc0⟩ := hA.shape
  obtain ⟨a1, c1, hv2, _, hc1⟩ := hB.shape
  have HA := Lib.hid hA
  have HB := Lib.hid hB
  subst hv hv2
  clear hA hB
  obtain ⟨r, hr⟩ : ∃ r, r = decide (A = B) := ⟨_, rfl⟩
  rw [← hr]
  have HR := Lib.hid hr
  clear hr
  by_cases hlen : A.length = B.length
  · have hlb : ((A.length : Int) != B.length) = false := by simp [hlen]
    have HL := Lib.hid hlen
    have hA1 : A.length ≤ 1099511627776 := by omega
    clear hlen
    go_enter Try.func13, Try.ntmps13
    (repeat' (first | (go_big_may; fail) | go_values | go_skip | go_guarded | go_step | go_upon | go_back | dsimp only))
    go_loopw [5] (fun vi wr => ∃ i : Nat, vi = .int .i64 i ∧ i ≤ A.length ∧ (∀ j, j < i → A[j]? = B[j]?) ∧ Below w.heap.size w wr) (fun vi _ => A.length - (intOf vi).toNat)
    case atStart => exact ⟨0, rfl, Nat.zero_le _, fun j hj => absurd hj (Nat.not_lt_zero _), Below.refl _ _⟩
    case round =>
      obtain ⟨i, rfl, hi, hpre, hbel⟩ := hrel
      have HP := Lib.hid hpre
      clear hpre
      by_cases hlt : i < A.length
      · obtain ⟨x, hx⟩ : ∃ x, A[i]? = some x := ⟨_, List.getElem?_eq_getElem hlt⟩
        have hlt2 : i < B.length := by have := HL.out; omega
        obtain ⟨y, hy⟩ : ∃ y, B[i]? = some y := ⟨_, List.getElem?_eq_getElem hlt2⟩
        obtain ⟨b, off, cap, u, hsl, d0, d1, hu⟩ := (HA.out.below hbel).at hx
        cases hsl
        obtain ⟨b', off', cap', u', hsl, d0', d1', hu'⟩ := (HB.out.below hbel).at hy
        cases hsl
        obtain ⟨ua, uc, hus, _, _⟩ := hu.shape
        obtain ⟨ua', uc', hus', _, _⟩ := hu'.shape
        subst hus hus'
        have hel := edgesN_le hx
        have hel' := edgesN_le hy
        have hiI : (i : Int) < (A.length : Int) := by omega
        have hiI2 : (i : Int) < (B.length : Int) := by omega
        have HX := Lib.hid hx
        have HY := Lib.hid hy
        have HBL := Lib.hid hbel
        have HU := Lib.hid (show RdEds wr (.slice ua x.edges.length uc) x.edges from hu)
        have HU' := Lib.hid (show RdEds wr (.slice ua' y.edges.length uc') y.edges from hu')
        clear hx hy hbel hu hu'
        have hne : x ≠ y → r = false := fun h => by
          have h1 := HR.out
          rw [h1]
          refine decide_eq_false fun e => h ?_
          have h2 := HX.out
          rw [e, HY.out] at h2
          exact (Option.some.inj h2).symm
        have HNE := Lib.hid hne
        clear hne
        by_cases hf : x.final = y.final
        · have hfb : (x.final == y.final) = true := by simp [hf]
          have hfb2 : (x.final != y.final) = false := by simp [hf]
          by_cases hel2 : x.edges.length = y.edges.length
          · have hlb2 : ((x.edges.length : Int) != y.edges.length) = false := by simp [hel2]
            have HFE := Lib.hid hf
            have HEL := Lib.hid hel2
            clear hf hel2
            (repeat' (first | (go_big_may; fail) | go_values | go_skip | go_guarded | go_step | go_upon | go_back | dsimp only))
            (refine region_still_tail 25 (by kernel_rfl) (by kernel_rfl) ?_; simp only [List.take_succ_cons, List.take_zero, List.drop_succ_cons, List.drop_zero]; (iterate 25 (first | ((with_reducible refine still_plain ?_ rfl ?_ ?_); rotate_left; (next => (go_simp; (try with_reducible rfl))); simp only [Act.put, List.setIfInBounds_toArray, List.set_cons_zero, List.set_cons_succ]) | ((with_reducible refine still_skip ?_ ?_); (next => (go_simp; done)); simp only [Act.put, List.setIfInBounds_toArray, List.set_cons_zero, List.set_cons_succ]) | ((with_reducible refine still_val ?_ ?_ ?_ ?_); rotate_left; (next => (go_simp; done)); (next => (go_simp; (try with_reducible rfl))); simp only [Act.put, List.setIfInBounds_toArray, List.set_cons_zero, List.set_cons_succ]))); (with_reducible refine wpStill_nil ?_))
            (repeat' (first | (go_big_may; fail) | go_values | go_skip | go_guarded | go_step | go_upon | go_back | dsimp only))
            go_loopw [6] (fun vk wx => ∃ k : Nat, vk = .int .i64 k ∧ k ≤ x.edges.length ∧ (∀ j, j < k → x.edges[j]? = y.edges[j]?) ∧ Below wr.heap.size wr wx) (fun vk _ => x.edges.length - (intOf vk).toNat)
            case atStart => exact ⟨0, rfl, Nat.zero_le _, fun j hj => absurd hj (Nat.not_lt_zero _), ⟨rfl, rfl, rfl, Nat.le_refl _, fun _ _ => rfl⟩⟩
            case round =>
              rename_i wx _
              obtain ⟨k, rfl, hk, hpre, hbel⟩ := hrel
              have g1 := (hbel.cell (World.block_lt_of_cell? _ _ d1)).trans d1
              have g1' := (hbel.cell (World.block_lt_of_cell? _ _ d1')).trans d1'
              have HPK := Lib.hid hpre
              have HBX := Lib.hid hbel
              clear hpre
              by_cases hlk : k < x.edges.length
              · obtain ⟨e, he⟩ : ∃ e, x.edges[k]? = some e := ⟨_, List.getElem?_eq_getElem hlk⟩
                have hlk2 : k < y.edges.length := by have := HEL.out; omega
                obtain ⟨d, hd⟩ : ∃ d, y.edges[k]? = some d := ⟨_, List.getElem?_eq_getElem hlk2⟩
                obtain ⟨be, oe, ce, hse, e0, e1⟩ := RdEds.at (RdRow.below HU.out hbel) he
                cases hse
                obtain ⟨be', oe', ce', hse, e0', e1'⟩ := RdEds.at (RdRow.below HU'.out hbel) hd
                cases hse
                have hkI : (k : Int) < (x.edges.length : Int) := by omega
                have hkI2 : (k : Int) < (y.edges.length : Int) := by omega
                have HE := Lib.hid he
                have HD := Lib.hid hd
                clear hbel he hd
                have hdiff : e ≠ d → r = false := fun h => HNE.out fun e2 => h (by
                  have h1 := HE.out
                  rw [e2, HD.out] at h1
                  exact (Option.some.inj h1).symm)
                have HDF := Lib.hid hdiff
                clear hdiff
                by_cases h1 : (e.1.toNat : Int) = (d.1.toNat : Int)
                · by_cases h2 : e.2 = d.2
                  · have hed : e = d := Prod.ext (UInt8.toNat_inj.1 (Int.ofNat_inj.1 h1)) h2
                    have HED := Lib.hid hed
                    clear hed
                    (repeat' (first | (go_big_may; fail) | go_values | go_skip | go_guarded | go_step | go_upon | go_back | dsimp only))
                    (refine region_still_tail 16 (by kernel_rfl) (by kernel_rfl) ?_; simp only [List.take_succ_cons, List.take_zero, List.drop_succ_cons, List.drop_zero]; (iterate 16 (first | ((with_reducible refine still_plain ?_ rfl ?_ ?_); rotate_left; (next => (go_simp; (try with_reducible rfl))); simp only [Act.put, List.setIfInBounds_toArray, List.set_cons_zero, List.set_cons_succ]) | ((with_reducible refine still_skip ?_ ?_); (next => (go_simp; done)); simp only [Act.put, List.setIfInBounds_toArray, List.set_cons_zero, List.set_cons_succ]) | ((with_reducible refine still_val ?_ ?_ ?_ ?_); rotate_left; (next => (go_simp; done)); (next => (go_simp; (try with_reducible rfl))); simp only [Act.put, List.setIfInBounds_toArray, List.set_cons_zero, List.set_cons_succ]))); (with_reducible refine wpStill_nil ?_))
                    (repeat' (first | (go_big_may; fail) | go_values | go_skip | go_guarded | go_step | go_upon | go_back | dsimp only))
                    go_roundw
                    case rel =>
                      refine ⟨k + 1, by simp, by omega, fun j hj => ?_, HBX.out.drew⟩
                      by_cases hjk : j = k
                      · subst hjk; rw [HE.out, HD.out, HED.out]
                      · exact HPK.out j (by omega)
                    case measure => simp [intOf] <;> omega
                  · have hrf := HDF.out fun e2 => h2 (by rw [e2])
                    subst hrf
                    (repeat' (first | (go_big_may; fail) | go_values | go_skip | go_guarded | go_step | go_upon | go_back | dsimp only))
                    (refine region_still_tail 16 (by kernel_rfl) (by kernel_rfl) ?_; simp only [List.take_succ_cons, List.take_zero, List.drop_succ_cons, List.drop_zero]; (iterate 16 (first | ((with_reducible refine still_plain ?_ rfl ?_ ?_); rotate_left; (next => (go_simp; (try with_reducible rfl))); simp only [Act.put, List.setIfInBounds_toArray, List.set_cons_zero, List.set_cons_succ]) | ((with_reducible refine still_skip ?_ ?_); (next => (go_simp; done)); simp only [Act.put, List.setIfInBounds_toArray, List.set_cons_zero, List.set_cons_succ]) | ((with_reducible refine still_val ?_ ?_ ?_ ?_); rotate_left; (next => (go_simp; done)); (next => (go_simp; (try with_reducible rfl))); simp only [Act.put, List.setIfInBounds_toArray, List.set_cons_zero, List.set_cons_succ]))); (with_reducible refine wpStill_nil ?_))
                    (repeat' (first | (go_big_may; fail) | go_values | go_skip | go_guarded | go_step | go_upon | go_back | dsimp only))
                    go_ret
                    exact ⟨rfl, (HBL.out.trans (HBX.out.mono HBL.out.size)).drew⟩
                · have hrf := HDF.out fun e2 => h1 (by rw [e2])
                  subst hrf
                  (repeat' (first | (go_big_may; fail) | go_values | go_skip | go_guarded | go_step | go_upon | go_back | dsimp only))
                  (refine region_still_tail 16 (by kernel_rfl) (by kernel_rfl) ?_; simp only [List.take_succ_cons, List.take_zero, List.drop_succ_cons, List.drop_zero]; (iterate 16 (first | ((with_reducible refine still_plain ?_ rfl ?_ ?_); rotate_left; (next => (go_simp; (try with_reducible rfl))); simp only [Act.put, List.setIfInBounds_toArray, List.set_cons_zero, List.set_cons_succ]) | ((with_reducible refine still_skip ?_ ?_); (next => (go_simp; done)); simp only [Act.put, List.setIfInBounds_toArray, List.set_cons_zero, List.set_cons_succ]) | ((with_reducible refine still_val ?_ ?_ ?_ ?_); rotate_left; (next => (go_simp; done)); (next => (go_simp; (try with_reducible rfl))); simp only [Act.put, List.setIfInBounds_toArray, List.set_cons_zero, List.set_cons_succ]))); (with_reducible refine wpStill_nil ?_))
                  (repeat' (first | (go_big_may; fail) | go_values | go_skip | go_guarded | go_step | go_upon | go_back | dsimp only))
                  go_ret
                  exact ⟨rfl, (HBL.out.trans (HBX.out.mono HBL.out.size)).drew⟩
              · obtain rfl : k = x.edges.length := by omega
                have hkI : ¬ (x.edges.length : Int) < (x.edges.length : Int) := by omega
                (repeat' (first | (go_big_may; fail) | go_values | go_skip | go_guarded | go_step | go_upon | go_back | dsimp only))
                go_roundw
                case rel =>
                  refine ⟨i + 1, by simp, by omega, fun j hj => ?_, HBL.out.trans (HBX.out.mono HBL.out.size)⟩
                  by_cases hji : j = i
                  · subst hji
                    rw [HX.out, HY.out]
                    congr 1
                    have h8 : x.edges = y.edges := List.ext_getElem? fun j => by
                      by_cases hj : j < x.edges.length
                      · exact HPK.out j hj
                      · rw [List.getElem?_eq_none (by omega), List.getElem?_eq_none (by have := HEL.out; omega)]
                    have h7 := HFE.out
                    cases x
                    cases y
                    simp only at h7 h8
                    rw [h7, h8]
                  · exact HP.out j (by omega)
                case measure => simp [intOf] <;> omega
          · have hlb2 : ((x.edges.length : Int) != y.edges.length) = true := by simp; omega
            have hrf := HNE.out fun e => hel2 (by rw [e])
            subst hrf
            (repeat' (first | (go_big_may; fail) | go_values | go_skip | go_guarded | go_step | go_upon | go_back | dsimp only))
            (refine region_still_tail 25 (by kernel_rfl) (by kernel_rfl) ?_; simp only [List.take_succ_cons, List.take_zero, List.drop_succ_cons, List.drop_zero]; (iterate 25 (first | ((with_reducible refine still_plain ?_ rfl ?_ ?_); rotate_left; (next => (go_simp; (try with_reducible rfl))); simp only [Act.put, List.setIfInBounds_toArray, List.set_cons_zero, List.set_cons_succ]) | ((with_reducible refine still_skip ?_ ?_); (next => (go_simp; done)); simp only [Act.put, List.setIfInBounds_toArray, List.set_cons_zero, List.set_cons_succ]) | ((with_reducible refine still_val ?_ ?_ ?_ ?_); rotate_left; (next => (go_simp; done)); (next => (go_simp; (try with_reducible rfl))); simp only [Act.put, List.setIfInBounds_toArray, List.set_cons_zero, List.set_cons_succ]))); (with_reducible refine wpStill_nil ?_))
            (repeat' (first | (go_big_may; fail) | go_values | go_skip | go_guarded | go_step | go_upon | go_back | dsimp only))
            go_ret
            exact ⟨rfl, HBL.out.drew⟩
        · have hfb : (x.final == y.final) = false := by simp [hf]
          have hfb2 : (x.final != y.final) = true := by simp [hf]
          have hrf := HNE.out fun e => hf (by rw [e])
          subst hrf
          (repeat' (first | (go_big_may; fail) | go_values | go_skip | go_guarded | go_step | go_upon | go_back | dsimp only))
          (refine region_still_tail 25 (by kernel_rfl) (by kernel_rfl) ?_; simp only [List.take_succ_cons, List.take_zero, List.drop_succ_cons, List.drop_zero]; (iterate 25 (first | ((with_reducible refine still_plain ?_ rfl ?_ ?_); rotate_left; (next => (go_simp; (try with_reducible rfl))); simp only [Act.put, List.setIfInBounds_toArray, List.set_cons_zero, List.set_cons_succ]) | ((with_reducible refine still_skip ?_ ?_); (next => (go_simp; done)); simp only [Act.put, List.setIfInBounds_toArray, List.set_cons_zero, List.set_cons_succ]) | ((with_reducible refine still_val ?_ ?_ ?_ ?_); rotate_left; (next => (go_simp; done)); (next => (go_simp; (try with_reducible rfl))); simp only [Act.put, List.setIfInBounds_toArray, List.set_cons_zero, List.set_cons_succ]))); (with_reducible refine wpStill_nil ?_))
          (repeat' (first | (go_big_may; fail) | go_values | go_skip | go_guarded | go_step | go_upon | go_back | dsimp only))
          go_ret
          exact ⟨rfl, HBL.out.drew⟩
      · obtain rfl : i = A.length := by omega
        have hiI : ¬ (A.length : Int) < (A.length : Int) := by omega
        have hrt : r = true := by
          have h1 := HR.out
          rw [h1]
          refine decide_eq_true (List.ext_getElem? fun j => ?_)
          by_cases hj : j < A.length
          · exact HP.out j hj
          · rw [List.getElem?_eq_none (by omega), List.getElem?_eq_none (by have := HL.out; omega)]
        subst hrt
        have HBL := Lib.hid hbel
        clear hbel
        (repeat' (first | (go_big_may; fail) | go_values | go_skip | go_guarded | go_step | go_upon | go_back | dsimp only))
        go_ret
        exact ⟨rfl, HBL.out⟩
  · have hlb : ((A.length : Int) != B.length) = true := by simp; omega
    have hrf : r = false := by
      have h1 := HR.out
      rw [h1]
      exact decide_eq_false fun e => hlen (by rw [e])
    subst hrf
    go_enter Try.func13, Try.ntmps13
    (repeat' (first | (go_big_may; fail) | go_values | go_skip | go_guarded | go_step | go_upon | go_back | dsimp only))
    go_ret
    exact ⟨rfl, Below.refl _ _⟩
theorem Equal_calls {w : World} {A B : List Sta} {va vb : Value} (hA : RdAut w va A) (hB : RdAut w vb B) (hl : A.length ≤ 1048576 ∧ edgesN A ≤ 1048576) (hl2 : B.length ≤ 1048576 ∧ edgesN B ≤ 1048576) :
    Calls Try.prog 13 #[va, vb] w fun e w' => e = .returned (.bool (decide (A = B))) ∧ Below w.heap.size w w' := Equal_big hA hB (by omega) (by omega)
end Go.Proofs.Ytcbdncjknpdnbaa

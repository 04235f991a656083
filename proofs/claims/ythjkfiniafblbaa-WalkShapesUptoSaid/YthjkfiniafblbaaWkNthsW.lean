/- WalkNths walked. -/
import Derived.Test.YthjkfiniafblbaaWkWakes
import Derived.Test.YthjkfiniafblbaaWkOpenI
namespace Go.Proofs.Ythjkfiniafblbaa
open Go.RowKit

theorem lk {w a b : World} (h : Below w.heap.size w a) (k : Below a.heap.size a b) : Below w.heap.size w b := h.trans (k.mono h.size)

set_option maxRecDepth 100000 in
set_option maxHeartbeats 3200000 in
theorem walkNths_walk (W : World) (A : List Sta) (v0 : Value) (hA : RdAut W v0 A) (hl : A.length + edgesN A ≤ 1048576) (ks : List Int) (v1 : Value) (hk : RdRow W v1 ks.length 1 (intsI ks)) (_hkl : ks.length ≤ 1048576) :
    Calls Try.prog 3 #[v0, v1] W fun e W' => e = .returned (.bool true) ∧ Below W.heap.size W W' := by
  have HW := Lib.hid (wakes_calls W)
  have HA := Lib.hid hA
  have HK := Lib.hid hk
  obtain ⟨a1, c1, rfl, _, hc1⟩ := hk.shape
  unfold maxLen at hc1
  clear hA hk
  go_enter Try.func3, Try.ntmps3
  (repeat' (first | (go_big_may; fail) | go_values | go_skip | go_guarded | go_step | go_upon | go_back | dsimp only))
  refine HW.out.mono ?_
  rintro e1 w1 ⟨rfl, hb1⟩
  have HB1 := Lib.hid hb1
  have HRF := Lib.hid (ref_calls (HA.out.below hb1) hl)
  clear hb1 HW
  (repeat' (first | (go_big_may; fail) | go_values | go_skip | go_guarded | go_step | go_upon | go_back | dsimp only))
  refine HRF.out.mono ?_
  rintro e2 w2 ⟨vx, rfl, h2⟩
  have HB2 := Lib.hid (lk HB1.out h2.below)
  have HX := Lib.hid h2.autRd
  have HS := Lib.hid (RShape_calls h2.autRd hl)
  clear h2 HRF
  (repeat' (first | (go_big_may; fail) | go_values | go_skip | go_guarded | go_step | go_upon | go_back | dsimp only))
  refine HS.out.mono ?_
  rintro e3 w3 ⟨rfl, hb3⟩
  have HB3 := Lib.hid (lk HB2.out hb3)
  have HX3 := Lib.hid (HX.out.below hb3)
  clear hb3 HS HX
  cases hs : shapeB A with
  | false =>
    rw [shapeV_bad hs]
    clear hs
    (repeat' (first | (go_big_may; fail) | go_values | go_skip | go_guarded | go_step | go_upon | go_back | dsimp only))
    go_ret
    exact ⟨rfl, HB3.out⟩
  | true =>
    rw [shapeV_ok hs]
    have hsh := shaped_of hs
    obtain ⟨t, ht, _, _⟩ := hsh.tr 0 hsh.pos
    have HC := Lib.hid (RCounts_calls HX3.out hl hsh)
    have HS := Lib.hid hs
    have HT := Lib.hid ht
    have hpos := hsh.pos
    clear hs hsh ht
    (repeat' (first | (go_big_may; fail) | go_values | go_skip | go_guarded | go_step | go_upon | go_back | dsimp only))
    refine HC.out.mono ?_
    rintro e4 w4 ⟨cs, g, rfl, hcs, h4⟩
    have HB4 := Lib.hid (lk HB3.out h4.below)
    have HX4 := Lib.hid (HX3.out.below h4.below)
    have HCS := Lib.hid hcs
    have HRD := Lib.hid (RdRow.of_own h4.rowG)
    have C0 := Lib.hid (fun wz (hb : Below w4.heap.size w4 wz) => cell_row (HRD.out.below hb) (HCS.out.2 0 t HT.out))
    clear hcs h4 HC HX3
    (repeat' (first | (go_big_may; fail) | go_values | go_skip | go_guarded | go_step | go_upon | go_back | dsimp only))
    go_loopw [25] (fun vi wr => ∃ i : Nat, vi = .int .i64 i ∧ i ≤ ks.length ∧ Below w4.heap.size w4 wr) (fun vi _ => ks.length - (intOf vi).toNat)
    case atStart => exact ⟨0, rfl, Nat.zero_le _, Below.refl _ _⟩
    case round =>
      obtain ⟨i, rfl, hi, hb⟩ := hrel
      by_cases hlt : i < ks.length
      · obtain ⟨n, hn⟩ : ∃ n, ks[i]? = some n := ⟨_, List.getElem?_eq_getElem hlt⟩
        have hiI : (i : Int) < (ks.length : Int) := by omega
        obtain ⟨bb, ob, cb', hse, b1⟩ := (HK.out.below (lk HB4.out hb)).one (intsI_get hn)
        cases hse
        have HTW := Lib.hid (twin_calls (HA.out.below (lk HB4.out hb)) hl)
        have HB := Lib.hid hb
        clear hb hn
        (repeat' (first | (go_big_may; fail) | go_values | go_skip | go_guarded | go_step | go_upon | go_back | dsimp only))
        refine HTW.out.mono ?_
        rintro e5 w5 ⟨vt, rfl, h5⟩
        have HB5 := Lib.hid (lk HB.out h5.below)
        have HT5 := Lib.hid h5.autRd
        clear h5 HTW
        by_cases hc : cntT t ≤ 1099511627776
        · have HN := Lib.hid (Nth_calls HT5.out hl HT.out hc n HS.out)
          (repeat' (first | (go_big_may; fail) | go_values | go_skip | go_guarded | go_step | go_upon | go_back | dsimp only))
          refine HN.out.mono ?_
          rintro e6 w6 ⟨rfl, hb6⟩
          have HB6 := Lib.hid (lk HB5.out hb6)
          have c0 := C0.out w6 HB6.out
          rw [show cntI t = (cntT t : Int) from by unfold cntI; rw [capN_small hc]] at c0
          have hcI : ¬ (1099511627776 : Int) < (cntT t : Int) := by omega
          have HRN := Lib.hid (RNth_calls (HX4.out.below HB6.out) hl HT.out hc n HCS.out (HRD.out.below HB6.out))
          clear hb6
          (repeat' (first | (go_big_may; fail) | go_values | go_skip | go_guarded | go_step | go_upon | go_back | dsimp only))
          refine HRN.out.mono ?_
          rintro e7 w7 ⟨rfl, hb7⟩
          have HB7 := Lib.hid (lk HB6.out hb7)
          clear hb7 c0
          (repeat' (first | (go_big_may; fail) | go_values | go_skip | go_guarded | go_step | go_upon | go_back | dsimp only))
          go_roundw
          case rel => exact ⟨i + 1, by simp, by omega, HB7.out⟩
          case measure => simp [intOf] <;> omega
        · have HN := Lib.hid (Nth_many HT5.out hl HS.out HT.out (by omega) n)
          (repeat' (first | (go_big_may; fail) | go_values | go_skip | go_guarded | go_step | go_upon | go_back | dsimp only))
          refine HN.out.mono ?_
          rintro e6 w6 ⟨rfl, hb6⟩
          have HB6 := Lib.hid (lk HB5.out hb6)
          have c0 := C0.out w6 HB6.out
          rw [show cntI t = 1099511627777 from by unfold cntI capN; omega] at c0
          clear hb6
          (repeat' (first | (go_big_may; fail) | go_values | go_skip | go_guarded | go_step | go_upon | go_back | dsimp only))
          go_roundw
          case rel => exact ⟨i + 1, by simp, by omega, HB6.out⟩
          case measure => simp [intOf] <;> omega
      · obtain rfl : i = ks.length := by omega
        have HB := Lib.hid hb
        clear hb
        (repeat' (first | (go_big_may; fail) | go_values | go_skip | go_guarded | go_step | go_upon | go_back | dsimp only))
        go_ret
        exact ⟨rfl, lk HB4.out HB.out⟩
end Go.Proofs.Ythjkfiniafblbaa

/- WalkAccepts walked. -/
import Derived.Test.YthjkfiniafblbaaWkNthsW
import Derived.Test.YthjkfiniafblbaaWkAccepts
namespace Go.Proofs.Ythjkfiniafblbaa
open Go.RowKit

theorem size_mk' (r : List UInt8) : (⟨r.toArray⟩ : ByteArray).size = r.length := by simp [ByteArray.size]
theorem len_sum {r : List UInt8} : ∀ {ss : List (List UInt8)}, r ∈ ss → r.length ≤ sumLen ss
  | s :: ss, h => by
    have e : sumLen (s :: ss) = s.length + sumLen ss := by simp [sumLen]
    rw [e]
    rcases List.mem_cons.1 h with rfl | h
    · omega
    · have := len_sum h; omega
theorem data_mk (r : List UInt8) : (⟨r.toArray⟩ : ByteArray).data.toList = r := rfl
theorem RAccepts_r {w : World} {A : List Sta} {va : Value} (hA : RdAut w va A) (hl : A.length + edgesN A ≤ 1048576) {t : Trie} (ht : Unf A 0 t) (r : List UInt8) (hs : r.length ≤ 1048576) :
    Calls Try.prog 30 #[va, .string ⟨r.toArray⟩] w fun e w' => e = .returned (.tuple #[.bool (accT t r).1, .int .i64 ((accT t r).2 : Nat)]) ∧ Below w.heap.size w w' :=
  RAccepts_calls hA hl ht ⟨r.toArray⟩ (by rw [size_mk']; exact hs)
theorem Accepts_r {w : World} {A : List Sta} {va : Value} (hA : RdAut w va A) (hl : A.length + edgesN A ≤ 1048576) (hsh : shapeB A = true) {t : Trie} (ht : Unf A 0 t) (r : List UInt8) (hs : r.length ≤ 1048576) :
    Calls Try.prog 29 #[va, .string ⟨r.toArray⟩] w fun e w' => e = .returned (.tuple #[.bool (accT t r).1, .int .i64 ((accT t r).2 : Nat), .int .i64 0]) ∧ Below w.heap.size w w' :=
  Accepts_calls hA hl hsh ht ⟨r.toArray⟩ (by rw [size_mk']; exact hs)

set_option maxRecDepth 100000 in
set_option maxHeartbeats 3200000 in
theorem walkAccepts_walk (W : World) (A : List Sta) (v0 : Value) (hA : RdAut W v0 A) (hl : A.length + edgesN A ≤ 1048576) (ss : List (List UInt8)) (v1 : Value) (hk : RdRow W v1 ss.length 1 (strs ss)) (hss : ss.length + sumLen ss ≤ 1048576) :
    Calls Try.prog 7 #[v0, v1] W fun e W' => e = .returned (.bool true) ∧ Below W.heap.size W W' := by
  have HW := Lib.hid (wakes_calls W)
  have HA := Lib.hid hA
  have HK := Lib.hid hk
  obtain ⟨a1, c1, rfl, _, hc1⟩ := hk.shape
  unfold maxLen at hc1
  clear hA hk
  go_enter Try.func7, Try.ntmps7
  (repeat' (first | (go_big_may; fail) | go_values | go_skip | go_guarded | go_step | go_upon | go_back | dsimp only))
  refine HW.out.mono ?_
  rintro e1 w1 ⟨rfl, hb1⟩
  have HB1 := Lib.hid hb1
  have HRF := Lib.hid (ref_calls (HA.out.below hb1) hl)
  clear hb1 HW
  (repeat' (first | (go_big_may; fail) | go_values | go_skip | go_guarded | go_step | go_upon | go_back | dsimp only))
  refine HRF.out.mono ?_
  rintro e2 w2 ⟨vx, rfl, h2⟩
  have HB2 := Lib.hid (lk HB1.out h2.below)
  have HX := Lib.hid h2.autRd
  have HS := Lib.hid (RShape_calls h2.autRd hl)
  clear h2 HRF
  (repeat' (first | (go_big_may; fail) | go_values | go_skip | go_guarded | go_step | go_upon | go_back | dsimp only))
  refine HS.out.mono ?_
  rintro e3 w3 ⟨rfl, hb3⟩
  have HB3 := Lib.hid (lk HB2.out hb3)
  have HX3 := Lib.hid (HX.out.below hb3)
  clear hb3 HS HX
  cases hs : shapeB A with
  | false =>
    rw [shapeV_bad hs]
    clear hs
    (repeat' (first | (go_big_may; fail) | go_values | go_skip | go_guarded | go_step | go_upon | go_back | dsimp only))
    go_ret
    exact ⟨rfl, HB3.out⟩
  | true =>
    rw [shapeV_ok hs]
    have hsh := shaped_of hs
    obtain ⟨t, ht, _, _⟩ := hsh.tr 0 hsh.pos
    have HS := Lib.hid hs
    have HT := Lib.hid ht
    have hpos := hsh.pos
    clear hs hsh ht
    (repeat' (first | (go_big_may; fail) | go_values | go_skip | go_guarded | go_step | go_upon | go_back | dsimp only))
    go_loopw [22] (fun vi wr => ∃ i : Nat, vi = .int .i64 i ∧ i ≤ ss.length ∧ Below w3.heap.size w3 wr) (fun vi _ => ss.length - (intOf vi).toNat)
    case atStart => exact ⟨0, rfl, Nat.zero_le _, Below.refl _ _⟩
    case round =>
      obtain ⟨i, rfl, hi, hb⟩ := hrel
      by_cases hlt : i < ss.length
      · obtain ⟨r, hr⟩ : ∃ r, ss[i]? = some r := ⟨_, List.getElem?_eq_getElem hlt⟩
        have hrl := len_sum (List.mem_of_getElem? hr)
        have hiI : (i : Int) < (ss.length : Int) := by omega
        obtain ⟨bb, ob, cb', hse, b1⟩ := (HK.out.below (lk HB3.out hb)).str hr
        cases hse
        have HTW := Lib.hid (twin_calls (HA.out.below (lk HB3.out hb)) hl)
        have HB := Lib.hid hb
        have HRA := Lib.hid (fun wz (h : Below w3.heap.size w3 wz) => RAccepts_r (HX3.out.below h) hl HT.out r (by omega))
        have hle := accT_le r t
        have hle2 : ¬ (r.length : Int) < ((accT t r).2 : Nat) := by omega
        clear hb hr hle
        (repeat' (first | (go_big_may; fail) | go_values | go_skip | go_guarded | go_step | go_upon | go_back | dsimp only))
        refine HTW.out.mono ?_
        rintro e5 w5 ⟨vt, rfl, h5⟩
        have HB5 := Lib.hid (lk HB.out h5.below)
        have HAC := Lib.hid (Accepts_r h5.autRd hl HS.out HT.out r (by omega))
        clear h5 HTW
        (repeat' (first | (go_big_may; fail) | go_values | go_skip | go_guarded | go_step | go_upon | go_back | dsimp only))
        refine HAC.out.mono ?_
        rintro e6 w6 ⟨rfl, hb6⟩
        have HB6 := Lib.hid (lk HB5.out hb6)
        have HRA6 := Lib.hid (HRA.out w6 HB6.out)
        clear hb6
        (repeat' (first | (go_big_may; fail) | go_values | go_skip | go_guarded | go_step | go_upon | go_back | dsimp only))
        refine HRA6.out.mono ?_
        rintro e7 w7 ⟨rfl, hb7⟩
        have HB7 := Lib.hid (lk HB6.out hb7)
        clear hb7
        (repeat' (first | (go_big_may; fail) | go_values | go_skip | go_guarded | go_step | go_upon | go_back | dsimp only))
        go_roundw
        case rel => exact ⟨i + 1, by simp, by omega, HB7.out⟩
        case measure => simp [intOf] <;> omega
      · obtain rfl : i = ss.length := by omega
        have HB := Lib.hid hb
        clear hb
        (repeat' (first | (go_big_may; fail) | go_values | go_skip | go_guarded | go_step | go_upon | go_back | dsimp only))
        go_ret
        exact ⟨rfl, lk HB3.out HB.out⟩
end Go.Proofs.Ythjkfiniafblbaa

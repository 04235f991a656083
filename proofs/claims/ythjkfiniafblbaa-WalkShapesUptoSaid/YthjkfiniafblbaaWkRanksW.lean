/- WalkRanks walked. -/
import Derived.Test.YthjkfiniafblbaaWkAcceptsW
import Derived.Test.YthjkfiniafblbaaWkRank
namespace Go.Proofs.Ythjkfiniafblbaa
open Go.RowKit

theorem Rank_r {w : World} {A : List Sta} {va : Value} (hA : RdAut w va A) (hl : A.length + edgesN A ≤ 1048576) (hsh : shapeB A = true) {t : Trie} (ht : Unf A 0 t) (hc : cntT t ≤ 1099511627776) (r : List UInt8) (hs : r.length ≤ 1048576) :
    Calls Try.prog 22 #[va, .string ⟨r.toArray⟩] w fun e w' => e = .returned (.tuple #[.int .i64 ((rankT t r).1 : Nat), .bool (rankT t r).2, .int .i64 0]) ∧ Below w.heap.size w w' :=
  Rank_calls hA hl hsh ht hc ⟨r.toArray⟩ (by rw [size_mk']; exact hs)
theorem RRank_r {w : World} {A : List Sta} {va : Value} (hA : RdAut w va A) (hl : A.length + edgesN A ≤ 1048576) {t : Trie} (ht : Unf A 0 t) (hc : cntT t ≤ 1099511627776) (r : List UInt8) (hs : r.length ≤ 1048576)
    {g : Nat} {cs : List Int} (hcs : CntL A cs) (hrd : RdRow w (.slice (some ⟨g, 0, none⟩) A.length A.length) A.length 1 (intsI cs)) :
    Calls Try.prog 23 #[va, .slice (some ⟨g, 0, none⟩) A.length A.length, .string ⟨r.toArray⟩] w fun e w' => e = .returned (.tuple #[.int .i64 ((rankT t r).1 : Nat), .bool (rankT t r).2]) ∧ Below w.heap.size w w' :=
  RRank_calls hA hl ht hc ⟨r.toArray⟩ (by rw [size_mk']; exact hs) hcs hrd

set_option maxRecDepth 100000 in
set_option maxHeartbeats 3200000 in
theorem walkRanks_walk (W : World) (A : List Sta) (v0 : Value) (hA : RdAut W v0 A) (hl : A.length + edgesN A ≤ 1048576) (ss : List (List UInt8)) (v1 : Value) (hk : RdRow W v1 ss.length 1 (strs ss)) (hss : ss.length + sumLen ss ≤ 1048576) :
    Calls Try.prog 4 #[v0, v1] W fun e W' => e = .returned (.bool true) ∧ Below W.heap.size W W' := by
  have HW := Lib.hid (wakes_calls W)
  have HA := Lib.hid hA
  have HK := Lib.hid hk
  obtain ⟨a1, c1, rfl, _, hc1⟩ := hk.shape
  unfold maxLen at hc1
  clear hA hk
  go_enter Try.func4, Try.ntmps4
  (repeat' (first | (go_big_may; fail) | go_values | go_skip | go_guarded | go_step | go_upon | go_back | dsimp only))
  refine HW.out.mono ?_
  rintro e1 w1 ⟨rfl, hb1⟩
  have HB1 := Lib.hid hb1
  have HRF := Lib.hid (ref_calls (HA.out.below hb1) hl)
  clear hb1 HW
  (repeat' (first | (go_big_may; fail) | go_values | go_skip | go_guarded | go_step | go_upon | go_back | dsimp only))
  refine HRF.out.mono ?_
  rintro e2 w2 ⟨vx, rfl, h2⟩
  have HB2 := Lib.hid (lk HB1.out h2.below)
  have HX := Lib.hid h2.autRd
  have HS := Lib.hid (RShape_calls h2.autRd hl)
  clear h2 HRF
  (repeat' (first | (go_big_may; fail) | go_values | go_skip | go_guarded | go_step | go_upon | go_back | dsimp only))
  refine HS.out.mono ?_
  rintro e3 w3 ⟨rfl, hb3⟩
  have HB3 := Lib.hid (lk HB2.out hb3)
  have HX3 := Lib.hid (HX.out.below hb3)
  clear hb3 HS HX
  cases hs : shapeB A with
  | false =>
    rw [shapeV_bad hs]
    clear hs
    (repeat' (first | (go_big_may; fail) | go_values | go_skip | go_guarded | go_step | go_upon | go_back | dsimp only))
    go_ret
    exact ⟨rfl, HB3.out⟩
  | true =>
    rw [shapeV_ok hs]
    have hsh := shaped_of hs
    obtain ⟨t, ht, _, _⟩ := hsh.tr 0 hsh.pos
    have HC := Lib.hid (RCounts_calls HX3.out hl hsh)
    have HS := Lib.hid hs
    have HT := Lib.hid ht
    have hpos := hsh.pos
    clear hs hsh ht
    (repeat' (first | (go_big_may; fail) | go_values | go_skip | go_guarded | go_step | go_upon | go_back | dsimp only))
    refine HC.out.mono ?_
    rintro e4 w4 ⟨cs, g, rfl, hcs, h4⟩
    have HB4 := Lib.hid (lk HB3.out h4.below)
    have HX4 := Lib.hid (HX3.out.below h4.below)
    have HCS := Lib.hid hcs
    have HRD := Lib.hid (RdRow.of_own h4.rowG)
    have C0 := Lib.hid (fun wz (hb : Below w4.heap.size w4 wz) => cell_row (HRD.out.below hb) (HCS.out.2 0 t HT.out))
    have HTW := Lib.hid (twin_calls (HA.out.below HB4.out) hl)
    clear hcs h4 HC HX3
    (repeat' (first | (go_big_may; fail) | go_values | go_skip | go_guarded | go_step | go_upon | go_back | dsimp only))
    refine HTW.out.mono ?_
    rintro e5 w5 ⟨vt, rfl, h5⟩
    have HB5 := Lib.hid h5.below
    have HCN := Lib.hid (Count_calls h5.autRd hl HS.out HT.out)
    clear h5 HTW
    (repeat' (first | (go_big_may; fail) | go_values | go_skip | go_guarded | go_step | go_upon | go_back | dsimp only))
    refine HCN.out.mono ?_
    rintro e6 w6 ⟨rfl, hb6⟩
    have HB6 := Lib.hid (lk HB5.out hb6)
    have c0 := C0.out w6 HB6.out
    clear hb6
    by_cases hc : cntT t ≤ 1099511627776
    · rw [show cntI t = (cntT t : Int) from by unfold cntI; rw [capN_small hc]] at c0
      rw [show countV t = (cntT t : Int) from if_pos hc, show countE t = 0 from if_pos hc]
      have hcI : ¬ (1099511627776 : Int) < (cntT t : Int) := by omega
      (repeat' (first | (go_big_may; fail) | go_values | go_skip | go_guarded | go_step | go_upon | go_back | dsimp only))
      go_loopw [62] (fun vi wr => ∃ i : Nat, vi = .int .i64 i ∧ i ≤ ss.length ∧ Below w4.heap.size w4 wr) (fun vi _ => ss.length - (intOf vi).toNat)
      case atStart => exact ⟨0, rfl, Nat.zero_le _, HB6.out⟩
      case round =>
        obtain ⟨i, rfl, hi, hb⟩ := hrel
        by_cases hlt : i < ss.length
        · obtain ⟨r, hr⟩ : ∃ r, ss[i]? = some r := ⟨_, List.getElem?_eq_getElem hlt⟩
          have hrl := len_sum (List.mem_of_getElem? hr)
          have hiI : (i : Int) < (ss.length : Int) := by omega
          obtain ⟨bb, ob, cb', hse, b1⟩ := (HK.out.below (lk HB4.out hb)).str hr
          cases hse
          have HTW := Lib.hid (twin_calls (HA.out.below (lk HB4.out hb)) hl)
          have HB := Lib.hid hb
          clear hb hr
          (repeat' (first | (go_big_may; fail) | go_values | go_skip | go_guarded | go_step | go_upon | go_back | dsimp only))
          refine HTW.out.mono ?_
          rintro e7 w7 ⟨vt7, rfl, h7⟩
          have HB7 := Lib.hid (lk HB.out h7.below)
          have HRK := Lib.hid (Rank_r h7.autRd hl HS.out HT.out hc r (by omega))
          clear h7 HTW
          (repeat' (first | (go_big_may; fail) | go_values | go_skip | go_guarded | go_step | go_upon | go_back | dsimp only))
          refine HRK.out.mono ?_
          rintro e8 w8 ⟨rfl, hb8⟩
          have HB8 := Lib.hid (lk HB7.out hb8)
          have HRR := Lib.hid (RRank_r (HX4.out.below HB8.out) hl HT.out hc r (by omega) HCS.out (HRD.out.below HB8.out))
          clear hb8
          (repeat' (first | (go_big_may; fail) | go_values | go_skip | go_guarded | go_step | go_upon | go_back | dsimp only))
          refine HRR.out.mono ?_
          rintro e9 w9 ⟨rfl, hb9⟩
          have HB9 := Lib.hid (lk HB8.out hb9)
          clear hb9
          (repeat' (first | (go_big_may; fail) | go_values | go_skip | go_guarded | go_step | go_upon | go_back | dsimp only))
          go_roundw
          case rel => exact ⟨i + 1, by simp, by omega, HB9.out⟩
          case measure => simp [intOf] <;> omega
        · obtain rfl : i = ss.length := by omega
          have HB := Lib.hid hb
          clear hb
          (repeat' (first | (go_big_may; fail) | go_values | go_skip | go_guarded | go_step | go_upon | go_back | dsimp only))
          go_ret
          exact ⟨rfl, lk HB4.out HB.out⟩
    · rw [show cntI t = 1099511627777 from by unfold cntI capN; omega] at c0
      rw [show countV t = 0 from if_neg hc, show countE t = 191 from if_neg hc]
      (repeat' (first | (go_big_may; fail) | go_values | go_skip | go_guarded | go_step | go_upon | go_back | dsimp only))
      go_loopw [62] (fun vi wr => ∃ i : Nat, vi = .int .i64 i ∧ i ≤ ss.length ∧ Below w4.heap.size w4 wr) (fun vi _ => ss.length - (intOf vi).toNat)
      case atStart => exact ⟨0, rfl, Nat.zero_le _, HB6.out⟩
      case round =>
        obtain ⟨i, rfl, hi, hb⟩ := hrel
        by_cases hlt : i < ss.length
        · obtain ⟨r, hr⟩ : ∃ r, ss[i]? = some r := ⟨_, List.getElem?_eq_getElem hlt⟩
          have hiI : (i : Int) < (ss.length : Int) := by omega
          obtain ⟨bb, ob, cb', hse, b1⟩ := (HK.out.below (lk HB4.out hb)).str hr
          cases hse
          have HTW := Lib.hid (twin_calls (HA.out.below (lk HB4.out hb)) hl)
          have HB := Lib.hid hb
          clear hb hr
          (repeat' (first | (go_big_may; fail) | go_values | go_skip | go_guarded | go_step | go_upon | go_back | dsimp only))
          refine HTW.out.mono ?_
          rintro e7 w7 ⟨vt7, rfl, h7⟩
          have HB7 := Lib.hid (lk HB.out h7.below)
          have HRK := Lib.hid (Rank_many h7.autRd hl HS.out HT.out (by omega) (⟨r.toArray⟩ : ByteArray))
          clear h7 HTW
          (repeat' (first | (go_big_may; fail) | go_values | go_skip | go_guarded | go_step | go_upon | go_back | dsimp only))
          refine HRK.out.mono ?_
          rintro e8 w8 ⟨rfl, hb8⟩
          have HB8 := Lib.hid (lk HB7.out hb8)
          clear hb8
          (repeat' (first | (go_big_may; fail) | go_values | go_skip | go_guarded | go_step | go_upon | go_back | dsimp only))
          go_roundw
          case rel => exact ⟨i + 1, by simp, by omega, HB8.out⟩
          case measure => simp [intOf] <;> omega
        · obtain rfl : i = ss.length := by omega
          have HB := Lib.hid hb
          clear hb
          (repeat' (first | (go_big_may; fail) | go_values | go_skip | go_guarded | go_step | go_upon | go_back | dsimp only))
          go_ret
          exact ⟨rfl, lk HB4.out HB.out⟩
end Go.Proofs.Ythjkfiniafblbaa

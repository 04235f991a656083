/- WalkShapes walked. -/
import Derived.Test.YthjkfiniafblbaaWkRanksW
import Derived.Test.YthjkfiniafblbaaWkList
namespace Go.Proofs.Ythjkfiniafblbaa
open Go.RowKit

set_option maxRecDepth 100000 in
set_option maxHeartbeats 1600000 in
theorem Minimize_bad {w : World} {A : List Sta} {va : Value} (hA : RdAut w va A) (hl : A.length + edgesN A ≤ 1048576) (hs : shapeB A = false) :
    Calls Try.prog 32 #[va] w fun e w' => e = .returned (.tuple #[.slice none 0 0, .int .i64 190]) ∧ Below w.heap.size w w' := by
  have HS := Lib.hid (Shape_calls hA hl)
  rw [shapeV_bad hs] at HS
  clear hs hA
  go_enter Try.func32, Try.ntmps32
  (repeat' (first | (go_big_may; fail) | go_values | go_skip | go_guarded | go_step | go_upon | go_back | dsimp only))
  refine HS.out.mono ?_
  rintro e1 w1 ⟨rfl, hb1⟩
  have HB1 := Lib.hid hb1
  clear hb1
  (repeat' (first | (go_big_may; fail) | go_values | go_skip | go_guarded | go_step | go_upon | go_back | dsimp only))
  go_ret2
  exact ⟨rfl, HB1.out⟩
set_option maxRecDepth 100000 in
set_option maxHeartbeats 1600000 in
theorem Same_bad1 {w : World} {A : List Sta} {va vb : Value} (hA : RdAut w va A) (hl : A.length + edgesN A ≤ 1048576) (hs : shapeB A = false) :
    Calls Try.prog 24 #[va, vb] w fun e w' => e = .returned (.tuple #[.bool false, .int .i64 190]) ∧ Below w.heap.size w w' := by
  have HS := Lib.hid (Shape_calls hA hl)
  rw [shapeV_bad hs] at HS
  clear hs hA
  go_enter Try.func24, Try.ntmps24
  (repeat' (first | (go_big_may; fail) | go_values | go_skip | go_guarded | go_step | go_upon | go_back | dsimp only))
  refine HS.out.mono ?_
  rintro e1 w1 ⟨rfl, hb1⟩
  have HB1 := Lib.hid hb1
  clear hb1
  (repeat' (first | (go_big_may; fail) | go_values | go_skip | go_guarded | go_step | go_upon | go_back | dsimp only))
  go_ret2
  exact ⟨rfl, HB1.out⟩
set_option maxRecDepth 100000 in
set_option maxHeartbeats 1600000 in
theorem Same_bad2 {w : World} {A B : List Sta} {va vb : Value} (hA : RdAut w va A) (hl : A.length + edgesN A ≤ 1048576) (hs : shapeB A = true) (hB : RdAut w vb B) (hlb : B.length + edgesN B ≤ 1048576) (hsb : shapeB B = false) :
    Calls Try.prog 24 #[va, vb] w fun e w' => e = .returned (.tuple #[.bool false, .int .i64 190]) ∧ Below w.heap.size w w' := by
  have HS := Lib.hid (Shape_calls hA hl)
  rw [shapeV_ok hs] at HS
  have HB := Lib.hid hB
  have HSB := Lib.hid hsb
  clear hs hA hB hsb
  go_enter Try.func24, Try.ntmps24
  (repeat' (first | (go_big_may; fail) | go_values | go_skip | go_guarded | go_step | go_upon | go_back | dsimp only))
  refine HS.out.mono ?_
  rintro e1 w1 ⟨rfl, hb1⟩
  have HB1 := Lib.hid hb1
  have h2 := Shape_calls (HB.out.below hb1) hlb
  rw [shapeV_bad HSB.out] at h2
  have H2 := Lib.hid h2
  clear hb1 h2
  (repeat' (first | (go_big_may; fail) | go_values | go_skip | go_guarded | go_step | go_upon | go_back | dsimp only))
  refine H2.out.mono ?_
  rintro e2 w2 ⟨rfl, hb2⟩
  have HB2 := Lib.hid (lk HB1.out hb2)
  clear hb2
  (repeat' (first | (go_big_may; fail) | go_values | go_skip | go_guarded | go_step | go_upon | go_back | dsimp only))
  go_ret2
  exact ⟨rfl, HB2.out⟩
theorem one_rd (w : World) : RdAut (w.alloc (.cells #[.bool false, .slice none 0 0] tPS)) (.slice (some ⟨w.heap.size, 0, none⟩) 1 1) [⟨false, []⟩] :=
  ⟨[(⟨false, []⟩, .slice none 0 0)], rfl, RdRow_lit (w := w) (T := tPS) #[.bool false, .slice none 0 0] 1 2 rfl (by simp [maxLen]), fun x hx => by
    rw [List.mem_singleton] at hx
    subst hx
    exact ⟨rfl, none, 0, rfl, Nat.le_refl _, by simp [maxLen], fun j u hu => by simp at hu⟩⟩

set_option maxRecDepth 100000 in
set_option maxHeartbeats 3200000 in
theorem walkShapes_walk (W : World) (A : List Sta) (v0 : Value) (hA : RdAut W v0 A) (hl : A.length + edgesN A ≤ 1048576) (fs : ByteArray) (_hfs : fs.size ≤ 1048576) (n : Int) (_hn : -9223372036854775808 ≤ n ∧ n ≤ 9223372036854775807) :
    Calls Try.prog 13 #[v0, .string fs, .int .i64 n] W fun e W' => e = .returned (.bool true) ∧ Below W.heap.size W W' := by
  have HRF := Lib.hid (ref_calls hA hl)
  have HA := Lib.hid hA
  clear hA
  go_enter Try.func13, Try.ntmps13
  (repeat' (first | (go_big_may; fail) | go_values | go_skip | go_guarded | go_step | go_upon | go_back | dsimp only))
  refine HRF.out.mono ?_
  rintro e1 w1 ⟨vx, rfl, h1⟩
  have HB1 := Lib.hid h1.below
  have HS := Lib.hid (RShape_calls h1.autRd hl)
  clear h1 HRF
  (repeat' (first | (go_big_may; fail) | go_values | go_skip | go_guarded | go_step | go_upon | go_back | dsimp only))
  refine HS.out.mono ?_
  rintro e2 w2 ⟨rfl, hb2⟩
  have HB2 := Lib.hid (lk HB1.out hb2)
  have HW := Lib.hid (wakes_calls w2)
  clear hb2 HS
  (repeat' (first | (go_big_may; fail) | go_values | go_skip | go_guarded | go_step | go_upon | go_back | dsimp only))
  refine HW.out.mono ?_
  rintro e3 w3 ⟨rfl, hb3⟩
  have HB3 := Lib.hid (lk HB2.out hb3)
  have HTW := Lib.hid (twin_calls (HA.out.below HB3.out) hl)
  clear hb3 HW
  (repeat' (first | (go_big_may; fail) | go_values | go_skip | go_guarded | go_step | go_upon | go_back | dsimp only))
  refine HTW.out.mono ?_
  rintro e4 w4 ⟨vt, rfl, h4⟩
  have HB4 := Lib.hid (lk HB3.out h4.below)
  have HS := Lib.hid (Shape_calls h4.autRd hl)
  clear h4 HTW
  (repeat' (first | (go_big_may; fail) | go_values | go_skip | go_guarded | go_step | go_upon | go_back | dsimp only))
  refine HS.out.mono ?_
  rintro e5 w5 ⟨rfl, hb5⟩
  have HB5 := Lib.hid (lk HB4.out hb5)
  clear hb5 HS
  cases hs : shapeB A with
  | true =>
    rw [shapeV_ok hs]
    clear hs
    (repeat' (first | (go_big_may; fail) | go_values | go_skip | go_guarded | go_step | go_upon | go_back | dsimp only))
    go_ret
    exact ⟨rfl, HB5.out⟩
  | false =>
    rw [shapeV_bad hs]
    have HS := Lib.hid hs
    have HTW := Lib.hid (twin_calls (HA.out.below HB5.out) hl)
    clear hs
    (repeat' (first | (go_big_may; fail) | go_values | go_skip | go_guarded | go_step | go_upon | go_back | dsimp only))
    refine HTW.out.mono ?_
    rintro e6 w6 ⟨vt6, rfl, h6⟩
    have HB6 := Lib.hid (lk HB5.out h6.below)
    have HC := Lib.hid (Accepts_bad h6.autRd hl HS.out fs)
    clear h6 HTW
    (repeat' (first | (go_big_may; fail) | go_values | go_skip | go_guarded | go_step | go_upon | go_back | dsimp only))
    refine HC.out.mono ?_
    rintro e7 w7 ⟨rfl, hb7⟩
    have HB7 := Lib.hid (lk HB6.out hb7)
    have HTW := Lib.hid (twin_calls (HA.out.below HB7.out) hl)
    clear hb7 HC
    (repeat' (first | (go_big_may; fail) | go_values | go_skip | go_guarded | go_step | go_upon | go_back | dsimp only))
    refine HTW.out.mono ?_
    rintro e8 w8 ⟨vt8, rfl, h8⟩
    have HB8 := Lib.hid (lk HB7.out h8.below)
    have HC := Lib.hid (Count_bad h8.autRd hl HS.out)
    clear h8 HTW
    (repeat' (first | (go_big_may; fail) | go_values | go_skip | go_guarded | go_step | go_upon | go_back | dsimp only))
    refine HC.out.mono ?_
    rintro e9 w9 ⟨rfl, hb9⟩
    have HB9 := Lib.hid (lk HB8.out hb9)
    have HTW := Lib.hid (twin_calls (HA.out.below HB9.out) hl)
    clear hb9 HC
    (repeat' (first | (go_big_may; fail) | go_values | go_skip | go_guarded | go_step | go_upon | go_back | dsimp only))
    refine HTW.out.mono ?_
    rintro e10 w10 ⟨vt10, rfl, h10⟩
    have HB10 := Lib.hid (lk HB9.out h10.below)
    have HC := Lib.hid (Rank_bad h10.autRd hl HS.out fs)
    clear h10 HTW
    (repeat' (first | (go_big_may; fail) | go_values | go_skip | go_guarded | go_step | go_upon | go_back | dsimp only))
    refine HC.out.mono ?_
    rintro e11 w11 ⟨rfl, hb11⟩
    have HB11 := Lib.hid (lk HB10.out hb11)
    have HTW := Lib.hid (twin_calls (HA.out.below HB11.out) hl)
    clear hb11 HC
    (repeat' (first | (go_big_may; fail) | go_values | go_skip | go_guarded | go_step | go_upon | go_back | dsimp only))
    refine HTW.out.mono ?_
    rintro e12 w12 ⟨vt12, rfl, h12⟩
    have HB12 := Lib.hid (lk HB11.out h12.below)
    have HC := Lib.hid (Nth_bad h12.autRd hl HS.out n)
    clear h12 HTW
    (repeat' (first | (go_big_may; fail) | go_values | go_skip | go_guarded | go_step | go_upon | go_back | dsimp only))
    refine HC.out.mono ?_
    rintro e13 w13 ⟨rfl, hb13⟩
    have HB13 := Lib.hid (lk HB12.out hb13)
    have HTW := Lib.hid (twin_calls (HA.out.below HB13.out) hl)
    clear hb13 HC
    (repeat' (first | (go_big_may; fail) | go_values | go_skip | go_guarded | go_step | go_upon | go_back | dsimp only))
    refine HTW.out.mono ?_
    rintro e14 w14 ⟨vt14, rfl, h14⟩
    have HB14 := Lib.hid (lk HB13.out h14.below)
    have HC := Lib.hid (List_bad h14.autRd hl HS.out fs n)
    clear h14 HTW
    (repeat' (first | (go_big_may; fail) | go_values | go_skip | go_guarded | go_step | go_upon | go_back | dsimp only))
    refine HC.out.mono ?_
    rintro e15 w15 ⟨rfl, hb15⟩
    have HB15 := Lib.hid (lk HB14.out hb15)
    have HTW := Lib.hid (twin_calls (HA.out.below HB15.out) hl)
    clear hb15 HC
    (repeat' (first | (go_big_may; fail) | go_values | go_skip | go_guarded | go_step | go_upon | go_back | dsimp only))
    refine HTW.out.mono ?_
    rintro e16 w16 ⟨vt16, rfl, h16⟩
    have HB16 := Lib.hid (lk HB15.out h16.below)
    have HC := Lib.hid (Minimize_bad h16.autRd hl HS.out)
    clear h16 HTW
    (repeat' (first | (go_big_may; fail) | go_values | go_skip | go_guarded | go_step | go_upon | go_back | dsimp only))
    refine HC.out.mono ?_
    rintro e17 w17 ⟨rfl, hb17⟩
    have HB17 := Lib.hid (lk HB16.out hb17)
    have HB18 := Lib.hid (HB17.out.alloc HB17.out.size (.cells #[.bool false, .slice none 0 0] tPS))
    have HO := Lib.hid (one_rd w17)
    have HTW := Lib.hid (twin_calls (HA.out.below HB18.out) hl)
    clear hb17 HC
    (repeat' (first | (go_big_may; fail) | go_values | go_skip | go_guarded | go_step | go_upon | go_back | dsimp only))
    refine HTW.out.mono ?_
    rintro e19 w19 ⟨vt19, rfl, h19⟩
    have HB19 := Lib.hid (lk HB18.out h19.below)
    have HO19 := Lib.hid (HO.out.below h19.below)
    have HC := Lib.hid (Same_bad1 (vb := .slice (some ⟨w17.heap.size, 0, none⟩) 1 1) h19.autRd hl HS.out)
    clear h19 HTW HO
    (repeat' (first | (go_big_may; fail) | go_values | go_skip | go_guarded | go_step | go_upon | go_back | dsimp only))
    refine HC.out.mono ?_
    rintro e20 w20 ⟨rfl, hb20⟩
    have HB20 := Lib.hid (lk HB19.out hb20)
    have HO20 := Lib.hid (HO19.out.below hb20)
    have HTW := Lib.hid (twin_calls (HA.out.below HB20.out) hl)
    clear hb20 HC
    (repeat' (first | (go_big_may; fail) | go_values | go_skip | go_guarded | go_step | go_upon | go_back | dsimp only))
    refine HTW.out.mono ?_
    rintro e21 w21 ⟨vt21, rfl, h21⟩
    have HB21 := Lib.hid (lk HB20.out h21.below)
    have HC := Lib.hid (Same_bad2 (HO20.out.below h21.below) (by decide) (by decide) h21.autRd hl HS.out)
    clear h21 HTW
    (repeat' (first | (go_big_may; fail) | go_values | go_skip | go_guarded | go_step | go_upon | go_back | dsimp only))
    refine HC.out.mono ?_
    rintro e22 w22 ⟨rfl, hb22⟩
    have HB22 := Lib.hid (lk HB21.out hb22)
    clear hb22 HC
    (repeat' (first | (go_big_may; fail) | go_values | go_skip | go_guarded | go_step | go_upon | go_back | dsimp only))
    go_ret
    exact ⟨rfl, HB22.out⟩
end Go.Proofs.Ythjkfiniafblbaa

/- hornbookref19.Same walked; WalkSame walked. -/
import Derived.Test.YthjkfiniafblbaaRefMin
import Derived.Test.YthjkfiniafblbaaWkEqual
import Derived.Test.YthjkfiniafblbaaWkSame
import Derived.Test.YthjkfiniafblbaaWkWakes
namespace Go.Proofs.Ythjkfiniafblbaa
open Go.RowKit

theorem minT_dec (s t : Trie) : decide (minT s = minT t) = decide (s = t) := decide_eq_decide.2 ⟨minT_inj, fun h => by rw [h]⟩
set_option maxRecDepth 100000 in
set_option maxHeartbeats 1600000 in
theorem RSame_calls {w : World} {A B : List Sta} {va vb : Value} (hA : RdAut w va A) (hB : RdAut w vb B) (hl : A.length + edgesN A ≤ 1048576) (hl2 : B.length + edgesN B ≤ 1048576) (hs : shapeB A = true) (hs2 : shapeB B = true) {s t : Trie} (ht : Unf A 0 s) (ht2 : Unf B 0 t) :
    Calls Try.prog 25 #[va, vb] w fun e w' => e = .returned (.bool (decide (s = t))) ∧ Below w.heap.size w w' := by
  have hm1 : (minT s).length + edgesN (minT s) ≤ 1048576 := by have := minT_le ht; have := minT_edges ht; omega
  have hm2 : (minT t).length + edgesN (minT t) ≤ 1048576 := by have := minT_le ht2; have := minT_edges ht2; omega
  have H1 := Lib.hid (RMin_calls hA hl hs ht)
  have H2 := Lib.hid (fun w' (hb : Below w.heap.size w w') => RMin_calls (hB.below hb) hl2 hs2 ht2)
  have HEQ := Lib.hid (fun (w : World) (va vb : Value) (ha : RdAut w va (minT s)) (hb : RdAut w vb (minT t)) => by
    have h := Equal_calls ha hb hm1 hm2
    rw [minT_dec] at h
    exact h)
  clear hA hB hl hl2 hs hs2 ht ht2
  generalize decide (s = t) = r at *
  generalize minT s = M1 at *
  generalize minT t = M2 at *
  go_enter Try.func25, Try.ntmps25
  (repeat' (first | (go_big_may; fail) | go_values | go_skip | go_guarded | go_step | go_upon | go_back | dsimp only))
  refine H1.out.mono ?_
  rintro e1 w1 ⟨v1, rfl, h1⟩
  have HK1 := Lib.hid h1
  clear h1
  (repeat' (first | (go_big_may; fail) | go_values | go_skip | go_guarded | go_step | go_upon | go_back | dsimp only))
  refine (H2.out _ HK1.out.below).mono ?_
  rintro e2 w2 ⟨v2, rfl, h2⟩
  have HK2 := Lib.hid (HK1.out.joint ((AutG.stable _ _ _ _).both Stable.nought) h2.keep)
  have HE := Lib.hid (HEQ.out w2 v1 v2 HK2.out.drop.autRd HK2.out.autRd)
  clear h2
  (repeat' (first | (go_big_may; fail) | go_values | go_skip | go_guarded | go_step | go_upon | go_back | dsimp only))
  refine HE.out.mono ?_
  rintro e3 w3 ⟨rfl, hb3⟩
  have HB3 := Lib.hid (HK2.out.below.trans (hb3.mono HK2.out.below.size))
  clear hb3
  (repeat' (first | (go_big_may; fail) | go_values | go_skip | go_guarded | go_step | go_upon | go_back | dsimp only))
  go_ret
  exact ⟨rfl, HB3.out⟩

set_option maxRecDepth 100000 in
set_option maxHeartbeats 6400000 in
theorem walkSame_walk (W : World) (A : List Sta) (v0 : Value) (hA : RdAut W v0 A) (hl : A.length + edgesN A ≤ 1048576) (B : List Sta) (v1 : Value) (hB : RdAut W v1 B) (hl2 : B.length + edgesN B ≤ 1048576) :
    Calls Try.prog 5 #[v0, v1] W fun e W' => e = .returned (.bool true) ∧ Below W.heap.size W W' := by
  have HW := Lib.hid (wakes_calls W)
  have HA := Lib.hid hA
  have HB := Lib.hid hB
  clear hA hB
  go_enter Try.func5, Try.ntmps5
  (repeat' (first | (go_big_may; fail) | go_values | go_skip | go_guarded | go_step | go_upon | go_back | dsimp only))
  refine HW.out.mono ?_
  rintro e1 w1 ⟨rfl, hb1⟩
  have HB1 := Lib.hid hb1
  have HRF := Lib.hid (ref_calls (HA.out.below hb1) hl)
  clear hb1 HW
  (repeat' (first | (go_big_may; fail) | go_values | go_skip | go_guarded | go_step | go_upon | go_back | dsimp only))
  refine HRF.out.mono ?_
  rintro e2 w2 ⟨vx, rfl, h2⟩
  have H2 := Lib.hid ((At.nought HB1.out).joint Stable.nought h2.keep)
  have hsx := (AutG.stable tRS tRE vx A).both Stable.nought
  have HRF := Lib.hid (ref_calls (HB.out.below H2.out.below) hl2)
  clear h2
  (repeat' (first | (go_big_may; fail) | go_values | go_skip | go_guarded | go_step | go_upon | go_back | dsimp only))
  refine HRF.out.mono ?_
  rintro e3 w3 ⟨vy, rfl, h3⟩
  have H3 := Lib.hid (H2.out.joint hsx h3.keep)
  have hsy := (AutG.stable tRS tRE vy B).both hsx
  have HS := Lib.hid (RShape_calls H3.out.drop.autRd hl)
  clear h3 HRF H2
  (repeat' (first | (go_big_may; fail) | go_values | go_skip | go_guarded | go_step | go_upon | go_back | dsimp only))
  refine HS.out.mono ?_
  rintro e4 w4 ⟨rfl, hb4⟩
  have H4 := Lib.hid (H3.out.mono hsy hb4)
  clear hb4 HS H3
  cases hs : shapeB A with
  | false =>
    rw [shapeV_bad hs]
    clear hs
    (repeat' (first | (go_big_may; fail) | go_values | go_skip | go_guarded | go_step | go_upon | go_back | dsimp only))
    go_ret
    exact ⟨rfl, H4.out.below⟩
  | true =>
    rw [shapeV_ok hs]
    have HS := Lib.hid (RShape_calls H4.out.autRd hl2)
    (repeat' (first | (go_big_may; fail) | go_values | go_skip | go_guarded | go_step | go_upon | go_back | dsimp only))
    refine HS.out.mono ?_
    rintro e5 w5 ⟨rfl, hb5⟩
    have H5 := Lib.hid (H4.out.mono hsy hb5)
    clear hb5 HS H4
    cases hs2 : shapeB B with
    | false =>
      rw [shapeV_bad hs2]
      clear hs hs2
      (repeat' (first | (go_big_may; fail) | go_values | go_skip | go_guarded | go_step | go_upon | go_back | dsimp only))
      go_ret
      exact ⟨rfl, H5.out.below⟩
    | true =>
      rw [shapeV_ok hs2]
      obtain ⟨s, hsT, _, _⟩ := (shaped_of hs).tr 0 (shaped_of hs).pos
      obtain ⟨t, htT, _, _⟩ := (shaped_of hs2).tr 0 (shaped_of hs2).pos
      have HSM := Lib.hid (fun (w : World) (va vb : Value) (ha : RdAut w va A) (hb : RdAut w vb B) => Same_calls ha hb hl hl2 hs hs2 hsT htT)
      have HSN := Lib.hid (fun (w : World) (va vb : Value) (ha : RdAut w va A) (hb : RdAut w vb B) => by
        have h := Same_calls hb ha hl2 hl hs2 hs htT hsT
        rw [show decide (t = s) = decide (s = t) from decide_eq_decide.2 ⟨fun h => h.symm, fun h => h.symm⟩] at h
        exact h)
      have HRS := Lib.hid (fun (w : World) (va vb : Value) (ha : RdAut w va A) (hb : RdAut w vb B) => RSame_calls ha hb hl hl2 hs hs2 hsT htT)
      clear hs hs2 hsT htT
      generalize decide (s = t) = r at *
      have hrr : (r == r) = true := by simp
      have HTW := Lib.hid (twin_calls (HA.out.below H5.out.below) hl)
      (repeat' (first | (go_big_may; fail) | go_values | go_skip | go_guarded | go_step | go_upon | go_back | dsimp only))
      refine HTW.out.mono ?_
      rintro e6 w6 ⟨v6, rfl, h6⟩
      have H6 := Lib.hid (H5.out.joint hsy h6.keep)
      have hs6 := (AutG.stable tPS tPE v6 A).both hsy
      have HTW := Lib.hid (twin_calls (HB.out.below H6.out.below) hl2)
      clear h6 H5
      (repeat' (first | (go_big_may; fail) | go_values | go_skip | go_guarded | go_step | go_upon | go_back | dsimp only))
      refine HTW.out.mono ?_
      rintro e7 w7 ⟨v7, rfl, h7⟩
      have H7 := Lib.hid (H6.out.joint hs6 h7.keep)
      have hs7 := (AutG.stable tPS tPE v7 B).both hs6
      have HSA := Lib.hid (HSM.out w7 v6 v7 H7.out.drop.autRd H7.out.autRd)
      clear h7 H6 HTW
      (repeat' (first | (go_big_may; fail) | go_values | go_skip | go_guarded | go_step | go_upon | go_back | dsimp only))
      refine HSA.out.mono ?_
      rintro e8 w8 ⟨rfl, hb8⟩
      have H8 := Lib.hid ((H7.out.mono hs7 hb8).drop.drop)
      have HTW := Lib.hid (twin_calls (HB.out.below H8.out.below) hl2)
      clear hb8 H7 HSA
      (repeat' (first | (go_big_may; fail) | go_values | go_skip | go_guarded | go_step | go_upon | go_back | dsimp only))
      refine HTW.out.mono ?_
      rintro e9 w9 ⟨v9, rfl, h9⟩
      have H9 := Lib.hid (H8.out.joint hsy h9.keep)
      have hs9 := (AutG.stable tPS tPE v9 B).both hsy
      have HTW := Lib.hid (twin_calls (HA.out.below H9.out.below) hl)
      clear h9 H8
      (repeat' (first | (go_big_may; fail) | go_values | go_skip | go_guarded | go_step | go_upon | go_back | dsimp only))
      refine HTW.out.mono ?_
      rintro e10 w10 ⟨v10, rfl, h10⟩
      have H10 := Lib.hid (H9.out.joint hs9 h10.keep)
      have hs10 := (AutG.stable tPS tPE v10 A).both hs9
      have HSA := Lib.hid (HSN.out w10 v10 v9 H10.out.autRd H10.out.drop.autRd)
      clear h10 H9 HTW
      (repeat' (first | (go_big_may; fail) | go_values | go_skip | go_guarded | go_step | go_upon | go_back | dsimp only))
      refine HSA.out.mono ?_
      rintro e11 w11 ⟨rfl, hb11⟩
      have H11 := Lib.hid ((H10.out.mono hs10 hb11).drop.drop)
      have HSA := Lib.hid (HRS.out w11 vx vy H11.out.drop.autRd H11.out.autRd)
      clear hb11 H10
      (repeat' (first | (go_big_may; fail) | go_values | go_skip | go_guarded | go_step | go_upon | go_back | dsimp only))
      refine HSA.out.mono ?_
      rintro e12 w12 ⟨rfl, hb12⟩
      have HB12 := Lib.hid (H11.out.below.trans (hb12.mono H11.out.below.size))
      clear hb12 H11 HSA
      (repeat' (first | (go_big_may; fail) | go_values | go_skip | go_guarded | go_step | go_upon | go_back | dsimp only))
      go_ret
      exact ⟨rfl, HB12.out⟩
end Go.Proofs.Ythjkfiniafblbaa

/- DeltaDiffs walked. -/
import Derived.Test.YtcbdncjknpdnbaaDlLaw
import Derived.Test.YtcbdncjknpdnbaaOpen
namespace Go.Proofs.Ytcbdncjknpdnbaa
open Go.RowKit

set_option maxRecDepth 100000 in
set_option maxHeartbeats 6400000 in
theorem deltaDiffs_walk (W : World) (A : List Sta) (v0 : Value) (hA : RdAut W v0 A) (hlA : A.length ≤ 1048576 ∧ edgesN A ≤ 1048576) (B : List Sta) (v1 : Value) (hB : RdAut W v1 B) (hlB : B.length ≤ 1048576 ∧ edgesN B ≤ 1048576) :
    Calls Try.prog 3 #[v0, v1] W fun e W' => e = .returned (.bool true) ∧ Below W.heap.size W W' := by
  obtain ⟨aa, ac, rfl, _, _⟩ := hA.shape
  obtain ⟨ba, bc, rfl, _, _⟩ := hB.shape
  have HA := Lib.hid hA
  have HB := Lib.hid hB
  have HSA := Lib.hid (fun (w : World) (hb : Below W.heap.size W w) => ref_calls (hA.below hb) hlA)
  have HSB := Lib.hid (fun (w : World) (hb : Below W.heap.size W w) => ref_calls (hB.below hb) hlB)
  clear hA hB
  go_enter Try.func3, Try.ntmps3
  (repeat' (first | (go_big_may; fail) | go_values | go_skip | go_guarded | go_step | go_upon | go_back | dsimp only))
  refine (HSA.out W (Below.refl _ _)).mono ?_
  rintro e1 w1 ⟨vx, rfl, h1⟩
  have H1 := Lib.hid h1
  clear h1
  (repeat' (first | (go_big_may; fail) | go_values | go_skip | go_guarded | go_step | go_upon | go_back | dsimp only))
  refine (HSB.out w1 H1.out.below).mono ?_
  rintro e2 w2 ⟨vy, rfl, h2⟩
  have H2 := Lib.hid (H1.out.glue ((AutG.stable _ _ _ _).both Stable.nought) h2)
  have hst2 := (AutG.stable tRS tRE vy B).both ((AutG.stable tRS tRE vx A).both Stable.nought)
  have HST2 := Lib.hid hst2
  clear h2 H1 hst2
  rcases fit2_or A B with ⟨ta, tb, hf⟩ | ⟨E, hE, h0⟩
  · obtain ⟨hra, hrb, hna, hnb⟩ := hf.rises
    have hd := Diff_ok (HA.out.below H2.out.below) (HB.out.below H2.out.below) hlA hlB hf.fit hf.ua hf.ub hna hnb
    have HDR := Lib.hid (fun (w : World) (h1 : RdAut w vx A) (h2 : RdAut w vy B) => RDiff_ok h1 h2 hlA hlB hf.sa hf.sb hf.ua hf.ub hf.ca hf.cb)
    have hdr := diff_ref hra hrb
    have HD := Lib.hid hd
    have HDE := Lib.hid (decide_eq_true hdr)
    generalize diffL (wT ta []) (wT tb []) = D at *
    generalize refD (wT ta []) (wT tb []) = F at *
    clear hd hf hra hrb hna hnb hdr
    (repeat' (first | (go_big_may; fail) | go_values | go_skip | go_guarded | go_step | go_upon | go_back | dsimp only))
    refine HD.out.mono ?_
    rintro e3 w3 ⟨vo, rfl, h3⟩
    have H3 := Lib.hid (H2.out.glue HST2.out h3)
    obtain ⟨oa, oc, rfl, _, _⟩ := own_shape h3.rowG
    obtain ⟨xa, xc, rfl, _, _⟩ := H2.out.drop.autRd.shape
    obtain ⟨ya, yc, rfl, _, _⟩ := H2.out.autRd.shape
    have HR := Lib.hid (HDR.out w3 H3.out.drop.drop.autRd H3.out.drop.autRd)
    have HST3 := Lib.hid ((RowG.stable tCh 2 (.slice oa D.length oc) D.length (D.flatMap chc)).both HST2.out)
    clear h3 H2 HD
    (repeat' (first | (go_big_may; fail) | go_values | go_skip | go_guarded | go_step | go_upon | go_back | dsimp only))
    refine HR.out.mono ?_
    rintro e4 w4 ⟨vr, rfl, h4⟩
    obtain ⟨ra, rc, rfl, _, _⟩ := own_shape h4.rowG
    have H4 := Lib.hid (H3.out.glue HST3.out h4)
    have HST4 := Lib.hid ((RowG.stable tRCh 2 (.slice ra F.length rc) F.length (F.flatMap rchc)).both HST3.out)
    have HW := Lib.hid (wakes_calls w4)
    clear h4 HR H3
    (repeat' (first | (go_big_may; fail) | go_values | go_skip | go_guarded | go_step | go_upon | go_back | dsimp only))
    refine HW.out.mono ?_
    rintro e5 w5 ⟨rfl, hb5⟩
    have H5 := Lib.hid (H4.out.mono HST4.out hb5)
    have hal := alike_calls (RdRow.of_own H5.out.drop.rowG) (RdRow.of_own H5.out.rowG)
    rw [HDE.out] at hal
    have HAL := Lib.hid hal
    clear hb5 HW H4 hal
    (repeat' (first | (go_big_may; fail) | go_values | go_skip | go_guarded | go_step | go_upon | go_back | dsimp only))
    refine HAL.out.mono ?_
    rintro e6 w6 ⟨rfl, hb6⟩
    have H6 := Lib.hid (H5.out.mono HST4.out hb6)
    clear hb6 HAL H5
    (repeat' (first | (go_big_may; fail) | go_values | go_skip | go_guarded | go_step | go_upon | go_back | dsimp only))
    refine (HSA.out w6 H6.out.below).mono ?_
    rintro e7 w7 ⟨v7, rfl, h7⟩
    have H7 := Lib.hid (H6.out.mono HST4.out h7.below)
    have he := Equal_calls h7.autRd H7.out.drop.drop.drop.autRd hlA hlA
    rw [decide_eq_true rfl] at he
    obtain ⟨a7, c7, rfl, _, _⟩ := h7.autRd.shape
    have HEQ := Lib.hid he
    clear h7 he H6
    (repeat' (first | (go_big_may; fail) | go_values | go_skip | go_guarded | go_step | go_upon | go_back | dsimp only))
    refine HEQ.out.mono ?_
    rintro e8 w8 ⟨rfl, hb8⟩
    have H8 := Lib.hid (H7.out.mono HST4.out hb8)
    clear hb8 HEQ H7
    (repeat' (first | (go_big_may; fail) | go_values | go_skip | go_guarded | go_step | go_upon | go_back | dsimp only))
    refine (HSB.out w8 H8.out.below).mono ?_
    rintro e9 w9 ⟨v9, rfl, h9⟩
    have H9 := Lib.hid (H8.out.mono HST4.out h9.below)
    have he := Equal_calls h9.autRd H9.out.drop.drop.autRd hlB hlB
    rw [decide_eq_true rfl] at he
    obtain ⟨a9, c9, rfl, _, _⟩ := h9.autRd.shape
    have HEQ := Lib.hid he
    clear h9 he H8
    (repeat' (first | (go_big_may; fail) | go_values | go_skip | go_guarded | go_step | go_upon | go_back | dsimp only))
    refine HEQ.out.mono ?_
    rintro e10 w10 ⟨rfl, hb10⟩
    have H10 := Lib.hid (H9.out.mono HST4.out hb10)
    clear hb10 HEQ H9
    (repeat' (first | (go_big_may; fail) | go_values | go_skip | go_guarded | go_step | go_upon | go_back | dsimp only))
    go_ret
    exact ⟨rfl, H10.out.below⟩
  · have hd := Diff_bad (HA.out.below H2.out.below) (HB.out.below H2.out.below) hlA hlB hE h0
    have HDR := Lib.hid (fun (w : World) (h1 : RdAut w vx A) (h2 : RdAut w vy B) => RDiff_bad h1 h2 hlA hlB hE h0)
    have HD := Lib.hid hd
    clear hd hE h0
    have hee : (E == E) = true := by simp
    (repeat' (first | (go_big_may; fail) | go_values | go_skip | go_guarded | go_step | go_upon | go_back | dsimp only))
    refine HD.out.mono ?_
    rintro e3 w3 ⟨rfl, hb3⟩
    have H3 := Lib.hid (H2.out.mono HST2.out hb3)
    obtain ⟨xa, xc, rfl, _, _⟩ := H2.out.drop.autRd.shape
    obtain ⟨ya, yc, rfl, _, _⟩ := H2.out.autRd.shape
    have HR := Lib.hid (HDR.out w3 H3.out.drop.autRd H3.out.autRd)
    clear hb3 H2 HD
    (repeat' (first | (go_big_may; fail) | go_values | go_skip | go_guarded | go_step | go_upon | go_back | dsimp only))
    refine HR.out.mono ?_
    rintro e4 w4 ⟨rfl, hb4⟩
    have H4 := Lib.hid (H3.out.mono HST2.out hb4)
    have HW := Lib.hid (wakes_calls w4)
    clear hb4 HR H3
    (repeat' (first | (go_big_may; fail) | go_values | go_skip | go_guarded | go_step | go_upon | go_back | dsimp only))
    refine HW.out.mono ?_
    rintro e5 w5 ⟨rfl, hb5⟩
    have H5 := Lib.hid (H4.out.mono HST2.out hb5)
    have hal := alike_calls (w := w5) (D := []) (E := []) (va := .slice none 0 0) (vb := .slice none 0 0) (RdRow.of_own (World.ownsRow_nil w5 0 tCh 2)) (RdRow.of_own (World.ownsRow_nil w5 0 tRCh 2))
    rw [decide_eq_true rfl] at hal
    have HAL := Lib.hid hal
    clear hb5 HW H4 hal
    (repeat' (first | (go_big_may; fail) | go_values | go_skip | go_guarded | go_step | go_upon | go_back | dsimp only))
    refine HAL.out.mono ?_
    rintro e6 w6 ⟨rfl, hb6⟩
    have H6 := Lib.hid (H5.out.mono HST2.out hb6)
    clear hb6 HAL H5
    (repeat' (first | (go_big_may; fail) | go_values | go_skip | go_guarded | go_step | go_upon | go_back | dsimp only))
    refine (HSA.out w6 H6.out.below).mono ?_
    rintro e7 w7 ⟨v7, rfl, h7⟩
    have H7 := Lib.hid (H6.out.mono HST2.out h7.below)
    have he := Equal_calls h7.autRd H7.out.drop.autRd hlA hlA
    rw [decide_eq_true rfl] at he
    obtain ⟨a7, c7, rfl, _, _⟩ := h7.autRd.shape
    have HEQ := Lib.hid he
    clear h7 he H6
    (repeat' (first | (go_big_may; fail) | go_values | go_skip | go_guarded | go_step | go_upon | go_back | dsimp only))
    refine HEQ.out.mono ?_
    rintro e8 w8 ⟨rfl, hb8⟩
    have H8 := Lib.hid (H7.out.mono HST2.out hb8)
    clear hb8 HEQ H7
    (repeat' (first | (go_big_may; fail) | go_values | go_skip | go_guarded | go_step | go_upon | go_back | dsimp only))
    refine (HSB.out w8 H8.out.below).mono ?_
    rintro e9 w9 ⟨v9, rfl, h9⟩
    have H9 := Lib.hid (H8.out.mono HST2.out h9.below)
    have he := Equal_calls h9.autRd H9.out.autRd hlB hlB
    rw [decide_eq_true rfl] at he
    obtain ⟨a9, c9, rfl, _, _⟩ := h9.autRd.shape
    have HEQ := Lib.hid he
    clear h9 he H8
    (repeat' (first | (go_big_may; fail) | go_values | go_skip | go_guarded | go_step | go_upon | go_back | dsimp only))
    refine HEQ.out.mono ?_
    rintro e10 w10 ⟨rfl, hb10⟩
    have H10 := Lib.hid (H9.out.mono HST2.out hb10)
    clear hb10 HEQ H9
    (repeat' (first | (go_big_may; fail) | go_values | go_skip | go_guarded | go_step | go_upon | go_back | dsimp only))
    go_ret
    exact ⟨rfl, H10.out.below⟩
end Go.Proofs.Ytcbdncjknpdnbaa

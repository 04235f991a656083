/- WalkFolds walked. -/
import Derived.Test.YthjkfiniafblbaaWkSame
import Derived.Test.YthjkfiniafblbaaWkEqual
import Derived.Test.YthjkfiniafblbaaMinMz
import Derived.Test.YthjkfiniafblbaaWkWakes
namespace Go.Proofs.Ythjkfiniafblbaa
open Go.RowKit

theorem minT_decF (s t : Trie) : decide (minT s = minT t) = decide (s = t) := decide_eq_decide.2 ⟨minT_inj, fun h => by rw [h]⟩
theorem At.jointF {W w w' : World} {Φ Ψ : Thing} (h : At W w Φ) (hs : Stable Φ) (k : At w w' Ψ) : At W w' (Both Ψ Φ) := by
  obtain ⟨hb, fp, h1, h2⟩ := k
  exact h.add hs hb h1 h2
set_option maxRecDepth 100000 in
set_option maxHeartbeats 6400000 in
theorem walkFolds_walk (W : World) (A : List Sta) (v0 : Value) (hA : RdAut W v0 A) (hl : A.length + edgesN A ≤ 1048576) (B : List Sta) (v1 : Value) (hB : RdAut W v1 B) (hl2 : B.length + edgesN B ≤ 1048576) :
    Calls Try.prog 10 #[v0, v1] W fun e W' => e = .returned (.bool true) ∧ Below W.heap.size W W' := by
  have HW := Lib.hid (wakes_calls W)
  obtain ⟨aa, ac, hva, _, hac⟩ := hA.shape
  have HA := Lib.hid hA
  have HB := Lib.hid hB
  subst hva
  clear hA hB
  go_enter Try.func10, Try.ntmps10
  (repeat' (first | (go_big_may; fail) | go_values | go_skip | go_guarded | go_step | go_upon | go_back | dsimp only))
  refine HW.out.mono ?_
  rintro e1 w1 ⟨rfl, hb1⟩
  have HB1 := Lib.hid hb1
  have HRF := Lib.hid (ref_calls (HA.out.below hb1) hl)
  clear hb1 HW
  (repeat' (first | (go_big_may; fail) | go_values | go_skip | go_guarded | go_step | go_upon | go_back | dsimp only))
  refine HRF.out.mono ?_
  rintro e2 w2 ⟨vx, rfl, h2⟩
  have HB2 := Lib.hid (HB1.out.trans (h2.below.mono HB1.out.size))
  have HS := Lib.hid (RShape_calls h2.autRd hl)
  clear h2 HRF
  (repeat' (first | (go_big_may; fail) | go_values | go_skip | go_guarded | go_step | go_upon | go_back | dsimp only))
  refine HS.out.mono ?_
  rintro e4 w4 ⟨rfl, hb4⟩
  have HB4 := Lib.hid (HB2.out.trans (hb4.mono HB2.out.size))
  clear hb4 HS
  cases hs : shapeB A with
  | false =>
    rw [shapeV_bad hs]
    clear hs
    (repeat' (first | (go_big_may; fail) | go_values | go_skip | go_guarded | go_step | go_upon | go_back | dsimp only))
    go_ret
    exact ⟨rfl, HB4.out⟩
  | true =>
    rw [shapeV_ok hs]
    have HRF := Lib.hid (ref_calls (HB.out.below HB4.out) hl2)
    (repeat' (first | (go_big_may; fail) | go_values | go_skip | go_guarded | go_step | go_upon | go_back | dsimp only))
    refine HRF.out.mono ?_
    rintro e3 w3 ⟨vy, rfl, h3⟩
    have HB3 := Lib.hid (HB4.out.trans (h3.below.mono HB4.out.size))
    have HS := Lib.hid (RShape_calls h3.autRd hl2)
    clear h3 HRF
    (repeat' (first | (go_big_may; fail) | go_values | go_skip | go_guarded | go_step | go_upon | go_back | dsimp only))
    refine HS.out.mono ?_
    rintro e5 w5 ⟨rfl, hb5⟩
    have HB5 := Lib.hid (HB3.out.trans (hb5.mono HB3.out.size))
    clear hb5 HS
    cases hs2 : shapeB B with
    | false =>
      rw [shapeV_bad hs2]
      clear hs hs2
      (repeat' (first | (go_big_may; fail) | go_values | go_skip | go_guarded | go_step | go_upon | go_back | dsimp only))
      go_ret
      exact ⟨rfl, HB5.out⟩
    | true =>
      rw [shapeV_ok hs2]
      obtain ⟨s, hsT, hgs, _⟩ := (shaped_of hs).tr 0 (shaped_of hs).pos
      obtain ⟨t, htT, _, _⟩ := (shaped_of hs2).tr 0 (shaped_of hs2).pos
      have hle := minT_le hsT
      have hm1 : (minT s).length + edgesN (minT s) ≤ 1048576 := by have := minT_edges hsT; omega
      have hm2 : (minT t).length + edgesN (minT t) ≤ 1048576 := by have := minT_le htT; have := minT_edges htT; omega
      have hsm := minT_shape hgs (by omega)
      have HSM := Lib.hid (fun (w : World) (va vb : Value) (ha : RdAut w va A) (hb : RdAut w vb B) => Same_calls ha hb hl hl2 hs hs2 hsT htT)
      have HSX := Lib.hid (fun (w : World) (va vb : Value) (ha : RdAut w va A) (hb : RdAut w vb (minT s)) => by
        have h := Same_calls ha hb hl hm1 hs hsm hsT (minT_unf s)
        rw [decide_eq_true rfl] at h
        exact h)
      have HMA := Lib.hid (fun (w : World) (v : Value) (h : RdAut w v A) => Minimize_calls h hl hs hsT)
      have HMB := Lib.hid (fun (w : World) (v : Value) (h : RdAut w v B) => Minimize_calls h hl2 hs2 htT)
      have HMX := Lib.hid (fun (w : World) (v : Value) (h : RdAut w v (minT s)) => Minimize_calls h hm1 hsm (minT_unf s))
      have HSH := Lib.hid (fun (w : World) (v : Value) (h : RdAut w v (minT s)) => by
        have h := Shape_calls h hm1
        rw [shapeV_ok hsm] at h
        exact h)
      have HEX := Lib.hid (fun (w : World) (va vb : Value) (ha : RdAut w va (minT s)) (hb : RdAut w vb (minT s)) => by
        have h := Equal_calls ha hb hm1 hm1
        rw [decide_eq_true rfl] at h
        exact h)
      have HEQ := Lib.hid (fun (w : World) (va vb : Value) (ha : RdAut w va (minT s)) (hb : RdAut w vb (minT t)) => by
        have h := Equal_calls ha hb hm1 hm2
        rw [minT_decF] at h
        exact h)
      clear hs hs2 hsT htT hgs hsm
      generalize decide (s = t) = r at *
      generalize minT s = M1 at *
      generalize minT t = M2 at *
      have hrr : (r == r) = true := by simp
      have hleI : ¬ (A.length : Int) < (M1.length : Int) := by omega
      have HTW := Lib.hid (twin_calls (HA.out.below HB5.out) hl)
      (repeat' (first | (go_big_may; fail) | go_values | go_skip | go_guarded | go_step | go_upon | go_back | dsimp only))
      refine HTW.out.mono ?_
      rintro e6 w6 ⟨v6, rfl, h6⟩
      have HB6 := Lib.hid (HB5.out.trans (h6.below.mono HB5.out.size))
      have HMI := Lib.hid (HMA.out w6 v6 h6.autRd)
      clear h6
      (repeat' (first | (go_big_may; fail) | go_values | go_skip | go_guarded | go_step | go_upon | go_back | dsimp only))
      refine HMI.out.mono ?_
      rintro e7 w7 ⟨vX, rfl, h7⟩
      have H7 := Lib.hid ((At.nought HB6.out).jointF Stable.nought h7.keep)
      have hsX := (AutG.stable tAS tAE vX M1).both Stable.nought
      have HTW := Lib.hid (twin_calls (HB.out.below H7.out.below) hl2)
      clear h7 HMI
      (repeat' (first | (go_big_may; fail) | go_values | go_skip | go_guarded | go_step | go_upon | go_back | dsimp only))
      refine HTW.out.mono ?_
      rintro e8 w8 ⟨v8, rfl, h8⟩
      have H8 := Lib.hid (H7.out.mono hsX h8.below)
      have HMI := Lib.hid (HMB.out w8 v8 h8.autRd)
      clear h8 H7
      (repeat' (first | (go_big_may; fail) | go_values | go_skip | go_guarded | go_step | go_upon | go_back | dsimp only))
      refine HMI.out.mono ?_
      rintro e9 w9 ⟨vY, rfl, h9⟩
      have H9 := Lib.hid (H8.out.jointF hsX h9.keep)
      have hsY := (AutG.stable tAS tAE vY M2).both hsX
      have HS := Lib.hid (HSH.out w9 vX H9.out.drop.autRd)
      obtain ⟨xa, xc, hvx, _, _⟩ := H9.out.drop.autRd.shape
      subst hvx
      clear h9 H8 HMI
      (repeat' (first | (go_big_may; fail) | go_values | go_skip | go_guarded | go_step | go_upon | go_back | dsimp only))
      refine HS.out.mono ?_
      rintro e10 w10 ⟨rfl, hb10⟩
      have H10 := Lib.hid (H9.out.mono hsY hb10)
      have HTW := Lib.hid (twin_calls (HA.out.below H10.out.below) hl)
      clear hb10 H9 HS
      (repeat' (first | (go_big_may; fail) | go_values | go_skip | go_guarded | go_step | go_upon | go_back | dsimp only))
      refine HTW.out.mono ?_
      rintro e11 w11 ⟨v11, rfl, h11⟩
      have H11 := Lib.hid (H10.out.mono hsY h11.below)
      have HS := Lib.hid (HSX.out w11 v11 _ h11.autRd H11.out.drop.autRd)
      clear h11 H10 HTW
      (repeat' (first | (go_big_may; fail) | go_values | go_skip | go_guarded | go_step | go_upon | go_back | dsimp only))
      refine HS.out.mono ?_
      rintro e12 w12 ⟨rfl, hb12⟩
      have H12 := Lib.hid (H11.out.mono hsY hb12)
      have HMI := Lib.hid (HMX.out w12 _ H12.out.drop.autRd)
      clear hb12 H11 HS
      (repeat' (first | (go_big_may; fail) | go_values | go_skip | go_guarded | go_step | go_upon | go_back | dsimp only))
      refine HMI.out.mono ?_
      rintro e13 w13 ⟨vZ, rfl, h13⟩
      have H13 := Lib.hid (H12.out.jointF hsY h13.keep)
      have hsZ := (AutG.stable tAS tAE vZ M1).both hsY
      have HRF := Lib.hid (ref_calls H13.out.autRd hm1)
      clear h13 H12 HMI
      (repeat' (first | (go_big_may; fail) | go_values | go_skip | go_guarded | go_step | go_upon | go_back | dsimp only))
      refine HRF.out.mono ?_
      rintro e14 w14 ⟨v14, rfl, h14⟩
      have H14 := Lib.hid (H13.out.jointF hsZ h14.keep)
      have hs14 := (AutG.stable tRS tRE v14 M1).both hsZ
      have HRF := Lib.hid (ref_calls H14.out.drop.drop.drop.autRd hm1)
      clear h14 H13
      (repeat' (first | (go_big_may; fail) | go_values | go_skip | go_guarded | go_step | go_upon | go_back | dsimp only))
      refine HRF.out.mono ?_
      rintro e15 w15 ⟨v15, rfl, h15⟩
      have H15 := Lib.hid (H14.out.mono hs14 h15.below)
      have HS := Lib.hid (HEX.out w15 v14 v15 H15.out.autRd h15.autRd)
      clear h15 H14 HRF
      (repeat' (first | (go_big_may; fail) | go_values | go_skip | go_guarded | go_step | go_upon | go_back | dsimp only))
      refine HS.out.mono ?_
      rintro e16 w16 ⟨rfl, hb16⟩
      have H16 := Lib.hid ((H15.out.mono hs14 hb16).drop.drop)
      have HTW := Lib.hid (twin_calls (HA.out.below H16.out.below) hl)
      clear hb16 H15 HS
      (repeat' (first | (go_big_may; fail) | go_values | go_skip | go_guarded | go_step | go_upon | go_back | dsimp only))
      refine HTW.out.mono ?_
      rintro e17 w17 ⟨v17, rfl, h17⟩
      have H17 := Lib.hid (H16.out.jointF hsY h17.keep)
      have hs17 := (AutG.stable tPS tPE v17 A).both hsY
      have HTW := Lib.hid (twin_calls (HB.out.below H17.out.below) hl2)
      clear h17 H16
      (repeat' (first | (go_big_may; fail) | go_values | go_skip | go_guarded | go_step | go_upon | go_back | dsimp only))
      refine HTW.out.mono ?_
      rintro e18 w18 ⟨v18, rfl, h18⟩
      have H18 := Lib.hid (H17.out.mono hs17 h18.below)
      have HS := Lib.hid (HSM.out w18 v17 v18 H18.out.autRd h18.autRd)
      clear h18 H17 HTW
      (repeat' (first | (go_big_may; fail) | go_values | go_skip | go_guarded | go_step | go_upon | go_back | dsimp only))
      refine HS.out.mono ?_
      rintro e19 w19 ⟨rfl, hb19⟩
      have H19 := Lib.hid ((H18.out.mono hs17 hb19).drop)
      have HRF := Lib.hid (ref_calls H19.out.drop.autRd hm1)
      clear hb19 H18 HS
      (repeat' (first | (go_big_may; fail) | go_values | go_skip | go_guarded | go_step | go_upon | go_back | dsimp only))
      refine HRF.out.mono ?_
      rintro e20 w20 ⟨v20, rfl, h20⟩
      have H20 := Lib.hid (H19.out.jointF hsY h20.keep)
      have hs20 := (AutG.stable tRS tRE v20 M1).both hsY
      have HRF := Lib.hid (ref_calls H20.out.drop.autRd hm2)
      clear h20 H19
      (repeat' (first | (go_big_may; fail) | go_values | go_skip | go_guarded | go_step | go_upon | go_back | dsimp only))
      refine HRF.out.mono ?_
      rintro e21 w21 ⟨v21, rfl, h21⟩
      have H21 := Lib.hid (H20.out.mono hs20 h21.below)
      have HS := Lib.hid (HEQ.out w21 v20 v21 H21.out.autRd h21.autRd)
      clear h21 H20 HRF
      (repeat' (first | (go_big_may; fail) | go_values | go_skip | go_guarded | go_step | go_upon | go_back | dsimp only))
      refine HS.out.mono ?_
      rintro e22 w22 ⟨rfl, hb22⟩
      have HB22 := Lib.hid (H21.out.below.trans (hb22.mono H21.out.below.size))
      clear hb22 H21 HS
      (repeat' (first | (go_big_may; fail) | go_values | go_skip | go_guarded | go_step | go_upon | go_back | dsimp only))
      go_ret
      exact ⟨rfl, HB22.out⟩
end Go.Proofs.Ythjkfiniafblbaa

/- StreamsHalves walked. -/
import Derived.Test.YtbmfaffnbjmipaaStMk
import Derived.Test.YtbmfaffnbjmipaaOpen
import Derived.Deep.RegionHeld3
namespace Go.Proofs.Ytbmfaffnbjmipaa
open Go.RowKit

theorem minus_nb (z : List UInt8) (A : List (List UInt8)) : minusL A (notBelow z A) = A.filter fun x => Op.bytesLess x z := by
  unfold minusL
  apply List.filter_congr
  intro x hx
  cases h : Op.bytesLess x z <;> simp [notBelow, h, hx]
theorem halves_len (z : List UInt8) (A : List (List UInt8)) : (notBelow z A).length + (minusL A (notBelow z A)).length = A.length := by
  rw [minus_nb]
  induction A with
  | nil => rfl
  | cons x A ih =>
    cases h : Op.bytesLess x z with
    | true => simp only [notBelow, List.filter_cons, h, Bool.not_true, Bool.false_eq_true, if_false, if_true, List.length_cons] at ih ⊢; omega
    | false => simp only [notBelow, List.filter_cons, h, Bool.not_false, Bool.false_eq_true, if_false, if_true, List.length_cons] at ih ⊢; omega
theorem nb_rises {z : List UInt8} {A : List (List UInt8)} (h : RisesL A) : RisesL (notBelow z A) := List.Pairwise.filter _ h
theorem nb_mem {z x : List UInt8} {A : List (List UInt8)} : x ∈ notBelow z A ↔ x ∈ A ∧ Op.bytesLess x z = false := by simp [notBelow]
theorem nb_nil {z : List UInt8} {A : List (List UInt8)} (h : notBelow z A = []) : decide (z ∈ A) = false := by
  rw [decide_eq_false_iff_not]
  intro hz
  have : z ∈ notBelow z A := nb_mem.2 ⟨hz, bl_irrefl z⟩
  rw [h] at this; cases this
theorem nb_cons {z x : List UInt8} {A U : List (List UInt8)} (hA : RisesL A) (h : notBelow z A = x :: U) : decide (z ∈ A) = (x == z) := by
  have hx : x ∈ notBelow z A := by rw [h]; simp
  by_cases e : x = z
  · subst e
    simp [(nb_mem.1 hx).1]
  · rw [beq_eq_false_iff_ne.2 e, decide_eq_false_iff_not]
    intro hz
    have hz2 : z ∈ notBelow z A := nb_mem.2 ⟨hz, bl_irrefl z⟩
    have hr := nb_rises (z := z) hA
    rw [h] at hz2 hr
    rcases List.mem_cons.1 hz2 with h1 | h1
    · exact e h1.symm
    · have := (List.pairwise_cons.1 hr).1 z h1
      rw [LtW, (nb_mem.1 hx).2] at this
      cases this
set_option maxRecDepth 100000 in
set_option maxHeartbeats 4000000 in
theorem streamsHalves_walk (W : World) (ss : List (List UInt8)) (v : Value) (rd : RdRow W v ss.length 1 (strs ss)) (hm : ss.length + sumLen ss ≤ 1048576) (zb : ByteArray) (_ : zb.size ≤ 1048576) :
    Calls Try.prog 5 #[v, .string zb] W fun e w' => e = .returned (.bool true) ∧ Below W.heap.size W w' := by
  obtain ⟨z, rfl⟩ : ∃ z : List UInt8, zb = ⟨z.toArray⟩ := ⟨zb.data.toList, by simp⟩
  obtain ⟨a, cap, rfl, hc1, hc2⟩ := rd.shape
  unfold maxLen at hc2
  have hWk := wakes8_calls W
  have RD := Lib.hid rd
  clear rd
  go_enter Try.func5, Try.ntmps5
  (repeat' (first | (go_big_may; fail) | go_values | go_skip | go_guarded | go_step | go_upon | go_back | dsimp only))
  refine hWk.mono ?_
  rintro e w1 ⟨rfl, hb1⟩
  have ht := twin8_calls ss _ w1 (RD.out.below hb1) (by omega)
  have h1 := At.nought hb1
  have HT := Lib.hid ht
  have H1 := Lib.hid h1
  clear ht h1 hb1 hWk RD
  (repeat' (first | (go_big_may; fail) | go_values | go_skip | go_guarded | go_step | go_upon | go_back | dsimp only))
  refine HT.out.mono ?_
  rintro e w2 ⟨v2, rfl, ho2, hb2⟩
  have h2 := H1.out.newRowG Stable.nought hb2 ho2
  have hR0 := (RowG.stable 9 1 v2 ss.length (strs ss)).both Stable.nought
  have HO := Lib.hid (SOf_at h2 hR0 (RdRow.of_own h2.rowG) (by omega))
  generalize Both (RowG 9 1 v2 ss.length (strs ss)) Nought = R0 at *
  clear h2 ho2 hb2 HT H1
  (repeat' (first | (go_big_may; fail) | go_values | go_skip | go_guarded | go_step | go_upon | go_back | dsimp only))
  refine HO.out.mono ?_
  rintro e w3 ⟨Φ, u, hΦ, rfl, hs, h3⟩
  have hA : RisesL (ofL ss) := ofL_rises ss
  have hlen : (ofL ss).length ≤ ss.length := ofL_len ss
  generalize ofL ss = A at *
  obtain ⟨hst, h4⟩ := h3.keepStr hΦ hR0 hs.one
  have hR1 := (CellT.stable w3.heap.size #[u] tStr).both hR0
  have c4 := (h4.drop.cellF (o := 0) (u := u) rfl).1
  have HF := Lib.hid (SFrom_at hs hΦ hR1 h4 z)
  have HS := Lib.hid hs
  have HA := Lib.hid hA
  clear h3 h4 hs HO hA
  (repeat' (first | (go_big_may; fail) | go_values | go_skip | go_guarded | go_step | go_upon | go_back | dsimp only))
  refine HF.out.mono ?_
  rintro e w5 ⟨N1, u1, hN1, rfl, hs1, h5⟩
  have hΦ1 := hN1.both hΦ
  have HS' := Lib.hid (HS.out.frame hΦ hN1)
  generalize w3.heap.size = ks at *
  clear HF hst c4 HS
  obtain ⟨hst1, h6⟩ := h5.keepStr hΦ1 hR1 hs1.one
  have hR2 := (CellT.stable w5.heap.size #[u1] tStr).both hR1
  have c6 := (h6.drop.cellF (o := 0) (u := u1) rfl).1
  have c6b := (h6.drop.drop.cellF (o := 0) (u := u) rfl).1
  have hlU : (notBelow z A).length ≤ A.length := List.length_filter_le _ _
  have HM := Lib.hid (Minus_at HS'.out hs1 hΦ1 hR2 h6 HA.out (nb_rises HA.out) (by omega))
  have HS1 := Lib.hid hs1
  clear h5 h6 hs1
  (repeat' (first | (go_big_may; fail) | go_values | go_skip | go_guarded | go_step | go_upon | go_back | dsimp only))
  refine HM.out.mono ?_
  rintro e w7 ⟨N2, u2, hN2, rfl, hs2, h7⟩
  have hΦ2 := hN2.both hΦ1
  have HS0 := Lib.hid (HS'.out.frame hΦ1 hN2)
  have HSU := Lib.hid (HS1.out.frame hΦ1 hN2)
  clear HS1 HS'
  generalize Both N2 (Both N1 Φ) = Φ2 at *
  have hlL : (minusL A (notBelow z A)).length ≤ A.length := List.length_filter_le _ _
  have hsum := halves_len z A
  have hLw : ∀ x ∈ minusL A (notBelow z A), Op.bytesLess x z = true := fun x hx => by rw [minus_nb] at hx; exact (List.mem_filter.1 hx).2
  have hUw : ∀ x ∈ notBelow z A, Op.bytesLess x z = false := fun x hx => (nb_mem.1 hx).2
  have hcase : (notBelow z A = [] ∧ decide (z ∈ A) = false) ∨ ∃ x U, notBelow z A = x :: U ∧ decide (z ∈ A) = (x == z) := by
    cases hc : notBelow z A with
    | nil => exact .inl ⟨rfl, nb_nil hc⟩
    | cons x U => exact .inr ⟨x, U, rfl, nb_cons HA.out hc⟩
  generalize w5.heap.size = ku at *
  generalize minusL A (notBelow z A) = Lo at *
  generalize notBelow z A = U at *
  clear HM hst1 c6 c6b
  obtain ⟨hst2, h8⟩ := h7.keepStr hΦ2 hR2 hs2.one
  have hR3 := (CellT.stable w7.heap.size #[u2] tStr).both hR2
  have c8 := (h8.drop.cellF (o := 0) (u := u2) rfl).1
  have c8b := (h8.drop.drop.cellF (o := 0) (u := u1) rfl).1
  have HL1 := Lib.hid (List_all HSU.out hΦ2 hR3 h8 (by omega) (m := 1099511627776) (by omega) (by omega))
  have HSL := Lib.hid hs2
  have HLW := Lib.hid hLw
  have HUW := Lib.hid hUw
  have HCS := Lib.hid hcase
  have HSM := Lib.hid hsum
  clear h7 h8 hs2 hLw hUw hcase hsum
  (repeat' (first | (go_big_may; fail) | go_values | go_skip | go_guarded | go_step | go_upon | go_back | dsimp only))
  refine HL1.out.mono ?_
  rintro e w9 ⟨r1, rfl, h9⟩
  generalize w7.heap.size = kl at *
  clear hst2 c8 c8b HL1
  obtain ⟨a1, p1, hr1, _, hp1⟩ := own_shape h9.rowG
  subst hr1
  unfold maxLen at hp1
  have HG := Lib.hid (RdRow.of_own h9.rowG)
  have H9 := Lib.hid h9.drop
  clear h9
  (repeat' (first | (go_big_may; fail) | go_values | go_skip | go_guarded | go_step | go_upon | go_back | dsimp only))
  go_loopw [27] (fun i wr => ∃ k : Nat, i = .int .i64 k ∧ k ≤ U.length ∧ Below w9.heap.size w9 wr) (fun i _ => U.length - (intOf i).toNat)
  case atStart => exact ⟨0, rfl, Nat.zero_le _, Below.refl _ _⟩
  case round =>
    obtain ⟨k, rfl, hk, hbel⟩ := hrel
    by_cases hlt : k < U.length
    · obtain ⟨x, hx⟩ : ∃ x, U[k]? = some x := ⟨_, List.getElem?_eq_getElem hlt⟩
      obtain ⟨b, off, cp, hsl, hcell⟩ := (HG.out.below hbel).str hx
      cases hsl
      have hxw := HUW.out x (List.mem_of_getElem? hx)
      have hi0 : (0 : Int) ≤ k := by omega
      have hi1 : (k : Int) < U.length := by omega
      have HB := Lib.hid hbel
      clear hx hbel
      (repeat' (first | (go_big_may; fail) | go_values | go_skip | go_guarded | go_step | go_upon | go_back | dsimp only))
      go_roundw
      case rel => exact ⟨k + 1, by go_num, by omega, HB.out⟩
      case measure => simp [intOf] <;> omega
    · have h10 := H9.out.mono (hΦ2.both hR3) hbel
      have c10 := (h10.drop.cellF (o := 0) (u := u2) rfl).1
      have HL2 := Lib.hid (List_all HSL.out hΦ2 hR3 h10 (by omega) (m := 1099511627776) (by omega) (by omega))
      clear h10 hbel
      (repeat' (first | (go_big_may; fail) | go_values | go_skip | go_guarded | go_step | go_upon | go_back | dsimp only))
      refine HL2.out.mono ?_
      rintro e w11 ⟨r2, rfl, h11⟩
      clear c10 HL2
      obtain ⟨a2, p2, hr2, _, hp2⟩ := own_shape h11.rowG
      subst hr2
      unfold maxLen at hp2
      have HG2 := Lib.hid (RdRow.of_own h11.rowG)
      have H11 := Lib.hid h11.drop
      clear h11
      (repeat' (first | (go_big_may; fail) | go_values | go_skip | go_guarded | go_step | go_upon | go_back | dsimp only))
      go_loopw [38] (fun i wr => ∃ k : Nat, i = .int .i64 k ∧ k ≤ Lo.length ∧ Below w11.heap.size w11 wr) (fun i _ => Lo.length - (intOf i).toNat)
      case atStart => exact ⟨0, rfl, Nat.zero_le _, Below.refl _ _⟩
      case round =>
        obtain ⟨k2, rfl, hk2, hbel2⟩ := hrel
        by_cases hlt2 : k2 < Lo.length
        · obtain ⟨x, hx⟩ : ∃ x, Lo[k2]? = some x := ⟨_, List.getElem?_eq_getElem hlt2⟩
          obtain ⟨b, off, cp, hsl, hcell⟩ := (HG2.out.below hbel2).str hx
          cases hsl
          have hxw := HLW.out x (List.mem_of_getElem? hx)
          have hi0 : (0 : Int) ≤ k2 := by omega
          have hi1 : (k2 : Int) < Lo.length := by omega
          have HB := Lib.hid hbel2
          clear hx hbel2
          (repeat' (first | (go_big_may; fail) | go_values | go_skip | go_guarded | go_step | go_upon | go_back | dsimp only))
          go_roundw
          case rel => exact ⟨k2 + 1, by go_num, by omega, HB.out⟩
          case measure => simp [intOf] <;> omega
        · have h12 := H11.out.mono (hΦ2.both hR3) hbel2
          have c12 := (h12.drop.drop.cellF (o := 0) (u := u1) rfl).1
          have HL3 := Lib.hid (List_at HSU.out hΦ2 hR3 h12 (by omega) (m := 1) (by omega) (by omega))
          clear h12 hbel2
          (repeat' (first | (go_big_may; fail) | go_values | go_skip | go_guarded | go_step | go_upon | go_back | dsimp only))
          refine HL3.out.mono ?_
          rintro e w13 ⟨r3, rfl, h13⟩
          clear c12 HL3
          have h14 := h13.swap
          clear h13
          have hwr : IntKind.i64.wrap ((U.length : Int) + Lo.length) = (A.length : Int) := by rw [IntKind.wrap_i64, ← HSM.out]; omega
          have hee : ((A.length : Int) == A.length) = true := by simp
          rcases HCS.out with ⟨hU, hdec⟩ | ⟨x, U', hU, hdec⟩
          · rw [hU] at h14
            clear hU
            have h14 : At W w13 (Both Φ2 (Both (RowG tTx 1 r3 0 (strs ([] : List (List UInt8)))) (Both (CellT kl #[u2] tStr) (Both (CellT ku #[u1] tStr) (Both (CellT ks #[u] tStr) R0))))) := h14
            obtain ⟨ao, p3, hr3, _, hp3⟩ := own_shape h14.drop.rowG
            subst hr3
            unfold maxLen at hp3
            have hR4 := (RowG.stable tTx 1 (.slice ao 0 p3) 0 (strs ([] : List (List UInt8)))).both hR3
            have HCa := Lib.hid (fun wx (h : At W wx (Both Φ2 (Both (RowG tTx 1 (.slice ao 0 p3) 0 (strs ([] : List (List UInt8)))) (Both (CellT kl #[u2] tStr) (Both (CellT ku #[u1] tStr) (Both (CellT ks #[u] tStr) R0)))))) => Count_at HS0.out hΦ2 hR4 h (by omega))
            have HCb := Lib.hid (fun wx (h : At W wx (Both Φ2 (Both (RowG tTx 1 (.slice ao 0 p3) 0 (strs ([] : List (List UInt8)))) (Both (CellT kl #[u2] tStr) (Both (CellT ku #[u1] tStr) (Both (CellT ks #[u] tStr) R0)))))) => Count_at HSU.out hΦ2 hR4 h (by omega))
            have HCc := Lib.hid (fun wx (h : At W wx (Both Φ2 (Both (RowG tTx 1 (.slice ao 0 p3) 0 (strs ([] : List (List UInt8)))) (Both (CellT kl #[u2] tStr) (Both (CellT ku #[u1] tStr) (Both (CellT ks #[u] tStr) R0)))))) => Count_at HSL.out hΦ2 hR4 h (by omega))
            have HK : ∀ wx, At W wx (Both Φ2 (Both (RowG tTx 1 (.slice ao 0 p3) 0 (strs ([] : List (List UInt8)))) (Both (CellT kl #[u2] tStr) (Both (CellT ku #[u1] tStr) (Both (CellT ks #[u] tStr) R0))))) → (wx.cell? ⟨ks, 0, none⟩ = some u ∧ wx.cell? ⟨ku, 0, none⟩ = some u1 ∧ wx.cell? ⟨kl, 0, none⟩ = some u2 ∧ At W wx (Both Φ2 (Both (RowG tTx 1 (.slice ao 0 p3) 0 (strs ([] : List (List UInt8)))) (Both (CellT kl #[u2] tStr) (Both (CellT ku #[u1] tStr) (Both (CellT ks #[u] tStr) R0)))))) := fun wx h =>
              ⟨(h.drop.drop.drop.drop.cellF (o := 0) (u := u) rfl).1, (h.drop.drop.drop.cellF (o := 0) (u := u1) rfl).1, (h.drop.drop.cellF (o := 0) (u := u2) rfl).1, h⟩
            have HKd : ∀ wx, At W wx (Both Φ2 (Both (RowG tTx 1 (.slice ao 0 p3) 0 (strs ([] : List (List UInt8)))) (Both (CellT kl #[u2] tStr) (Both (CellT ku #[u1] tStr) (Both (CellT ks #[u] tStr) R0))))) → (wx.drew.cell? ⟨ks, 0, none⟩ = some u ∧ wx.drew.cell? ⟨ku, 0, none⟩ = some u1 ∧ wx.drew.cell? ⟨kl, 0, none⟩ = some u2 ∧ At W wx.drew (Both Φ2 (Both (RowG tTx 1 (.slice ao 0 p3) 0 (strs ([] : List (List UInt8)))) (Both (CellT kl #[u2] tStr) (Both (CellT ku #[u1] tStr) (Both (CellT ks #[u] tStr) R0)))))) := fun wx h => HK _ (h.drew (hΦ2.both hR4))
            have hhs : ∀ wx, At W wx (Both Φ2 (Both (RowG tTx 1 (.slice ao 0 p3) 0 (strs ([] : List (List UInt8)))) (Both (CellT kl #[u2] tStr) (Both (CellT ku #[u1] tStr) (Both (CellT ks #[u] tStr) R0))))) → Calls Try.prog 16 #[.agg #[u], .string ⟨z.toArray⟩] wx fun e w' => e = .returned (.bool false) ∧ At W w' (Both Φ2 (Both (RowG tTx 1 (.slice ao 0 p3) 0 (strs ([] : List (List UInt8)))) (Both (CellT kl #[u2] tStr) (Both (CellT ku #[u1] tStr) (Both (CellT ks #[u] tStr) R0))))) := fun wx h => by
              have := Has_at HS0.out hΦ2 hR4 h HA.out z
              rw [hdec] at this
              exact this
            have HHs := Lib.hid hhs
            have H14 := Lib.hid (HK _ h14)
            have HK1 := Lib.hid HK
            have HK2 := Lib.hid HKd
            have HP := Lib.hid (fun (wx : World) (h : wx.cell? ⟨ks, 0, none⟩ = some u ∧ wx.cell? ⟨ku, 0, none⟩ = some u1 ∧ wx.cell? ⟨kl, 0, none⟩ = some u2 ∧ At W wx (Both Φ2 (Both (RowG tTx 1 (.slice ao 0 p3) 0 (strs ([] : List (List UInt8)))) (Both (CellT kl #[u2] tStr) (Both (CellT ku #[u1] tStr) (Both (CellT ks #[u] tStr) R0)))))) => h.2.2.2)
            obtain ⟨q1, q2, q3, q4⟩ := HK _ h14
            clear hhs HK HKd h14 hdec
            (repeat' (first | (go_big_may; fail) | go_values | go_skip | go_guarded | go_step | go_upon | go_back | dsimp only))
            refine wp_region_held_drew (S := fun wx => wx.cell? ⟨ks, 0, none⟩ = some u ∧ wx.cell? ⟨ku, 0, none⟩ = some u1 ∧ wx.cell? ⟨kl, 0, none⟩ = some u2 ∧ At W wx (Both Φ2 (Both (RowG tTx 1 (.slice ao 0 p3) 0 (strs ([] : List (List UInt8)))) (Both (CellT kl #[u2] tStr) (Both (CellT ku #[u1] tStr) (Both (CellT ks #[u] tStr) R0)))))) (by kernel_rfl) ?hst (fun hHeld => ?_)
            case hst => exact HK2.out _ (HP.out _ H14.out)
            simp only [List.size_toArray, List.length_cons, List.length_nil, Nat.reduceAdd, Array.replicate_succ, Array.replicate_zero, List.push_toArray, List.nil_append, List.cons_append]
            (refine wpAnyH_take (i := 0) (v := ?_) rfl (by kernel_rfl) (by kernel_rfl) (by kernel_rfl) (fun _ _ _ h => h) (Or.inl ⟨by rfl, ?_⟩) (by assumption) ?_; rotate_left; (next => (intro w hSw; (try dsimp only at hSw); go_simp; (try with_reducible rfl))); (try simp only [List.getElem_toArray, List.getElem_cons_zero, List.getElem_cons_succ, Act.put, List.setIfInBounds_toArray, List.set_cons_zero, List.set_cons_succ]))
            (refine wpAnyH_take (i := 2) (v := ?_) rfl (by kernel_rfl) (by kernel_rfl) (by kernel_rfl) (fun _ _ _ h => h) (Or.inl ⟨by rfl, ?_⟩) (by assumption) ?_; rotate_left; (next => (intro w hSw; (try dsimp only at hSw); go_simp; (try with_reducible rfl))); (try simp only [List.getElem_toArray, List.getElem_cons_zero, List.getElem_cons_succ, Act.put, List.setIfInBounds_toArray, List.set_cons_zero, List.set_cons_succ]))
            (refine wpAnyH_take (i := 5) (v := ?_) rfl (by kernel_rfl) (by kernel_rfl) (by kernel_rfl) (fun _ _ _ h => h) (Or.inl ⟨by rfl, ?_⟩) (by assumption) ?_; rotate_left; (next => (intro w hSw; (try dsimp only at hSw); go_simp; (try with_reducible rfl))); (try simp only [List.getElem_toArray, List.getElem_cons_zero, List.getElem_cons_succ, Act.put, List.setIfInBounds_toArray, List.set_cons_zero, List.set_cons_succ]))
            (refine wpAnyH_ready (rs := [1]) (by kernel_rfl) (by simp) ?_; refine AllReadyH.cons rfl (fun K hK => ?_) AllReadyH.nil; go_simp; (refine (HCb.out _ (by first | assumption | exact HP.out _ (by assumption))).mono ?_; rintro e w5 ⟨rfl, hb5⟩); (try dsimp only); refine hK.out _ _ ?_ (fun hHeld => ?_); (next => ((try dsimp only); first | assumption | exact HK1.out _ (by assumption) | exact HK2.out _ (by assumption))); clear hK K; (try simp only [List.getElem_toArray, List.getElem_cons_zero, List.getElem_cons_succ, Act.put, List.setIfInBounds_toArray, List.set_cons_zero, List.set_cons_succ]))
            (refine wpAnyH_ready (rs := [3]) (by kernel_rfl) (by simp) ?_; refine AllReadyH.cons rfl (fun K hK => ?_) AllReadyH.nil; go_simp; (refine (HCc.out _ (by first | assumption | exact HP.out _ (by assumption))).mono ?_; rintro e w5 ⟨rfl, hb5⟩); (try dsimp only); refine hK.out _ _ ?_ (fun hHeld => ?_); (next => ((try dsimp only); first | assumption | exact HK1.out _ (by assumption) | exact HK2.out _ (by assumption))); clear hK K; (try simp only [List.getElem_toArray, List.getElem_cons_zero, List.getElem_cons_succ, Act.put, List.setIfInBounds_toArray, List.set_cons_zero, List.set_cons_succ]))
            (refine wpAnyH_take (i := 4) (v := ?_) rfl (by kernel_rfl) (by kernel_rfl) (by kernel_rfl) (fun _ _ _ h => h) (Or.inl ⟨by rfl, ?_⟩) (by assumption) ?_; rotate_left; (next => (intro w hSw; (try dsimp only at hSw); go_simp; (try with_reducible rfl))); (try simp only [List.getElem_toArray, List.getElem_cons_zero, List.getElem_cons_succ, Act.put, List.setIfInBounds_toArray, List.set_cons_zero, List.set_cons_succ]))
            (refine wpAnyH_ready (rs := [6]) (by kernel_rfl) (by simp) ?_; refine AllReadyH.cons rfl (fun K hK => ?_) AllReadyH.nil; go_simp; (refine (HCa.out _ (by first | assumption | exact HP.out _ (by assumption))).mono ?_; rintro e w5 ⟨rfl, hb5⟩); (try dsimp only); refine hK.out _ _ ?_ (fun hHeld => ?_); (next => ((try dsimp only); first | assumption | exact HK1.out _ (by assumption) | exact HK2.out _ (by assumption))); clear hK K; (try simp only [List.getElem_toArray, List.getElem_cons_zero, List.getElem_cons_succ, Act.put, List.setIfInBounds_toArray, List.set_cons_zero, List.set_cons_succ]))
            (refine wpAnyH_take (i := 7) (v := ?_) rfl (by kernel_rfl) (by kernel_rfl) (by kernel_rfl) (fun _ _ _ h => h) (Or.inl ⟨by rfl, ?_⟩) (by assumption) ?_; rotate_left; (next => (intro w hSw; (try dsimp only at hSw); go_simp; (try with_reducible rfl))); (try simp only [List.getElem_toArray, List.getElem_cons_zero, List.getElem_cons_succ, Act.put, List.setIfInBounds_toArray, List.set_cons_zero, List.set_cons_succ]))
            (refine wpAnyH_take (i := 8) (v := ?_) rfl (by kernel_rfl) (by kernel_rfl) (by kernel_rfl) (fun _ _ _ h => h) (Or.inl ⟨by rfl, ?_⟩) (by assumption) ?_; rotate_left; (next => (intro w hSw; (try dsimp only at hSw); go_simp; (try with_reducible rfl))); (try simp only [List.getElem_toArray, List.getElem_cons_zero, List.getElem_cons_succ, Act.put, List.setIfInBounds_toArray, List.set_cons_zero, List.set_cons_succ]))
            (refine wpAnyH_take (i := 9) (v := ?_) rfl (by kernel_rfl) (by kernel_rfl) (by kernel_rfl) (fun _ _ _ h => h) (Or.inl ⟨by rfl, ?_⟩) (by assumption) ?_; rotate_left; (next => (intro w hSw; (try dsimp only at hSw); go_simp; (try with_reducible rfl))); (try simp only [List.getElem_toArray, List.getElem_cons_zero, List.getElem_cons_succ, Act.put, List.setIfInBounds_toArray, List.set_cons_zero, List.set_cons_succ]))
            (refine wpAnyH_take (i := 10) (v := ?_) rfl (by kernel_rfl) (by kernel_rfl) (by kernel_rfl) (fun _ _ _ h => h) (Or.inl ⟨by rfl, ?_⟩) (by assumption) ?_; rotate_left; (next => (intro w hSw; (try dsimp only at hSw); go_simp; (try with_reducible rfl))); (try simp only [List.getElem_toArray, List.getElem_cons_zero, List.getElem_cons_succ, Act.put, List.setIfInBounds_toArray, List.set_cons_zero, List.set_cons_succ]))
            (refine wpAnyH_take (i := 12) (v := ?_) rfl (by kernel_rfl) (by kernel_rfl) (by kernel_rfl) (fun _ _ _ h => h) (Or.inl ⟨by rfl, ?_⟩) (by assumption) ?_; rotate_left; (next => (intro w hSw; (try dsimp only at hSw); go_simp; (try with_reducible rfl))); (try simp only [List.getElem_toArray, List.getElem_cons_zero, List.getElem_cons_succ, Act.put, List.setIfInBounds_toArray, List.set_cons_zero, List.set_cons_succ]))
            (refine wpAnyH_take (i := 13) (v := ?_) rfl (by kernel_rfl) (by kernel_rfl) (by kernel_rfl) (fun _ _ _ h => h) (Or.inl ⟨by rfl, ?_⟩) (by assumption) ?_; rotate_left; (next => (intro w hSw; (try dsimp only at hSw); go_simp; (try with_reducible rfl))); (try simp only [List.getElem_toArray, List.getElem_cons_zero, List.getElem_cons_succ, Act.put, List.setIfInBounds_toArray, List.set_cons_zero, List.set_cons_succ]))
            (refine wpAnyH_take (i := 14) (v := ?_) rfl (by kernel_rfl) (by kernel_rfl) (by kernel_rfl) (fun _ _ _ h => h) (Or.inl ⟨by rfl, ?_⟩) (by assumption) ?_; rotate_left; (next => (intro w hSw; (try dsimp only at hSw); go_simp; (try with_reducible rfl))); (try simp only [List.getElem_toArray, List.getElem_cons_zero, List.getElem_cons_succ, Act.put, List.setIfInBounds_toArray, List.set_cons_zero, List.set_cons_succ]))
            (refine wpAnyH_ready (rs := [11]) (by kernel_rfl) (by simp) ?_; refine AllReadyH.cons rfl (fun K hK => ?_) AllReadyH.nil; go_simp; (refine (HHs.out _ (by first | assumption | exact HP.out _ (by assumption))).mono ?_; rintro e w5 ⟨rfl, hb5⟩); (try dsimp only); refine hK.out _ _ ?_ (fun hHeld => ?_); (next => ((try dsimp only); first | assumption | exact HK1.out _ (by assumption) | exact HK2.out _ (by assumption))); clear hK K; (try simp only [List.getElem_toArray, List.getElem_cons_zero, List.getElem_cons_succ, Act.put, List.setIfInBounds_toArray, List.set_cons_zero, List.set_cons_succ]))
            (refine wpAnyH_take (i := 15) (v := ?_) rfl (by kernel_rfl) (by kernel_rfl) (by kernel_rfl) (fun _ _ _ h => h) (Or.inl ⟨by rfl, ?_⟩) (by assumption) ?_; rotate_left; (next => (intro w hSw; (try dsimp only at hSw); go_simp; (try with_reducible rfl))); (try simp only [List.getElem_toArray, List.getElem_cons_zero, List.getElem_cons_succ, Act.put, List.setIfInBounds_toArray, List.set_cons_zero, List.set_cons_succ]))
            (refine wpAnyH_take (i := 16) (v := undef) rfl (by kernel_rfl) (by kernel_rfl) (by kernel_rfl) (fun _ _ _ h => h) (Or.inr ⟨by rfl, rfl⟩) (by assumption) ?_; (try simp only [List.getElem_toArray, List.getElem_cons_zero, List.getElem_cons_succ, Act.put, List.setIfInBounds_toArray, List.set_cons_zero, List.set_cons_succ]))
            (refine wpAnyH_take (i := 17) (v := undef) rfl (by kernel_rfl) (by kernel_rfl) (by kernel_rfl) (fun _ _ _ h => h) (Or.inr ⟨by rfl, rfl⟩) (by assumption) ?_; (try simp only [List.getElem_toArray, List.getElem_cons_zero, List.getElem_cons_succ, Act.put, List.setIfInBounds_toArray, List.set_cons_zero, List.set_cons_succ]))
            (refine wpAnyH_take (i := 18) (v := undef) rfl (by kernel_rfl) (by kernel_rfl) (by kernel_rfl) (fun _ _ _ h => h) (Or.inr ⟨by rfl, rfl⟩) (by assumption) ?_; (try simp only [List.getElem_toArray, List.getElem_cons_zero, List.getElem_cons_succ, Act.put, List.setIfInBounds_toArray, List.set_cons_zero, List.set_cons_succ]))
            (refine wpAnyH_take (i := 19) (v := undef) rfl (by kernel_rfl) (by kernel_rfl) (by kernel_rfl) (fun _ _ _ h => h) (Or.inr ⟨by rfl, rfl⟩) (by assumption) ?_; (try simp only [List.getElem_toArray, List.getElem_cons_zero, List.getElem_cons_succ, Act.put, List.setIfInBounds_toArray, List.set_cons_zero, List.set_cons_succ]))
            (refine wpAnyH_take (i := 20) (v := undef) rfl (by kernel_rfl) (by kernel_rfl) (by kernel_rfl) (fun _ _ _ h => h) (Or.inr ⟨by rfl, rfl⟩) (by assumption) ?_; (try simp only [List.getElem_toArray, List.getElem_cons_zero, List.getElem_cons_succ, Act.put, List.setIfInBounds_toArray, List.set_cons_zero, List.set_cons_succ]))
            (refine wpAnyH_take (i := 21) (v := ?_) rfl (by kernel_rfl) (by kernel_rfl) (by kernel_rfl) (fun _ _ _ h => h) (Or.inl ⟨by rfl, ?_⟩) (by assumption) ?_; rotate_left; (next => (intro w hSw; (try dsimp only at hSw); go_simp; (try with_reducible rfl))); (try simp only [List.getElem_toArray, List.getElem_cons_zero, List.getElem_cons_succ, Act.put, List.setIfInBounds_toArray, List.set_cons_zero, List.set_cons_succ]))
            (refine wpAnyH_take (i := 22) (v := ?_) rfl (by kernel_rfl) (by kernel_rfl) (by kernel_rfl) (fun _ _ _ h => h) (Or.inl ⟨by rfl, ?_⟩) (by assumption) ?_; rotate_left; (next => (intro w hSw; (try dsimp only at hSw); go_simp; (try with_reducible rfl))); (try simp only [List.getElem_toArray, List.getElem_cons_zero, List.getElem_cons_succ, Act.put, List.setIfInBounds_toArray, List.set_cons_zero, List.set_cons_succ]))
            (refine wpAnyH_take (i := 23) (v := ?_) rfl (by kernel_rfl) (by kernel_rfl) (by kernel_rfl) (fun _ _ _ h => h) (Or.inl ⟨by rfl, ?_⟩) (by assumption) ?_; rotate_left; (next => (intro w hSw; (try dsimp only at hSw); go_simp; (try with_reducible rfl))); (try simp only [List.getElem_toArray, List.getElem_cons_zero, List.getElem_cons_succ, Act.put, List.setIfInBounds_toArray, List.set_cons_zero, List.set_cons_succ]))
            (refine wpAnyH_ready (rs := [24]) (by kernel_rfl) (by simp) ?_; refine AllReadyH.cons rfl (fun K hK => ?_) AllReadyH.nil; go_simp; (try dsimp only); refine hK.out _ _ ?_ (fun hHeld => ?_); (next => ((try dsimp only); first | assumption | exact HK1.out _ (by assumption) | exact HK2.out _ (by assumption))); clear hK K; (try simp only [List.getElem_toArray, List.getElem_cons_zero, List.getElem_cons_succ, Act.put, List.setIfInBounds_toArray, List.set_cons_zero, List.set_cons_succ]))
            refine wpAnyH_done (by kernel_rfl) ?_ _
            (repeat' (first | (go_big_may; fail) | go_values | go_skip | go_guarded | go_step | go_upon | go_back | dsimp only))
            go_ret
            exact ⟨rfl, hb5.below⟩
          · rw [hU] at h14
            clear hU
            have h14 : At W w13 (Both Φ2 (Both (RowG tTx 1 r3 1 (strs [x])) (Both (CellT kl #[u2] tStr) (Both (CellT ku #[u1] tStr) (Both (CellT ks #[u] tStr) R0))))) := h14
            obtain ⟨g, p3, hr3, _, _, hp3⟩ := own_cut h14.drop.rowG (by simp)
            subst hr3
            unfold maxLen at hp3
            have hR4 := (RowG.stable tTx 1 (.slice (some ⟨g, 0, none⟩) 1 p3) 1 (strs [x])).both hR3
            have HCa := Lib.hid (fun wx (h : At W wx (Both Φ2 (Both (RowG tTx 1 (.slice (some ⟨g, 0, none⟩) 1 p3) 1 (strs [x])) (Both (CellT kl #[u2] tStr) (Both (CellT ku #[u1] tStr) (Both (CellT ks #[u] tStr) R0)))))) => Count_at HS0.out hΦ2 hR4 h (by omega))
            have HCb := Lib.hid (fun wx (h : At W wx (Both Φ2 (Both (RowG tTx 1 (.slice (some ⟨g, 0, none⟩) 1 p3) 1 (strs [x])) (Both (CellT kl #[u2] tStr) (Both (CellT ku #[u1] tStr) (Both (CellT ks #[u] tStr) R0)))))) => Count_at HSU.out hΦ2 hR4 h (by omega))
            have HCc := Lib.hid (fun wx (h : At W wx (Both Φ2 (Both (RowG tTx 1 (.slice (some ⟨g, 0, none⟩) 1 p3) 1 (strs [x])) (Both (CellT kl #[u2] tStr) (Both (CellT ku #[u1] tStr) (Both (CellT ks #[u] tStr) R0)))))) => Count_at HSL.out hΦ2 hR4 h (by omega))
            by_cases hez : x = z
            · have hxz : (x == z) = true := by simp [hez]
              rw [hxz] at hdec
              clear hez
              have HK : ∀ wx, At W wx (Both Φ2 (Both (RowG tTx 1 (.slice (some ⟨g, 0, none⟩) 1 p3) 1 (strs [x])) (Both (CellT kl #[u2] tStr) (Both (CellT ku #[u1] tStr) (Both (CellT ks #[u] tStr) R0))))) → (wx.cell? ⟨ks, 0, none⟩ = some u ∧ wx.cell? ⟨ku, 0, none⟩ = some u1 ∧ wx.cell? ⟨kl, 0, none⟩ = some u2 ∧ wx.cell? ⟨g, 0, none⟩ = some (.string ⟨x.toArray⟩) ∧ At W wx (Both Φ2 (Both (RowG tTx 1 (.slice (some ⟨g, 0, none⟩) 1 p3) 1 (strs [x])) (Both (CellT kl #[u2] tStr) (Both (CellT ku #[u1] tStr) (Both (CellT ks #[u] tStr) R0)))))) := fun wx h =>
                ⟨(h.drop.drop.drop.drop.cellF (o := 0) (u := u) rfl).1, (h.drop.drop.drop.cellF (o := 0) (u := u1) rfl).1, (h.drop.drop.cellF (o := 0) (u := u2) rfl).1, (h.drop.rowCell (j := 0) rfl).1, h⟩
              have HKd : ∀ wx, At W wx (Both Φ2 (Both (RowG tTx 1 (.slice (some ⟨g, 0, none⟩) 1 p3) 1 (strs [x])) (Both (CellT kl #[u2] tStr) (Both (CellT ku #[u1] tStr) (Both (CellT ks #[u] tStr) R0))))) → (wx.drew.cell? ⟨ks, 0, none⟩ = some u ∧ wx.drew.cell? ⟨ku, 0, none⟩ = some u1 ∧ wx.drew.cell? ⟨kl, 0, none⟩ = some u2 ∧ wx.drew.cell? ⟨g, 0, none⟩ = some (.string ⟨x.toArray⟩) ∧ At W wx.drew (Both Φ2 (Both (RowG tTx 1 (.slice (some ⟨g, 0, none⟩) 1 p3) 1 (strs [x])) (Both (CellT kl #[u2] tStr) (Both (CellT ku #[u1] tStr) (Both (CellT ks #[u] tStr) R0)))))) := fun wx h => HK _ (h.drew (hΦ2.both hR4))
              have hhs : ∀ wx, At W wx (Both Φ2 (Both (RowG tTx 1 (.slice (some ⟨g, 0, none⟩) 1 p3) 1 (strs [x])) (Both (CellT kl #[u2] tStr) (Both (CellT ku #[u1] tStr) (Both (CellT ks #[u] tStr) R0))))) → Calls Try.prog 16 #[.agg #[u], .string ⟨z.toArray⟩] wx fun e w' => e = .returned (.bool true) ∧ At W w' (Both Φ2 (Both (RowG tTx 1 (.slice (some ⟨g, 0, none⟩) 1 p3) 1 (strs [x])) (Both (CellT kl #[u2] tStr) (Both (CellT ku #[u1] tStr) (Both (CellT ks #[u] tStr) R0))))) := fun wx h => by
                have := Has_at HS0.out hΦ2 hR4 h HA.out z
                rw [hdec] at this
                exact this
              have HHs := Lib.hid hhs
              have H14 := Lib.hid (HK _ h14)
              have HK1 := Lib.hid HK
              have HK2 := Lib.hid HKd
              have HP := Lib.hid (fun (wx : World) (h : wx.cell? ⟨ks, 0, none⟩ = some u ∧ wx.cell? ⟨ku, 0, none⟩ = some u1 ∧ wx.cell? ⟨kl, 0, none⟩ = some u2 ∧ wx.cell? ⟨g, 0, none⟩ = some (.string ⟨x.toArray⟩) ∧ At W wx (Both Φ2 (Both (RowG tTx 1 (.slice (some ⟨g, 0, none⟩) 1 p3) 1 (strs [x])) (Both (CellT kl #[u2] tStr) (Both (CellT ku #[u1] tStr) (Both (CellT ks #[u] tStr) R0)))))) => h.2.2.2.2)
              obtain ⟨q1, q2, q3, q4, q5⟩ := HK _ h14
              clear hhs HK HKd h14 hdec
              (repeat' (first | (go_big_may; fail) | go_values | go_skip | go_guarded | go_step | go_upon | go_back | dsimp only))
              refine wp_region_held_drew (S := fun wx => wx.cell? ⟨ks, 0, none⟩ = some u ∧ wx.cell? ⟨ku, 0, none⟩ = some u1 ∧ wx.cell? ⟨kl, 0, none⟩ = some u2 ∧ wx.cell? ⟨g, 0, none⟩ = some (.string ⟨x.toArray⟩) ∧ At W wx (Both Φ2 (Both (RowG tTx 1 (.slice (some ⟨g, 0, none⟩) 1 p3) 1 (strs [x])) (Both (CellT kl #[u2] tStr) (Both (CellT ku #[u1] tStr) (Both (CellT ks #[u] tStr) R0)))))) (by kernel_rfl) ?hst (fun hHeld => ?_)
              case hst => exact HK2.out _ (HP.out _ H14.out)
              simp only [List.size_toArray, List.length_cons, List.length_nil, Nat.reduceAdd, Array.replicate_succ, Array.replicate_zero, List.push_toArray, List.nil_append, List.cons_append]
              (refine wpAnyH_take (i := 0) (v := ?_) rfl (by kernel_rfl) (by kernel_rfl) (by kernel_rfl) (fun _ _ _ h => h) (Or.inl ⟨by rfl, ?_⟩) (by assumption) ?_; rotate_left; (next => (intro w hSw; (try dsimp only at hSw); go_simp; (try with_reducible rfl))); (try simp only [List.getElem_toArray, List.getElem_cons_zero, List.getElem_cons_succ, Act.put, List.setIfInBounds_toArray, List.set_cons_zero, List.set_cons_succ]))
              (refine wpAnyH_take (i := 2) (v := ?_) rfl (by kernel_rfl) (by kernel_rfl) (by kernel_rfl) (fun _ _ _ h => h) (Or.inl ⟨by rfl, ?_⟩) (by assumption) ?_; rotate_left; (next => (intro w hSw; (try dsimp only at hSw); go_simp; (try with_reducible rfl))); (try simp only [List.getElem_toArray, List.getElem_cons_zero, List.getElem_cons_succ, Act.put, List.setIfInBounds_toArray, List.set_cons_zero, List.set_cons_succ]))
              (refine wpAnyH_take (i := 5) (v := ?_) rfl (by kernel_rfl) (by kernel_rfl) (by kernel_rfl) (fun _ _ _ h => h) (Or.inl ⟨by rfl, ?_⟩) (by assumption) ?_; rotate_left; (next => (intro w hSw; (try dsimp only at hSw); go_simp; (try with_reducible rfl))); (try simp only [List.getElem_toArray, List.getElem_cons_zero, List.getElem_cons_succ, Act.put, List.setIfInBounds_toArray, List.set_cons_zero, List.set_cons_succ]))
              (refine wpAnyH_ready (rs := [1]) (by kernel_rfl) (by simp) ?_; refine AllReadyH.cons rfl (fun K hK => ?_) AllReadyH.nil; go_simp; (refine (HCb.out _ (by first | assumption | exact HP.out _ (by assumption))).mono ?_; rintro e w5 ⟨rfl, hb5⟩); (try dsimp only); refine hK.out _ _ ?_ (fun hHeld => ?_); (next => ((try dsimp only); first | assumption | exact HK1.out _ (by assumption) | exact HK2.out _ (by assumption))); clear hK K; (try simp only [List.getElem_toArray, List.getElem_cons_zero, List.getElem_cons_succ, Act.put, List.setIfInBounds_toArray, List.set_cons_zero, List.set_cons_succ]))
              (refine wpAnyH_ready (rs := [3]) (by kernel_rfl) (by simp) ?_; refine AllReadyH.cons rfl (fun K hK => ?_) AllReadyH.nil; go_simp; (refine (HCc.out _ (by first | assumption | exact HP.out _ (by assumption))).mono ?_; rintro e w5 ⟨rfl, hb5⟩); (try dsimp only); refine hK.out _ _ ?_ (fun hHeld => ?_); (next => ((try dsimp only); first | assumption | exact HK1.out _ (by assumption) | exact HK2.out _ (by assumption))); clear hK K; (try simp only [List.getElem_toArray, List.getElem_cons_zero, List.getElem_cons_succ, Act.put, List.setIfInBounds_toArray, List.set_cons_zero, List.set_cons_succ]))
              (refine wpAnyH_take (i := 4) (v := ?_) rfl (by kernel_rfl) (by kernel_rfl) (by kernel_rfl) (fun _ _ _ h => h) (Or.inl ⟨by rfl, ?_⟩) (by assumption) ?_; rotate_left; (next => (intro w hSw; (try dsimp only at hSw); go_simp; (try with_reducible rfl))); (try simp only [List.getElem_toArray, List.getElem_cons_zero, List.getElem_cons_succ, Act.put, List.setIfInBounds_toArray, List.set_cons_zero, List.set_cons_succ]))
              (refine wpAnyH_ready (rs := [6]) (by kernel_rfl) (by simp) ?_; refine AllReadyH.cons rfl (fun K hK => ?_) AllReadyH.nil; go_simp; (refine (HCa.out _ (by first | assumption | exact HP.out _ (by assumption))).mono ?_; rintro e w5 ⟨rfl, hb5⟩); (try dsimp only); refine hK.out _ _ ?_ (fun hHeld => ?_); (next => ((try dsimp only); first | assumption | exact HK1.out _ (by assumption) | exact HK2.out _ (by assumption))); clear hK K; (try simp only [List.getElem_toArray, List.getElem_cons_zero, List.getElem_cons_succ, Act.put, List.setIfInBounds_toArray, List.set_cons_zero, List.set_cons_succ]))
              (refine wpAnyH_take (i := 7) (v := ?_) rfl (by kernel_rfl) (by kernel_rfl) (by kernel_rfl) (fun _ _ _ h => h) (Or.inl ⟨by rfl, ?_⟩) (by assumption) ?_; rotate_left; (next => (intro w hSw; (try dsimp only at hSw); go_simp; (try with_reducible rfl))); (try simp only [List.getElem_toArray, List.getElem_cons_zero, List.getElem_cons_succ, Act.put, List.setIfInBounds_toArray, List.set_cons_zero, List.set_cons_succ]))
              (refine wpAnyH_take (i := 8) (v := ?_) rfl (by kernel_rfl) (by kernel_rfl) (by kernel_rfl) (fun _ _ _ h => h) (Or.inl ⟨by rfl, ?_⟩) (by assumption) ?_; rotate_left; (next => (intro w hSw; (try dsimp only at hSw); go_simp; (try with_reducible rfl))); (try simp only [List.getElem_toArray, List.getElem_cons_zero, List.getElem_cons_succ, Act.put, List.setIfInBounds_toArray, List.set_cons_zero, List.set_cons_succ]))
              (refine wpAnyH_take (i := 9) (v := ?_) rfl (by kernel_rfl) (by kernel_rfl) (by kernel_rfl) (fun _ _ _ h => h) (Or.inl ⟨by rfl, ?_⟩) (by assumption) ?_; rotate_left; (next => (intro w hSw; (try dsimp only at hSw); go_simp; (try with_reducible rfl))); (try simp only [List.getElem_toArray, List.getElem_cons_zero, List.getElem_cons_succ, Act.put, List.setIfInBounds_toArray, List.set_cons_zero, List.set_cons_succ]))
              (refine wpAnyH_take (i := 10) (v := ?_) rfl (by kernel_rfl) (by kernel_rfl) (by kernel_rfl) (fun _ _ _ h => h) (Or.inl ⟨by rfl, ?_⟩) (by assumption) ?_; rotate_left; (next => (intro w hSw; (try dsimp only at hSw); go_simp; (try with_reducible rfl))); (try simp only [List.getElem_toArray, List.getElem_cons_zero, List.getElem_cons_succ, Act.put, List.setIfInBounds_toArray, List.set_cons_zero, List.set_cons_succ]))
              (refine wpAnyH_take (i := 12) (v := ?_) rfl (by kernel_rfl) (by kernel_rfl) (by kernel_rfl) (fun _ _ _ h => h) (Or.inl ⟨by rfl, ?_⟩) (by assumption) ?_; rotate_left; (next => (intro w hSw; (try dsimp only at hSw); go_simp; (try with_reducible rfl))); (try simp only [List.getElem_toArray, List.getElem_cons_zero, List.getElem_cons_succ, Act.put, List.setIfInBounds_toArray, List.set_cons_zero, List.set_cons_succ]))
              (refine wpAnyH_take (i := 13) (v := ?_) rfl (by kernel_rfl) (by kernel_rfl) (by kernel_rfl) (fun _ _ _ h => h) (Or.inl ⟨by rfl, ?_⟩) (by assumption) ?_; rotate_left; (next => (intro w hSw; (try dsimp only at hSw); go_simp; (try with_reducible rfl))); (try simp only [List.getElem_toArray, List.getElem_cons_zero, List.getElem_cons_succ, Act.put, List.setIfInBounds_toArray, List.set_cons_zero, List.set_cons_succ]))
              (refine wpAnyH_take (i := 14) (v := ?_) rfl (by kernel_rfl) (by kernel_rfl) (by kernel_rfl) (fun _ _ _ h => h) (Or.inl ⟨by rfl, ?_⟩) (by assumption) ?_; rotate_left; (next => (intro w hSw; (try dsimp only at hSw); go_simp; (try with_reducible rfl))); (try simp only [List.getElem_toArray, List.getElem_cons_zero, List.getElem_cons_succ, Act.put, List.setIfInBounds_toArray, List.set_cons_zero, List.set_cons_succ]))
              (refine wpAnyH_ready (rs := [11]) (by kernel_rfl) (by simp) ?_; refine AllReadyH.cons rfl (fun K hK => ?_) AllReadyH.nil; go_simp; (refine (HHs.out _ (by first | assumption | exact HP.out _ (by assumption))).mono ?_; rintro e w5 ⟨rfl, hb5⟩); (try dsimp only); refine hK.out _ _ ?_ (fun hHeld => ?_); (next => ((try dsimp only); first | assumption | exact HK1.out _ (by assumption) | exact HK2.out _ (by assumption))); clear hK K; (try simp only [List.getElem_toArray, List.getElem_cons_zero, List.getElem_cons_succ, Act.put, List.setIfInBounds_toArray, List.set_cons_zero, List.set_cons_succ]))
              (refine wpAnyH_take (i := 15) (v := ?_) rfl (by kernel_rfl) (by kernel_rfl) (by kernel_rfl) (fun _ _ _ h => h) (Or.inl ⟨by rfl, ?_⟩) (by assumption) ?_; rotate_left; (next => (intro w hSw; (try dsimp only at hSw); go_simp; (try with_reducible rfl))); (try simp only [List.getElem_toArray, List.getElem_cons_zero, List.getElem_cons_succ, Act.put, List.setIfInBounds_toArray, List.set_cons_zero, List.set_cons_succ]))
              (refine wpAnyH_take (i := 16) (v := ?_) rfl (by kernel_rfl) (by kernel_rfl) (by kernel_rfl) (fun _ _ _ h => h) (Or.inl ⟨by rfl, ?_⟩) (by assumption) ?_; rotate_left; (next => (intro w hSw; (try dsimp only at hSw); go_simp; (try with_reducible rfl))); (try simp only [List.getElem_toArray, List.getElem_cons_zero, List.getElem_cons_succ, Act.put, List.setIfInBounds_toArray, List.set_cons_zero, List.set_cons_succ]))
              (refine wpAnyH_take (i := 17) (v := ?_) rfl (by kernel_rfl) (by kernel_rfl) (by kernel_rfl) (fun _ _ _ h => h) (Or.inl ⟨by rfl, ?_⟩) (by assumption) ?_; rotate_left; (next => (intro w hSw; (try dsimp only at hSw); go_simp; (try with_reducible rfl))); (try simp only [List.getElem_toArray, List.getElem_cons_zero, List.getElem_cons_succ, Act.put, List.setIfInBounds_toArray, List.set_cons_zero, List.set_cons_succ]))
              (refine wpAnyH_take (i := 18) (v := ?_) rfl (by kernel_rfl) (by kernel_rfl) (by kernel_rfl) (fun _ _ _ h => h) (Or.inl ⟨by rfl, ?_⟩) (by assumption) ?_; rotate_left; (next => (intro w hSw; (try dsimp only at hSw); go_simp; (try with_reducible rfl))); (try simp only [List.getElem_toArray, List.getElem_cons_zero, List.getElem_cons_succ, Act.put, List.setIfInBounds_toArray, List.set_cons_zero, List.set_cons_succ]))
              (refine wpAnyH_take (i := 19) (v := ?_) rfl (by kernel_rfl) (by kernel_rfl) (by kernel_rfl) (fun _ _ _ h => h) (Or.inl ⟨by rfl, ?_⟩) (by assumption) ?_; rotate_left; (next => (intro w hSw; (try dsimp only at hSw); go_simp; (try with_reducible rfl))); (try simp only [List.getElem_toArray, List.getElem_cons_zero, List.getElem_cons_succ, Act.put, List.setIfInBounds_toArray, List.set_cons_zero, List.set_cons_succ]))
              (refine wpAnyH_take (i := 20) (v := ?_) rfl (by kernel_rfl) (by kernel_rfl) (by kernel_rfl) (fun _ _ _ h => h) (Or.inl ⟨by rfl, ?_⟩) (by assumption) ?_; rotate_left; (next => (intro w hSw; (try dsimp only at hSw); go_simp; (try with_reducible rfl))); (try simp only [List.getElem_toArray, List.getElem_cons_zero, List.getElem_cons_succ, Act.put, List.setIfInBounds_toArray, List.set_cons_zero, List.set_cons_succ]))
              (refine wpAnyH_take (i := 21) (v := ?_) rfl (by kernel_rfl) (by kernel_rfl) (by kernel_rfl) (fun _ _ _ h => h) (Or.inl ⟨by rfl, ?_⟩) (by assumption) ?_; rotate_left; (next => (intro w hSw; (try dsimp only at hSw); go_simp; (try with_reducible rfl))); (try simp only [List.getElem_toArray, List.getElem_cons_zero, List.getElem_cons_succ, Act.put, List.setIfInBounds_toArray, List.set_cons_zero, List.set_cons_succ]))
              (refine wpAnyH_take (i := 22) (v := ?_) rfl (by kernel_rfl) (by kernel_rfl) (by kernel_rfl) (fun _ _ _ h => h) (Or.inl ⟨by rfl, ?_⟩) (by assumption) ?_; rotate_left; (next => (intro w hSw; (try dsimp only at hSw); go_simp; (try with_reducible rfl))); (try simp only [List.getElem_toArray, List.getElem_cons_zero, List.getElem_cons_succ, Act.put, List.setIfInBounds_toArray, List.set_cons_zero, List.set_cons_succ]))
              (refine wpAnyH_take (i := 23) (v := ?_) rfl (by kernel_rfl) (by kernel_rfl) (by kernel_rfl) (fun _ _ _ h => h) (Or.inl ⟨by rfl, ?_⟩) (by assumption) ?_; rotate_left; (next => (intro w hSw; (try dsimp only at hSw); go_simp; (try with_reducible rfl))); (try simp only [List.getElem_toArray, List.getElem_cons_zero, List.getElem_cons_succ, Act.put, List.setIfInBounds_toArray, List.set_cons_zero, List.set_cons_succ]))
              (refine wpAnyH_ready (rs := [24]) (by kernel_rfl) (by simp) ?_; refine AllReadyH.cons rfl (fun K hK => ?_) AllReadyH.nil; go_simp; (try dsimp only); refine hK.out _ _ ?_ (fun hHeld => ?_); (next => ((try dsimp only); first | assumption | exact HK1.out _ (by assumption) | exact HK2.out _ (by assumption))); clear hK K; (try simp only [List.getElem_toArray, List.getElem_cons_zero, List.getElem_cons_succ, Act.put, List.setIfInBounds_toArray, List.set_cons_zero, List.set_cons_succ]))
              refine wpAnyH_done (by kernel_rfl) ?_ _
              (repeat' (first | (go_big_may; fail) | go_values | go_skip | go_guarded | go_step | go_upon | go_back | dsimp only))
              go_ret
              exact ⟨rfl, hb5.below⟩
            · have hxz : (x == z) = false := by simp [hez]
              rw [hxz] at hdec
              clear hez
              have HK : ∀ wx, At W wx (Both Φ2 (Both (RowG tTx 1 (.slice (some ⟨g, 0, none⟩) 1 p3) 1 (strs [x])) (Both (CellT kl #[u2] tStr) (Both (CellT ku #[u1] tStr) (Both (CellT ks #[u] tStr) R0))))) → (wx.cell? ⟨ks, 0, none⟩ = some u ∧ wx.cell? ⟨ku, 0, none⟩ = some u1 ∧ wx.cell? ⟨kl, 0, none⟩ = some u2 ∧ wx.cell? ⟨g, 0, none⟩ = some (.string ⟨x.toArray⟩) ∧ At W wx (Both Φ2 (Both (RowG tTx 1 (.slice (some ⟨g, 0, none⟩) 1 p3) 1 (strs [x])) (Both (CellT kl #[u2] tStr) (Both (CellT ku #[u1] tStr) (Both (CellT ks #[u] tStr) R0)))))) := fun wx h =>
                ⟨(h.drop.drop.drop.drop.cellF (o := 0) (u := u) rfl).1, (h.drop.drop.drop.cellF (o := 0) (u := u1) rfl).1, (h.drop.drop.cellF (o := 0) (u := u2) rfl).1, (h.drop.rowCell (j := 0) rfl).1, h⟩
              have HKd : ∀ wx, At W wx (Both Φ2 (Both (RowG tTx 1 (.slice (some ⟨g, 0, none⟩) 1 p3) 1 (strs [x])) (Both (CellT kl #[u2] tStr) (Both (CellT ku #[u1] tStr) (Both (CellT ks #[u] tStr) R0))))) → (wx.drew.cell? ⟨ks, 0, none⟩ = some u ∧ wx.drew.cell? ⟨ku, 0, none⟩ = some u1 ∧ wx.drew.cell? ⟨kl, 0, none⟩ = some u2 ∧ wx.drew.cell? ⟨g, 0, none⟩ = some (.string ⟨x.toArray⟩) ∧ At W wx.drew (Both Φ2 (Both (RowG tTx 1 (.slice (some ⟨g, 0, none⟩) 1 p3) 1 (strs [x])) (Both (CellT kl #[u2] tStr) (Both (CellT ku #[u1] tStr) (Both (CellT ks #[u] tStr) R0)))))) := fun wx h => HK _ (h.drew (hΦ2.both hR4))
              have hhs : ∀ wx, At W wx (Both Φ2 (Both (RowG tTx 1 (.slice (some ⟨g, 0, none⟩) 1 p3) 1 (strs [x])) (Both (CellT kl #[u2] tStr) (Both (CellT ku #[u1] tStr) (Both (CellT ks #[u] tStr) R0))))) → Calls Try.prog 16 #[.agg #[u], .string ⟨z.toArray⟩] wx fun e w' => e = .returned (.bool false) ∧ At W w' (Both Φ2 (Both (RowG tTx 1 (.slice (some ⟨g, 0, none⟩) 1 p3) 1 (strs [x])) (Both (CellT kl #[u2] tStr) (Both (CellT ku #[u1] tStr) (Both (CellT ks #[u] tStr) R0))))) := fun wx h => by
                have := Has_at HS0.out hΦ2 hR4 h HA.out z
                rw [hdec] at this
                exact this
              have HHs := Lib.hid hhs
              have H14 := Lib.hid (HK _ h14)
              have HK1 := Lib.hid HK
              have HK2 := Lib.hid HKd
              have HP := Lib.hid (fun (wx : World) (h : wx.cell? ⟨ks, 0, none⟩ = some u ∧ wx.cell? ⟨ku, 0, none⟩ = some u1 ∧ wx.cell? ⟨kl, 0, none⟩ = some u2 ∧ wx.cell? ⟨g, 0, none⟩ = some (.string ⟨x.toArray⟩) ∧ At W wx (Both Φ2 (Both (RowG tTx 1 (.slice (some ⟨g, 0, none⟩) 1 p3) 1 (strs [x])) (Both (CellT kl #[u2] tStr) (Both (CellT ku #[u1] tStr) (Both (CellT ks #[u] tStr) R0)))))) => h.2.2.2.2)
              obtain ⟨q1, q2, q3, q4, q5⟩ := HK _ h14
              clear hhs HK HKd h14 hdec
              (repeat' (first | (go_big_may; fail) | go_values | go_skip | go_guarded | go_step | go_upon | go_back | dsimp only))
              refine wp_region_held_drew (S := fun wx => wx.cell? ⟨ks, 0, none⟩ = some u ∧ wx.cell? ⟨ku, 0, none⟩ = some u1 ∧ wx.cell? ⟨kl, 0, none⟩ = some u2 ∧ wx.cell? ⟨g, 0, none⟩ = some (.string ⟨x.toArray⟩) ∧ At W wx (Both Φ2 (Both (RowG tTx 1 (.slice (some ⟨g, 0, none⟩) 1 p3) 1 (strs [x])) (Both (CellT kl #[u2] tStr) (Both (CellT ku #[u1] tStr) (Both (CellT ks #[u] tStr) R0)))))) (by kernel_rfl) ?hst (fun hHeld => ?_)
              case hst => exact HK2.out _ (HP.out _ H14.out)
              simp only [List.size_toArray, List.length_cons, List.length_nil, Nat.reduceAdd, Array.replicate_succ, Array.replicate_zero, List.push_toArray, List.nil_append, List.cons_append]
              (refine wpAnyH_take (i := 0) (v := ?_) rfl (by kernel_rfl) (by kernel_rfl) (by kernel_rfl) (fun _ _ _ h => h) (Or.inl ⟨by rfl, ?_⟩) (by assumption) ?_; rotate_left; (next => (intro w hSw; (try dsimp only at hSw); go_simp; (try with_reducible rfl))); (try simp only [List.getElem_toArray, List.getElem_cons_zero, List.getElem_cons_succ, Act.put, List.setIfInBounds_toArray, List.set_cons_zero, List.set_cons_succ]))
              (refine wpAnyH_take (i := 2) (v := ?_) rfl (by kernel_rfl) (by kernel_rfl) (by kernel_rfl) (fun _ _ _ h => h) (Or.inl ⟨by rfl, ?_⟩) (by assumption) ?_; rotate_left; (next => (intro w hSw; (try dsimp only at hSw); go_simp; (try with_reducible rfl))); (try simp only [List.getElem_toArray, List.getElem_cons_zero, List.getElem_cons_succ, Act.put, List.setIfInBounds_toArray, List.set_cons_zero, List.set_cons_succ]))
              (refine wpAnyH_take (i := 5) (v := ?_) rfl (by kernel_rfl) (by kernel_rfl) (by kernel_rfl) (fun _ _ _ h => h) (Or.inl ⟨by rfl, ?_⟩) (by assumption) ?_; rotate_left; (next => (intro w hSw; (try dsimp only at hSw); go_simp; (try with_reducible rfl))); (try simp only [List.getElem_toArray, List.getElem_cons_zero, List.getElem_cons_succ, Act.put, List.setIfInBounds_toArray, List.set_cons_zero, List.set_cons_succ]))
              (refine wpAnyH_ready (rs := [1]) (by kernel_rfl) (by simp) ?_; refine AllReadyH.cons rfl (fun K hK => ?_) AllReadyH.nil; go_simp; (refine (HCb.out _ (by first | assumption | exact HP.out _ (by assumption))).mono ?_; rintro e w5 ⟨rfl, hb5⟩); (try dsimp only); refine hK.out _ _ ?_ (fun hHeld => ?_); (next => ((try dsimp only); first | assumption | exact HK1.out _ (by assumption) | exact HK2.out _ (by assumption))); clear hK K; (try simp only [List.getElem_toArray, List.getElem_cons_zero, List.getElem_cons_succ, Act.put, List.setIfInBounds_toArray, List.set_cons_zero, List.set_cons_succ]))
              (refine wpAnyH_ready (rs := [3]) (by kernel_rfl) (by simp) ?_; refine AllReadyH.cons rfl (fun K hK => ?_) AllReadyH.nil; go_simp; (refine (HCc.out _ (by first | assumption | exact HP.out _ (by assumption))).mono ?_; rintro e w5 ⟨rfl, hb5⟩); (try dsimp only); refine hK.out _ _ ?_ (fun hHeld => ?_); (next => ((try dsimp only); first | assumption | exact HK1.out _ (by assumption) | exact HK2.out _ (by assumption))); clear hK K; (try simp only [List.getElem_toArray, List.getElem_cons_zero, List.getElem_cons_succ, Act.put, List.setIfInBounds_toArray, List.set_cons_zero, List.set_cons_succ]))
              (refine wpAnyH_take (i := 4) (v := ?_) rfl (by kernel_rfl) (by kernel_rfl) (by kernel_rfl) (fun _ _ _ h => h) (Or.inl ⟨by rfl, ?_⟩) (by assumption) ?_; rotate_left; (next => (intro w hSw; (try dsimp only at hSw); go_simp; (try with_reducible rfl))); (try simp only [List.getElem_toArray, List.getElem_cons_zero, List.getElem_cons_succ, Act.put, List.setIfInBounds_toArray, List.set_cons_zero, List.set_cons_succ]))
              (refine wpAnyH_ready (rs := [6]) (by kernel_rfl) (by simp) ?_; refine AllReadyH.cons rfl (fun K hK => ?_) AllReadyH.nil; go_simp; (refine (HCa.out _ (by first | assumption | exact HP.out _ (by assumption))).mono ?_; rintro e w5 ⟨rfl, hb5⟩); (try dsimp only); refine hK.out _ _ ?_ (fun hHeld => ?_); (next => ((try dsimp only); first | assumption | exact HK1.out _ (by assumption) | exact HK2.out _ (by assumption))); clear hK K; (try simp only [List.getElem_toArray, List.getElem_cons_zero, List.getElem_cons_succ, Act.put, List.setIfInBounds_toArray, List.set_cons_zero, List.set_cons_succ]))
              (refine wpAnyH_take (i := 7) (v := ?_) rfl (by kernel_rfl) (by kernel_rfl) (by kernel_rfl) (fun _ _ _ h => h) (Or.inl ⟨by rfl, ?_⟩) (by assumption) ?_; rotate_left; (next => (intro w hSw; (try dsimp only at hSw); go_simp; (try with_reducible rfl))); (try simp only [List.getElem_toArray, List.getElem_cons_zero, List.getElem_cons_succ, Act.put, List.setIfInBounds_toArray, List.set_cons_zero, List.set_cons_succ]))
              (refine wpAnyH_take (i := 8) (v := ?_) rfl (by kernel_rfl) (by kernel_rfl) (by kernel_rfl) (fun _ _ _ h => h) (Or.inl ⟨by rfl, ?_⟩) (by assumption) ?_; rotate_left; (next => (intro w hSw; (try dsimp only at hSw); go_simp; (try with_reducible rfl))); (try simp only [List.getElem_toArray, List.getElem_cons_zero, List.getElem_cons_succ, Act.put, List.setIfInBounds_toArray, List.set_cons_zero, List.set_cons_succ]))
              (refine wpAnyH_take (i := 9) (v := ?_) rfl (by kernel_rfl) (by kernel_rfl) (by kernel_rfl) (fun _ _ _ h => h) (Or.inl ⟨by rfl, ?_⟩) (by assumption) ?_; rotate_left; (next => (intro w hSw; (try dsimp only at hSw); go_simp; (try with_reducible rfl))); (try simp only [List.getElem_toArray, List.getElem_cons_zero, List.getElem_cons_succ, Act.put, List.setIfInBounds_toArray, List.set_cons_zero, List.set_cons_succ]))
              (refine wpAnyH_take (i := 10) (v := ?_) rfl (by kernel_rfl) (by kernel_rfl) (by kernel_rfl) (fun _ _ _ h => h) (Or.inl ⟨by rfl, ?_⟩) (by assumption) ?_; rotate_left; (next => (intro w hSw; (try dsimp only at hSw); go_simp; (try with_reducible rfl))); (try simp only [List.getElem_toArray, List.getElem_cons_zero, List.getElem_cons_succ, Act.put, List.setIfInBounds_toArray, List.set_cons_zero, List.set_cons_succ]))
              (refine wpAnyH_take (i := 12) (v := ?_) rfl (by kernel_rfl) (by kernel_rfl) (by kernel_rfl) (fun _ _ _ h => h) (Or.inl ⟨by rfl, ?_⟩) (by assumption) ?_; rotate_left; (next => (intro w hSw; (try dsimp only at hSw); go_simp; (try with_reducible rfl))); (try simp only [List.getElem_toArray, List.getElem_cons_zero, List.getElem_cons_succ, Act.put, List.setIfInBounds_toArray, List.set_cons_zero, List.set_cons_succ]))
              (refine wpAnyH_take (i := 13) (v := ?_) rfl (by kernel_rfl) (by kernel_rfl) (by kernel_rfl) (fun _ _ _ h => h) (Or.inl ⟨by rfl, ?_⟩) (by assumption) ?_; rotate_left; (next => (intro w hSw; (try dsimp only at hSw); go_simp; (try with_reducible rfl))); (try simp only [List.getElem_toArray, List.getElem_cons_zero, List.getElem_cons_succ, Act.put, List.setIfInBounds_toArray, List.set_cons_zero, List.set_cons_succ]))
              (refine wpAnyH_take (i := 14) (v := ?_) rfl (by kernel_rfl) (by kernel_rfl) (by kernel_rfl) (fun _ _ _ h => h) (Or.inl ⟨by rfl, ?_⟩) (by assumption) ?_; rotate_left; (next => (intro w hSw; (try dsimp only at hSw); go_simp; (try with_reducible rfl))); (try simp only [List.getElem_toArray, List.getElem_cons_zero, List.getElem_cons_succ, Act.put, List.setIfInBounds_toArray, List.set_cons_zero, List.set_cons_succ]))
              (refine wpAnyH_ready (rs := [11]) (by kernel_rfl) (by simp) ?_; refine AllReadyH.cons rfl (fun K hK => ?_) AllReadyH.nil; go_simp; (refine (HHs.out _ (by first | assumption | exact HP.out _ (by assumption))).mono ?_; rintro e w5 ⟨rfl, hb5⟩); (try dsimp only); refine hK.out _ _ ?_ (fun hHeld => ?_); (next => ((try dsimp only); first | assumption | exact HK1.out _ (by assumption) | exact HK2.out _ (by assumption))); clear hK K; (try simp only [List.getElem_toArray, List.getElem_cons_zero, List.getElem_cons_succ, Act.put, List.setIfInBounds_toArray, List.set_cons_zero, List.set_cons_succ]))
              (refine wpAnyH_take (i := 15) (v := ?_) rfl (by kernel_rfl) (by kernel_rfl) (by kernel_rfl) (fun _ _ _ h => h) (Or.inl ⟨by rfl, ?_⟩) (by assumption) ?_; rotate_left; (next => (intro w hSw; (try dsimp only at hSw); go_simp; (try with_reducible rfl))); (try simp only [List.getElem_toArray, List.getElem_cons_zero, List.getElem_cons_succ, Act.put, List.setIfInBounds_toArray, List.set_cons_zero, List.set_cons_succ]))
              (refine wpAnyH_take (i := 16) (v := ?_) rfl (by kernel_rfl) (by kernel_rfl) (by kernel_rfl) (fun _ _ _ h => h) (Or.inl ⟨by rfl, ?_⟩) (by assumption) ?_; rotate_left; (next => (intro w hSw; (try dsimp only at hSw); go_simp; (try with_reducible rfl))); (try simp only [List.getElem_toArray, List.getElem_cons_zero, List.getElem_cons_succ, Act.put, List.setIfInBounds_toArray, List.set_cons_zero, List.set_cons_succ]))
              (refine wpAnyH_take (i := 17) (v := ?_) rfl (by kernel_rfl) (by kernel_rfl) (by kernel_rfl) (fun _ _ _ h => h) (Or.inl ⟨by rfl, ?_⟩) (by assumption) ?_; rotate_left; (next => (intro w hSw; (try dsimp only at hSw); go_simp; (try with_reducible rfl))); (try simp only [List.getElem_toArray, List.getElem_cons_zero, List.getElem_cons_succ, Act.put, List.setIfInBounds_toArray, List.set_cons_zero, List.set_cons_succ]))
              (refine wpAnyH_take (i := 18) (v := ?_) rfl (by kernel_rfl) (by kernel_rfl) (by kernel_rfl) (fun _ _ _ h => h) (Or.inl ⟨by rfl, ?_⟩) (by assumption) ?_; rotate_left; (next => (intro w hSw; (try dsimp only at hSw); go_simp; (try with_reducible rfl))); (try simp only [List.getElem_toArray, List.getElem_cons_zero, List.getElem_cons_succ, Act.put, List.setIfInBounds_toArray, List.set_cons_zero, List.set_cons_succ]))
              (refine wpAnyH_take (i := 19) (v := ?_) rfl (by kernel_rfl) (by kernel_rfl) (by kernel_rfl) (fun _ _ _ h => h) (Or.inl ⟨by rfl, ?_⟩) (by assumption) ?_; rotate_left; (next => (intro w hSw; (try dsimp only at hSw); go_simp; (try with_reducible rfl))); (try simp only [List.getElem_toArray, List.getElem_cons_zero, List.getElem_cons_succ, Act.put, List.setIfInBounds_toArray, List.set_cons_zero, List.set_cons_succ]))
              (refine wpAnyH_take (i := 20) (v := ?_) rfl (by kernel_rfl) (by kernel_rfl) (by kernel_rfl) (fun _ _ _ h => h) (Or.inl ⟨by rfl, ?_⟩) (by assumption) ?_; rotate_left; (next => (intro w hSw; (try dsimp only at hSw); go_simp; (try with_reducible rfl))); (try simp only [List.getElem_toArray, List.getElem_cons_zero, List.getElem_cons_succ, Act.put, List.setIfInBounds_toArray, List.set_cons_zero, List.set_cons_succ]))
              (refine wpAnyH_take (i := 21) (v := ?_) rfl (by kernel_rfl) (by kernel_rfl) (by kernel_rfl) (fun _ _ _ h => h) (Or.inl ⟨by rfl, ?_⟩) (by assumption) ?_; rotate_left; (next => (intro w hSw; (try dsimp only at hSw); go_simp; (try with_reducible rfl))); (try simp only [List.getElem_toArray, List.getElem_cons_zero, List.getElem_cons_succ, Act.put, List.setIfInBounds_toArray, List.set_cons_zero, List.set_cons_succ]))
              (refine wpAnyH_take (i := 22) (v := ?_) rfl (by kernel_rfl) (by kernel_rfl) (by kernel_rfl) (fun _ _ _ h => h) (Or.inl ⟨by rfl, ?_⟩) (by assumption) ?_; rotate_left; (next => (intro w hSw; (try dsimp only at hSw); go_simp; (try with_reducible rfl))); (try simp only [List.getElem_toArray, List.getElem_cons_zero, List.getElem_cons_succ, Act.put, List.setIfInBounds_toArray, List.set_cons_zero, List.set_cons_succ]))
              (refine wpAnyH_take (i := 23) (v := ?_) rfl (by kernel_rfl) (by kernel_rfl) (by kernel_rfl) (fun _ _ _ h => h) (Or.inl ⟨by rfl, ?_⟩) (by assumption) ?_; rotate_left; (next => (intro w hSw; (try dsimp only at hSw); go_simp; (try with_reducible rfl))); (try simp only [List.getElem_toArray, List.getElem_cons_zero, List.getElem_cons_succ, Act.put, List.setIfInBounds_toArray, List.set_cons_zero, List.set_cons_succ]))
              (refine wpAnyH_ready (rs := [24]) (by kernel_rfl) (by simp) ?_; refine AllReadyH.cons rfl (fun K hK => ?_) AllReadyH.nil; go_simp; (try dsimp only); refine hK.out _ _ ?_ (fun hHeld => ?_); (next => ((try dsimp only); first | assumption | exact HK1.out _ (by assumption) | exact HK2.out _ (by assumption))); clear hK K; (try simp only [List.getElem_toArray, List.getElem_cons_zero, List.getElem_cons_succ, Act.put, List.setIfInBounds_toArray, List.set_cons_zero, List.set_cons_succ]))
              refine wpAnyH_done (by kernel_rfl) ?_ _
              (repeat' (first | (go_big_may; fail) | go_values | go_skip | go_guarded | go_step | go_upon | go_back | dsimp only))
              go_ret
              exact ⟨rfl, hb5.below⟩
end Go.Proofs.Ytbmfaffnbjmipaa

/- RecordStreams walked. -/
import Derived.Test.YtkffeaeacfhobaaDoorRecPlain
import Derived.Test.YtkffeaeacfhobaaDoorOpen
import Derived.Test.YtkffeaeacfhobaaDoorCards
import Derived.Test.YtkffeaeacfhobaaDoorTie
import Derived.Deep.DeepHandedRow
import Derived.Deep.DeepWitnessRowRef
import Derived.LaidMore
import Derived.LaidEql
namespace Go.Proofs.YtkffeaeacfhobaaDoor
open Go.RowKit

theorem tES_comp : (Tryd.prog.info? tES).map (fun i => i.comparable) = some true := by kernel_rfl
theorem tE_size : (Tryd.prog.info? 181).map (fun i => i.size) = some 1 := by kernel_rfl
theorem eql_same (a : Addr) (wz : World) : (binOp .eql tErr (.iface tES (.pointer (some a))) (.iface tES (.pointer (some a)))).run Tryd.prog wz = .ok (.bool true) wz := by
  obtain ⟨i, hi, hc⟩ := Option.map_eq_some_iff.1 tES_comp
  obtain ⟨j, hj, _⟩ := Option.map_eq_some_iff.1 tE_size
  exact run_eql_iface_ptr_same wz a Tryd.underlying25 Tryd.underlying167 hi hc hj
abbrev tStr : TypeId := 9

set_option maxRecDepth 100000 in
set_option maxHeartbeats 3200000 in
theorem recordStreams_out (W : World) (ef : Nat → Nat × Nat) (hF : Fails W ef fails12) (v : Value) (x y : Int) (hout : x < 1 ∨ (¬ x < 1 ∧ 4096 < x) ∨ (¬ x < 1 ∧ ¬ 4096 < x ∧ y < 1) ∨ (¬ x < 1 ∧ ¬ 4096 < x ∧ ¬ y < 1 ∧ 4096 < y)) :
    Calls Tryd.prog 3 #[v, .int .i64 x, .int .i64 y] W fun e w' => e = .returned (.bool true) ∧ Below W.heap.size W w' := by
  have HF := Lib.hid hF
  clear hF
  rcases hout with h1 | ⟨h1, h2⟩ | ⟨h1, h2, h3⟩ | ⟨h1, h2, h3, h4⟩
  all_goals
    go_enter Tryd.func3, Tryd.ntmps3
    (repeat' (first | (go_big_may; fail) | go_values | go_skip | go_guarded | go_step | go_upon | go_back | dsimp only))
    refine (New_at (At.nought (Below.refl W.heap.size W)) Stable.nought (by unfold inI64; omega)).mono ?_
    rintro e w1 ⟨rfl, h1⟩
    have H1 := Lib.hid h1
    clear h1
    (repeat' (first | (go_big_may; fail) | go_values | go_skip | go_guarded | go_step | go_upon | go_back | dsimp only))
    refine (Open_limits H1.out Stable.nought HF.out (.inl (by omega))).mono ?_
    rintro e w2 ⟨rfl, h2⟩
    have hb2 := h2.below
    have cg := (HF.out.below hb2).cell (2, 0) (by decide)
    have eqs := eql_same ⟨(ef 2).1, (ef 2).2, none⟩
    clear h2 H1
    (repeat' (first | (go_big_may; fail) | go_values | go_skip | go_guarded | go_step | go_upon | go_back | dsimp only))
    go_ret
    exact ⟨rfl, hb2⟩

/-- A piece of a row of the call's own. -/
theorem RdRow.piece {w : World} {B : Nat} {e : TypeId} {g n cap : Nat} {xs : List Value} (h : w.ownsRow B e 1 (.slice (some ⟨g, 0, none⟩) n cap) n xs) {i j : Nat} (hi : i ≤ j) (hj : j ≤ n) (c : Nat) (hc : j - i ≤ c) (hcm : c ≤ maxLen) :
    RdRow w (.slice (some ⟨g, i, none⟩) (j - i) c) (j - i) 1 ((xs.drop i).take (j - i)) := by
  have h1 := RdRow.of_own h
  obtain ⟨g1, a, cap', g2, g3, g4, g5⟩ := h1
  cases g2
  refine ⟨by rw [List.length_take, List.length_drop]; omega, _, _, rfl, hc, hcm, fun k u hk => ⟨g, i, rfl, ?_⟩⟩
  have hk1 : k < j - i := by
    have := (List.getElem?_eq_some_iff.1 hk).1
    rw [List.length_take] at this; omega
  rw [List.getElem?_take_of_lt hk1, List.getElem?_drop] at hk
  obtain ⟨b, off, q1, q2⟩ := g5 (i + k) u hk
  cases q1
  rw [Nat.zero_add] at q2
  exact q2
theorem strs_piece (l : List (List UInt8)) (i j : Nat) : ((strs l).drop i).take j = strs ((l.drop i).take j) := by simp [strs]
theorem fits_piece {l : List (List UInt8)} (h : fits l = true) (i j : Nat) : fits ((l.drop i).take j) = true := by
  unfold fits at h ⊢
  rw [List.all_eq_true] at h ⊢
  exact fun r hr => h r (List.mem_of_mem_drop (List.mem_of_mem_take hr))
theorem fitL_length : ∀ (rs : List (List UInt8)) (n : Nat), (fitL rs n).1.length ≤ rs.length := by
  intro rs
  induction rs with
  | nil => intro n; simp [fitL]
  | cons r rs ih =>
    intro n
    unfold fitL
    split
    · simp only [List.length_cons]; have := ih (n + r.length + 2); omega
    · simp only [List.length_cons]; have := ih n; omega
theorem fitL_in {r : List UInt8} {rs : List (List UInt8)} {n : Nat} (h : r.length ≤ 255 ∧ n < 1048576) : fitL (r :: rs) n = (r :: (fitL rs (n + r.length + 2)).1, (fitL rs (n + r.length + 2)).2) := if_pos h
theorem fitL_out {r : List UInt8} {rs : List (List UInt8)} {n : Nat} (h : ¬ (r.length ≤ 255 ∧ n < 1048576)) : fitL (r :: rs) n = fitL rs n := if_neg h
theorem fitL_size : ∀ (rs : List (List UInt8)) (n : Nat), n ≤ (fitL rs n).2 := by
  intro rs
  induction rs with
  | nil => intro n; simp [fitL]
  | cons r rs ih =>
    intro n
    unfold fitL
    split
    · have := ih (n + r.length + 2); dsimp only; omega
    · exact ih n

set_option maxRecDepth 100000 in
set_option maxHeartbeats 12800000 in
theorem recordStreams_in (W : World) (ef : Nat → Nat × Nat) (hF : Fails W ef fails12) (ss : List (List UInt8)) (v : Value) (rd : RdRow W v ss.length 1 (strs ss)) (hlen : ss.length ≤ 1048576) (x y : Nat) (hx : 1 ≤ x ∧ x ≤ 4096) (hy : 1 ≤ y ∧ y ≤ 4096) :
    Calls Tryd.prog 3 #[v, .int .i64 x, .int .i64 y] W fun e w' => e = .returned (.bool true) ∧ Below W.heap.size W w' := by
  have HF := Lib.hid hF
  have HRD := Lib.hid rd
  obtain ⟨av, cv, hv, _, _⟩ := rd.shape
  subst hv
  have hx1 : ¬ (x : Int) < 1 := by omega
  have hx2 : ¬ 4096 < (x : Int) := by omega
  have hy1 : ¬ (y : Int) < 1 := by omega
  have hy2 : ¬ 4096 < (y : Int) := by omega
  have HXY := Lib.hid (And.intro hx hy)
  have H0 := Lib.hid ((At.nought (Below.refl W.heap.size W)).noRowG Stable.nought tStr 1)
  clear hF rd hx hy
  go_enter Tryd.func3, Tryd.ntmps3
  (repeat' (first | (go_big_may; fail) | go_values | go_skip | go_guarded | go_step | go_upon | go_back | dsimp only))
  go_loopw [9, 10, 60] (fun vf vn vi wr => ∃ (k n : Nat) (acc : List (List UInt8)), vi = .int .i64 k ∧ vn = .int .i64 n ∧ k ≤ ss.length ∧ n ≤ 1048833 ∧ acc.length ≤ k ∧ fitL ss 0 = (acc ++ (fitL (ss.drop k) n).1, (fitL (ss.drop k) n).2) ∧ At W wr (Both (RowG tStr 1 vf acc.length (strs acc)) Nought)) (fun _ _ vi _ => ss.length - (intOf vi).toNat)
  case atStart => exact ⟨0, 0, [], rfl, rfl, by omega, by omega, Nat.le_refl _, rfl, H0.out⟩
  case round =>
    obtain ⟨k, n, acc, rfl, rfl, hk, hn, hacc, hfit, h1⟩ := hrel
    have H1 := Lib.hid h1
    have HFI := Lib.hid hfit
    clear hfit h1
    by_cases hlt : k < ss.length
    · obtain ⟨r, hr⟩ : ∃ r, ss[k]? = some r := ⟨_, List.getElem?_eq_getElem hlt⟩
      obtain ⟨b, off, cap', hsl, hcell⟩ := (HRD.out.below H1.out.below).str hr
      cases hsl
      have hdr : ss.drop k = r :: ss.drop (k + 1) := by
        obtain ⟨h1, h2⟩ := List.getElem?_eq_some_iff.1 hr
        rw [List.drop_eq_getElem_cons h1, h2]
      have hfi := HFI.out
      rw [hdr] at hfi
      clear hr hdr
      by_cases h255 : r.length ≤ 255
      · have h256 : (r.length : Int) ≤ 255 := by omega
        by_cases hn2 : n < 1048576
        · rw [fitL_in ⟨h255, hn2⟩] at hfi
          have HFJ := Lib.hid hfi
          have HN2 := Lib.hid hn2
          have hn3 : (n : Int) < 1048576 := by omega
          clear hfi HFI hn2
          (repeat' (first | (go_big_may; (at_builtin; go_must (refine wpList_append_at rfl _ _ 22 tStr rfl Tryd.underlying22 info_str rfl (by decide) rfl H1.out Stable.nought rfl rfl (one_str _) (by unfold maxLen; omega) (by omega) ?_); intro v2 w2 h2 _ _; have H2 := Lib.hid h2; clear h2)) | go_values | go_skip | go_guarded | go_step | go_upon | go_back | dsimp only))
          go_roundw
          case rel => exact ⟨k + 1, n + r.length + 2, acc ++ [r], by simp, by congr 1 <;> omega, by omega, by have := HN2.out; omega, by simp; omega, by rw [HFJ.out]; simp, by have := H2.out; rw [strs_snoc] at this; simpa using this⟩
          case measure => simp [intOf] <;> omega
        · rw [fitL_out (fun h => hn2 h.2)] at hfi
          have HFJ := Lib.hid hfi
          have hn3 : ¬ (n : Int) < 1048576 := by omega
          clear hfi HFI hn2
          (repeat' (first | (go_big_may; fail) | go_values | go_skip | go_guarded | go_step | go_upon | go_back | dsimp only))
          go_roundw
          case rel => exact ⟨k + 1, n, acc, by simp, rfl, by omega, by omega, by omega, HFJ.out, H1.out⟩
          case measure => simp [intOf] <;> omega
      · rw [fitL_out (fun h => h255 h.1)] at hfi
        have HFJ := Lib.hid hfi
        clear hfi HFI
        (repeat' (first | (go_big_may; fail) | go_values | go_skip | go_guarded | go_step | go_upon | go_back | dsimp only))
        go_roundw
        case rel => exact ⟨k + 1, n, acc, by simp, rfl, by omega, by omega, by omega, HFJ.out, H1.out⟩
        case measure => simp [intOf] <;> omega
    · have hfi := HFI.out
      rw [List.drop_eq_nil_of_le (by omega)] at hfi
      simp only [fitL, List.append_nil] at hfi
      have hff := fitL_facts ss 0
      rw [hfi] at hff
      obtain ⟨hf1, hf2, _⟩ := hff
      dsimp only at hf1 hf2
      clear hfi HFI H0 HRD
      have HF1 := Lib.hid hf1
      obtain ⟨af, cf, hvf, hcf, hcm⟩ := own_shape H1.out.rowG
      subst hvf
      unfold maxLen at hcm
      have HR0 := Lib.hid (show Stable (Both (RowG tStr 1 (.slice af acc.length cf) acc.length (strs acc)) Nought) from (RowG.stable _ _ _ _ _).both Stable.nought)
      generalize hR : Both (RowG tStr 1 (.slice af acc.length cf) acc.length (strs acc)) Nought = R at *
      have HRR := Lib.hid hR
      clear hf1 hR
      (repeat' (first | (go_big_may; fail) | go_values | go_skip | go_guarded | go_step | go_upon | go_back | dsimp only))
      refine (New_at H1.out HR0.out (by unfold inI64; omega)).mono ?_
      rintro e w1 ⟨rfl, h2⟩
      generalize wr.heap.size + 1 = b at *
      have H2 := Lib.hid h2
      clear h2 H1
      have hcn := create_new (n := n) (by omega)
      have hop := Open_ok H2.out HR0.out HF.out HXY.out.1 (by rw [hcn])
      rw [hcn] at hop
      have HOP := Lib.hid hop
      clear hcn hop
      (repeat' (first | (go_big_may; fail) | go_values | go_skip | go_guarded | go_step | go_upon | go_back | dsimp only))
      refine HOP.out.mono ?_
      rintro e w2 ⟨kw, rfl, h3⟩
      have H3 := Lib.hid h3
      have neqn : ∀ wz : World, (binOp .neq tErr .nilIface .nilIface).run Tryd.prog wz = .ok (.bool false) wz := fun wz => neq_nil wz
      have eqln : ∀ wz : World, (binOp .eql tErr .nilIface .nilIface).run Tryd.prog wz = .ok (.bool true) wz := fun wz => eql_nil wz
      clear h3 HOP H2
      (repeat' (first | (go_big_may; fail) | go_values | go_skip | go_guarded | go_step | go_upon | go_back | dsimp only))
      go_loopw [16] (fun vi wr => ∃ (i : Nat) (t buf : List UInt8), vi = .int .i64 i ∧ i ≤ acc.length + 2 ∧ t ++ buf = frameL (acc.take i) ∧ At W wr (Both (WrT kw b ef ⟨1, x, buf, 0⟩) (Both (StoreT b (oSt n t)) R))) (fun vi _ => acc.length + 3 - (intOf vi).toNat)
      case atStart => exact ⟨0, [], [], rfl, by omega, rfl, H3.out⟩
      case round =>
        obtain ⟨i, t, buf, rfl, hi, htb, h4⟩ := hrel
        have H4 := Lib.hid h4
        have HTB := Lib.hid htb
        clear h4 htb H3
        by_cases hlt : (i : Int) < acc.length
        · have hown := (show At W _ (Both (RowG tStr 1 (.slice af acc.length cf) acc.length (strs acc)) Nought) by rw [HRR.out]; exact H4.out.drop.drop).rowG
          obtain ⟨g, cf2, hvs, _, _, _⟩ := own_cut hown (by omega)
          cases hvs
          obtain ⟨m, hm⟩ : ∃ m : Nat, m = min (i + 3) acc.length := ⟨_, rfl⟩
          have hmi : min ((i : Int) + 3) (acc.length : Int) = (m : Int) := by omega
          have hw3 : IntKind.i64.wrap ((i : Int) + 3) = (i : Int) + 3 := by rw [IntKind.wrap_i64] <;> omega
          have HMI := Lib.hid hmi
          have HM := Lib.hid hm
          have him : (i : Int) ≤ m := by omega
          have hmc : (m : Int) ≤ cf := by omega
          have hma : m ≤ acc.length := by omega
          have hlw : t.length + buf.length + (frameL ((acc.drop i).take (m - i))).length ≤ n ∧ t ++ (buf ++ frameL ((acc.drop i).take (m - i))) = frameL (acc.take (i + 3)) := by
            have h1 : acc.take (i + 3) = acc.take i ++ (acc.drop i).take (m - i) := by
              rw [List.take_add]
              congr 1
              by_cases h3 : i + 3 ≤ acc.length
              · rw [show m - i = 3 by omega]
              · rw [List.take_of_length_le (by rw [List.length_drop]; omega), List.take_of_length_le (by rw [List.length_drop]; omega)]
            have h2 := frameL_take_le acc (i + 3)
            rw [h1, frameL_append, ← HTB.out] at h2
            simp only [List.length_append] at h2
            rw [h1, frameL_append, ← HTB.out]
            exact ⟨by omega, by rw [List.append_assoc]⟩
          obtain ⟨pa, pb, hput, hpab⟩ := put_oSt (cap := n) HXY.out.1.1 (fits_piece HF1.out i (m - i)) hlw.1
          have HPAB := Lib.hid (show (t ++ pa) ++ pb = frameL (acc.take (i + 3)) by rw [List.append_assoc, hpab]; exact hlw.2)
          have HPUT := Lib.hid hput
          have HLW := Lib.hid hlw.1
          clear hmi hm hlw hput hpab
          (repeat' (first | (go_big_may; fail) | go_values | go_skip | go_guarded | go_step | go_upon | go_back | dsimp only))
          rw [HMI.out]
          (repeat' (first | (go_big_may; fail) | go_values | go_skip | go_guarded | go_step | go_upon | go_back | dsimp only))
          have hpc := RdRow.piece hown (i := i) (j := m) (by omega) (by omega) (cf - i) (by omega) (by unfold maxLen; omega)
          rw [strs_piece] at hpc
          obtain ⟨pc, hpcd⟩ : ∃ pc, pc = (acc.drop i).take (m - i) := ⟨_, rfl⟩
          have hpl : m - i = pc.length := by rw [hpcd, List.length_take, List.length_drop]; omega
          rw [← hpcd] at hpc HPUT HLW
          have hpc2 : RdRow wr (.slice (some ⟨g, i, none⟩) (m - i) (cf - i)) pc.length 1 (strs pc) := by rw [← hpl]; exact hpc
          have hpt := Put_at inv_I1 H4.out HR0.out HF.out (I1_oSt _ _) HXY.out.1.1 HXY.out.1.2 (by unfold inI64; dsimp only; omega) hpc2 (by dsimp only; have := HLW.out; omega)
          rw [HPUT.out, errV_zero] at hpt
          have HPT := Lib.hid hpt
          clear hpt hpc hpc2 hown hpcd hpl
          refine HPT.out.mono ?_
          rintro e w5 ⟨rfl, h5⟩
          have H5 := Lib.hid h5
          clear h5 HPT H4
          (repeat' (first | (go_big_may; fail) | go_values | go_skip | go_guarded | go_step | go_upon | go_back | dsimp only))
          go_roundw
          case rel => exact ⟨i + 3, t ++ pa, pb, by simp, by omega, HPAB.out, H5.out⟩
          case measure => simp [intOf] <;> omega
        · rw [List.take_of_length_le (by omega)] at HTB
          have hcl := close_oSt (cap := n) (block := x) (t := t) (buf := buf) (by
            have := congrArg List.length HTB.out
            rw [List.length_append] at this
            omega)
          rw [HTB.out] at hcl
          have hclose := Close_at inv_I1 H4.out HR0.out HF.out (I1_oSt _ _) (by unfold inI64; dsimp only; omega) (by
            dsimp only
            have := congrArg List.length HTB.out
            rw [List.length_append] at this
            omega)
          rw [hcl] at hclose
          dsimp only at hclose
          rw [errV_zero] at hclose
          have HCL := Lib.hid hclose
          have HTL := Lib.hid (show (frameL acc).length ≤ n ∧ n ≤ 1048833 from ⟨by omega, by omega⟩)
          obtain ⟨T, hT⟩ : ∃ T, T = frameL acc := ⟨_, rfl⟩
          rw [← hT] at HCL HTL
          have HT := Lib.hid hT
          clear hcl hclose HTB hf2 hT
          (repeat' (first | (go_big_may; fail) | go_values | go_skip | go_guarded | go_step | go_upon | go_back | dsimp only))
          refine HCL.out.mono ?_
          rintro e w5 ⟨rfl, h5⟩
          have H5 := Lib.hid h5.swap
          have HST5 := Lib.hid ((WrT.stable kw b ef ⟨1, x, [], 13⟩).both HR0.out)
          clear h5 HCL H4
          have hrc := (read_cSt (cap := n) (t := T) (a := 0) (m := 0) (by omega)).1
          have hfrom := From_ok H5.out HST5.out HF.out (n := y) (r := 1) HXY.out.2 (by unfold inI64; omega) hrc size_cSt.1
          rw [show sizeN (cSt n T) ((1 : Nat) : Int) = T.length from size_cSt.2] at hfrom
          have HFR := Lib.hid hfrom
          clear hrc hfrom
          (repeat' (first | (go_big_may; fail) | go_values | go_skip | go_guarded | go_step | go_upon | go_back | dsimp only))
          refine HFR.out.mono ?_
          rintro e w6 ⟨kr, rfl, h6⟩
          have H6 := Lib.hid h6
          clear h6 HFR H5
          (repeat' (first | (go_big_may; fail) | go_values | go_skip | go_guarded | go_step | go_upon | go_back | dsimp only))
          go_loopw [134] (fun vi wr => ∃ (i pos : Nat) (buf : List UInt8), vi = .int .i64 i ∧ i ≤ acc.length ∧ pos ≤ T.length ∧ buf.length ≤ pos ∧ buf ++ T.drop pos = frameL (acc.drop i) ∧ At W wr (Both (RdT kr b ef ⟨1, y, pos, T.length, buf, 0⟩) (Both (StoreT b (cSt n T)) (Both (WrT kw b ef ⟨1, x, [], 13⟩) R)))) (fun vi _ => acc.length - (intOf vi).toNat)
          case atStart => exact ⟨0, 0, [], rfl, by omega, by omega, Nat.le_refl _, HT.out, H6.out⟩
          case round =>
            obtain ⟨i, pos, buf, rfl, hi, hpos, hbl, hcat, h7⟩ := hrel
            have H7 := Lib.hid h7
            have HST7 := Lib.hid (show Stable (Both (WrT kw b ef ⟨1, x, [], 13⟩) R) from (WrT.stable _ _ _ _).both HR0.out)
            have hown := (show At W _ (Both (RowG tStr 1 (.slice af acc.length cf) acc.length (strs acc)) Nought) by rw [HRR.out]; exact H7.out.drop.drop.drop).rowG
            clear h7 H6
            by_cases hlt : i < acc.length
            · obtain ⟨r, hr⟩ : ∃ r, acc[i]? = some r := ⟨_, List.getElem?_eq_getElem hlt⟩
              have hdr : acc.drop i = r :: acc.drop (i + 1) := by
                obtain ⟨h1, h2⟩ := List.getElem?_eq_some_iff.1 hr
                rw [List.drop_eq_getElem_cons h1, h2]
              have hr255 : r.length ≤ 255 := by
                have h1 := HF1.out
                unfold fits at h1
                rw [List.all_eq_true] at h1
                simpa using h1 r (List.mem_of_getElem? hr)
              rw [hdr] at hcat
              obtain ⟨pos2, buf2, hnx, hcat2, hp2, hb2⟩ := next_cSt (cap := n) (block := y) HXY.out.2.1 hr255 (T.length - pos + 1) pos buf (by omega) hpos hbl hcat
              have hnext := Next_at H7.out HST7.out HF.out (by unfold inI64; dsimp only; omega) hpos (by dsimp only; have := HTL.out; omega) hbl
              dsimp only at hnext
              rw [hnx] at hnext
              dsimp only at hnext
              rw [errV_zero] at hnext
              have HNX := Lib.hid hnext
              have HC2 := Lib.hid hcat2
              obtain ⟨g, off, cf2, hvs, hcell⟩ := (RdRow.of_own hown).str hr
              cases hvs
              clear hr hdr hcat hnx hcat2 hnext hown
              (repeat' (first | (go_big_may; fail) | go_values | go_skip | go_guarded | go_step | go_upon | go_back | dsimp only))
              refine HNX.out.mono ?_
              rintro e w8 ⟨rfl, h8⟩
              have H8 := Lib.hid h8
              clear h8 HNX H7 hcell
              (repeat' (first | (go_big_may; fail) | go_values | go_skip | go_guarded | go_step | go_upon | go_back | dsimp only))
              go_roundw
              case rel => exact ⟨i + 1, pos2, buf2, by simp, by omega, hp2, hb2, HC2.out, H8.out⟩
              case measure => simp [intOf] <;> omega
            · rw [List.drop_eq_nil_of_le (show acc.length ≤ i by omega), show frameL [] = [] from rfl] at hcat
              have hnx := next_done (cap := n) (block := y) (n := T.length - pos) hpos hcat
              have hnext := Next_at H7.out HST7.out HF.out (by unfold inI64; dsimp only; omega) hpos (by dsimp only; have := HTL.out; omega) hbl
              dsimp only at hnext
              rw [hnx] at hnext
              dsimp only at hnext
              rw [errV_zero] at hnext
              have HNX := Lib.hid hnext
              have HOWN := Lib.hid hown
              have hfr : frameR acc = (T, 0) := by unfold frameR; rw [HF1.out, HT.out]; rfl
              have HFR := Lib.hid hfr
              clear hcat hnx hnext hown hfr
              (repeat' (first | (go_big_may; fail) | go_values | go_skip | go_guarded | go_step | go_upon | go_back | dsimp only))
              refine HNX.out.mono ?_
              rintro e w8 ⟨rfl, h8⟩
              have H8 := Lib.hid h8
              have hown8 := (show At W _ (Both (RowG tStr 1 (.slice af acc.length cf) acc.length (strs acc)) Nought) by rw [HRR.out]; exact h8.drop.drop.drop).rowG
              have hfc := Frame_calls acc _ w8 (RdRow.of_own hown8) (by rw [← HT.out]; have := HTL.out; omega)
              rw [HFR.out] at hfc
              have HFC := Lib.hid hfc
              clear h8 HNX H7 hown8 hfc HOWN
              (repeat' (first | (go_big_may; fail) | go_values | go_skip | go_guarded | go_step | go_upon | go_back | dsimp only))
              refine HFC.out.mono ?_
              rintro e w9 ⟨rfl, hb9⟩
              have HSTR := Lib.hid (show Stable (Both (RdT kr b ef ⟨1, y, pos, T.length, [], 0⟩) (Both (WrT kw b ef ⟨1, x, [], 13⟩) R)) from (RdT.stable _ _ _ _).both HST7.out)
              have h9 := (H8.out.mono ((RdT.stable _ _ _ _).both ((StoreT.stable _ _).both HST7.out)) hb9).swap
              have H9 := Lib.hid h9
              have hsz := Size_at h9 HSTR.out (fails12_all HF.out) (z := 1) (by unfold inI64; omega)
              rw [size_cSt.1, size_cSt.2, errV_zero] at hsz
              have HSZ := Lib.hid hsz
              clear hb9 h9 HFC H8 hsz
              (repeat' (first | (go_big_may; fail) | go_values | go_skip | go_guarded | go_step | go_upon | go_back | dsimp only))
              refine HSZ.out.mono ?_
              rintro e w10 ⟨rfl, h10⟩
              have hrd := Read_at h10 HSTR.out (fails12_all HF.out) (z := 1) (a := ((0 : Nat) : Int)) (n := (T.length : Int)) (by unfold inI64; omega) (by unfold inI64; omega) (by have := HTL.out; unfold inI64; omega)
              rw [(read_cSt (cap := n) (t := T) (a := 0) (m := T.length) (by omega)).1, (read_cSt (cap := n) (t := T) (a := 0) (m := T.length) (by omega)).2, errV_zero, List.drop_zero, List.take_length] at hrd
              have HRE := Lib.hid hrd
              clear h10 hrd H9
              (repeat' (first | (go_big_may; fail) | go_values | go_skip | go_guarded | go_step | go_upon | go_back | dsimp only))
              refine HRE.out.mono ?_
              rintro e w11 ⟨rfl, h11⟩
              have hb11 := h11.below
              clear h11 HRE
              (repeat' (first | (go_big_may; fail) | go_values | go_skip | go_guarded | go_step | go_upon | go_back | dsimp only))
              go_ret
              exact ⟨rfl, hb11⟩

theorem recordStreams_walk (W : World) (ef : Nat → Nat × Nat) (hF : Fails W ef fails12) (ss : List (List UInt8)) (v : Value) (rd : RdRow W v ss.length 1 (strs ss)) (hm : ss.length + sumLen ss ≤ 1048576) (x : Int) (hx : -9223372036854775808 ≤ x ∧ x ≤ 9223372036854775807) (y : Int) (hy : -9223372036854775808 ≤ y ∧ y ≤ 9223372036854775807) :
    Calls Tryd.prog 3 #[v, .int .i64 x, .int .i64 y] W fun e w' => e = .returned (.bool true) ∧ Below W.heap.size W w' := by
  by_cases h : (1 ≤ x ∧ x ≤ 4096) ∧ (1 ≤ y ∧ y ≤ 4096)
  · obtain ⟨⟨h1, h2⟩, h3, h4⟩ := h
    obtain ⟨a, rfl⟩ := Int.eq_ofNat_of_zero_le (show 0 ≤ x by omega)
    obtain ⟨b, rfl⟩ := Int.eq_ofNat_of_zero_le (show 0 ≤ y by omega)
    exact recordStreams_in W ef hF ss v rd (by omega) a b (by omega) (by omega)
  · exact recordStreams_out W ef hF v x y (by omega)
end Go.Proofs.YtkffeaeacfhobaaDoor

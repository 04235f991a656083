/- RunsBreaks walked. -/
import Derived.Test.YtomlkhfmblkpcaaDoorRunsAll
import Derived.Test.YtomlkhfmblkpcaaDoorRunsGood
import Derived.Test.YtomlkhfmblkpcaaDoorRunsWakesW
import Derived.Test.YtomlkhfmblkpcaaDoorSent8
import Derived.Test.YtomlkhfmblkpcaaDoorOpen
import Derived.Test.YtomlkhfmblkpcaaDoorCards
import Derived.Test.YtomlkhfmblkpcaaDoorTie
import Derived.Deep.DeepHandedRow
import Derived.Deep.DeepWitnessRowRef
import Derived.LaidMore
namespace Go.Proofs.YtomlkhfmblkpcaaDoor
open Go.RowKit

abbrev ansC (A : AnsD) (v : Value) : Array Value := #[.int .i64 A.n, .int .i64 A.code, .string ⟨A.text.toArray⟩, v]
set_option maxRecDepth 100000 in
set_option maxHeartbeats 12800000 in
theorem runsBreaks_walk (W : World) (ef : Nat → Nat × Nat) (hF : Fails W ef failsAll) (c : Int) (hc : -9223372036854775808 ≤ c ∧ c ≤ 9223372036854775807) (n : Int) (hn : -9223372036854775808 ≤ n ∧ n ≤ 9223372036854775807) (ops : List OpD) (v : Value) (hops : OpsRow W v ops) (hlen : ops.length ≤ 1048576) :
    Calls Tryd.prog 10 #[.int .i64 c, .int .i64 n, v] W fun e w' => e = .returned (.bool true) ∧ Below W.heap.size W w' := by
  have HF := Lib.hid hF
  have HO := Lib.hid hops
  obtain ⟨ao, cap, hv, hcap, hcm⟩ := hops.row.shape
  subst hv
  clear hF hops
  go_enter Tryd.func10, Tryd.ntmps10
  (repeat' (first | (go_big_may; fail) | go_values | go_skip | go_guarded | go_step | go_upon | go_back | dsimp only))
  refine (New_at (At.nought (Below.refl _ _)) Stable.nought (by unfold inI64; omega)).mono ?_
  rintro e w1 ⟨rfl, h1⟩
  generalize W.heap.size + 1 = b at *
  have H1 := Lib.hid h1
  clear h1
  (repeat' (first | (go_big_may; fail) | go_values | go_skip | go_guarded | go_step | go_upon | go_back | dsimp only))
  refine (New_at H1.out ((StoreT.stable _ _).both Stable.nought) (by unfold inI64; omega)).mono ?_
  rintro e w2 ⟨rfl, h2⟩
  generalize w1.heap.size + 1 = b2 at *
  have H2 := Lib.hid h2
  clear h2 H1
  (repeat' (first | (go_big_may; fail) | go_values | go_skip | go_guarded | go_step | go_upon | go_back | dsimp only))
  refine (wakes_calls (Below.refl _ _) (HF.out.below H2.out.below) (by decide) (by decide)).mono ?_
  rintro e w3 ⟨rfl, hb3⟩
  have H3 := Lib.hid (H2.out.mono ((StoreT.stable _ _).both ((StoreT.stable _ _).both Stable.nought)) hb3)
  clear hb3 H2
  (repeat' (first | (go_big_may; fail) | go_values | go_skip | go_guarded | go_step | go_upon | go_back | dsimp only))
  refine (Break_at H3.out.swap ((StoreT.stable _ _).both Stable.nought) hn).mono ?_
  rintro e w4 ⟨rfl, h4⟩
  have H4 := Lib.hid h4
  clear h4 H3
  (repeat' (first | (go_big_may; fail) | go_values | go_skip | go_guarded | go_step | go_upon | go_back | dsimp only))
  go_loopw [9, 33] (fun st i wr => ∃ (k m : Nat) (T : St), st = .int .i64 m ∧ i = .int .i64 k ∧ k ≤ ops.length ∧ m ≤ k ∧ (n ≤ 0 ∨ (m : Int) < n) ∧ GoodS T ∧ T.left = 0 ∧ At W wr (Both (StoreT b (setL T (n.toNat - m))) (Both (StoreT b2 T) Nought))) (fun _ i _ => ops.length - (intOf i).toNat)
  case atStart => exact ⟨0, 0, newSt c, rfl, rfl, by omega, by omega, by omega, GoodS.new c, rfl, H4.out⟩
  case round =>
    rename World => wr
    obtain ⟨k, m, T, rfl, rfl, hk, hmk, hnm, hG, hL, hh⟩ := hrel
    have HH := Lib.hid hh
    have HG := Lib.hid hG
    have HL := Lib.hid hL
    have HNM := Lib.hid hnm
    clear H4 hG hL hnm
    by_cases hlt : (k : Int) < ops.length
    · have hkl : k < ops.length := by omega
      obtain ⟨bo, oo, co, hsl, ⟨x0, x1, x2, x3, x4⟩, hop⟩ := (HO.out.below hh.below).op hkl
      cases hsl
      have hopW : OpOk W (ops.getD k default) := HO.out.each _ (getD_mem hkl)
      obtain ⟨av, cv, hov, _, _⟩ := hopW.row.shape
      generalize ops.getD k default = o at *
      have HOP := Lib.hid hopW
      obtain ⟨ok, orun, opos, on, ov, op⟩ := o
      dsimp only at hov x0 x1 x2 x3 x4
      subst hov
      have hk0 : (0 : Int) ≤ k := by omega
      have hst : Stable (Both (StoreT b (setL T (n.toNat - m))) (Both (StoreT b2 T) Nought)) := (StoreT.stable _ _).both ((StoreT.stable _ _).both Stable.nought)
      have h4 := HH.out.newCell hst (opCells ⟨ok, orun, opos, on, .slice av op.length cv, op⟩) tOp
      obtain ⟨w4, hw4⟩ : ∃ w4, w4 = wr.alloc (.cells (opCells ⟨ok, orun, opos, on, .slice av op.length cv, op⟩) tOp) := ⟨_, rfl⟩
      rw [← hw4] at h4
      have H4 := Lib.hid h4
      have HW4 := Lib.hid hw4
      clear h4 hw4 hh hop
      go_upto_region 9 with (fail)
      rw [← HW4.out]
      clear HW4 x0 x1 x2 x3 x4
      generalize wr.heap.size = s4 at *
      have y0 := cell_of H4.out.cell.1 0; have y1 := cell_of H4.out.cell.1 1; have y2 := cell_of H4.out.cell.1 2; have y3 := cell_of H4.out.cell.1 3; have y4 := cell_of H4.out.cell.1 4
      simp only [List.getElem?_toArray, List.getElem?_cons_zero, List.getElem?_cons_succ] at y0 y1 y2 y3 y4
      have HR4 := Lib.hid (show Stable (Both (CellT s4 (opCells ⟨ok, orun, opos, on, .slice av op.length cv, op⟩) tOp) (Both (StoreT b2 T) Nought)) from (CellT.stable _ _ _).both ((StoreT.stable _ _).both Stable.nought))
      by_cases hk11 : ok = 11
      · subst hk11
        have HEND := Lib.hid H4.out.drop
        clear H4
        (repeat' (first | (go_big_may; fail) | go_values | go_skip | go_guarded | go_step | go_upon | go_back | dsimp only))
        go_roundw
        case rel => exact ⟨k + 1, m, T, by simp, by simp, by omega, by omega, HNM.out, HG.out, HL.out, HEND.out⟩
        case measure => simp [intOf] <;> omega
      · have hkb : (ok == 11) = false := by simpa using hk11
        have HK := Lib.hid hk11
        have hGL : GoodS (setL T (n.toNat - m)) := HG.out.setL (by omega)
        have HGL := Lib.hid hGL
        clear hk11 hGL
        by_cases hcase : (1 ≤ ok ∧ ok ≤ 3) ∧ (m : Int) + 1 = n
        · obtain ⟨⟨hi1, hi3⟩, hmn⟩ := hcase
          have hL1 : n.toNat - m = 1 := by omega
          have hpb := playP_broken (T := T) (o := ⟨ok, orun, opos, on, .slice av op.length cv, op⟩) HL.out ⟨hi1, hi3⟩
          have hpl := plays_calls H4.out.swap HR4.out HF.out HGL.out HOP.out
          rw [hL1, hpb] at hpl
          dsimp only at hpl
          have HPL := Lib.hid hpl
          clear hpl hpb hL1
          (repeat' (first | (go_big_may; fail) | go_values | go_skip | go_guarded | go_step | go_upon | go_back | dsimp only))
          refine HPL.out.mono ?_
          rintro e w5 ⟨va, rfl, h5⟩
          obtain ⟨aol, capl, hva, _, _⟩ := own_shape h5.row
          subst hva
          have hst5 : Stable (Both (RowT (.slice aol 0 capl) []) (Both (StoreT b T) (Both (CellT s4 (opCells ⟨ok, orun, opos, on, .slice av op.length cv, op⟩) tOp) (Both (StoreT b2 T) Nought)))) := (RowT.stable _ _).both ((StoreT.stable _ _).both HR4.out)
          have h6 := (h5.newCell hst5 #[.int .i64 0, .int .i64 9, .string ⟨#[]⟩, .slice aol 0 capl] tAns).newCell ((CellT.stable _ _ _).both hst5) zeroAns tAns
          have hsz : (w5.alloc (.cells #[.int .i64 0, .int .i64 9, .string ⟨#[]⟩, .slice aol 0 capl] tAns)).heap.size = w5.heap.size + 1 := by simp
          rw [hsz] at h6
          obtain ⟨w6, hw6⟩ : ∃ w6, w6 = (w5.alloc (.cells #[.int .i64 0, .int .i64 9, .string ⟨#[]⟩, .slice aol 0 capl] tAns)).alloc (.cells zeroAns tAns) := ⟨_, rfl⟩
          rw [← hw6] at h6
          have H6 := Lib.hid h6
          have HW6 := Lib.hid hw6
          clear h5 h6 hw6 hsz y0 y1 y2 y3 y4 H4 hst5
          go_upto_region 11 with (fail)
          rw [← HW6.out]
          clear HW6
          generalize w5.heap.size = s5 at *
          have y0 := cell_of H6.out.drop.drop.drop.drop.cell.1 0
          have z0 := cell_of H6.out.drop.cell.1 0; have z1 := cell_of H6.out.drop.cell.1 1; have z2 := cell_of H6.out.drop.cell.1 2; have z3 := cell_of H6.out.drop.cell.1 3
          simp only [List.getElem?_toArray, List.getElem?_cons_zero, List.getElem?_cons_succ] at y0 z0 z1 z2 z3
          have hw1 : IntKind.i64.wrap ((m : Int) + 1) = (m : Int) + 1 := by rw [IntKind.wrap_i64] <;> omega
          have hmb : ((m : Int) + 1 == n) = true := by simpa using hmn
          (repeat' (first | (go_big_may; fail) | go_values | go_skip | go_guarded | go_step | go_upon | go_back | dsimp only))
          refine (same_refl ⟨0, 9, [], []⟩ (RdRow.of_own H6.out.drop.drop.row) (rd_nil _)).mono ?_
          rintro e w7 ⟨rfl, hb7⟩
          have H7 := Lib.hid (H6.out.drop.drop.drop.mono ((StoreT.stable _ _).both ((CellT.stable _ _ _).both ((StoreT.stable _ _).both Stable.nought))) hb7)
          clear hb7 H6 y0 z0 z1 z2 z3
          (repeat' (first | (go_big_may; fail) | go_values | go_skip | go_guarded | go_step | go_upon | go_back | dsimp only))
          refine (Live_at H7.out ((CellT.stable _ _ _).both ((StoreT.stable _ _).both Stable.nought))).mono ?_
          rintro e w8 ⟨vc, rfl, h8⟩
          have H8 := Lib.hid h8
          clear h8 H7
          (repeat' (first | (go_big_may; fail) | go_values | go_skip | go_guarded | go_step | go_upon | go_back | dsimp only))
          refine (Live_at H8.out.pull4 ((RowT.stable _ _).both ((StoreT.stable _ _).both ((CellT.stable _ _ _).both Stable.nought)))).mono ?_
          rintro e w9 ⟨vd, rfl, h9⟩
          have H9 := Lib.hid h9
          clear h9 H8
          (repeat' (first | (go_big_may; fail) | go_values | go_skip | go_guarded | go_step | go_upon | go_back | dsimp only))
          refine (list_refl (RdRow.of_own H9.out.drop.drop.row) (RdRow.of_own H9.out.row)).mono ?_
          rintro e w10 ⟨rfl, hb10⟩
          have H10 := Lib.hid (H9.out.drop.swap.drop.mono ((StoreT.stable _ _).both ((StoreT.stable _ _).both ((CellT.stable _ _ _).both Stable.nought))) hb10)
          clear hb10 H9
          (repeat' (first | (go_big_may; fail) | go_values | go_skip | go_guarded | go_step | go_upon | go_back | dsimp only))
          refine (Used_at H10.out.swap).mono ?_
          rintro e w11 ⟨rfl, rfl⟩
          (repeat' (first | (go_big_may; fail) | go_values | go_skip | go_guarded | go_step | go_upon | go_back | dsimp only))
          refine (Used_at H10.out).mono ?_
          rintro e w11 ⟨rfl, rfl⟩
          (repeat' (first | (go_big_may; fail) | go_values | go_skip | go_guarded | go_step | go_upon | go_back | dsimp only))
          go_ret
          exact ⟨rfl, H10.out.below⟩
        · have hLn : isStep ⟨ok, orun, opos, on, .slice av op.length cv, op⟩ → n.toNat - m ≠ 1 := fun hs he => hcase ⟨hs, by omega⟩
          have hps := playP_setL (T := T) (L := n.toNat - m) (o := ⟨ok, orun, opos, on, .slice av op.length cv, op⟩) HL.out hLn HK.out
          have hpl := plays_calls H4.out.swap HR4.out HF.out HGL.out HOP.out
          rw [hps] at hpl
          obtain ⟨hp1, _⟩ := playP_left0 (o := ⟨ok, orun, opos, on, .slice av op.length cv, op⟩) HL.out HK.out
          have hG2 := HG.out.play HOP.out.n
          generalize hPP : playP T ⟨ok, orun, opos, on, .slice av op.length cv, op⟩ = PP at *
          obtain ⟨T2, A⟩ := PP
          dsimp only at hpl hp1 hG2
          have HPL := Lib.hid hpl
          have HPP := Lib.hid hPP
          have HP1 := Lib.hid hp1
          have HG2 := Lib.hid hG2
          have HCASE := Lib.hid hcase
          clear hpl hps hPP hp1 hG2 hcase hLn
          obtain ⟨L2, hL2⟩ : ∃ L2, L2 = if isStep ⟨ok, orun, opos, on, .slice av op.length cv, op⟩ then n.toNat - m - 1 else n.toNat - m := ⟨_, rfl⟩
          rw [← hL2] at HPL
          have HL2 := Lib.hid hL2
          clear hL2
          (repeat' (first | (go_big_may; fail) | go_values | go_skip | go_guarded | go_step | go_upon | go_back | dsimp only))
          refine HPL.out.mono ?_
          rintro e w5 ⟨va, rfl, h5⟩
          obtain ⟨aol, capl, hva, _, _⟩ := own_shape h5.row
          subst hva
          have hst5 : Stable (Both (RowT (.slice aol A.list.length capl) A.list) (Both (StoreT b (setL T2 L2)) (Both (CellT s4 (opCells ⟨ok, orun, opos, on, .slice av op.length cv, op⟩) tOp) (Both (StoreT b2 T) Nought)))) := (RowT.stable _ _).both ((StoreT.stable _ _).both HR4.out)
          have h6 := (h5.newCell hst5 (ansC A (.slice aol A.list.length capl)) tAns).newCell ((CellT.stable _ _ _).both hst5) zeroAns tAns
          have hsz : (w5.alloc (.cells (ansC A (.slice aol A.list.length capl)) tAns)).heap.size = w5.heap.size + 1 := by simp
          rw [hsz] at h6
          obtain ⟨w6, hw6⟩ : ∃ w6, w6 = (w5.alloc (.cells (ansC A (.slice aol A.list.length capl)) tAns)).alloc (.cells zeroAns tAns) := ⟨_, rfl⟩
          rw [← hw6] at h6
          have H6 := Lib.hid h6
          have HW6 := Lib.hid hw6
          clear h5 h6 hw6 hsz y0 y1 y2 y3 y4 H4 hst5
          go_upto_region 11 with (fail)
          rw [← HW6.out]
          clear HW6
          generalize w5.heap.size = s5 at *
          have y0 := cell_of H6.out.drop.drop.drop.drop.cell.1 0; have y1 := cell_of H6.out.drop.drop.drop.drop.cell.1 1; have y2 := cell_of H6.out.drop.drop.drop.drop.cell.1 2; have y3 := cell_of H6.out.drop.drop.drop.drop.cell.1 3; have y4 := cell_of H6.out.drop.drop.drop.drop.cell.1 4
          simp only [List.getElem?_toArray, List.getElem?_cons_zero, List.getElem?_cons_succ] at y0 y1 y2 y3 y4
          have hst6 : Stable (Both (CellT (s5 + 1) zeroAns tAns) (Both (CellT s5 (ansC A (.slice aol A.list.length capl)) tAns) (Both (RowT (.slice aol A.list.length capl) A.list) (Both (StoreT b (setL T2 L2)) (Both (CellT s4 (opCells ⟨ok, orun, opos, on, .slice av op.length cv, op⟩) tOp) Nought))))) :=
            (CellT.stable _ _ _).both ((CellT.stable _ _ _).both ((RowT.stable _ _).both ((StoreT.stable _ _).both ((CellT.stable _ _ _).both Stable.nought))))
          have hpl2 := plays_calls H6.out.pull6 hst6 HF.out HG.out HOP.out
          rw [HPP.out] at hpl2
          dsimp only at hpl2
          have HPL2 := Lib.hid hpl2
          clear hpl2 hst6
          have hw1 : IntKind.i64.wrap ((m : Int) + 1) = (m : Int) + 1 := by rw [IntKind.wrap_i64] <;> omega
          obtain ⟨m2, hm2⟩ : ∃ m2 : Nat, m2 = if isStep ⟨ok, orun, opos, on, .slice av op.length cv, op⟩ then m + 1 else m := ⟨_, rfl⟩
          have hnext : (n ≤ 0 ∨ (m2 : Int) < n) ∧ L2 = n.toNat - m2 ∧ m2 ≤ m + 1 := by
            have h1 := HNM.out
            have h2 := HCASE.out
            have h3 := HL2.out
            by_cases hs : isStep ⟨ok, orun, opos, on, .slice av op.length cv, op⟩
            · rw [if_pos hs] at h3 hm2
              have h4 : ¬ (m : Int) + 1 = n := fun he => h2 ⟨hs, he⟩
              omega
            · rw [if_neg hs] at h3 hm2
              omega
          have HN := Lib.hid hnext
          clear hnext
          have key : ((1 ≤ ok ∧ ok ≤ 3) ∧ m2 = m + 1 ∧ ((m : Int) + 1 == n) = false) ∨ (ok < 1 ∧ m2 = m) ∨ ((1 ≤ ok ∧ ¬ ok ≤ 3) ∧ m2 = m) := by
            by_cases hs : 1 ≤ ok ∧ ok ≤ 3
            · have h1 : ¬ (m : Int) + 1 = n := fun he => HCASE.out ⟨hs, he⟩
              exact .inl ⟨hs, hm2.trans (if_pos hs), by simpa using h1⟩
            · have h1 : m2 = m := hm2.trans (if_neg hs)
              by_cases h2 : ok < 1
              · exact .inr (.inl ⟨h2, h1⟩)
              · exact .inr (.inr ⟨by omega, h1⟩)
          clear hm2
          rcases key with ⟨⟨hi1, hi3⟩, hm2, hmb⟩ | ⟨hi1, hm2⟩ | ⟨⟨hi1, hi3⟩, hm2⟩
          all_goals
            subst hm2
            (repeat' (first | (go_big_may; fail) | go_values | go_skip | go_guarded | go_step | go_upon | go_back | dsimp only))
            refine HPL2.out.mono ?_
            rintro e w7 ⟨vc, rfl, h7⟩
            obtain ⟨aoc, capc, hvc, _, _⟩ := own_shape h7.row
            subst hvc
            have fz := thaw_of h7.drop.drop.cell.1
            have zc := cell_of h7.drop.drop.cell.1 0; have zd := cell_of h7.drop.drop.cell.1 1; have ze := cell_of h7.drop.drop.cell.1 2; have zf := cell_of h7.drop.drop.cell.1 3
            have z0 := cell_of h7.drop.drop.drop.cell.1 0; have z1 := cell_of h7.drop.drop.drop.cell.1 1; have z2 := cell_of h7.drop.drop.drop.cell.1 2; have z3 := cell_of h7.drop.drop.drop.cell.1 3
            simp only [List.getElem?_toArray, List.getElem?_cons_zero, List.getElem?_cons_succ] at z0 z1 z2 z3 zc zd ze zf
            have hlt5 := lt_of_heap h7.drop.drop.cell.1
            have HX := Lib.hid (fun (wz : World) (hu : Upd [s5 + 1] w7 wz) => h7.pull3.lose ((RowT.stable _ _).both ((StoreT.stable _ _).both ((CellT.stable _ _ _).both ((RowT.stable _ _).both ((StoreT.stable _ _).both ((CellT.stable _ _ _).both Stable.nought)))))) (fun fp hp => by obtain ⟨_, rfl⟩ := hp; exact hu))
            clear h7 y0 y1 y2 y3 y4 HPL2
            (repeat' (first | (go_big_may; fail) | go_values | go_skip | go_guarded | go_step | go_upon | go_back | dsimp only))
            have hu : Upd [s5 + 1] w7 ((((w7.setCell ⟨s5 + 1, 0, none⟩ (.int .i64 A.n)).setCell ⟨s5 + 1, 1, none⟩ (.int .i64 A.code)).setCell ⟨s5 + 1, 2, none⟩ (.string ⟨A.text.toArray⟩)).setCell ⟨s5 + 1, 3, none⟩ (.slice aoc A.list.length capc)) := by
              repeat' (first | with_reducible exact Upd.refl _ _ | (with_reducible refine Upd.setCell ?_ (.inl (by simp)) _))
            have h8 := HX.out _ hu
            refine (same_refl A (RdRow.of_own h8.drop.drop.drop.row) (RdRow.of_own h8.row)).mono ?_
            rintro e w9 ⟨rfl, hb9⟩
            have HEND := Lib.hid (h8.drop.pull4.pull3.drop.pull3.drop.pull3.drop.mono ((StoreT.stable _ _).both ((StoreT.stable _ _).both Stable.nought)) hb9)
            rw [HN.out.2.1] at HEND
            clear h8 hb9 hu HX z0 z1 z2 z3 zc zd ze zf fz
            (repeat' (first | (go_big_may; fail) | go_values | go_skip | go_guarded | go_step | go_upon | go_back | dsimp only))
            go_roundw
            case rel => exact ⟨k + 1, _, T2, by simp, by simp, by omega, by omega, HN.out.1, HG2.out, HP1.out, HEND.out⟩
            case measure => simp [intOf] <;> omega
    · clear hh
      (repeat' (first | (go_big_may; fail) | go_values | go_skip | go_guarded | go_step | go_upon | go_back | dsimp only))
      go_ret
      exact ⟨rfl, HH.out.below⟩
end Go.Proofs.YtomlkhfmblkpcaaDoor

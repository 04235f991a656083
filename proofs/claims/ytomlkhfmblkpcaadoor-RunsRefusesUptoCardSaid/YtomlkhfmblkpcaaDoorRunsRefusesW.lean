/- RunsRefuses walked. -/
import Derived.Test.YtomlkhfmblkpcaaDoorRunsAll
import Derived.Test.YtomlkhfmblkpcaaDoorRunsGood
import Derived.Test.YtomlkhfmblkpcaaDoorRunsWakesW
import Derived.Test.YtomlkhfmblkpcaaDoorSent8
import Derived.Test.YtomlkhfmblkpcaaDoorOpen
import Derived.Test.YtomlkhfmblkpcaaDoorCards
import Derived.Test.YtomlkhfmblkpcaaDoorTie
import Derived.Deep.DeepHandedRow
import Derived.Deep.DeepWitnessRowRef
import Derived.LaidMore
namespace Go.Proofs.YtomlkhfmblkpcaaDoor
open Go.RowKit

set_option maxRecDepth 100000 in
set_option maxHeartbeats 12800000 in
theorem runsRefuses_walk (W : World) (ef : Nat → Nat × Nat) (hF : Fails W ef failsAll) (c : Int) (hc : -9223372036854775808 ≤ c ∧ c ≤ 9223372036854775807) (ops : List OpD) (v : Value) (hops : OpsRow W v ops) (hlen : ops.length ≤ 1048576) :
    Calls Tryd.prog 9 #[.int .i64 c, v] W fun e w' => e = .returned (.bool true) ∧ Below W.heap.size W w' := by
  have HF := Lib.hid hF
  have HO := Lib.hid hops
  obtain ⟨ao, cap, hv, hcap, hcm⟩ := hops.row.shape
  subst hv
  clear hF hops
  go_enter Tryd.func9, Tryd.ntmps9
  (repeat' (first | (go_big_may; fail) | go_values | go_skip | go_guarded | go_step | go_upon | go_back | dsimp only))
  refine (New_at (At.nought (Below.refl _ _)) Stable.nought (by unfold inI64; omega)).mono ?_
  rintro e w1 ⟨rfl, h1⟩
  generalize W.heap.size + 1 = b at *
  have H1 := Lib.hid h1
  clear h1
  (repeat' (first | (go_big_may; fail) | go_values | go_skip | go_guarded | go_step | go_upon | go_back | dsimp only))
  refine (New_at H1.out ((StoreT.stable _ _).both Stable.nought) (by unfold inI64; omega)).mono ?_
  rintro e w2 ⟨rfl, h2⟩
  generalize w1.heap.size + 1 = b2 at *
  have H2 := Lib.hid h2
  clear h2 H1
  (repeat' (first | (go_big_may; fail) | go_values | go_skip | go_guarded | go_step | go_upon | go_back | dsimp only))
  refine (rNew_at H2.out ((StoreT.stable _ _).both ((StoreT.stable _ _).both Stable.nought)) (by unfold inI64; omega)).mono ?_
  rintro e w3 ⟨rfl, h3⟩
  generalize w2.heap.size = rb at *
  have H3 := Lib.hid h3
  clear h3 H2
  (repeat' (first | (go_big_may; fail) | go_values | go_skip | go_guarded | go_step | go_upon | go_back | dsimp only))
  refine (wakes_calls (Below.refl _ _) (HF.out.below H3.out.below) (by decide) (by decide)).mono ?_
  rintro e w4 ⟨rfl, hb4⟩
  have H4 := Lib.hid (H3.out.mono ((RefT.stable _ _).both ((StoreT.stable _ _).both ((StoreT.stable _ _).both Stable.nought))) hb4)
  clear hb4 H3
  (repeat' (first | (go_big_may; fail) | go_values | go_skip | go_guarded | go_step | go_upon | go_back | dsimp only))
  go_loopw [30] (fun i wr => ∃ (k : Nat) (S : St), i = .int .i64 k ∧ k ≤ ops.length ∧ GoodS S ∧ S.left = 0 ∧ At W wr (Both (RefT rb S) (Both (StoreT b2 S) (Both (StoreT b S) Nought)))) (fun i _ => ops.length - (intOf i).toNat)
  case atStart => exact ⟨0, _, rfl, by omega, GoodS.new c, rfl, H4.out⟩
  case round =>
    obtain ⟨k, S, rfl, hk, hG, hL, hh⟩ := hrel
    have HH := Lib.hid hh
    have HG := Lib.hid hG
    have HL := Lib.hid hL
    clear H4 hG hL
    by_cases hlt : (k : Int) < ops.length
    · have hkl : k < ops.length := by omega
      obtain ⟨bo, oo, co, hsl, ⟨x0, x1, x2, x3, x4⟩, hop⟩ := (HO.out.below hh.below).op hkl
      cases hsl
      have hopW : OpOk W (ops.getD k default) := HO.out.each _ (getD_mem hkl)
      obtain ⟨av, cv, hov, _, _⟩ := hopW.row.shape
      generalize ops.getD k default = o at *
      have HOP := Lib.hid hopW
      obtain ⟨ok, orun, opos, on, ov, op⟩ := o
      dsimp only at hov x0 x1 x2 x3 x4
      subst hov
      have hk0 : (0 : Int) ≤ k := by omega
      have hst : Stable (Both (RefT rb S) (Both (StoreT b2 S) (Both (StoreT b S) Nought))) := (RefT.stable _ _).both ((StoreT.stable _ _).both ((StoreT.stable _ _).both Stable.nought))
      have h4 := HH.out.newCell hst (opCells ⟨ok, orun, opos, on, .slice av op.length cv, op⟩) tOp
      obtain ⟨w4, hw4⟩ : ∃ w4, w4 = wr.alloc (.cells (opCells ⟨ok, orun, opos, on, .slice av op.length cv, op⟩) tOp) := ⟨_, rfl⟩
      rw [← hw4] at h4
      have H4 := Lib.hid h4
      have HW4 := Lib.hid hw4
      clear h4 hw4 hh hop
      go_upto_region 8 with (fail)
      rw [← HW4.out]
      clear HW4 x0 x1 x2 x3 x4
      generalize wr.heap.size = s4 at *
      have y0 := cell_of H4.out.cell.1 0; have y1 := cell_of H4.out.cell.1 1; have y2 := cell_of H4.out.cell.1 2; have y3 := cell_of H4.out.cell.1 3; have y4 := cell_of H4.out.cell.1 4
      simp only [List.getElem?_toArray, List.getElem?_cons_zero, List.getElem?_cons_succ] at y0 y1 y2 y3 y4
      by_cases hk11 : ok = 11
      · subst hk11
        have HEND := Lib.hid H4.out.drop
        clear H4
        (repeat' (first | (go_big_may; fail) | go_values | go_skip | go_guarded | go_step | go_upon | go_back | dsimp only))
        go_roundw
        case rel => exact ⟨k + 1, S, by simp, by omega, HG.out, HL.out, HEND.out⟩
        case measure => simp [intOf] <;> omega
      · have hkb : (ok == 11) = false := by simpa using hk11
        obtain ⟨hp1, hp2⟩ := playP_left0 (o := ⟨ok, orun, opos, on, .slice av op.length cv, op⟩) HL.out hk11
        have hG2 := HG.out.play HOP.out.n
        have HR4 := Lib.hid (show Stable (Both (CellT s4 (opCells ⟨ok, orun, opos, on, .slice av op.length cv, op⟩) tOp) (Both (StoreT b2 S) (Both (StoreT b S) Nought))) from (CellT.stable _ _ _).both ((StoreT.stable _ _).both ((StoreT.stable _ _).both Stable.nought)))
        have HP2 := Lib.hid hp2
        have HP1 := Lib.hid hp1
        have HG2 := Lib.hid hG2
        have HK := Lib.hid hk11
        clear hk11 hp1 hp2 hG2
        (repeat' (first | (go_big_may; fail) | go_values | go_skip | go_guarded | go_step | go_upon | go_back | dsimp only))
        refine (says_calls H4.out.swap HR4.out HG.out HOP.out).mono ?_
        rintro e w5 ⟨va, rfl, h5⟩
        generalize hPP : playP S ⟨ok, orun, opos, on, .slice av op.length cv, op⟩ = PP at *
        obtain ⟨S2, A⟩ := PP
        dsimp only at h5 HG2 HP1 HP2 ⊢
        obtain ⟨aol, capl, hva, _, _⟩ := own_shape h5.row
        subst hva
        have HPP := Lib.hid hPP
        have HR5 := Lib.hid (show Stable (Both (RowT (.slice aol A.list.length capl) A.list) (Both (RefT rb S2) (Both (CellT s4 (opCells ⟨ok, orun, opos, on, .slice av op.length cv, op⟩) tOp) (Both (StoreT b2 S) (Both (StoreT b S) Nought))))) from (RowT.stable _ _).both ((RefT.stable _ _).both HR4.out))
        have h6 := h5.newCell HR5.out #[.int .i64 A.n, .int .i64 A.code, .string ⟨A.text.toArray⟩, .slice aol A.list.length capl] tAns
        obtain ⟨w6, hw6⟩ : ∃ w6, w6 = w5.alloc (.cells #[.int .i64 A.n, .int .i64 A.code, .string ⟨A.text.toArray⟩, .slice aol A.list.length capl] tAns) := ⟨_, rfl⟩
        rw [← hw6] at h6
        have H6 := Lib.hid h6
        have HW6 := Lib.hid hw6
        clear h5 h6 hw6 y0 y1 y2 y3 y4 H4 hPP HR4
        go_upto_region 10 with (fail)
        rw [← HW6.out]
        clear HW6
        generalize w5.heap.size = s5 at *
        have y0 := cell_of H6.out.drop.drop.drop.cell.1 0; have y1 := cell_of H6.out.drop.drop.drop.cell.1 1; have y2 := cell_of H6.out.drop.drop.drop.cell.1 2; have y3 := cell_of H6.out.drop.drop.drop.cell.1 3; have y4 := cell_of H6.out.drop.drop.drop.cell.1 4
        simp only [List.getElem?_toArray, List.getElem?_cons_zero, List.getElem?_cons_succ] at y0 y1 y2 y3 y4
        have HR6 := Lib.hid (show Stable (Both (CellT s5 #[.int .i64 A.n, .int .i64 A.code, .string ⟨A.text.toArray⟩, .slice aol A.list.length capl] tAns) (Both (RowT (.slice aol A.list.length capl) A.list) (Both (RefT rb S2) (Both (CellT s4 (opCells ⟨ok, orun, opos, on, .slice av op.length cv, op⟩) tOp) (Both (StoreT b2 S) Nought))))) from
          (CellT.stable _ _ _).both ((RowT.stable _ _).both ((RefT.stable _ _).both ((CellT.stable _ _ _).both ((StoreT.stable _ _).both Stable.nought)))))
        (repeat' (first | (go_big_may; fail) | go_values | go_skip | go_guarded | go_step | go_upon | go_back | dsimp only))
        have hpl := plays_calls H6.out.pull6 HR6.out HF.out HG.out HOP.out
        rw [HPP.out] at hpl
        dsimp only at hpl
        refine hpl.mono ?_
        rintro e w7 ⟨vb, rfl, h7⟩
        obtain ⟨aob, capb, hvb, _, _⟩ := own_shape h7.row
        subst hvb
        have HR7 := Lib.hid (show Stable (Both (RowT (.slice aob A.list.length capb) A.list) (Both (StoreT b S2) (Both (CellT s5 #[.int .i64 A.n, .int .i64 A.code, .string ⟨A.text.toArray⟩, .slice aol A.list.length capl] tAns) (Both (RowT (.slice aol A.list.length capl) A.list) (Both (RefT rb S2) (Both (CellT s4 (opCells ⟨ok, orun, opos, on, .slice av op.length cv, op⟩) tOp) (Both (StoreT b2 S) Nought))))))) from
          (RowT.stable _ _).both ((StoreT.stable _ _).both HR6.out))
        have h8 := h7.newCell HR7.out #[.int .i64 A.n, .int .i64 A.code, .string ⟨A.text.toArray⟩, .slice aob A.list.length capb] tAns
        obtain ⟨w8, hw8⟩ : ∃ w8, w8 = w7.alloc (.cells #[.int .i64 A.n, .int .i64 A.code, .string ⟨A.text.toArray⟩, .slice aob A.list.length capb] tAns) := ⟨_, rfl⟩
        rw [← hw8] at h8
        have H8 := Lib.hid h8
        have HW8 := Lib.hid hw8
        clear h7 h8 hw8 y0 y1 y2 y3 y4 H6 HR6 hpl
        go_upto_region 11 with (fail)
        rw [← HW8.out]
        clear HW8
        generalize w7.heap.size = s7 at *
        have y0 := cell_of H8.out.drop.drop.drop.drop.drop.drop.cell.1 0; have y1 := cell_of H8.out.drop.drop.drop.drop.drop.drop.cell.1 1; have y2 := cell_of H8.out.drop.drop.drop.drop.drop.drop.cell.1 2; have y3 := cell_of H8.out.drop.drop.drop.drop.drop.drop.cell.1 3; have y4 := cell_of H8.out.drop.drop.drop.drop.drop.drop.cell.1 4
        have z0 := cell_of H8.out.cell.1 0; have z1 := cell_of H8.out.cell.1 1; have z2 := cell_of H8.out.cell.1 2; have z3 := cell_of H8.out.cell.1 3
        have r1 := cell_of H8.out.drop.drop.drop.cell.1 1
        simp only [List.getElem?_toArray, List.getElem?_cons_zero, List.getElem?_cons_succ] at y0 y1 y2 y3 y4 z0 z1 z2 z3 r1
        by_cases hcode : A.code = 0
        · have hcb : ((A.code : Int) == 0) = true := by rw [hcode]; rfl
          have HC := Lib.hid hcode
          clear hcode
          have h9 := H8.out.mono ((CellT.stable _ _ _).both HR7.out) ((Below.refl _ _).drew)
          have HR8 := Lib.hid (show Stable (Both (CellT s7 #[.int .i64 A.n, .int .i64 A.code, .string ⟨A.text.toArray⟩, .slice aob A.list.length capb] tAns) (Both (RowT (.slice aob A.list.length capb) A.list) (Both (StoreT b S2) (Both (CellT s5 #[.int .i64 A.n, .int .i64 A.code, .string ⟨A.text.toArray⟩, .slice aol A.list.length capl] tAns) (Both (RowT (.slice aol A.list.length capl) A.list) (Both (RefT rb S2) (Both (CellT s4 (opCells ⟨ok, orun, opos, on, .slice av op.length cv, op⟩) tOp) Nought))))))) from
            (CellT.stable _ _ _).both ((RowT.stable _ _).both ((StoreT.stable _ _).both ((CellT.stable _ _ _).both ((RowT.stable _ _).both ((RefT.stable _ _).both ((CellT.stable _ _ _).both Stable.nought)))))))
          have hpl2 := plays_calls h9.pull8 HR8.out HF.out HG.out HOP.out
          rw [HPP.out] at hpl2
          dsimp only at hpl2
          have HPL2 := Lib.hid hpl2
          clear hpl2 h9
          (repeat' (first | (go_big_may; fail) | go_values | go_skip | go_guarded | go_step | go_upon | go_back | dsimp only))
          go_region_law (first
            | (refine step_call_fnG (by first | rfl | simp [Region.wanted, yielded]) 21 _ _ rfl enters_plays [.pointer (some ⟨b2, 0, none⟩), opV ⟨ok, orun, opos, on, .slice av op.length cv, op⟩] rfl ?_; refine HPL2.out.mono ?_; rintro e w9 ⟨vc, rfl, h10⟩; obtain ⟨aoc, capc, hvc, _, _⟩ := own_shape h10.row; subst hvc; have q0 := cell_of h10.drop.drop.cell.1 0; have q1 := cell_of h10.drop.drop.cell.1 1; have q2 := cell_of h10.drop.drop.cell.1 2; have q3 := cell_of h10.drop.drop.cell.1 3; simp only [List.getElem?_toArray, List.getElem?_cons_zero, List.getElem?_cons_succ] at q0 q1 q2 q3; have H10 := Lib.hid h10; clear h10)
            | (refine step_call_fnG (by first | rfl | simp [Region.wanted, yielded]) 22 _ _ rfl enters_same [ansV A (.slice aoc A.list.length capc), ansV A (.slice aob A.list.length capb)] rfl ?_; refine (same_refl A (RdRow.of_own H10.out.row) (RdRow.of_own H10.out.drop.drop.drop.row)).mono ?_; rintro e w10 ⟨rfl, hb10⟩; have HB10 := Lib.hid hb10; clear hb10))
          all_goals
            clear y0 y1 y2 y3 y4 z0 z1 z2 z3 r1 q0 q1 q2 q3 HPL2
            have HEND := Lib.hid (H10.out.drop.pull7.pull3.drop.pull3.drop.pull4.drop.pull4.drop.pull4.drop.mono ((RefT.stable _ _).both ((StoreT.stable _ _).both ((StoreT.stable _ _).both Stable.nought))) HB10.out)
            (repeat' (first | (go_big_may; fail) | go_values | go_skip | go_guarded | go_step | go_upon | go_back | dsimp only))
            go_roundw
            case rel => exact ⟨k + 1, S2, by simp, by omega, HG2.out, HP1.out, HEND.out⟩
            case measure => simp [intOf] <;> omega
        · have hcb : ((A.code : Int) == 0) = false := by
            have : ¬ (A.code : Int) = 0 := by omega
            simpa using this
          have hSS : S2 = S := HP2.out hcode
          subst hSS
          clear hcode
          have HEND := Lib.hid (H8.out.drop.drop.pull4.pull6.swap.pull4.drop.pull4.drop.pull4.drop)
          (repeat' (first | (go_big_may; fail) | go_values | go_skip | go_guarded | go_step | go_upon | go_back | dsimp only))
          go_quiet (fail)
          (repeat' (first | (go_big_may; fail) | go_values | go_skip | go_guarded | go_step | go_upon | go_back | dsimp only))
          exact ⟨⟨k + 1, S2, by simp, by omega, HG.out, HL.out, HEND.out.mono ((RefT.stable _ _).both ((StoreT.stable _ _).both ((StoreT.stable _ _).both Stable.nought))) (below_dW _ _)⟩, by simp [intOf] <;> omega⟩
    · clear hh
      have hst : Stable (Both (StoreT b S) (Both (RefT rb S) (Both (StoreT b2 S) Nought))) := (StoreT.stable _ _).both ((RefT.stable _ _).both ((StoreT.stable _ _).both Stable.nought))
      (repeat' (first | (go_big_may; fail) | go_values | go_skip | go_guarded | go_step | go_upon | go_back | dsimp only))
      refine (Live_at HH.out.pull3 ((RefT.stable _ _).both ((StoreT.stable _ _).both Stable.nought))).mono ?_
      rintro e w5 ⟨va, rfl, h5⟩
      have H5 := Lib.hid h5
      clear h5 HH
      (repeat' (first | (go_big_may; fail) | go_values | go_skip | go_guarded | go_step | go_upon | go_back | dsimp only))
      refine (Live_at H5.out.pull4 ((RowT.stable _ _).both ((StoreT.stable _ _).both ((RefT.stable _ _).both Stable.nought)))).mono ?_
      rintro e w6 ⟨vc, rfl, h6⟩
      have H6 := Lib.hid h6
      clear h6 H5
      (repeat' (first | (go_big_may; fail) | go_values | go_skip | go_guarded | go_step | go_upon | go_back | dsimp only))
      refine (list_refl (RdRow.of_own H6.out.drop.drop.row) (RdRow.of_own H6.out.row)).mono ?_
      rintro e w7 ⟨rfl, hb7⟩
      have H7 := Lib.hid (H6.out.drop.swap.drop.mono ((StoreT.stable _ _).both ((StoreT.stable _ _).both ((RefT.stable _ _).both Stable.nought))) hb7)
      clear hb7 H6
      (repeat' (first | (go_big_may; fail) | go_values | go_skip | go_guarded | go_step | go_upon | go_back | dsimp only))
      refine (Used_at H7.out.swap).mono ?_
      rintro e w8 ⟨rfl, rfl⟩
      (repeat' (first | (go_big_may; fail) | go_values | go_skip | go_guarded | go_step | go_upon | go_back | dsimp only))
      refine (Used_at H7.out).mono ?_
      rintro e w8 ⟨rfl, rfl⟩
      (repeat' (first | (go_big_may; fail) | go_values | go_skip | go_guarded | go_step | go_upon | go_back | dsimp only))
      refine (Peak_at H7.out.swap).mono ?_
      rintro e w8 ⟨rfl, rfl⟩
      (repeat' (first | (go_big_may; fail) | go_values | go_skip | go_guarded | go_step | go_upon | go_back | dsimp only))
      refine (Peak_at H7.out).mono ?_
      rintro e w8 ⟨rfl, rfl⟩
      (repeat' (first | (go_big_may; fail) | go_values | go_skip | go_guarded | go_step | go_upon | go_back | dsimp only))
      refine (Made_at H7.out.swap).mono ?_
      rintro e w8 ⟨rfl, rfl⟩
      (repeat' (first | (go_big_may; fail) | go_values | go_skip | go_guarded | go_step | go_upon | go_back | dsimp only))
      refine (Made_at H7.out).mono ?_
      rintro e w8 ⟨rfl, rfl⟩
      (repeat' (first | (go_big_may; fail) | go_values | go_skip | go_guarded | go_step | go_upon | go_back | dsimp only))
      go_ret
      exact ⟨rfl, H7.out.below⟩
end Go.Proofs.YtomlkhfmblkpcaaDoor

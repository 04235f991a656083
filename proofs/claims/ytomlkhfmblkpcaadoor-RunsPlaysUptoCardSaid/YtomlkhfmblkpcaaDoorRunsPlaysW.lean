/- RunsPlays walked. -/
import Derived.Test.YtomlkhfmblkpcaaDoorRunsAll
import Derived.Test.YtomlkhfmblkpcaaDoorRunsWakesW
import Derived.Test.YtomlkhfmblkpcaaDoorSent8
import Derived.Test.YtomlkhfmblkpcaaDoorOpen
import Derived.Test.YtomlkhfmblkpcaaDoorCards
import Derived.Test.YtomlkhfmblkpcaaDoorTie
import Derived.Deep.DeepHandedRow
import Derived.Deep.DeepWitnessRowRef
import Derived.LaidMore
namespace Go.Proofs.YtomlkhfmblkpcaaDoor
open Go.RowKit

set_option maxRecDepth 100000 in
set_option maxHeartbeats 6400000 in
theorem runsPlays_walk (W : World) (ef : Nat → Nat × Nat) (hF : Fails W ef failsAll) (c : Int) (hc : -9223372036854775808 ≤ c ∧ c ≤ 9223372036854775807) (ops : List OpD) (v : Value) (hops : OpsRow W v ops) (hlen : ops.length ≤ 1048576) :
    Calls Tryd.prog 5 #[.int .i64 c, v] W fun e w' => e = .returned (.bool true) ∧ Below W.heap.size W w' := by
  have HF := Lib.hid hF
  have HO := Lib.hid hops
  obtain ⟨ao, cap, hv, hcap, hcm⟩ := hops.row.shape
  subst hv
  clear hF hops
  go_enter Tryd.func5, Tryd.ntmps5
  (repeat' (first | (go_big_may; fail) | go_values | go_skip | go_guarded | go_step | go_upon | go_back | dsimp only))
  refine (New_at (At.nought (Below.refl _ _)) Stable.nought (by unfold inI64; omega)).mono ?_
  rintro e w1 ⟨rfl, h1⟩
  generalize W.heap.size + 1 = b at *
  have H1 := Lib.hid h1
  clear h1
  (repeat' (first | (go_big_may; fail) | go_values | go_skip | go_guarded | go_step | go_upon | go_back | dsimp only))
  refine (rNew_at H1.out ((StoreT.stable _ _).both Stable.nought) (by unfold inI64; omega)).mono ?_
  rintro e w2 ⟨rfl, h2⟩
  generalize w1.heap.size = rb at *
  have H2 := Lib.hid h2
  clear h2 H1
  (repeat' (first | (go_big_may; fail) | go_values | go_skip | go_guarded | go_step | go_upon | go_back | dsimp only))
  refine (wakes_calls (Below.refl _ _) (HF.out.below H2.out.below) (by decide) (by decide)).mono ?_
  rintro e w3 ⟨rfl, hb3⟩
  have H3 := Lib.hid (H2.out.mono ((RefT.stable _ _).both ((StoreT.stable _ _).both Stable.nought)) hb3)
  clear hb3 H2
  (repeat' (first | (go_big_may; fail) | go_values | go_skip | go_guarded | go_step | go_upon | go_back | dsimp only))
  go_loopw [22] (fun i wr => ∃ (k : Nat) (S : St), i = .int .i64 k ∧ k ≤ ops.length ∧ GoodS S ∧ At W wr (Both (RefT rb S) (Both (StoreT b S) Nought))) (fun i _ => ops.length - (intOf i).toNat)
  case atStart => exact ⟨0, _, rfl, by omega, GoodS.new c, H3.out⟩
  case round =>
    obtain ⟨k, S, rfl, hk, hG, hh⟩ := hrel
    have HH := Lib.hid hh
    have HG := Lib.hid hG
    clear H3 hG
    by_cases hlt : (k : Int) < ops.length
    · have hkl : k < ops.length := by omega
      obtain ⟨bo, oo, co, hsl, ⟨x0, x1, x2, x3, x4⟩, hop⟩ := (HO.out.below hh.below).op hkl
      cases hsl
      have hopW : OpOk W (ops.getD k default) := HO.out.each _ (getD_mem hkl)
      obtain ⟨av, cv, hov, _, _⟩ := hopW.row.shape
      generalize ops.getD k default = o at *
      have HOP := Lib.hid hopW
      obtain ⟨ok, orun, opos, on, ov, op⟩ := o
      dsimp only at hov x0 x1 x2 x3 x4
      subst hov
      have hk0 : (0 : Int) ≤ k := by omega
      have hst : Stable (Both (RefT rb S) (Both (StoreT b S) Nought)) := (RefT.stable _ _).both ((StoreT.stable _ _).both Stable.nought)
      have h4 := HH.out.newCell hst (opCells ⟨ok, orun, opos, on, .slice av op.length cv, op⟩) tOp
      obtain ⟨w4, hw4⟩ : ∃ w4, w4 = wr.alloc (.cells (opCells ⟨ok, orun, opos, on, .slice av op.length cv, op⟩) tOp) := ⟨_, rfl⟩
      rw [← hw4] at h4
      have H4 := Lib.hid h4
      have HW4 := Lib.hid hw4
      clear h4 hw4 hh hop
      go_upto_region 7 with (fail)
      rw [← HW4.out]
      clear HW4 x0 x1 x2 x3 x4
      generalize wr.heap.size = s4 at *
      have y0 := cell_of H4.out.cell.1 0; have y1 := cell_of H4.out.cell.1 1; have y2 := cell_of H4.out.cell.1 2; have y3 := cell_of H4.out.cell.1 3; have y4 := cell_of H4.out.cell.1 4
      simp only [List.getElem?_toArray, List.getElem?_cons_zero, List.getElem?_cons_succ] at y0 y1 y2 y3 y4
      have HR4 := Lib.hid (show Stable (Both (CellT s4 (opCells ⟨ok, orun, opos, on, .slice av op.length cv, op⟩) tOp) (Both (RefT rb S) Nought)) from (CellT.stable _ _ _).both ((RefT.stable _ _).both Stable.nought))
      (repeat' (first | (go_big_may; fail) | go_values | go_skip | go_guarded | go_step | go_upon | go_back | dsimp only))
      refine (plays_calls H4.out.pull3 HR4.out HF.out HG.out HOP.out).mono ?_
      rintro e w5 ⟨va, rfl, h5⟩
      have hG2 := HG.out.play HOP.out.n
      have hGS := HG.out
      generalize hPP : playP S ⟨ok, orun, opos, on, .slice av op.length cv, op⟩ = PP at *
      obtain ⟨S2, A⟩ := PP
      dsimp only at h5 hG2 ⊢
      obtain ⟨aol, capl, hva, _, _⟩ := own_shape h5.row
      subst hva
      have HR5 := Lib.hid (show Stable (Both (RowT (.slice aol A.list.length capl) A.list) (Both (StoreT b S2) (Both (CellT s4 (opCells ⟨ok, orun, opos, on, .slice av op.length cv, op⟩) tOp) (Both (RefT rb S) Nought)))) from (RowT.stable _ _).both ((StoreT.stable _ _).both HR4.out))
      have h6 := h5.newCell HR5.out #[.int .i64 A.n, .int .i64 A.code, .string ⟨A.text.toArray⟩, .slice aol A.list.length capl] tAns
      obtain ⟨w6, hw6⟩ : ∃ w6, w6 = w5.alloc (.cells #[.int .i64 A.n, .int .i64 A.code, .string ⟨A.text.toArray⟩, .slice aol A.list.length capl] tAns) := ⟨_, rfl⟩
      rw [← hw6] at h6
      have H6 := Lib.hid h6
      have HW6 := Lib.hid hw6
      have HG2 := Lib.hid hG2
      have HPP := Lib.hid hPP
      clear h5 h6 hw6 y0 y1 y2 y3 y4 H4 hG2 hPP hGS HR4
      go_upto_region 8 with (fail)
      rw [← HW6.out]
      clear HW6
      generalize w5.heap.size = s5 at *
      have hst6 : Stable (Both (CellT s5 #[.int .i64 A.n, .int .i64 A.code, .string ⟨A.text.toArray⟩, .slice aol A.list.length capl] tAns) (Both (RowT (.slice aol A.list.length capl) A.list) (Both (StoreT b S2) (Both (CellT s4 (opCells ⟨ok, orun, opos, on, .slice av op.length cv, op⟩) tOp) Nought)))) :=
        (CellT.stable _ _ _).both ((RowT.stable _ _).both ((StoreT.stable _ _).both ((CellT.stable _ _ _).both Stable.nought)))
      have hst7 : Stable (Both (CellT s5 #[.int .i64 A.n, .int .i64 A.code, .string ⟨A.text.toArray⟩, .slice aol A.list.length capl] tAns) (Both (RowT (.slice aol A.list.length capl) A.list) (Both (StoreT b S2) (Both (CellT s4 (opCells ⟨ok, orun, opos, on, .slice av op.length cv, op⟩) tOp) (Both (RefT rb S) Nought))))) :=
        (CellT.stable _ _ _).both ((RowT.stable _ _).both ((StoreT.stable _ _).both ((CellT.stable _ _ _).both ((RefT.stable _ _).both Stable.nought))))
      have h7 := H6.out.mono hst7 ((Below.refl _ _).drew)
      have hsay := says_calls h7.pull5 hst6 HG.out HOP.out
      rw [HPP.out] at hsay
      dsimp only at hsay
      have HSAY := Lib.hid hsay
      have HST6 := Lib.hid hst6
      have y0 := cell_of H6.out.drop.drop.drop.cell.1 0; have y1 := cell_of H6.out.drop.drop.drop.cell.1 1; have y2 := cell_of H6.out.drop.drop.drop.cell.1 2; have y3 := cell_of H6.out.drop.drop.drop.cell.1 3; have y4 := cell_of H6.out.drop.drop.drop.cell.1 4
      have z0 := cell_of H6.out.cell.1 0; have z1 := cell_of H6.out.cell.1 1; have z2 := cell_of H6.out.cell.1 2; have z3 := cell_of H6.out.cell.1 3
      simp only [List.getElem?_toArray, List.getElem?_cons_zero, List.getElem?_cons_succ] at y0 y1 y2 y3 y4 z0 z1 z2 z3
      clear h7 hsay hst6 hst7
      go_region_law (first
        | (refine step_call_fn rfl 23 _ _ rfl enters_says [.pointer (some ⟨rb, 0, none⟩), opV ⟨ok, orun, opos, on, .slice av op.length cv, op⟩] rfl ?_; refine HSAY.out.mono ?_; rintro e w7 ⟨vb, rfl, h8⟩; obtain ⟨aob, capb, hvb, _, _⟩ := own_shape h8.row; subst hvb; have q0 := cell_of h8.drop.drop.cell.1 0; have q1 := cell_of h8.drop.drop.cell.1 1; have q2 := cell_of h8.drop.drop.cell.1 2; have q3 := cell_of h8.drop.drop.cell.1 3; simp only [List.getElem?_toArray, List.getElem?_cons_zero, List.getElem?_cons_succ] at q0 q1 q2 q3; have H8 := Lib.hid h8; clear h8)
        | (refine step_call_fn rfl 22 _ _ rfl enters_same [ansV A (.slice aol A.list.length capl), ansV A (.slice aob A.list.length capb)] rfl ?_; refine (same_refl A (RdRow.of_own H8.out.drop.drop.drop.row) (RdRow.of_own H8.out.row)).mono ?_; rintro e w8 ⟨rfl, hb8⟩; have HB8 := Lib.hid hb8; clear hb8))
      all_goals
        clear y0 y1 y2 y3 y4 z0 z1 z2 z3 q0 q1 q2 q3 HSAY
        have HEND := Lib.hid (H8.out.drop.swap.drop.swap.drop.pull3.drop.mono ((RefT.stable _ _).both ((StoreT.stable _ _).both Stable.nought)) HB8.out)
        (repeat' (first | (go_big_may; fail) | go_values | go_skip | go_guarded | go_step | go_upon | go_back | dsimp only))
        go_roundw
        case rel => exact ⟨k + 1, S2, by simp, by omega, HG2.out, HEND.out⟩
        case measure => simp [intOf] <;> omega
    · clear hh
      (repeat' (first | (go_big_may; fail) | go_values | go_skip | go_guarded | go_step | go_upon | go_back | dsimp only))
      go_ret
      exact ⟨rfl, HH.out.below⟩
end Go.Proofs.YtomlkhfmblkpcaaDoor

/- RunsNone walked. -/
import Derived.Test.YtomlkhfmblkpcaaDoorRunsPlaysN
import Derived.Test.YtomlkhfmblkpcaaDoorRunsWakesW
import Derived.Test.YtomlkhfmblkpcaaDoorSent8
import Derived.Test.YtomlkhfmblkpcaaDoorOpen
import Derived.Test.YtomlkhfmblkpcaaDoorCards
import Derived.Test.YtomlkhfmblkpcaaDoorTie
import Derived.Deep.DeepHandedRow
import Derived.Deep.DeepWitnessRowRef
import Derived.LaidMore
namespace Go.Proofs.YtomlkhfmblkpcaaDoor
open Go.RowKit

set_option maxRecDepth 100000 in
set_option maxHeartbeats 6400000 in
theorem runsNone_walk (W : World) (ef : Nat → Nat × Nat) (hF : Fails W ef failsAll) (ops : List OpD) (v : Value) (hops : OpsRow W v ops) (hlen : ops.length ≤ 1048576) :
    Calls Tryd.prog 7 #[v] W fun e w' => e = .returned (.bool true) ∧ Below W.heap.size W w' := by
  have HF := Lib.hid hF
  have HO := Lib.hid hops
  obtain ⟨ao, cap, hv, hcap, hcm⟩ := hops.row.shape
  subst hv
  clear hF hops
  go_enter Tryd.func7, Tryd.ntmps7
  (repeat' (first | (go_big_may; fail) | go_values | go_skip | go_guarded | go_step | go_upon | go_back | dsimp only))
  refine (wakes_calls (Below.refl _ _) HF.out (by decide) (by decide)).mono ?_
  rintro e w3 ⟨rfl, hb3⟩
  have H3 := Lib.hid (At.nought hb3)
  clear hb3
  (repeat' (first | (go_big_may; fail) | go_values | go_skip | go_guarded | go_step | go_upon | go_back | dsimp only))
  go_loopw [12] (fun i wr => ∃ k : Nat, i = .int .i64 k ∧ k ≤ ops.length ∧ At W wr Nought) (fun i _ => ops.length - (intOf i).toNat)
  case atStart => exact ⟨0, rfl, by omega, H3.out⟩
  case round =>
    obtain ⟨k, rfl, hk, hh⟩ := hrel
    have HH := Lib.hid hh
    clear H3
    by_cases hlt : (k : Int) < ops.length
    · have hkl : k < ops.length := by omega
      obtain ⟨bo, oo, co, hsl, ⟨x0, x1, x2, x3, x4⟩, hop⟩ := (HO.out.below hh.below).op hkl
      cases hsl
      have hopW : OpOk W (ops.getD k default) := HO.out.each _ (by rw [List.getD_eq_getElem?_getD, List.getElem?_eq_getElem hkl]; exact List.getElem_mem hkl)
      obtain ⟨av, cv, hov, _, _⟩ := hopW.row.shape
      generalize ops.getD k default = o at *
      have HOP := Lib.hid hopW
      obtain ⟨ok, orun, opos, on, ov, op⟩ := o
      dsimp only at hov x0 x1 x2 x3 x4
      subst hov
      have hk0 : (0 : Int) ≤ k := by omega
      have h4 := HH.out.newCell Stable.nought (opCells ⟨ok, orun, opos, on, .slice av op.length cv, op⟩) tOp
      obtain ⟨w4, hw4⟩ : ∃ w4, w4 = wr.alloc (.cells (opCells ⟨ok, orun, opos, on, .slice av op.length cv, op⟩) tOp) := ⟨_, rfl⟩
      rw [← hw4] at h4
      have H4 := Lib.hid h4
      have HW4 := Lib.hid hw4
      clear h4 hw4 hh hop
      go_upto_region 7 with (fail)
      rw [← HW4.out]
      clear HW4 x0 x1 x2 x3 x4
      generalize wr.heap.size = s4 at *
      have y0 := cell_of H4.out.cell.1 0; have y1 := cell_of H4.out.cell.1 1; have y2 := cell_of H4.out.cell.1 2; have y3 := cell_of H4.out.cell.1 3; have y4 := cell_of H4.out.cell.1 4
      simp only [List.getElem?_toArray, List.getElem?_cons_zero, List.getElem?_cons_succ] at y0 y1 y2 y3 y4
      have HS4 := Lib.hid (show Stable (Both (CellT s4 (opCells ⟨ok, orun, opos, on, .slice av op.length cv, op⟩) tOp) Nought) from (CellT.stable _ _ _).both Stable.nought)
      by_cases hin : 1 ≤ ok ∧ ok ≤ 6
      · obtain ⟨hi1, hi2⟩ := hin
        (repeat' (first | (go_big_may; fail) | go_values | go_skip | go_guarded | go_step | go_upon | go_back | dsimp only))
        refine (plays_none_err H4.out HS4.out HF.out HOP.out ⟨hi1, hi2⟩).mono ?_
        rintro e w5 ⟨rfl, h5⟩
        have h6 := (h5.newCell HS4.out #[.int .i64 0, .int .i64 1, .string ⟨#[]⟩, .slice none 0 0] tAns).newCell ((CellT.stable _ _ _).both HS4.out) #[.int .i64 0, .int .i64 1, .string ⟨#[]⟩, .slice none 0 0] tAns
        have hsz : (w5.alloc (.cells #[.int .i64 0, .int .i64 1, .string ⟨#[]⟩, .slice none 0 0] tAns)).heap.size = w5.heap.size + 1 := by simp
        rw [hsz] at h6
        obtain ⟨w7, hw7⟩ : ∃ w7, w7 = (w5.alloc (.cells #[.int .i64 0, .int .i64 1, .string ⟨#[]⟩, .slice none 0 0] tAns)).alloc (.cells #[.int .i64 0, .int .i64 1, .string ⟨#[]⟩, .slice none 0 0] tAns) := ⟨_, rfl⟩
        rw [← hw7] at h6
        have H6 := Lib.hid h6
        have HW7 := Lib.hid hw7
        have z0 := cell_of h5.cell.1 0
        have fz := thaw_of h5.cell.1
        have zl := lt_of_heap h5.cell.1
        simp only [List.getElem?_toArray, List.getElem?_cons_zero] at z0
        clear h5 y0 y1 y2 y3 y4 H4 h6 hw7 hsz
        go_upto_region 11 with (fail)
        rw [← HW7.out]
        clear HW7 z0 fz zl
        generalize w5.heap.size = s5 at *
        have r0 := cell_of H6.out.cell.1 0; have r1 := cell_of H6.out.cell.1 1; have r2 := cell_of H6.out.cell.1 2; have r3 := cell_of H6.out.cell.1 3
        have q0 := cell_of H6.out.drop.cell.1 0; have q1 := cell_of H6.out.drop.cell.1 1; have q2 := cell_of H6.out.drop.cell.1 2; have q3 := cell_of H6.out.drop.cell.1 3
        simp only [List.getElem?_toArray, List.getElem?_cons_zero, List.getElem?_cons_succ] at r0 r1 r2 r3 q0 q1 q2 q3
        (repeat' (first | (go_big_may; fail) | go_values | go_skip | go_guarded | go_step | go_upon | go_back | dsimp only))
        refine (same_refl ⟨0, 1, [], []⟩ (rd_nil _) (rd_nil _)).mono ?_
        rintro e w8 ⟨rfl, hb8⟩
        have HEND := Lib.hid (H6.out.drop.drop.drop.mono Stable.nought hb8)
        clear hb8 r0 r1 r2 r3 q0 q1 q2 q3
        (repeat' (first | (go_big_may; fail) | go_values | go_skip | go_guarded | go_step | go_upon | go_back | dsimp only))
        go_roundw
        case rel => exact ⟨k + 1, by simp, by omega, HEND.out⟩
        case measure => simp [intOf] <;> omega
      · have hnn : ok < 1 ∨ (1 ≤ ok ∧ ¬ ok ≤ 6) := by omega
        have HIN := Lib.hid hin
        clear hin
        rcases hnn with hn1 | ⟨hn1, hn2⟩
        all_goals
          (repeat' (first | (go_big_may; fail) | go_values | go_skip | go_guarded | go_step | go_upon | go_back | dsimp only))
          refine (plays_none_nil H4.out HS4.out HF.out HOP.out HIN.out).mono ?_
          rintro e w5 ⟨rfl, h5⟩
          have h6 := (h5.newCell HS4.out #[.int .i64 0, .int .i64 0, .string ⟨#[]⟩, .slice none 0 0] tAns).newCell ((CellT.stable _ _ _).both HS4.out) #[.int .i64 0, .int .i64 0, .string ⟨#[]⟩, .slice none 0 0] tAns
          have hsz : (w5.alloc (.cells #[.int .i64 0, .int .i64 0, .string ⟨#[]⟩, .slice none 0 0] tAns)).heap.size = w5.heap.size + 1 := by simp
          rw [hsz] at h6
          obtain ⟨w7, hw7⟩ : ∃ w7, w7 = (w5.alloc (.cells #[.int .i64 0, .int .i64 0, .string ⟨#[]⟩, .slice none 0 0] tAns)).alloc (.cells #[.int .i64 0, .int .i64 0, .string ⟨#[]⟩, .slice none 0 0] tAns) := ⟨_, rfl⟩
          rw [← hw7] at h6
          have H6 := Lib.hid h6
          have HW7 := Lib.hid hw7
          have z0 := cell_of h5.cell.1 0
          have fz := thaw_of h5.cell.1
          have zl := lt_of_heap h5.cell.1
          simp only [List.getElem?_toArray, List.getElem?_cons_zero] at z0
          clear h5 y0 y1 y2 y3 y4 H4 h6 hw7 hsz
          go_upto_region 11 with (fail)
          rw [← HW7.out]
          clear HW7 z0 fz zl
          generalize w5.heap.size = s5 at *
          have r0 := cell_of H6.out.cell.1 0; have r1 := cell_of H6.out.cell.1 1; have r2 := cell_of H6.out.cell.1 2; have r3 := cell_of H6.out.cell.1 3
          have q0 := cell_of H6.out.drop.cell.1 0; have q1 := cell_of H6.out.drop.cell.1 1; have q2 := cell_of H6.out.drop.cell.1 2; have q3 := cell_of H6.out.drop.cell.1 3
          simp only [List.getElem?_toArray, List.getElem?_cons_zero, List.getElem?_cons_succ] at r0 r1 r2 r3 q0 q1 q2 q3
          (repeat' (first | (go_big_may; fail) | go_values | go_skip | go_guarded | go_step | go_upon | go_back | dsimp only))
          refine (same_refl ⟨0, 0, [], []⟩ (rd_nil _) (rd_nil _)).mono ?_
          rintro e w8 ⟨rfl, hb8⟩
          have HEND := Lib.hid (H6.out.drop.drop.drop.mono Stable.nought hb8)
          clear hb8 r0 r1 r2 r3 q0 q1 q2 q3
          (repeat' (first | (go_big_may; fail) | go_values | go_skip | go_guarded | go_step | go_upon | go_back | dsimp only))
          go_roundw
          case rel => exact ⟨k + 1, by simp, by omega, HEND.out⟩
          case measure => simp [intOf] <;> omega
    · clear hh
      (repeat' (first | (go_big_may; fail) | go_values | go_skip | go_guarded | go_step | go_upon | go_back | dsimp only))
      go_ret
      exact ⟨rfl, HH.out.below⟩
end Go.Proofs.YtomlkhfmblkpcaaDoor

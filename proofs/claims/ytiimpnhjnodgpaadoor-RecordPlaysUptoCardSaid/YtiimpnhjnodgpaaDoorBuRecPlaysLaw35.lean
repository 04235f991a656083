/- RecordPlays walked. -/
import Derived.Test.YtiimpnhjnodgpaaDoorBuRecPlaysLaw34
import Derived.Test.YtiimpnhjnodgpaaDoorBuRecPlaysLaw20
set_option linter.unusedSimpArgs false
set_option linter.unusedVariables false
namespace Go.Proofs.YtiimpnhjnodgpaaDoor
open Go.RowKit

theorem At.boxes6 {W w : World} {Φ : Thing} {A : An6} {va vb : Value} (h : At W w (Both (RowT va A.list) (Both (RowT vb A.list) Φ))) (hs : Stable Φ) :
    At W ((w.alloc (.cells #[.int .i64 A.n, .int .i64 A.code, .string ⟨A.text.toArray⟩, .bool A.more, va] tAn6)).alloc (.cells #[.int .i64 A.n, .int .i64 A.code, .string ⟨A.text.toArray⟩, .bool A.more, vb] tAn6))
      (Both (CellT (w.heap.size + 1) #[.int .i64 A.n, .int .i64 A.code, .string ⟨A.text.toArray⟩, .bool A.more, vb] tAn6) (Both (CellT w.heap.size #[.int .i64 A.n, .int .i64 A.code, .string ⟨A.text.toArray⟩, .bool A.more, va] tAn6) (Both (RowT va A.list) (Both (RowT vb A.list) Φ)))) := by
  have s0 := (RowT.stable va A.list).both ((RowT.stable vb A.list).both hs)
  have h1 := h.newCell s0 #[.int .i64 A.n, .int .i64 A.code, .string ⟨A.text.toArray⟩, .bool A.more, va] tAn6
  have h2 := h1.newCell ((CellT.stable _ _ _).both s0) #[.int .i64 A.n, .int .i64 A.code, .string ⟨A.text.toArray⟩, .bool A.more, vb] tAn6
  have e2 : (w.alloc (.cells #[.int .i64 A.n, .int .i64 A.code, .string ⟨A.text.toArray⟩, .bool A.more, va] tAn6)).heap.size = w.heap.size + 1 := by simp
  rw [e2] at h2
  exact h2
theorem OpOk.live (W : World) : OpOk W ⟨10, 0, 0, .slice none 0 0, []⟩ :=
  ⟨by unfold inI64; dsimp only; omega, by unfold inI64; dsimp only; omega, by unfold inI64; dsimp only; omega, RdRow.of_own (World.ownsRow_nil W 0 9 1), by simp [cat]⟩
set_option maxRecDepth 100000 in
set_option maxHeartbeats 6400000 in
theorem recordPlays_walk (W : World) (ef : Nat → Nat × Nat) (hF : Fails W ef fails12) (c : Int) (hc : -9223372036854775808 ≤ c ∧ c ≤ 9223372036854775807) (ops : List Op6) (v : Value) (hops : OpsRow W v ops) (hlen : ops.length ≤ 1048576) :
    Calls Tryd.prog 4 #[.int .i64 c, v] W fun e w' => e = .returned (.bool true) ∧ Below W.heap.size W w' := by
  have HF := Lib.hid hF
  have HO := Lib.hid hops
  obtain ⟨ao, cap, hv, hcap, hcm⟩ := hops.row.shape
  subst hv
  clear hF hops
  go_enter Tryd.func4, Tryd.ntmps4
  (repeat' (first | (go_big_may; fail) | go_values | go_skip | go_guarded | go_step | go_upon | go_back | dsimp only))
  refine (New_at (At.nought (Below.refl _ _)) Stable.nought (by unfold inI64; omega)).mono ?_
  rintro e w1 ⟨rfl, h1⟩
  generalize W.heap.size + 1 = b at *
  have H1 := Lib.hid h1
  clear h1
  (repeat' (first | (go_big_may; fail) | go_values | go_skip | go_guarded | go_step | go_upon | go_back | dsimp only))
  refine (rNew_at H1.out ((StoreT.stable _ _).both Stable.nought) (by unfold inI64; omega)).mono ?_
  rintro e w2 ⟨rfl, h2⟩
  generalize w1.heap.size = rb at *
  have H2 := Lib.hid h2
  clear h2 H1
  (repeat' (first | (go_big_may; fail) | go_values | go_skip | go_guarded | go_step | go_upon | go_back | dsimp only))
  refine (wakes_calls _).mono ?_
  rintro e w3 ⟨rfl, hb3⟩
  have hst2 : Stable (Both (RefT rb (newSt c)) (Both (StoreT b (newSt c)) Nought)) := (RefT.stable _ _).both ((StoreT.stable _ _).both Stable.nought)
  have h3 := (H2.out.newCell hst2 (wldC b rb (.slice none 0 0) (.slice none 0 0) (.slice none 0 0) (.slice none 0 0)) tWld).mono ((CellT.stable _ _ _).both hst2) hb3
  generalize w2.heap.size = kx at *
  have hs3 := (CellT.stable kx (wldC b rb (.slice none 0 0) (.slice none 0 0) (.slice none 0 0) (.slice none 0 0)) tWld).both hst2
  have h4 := ((((h3.noRowG hs3 tPW 1).noRowG ((RowG.stable _ _ _ _ _).both hs3) tPW6 1).noRowG ((RowG.stable _ _ _ _ _).both ((RowG.stable _ _ _ _ _).both hs3)) tPR 1).noRowG ((RowG.stable _ _ _ _ _).both ((RowG.stable _ _ _ _ _).both ((RowG.stable _ _ _ _ _).both hs3))) tPR6 1)
  have h5 := ((h4.impl fun _ q => Both.nought q).impl fun _ q => Both.nought q).impl fun _ q => Both.nought q
  have h6 : At W w3 (WldI kx b rb ef (newSt c) [] [] (.slice none 0 0) (.slice none 0 0) (.slice none 0 0) (.slice none 0 0)) := h5.perm (by
    show _ = Both (CellT kx (wldC b rb (.slice none 0 0) (.slice none 0 0) (.slice none 0 0) (.slice none 0 0)) tWld) (Both (RowG tPW 1 (.slice none 0 0) 0 []) (Both (RowG tPW6 1 (.slice none 0 0) 0 []) (Both (RowG tPR 1 (.slice none 0 0) 0 []) (Both (RowG tPR6 1 (.slice none 0 0) 0 []) (Both (StoreT b (newSt c)) (Both (RefT rb (newSt c)) (Both Nought (Both Nought (Both Nought Nought)))))))))
    ac_rfl)
  have h7 : At W w3 (WldT kx b rb ef (newSt c) [] []) := h6.impl fun fp q => ⟨(_, _, _, _), q⟩
  have k0 := cell_at h6.cell.1 0
  have H3 := Lib.hid h7
  clear hb3 h3 h4 h5 h6 h7 hs3 hst2 H2
  (repeat' (first | (go_big_may; fail) | go_values | go_skip | go_guarded | go_step | go_upon | go_back | dsimp only))
  go_loopw [29] (fun i wr => ∃ (k : Nat) (S : St) (ws : List (Option PW)) (rs : List (Option PR)), i = .int .i64 k ∧ k ≤ ops.length ∧ PlayI S ws rs ∧ ws.length ≤ k ∧ rs.length ≤ k ∧ At W wr (WldT kx b rb ef S ws rs)) (fun i _ => ops.length - (intOf i).toNat)
  case atStart => exact ⟨0, _, _, _, rfl, by omega, PlayI.new c, by simp, by simp, H3.out⟩
  case round =>
    obtain ⟨k, S, ws, rs, rfl, hk, hP, hlw, hlr, hh⟩ := hrel
    have HH := Lib.hid hh
    have HP := Lib.hid hP
    clear H3 hP k0
    by_cases hlt : (k : Int) < ops.length
    · have hkl : k < ops.length := by omega
      obtain ⟨bo, oo, co, hsl, ⟨x0, x1, x2, x3⟩, hop⟩ := (HO.out.below hh.below).op hkl
      cases hsl
      have hopW : OpOk W (ops.getD k default) := HO.out.each _ (getD_mem hkl)
      obtain ⟨av, cv, hov, _, _⟩ := hopW.row.shape
      generalize ops.getD k default = o at *
      have HOP := Lib.hid hopW
      obtain ⟨ok, oat, on, ov, op⟩ := o
      dsimp only at hov x0 x1 x2 x3
      subst hov
      have hk0 : (0 : Int) ≤ k := by omega
      have hst := WldT.stable kx b rb ef S ws rs
      have h4 := HH.out.newCell hst (cellsOp ⟨ok, oat, on, .slice av op.length cv, op⟩).toArray tOp6
      obtain ⟨w4, hw4⟩ : ∃ w4, w4 = wr.alloc (.cells (cellsOp ⟨ok, oat, on, .slice av op.length cv, op⟩).toArray tOp6) := ⟨_, rfl⟩
      rw [← hw4] at h4
      have H4 := Lib.hid h4
      have HW4 := Lib.hid hw4
      clear h4 hw4 hh hop
      go_upto_region 7 with (fail)
      rw [show wr.alloc (Obj.cells #[.int .i64 ok, .int .i64 oat, .int .i64 on, .slice av op.length cv] tOp6) = w4 from HW4.out.symm]
      clear HW4 x0 x1 x2 x3
      generalize wr.heap.size = s4 at *
      have y0 := cell_at H4.out.cell.1 0; have y1 := cell_at H4.out.cell.1 1; have y2 := cell_at H4.out.cell.1 2; have y3 := cell_at H4.out.cell.1 3
      simp only [List.getElem?_toArray, List.getElem?_cons_zero, List.getElem?_cons_succ] at y0 y1 y2 y3
      (repeat' (first | (go_big_may; fail) | go_values | go_skip | go_guarded | go_step | go_upon | go_back | dsimp only))
      refine (stepAll_calls (o := ⟨ok, oat, on, .slice av op.length cv, op⟩) HF.out HP.out (by omega) (by omega) HOP.out H4.out.drop).mono ?_
      rintro e w5 ⟨A, va, vb, S2, ws2, rs2, rfl, hP2, hlw2, hlr2, h5⟩
      obtain ⟨aol, capl, hva, _, _⟩ := own_shape h5.row
      obtain ⟨bol, cbpl, hvb, _, _⟩ := own_shape h5.drop.row
      subst hva hvb
      have h6 := h5.boxes6 (WldT.stable kx b rb ef S2 ws2 rs2)
      obtain ⟨w6, hw6⟩ : ∃ w6, w6 = (w5.alloc (.cells #[.int .i64 A.n, .int .i64 A.code, .string ⟨A.text.toArray⟩, .bool A.more, .slice aol A.list.length capl] tAn6)).alloc (.cells #[.int .i64 A.n, .int .i64 A.code, .string ⟨A.text.toArray⟩, .bool A.more, .slice bol A.list.length cbpl] tAn6) := ⟨_, rfl⟩
      rw [← hw6] at h6
      have H6 := Lib.hid h6
      have HW6 := Lib.hid hw6
      have HP2 := Lib.hid hP2
      clear h5 hP2 y0 y1 y2 y3 H4 h6 hw6
      go_upto_region 8 with (fail)
      rw [← HW6.out]
      clear HW6
      generalize w5.heap.size = s5 at *
      have y0 := cell_at H6.out.cell.1 0; have y1 := cell_at H6.out.cell.1 1; have y2 := cell_at H6.out.cell.1 2; have y3 := cell_at H6.out.cell.1 3; have y4 := cell_at H6.out.cell.1 4
      have z0 := cell_at H6.out.drop.cell.1 0; have z1 := cell_at H6.out.drop.cell.1 1; have z2 := cell_at H6.out.drop.cell.1 2; have z3 := cell_at H6.out.drop.cell.1 3; have z4 := cell_at H6.out.drop.cell.1 4
      simp only [List.getElem?_toArray, List.getElem?_cons_zero, List.getElem?_cons_succ] at y0 y1 y2 y3 y4 z0 z1 z2 z3 z4
      (repeat' (first | (go_big_may; fail) | go_values | go_skip | go_guarded | go_step | go_upon | go_back | dsimp only))
      refine (same6_refl A (RdRow.of_own H6.out.drop.drop.row) (RdRow.of_own H6.out.drop.drop.drop.row)).mono ?_
      rintro e w7 ⟨rfl, hb7⟩
      have HEND := Lib.hid (H6.out.drop.drop.drop.drop.mono (WldT.stable kx b rb ef S2 ws2 rs2) hb7)
      clear y0 y1 y2 y3 y4 z0 z1 z2 z3 z4 hb7 H6
      (repeat' (first | (go_big_may; fail) | go_values | go_skip | go_guarded | go_step | go_upon | go_back | dsimp only))
      go_roundw
      case rel => exact ⟨k + 1, S2, ws2, rs2, by simp, by omega, HP2.out, by omega, by omega, HEND.out⟩
      case measure => simp [intOf] <;> omega
    · have HOP := Lib.hid (OpOk.live W)
      clear hh
      (repeat' (first | (go_big_may; fail) | go_values | go_skip | go_guarded | go_step | go_upon | go_back | dsimp only))
      refine (stepAll_calls (o := ⟨10, 0, 0, .slice none 0 0, []⟩) HF.out HP.out (by omega) (by omega) HOP.out HH.out).mono ?_
      rintro e w5 ⟨A, va, vb, S2, ws2, rs2, rfl, hP2, hlw2, hlr2, h5⟩
      obtain ⟨aol, capl, hva, _, _⟩ := own_shape h5.row
      obtain ⟨bol, cbpl, hvb, _, _⟩ := own_shape h5.drop.row
      subst hva hvb
      have h6 := h5.boxes6 (WldT.stable kx b rb ef S2 ws2 rs2)
      obtain ⟨w6, hw6⟩ : ∃ w6, w6 = (w5.alloc (.cells #[.int .i64 A.n, .int .i64 A.code, .string ⟨A.text.toArray⟩, .bool A.more, .slice aol A.list.length capl] tAn6)).alloc (.cells #[.int .i64 A.n, .int .i64 A.code, .string ⟨A.text.toArray⟩, .bool A.more, .slice bol A.list.length cbpl] tAn6) := ⟨_, rfl⟩
      rw [← hw6] at h6
      have H6 := Lib.hid h6
      have HW6 := Lib.hid hw6
      clear h5 hP2 h6 hw6
      go_upto_region 10 with (fail)
      rw [← HW6.out]
      clear HW6
      generalize w5.heap.size = s5 at *
      have y0 := cell_at H6.out.cell.1 0; have y1 := cell_at H6.out.cell.1 1; have y2 := cell_at H6.out.cell.1 2; have y3 := cell_at H6.out.cell.1 3; have y4 := cell_at H6.out.cell.1 4
      have z0 := cell_at H6.out.drop.cell.1 0; have z1 := cell_at H6.out.drop.cell.1 1; have z2 := cell_at H6.out.drop.cell.1 2; have z3 := cell_at H6.out.drop.cell.1 3; have z4 := cell_at H6.out.drop.cell.1 4
      simp only [List.getElem?_toArray, List.getElem?_cons_zero, List.getElem?_cons_succ] at y0 y1 y2 y3 y4 z0 z1 z2 z3 z4
      (repeat' (first | (go_big_may; fail) | go_values | go_skip | go_guarded | go_step | go_upon | go_back | dsimp only))
      refine (same6_refl A (RdRow.of_own H6.out.drop.drop.row) (RdRow.of_own H6.out.drop.drop.drop.row)).mono ?_
      rintro e w7 ⟨rfl, hb7⟩
      have HEND := Lib.hid (H6.out.drop.drop.drop.drop.mono (WldT.stable kx b rb ef S2 ws2 rs2) hb7)
      clear y0 y1 y2 y3 y4 z0 z1 z2 z3 z4 hb7 H6
      (repeat' (first | (go_big_may; fail) | go_values | go_skip | go_guarded | go_step | go_upon | go_back | dsimp only))
      go_ret
      exact ⟨rfl, HEND.out.below⟩
end Go.Proofs.YtiimpnhjnodgpaaDoor

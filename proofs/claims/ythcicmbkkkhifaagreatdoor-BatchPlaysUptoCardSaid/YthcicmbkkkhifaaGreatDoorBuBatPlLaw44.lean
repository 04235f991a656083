/- BatchPlays walked. -/
import Derived.Test.YthcicmbkkkhifaaGreatDoorBuBatPlLaw43
import Derived.Test.YthcicmbkkkhifaaGreatDoorBuBatPlLaw36
set_option linter.unusedSimpArgs false
set_option linter.unusedVariables false
namespace Go.Proofs.YthcicmbkkkhifaaGreatDoor
open Go.RowKit

theorem getD_mem9 {ops : List Op9} {k : Nat} (h : k < ops.length) : ops.getD k default ∈ ops := by
  rw [List.getD_eq_getElem?_getD, List.getElem?_eq_getElem h]
  exact List.getElem_mem h
set_option maxRecDepth 100000 in
set_option maxHeartbeats 6400000 in
theorem batchPlays_walk (W : World) (ef : Nat → Nat × Nat) (hF : Fails W ef fails13) (c : Int) (hc : -9223372036854775808 ≤ c ∧ c ≤ 9223372036854775807) (ops : List Op9) (v : Value) (hops : OpsRow W v ops) (hlen : ops.length ≤ 1048576) :
    Calls Tryz.prog 4 #[.int .i64 c, v] W fun e w' => e = .returned (.bool true) ∧ Below W.heap.size W w' := by
  have HF := Lib.hid hF
  have HO := Lib.hid hops
  obtain ⟨ao, cap, hv, hcap, hcm⟩ := hops.row.shape
  subst hv
  have hnot : ∀ (x : Bool) (w : World), (Op.unary .not (.bool x)).run Tryz.prog w = .ok (.bool (!x)) w := fun _ _ => rfl
  clear hF hops
  go_enter Tryz.func4, Tryz.ntmps4
  (repeat' (first | (go_big_may; fail) | go_values | go_skip | go_guarded | go_step | go_upon | go_back | dsimp only))
  refine (New_at (At.nought (Below.refl _ _)) Stable.nought (by unfold inI64; omega)).mono ?_
  rintro e w1 ⟨rfl, h1⟩
  generalize W.heap.size + 1 = b at *
  have H1 := Lib.hid h1
  clear h1
  (repeat' (first | (go_big_may; fail) | go_values | go_skip | go_guarded | go_step | go_upon | go_back | dsimp only))
  refine (rNew_at H1.out ((StoreT.stable _ _).both Stable.nought) (by unfold inI64; omega)).mono ?_
  rintro e w2 ⟨rfl, h2⟩
  generalize w1.heap.size = rb at *
  have hst2 : Stable (Both (RefT rb (newSt c)) (Both (StoreT b (newSt c)) Nought)) := (RefT.stable _ _).both ((StoreT.stable _ _).both Stable.nought)
  have h3 := h2.newCell hst2 (wl9C b rb (.slice none 0 0) (.slice none 0 0)) tWl9
  have hs3 := (CellT.stable w2.heap.size (wl9C b rb (.slice none 0 0) (.slice none 0 0)) tWl9).both hst2
  have h4 := (h3.noRowG hs3 tBF 1).noRowG ((RowG.stable _ _ _ _ _).both hs3) tBG 1
  have h6 : At W (w2.alloc (.cells (wl9C b rb (.slice none 0 0) (.slice none 0 0)) tWl9)) (Wl9I w2.heap.size b rb ef (newSt c) [] (.slice none 0 0) (.slice none 0 0)) := h4.perm (by
    show _ = Both (CellT w2.heap.size (wl9C b rb (.slice none 0 0) (.slice none 0 0)) tWl9) (Both (RowG tBF 1 (.slice none 0 0) 0 []) (Both (RowG tBG 1 (.slice none 0 0) 0 []) (Both (StoreT b (newSt c)) (Both (RefT rb (newSt c)) Nought))))
    ac_rfl)
  have H3 := Lib.hid h6
  clear h2 h3 h4 h6 hs3 hst2 H1
  (repeat' (first | (go_big_may; fail) | go_values | go_skip | go_guarded | go_step | go_upon | go_back | dsimp only))
  generalize w2.alloc _ = w3 at *
  generalize w2.heap.size = kx at *
  refine (wakes9_calls (fails13_12 (HF.out.below H3.out.below))).mono ?_
  rintro e w4 ⟨rfl, hb4⟩
  have h7 := H3.out.mono (Wl9I.stable _ _ _ _ _ _ _ _) hb4
  have k0 := cell_at h7.cell.1 0
  have lk := lt_of_heap h7.cell.1
  simp only [List.getElem?_toArray, List.getElem?_cons_zero, List.getElem?_cons_succ] at k0
  have H7 := Lib.hid (At.toWl9 h7)
  clear h7 hb4 H3
  (repeat' (first | (go_big_may; fail) | go_values | go_skip | go_guarded | go_step | go_upon | go_back | dsimp only))
  go_loopw [25] (fun i wr => ∃ (k : Nat) (S : St) (l : List (Option PF)), i = .int .i64 k ∧ k ≤ ops.length ∧ Play9 S l ∧ l.length ≤ k ∧ At W wr (Wl9T kx b rb ef S l)) (fun i _ => ops.length - (intOf i).toNat)
  case atStart => exact ⟨0, _, _, rfl, by omega, Play9.new c, by simp, H7.out⟩
  case round =>
    obtain ⟨k, S, l, rfl, hk, hP, hlw, hh⟩ := hrel
    have HH := Lib.hid hh
    have HP := Lib.hid hP
    clear H7 hP k0 lk
    by_cases hlt : (k : Int) < ops.length
    · have hkl : k < ops.length := by omega
      obtain ⟨bo, oo, co, hsl, ⟨x0, x1, x2, x3⟩, hop⟩ := (HO.out.below hh.below).op hkl
      cases hsl
      have hopW : OpOk W (ops.getD k default) := HO.out.each _ (getD_mem9 hkl)
      obtain ⟨av, cv, hov, _, _⟩ := hopW.row.shape
      generalize ops.getD k default = o at *
      have HOP := Lib.hid hopW
      obtain ⟨ok, oat, on, ov, op⟩ := o
      dsimp only at hov x0 x1 x2 x3
      subst hov
      have hk0 : (0 : Int) ≤ k := by omega
      have hst := Wl9T.stable kx b rb ef S l
      have h4 := HH.out.newCell hst (cellsO9 ⟨ok, oat, on, .slice av op.length cv, op⟩).toArray tOp9
      obtain ⟨w4, hw4⟩ : ∃ w4, w4 = wr.alloc (.cells (cellsO9 ⟨ok, oat, on, .slice av op.length cv, op⟩).toArray tOp9) := ⟨_, rfl⟩
      rw [← hw4] at h4
      have H4 := Lib.hid h4
      have HW4 := Lib.hid hw4
      clear h4 hw4 hh hop
      go_upto_region 7 with (fail)
      rw [show wr.alloc (Obj.cells #[.int .i64 ok, .int .i64 oat, .int .i64 on, .slice av op.length cv] tOp9) = w4 from HW4.out.symm]
      clear HW4 x0 x1 x2 x3
      generalize wr.heap.size = s4 at *
      have y0 := cell_at H4.out.cell.1 0; have y1 := cell_at H4.out.cell.1 1; have y2 := cell_at H4.out.cell.1 2; have y3 := cell_at H4.out.cell.1 3
      have ly := lt_of_heap H4.out.cell.1
      simp only [List.getElem?_toArray, List.getElem?_cons_zero, List.getElem?_cons_succ] at y0 y1 y2 y3
      (repeat' (first | (go_big_may; fail) | go_values | go_skip | go_guarded | go_step | go_upon | go_back | dsimp only))
      refine (stepAll9 (o := ⟨ok, oat, on, .slice av op.length cv, op⟩) HF.out HP.out (by omega) HOP.out H4.out.drop).mono ?_
      rintro e w5 ⟨rfl, S2, l2, hP2, hl2, h5⟩
      obtain ⟨fv2, gv2, h6⟩ := h5.wl9
      have HP2 := Lib.hid hP2
      have H6 := Lib.hid h6
      clear h5 h6 hP2 y0 y1 y2 y3 ly H4
      (repeat' (first | (go_big_may; fail) | go_values | go_skip | go_guarded | go_step | go_upon | go_back | dsimp only))
      refine (alike_calls (H6.out.perm (show _ = Both (CellT kx (wl9C b rb fv2 gv2) tWl9) (Both (StoreT b S2) (Both (RefT rb S2) (Both (RowG tBF 1 fv2 l2.length (l2.map (fPtr PF.k))) (Both (RowG tBG 1 gv2 l2.length (l2.map (fPtr PF.kr))) (FsT b ef l2))))) by unfold Wl9I; ac_rfl)) ((RowG.stable _ _ _ _ _).both ((RowG.stable _ _ _ _ _).both (FsT.stable l2))) HP2.out.good HP2.out.seal_).mono ?_
      rintro e w7 ⟨rfl, h8⟩
      have HEND := Lib.hid (At.toWl9 (l := l2) (fv := fv2) (gv := gv2) (h8.perm (show _ = Wl9I kx b rb ef S2 l2 fv2 gv2 by unfold Wl9I; ac_rfl)))
      have hwr : IntKind.i64.wrap ((k : Int) + 1) = ((k + 1 : Nat) : Int) := by rw [IntKind.wrap_i64] <;> omega
      clear h8 H6
      (repeat' (first | (go_big_may; fail) | go_values | go_skip | go_guarded | go_step | go_upon | go_back | dsimp only))
      go_roundw
      case rel => exact ⟨k + 1, S2, l2, by simp, by omega, HP2.out, by omega, HEND.out⟩
      case measure => simp [intOf] <;> omega
    · clear hh
      (repeat' (first | (go_big_may; fail) | go_values | go_skip | go_guarded | go_step | go_upon | go_back | dsimp only))
      go_ret
      exact ⟨rfl, HH.out.below⟩
end Go.Proofs.YthcicmbkkkhifaaGreatDoor

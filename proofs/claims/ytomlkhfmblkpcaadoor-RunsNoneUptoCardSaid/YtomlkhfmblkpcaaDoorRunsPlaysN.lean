/- runs: the calls of a nil store, walked (written by port/runsnil.py). · runs: the law's own 'plays', walked, kind by kind of a nil store (written by port/runsplaysn.py). · runs: 'plays' of a nil store at any call of a script. -/
import Derived.Test.YtomlkhfmblkpcaaDoorRunsOp
import Derived.Test.YtomlkhfmblkpcaaDoorRunsPlay
import Derived.Test.YtomlkhfmblkpcaaDoorRunsPlaysA
import Derived.Test.YtomlkhfmblkpcaaDoorAppendAt
import Derived.Test.YtomlkhfmblkpcaaDoorRunsOps
import Derived.Test.YtomlkhfmblkpcaaDoorRunsSame
namespace Go.Proofs.YtomlkhfmblkpcaaDoor
section
open Go.RowKit

section
variable {w : World} {ef : Nat → Nat × Nat} (hF : Fails w ef failsAll)
set_option maxHeartbeats 800000 in
include hF in
theorem step_nil : Calls Tryd.prog 28 #[.pointer none] w fun e w' => e = .returned (.iface tES (.pointer (some ⟨(ef 1).1, (ef 1).2, none⟩))) ∧ Below w.heap.size w w' := by
  have cg := hF.cell (1, 3) (by decide)
  have HD := Lib.hid (below_dW w)
  clear hF
  go_enter Tryd.func28, Tryd.ntmps28
  (repeat' (first | (go_big_may; fail) | go_values | go_skip | go_guarded | go_step | go_upon | go_back | dsimp only))
  (try go_quiet (fail))
  (try (repeat' (first | (go_big_may; fail) | go_values | go_skip | go_guarded | go_step | go_upon | go_back | dsimp only)))
  go_ret
  exact ⟨rfl, by first | exact Below.refl _ _ | exact HD.out _⟩

set_option maxHeartbeats 800000 in
include hF in
theorem Create_nil : Calls Tryd.prog 13 #[.pointer none] w fun e w' => e = .returned (.tuple #[.int .i64 0, .iface tES (.pointer (some ⟨(ef 1).1, (ef 1).2, none⟩))]) ∧ Below w.heap.size w w' := by
  have HS := Lib.hid (step_nil hF)
  have hnn : ∀ wz : World, (binOp .neq tErr (.iface tES (.pointer (some ⟨(ef 1).1, (ef 1).2, none⟩))) .nilIface).run Tryd.prog wz = .ok (.bool true) wz := fun wz => run_neq_iface_nil wz _ _ Tryd.underlying26
  clear hF
  go_enter Tryd.func13, Tryd.ntmps13
  (repeat' (first | (go_big_may; fail) | go_values | go_skip | go_guarded | go_step | go_upon | go_back | dsimp only))
  refine HS.out.mono ?_
  rintro e w1 ⟨rfl, hb⟩
  have HB := Lib.hid hb
  have HD := Lib.hid (fun n => hb.trans ((below_dW w1 n).mono hb.size))
  clear hb
  (repeat' (first | (go_big_may; fail) | go_values | go_skip | go_guarded | go_step | go_upon | go_back | dsimp only))
  (try go_quiet (fail))
  (try (repeat' (first | (go_big_may; fail) | go_values | go_skip | go_guarded | go_step | go_upon | go_back | dsimp only)))
  go_ret2
  exact ⟨rfl, by first | exact HB.out | exact HD.out _⟩

set_option maxHeartbeats 800000 in
include hF in
theorem Append_nil (z : Int) (v : Value) : Calls Tryd.prog 14 #[.pointer none, .int .i64 z, v] w fun e w' => e = .returned (.iface tES (.pointer (some ⟨(ef 1).1, (ef 1).2, none⟩))) ∧ Below w.heap.size w w' := by
  have HS := Lib.hid (step_nil hF)
  have hnn : ∀ wz : World, (binOp .neq tErr (.iface tES (.pointer (some ⟨(ef 1).1, (ef 1).2, none⟩))) .nilIface).run Tryd.prog wz = .ok (.bool true) wz := fun wz => run_neq_iface_nil wz _ _ Tryd.underlying26
  clear hF
  go_enter Tryd.func14, Tryd.ntmps14
  (repeat' (first | (go_big_may; fail) | go_values | go_skip | go_guarded | go_step | go_upon | go_back | dsimp only))
  refine HS.out.mono ?_
  rintro e w1 ⟨rfl, hb⟩
  have HB := Lib.hid hb
  have HD := Lib.hid (fun n => hb.trans ((below_dW w1 n).mono hb.size))
  clear hb
  (repeat' (first | (go_big_may; fail) | go_values | go_skip | go_guarded | go_step | go_upon | go_back | dsimp only))
  (try go_quiet (fail))
  (try (repeat' (first | (go_big_may; fail) | go_values | go_skip | go_guarded | go_step | go_upon | go_back | dsimp only)))
  go_ret
  exact ⟨rfl, by first | exact HB.out | exact HD.out _⟩

set_option maxHeartbeats 800000 in
include hF in
theorem Seal_nil (z : Int) : Calls Tryd.prog 15 #[.pointer none, .int .i64 z] w fun e w' => e = .returned (.iface tES (.pointer (some ⟨(ef 1).1, (ef 1).2, none⟩))) ∧ Below w.heap.size w w' := by
  have HS := Lib.hid (step_nil hF)
  have hnn : ∀ wz : World, (binOp .neq tErr (.iface tES (.pointer (some ⟨(ef 1).1, (ef 1).2, none⟩))) .nilIface).run Tryd.prog wz = .ok (.bool true) wz := fun wz => run_neq_iface_nil wz _ _ Tryd.underlying26
  clear hF
  go_enter Tryd.func15, Tryd.ntmps15
  (repeat' (first | (go_big_may; fail) | go_values | go_skip | go_guarded | go_step | go_upon | go_back | dsimp only))
  refine HS.out.mono ?_
  rintro e w1 ⟨rfl, hb⟩
  have HB := Lib.hid hb
  have HD := Lib.hid (fun n => hb.trans ((below_dW w1 n).mono hb.size))
  clear hb
  (repeat' (first | (go_big_may; fail) | go_values | go_skip | go_guarded | go_step | go_upon | go_back | dsimp only))
  (try go_quiet (fail))
  (try (repeat' (first | (go_big_may; fail) | go_values | go_skip | go_guarded | go_step | go_upon | go_back | dsimp only)))
  go_ret
  exact ⟨rfl, by first | exact HB.out | exact HD.out _⟩

set_option maxHeartbeats 800000 in
include hF in
theorem Read_nil (z a n : Int) : Calls Tryd.prog 33 #[.pointer none, .int .i64 z, .int .i64 a, .int .i64 n] w fun e w' => e = .returned (.tuple #[.string ⟨#[]⟩, .iface tES (.pointer (some ⟨(ef 1).1, (ef 1).2, none⟩))]) ∧ Below w.heap.size w w' := by
  have cg := hF.cell (1, 3) (by decide)
  have HD := Lib.hid (below_dW w)
  clear hF
  go_enter Tryd.func33, Tryd.ntmps33
  (repeat' (first | (go_big_may; fail) | go_values | go_skip | go_guarded | go_step | go_upon | go_back | dsimp only))
  (try go_quiet (fail))
  (try (repeat' (first | (go_big_may; fail) | go_values | go_skip | go_guarded | go_step | go_upon | go_back | dsimp only)))
  go_ret2
  exact ⟨rfl, by first | exact Below.refl _ _ | exact HD.out _⟩

set_option maxHeartbeats 800000 in
include hF in
theorem Size_nil (z : Int) : Calls Tryd.prog 31 #[.pointer none, .int .i64 z] w fun e w' => e = .returned (.tuple #[.int .i64 0, .iface tES (.pointer (some ⟨(ef 1).1, (ef 1).2, none⟩))]) ∧ Below w.heap.size w w' := by
  have cg := hF.cell (1, 3) (by decide)
  have HD := Lib.hid (below_dW w)
  clear hF
  go_enter Tryd.func31, Tryd.ntmps31
  (repeat' (first | (go_big_may; fail) | go_values | go_skip | go_guarded | go_step | go_upon | go_back | dsimp only))
  (try go_quiet (fail))
  (try (repeat' (first | (go_big_may; fail) | go_values | go_skip | go_guarded | go_step | go_upon | go_back | dsimp only)))
  go_ret2
  exact ⟨rfl, by first | exact Below.refl _ _ | exact HD.out _⟩

set_option maxHeartbeats 800000 in
include hF in
theorem Remove_nil (z : Int) : Calls Tryd.prog 16 #[.pointer none, .int .i64 z] w fun e w' => e = .returned (.iface tES (.pointer (some ⟨(ef 1).1, (ef 1).2, none⟩))) ∧ Below w.heap.size w w' := by
  have HS := Lib.hid (Size_nil hF z)
  have hnn : ∀ wz : World, (binOp .neq tErr (.iface tES (.pointer (some ⟨(ef 1).1, (ef 1).2, none⟩))) .nilIface).run Tryd.prog wz = .ok (.bool true) wz := fun wz => run_neq_iface_nil wz _ _ Tryd.underlying26
  clear hF
  go_enter Tryd.func16, Tryd.ntmps16
  (repeat' (first | (go_big_may; fail) | go_values | go_skip | go_guarded | go_step | go_upon | go_back | dsimp only))
  refine HS.out.mono ?_
  rintro e w1 ⟨rfl, hb⟩
  have HB := Lib.hid hb
  have HD := Lib.hid (fun n => hb.trans ((below_dW w1 n).mono hb.size))
  clear hb
  (repeat' (first | (go_big_may; fail) | go_values | go_skip | go_guarded | go_step | go_upon | go_back | dsimp only))
  (try go_quiet (fail))
  (try (repeat' (first | (go_big_may; fail) | go_values | go_skip | go_guarded | go_step | go_upon | go_back | dsimp only)))
  go_ret
  exact ⟨rfl, by first | exact HB.out | exact HD.out _⟩

set_option maxHeartbeats 800000 in

theorem Live_nil : Calls Tryd.prog 19 #[.pointer none] w fun e w' => e = .returned (.slice none 0 0) ∧ Below w.heap.size w w' := by
  have HD := Lib.hid (below_dW w)
  skip
  go_enter Tryd.func19, Tryd.ntmps19
  (repeat' (first | (go_big_may; fail) | go_values | go_skip | go_guarded | go_step | go_upon | go_back | dsimp only))
  (try go_quiet (fail))
  (try (repeat' (first | (go_big_may; fail) | go_values | go_skip | go_guarded | go_step | go_upon | go_back | dsimp only)))
  go_ret
  exact ⟨rfl, by first | exact Below.refl _ _ | exact HD.out _⟩

set_option maxHeartbeats 800000 in

theorem Used_nil : Calls Tryd.prog 17 #[.pointer none] w fun e w' => e = .returned (.int .i64 0) ∧ Below w.heap.size w w' := by
  have HD := Lib.hid (below_dW w)
  skip
  go_enter Tryd.func17, Tryd.ntmps17
  (repeat' (first | (go_big_may; fail) | go_values | go_skip | go_guarded | go_step | go_upon | go_back | dsimp only))
  (try go_quiet (fail))
  (try (repeat' (first | (go_big_may; fail) | go_values | go_skip | go_guarded | go_step | go_upon | go_back | dsimp only)))
  go_ret
  exact ⟨rfl, by first | exact Below.refl _ _ | exact HD.out _⟩

set_option maxHeartbeats 800000 in

theorem Peak_nil : Calls Tryd.prog 18 #[.pointer none] w fun e w' => e = .returned (.int .i64 0) ∧ Below w.heap.size w w' := by
  have HD := Lib.hid (below_dW w)
  skip
  go_enter Tryd.func18, Tryd.ntmps18
  (repeat' (first | (go_big_may; fail) | go_values | go_skip | go_guarded | go_step | go_upon | go_back | dsimp only))
  (try go_quiet (fail))
  (try (repeat' (first | (go_big_may; fail) | go_values | go_skip | go_guarded | go_step | go_upon | go_back | dsimp only)))
  go_ret
  exact ⟨rfl, by first | exact Below.refl _ _ | exact HD.out _⟩

set_option maxHeartbeats 800000 in

theorem Made_nil : Calls Tryd.prog 24 #[.pointer none] w fun e w' => e = .returned (.int .i64 0) ∧ Below w.heap.size w w' := by
  have HD := Lib.hid (below_dW w)
  skip
  go_enter Tryd.func24, Tryd.ntmps24
  (repeat' (first | (go_big_may; fail) | go_values | go_skip | go_guarded | go_step | go_upon | go_back | dsimp only))
  (try go_quiet (fail))
  (try (repeat' (first | (go_big_may; fail) | go_values | go_skip | go_guarded | go_step | go_upon | go_back | dsimp only)))
  go_ret
  exact ⟨rfl, by first | exact Below.refl _ _ | exact HD.out _⟩

set_option maxHeartbeats 800000 in

theorem Break_nil (z : Int) : Calls Tryd.prog 27 #[.pointer none, .int .i64 z] w fun e w' => e = .returned (.tuple #[]) ∧ Below w.heap.size w w' := by
  have HD := Lib.hid (below_dW w)
  skip
  go_enter Tryd.func27, Tryd.ntmps27
  (repeat' (first | (go_big_may; fail) | go_values | go_skip | go_guarded | go_step | go_upon | go_back | dsimp only))
  (try go_quiet (fail))
  (try (repeat' (first | (go_big_may; fail) | go_values | go_skip | go_guarded | go_step | go_upon | go_back | dsimp only)))
  go_end0
  exact ⟨rfl, by first | exact Below.refl _ _ | exact HD.out _⟩

end
end

section
open Go.RowKit

set_option maxRecDepth 100000 in
set_option maxHeartbeats 3200000 in
theorem playsn1 {W w : World} {R : Thing} (h : At W w R) (hR : Stable R) {ef : Nat → Nat × Nat} (hF : Fails W ef failsAll) {o : OpD} (ho : OpOk W o) (hk : o.k = 1) :
    Calls Tryd.prog 21 #[.pointer none, opV o] w fun e w' => e = .returned (ansV (⟨0, 1, [], []⟩ : AnsD) (.slice none 0 0)) ∧ At W w' R := by
  have h3 := h.three hR o
  have HST := Lib.hid ((CellT.stable (w.heap.size + 2) zeroAns tAns).both ((CellT.stable (w.heap.size + 1) zeroAns tAns).both ((CellT.stable w.heap.size (opCells o) tOp).both hR)))
  have H3 := Lib.hid h3
  have HF := Lib.hid hF
  have HRR := Lib.hid hR
  have HO := Lib.hid ho
  clear h h3 hF hR ho
  obtain ⟨k, run, pos, n, v, parts⟩ := o
  dsimp only at hk ⊢
  subst hk
  go_enter Tryd.func21, Tryd.ntmps21
  (repeat' (first | (go_big_may; fail) | go_values | go_skip | go_guarded | go_step | go_upon | go_back | dsimp only))
  refine (Create_nil (HF.out.below H3.out.below)).mono ?_
  rintro e w1 ⟨rfl, hb0⟩
  have h4 := H3.out.mono HST.out hb0
  clear hb0
  have hb1 := h4.below
  have e5 := h4.cell
  have e4 := h4.drop.cell
  have a0 := cell_of e5.1 0; have a1 := cell_of e5.1 1; have a2 := cell_of e5.1 2; have a3 := cell_of e5.1 3
  have f0 := thaw_of e5.1
  have g0 := thaw_of e4.1
  have d0 := cell_of e4.1 0; have d1 := cell_of e4.1 1; have d2 := cell_of e4.1 2; have d3 := cell_of e4.1 3
  simp only [List.getElem?_toArray, List.getElem?_cons_zero, List.getElem?_cons_succ] at a0 a1 a2 a3 d0 d1 d2 d3
  have H4 := Lib.hid h4
  have HB1 := Lib.hid hb1
  have HW := Lib.hid e5.2
  have E4 := Lib.hid e4.1
  clear h4 hb1 e5 e4 HST H3
  generalize w.heap.size = s at *
  (repeat' (first | (go_big_may; fail) | go_values | go_skip | go_guarded | go_step | go_upon | go_back | dsimp only))
  refine (code_calls (ef := ef) (c := 1) (HF.out.below ?hb) (show okC 1 from .inr (.inl rfl)).fails).mono ?_
  case hb => exact by (repeat' (first | with_reducible exact HB1.out | (with_reducible refine Below.setCell ?_ (by exact HW.out) _)))
  rintro e w2 ⟨rfl, rfl⟩
  (repeat' (first | (go_big_may; fail) | go_values | go_skip | go_guarded | go_step | go_upon | go_back | dsimp only))
  (try simp only [Exit.inBlock, Exit.then])
  refine bodyPost_ret (results_cell_row rfl _ _ (s + 1) tAns #[.int .i64 0, .int .i64 1, .string ⟨([]).toArray⟩, .slice none 0 0] (0, 0) _ rfl ?_ Tryd.underlying43 rfl (by kernel_rfl)) rfl ?_
  · have := E4.out
    simp [World.setCell, Array.getElem?_modify, this]
  · refine ⟨rfl, ?_⟩
    exact H4.out.lose3 HRR.out (by repeat' (first | with_reducible exact Upd.refl _ _ | (with_reducible refine Upd.setCell ?_ (.inl (by simp)) _)))

set_option maxRecDepth 100000 in
set_option maxHeartbeats 3200000 in
theorem playsn2 {W w : World} {R : Thing} (h : At W w R) (hR : Stable R) {ef : Nat → Nat × Nat} (hF : Fails W ef failsAll) {o : OpD} (ho : OpOk W o) (hk : o.k = 2) :
    Calls Tryd.prog 21 #[.pointer none, opV o] w fun e w' => e = .returned (ansV (⟨0, 1, [], []⟩ : AnsD) (.slice none 0 0)) ∧ At W w' R := by
  have h3 := h.three hR o
  have HST := Lib.hid ((CellT.stable (w.heap.size + 2) zeroAns tAns).both ((CellT.stable (w.heap.size + 1) zeroAns tAns).both ((CellT.stable w.heap.size (opCells o) tOp).both hR)))
  have H3 := Lib.hid h3
  have HF := Lib.hid hF
  have HRR := Lib.hid hR
  have HO := Lib.hid ho
  have hrow0 : RdRow (((w.alloc (.cells (opCells o) tOp)).alloc (.cells zeroAns tAns)).alloc (.cells zeroAns tAns)) o.v o.parts.length 1 (strs o.parts) := ho.row.below h3.below
  obtain ⟨v2, w2, hrun, hown2, hb2⟩ := append_nil_rd (P := Tryd.prog) 39 39 9 Tryd.underlying39 info_strR rfl (by decide) (hrow0.below (below_dW _ 1)) (by intro u hu; obtain ⟨r, _, rfl⟩ := List.mem_map.1 hu; rfl) (by have := ho.len; omega)
  have h4 := (h3.mono HST.out (below_dW _ 1)).mono HST.out hb2
  have happ := Append_nil (hF.below h4.below) o.run v2
  have e1 := (h3.drop.drop.cell).1
  have e2 := (h4.drop.drop.cell).1
  have HH4 := Lib.hid h4
  clear hrow0 hown2 hb2 h4
  clear h h3 hF hR ho
  obtain ⟨k, run, pos, n, v, parts⟩ := o
  dsimp only at hk happ hrun e1 e2 ⊢
  subst hk
  have d1 := cell_of e1 1; have d4 := cell_of e1 4; have c1 := cell_of e2 1; have c4 := cell_of e2 4
  simp only [List.getElem?_toArray, List.getElem?_cons_zero, List.getElem?_cons_succ] at d1 d4 c1 c4
  have HAPP := Lib.hid happ
  have HRUN := Lib.hid hrun
  clear happ hrun e1 e2
  go_enter Tryd.func21, Tryd.ntmps21
  obtain ⟨w1, hw1⟩ : ∃ w1, w1 = (((w.alloc (.cells (opCells ⟨2, run, pos, n, v, parts⟩) tOp)).alloc (.cells zeroAns tAns)).alloc (.cells zeroAns tAns)) := ⟨_, rfl⟩
  rw [← hw1] at d1 d4
  (repeat' (first | (go_big_may; fail) | go_values | go_skip | go_guarded | go_step | go_upon | go_back | dsimp only))
  rw [← hw1]
  have hrun := HRUN.out
  rw [← hw1] at hrun
  clear hw1 HRUN H3
  generalize w.heap.size = s at *
  go_region_law (first | (refine step_append_run rfl _ _ 39 rfl _ _ rfl rfl hrun ?_) | (refine step_call_fn rfl 14 _ _ rfl enters_append [.pointer none, .int .i64 run, v2] rfl ?_; refine HAPP.out.mono ?_; rintro e w3 ⟨rfl, hb5⟩; have H5 := Lib.hid (HH4.out.mono HST.out hb5); clear hb5))
  all_goals
    have h4 := H5.out
    clear hrun d1 d4 c1 c4 HAPP HH4
    have hb1 := h4.below
    have e5 := h4.cell
    have e4 := h4.drop.cell
    have a0 := cell_of e5.1 0; have a1 := cell_of e5.1 1; have a2 := cell_of e5.1 2; have a3 := cell_of e5.1 3
    have f0 := thaw_of e5.1
    have g0 := thaw_of e4.1
    have d0 := cell_of e4.1 0; have d1 := cell_of e4.1 1; have d2 := cell_of e4.1 2; have d3 := cell_of e4.1 3
    simp only [List.getElem?_toArray, List.getElem?_cons_zero, List.getElem?_cons_succ] at a0 a1 a2 a3 d0 d1 d2 d3
    have H4 := Lib.hid h4
    have HB1 := Lib.hid hb1
    have HW := Lib.hid e5.2
    have E4 := Lib.hid e4.1
    clear h4 hb1 e5 e4 HST
    (repeat' (first | (go_big_may; fail) | go_values | go_skip | go_guarded | go_step | go_upon | go_back | dsimp only))
    refine (code_calls (ef := ef) (c := 1) (HF.out.below ?hb) (show okC 1 from .inr (.inl rfl)).fails).mono ?_
    case hb => exact by (repeat' (first | with_reducible exact HB1.out | (with_reducible refine Below.setCell ?_ (by exact HW.out) _)))
    rintro e w2 ⟨rfl, rfl⟩
    (repeat' (first | (go_big_may; fail) | go_values | go_skip | go_guarded | go_step | go_upon | go_back | dsimp only))
    (try simp only [Exit.inBlock, Exit.then])
    refine bodyPost_ret (results_cell_row rfl _ _ (s + 1) tAns #[.int .i64 0, .int .i64 1, .string ⟨([]).toArray⟩, .slice none 0 0] (0, 0) _ rfl ?_ Tryd.underlying43 rfl (by kernel_rfl)) rfl ?_
    · have := E4.out
      simp [World.setCell, Array.getElem?_modify, this]
    · refine ⟨rfl, ?_⟩
      exact H4.out.lose3 HRR.out (by repeat' (first | with_reducible exact Upd.refl _ _ | (with_reducible refine Upd.setCell ?_ (.inl (by simp)) _)))

set_option maxRecDepth 100000 in
set_option maxHeartbeats 3200000 in
theorem playsn3 {W w : World} {R : Thing} (h : At W w R) (hR : Stable R) {ef : Nat → Nat × Nat} (hF : Fails W ef failsAll) {o : OpD} (ho : OpOk W o) (hk : o.k = 3) :
    Calls Tryd.prog 21 #[.pointer none, opV o] w fun e w' => e = .returned (ansV (⟨0, 1, [], []⟩ : AnsD) (.slice none 0 0)) ∧ At W w' R := by
  have h3 := h.three hR o
  have HST := Lib.hid ((CellT.stable (w.heap.size + 2) zeroAns tAns).both ((CellT.stable (w.heap.size + 1) zeroAns tAns).both ((CellT.stable w.heap.size (opCells o) tOp).both hR)))
  have H3 := Lib.hid h3
  have HF := Lib.hid hF
  have HRR := Lib.hid hR
  have HO := Lib.hid ho
  clear h h3 hF hR ho
  obtain ⟨k, run, pos, n, v, parts⟩ := o
  dsimp only at hk ⊢
  subst hk
  go_enter Tryd.func21, Tryd.ntmps21
  (repeat' (first | (go_big_may; fail) | go_values | go_skip | go_guarded | go_step | go_upon | go_back | dsimp only))
  refine (Seal_nil (HF.out.below H3.out.below) run).mono ?_
  rintro e w1 ⟨rfl, hb0⟩
  have h4 := H3.out.mono HST.out hb0
  clear hb0
  have hb1 := h4.below
  have e5 := h4.cell
  have e4 := h4.drop.cell
  have a0 := cell_of e5.1 0; have a1 := cell_of e5.1 1; have a2 := cell_of e5.1 2; have a3 := cell_of e5.1 3
  have f0 := thaw_of e5.1
  have g0 := thaw_of e4.1
  have d0 := cell_of e4.1 0; have d1 := cell_of e4.1 1; have d2 := cell_of e4.1 2; have d3 := cell_of e4.1 3
  simp only [List.getElem?_toArray, List.getElem?_cons_zero, List.getElem?_cons_succ] at a0 a1 a2 a3 d0 d1 d2 d3
  have H4 := Lib.hid h4
  have HB1 := Lib.hid hb1
  have HW := Lib.hid e5.2
  have E4 := Lib.hid e4.1
  clear h4 hb1 e5 e4 HST H3
  generalize w.heap.size = s at *
  (repeat' (first | (go_big_may; fail) | go_values | go_skip | go_guarded | go_step | go_upon | go_back | dsimp only))
  refine (code_calls (ef := ef) (c := 1) (HF.out.below ?hb) (show okC 1 from .inr (.inl rfl)).fails).mono ?_
  case hb => exact by (repeat' (first | with_reducible exact HB1.out | (with_reducible refine Below.setCell ?_ (by exact HW.out) _)))
  rintro e w2 ⟨rfl, rfl⟩
  (repeat' (first | (go_big_may; fail) | go_values | go_skip | go_guarded | go_step | go_upon | go_back | dsimp only))
  (try simp only [Exit.inBlock, Exit.then])
  refine bodyPost_ret (results_cell_row rfl _ _ (s + 1) tAns #[.int .i64 0, .int .i64 1, .string ⟨([]).toArray⟩, .slice none 0 0] (0, 0) _ rfl ?_ Tryd.underlying43 rfl (by kernel_rfl)) rfl ?_
  · have := E4.out
    simp [World.setCell, Array.getElem?_modify, this]
  · refine ⟨rfl, ?_⟩
    exact H4.out.lose3 HRR.out (by repeat' (first | with_reducible exact Upd.refl _ _ | (with_reducible refine Upd.setCell ?_ (.inl (by simp)) _)))

set_option maxRecDepth 100000 in
set_option maxHeartbeats 3200000 in
theorem playsn4 {W w : World} {R : Thing} (h : At W w R) (hR : Stable R) {ef : Nat → Nat × Nat} (hF : Fails W ef failsAll) {o : OpD} (ho : OpOk W o) (hk : o.k = 4) :
    Calls Tryd.prog 21 #[.pointer none, opV o] w fun e w' => e = .returned (ansV (⟨0, 1, [], []⟩ : AnsD) (.slice none 0 0)) ∧ At W w' R := by
  have h3 := h.three hR o
  have HST := Lib.hid ((CellT.stable (w.heap.size + 2) zeroAns tAns).both ((CellT.stable (w.heap.size + 1) zeroAns tAns).both ((CellT.stable w.heap.size (opCells o) tOp).both hR)))
  have H3 := Lib.hid h3
  have HF := Lib.hid hF
  have HRR := Lib.hid hR
  have HO := Lib.hid ho
  clear h h3 hF hR ho
  obtain ⟨k, run, pos, n, v, parts⟩ := o
  dsimp only at hk ⊢
  subst hk
  go_enter Tryd.func21, Tryd.ntmps21
  (repeat' (first | (go_big_may; fail) | go_values | go_skip | go_guarded | go_step | go_upon | go_back | dsimp only))
  refine (Read_nil (HF.out.below H3.out.below) run pos n).mono ?_
  rintro e w1 ⟨rfl, hb0⟩
  have h4 := H3.out.mono HST.out hb0
  clear hb0
  have hb1 := h4.below
  have e5 := h4.cell
  have e4 := h4.drop.cell
  have a0 := cell_of e5.1 0; have a1 := cell_of e5.1 1; have a2 := cell_of e5.1 2; have a3 := cell_of e5.1 3
  have f0 := thaw_of e5.1
  have g0 := thaw_of e4.1
  have d0 := cell_of e4.1 0; have d1 := cell_of e4.1 1; have d2 := cell_of e4.1 2; have d3 := cell_of e4.1 3
  simp only [List.getElem?_toArray, List.getElem?_cons_zero, List.getElem?_cons_succ] at a0 a1 a2 a3 d0 d1 d2 d3
  have H4 := Lib.hid h4
  have HB1 := Lib.hid hb1
  have HW := Lib.hid e5.2
  have E4 := Lib.hid e4.1
  clear h4 hb1 e5 e4 HST H3
  generalize w.heap.size = s at *
  (repeat' (first | (go_big_may; fail) | go_values | go_skip | go_guarded | go_step | go_upon | go_back | dsimp only))
  refine (code_calls (ef := ef) (c := 1) (HF.out.below ?hb) (show okC 1 from .inr (.inl rfl)).fails).mono ?_
  case hb => exact by (repeat' (first | with_reducible exact HB1.out | (with_reducible refine Below.setCell ?_ (by exact HW.out) _)))
  rintro e w2 ⟨rfl, rfl⟩
  (repeat' (first | (go_big_may; fail) | go_values | go_skip | go_guarded | go_step | go_upon | go_back | dsimp only))
  (try simp only [Exit.inBlock, Exit.then])
  refine bodyPost_ret (results_cell_row rfl _ _ (s + 1) tAns #[.int .i64 0, .int .i64 1, .string ⟨([]).toArray⟩, .slice none 0 0] (0, 0) _ rfl ?_ Tryd.underlying43 rfl (by kernel_rfl)) rfl ?_
  · have := E4.out
    simp [World.setCell, Array.getElem?_modify, this]
  · refine ⟨rfl, ?_⟩
    exact H4.out.lose3 HRR.out (by repeat' (first | with_reducible exact Upd.refl _ _ | (with_reducible refine Upd.setCell ?_ (.inl (by simp)) _)))

set_option maxRecDepth 100000 in
set_option maxHeartbeats 3200000 in
theorem playsn5 {W w : World} {R : Thing} (h : At W w R) (hR : Stable R) {ef : Nat → Nat × Nat} (hF : Fails W ef failsAll) {o : OpD} (ho : OpOk W o) (hk : o.k = 5) :
    Calls Tryd.prog 21 #[.pointer none, opV o] w fun e w' => e = .returned (ansV (⟨0, 1, [], []⟩ : AnsD) (.slice none 0 0)) ∧ At W w' R := by
  have h3 := h.three hR o
  have HST := Lib.hid ((CellT.stable (w.heap.size + 2) zeroAns tAns).both ((CellT.stable (w.heap.size + 1) zeroAns tAns).both ((CellT.stable w.heap.size (opCells o) tOp).both hR)))
  have H3 := Lib.hid h3
  have HF := Lib.hid hF
  have HRR := Lib.hid hR
  have HO := Lib.hid ho
  clear h h3 hF hR ho
  obtain ⟨k, run, pos, n, v, parts⟩ := o
  dsimp only at hk ⊢
  subst hk
  go_enter Tryd.func21, Tryd.ntmps21
  (repeat' (first | (go_big_may; fail) | go_values | go_skip | go_guarded | go_step | go_upon | go_back | dsimp only))
  refine (Size_nil (HF.out.below H3.out.below) run).mono ?_
  rintro e w1 ⟨rfl, hb0⟩
  have h4 := H3.out.mono HST.out hb0
  clear hb0
  have hb1 := h4.below
  have e5 := h4.cell
  have e4 := h4.drop.cell
  have a0 := cell_of e5.1 0; have a1 := cell_of e5.1 1; have a2 := cell_of e5.1 2; have a3 := cell_of e5.1 3
  have f0 := thaw_of e5.1
  have g0 := thaw_of e4.1
  have d0 := cell_of e4.1 0; have d1 := cell_of e4.1 1; have d2 := cell_of e4.1 2; have d3 := cell_of e4.1 3
  simp only [List.getElem?_toArray, List.getElem?_cons_zero, List.getElem?_cons_succ] at a0 a1 a2 a3 d0 d1 d2 d3
  have H4 := Lib.hid h4
  have HB1 := Lib.hid hb1
  have HW := Lib.hid e5.2
  have E4 := Lib.hid e4.1
  clear h4 hb1 e5 e4 HST H3
  generalize w.heap.size = s at *
  (repeat' (first | (go_big_may; fail) | go_values | go_skip | go_guarded | go_step | go_upon | go_back | dsimp only))
  refine (code_calls (ef := ef) (c := 1) (HF.out.below ?hb) (show okC 1 from .inr (.inl rfl)).fails).mono ?_
  case hb => exact by (repeat' (first | with_reducible exact HB1.out | (with_reducible refine Below.setCell ?_ (by exact HW.out) _)))
  rintro e w2 ⟨rfl, rfl⟩
  (repeat' (first | (go_big_may; fail) | go_values | go_skip | go_guarded | go_step | go_upon | go_back | dsimp only))
  (try simp only [Exit.inBlock, Exit.then])
  refine bodyPost_ret (results_cell_row rfl _ _ (s + 1) tAns #[.int .i64 0, .int .i64 1, .string ⟨([]).toArray⟩, .slice none 0 0] (0, 0) _ rfl ?_ Tryd.underlying43 rfl (by kernel_rfl)) rfl ?_
  · have := E4.out
    simp [World.setCell, Array.getElem?_modify, this]
  · refine ⟨rfl, ?_⟩
    exact H4.out.lose3 HRR.out (by repeat' (first | with_reducible exact Upd.refl _ _ | (with_reducible refine Upd.setCell ?_ (.inl (by simp)) _)))

set_option maxRecDepth 100000 in
set_option maxHeartbeats 3200000 in
theorem playsn6 {W w : World} {R : Thing} (h : At W w R) (hR : Stable R) {ef : Nat → Nat × Nat} (hF : Fails W ef failsAll) {o : OpD} (ho : OpOk W o) (hk : o.k = 6) :
    Calls Tryd.prog 21 #[.pointer none, opV o] w fun e w' => e = .returned (ansV (⟨0, 1, [], []⟩ : AnsD) (.slice none 0 0)) ∧ At W w' R := by
  have h3 := h.three hR o
  have HST := Lib.hid ((CellT.stable (w.heap.size + 2) zeroAns tAns).both ((CellT.stable (w.heap.size + 1) zeroAns tAns).both ((CellT.stable w.heap.size (opCells o) tOp).both hR)))
  have H3 := Lib.hid h3
  have HF := Lib.hid hF
  have HRR := Lib.hid hR
  have HO := Lib.hid ho
  clear h h3 hF hR ho
  obtain ⟨k, run, pos, n, v, parts⟩ := o
  dsimp only at hk ⊢
  subst hk
  go_enter Tryd.func21, Tryd.ntmps21
  (repeat' (first | (go_big_may; fail) | go_values | go_skip | go_guarded | go_step | go_upon | go_back | dsimp only))
  refine (Remove_nil (HF.out.below H3.out.below) run).mono ?_
  rintro e w1 ⟨rfl, hb0⟩
  have h4 := H3.out.mono HST.out hb0
  clear hb0
  have hb1 := h4.below
  have e5 := h4.cell
  have e4 := h4.drop.cell
  have a0 := cell_of e5.1 0; have a1 := cell_of e5.1 1; have a2 := cell_of e5.1 2; have a3 := cell_of e5.1 3
  have f0 := thaw_of e5.1
  have g0 := thaw_of e4.1
  have d0 := cell_of e4.1 0; have d1 := cell_of e4.1 1; have d2 := cell_of e4.1 2; have d3 := cell_of e4.1 3
  simp only [List.getElem?_toArray, List.getElem?_cons_zero, List.getElem?_cons_succ] at a0 a1 a2 a3 d0 d1 d2 d3
  have H4 := Lib.hid h4
  have HB1 := Lib.hid hb1
  have HW := Lib.hid e5.2
  have E4 := Lib.hid e4.1
  clear h4 hb1 e5 e4 HST H3
  generalize w.heap.size = s at *
  (repeat' (first | (go_big_may; fail) | go_values | go_skip | go_guarded | go_step | go_upon | go_back | dsimp only))
  refine (code_calls (ef := ef) (c := 1) (HF.out.below ?hb) (show okC 1 from .inr (.inl rfl)).fails).mono ?_
  case hb => exact by (repeat' (first | with_reducible exact HB1.out | (with_reducible refine Below.setCell ?_ (by exact HW.out) _)))
  rintro e w2 ⟨rfl, rfl⟩
  (repeat' (first | (go_big_may; fail) | go_values | go_skip | go_guarded | go_step | go_upon | go_back | dsimp only))
  (try simp only [Exit.inBlock, Exit.then])
  refine bodyPost_ret (results_cell_row rfl _ _ (s + 1) tAns #[.int .i64 0, .int .i64 1, .string ⟨([]).toArray⟩, .slice none 0 0] (0, 0) _ rfl ?_ Tryd.underlying43 rfl (by kernel_rfl)) rfl ?_
  · have := E4.out
    simp [World.setCell, Array.getElem?_modify, this]
  · refine ⟨rfl, ?_⟩
    exact H4.out.lose3 HRR.out (by repeat' (first | with_reducible exact Upd.refl _ _ | (with_reducible refine Upd.setCell ?_ (.inl (by simp)) _)))

set_option maxRecDepth 100000 in
set_option maxHeartbeats 3200000 in
theorem playsn7 {W w : World} {R : Thing} (h : At W w R) (hR : Stable R) {ef : Nat → Nat × Nat} (hF : Fails W ef failsAll) {o : OpD} (ho : OpOk W o) (hk : o.k = 7) :
    Calls Tryd.prog 21 #[.pointer none, opV o] w fun e w' => e = .returned (ansV (⟨0, 0, [], []⟩ : AnsD) (.slice none 0 0)) ∧ At W w' R := by
  have h3 := h.three hR o
  have HST := Lib.hid ((CellT.stable (w.heap.size + 2) zeroAns tAns).both ((CellT.stable (w.heap.size + 1) zeroAns tAns).both ((CellT.stable w.heap.size (opCells o) tOp).both hR)))
  have H3 := Lib.hid h3
  have HF := Lib.hid hF
  have HRR := Lib.hid hR
  have HO := Lib.hid ho
  clear h h3 hF hR ho
  obtain ⟨k, run, pos, n, v, parts⟩ := o
  dsimp only at hk ⊢
  subst hk
  go_enter Tryd.func21, Tryd.ntmps21
  (repeat' (first | (go_big_may; fail) | go_values | go_skip | go_guarded | go_step | go_upon | go_back | dsimp only))
  refine (Live_nil).mono ?_
  rintro e w1 ⟨rfl, hb0⟩
  have h4 := H3.out.mono HST.out hb0
  clear hb0
  have hb1 := h4.below
  have e5 := h4.cell
  have e4 := h4.drop.cell
  have a0 := cell_of e5.1 0; have a1 := cell_of e5.1 1; have a2 := cell_of e5.1 2; have a3 := cell_of e5.1 3
  have f0 := thaw_of e5.1
  have g0 := thaw_of e4.1
  have d0 := cell_of e4.1 0; have d1 := cell_of e4.1 1; have d2 := cell_of e4.1 2; have d3 := cell_of e4.1 3
  simp only [List.getElem?_toArray, List.getElem?_cons_zero, List.getElem?_cons_succ] at a0 a1 a2 a3 d0 d1 d2 d3
  have H4 := Lib.hid h4
  have HB1 := Lib.hid hb1
  have HW := Lib.hid e5.2
  have E4 := Lib.hid e4.1
  clear h4 hb1 e5 e4 HST H3
  generalize w.heap.size = s at *
  (repeat' (first | (go_big_may; fail) | go_values | go_skip | go_guarded | go_step | go_upon | go_back | dsimp only))
  refine (code_zero (ef := ef) (HF.out.below ?hb)).mono ?_
  case hb => exact by (repeat' (first | with_reducible exact HB1.out | (with_reducible refine Below.setCell ?_ (by exact HW.out) _)))
  rintro e w2 ⟨rfl, rfl⟩
  (repeat' (first | (go_big_may; fail) | go_values | go_skip | go_guarded | go_step | go_upon | go_back | dsimp only))
  (try simp only [Exit.inBlock, Exit.then])
  refine bodyPost_ret (results_cell_row rfl _ _ (s + 1) tAns #[.int .i64 0, .int .i64 0, .string ⟨([]).toArray⟩, .slice none 0 0] (0, 0) _ rfl ?_ Tryd.underlying43 rfl (by kernel_rfl)) rfl ?_
  · have := E4.out
    simp [World.setCell, Array.getElem?_modify, this]
  · refine ⟨rfl, ?_⟩
    exact H4.out.lose3 HRR.out (by repeat' (first | with_reducible exact Upd.refl _ _ | (with_reducible refine Upd.setCell ?_ (.inl (by simp)) _)))

set_option maxRecDepth 100000 in
set_option maxHeartbeats 3200000 in
theorem playsn8 {W w : World} {R : Thing} (h : At W w R) (hR : Stable R) {ef : Nat → Nat × Nat} (hF : Fails W ef failsAll) {o : OpD} (ho : OpOk W o) (hk : o.k = 8) :
    Calls Tryd.prog 21 #[.pointer none, opV o] w fun e w' => e = .returned (ansV (⟨0, 0, [], []⟩ : AnsD) (.slice none 0 0)) ∧ At W w' R := by
  have h3 := h.three hR o
  have HST := Lib.hid ((CellT.stable (w.heap.size + 2) zeroAns tAns).both ((CellT.stable (w.heap.size + 1) zeroAns tAns).both ((CellT.stable w.heap.size (opCells o) tOp).both hR)))
  have H3 := Lib.hid h3
  have HF := Lib.hid hF
  have HRR := Lib.hid hR
  have HO := Lib.hid ho
  clear h h3 hF hR ho
  obtain ⟨k, run, pos, n, v, parts⟩ := o
  dsimp only at hk ⊢
  subst hk
  go_enter Tryd.func21, Tryd.ntmps21
  (repeat' (first | (go_big_may; fail) | go_values | go_skip | go_guarded | go_step | go_upon | go_back | dsimp only))
  refine (Used_nil).mono ?_
  rintro e w1 ⟨rfl, hb0⟩
  have h4 := H3.out.mono HST.out hb0
  clear hb0
  have hb1 := h4.below
  have e5 := h4.cell
  have e4 := h4.drop.cell
  have a0 := cell_of e5.1 0; have a1 := cell_of e5.1 1; have a2 := cell_of e5.1 2; have a3 := cell_of e5.1 3
  have f0 := thaw_of e5.1
  have g0 := thaw_of e4.1
  have d0 := cell_of e4.1 0; have d1 := cell_of e4.1 1; have d2 := cell_of e4.1 2; have d3 := cell_of e4.1 3
  simp only [List.getElem?_toArray, List.getElem?_cons_zero, List.getElem?_cons_succ] at a0 a1 a2 a3 d0 d1 d2 d3
  have H4 := Lib.hid h4
  have HB1 := Lib.hid hb1
  have HW := Lib.hid e5.2
  have E4 := Lib.hid e4.1
  clear h4 hb1 e5 e4 HST H3
  generalize w.heap.size = s at *
  (repeat' (first | (go_big_may; fail) | go_values | go_skip | go_guarded | go_step | go_upon | go_back | dsimp only))
  refine (code_zero (ef := ef) (HF.out.below ?hb)).mono ?_
  case hb => exact by (repeat' (first | with_reducible exact HB1.out | (with_reducible refine Below.setCell ?_ (by exact HW.out) _)))
  rintro e w2 ⟨rfl, rfl⟩
  (repeat' (first | (go_big_may; fail) | go_values | go_skip | go_guarded | go_step | go_upon | go_back | dsimp only))
  (try simp only [Exit.inBlock, Exit.then])
  refine bodyPost_ret (results_cell_row rfl _ _ (s + 1) tAns #[.int .i64 0, .int .i64 0, .string ⟨([]).toArray⟩, .slice none 0 0] (0, 0) _ rfl ?_ Tryd.underlying43 rfl (by kernel_rfl)) rfl ?_
  · have := E4.out
    simp [World.setCell, Array.getElem?_modify, this]
  · refine ⟨rfl, ?_⟩
    exact H4.out.lose3 HRR.out (by repeat' (first | with_reducible exact Upd.refl _ _ | (with_reducible refine Upd.setCell ?_ (.inl (by simp)) _)))

set_option maxRecDepth 100000 in
set_option maxHeartbeats 3200000 in
theorem playsn9 {W w : World} {R : Thing} (h : At W w R) (hR : Stable R) {ef : Nat → Nat × Nat} (hF : Fails W ef failsAll) {o : OpD} (ho : OpOk W o) (hk : o.k = 9) :
    Calls Tryd.prog 21 #[.pointer none, opV o] w fun e w' => e = .returned (ansV (⟨0, 0, [], []⟩ : AnsD) (.slice none 0 0)) ∧ At W w' R := by
  have h3 := h.three hR o
  have HST := Lib.hid ((CellT.stable (w.heap.size + 2) zeroAns tAns).both ((CellT.stable (w.heap.size + 1) zeroAns tAns).both ((CellT.stable w.heap.size (opCells o) tOp).both hR)))
  have H3 := Lib.hid h3
  have HF := Lib.hid hF
  have HRR := Lib.hid hR
  have HO := Lib.hid ho
  clear h h3 hF hR ho
  obtain ⟨k, run, pos, n, v, parts⟩ := o
  dsimp only at hk ⊢
  subst hk
  go_enter Tryd.func21, Tryd.ntmps21
  (repeat' (first | (go_big_may; fail) | go_values | go_skip | go_guarded | go_step | go_upon | go_back | dsimp only))
  refine (Peak_nil).mono ?_
  rintro e w1 ⟨rfl, hb0⟩
  have h4 := H3.out.mono HST.out hb0
  clear hb0
  have hb1 := h4.below
  have e5 := h4.cell
  have e4 := h4.drop.cell
  have a0 := cell_of e5.1 0; have a1 := cell_of e5.1 1; have a2 := cell_of e5.1 2; have a3 := cell_of e5.1 3
  have f0 := thaw_of e5.1
  have g0 := thaw_of e4.1
  have d0 := cell_of e4.1 0; have d1 := cell_of e4.1 1; have d2 := cell_of e4.1 2; have d3 := cell_of e4.1 3
  simp only [List.getElem?_toArray, List.getElem?_cons_zero, List.getElem?_cons_succ] at a0 a1 a2 a3 d0 d1 d2 d3
  have H4 := Lib.hid h4
  have HB1 := Lib.hid hb1
  have HW := Lib.hid e5.2
  have E4 := Lib.hid e4.1
  clear h4 hb1 e5 e4 HST H3
  generalize w.heap.size = s at *
  (repeat' (first | (go_big_may; fail) | go_values | go_skip | go_guarded | go_step | go_upon | go_back | dsimp only))
  refine (code_zero (ef := ef) (HF.out.below ?hb)).mono ?_
  case hb => exact by (repeat' (first | with_reducible exact HB1.out | (with_reducible refine Below.setCell ?_ (by exact HW.out) _)))
  rintro e w2 ⟨rfl, rfl⟩
  (repeat' (first | (go_big_may; fail) | go_values | go_skip | go_guarded | go_step | go_upon | go_back | dsimp only))
  (try simp only [Exit.inBlock, Exit.then])
  refine bodyPost_ret (results_cell_row rfl _ _ (s + 1) tAns #[.int .i64 0, .int .i64 0, .string ⟨([]).toArray⟩, .slice none 0 0] (0, 0) _ rfl ?_ Tryd.underlying43 rfl (by kernel_rfl)) rfl ?_
  · have := E4.out
    simp [World.setCell, Array.getElem?_modify, this]
  · refine ⟨rfl, ?_⟩
    exact H4.out.lose3 HRR.out (by repeat' (first | with_reducible exact Upd.refl _ _ | (with_reducible refine Upd.setCell ?_ (.inl (by simp)) _)))

set_option maxRecDepth 100000 in
set_option maxHeartbeats 3200000 in
theorem playsn10 {W w : World} {R : Thing} (h : At W w R) (hR : Stable R) {ef : Nat → Nat × Nat} (hF : Fails W ef failsAll) {o : OpD} (ho : OpOk W o) (hk : o.k = 10) :
    Calls Tryd.prog 21 #[.pointer none, opV o] w fun e w' => e = .returned (ansV (⟨0, 0, [], []⟩ : AnsD) (.slice none 0 0)) ∧ At W w' R := by
  have h3 := h.three hR o
  have HST := Lib.hid ((CellT.stable (w.heap.size + 2) zeroAns tAns).both ((CellT.stable (w.heap.size + 1) zeroAns tAns).both ((CellT.stable w.heap.size (opCells o) tOp).both hR)))
  have H3 := Lib.hid h3
  have HF := Lib.hid hF
  have HRR := Lib.hid hR
  have HO := Lib.hid ho
  clear h h3 hF hR ho
  obtain ⟨k, run, pos, n, v, parts⟩ := o
  dsimp only at hk ⊢
  subst hk
  go_enter Tryd.func21, Tryd.ntmps21
  (repeat' (first | (go_big_may; fail) | go_values | go_skip | go_guarded | go_step | go_upon | go_back | dsimp only))
  refine (Made_nil).mono ?_
  rintro e w1 ⟨rfl, hb0⟩
  have h4 := H3.out.mono HST.out hb0
  clear hb0
  have hb1 := h4.below
  have e5 := h4.cell
  have e4 := h4.drop.cell
  have a0 := cell_of e5.1 0; have a1 := cell_of e5.1 1; have a2 := cell_of e5.1 2; have a3 := cell_of e5.1 3
  have f0 := thaw_of e5.1
  have g0 := thaw_of e4.1
  have d0 := cell_of e4.1 0; have d1 := cell_of e4.1 1; have d2 := cell_of e4.1 2; have d3 := cell_of e4.1 3
  simp only [List.getElem?_toArray, List.getElem?_cons_zero, List.getElem?_cons_succ] at a0 a1 a2 a3 d0 d1 d2 d3
  have H4 := Lib.hid h4
  have HB1 := Lib.hid hb1
  have HW := Lib.hid e5.2
  have E4 := Lib.hid e4.1
  clear h4 hb1 e5 e4 HST H3
  generalize w.heap.size = s at *
  (repeat' (first | (go_big_may; fail) | go_values | go_skip | go_guarded | go_step | go_upon | go_back | dsimp only))
  refine (code_zero (ef := ef) (HF.out.below ?hb)).mono ?_
  case hb => exact by (repeat' (first | with_reducible exact HB1.out | (with_reducible refine Below.setCell ?_ (by exact HW.out) _)))
  rintro e w2 ⟨rfl, rfl⟩
  (repeat' (first | (go_big_may; fail) | go_values | go_skip | go_guarded | go_step | go_upon | go_back | dsimp only))
  (try simp only [Exit.inBlock, Exit.then])
  refine bodyPost_ret (results_cell_row rfl _ _ (s + 1) tAns #[.int .i64 0, .int .i64 0, .string ⟨([]).toArray⟩, .slice none 0 0] (0, 0) _ rfl ?_ Tryd.underlying43 rfl (by kernel_rfl)) rfl ?_
  · have := E4.out
    simp [World.setCell, Array.getElem?_modify, this]
  · refine ⟨rfl, ?_⟩
    exact H4.out.lose3 HRR.out (by repeat' (first | with_reducible exact Upd.refl _ _ | (with_reducible refine Upd.setCell ?_ (.inl (by simp)) _)))

set_option maxRecDepth 100000 in
set_option maxHeartbeats 3200000 in
theorem playsn11 {W w : World} {R : Thing} (h : At W w R) (hR : Stable R) {ef : Nat → Nat × Nat} (hF : Fails W ef failsAll) {o : OpD} (ho : OpOk W o) (hk : o.k = 11) :
    Calls Tryd.prog 21 #[.pointer none, opV o] w fun e w' => e = .returned (ansV (⟨0, 0, [], []⟩ : AnsD) (.slice none 0 0)) ∧ At W w' R := by
  have h3 := h.three hR o
  have HST := Lib.hid ((CellT.stable (w.heap.size + 2) zeroAns tAns).both ((CellT.stable (w.heap.size + 1) zeroAns tAns).both ((CellT.stable w.heap.size (opCells o) tOp).both hR)))
  have H3 := Lib.hid h3
  have HF := Lib.hid hF
  have HRR := Lib.hid hR
  have HO := Lib.hid ho
  clear h h3 hF hR ho
  obtain ⟨k, run, pos, n, v, parts⟩ := o
  dsimp only at hk ⊢
  subst hk
  go_enter Tryd.func21, Tryd.ntmps21
  (repeat' (first | (go_big_may; fail) | go_values | go_skip | go_guarded | go_step | go_upon | go_back | dsimp only))
  refine (Break_nil n).mono ?_
  rintro e w1 ⟨rfl, hb0⟩
  have h4 := H3.out.mono HST.out hb0
  clear hb0
  have hb1 := h4.below
  have e5 := h4.cell
  have e4 := h4.drop.cell
  have a0 := cell_of e5.1 0; have a1 := cell_of e5.1 1; have a2 := cell_of e5.1 2; have a3 := cell_of e5.1 3
  have f0 := thaw_of e5.1
  have g0 := thaw_of e4.1
  have d0 := cell_of e4.1 0; have d1 := cell_of e4.1 1; have d2 := cell_of e4.1 2; have d3 := cell_of e4.1 3
  simp only [List.getElem?_toArray, List.getElem?_cons_zero, List.getElem?_cons_succ] at a0 a1 a2 a3 d0 d1 d2 d3
  have H4 := Lib.hid h4
  have HB1 := Lib.hid hb1
  have HW := Lib.hid e5.2
  have E4 := Lib.hid e4.1
  clear h4 hb1 e5 e4 HST H3
  generalize w.heap.size = s at *
  (repeat' (first | (go_big_may; fail) | go_values | go_skip | go_guarded | go_step | go_upon | go_back | dsimp only))
  refine (code_zero (ef := ef) (HF.out.below ?hb)).mono ?_
  case hb => exact by (repeat' (first | with_reducible exact HB1.out | (with_reducible refine Below.setCell ?_ (by exact HW.out) _)))
  rintro e w2 ⟨rfl, rfl⟩
  (repeat' (first | (go_big_may; fail) | go_values | go_skip | go_guarded | go_step | go_upon | go_back | dsimp only))
  (try simp only [Exit.inBlock, Exit.then])
  refine bodyPost_ret (results_cell_row rfl _ _ (s + 1) tAns #[.int .i64 0, .int .i64 0, .string ⟨([]).toArray⟩, .slice none 0 0] (0, 0) _ rfl ?_ Tryd.underlying43 rfl (by kernel_rfl)) rfl ?_
  · have := E4.out
    simp [World.setCell, Array.getElem?_modify, this]
  · refine ⟨rfl, ?_⟩
    exact H4.out.lose3 HRR.out (by repeat' (first | with_reducible exact Upd.refl _ _ | (with_reducible refine Upd.setCell ?_ (.inl (by simp)) _)))

set_option maxRecDepth 100000 in
set_option maxHeartbeats 3200000 in
theorem playsn12 {W w : World} {R : Thing} (h : At W w R) (hR : Stable R) {ef : Nat → Nat × Nat} (hF : Fails W ef failsAll) {o : OpD} (ho : OpOk W o) (hk : o.k ≠ 1 ∧ o.k ≠ 2 ∧ o.k ≠ 3 ∧ o.k ≠ 4 ∧ o.k ≠ 5 ∧ o.k ≠ 6 ∧ o.k ≠ 7 ∧ o.k ≠ 8 ∧ o.k ≠ 9 ∧ o.k ≠ 10 ∧ o.k ≠ 11) :
    Calls Tryd.prog 21 #[.pointer none, opV o] w fun e w' => e = .returned (ansV (⟨0, 0, [], []⟩ : AnsD) (.slice none 0 0)) ∧ At W w' R := by
  have h3 := h.three hR o
  have HST := Lib.hid ((CellT.stable (w.heap.size + 2) zeroAns tAns).both ((CellT.stable (w.heap.size + 1) zeroAns tAns).both ((CellT.stable w.heap.size (opCells o) tOp).both hR)))
  have H3 := Lib.hid h3
  have HF := Lib.hid hF
  have HRR := Lib.hid hR
  have HO := Lib.hid ho
  clear h h3 hF hR ho
  obtain ⟨k, run, pos, n, v, parts⟩ := o
  dsimp only at hk ⊢
  obtain ⟨n1, n2, n3, n4, n5, n6, n7, n8, n9, n10, n11⟩ := hk
  have m1 : (k == 1) = false := by simpa using n1
  have m2 : (k == 2) = false := by simpa using n2
  have m3 : (k == 3) = false := by simpa using n3
  have m4 : (k == 4) = false := by simpa using n4
  have m5 : (k == 5) = false := by simpa using n5
  have m6 : (k == 6) = false := by simpa using n6
  have m7 : (k == 7) = false := by simpa using n7
  have m8 : (k == 8) = false := by simpa using n8
  have m9 : (k == 9) = false := by simpa using n9
  have m10 : (k == 10) = false := by simpa using n10
  have m11 : (k == 11) = false := by simpa using n11
  clear n1 n2 n3 n4 n5 n6 n7 n8 n9 n10 n11
  go_enter Tryd.func21, Tryd.ntmps21
  have h4 := H3.out
  obtain ⟨w1, hw1⟩ : ∃ w1, w1 = (((w.alloc (.cells (opCells ⟨k, run, pos, n, v, parts⟩) tOp)).alloc (.cells zeroAns tAns)).alloc (.cells zeroAns tAns)) := ⟨_, rfl⟩
  rw [← hw1] at h4
  (repeat' (first | (go_big_may; fail) | go_values | go_skip | go_guarded | go_step | go_upon | go_back | dsimp only))
  rw [← hw1]
  clear hw1
  have hb1 := h4.below
  have e5 := h4.cell
  have e4 := h4.drop.cell
  have a0 := cell_of e5.1 0; have a1 := cell_of e5.1 1; have a2 := cell_of e5.1 2; have a3 := cell_of e5.1 3
  have f0 := thaw_of e5.1
  have g0 := thaw_of e4.1
  have d0 := cell_of e4.1 0; have d1 := cell_of e4.1 1; have d2 := cell_of e4.1 2; have d3 := cell_of e4.1 3
  simp only [List.getElem?_toArray, List.getElem?_cons_zero, List.getElem?_cons_succ] at a0 a1 a2 a3 d0 d1 d2 d3
  have H4 := Lib.hid h4
  have HB1 := Lib.hid hb1
  have HW := Lib.hid e5.2
  have E4 := Lib.hid e4.1
  clear h4 hb1 e5 e4 HST H3
  generalize w.heap.size = s at *
  refine (code_zero (ef := ef) (HF.out.below ?hb)).mono ?_
  case hb => exact by (repeat' (first | with_reducible exact HB1.out | (with_reducible refine Below.setCell ?_ (by exact HW.out) _)))
  rintro e w2 ⟨rfl, rfl⟩
  (repeat' (first | (go_big_may; fail) | go_values | go_skip | go_guarded | go_step | go_upon | go_back | dsimp only))
  (try simp only [Exit.inBlock, Exit.then])
  refine bodyPost_ret (results_cell_row rfl _ _ (s + 1) tAns #[.int .i64 0, .int .i64 0, .string ⟨([]).toArray⟩, .slice none 0 0] (0, 0) _ rfl ?_ Tryd.underlying43 rfl (by kernel_rfl)) rfl ?_
  · have := E4.out
    simp [World.setCell, Array.getElem?_modify, this]
  · refine ⟨rfl, ?_⟩
    exact H4.out.lose3 HRR.out (by repeat' (first | with_reducible exact Upd.refl _ _ | (with_reducible refine Upd.setCell ?_ (.inl (by simp)) _)))
end

section
open Go.RowKit

theorem plays_none_err {W w : World} {R : Thing} (h : At W w R) (hR : Stable R) {ef : Nat → Nat × Nat} (hF : Fails W ef failsAll) {o : OpD} (ho : OpOk W o) (hk : 1 ≤ o.k ∧ o.k ≤ 6) :
    Calls Tryd.prog 21 #[.pointer none, opV o] w fun e w' => e = .returned (ansV (⟨0, 1, [], []⟩ : AnsD) (.slice none 0 0)) ∧ At W w' R := by
  by_cases e1 : o.k = 1
  · exact playsn1 h hR hF ho e1
  by_cases e2 : o.k = 2
  · exact playsn2 h hR hF ho e2
  by_cases e3 : o.k = 3
  · exact playsn3 h hR hF ho e3
  by_cases e4 : o.k = 4
  · exact playsn4 h hR hF ho e4
  by_cases e5 : o.k = 5
  · exact playsn5 h hR hF ho e5
  exact playsn6 h hR hF ho (by omega)
theorem plays_none_nil {W w : World} {R : Thing} (h : At W w R) (hR : Stable R) {ef : Nat → Nat × Nat} (hF : Fails W ef failsAll) {o : OpD} (ho : OpOk W o) (hk : ¬ (1 ≤ o.k ∧ o.k ≤ 6)) :
    Calls Tryd.prog 21 #[.pointer none, opV o] w fun e w' => e = .returned (ansV (⟨0, 0, [], []⟩ : AnsD) (.slice none 0 0)) ∧ At W w' R := by
  by_cases e1 : o.k = 7
  · exact playsn7 h hR hF ho e1
  by_cases e2 : o.k = 8
  · exact playsn8 h hR hF ho e2
  by_cases e3 : o.k = 9
  · exact playsn9 h hR hF ho e3
  by_cases e4 : o.k = 10
  · exact playsn10 h hR hF ho e4
  by_cases e5 : o.k = 11
  · exact playsn11 h hR hF ho e5
  exact playsn12 h hR hF ho (by omega)
end
end Go.Proofs.YtomlkhfmblkpcaaDoor

/- RunsRoom walked. -/
import Derived.Test.YtomlkhfmblkpcaaDoorRunsRoomP
import Derived.Test.YtomlkhfmblkpcaaDoorOpen
import Derived.Test.YtomlkhfmblkpcaaDoorCut
import Derived.Deep.DeepCutAuto
import Derived.Deep.RegionHeld3
import Derived.Test.YtomlkhfmblkpcaaDoorCards
import Derived.Test.YtomlkhfmblkpcaaDoorTie
import Derived.Deep.DeepHandedRow
import Derived.Deep.DeepWitnessRowRef
import Derived.LaidMore
namespace Go.Proofs.YtomlkhfmblkpcaaDoor
open Go.RowKit

theorem neq_same (a : Addr) (wz : World) : (binOp .neq tErr (.iface tES (.pointer (some a))) (.iface tES (.pointer (some a)))).run Tryd.prog wz = .ok (.bool false) wz := by
  obtain ⟨i, hi, hc⟩ := Option.map_eq_some_iff.1 tES_comp
  obtain ⟨j, hj, _⟩ := Option.map_eq_some_iff.1 tE_size
  simp only [binOp]
  simp [Op.equal, Op.maxDepth, run_equalIn_iface_ptr_same wz 9998 a Tryd.underlying26 Tryd.underlying122 hi hc hj]

set_option maxRecDepth 100000 in
set_option maxHeartbeats 20000000 in
theorem runsRoom_walk (W : World) (ef : Nat → Nat × Nat) (hF : Fails W ef fails6) (s0 : ByteArray) (h0 : s0.size ≤ 1048576) (n : Int) (hn : -9223372036854775808 ≤ n ∧ n ≤ 9223372036854775807) :
    Calls Tryd.prog 3 #[.string s0, .int .i64 n] W fun e w' => e = .returned (.bool true) ∧ Below W.heap.size W w' := by
  obtain ⟨t, rfl⟩ : ∃ t : List UInt8, s0 = ⟨t.toArray⟩ := ⟨s0.data.toList, rfl⟩
  have ht : t.length ≤ 1048576 := by simpa [ByteArray.size] using h0
  have hx8 : (8, 1) ∈ fails6 := by decide
  have hx : (9, 4) ∈ fails6 ∧ (3, 5) ∈ fails6 ∧ (4, 6) ∈ fails6 ∧ (7, 0) ∈ fails6 := by decide
  have HF := Lib.hid hF
  have HX := Lib.hid hx
  have HX8 := Lib.hid hx8
  clear hF hx hx8 h0
  go_enter Tryd.func3, Tryd.ntmps3
  (repeat' (first | (go_big_may; fail) | go_values | go_skip | go_guarded | go_step | go_upon | go_back | dsimp only))
  refine (New_s (Below.refl _ _) (by omega)).mono ?_
  rintro e w1 ⟨rfl, h1⟩
  rw [rm_new t.length (by omega)] at h1
  have H1 := Lib.hid h1
  clear h1
  generalize W.heap.size + 1 = b at *
  (repeat' (first | (go_big_may; fail) | go_values | go_skip | go_guarded | go_step | go_upon | go_back | dsimp only))
  refine (wakes_calls (Below.refl _ _) (HF.out.below H1.out.below) HX8.out HX.out).mono ?_
  rintro e w2 ⟨rfl, hb2⟩
  have H2 := Lib.hid (H1.out.mono hb2)
  clear hb2 H1
  (repeat' (first | (go_big_may; fail) | go_values | go_skip | go_guarded | go_step | go_upon | go_back | dsimp only))
  go_loopw [6] (fun i wr => ∃ k : Nat, i = .int .i64 k ∧ k ≤ 20 ∧ HoldS W wr b (rm0 t.length k)) (fun i _ => 20 - (intOf i).toNat)
  case atStart => exact ⟨0, rfl, by omega, H2.out⟩
  case round =>
    obtain ⟨k, rfl, hk, hh⟩ := hrel
    have HH := Lib.hid hh
    clear hh
    by_cases hlt : (k : Int) < n ∧ k < 20
    · obtain ⟨hl1, hl2⟩ := hlt
      (repeat' (first | (go_big_may; fail) | go_values | go_skip | go_guarded | go_step | go_upon | go_back | dsimp only))
      have hc := Create_s HH.out HF.out HX.out.1 HX8.out
      rw [rm_create t.length k hl2] at hc
      dsimp only at hc
      rw [errV_zero] at hc
      have e1 : ((k + 1 : Nat) : Int) = (k : Int) + 1 := by omega
      rw [e1] at hc
      refine hc.mono ?_
      rintro e w3 ⟨rfl, h3⟩
      have H3 := Lib.hid h3
      have hbl := h3.le
      clear h3 hc HH
      have E1 := Lib.hid e1
      clear e1
      (repeat' (first | (go_big_may; fail) | go_values | go_skip | go_guarded | go_step | go_upon | go_back | dsimp only))
      have hbb := hbl.2
      clear hbl
      have hwr : IntKind.i64.wrap ((k : Int) + 1) = (k : Int) + 1 := by rw [IntKind.wrap_i64]; omega
      have neqn : ∀ wz : World, (binOp .neq tErr .nilIface .nilIface).run Tryd.prog wz = .ok (.bool false) wz := fun wz => neq_nil wz
      have ha1 : Calls Tryd.prog 14 #[.pointer (some ⟨b, 0, none⟩), .int .i64 ((k : Int) + 1), .slice (some ⟨w3.heap.size, 0, none⟩) 1 1] (w3.alloc (.cells #[.string ⟨t.toArray⟩] 9)).drew fun e w' => e = .returned .nilIface ∧ HoldS W w' b (rm2 t k) := by
        have h := Append_lit (S := rm1 t.length k) (ss := [t]) (z := ((k + 1 : Nat) : Int)) (n := 1) ((H3.out.alloc (.cells #[.string ⟨t.toArray⟩] 9)).drewN 1) HF.out HX.out (by unfold inI64; omega) (fun p hp => by simp [rm1, St.find] at hp; subst hp; simp) rfl (by decide) (g := w3.heap.size) (heap_alloc_new _ _) rfl (by omega) (by simp [cat]; omega)
        rw [rm_append] at h
        dsimp only at h
        rw [E1.out] at h
        rw [errV_zero] at h
        exact h
      have ha2 : ∀ w4, HoldS W w4 b (rm2 t k) → Calls Tryd.prog 14 #[.pointer (some ⟨b, 0, none⟩), .int .i64 ((k : Int) + 1), .slice (some ⟨w4.heap.size, 0, none⟩) 1 1] (w4.alloc (.cells #[.string ⟨#[120]⟩] 9)) fun e w' => e = .returned (.iface tES (.pointer (some ⟨(ef 7).1, (ef 7).2, none⟩))) ∧ HoldS W w' b (rm2 t k) := fun w4 h4 => by
        have h := Append_lit (S := rm2 t k) (ss := [[120]]) (z := ((k + 1 : Nat) : Int)) (n := 1) (h4.alloc (.cells #[.string ⟨#[120]⟩] 9)) HF.out HX.out (by unfold inI64; omega) (fun p hp => by simp [rm2, St.find] at hp; subst hp; simp [rm2]) rfl (by decide) (g := w4.heap.size) (heap_alloc_new _ _) rfl (by have := h4.le.2; omega) (by decide)
        rw [rm_full] at h
        dsimp only at h
        rw [E1.out] at h
        rw [errV_pos ef (by decide)] at h
        exact h
      have hg0 : ∀ w4, HoldS W w4 b (rm2 t k) → w4.cell? ⟨0, 0, none⟩ = some (.iface tES (.pointer (some ⟨(ef 7).1, (ef 7).2, none⟩))) := fun w4 h4 => (HF.out.below h4.below).cell _ HX.out.2.2.2
      have CG3 := Lib.hid ((HF.out.below H3.out.below).cell _ HX.out.2.2.2)
      have HA1 := Lib.hid ha1
      have HA2 := Lib.hid ha2
      have HG0 := Lib.hid hg0
      clear ha1 ha2 hg0
      have hsame : ∀ wz : World, (binOp .neq tErr (.iface tES (.pointer (some ⟨(ef 7).1, (ef 7).2, none⟩))) (.iface tES (.pointer (some ⟨(ef 7).1, (ef 7).2, none⟩)))).run Tryd.prog wz = .ok (.bool false) wz := fun wz => neq_same _ wz
      go_cut [58] (fun v wz => v = .bool false ∧ HoldS W wz b (rm2 t k))
      case first =>
        refine wp_only ?_
        rename_i q1 g1 k3 a3 q2 g2 k2 a2 k1 a1 J K' hJ hK
        clear a1 k1 a2 k2 g2 q2 a3 k3 g1 q1
        have HJ := Lib.hid hJ
        have HK := Lib.hid hK
        clear hJ hK
        have cg3 : w3.cell? ⟨0, 0, none⟩ = some (.iface tES (.pointer (some ⟨(ef 7).1, (ef 7).2, none⟩))) := CG3.out
        go_region_held3 (fun wx => wx.cell? ⟨0, 0, none⟩ = some (.iface tES (.pointer (some ⟨(ef 7).1, (ef 7).2, none⟩)))) (first | assumption | go_keep) ((first | ((with_reducible refine Calls.mono HA1.out ?_); rintro e w4 ⟨rfl, h4⟩; have cg4 := HG0.out _ h4; have hl4 := World.block_lt_of_cell? _ _ cg4; have H4 := Lib.hid h4; clear h4) | ((with_reducible refine Calls.mono (HA2.out _ H4.out) ?_); rintro e w5 ⟨rfl, h5⟩; have cg5 := HG0.out _ h5; have H5 := Lib.hid h5; clear h5)))
        all_goals
          refine HK.out _ _ ?_
          have hJ := HJ.out
          go_meet
          case rel => exact ⟨rfl, H5.out⟩
      case rest =>
        obtain ⟨e58, h5⟩ := hcut
        subst e58
        have H5 := Lib.hid h5
        clear h5
        have hs := Seal_s H5.out HF.out HX.out.1 HX.out.2.1 HX.out.2.2.1 (z := ((k + 1 : Nat) : Int)) (by unfold inI64; omega)
        rw [rm_seal] at hs
        dsimp only at hs
        rw [errV_zero, E1.out] at hs
        have HS := Lib.hid hs
        clear hs
        (repeat' (first | (go_big_may; fail) | go_values | go_skip | go_guarded | go_step | go_upon | go_back | dsimp only))
        refine HS.out.mono ?_
        rintro e w6 ⟨rfl, h6⟩
        have H6 := Lib.hid h6
        clear h6
        have hr := Remove_s H6.out HF.out HX.out.2.1 (z := ((k + 1 : Nat) : Int)) (by unfold inI64; omega) (fun p hp => by simp [rm3, St.find] at hp; subst hp; simp [rm3])
        rw [rm_remove] at hr
        dsimp only at hr
        rw [errV_zero, E1.out] at hr
        have HR := Lib.hid hr
        clear hr
        (repeat' (first | (go_big_may; fail) | go_values | go_skip | go_guarded | go_step | go_upon | go_back | dsimp only))
        refine HR.out.mono ?_
        rintro e w7 ⟨rfl, h7⟩
        have H7 := Lib.hid h7
        clear h7
        (repeat' (first | (go_big_may; fail) | go_values | go_skip | go_guarded | go_step | go_upon | go_back | dsimp only))
        refine (Used_s H7.out).mono ?_
        rintro e w8 ⟨rfl, rfl⟩
        have hu0 : (rm0 t.length (k + 1)).used = 0 := rfl
        rw [hu0]
        clear hu0
        (repeat' (first | (go_big_may; fail) | go_values | go_skip | go_guarded | go_step | go_upon | go_back | dsimp only))
        refine (Peak_s H7.out).mono ?_
        rintro e w9 ⟨rfl, rfl⟩
        have hp0 : (rm0 t.length (k + 1)).peak = t.length := rfl
        rw [hp0]
        clear hp0
        (repeat' (first | (go_big_may; fail) | go_values | go_skip | go_guarded | go_step | go_upon | go_back | dsimp only))
        exact ⟨⟨k + 1, by rw [E1.out], by omega, H7.out⟩, by simp [intOf] <;> omega⟩
    · by_cases hl1 : (k : Int) < n
      · have hl2 : ¬ k < 20 := fun h => hlt ⟨hl1, h⟩
        have hl3 : k = 20 := by omega
        clear hlt hl2
        subst hl3
        (repeat' (first | (go_big_may; fail) | go_values | go_skip | go_guarded | go_step | go_upon | go_back | dsimp only))
        go_ret
        exact ⟨rfl, HH.out.below⟩
      · clear hlt
        (repeat' (first | (go_big_may; fail) | go_values | go_skip | go_guarded | go_step | go_upon | go_back | dsimp only))
        go_ret
        exact ⟨rfl, HH.out.below⟩
end Go.Proofs.YtomlkhfmblkpcaaDoor

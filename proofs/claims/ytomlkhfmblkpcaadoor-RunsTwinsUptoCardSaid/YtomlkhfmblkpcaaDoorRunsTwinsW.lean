/- RunsTwins walked (written by port/runstwins.py). -/
import Derived.Test.YtomlkhfmblkpcaaDoorRunsAll
import Derived.Test.YtomlkhfmblkpcaaDoorRunsWakesW
import Derived.Test.YtomlkhfmblkpcaaDoorSent8
import Derived.Test.YtomlkhfmblkpcaaDoorOpen
import Derived.Test.YtomlkhfmblkpcaaDoorCards
import Derived.Test.YtomlkhfmblkpcaaDoorTie
import Derived.Deep.DeepHandedRow
import Derived.Deep.DeepWitnessRowRef
import Derived.LaidMore
import Derived.Test.YtomlkhfmblkpcaaDoorCut
import Derived.Deep.RegionHeld3
import Derived.Deep.DeepCutAuto
namespace Go.Proofs.YtomlkhfmblkpcaaDoor
open Go.RowKit

/-- The cells of a call of a script, in any world of the call. -/
theorem OpsRow.always {W : World} {v : Value} {ops : List OpD} (h : OpsRow W v ops) {i : Nat} (hi : i < ops.length) {bo oo co : Nat} (hv : v = .slice (some ⟨bo, oo, none⟩) ops.length co) (w : World) (hb : Below W.heap.size W w) :
    w.cell? ⟨bo, oo + i * 5, none⟩ = some (.int .i64 (ops.getD i default).k) ∧ w.cell? ⟨bo, oo + i * 5 + 1, none⟩ = some (.int .i64 (ops.getD i default).run) ∧ w.cell? ⟨bo, oo + i * 5 + 2, none⟩ = some (.int .i64 (ops.getD i default).pos) ∧
      w.cell? ⟨bo, oo + i * 5 + 3, none⟩ = some (.int .i64 (ops.getD i default).n) ∧ w.cell? ⟨bo, oo + i * 5 + 4, none⟩ = some (ops.getD i default).v := by
  obtain ⟨b2, o2, c2, e, hx, _⟩ := (h.below hb).op hi
  rw [hv] at e
  cases e
  exact hx

/-- Two pairs. -/
abbrev TwT (ra ba rb bb : Nat) (S T : St) : Thing := Both (RefT ra S) (Both (StoreT ba S) (Both (RefT rb T) (Both (StoreT bb T) Nought)))
theorem TwT.stable (ra ba rb bb : Nat) (S T : St) : Stable (TwT ra ba rb bb S T) := (RefT.stable _ _).both ((StoreT.stable _ _).both ((RefT.stable _ _).both ((StoreT.stable _ _).both Stable.nought)))
theorem At.turn {W w : World} {ra ba rb bb : Nat} {S T : St} (h : At W w (TwT ra ba rb bb S T)) : At W w (TwT rb bb ra ba T S) := h.pull4.pull4

set_option maxRecDepth 100000 in
set_option maxHeartbeats 25600000 in
theorem runsTwins_walk (W : World) (ef : Nat → Nat × Nat) (hF : Fails W ef failsAll) (l1 : List OpD) (v1 : Value) (ho1 : OpsRow W v1 l1) (hl1 : l1.length ≤ 1048576) (l2 : List OpD) (v2 : Value) (ho2 : OpsRow W v2 l2) (hl2 : l2.length ≤ 1048576) :
    Calls Tryd.prog 6 #[v1, v2] W fun e w' => e = .returned (.bool true) ∧ Below W.heap.size W w' := by
  have HF := Lib.hid hF
  have HO1 := Lib.hid ho1
  have HO2 := Lib.hid ho2
  obtain ⟨ao1, cap1, hv1, _, _⟩ := ho1.row.shape
  obtain ⟨ao2, cap2, hv2, _, _⟩ := ho2.row.shape
  subst hv1 hv2
  clear hF ho1 ho2
  go_enter Tryd.func6, Tryd.ntmps6
  (repeat' (first | (go_big_may; fail) | go_values | go_skip | go_guarded | go_step | go_upon | go_back | dsimp only))
  refine (New_at (At.nought (Below.refl _ _)) Stable.nought (by unfold inI64; omega)).mono ?_
  rintro e w1 ⟨rfl, h1⟩
  generalize W.heap.size + 1 = ba at *
  have H1 := Lib.hid h1
  clear h1
  (repeat' (first | (go_big_may; fail) | go_values | go_skip | go_guarded | go_step | go_upon | go_back | dsimp only))
  refine (New_at H1.out ((StoreT.stable _ _).both Stable.nought) (by unfold inI64; omega)).mono ?_
  rintro e w2 ⟨rfl, h2⟩
  generalize w1.heap.size + 1 = bb at *
  have H2 := Lib.hid h2
  clear h2 H1
  (repeat' (first | (go_big_may; fail) | go_values | go_skip | go_guarded | go_step | go_upon | go_back | dsimp only))
  refine (rNew_at H2.out ((StoreT.stable _ _).both ((StoreT.stable _ _).both Stable.nought)) (by unfold inI64; omega)).mono ?_
  rintro e w3 ⟨rfl, h3⟩
  generalize w2.heap.size = ra at *
  have H3 := Lib.hid h3
  clear h3 H2
  (repeat' (first | (go_big_may; fail) | go_values | go_skip | go_guarded | go_step | go_upon | go_back | dsimp only))
  refine (rNew_at H3.out ((RefT.stable _ _).both ((StoreT.stable _ _).both ((StoreT.stable _ _).both Stable.nought))) (by unfold inI64; omega)).mono ?_
  rintro e w4 ⟨rfl, h4⟩
  generalize w3.heap.size = rb at *
  have h5 : At W w4 (TwT ra ba rb bb (newSt 40) (newSt 90)) := h4.pull4.pull3
  have H5 := Lib.hid h5
  clear h4 h5 H3
  (repeat' (first | (go_big_may; fail) | go_values | go_skip | go_guarded | go_step | go_upon | go_back | dsimp only))
  refine (wakes_calls (Below.refl _ _) (HF.out.below H5.out.below) (by decide) (by decide)).mono ?_
  rintro e w6 ⟨rfl, hb6⟩
  have H6 := Lib.hid (H5.out.mono (TwT.stable _ _ _ _ _ _) hb6)
  clear hb6 H5
  (repeat' (first | (go_big_may; fail) | go_values | go_skip | go_guarded | go_step | go_upon | go_back | dsimp only))
  go_loopw [9] (fun i wr => ∃ (k : Nat) (S T : St), i = .int .i64 k ∧ (k ≤ l1.length ∨ k ≤ l2.length) ∧ GoodS S ∧ GoodS T ∧ At W wr (TwT ra ba rb bb S T)) (fun i _ => l1.length + l2.length - (intOf i).toNat)
  case atStart => exact ⟨0, _, _, rfl, by omega, GoodS.new 40, GoodS.new 90, H6.out⟩
  case round =>
    obtain ⟨k, S, T, rfl, hk, hG, hGT, hh⟩ := hrel
    have H := Lib.hid hh
    have HG := Lib.hid hG
    have HGT := Lib.hid hGT
    clear H6 hG hGT hh
    by_cases hka : (k : Int) < l1.length
    · have hkl : k < l1.length := by omega
      (repeat' (first | (go_big_may; fail) | go_values | go_skip | go_guarded | go_step | go_upon | go_back | dsimp only))
      go_cut [55] (fun v wx => v = .bool false ∧ ∃ S2, GoodS S2 ∧ At W wx (TwT ra ba rb bb S2 T))
      case first =>
        refine wp_only ?_
        rename_i J K' hJ hK
        have HJ := Lib.hid hJ
        have HK := Lib.hid hK
        clear hJ hK
        have hopW : OpOk W (l1.getD k default) := HO1.out.each _ (getD_mem hkl)
        obtain ⟨av, cv, hov, _, _⟩ := hopW.row.shape
        obtain ⟨bo, oo, co, hsl, _, _⟩ := HO1.out.op hkl
        cases hsl
        have HX := Lib.hid (fun (wq : World) (hb : Below W.heap.size W wq) => HO1.out.always hkl rfl wq hb)
        generalize l1.getD k default = o at *
        have HOP := Lib.hid hopW
        obtain ⟨ok, orun, opos, on, ov, op⟩ := o
        dsimp only at hov HX
        subst hov
        have hk0 : (0 : Int) ≤ k := by omega
        have h1 := (H.out.mono (TwT.stable _ _ _ _ _ _) ((Below.refl _ _).drew)).swap
        obtain ⟨x0, x1, x2, x3, x4⟩ := HX.out _ H.out.below
        have hpl := plays_calls h1 ((RefT.stable _ _).both ((RefT.stable _ _).both ((StoreT.stable _ _).both Stable.nought))) HF.out HG.out HOP.out
        have hG3 := HG.out.play HOP.out.n
        generalize hPP : playP S ⟨ok, orun, opos, on, .slice av op.length cv, op⟩ = PP at *
        obtain ⟨S2, A⟩ := PP
        dsimp only at hpl hG3
        have hsayf : ∀ (w5 : World) (va : Value), At W w5 (Both (RowT va A.list) (Both (StoreT ba S2) (Both (RefT ra S) (Both (RefT rb T) (Both (StoreT bb T) Nought))))) → Calls Tryd.prog 23 #[.pointer (some ⟨ra, 0, none⟩), opV ⟨ok, orun, opos, on, .slice av op.length cv, op⟩] w5 fun e w' => ∃ vb, e = .returned (ansV A vb) ∧ At W w' (Both (RowT vb A.list) (Both (RefT ra S2) (Both (RowT va A.list) (Both (StoreT ba S2) (Both (RefT rb T) (Both (StoreT bb T) Nought)))))) := fun w5 va h5 => by
          have h := says_calls h5.pull3 ((RowT.stable _ _).both ((StoreT.stable _ _).both ((RefT.stable _ _).both ((StoreT.stable _ _).both Stable.nought)))) HG.out HOP.out
          rw [hPP] at h
          exact h
        have HPL := Lib.hid hpl
        have HSAY := Lib.hid hsayf
        have HPP := Lib.hid hPP
        have HG3 := Lib.hid hG3
        have cg0 := HX.out _ H.out.below
        have hl0 := World.block_lt_of_cell? _ _ cg0.1
        clear hpl hPP hG3 h1 hsayf
        go_region_held3 (fun wx => wx.cell? ⟨bo, oo + k * 5, none⟩ = some (.int .i64 ok) ∧ wx.cell? ⟨bo, oo + k * 5 + 1, none⟩ = some (.int .i64 orun) ∧ wx.cell? ⟨bo, oo + k * 5 + 2, none⟩ = some (.int .i64 opos) ∧ wx.cell? ⟨bo, oo + k * 5 + 3, none⟩ = some (.int .i64 on) ∧ wx.cell? ⟨bo, oo + k * 5 + 4, none⟩ = some (.slice av op.length cv)) (first | assumption | go_keep) ((first
          | ((with_reducible refine Calls.mono HPL.out ?_); rintro e w5 ⟨va, rfl, h5⟩; obtain ⟨aol, capl, hva, _, _⟩ := own_shape h5.row; subst hva; have cg5 := HX.out _ h5.below; have hl5 := World.block_lt_of_cell? _ _ cg5.1; have H5 := Lib.hid h5; clear h5)
          | ((with_reducible refine Calls.mono (HSAY.out _ _ H5.out) ?_); rintro e w6 ⟨vb, rfl, h6⟩; obtain ⟨aob, capb, hvb, _, _⟩ := own_shape h6.row; subst hvb; have cg6 := HX.out _ h6.below; have hl6 := World.block_lt_of_cell? _ _ cg6.1; have H6 := Lib.hid h6; clear h6)
          | ((with_reducible refine Calls.mono (same_refl A (RdRow.of_own H6.out.drop.drop.row) (RdRow.of_own H6.out.row)) ?_); rintro e w7 ⟨rfl, hb7⟩; have cg7 := HX.out _ (H6.out.below.trans (hb7.mono H6.out.below.size)); have hl7 := World.block_lt_of_cell? _ _ cg7.1; have HB7 := Lib.hid hb7; clear hb7)))
        all_goals
          have HEND := Lib.hid (H6.out.drop.swap.drop.mono (TwT.stable _ _ _ _ _ _) HB7.out)
          refine HK.out _ _ ?_
          have hJ := HJ.out
          go_meet
          case rel => exact ⟨rfl, S2, HG3.out, HEND.out⟩
      case rest =>
        obtain ⟨e55, S2, hG2, h2⟩ := hcut
        subst e55
        have H2 := Lib.hid h2
        have HG2 := Lib.hid hG2
        clear h2 hG2 H HG
        (repeat' (first | (go_big_may; fail) | go_values | go_skip | go_guarded | go_step | go_upon | go_back | dsimp only))
        go_cut [75] (fun v wx => v = .bool false ∧ ∃ T2, GoodS T2 ∧ At W wx (TwT ra ba rb bb S2 T2))
        case first =>
          refine wp_only ?_
          rename_i J K' hJ hK
          have HJ := Lib.hid hJ
          have HK := Lib.hid hK
          clear hJ hK
          by_cases hkb : (k : Int) < l2.length
          · have hkl : k < l2.length := by omega
            have hopW : OpOk W (l2.getD k default) := HO2.out.each _ (getD_mem hkl)
            obtain ⟨av, cv, hov, _, _⟩ := hopW.row.shape
            obtain ⟨bo, oo, co, hsl, _, _⟩ := HO2.out.op hkl
            cases hsl
            have HX := Lib.hid (fun (wq : World) (hb : Below W.heap.size W wq) => HO2.out.always hkl rfl wq hb)
            generalize l2.getD k default = o at *
            have HOP := Lib.hid hopW
            obtain ⟨ok, orun, opos, on, ov, op⟩ := o
            dsimp only at hov HX
            subst hov
            have hk0 : (0 : Int) ≤ k := by omega
            have h1 := (H2.out.turn.mono (TwT.stable _ _ _ _ _ _) ((Below.refl _ _).drew)).swap
            obtain ⟨x0, x1, x2, x3, x4⟩ := HX.out _ H2.out.turn.below
            have hpl := plays_calls h1 ((RefT.stable _ _).both ((RefT.stable _ _).both ((StoreT.stable _ _).both Stable.nought))) HF.out HGT.out HOP.out
            have hG3 := HGT.out.play HOP.out.n
            generalize hPP : playP T ⟨ok, orun, opos, on, .slice av op.length cv, op⟩ = PP at *
            obtain ⟨T2, A⟩ := PP
            dsimp only at hpl hG3
            have hsayf : ∀ (w5 : World) (va : Value), At W w5 (Both (RowT va A.list) (Both (StoreT bb T2) (Both (RefT rb T) (Both (RefT ra S2) (Both (StoreT ba S2) Nought))))) → Calls Tryd.prog 23 #[.pointer (some ⟨rb, 0, none⟩), opV ⟨ok, orun, opos, on, .slice av op.length cv, op⟩] w5 fun e w' => ∃ vb, e = .returned (ansV A vb) ∧ At W w' (Both (RowT vb A.list) (Both (RefT rb T2) (Both (RowT va A.list) (Both (StoreT bb T2) (Both (RefT ra S2) (Both (StoreT ba S2) Nought)))))) := fun w5 va h5 => by
              have h := says_calls h5.pull3 ((RowT.stable _ _).both ((StoreT.stable _ _).both ((RefT.stable _ _).both ((StoreT.stable _ _).both Stable.nought)))) HGT.out HOP.out
              rw [hPP] at h
              exact h
            have HPL := Lib.hid hpl
            have HSAY := Lib.hid hsayf
            have HPP := Lib.hid hPP
            have HG3 := Lib.hid hG3
            have cg0 := HX.out _ H2.out.turn.below
            have hl0 := World.block_lt_of_cell? _ _ cg0.1
            clear hpl hPP hG3 h1 hsayf
            go_region_held3 (fun wx => wx.cell? ⟨bo, oo + k * 5, none⟩ = some (.int .i64 ok) ∧ wx.cell? ⟨bo, oo + k * 5 + 1, none⟩ = some (.int .i64 orun) ∧ wx.cell? ⟨bo, oo + k * 5 + 2, none⟩ = some (.int .i64 opos) ∧ wx.cell? ⟨bo, oo + k * 5 + 3, none⟩ = some (.int .i64 on) ∧ wx.cell? ⟨bo, oo + k * 5 + 4, none⟩ = some (.slice av op.length cv)) (first | assumption | go_keep) ((first
              | ((with_reducible refine Calls.mono HPL.out ?_); rintro e w5 ⟨va, rfl, h5⟩; obtain ⟨aol, capl, hva, _, _⟩ := own_shape h5.row; subst hva; have cg5 := HX.out _ h5.below; have hl5 := World.block_lt_of_cell? _ _ cg5.1; have H5 := Lib.hid h5; clear h5)
              | ((with_reducible refine Calls.mono (HSAY.out _ _ H5.out) ?_); rintro e w6 ⟨vb, rfl, h6⟩; obtain ⟨aob, capb, hvb, _, _⟩ := own_shape h6.row; subst hvb; have cg6 := HX.out _ h6.below; have hl6 := World.block_lt_of_cell? _ _ cg6.1; have H6 := Lib.hid h6; clear h6)
              | ((with_reducible refine Calls.mono (same_refl A (RdRow.of_own H6.out.drop.drop.row) (RdRow.of_own H6.out.row)) ?_); rintro e w7 ⟨rfl, hb7⟩; have cg7 := HX.out _ (H6.out.below.trans (hb7.mono H6.out.below.size)); have hl7 := World.block_lt_of_cell? _ _ cg7.1; have HB7 := Lib.hid hb7; clear hb7)))
            all_goals
              have HEND := Lib.hid (H6.out.drop.swap.drop.mono (TwT.stable _ _ _ _ _ _) HB7.out)
              refine HK.out _ _ ?_
              have hJ := HJ.out
              go_meet
              case rel => exact ⟨rfl, T2, HG3.out, HEND.out.turn⟩
          · go_quiet (fail)
            all_goals
              (repeat' (first | (go_big_may; fail) | go_values | go_skip | go_guarded | go_step | go_upon | go_back | dsimp only))
              refine HK.out _ _ ?_
              have hJ := HJ.out
              go_meet
              case rel => exact ⟨rfl, T, HGT.out, H2.out.mono (TwT.stable _ _ _ _ _ _) (below_dW _ _)⟩
        case rest =>
          obtain ⟨e75, T2, hG3, h3⟩ := hcut
          subst e75
          have H3 := Lib.hid h3
          have HG3 := Lib.hid hG3
          clear h3 hG3 H2
          (repeat' (first | (go_big_may; fail) | go_values | go_skip | go_guarded | go_step | go_upon | go_back | dsimp only))
          exact ⟨⟨k + 1, S2, T2, by simp, by omega, HG2.out, HG3.out, H3.out⟩, by simp [intOf] <;> omega⟩
    · by_cases hkb : (k : Int) < l2.length
      · have hkl : k < l2.length := by omega
        (repeat' (first | (go_big_may; fail) | go_values | go_skip | go_guarded | go_step | go_upon | go_back | dsimp only))
        go_cut [55] (fun v wx => v = .bool false ∧ ∃ S2, GoodS S2 ∧ At W wx (TwT ra ba rb bb S2 T))
        case first =>
          refine wp_only ?_
          rename_i J K' hJ hK
          have HJ := Lib.hid hJ
          have HK := Lib.hid hK
          clear hJ hK
          go_quiet (fail)
          all_goals
            (repeat' (first | (go_big_may; fail) | go_values | go_skip | go_guarded | go_step | go_upon | go_back | dsimp only))
            refine HK.out _ _ ?_
            have hJ := HJ.out
            go_meet
            case rel => exact ⟨rfl, S, HG.out, H.out.mono (TwT.stable _ _ _ _ _ _) (below_dW _ _)⟩
        case rest =>
          obtain ⟨e55, S2, hG2, h2⟩ := hcut
          subst e55
          have H2 := Lib.hid h2
          have HG2 := Lib.hid hG2
          clear h2 hG2 H HG
          (repeat' (first | (go_big_may; fail) | go_values | go_skip | go_guarded | go_step | go_upon | go_back | dsimp only))
          go_cut [75] (fun v wx => v = .bool false ∧ ∃ T2, GoodS T2 ∧ At W wx (TwT ra ba rb bb S2 T2))
          case first =>
            refine wp_only ?_
            rename_i J K' hJ hK
            have HJ := Lib.hid hJ
            have HK := Lib.hid hK
            clear hJ hK
            have hopW : OpOk W (l2.getD k default) := HO2.out.each _ (getD_mem hkl)
            obtain ⟨av, cv, hov, _, _⟩ := hopW.row.shape
            obtain ⟨bo, oo, co, hsl, _, _⟩ := HO2.out.op hkl
            cases hsl
            have HX := Lib.hid (fun (wq : World) (hb : Below W.heap.size W wq) => HO2.out.always hkl rfl wq hb)
            generalize l2.getD k default = o at *
            have HOP := Lib.hid hopW
            obtain ⟨ok, orun, opos, on, ov, op⟩ := o
            dsimp only at hov HX
            subst hov
            have hk0 : (0 : Int) ≤ k := by omega
            have h1 := (H2.out.turn.mono (TwT.stable _ _ _ _ _ _) ((Below.refl _ _).drew)).swap
            obtain ⟨x0, x1, x2, x3, x4⟩ := HX.out _ H2.out.turn.below
            have hpl := plays_calls h1 ((RefT.stable _ _).both ((RefT.stable _ _).both ((StoreT.stable _ _).both Stable.nought))) HF.out HGT.out HOP.out
            have hG3 := HGT.out.play HOP.out.n
            generalize hPP : playP T ⟨ok, orun, opos, on, .slice av op.length cv, op⟩ = PP at *
            obtain ⟨T2, A⟩ := PP
            dsimp only at hpl hG3
            have hsayf : ∀ (w5 : World) (va : Value), At W w5 (Both (RowT va A.list) (Both (StoreT bb T2) (Both (RefT rb T) (Both (RefT ra S2) (Both (StoreT ba S2) Nought))))) → Calls Tryd.prog 23 #[.pointer (some ⟨rb, 0, none⟩), opV ⟨ok, orun, opos, on, .slice av op.length cv, op⟩] w5 fun e w' => ∃ vb, e = .returned (ansV A vb) ∧ At W w' (Both (RowT vb A.list) (Both (RefT rb T2) (Both (RowT va A.list) (Both (StoreT bb T2) (Both (RefT ra S2) (Both (StoreT ba S2) Nought)))))) := fun w5 va h5 => by
              have h := says_calls h5.pull3 ((RowT.stable _ _).both ((StoreT.stable _ _).both ((RefT.stable _ _).both ((StoreT.stable _ _).both Stable.nought)))) HGT.out HOP.out
              rw [hPP] at h
              exact h
            have HPL := Lib.hid hpl
            have HSAY := Lib.hid hsayf
            have HPP := Lib.hid hPP
            have HG3 := Lib.hid hG3
            have cg0 := HX.out _ H2.out.turn.below
            have hl0 := World.block_lt_of_cell? _ _ cg0.1
            clear hpl hPP hG3 h1 hsayf
            go_region_held3 (fun wx => wx.cell? ⟨bo, oo + k * 5, none⟩ = some (.int .i64 ok) ∧ wx.cell? ⟨bo, oo + k * 5 + 1, none⟩ = some (.int .i64 orun) ∧ wx.cell? ⟨bo, oo + k * 5 + 2, none⟩ = some (.int .i64 opos) ∧ wx.cell? ⟨bo, oo + k * 5 + 3, none⟩ = some (.int .i64 on) ∧ wx.cell? ⟨bo, oo + k * 5 + 4, none⟩ = some (.slice av op.length cv)) (first | assumption | go_keep) ((first
              | ((with_reducible refine Calls.mono HPL.out ?_); rintro e w5 ⟨va, rfl, h5⟩; obtain ⟨aol, capl, hva, _, _⟩ := own_shape h5.row; subst hva; have cg5 := HX.out _ h5.below; have hl5 := World.block_lt_of_cell? _ _ cg5.1; have H5 := Lib.hid h5; clear h5)
              | ((with_reducible refine Calls.mono (HSAY.out _ _ H5.out) ?_); rintro e w6 ⟨vb, rfl, h6⟩; obtain ⟨aob, capb, hvb, _, _⟩ := own_shape h6.row; subst hvb; have cg6 := HX.out _ h6.below; have hl6 := World.block_lt_of_cell? _ _ cg6.1; have H6 := Lib.hid h6; clear h6)
              | ((with_reducible refine Calls.mono (same_refl A (RdRow.of_own H6.out.drop.drop.row) (RdRow.of_own H6.out.row)) ?_); rintro e w7 ⟨rfl, hb7⟩; have cg7 := HX.out _ (H6.out.below.trans (hb7.mono H6.out.below.size)); have hl7 := World.block_lt_of_cell? _ _ cg7.1; have HB7 := Lib.hid hb7; clear hb7)))
            all_goals
              have HEND := Lib.hid (H6.out.drop.swap.drop.mono (TwT.stable _ _ _ _ _ _) HB7.out)
              refine HK.out _ _ ?_
              have hJ := HJ.out
              go_meet
              case rel => exact ⟨rfl, T2, HG3.out, HEND.out.turn⟩
          case rest =>
            obtain ⟨e75, T2, hG3, h3⟩ := hcut
            subst e75
            have H3 := Lib.hid h3
            have HG3 := Lib.hid hG3
            clear h3 hG3 H2
            (repeat' (first | (go_big_may; fail) | go_values | go_skip | go_guarded | go_step | go_upon | go_back | dsimp only))
            exact ⟨⟨k + 1, S2, T2, by simp, by omega, HG2.out, HG3.out, H3.out⟩, by simp [intOf] <;> omega⟩
      · (repeat' (first | (go_big_may; fail) | go_values | go_skip | go_guarded | go_step | go_upon | go_back | dsimp only))
        go_ret
        exact ⟨rfl, H.out.below⟩

end Go.Proofs.YtomlkhfmblkpcaaDoor

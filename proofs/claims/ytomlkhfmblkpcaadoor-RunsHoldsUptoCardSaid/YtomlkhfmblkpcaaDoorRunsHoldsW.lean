/- RunsHolds walked. -/
import Derived.Test.YtomlkhfmblkpcaaDoorRunsAll
import Derived.Test.YtomlkhfmblkpcaaDoorRunsHoldsF
import Derived.Test.YtomlkhfmblkpcaaDoorSent8
import Derived.Test.YtomlkhfmblkpcaaDoorOpen
import Derived.Test.YtomlkhfmblkpcaaDoorCards
import Derived.Test.YtomlkhfmblkpcaaDoorTie
import Derived.Deep.DeepHandedRow
import Derived.Deep.DeepWitnessRowRef
import Derived.LaidMore
namespace Go.Proofs.YtomlkhfmblkpcaaDoor
open Go.RowKit

theorem info_held : (Tryd.prog.info? tHeld).map (fun i => (i.zero, i.size, i.bytes)) = some (some (.agg #[.string ⟨#[]⟩, .bool false]), 2, 24) := by kernel_rfl
theorem enters_made : ∀ xs w, (callFunc 24 xs).run Tryd.prog w = .ok (.enter 24 xs) w :=
  enters_fn Tryd.func24 (by kernel_rfl) rfl
abbrev ansD (A : AnsD) (v : Value) : Array Value := #[.int .i64 A.n, .int .i64 A.code, .string ⟨A.text.toArray⟩, v]
theorem cat_str (a b : List UInt8) : (⟨a.toArray⟩ : ByteArray) ++ ⟨b.toArray⟩ = ⟨(a ++ b).toArray⟩ := by
  apply ByteArray.ext
  simp [ByteArray.data_append]
/-- A book's line is set. -/
theorem BookT.put {W w : World} {R : Thing} {g cap n : Nat} {bk : List (List UInt8 × Bool)} (hn : n = bk.length) (h : At W w (Both (BookT (.slice (some ⟨g, 0, none⟩) n cap) bk) R)) (hR : Stable R) {i : Nat} (hi : i < bk.length) (t : List UInt8) :
    At W (w.setCell ⟨g, i * 2, none⟩ (.string ⟨t.toArray⟩)) (Both (BookT (.slice (some ⟨g, 0, none⟩) n cap) (bk.set i (t, bk[i].2))) R) := by
  subst hn
  have h1 := h.storeG hR (i * 2 + 0) (.string ⟨t.toArray⟩)
  have e : bk.getD i default = bk[i] := by rw [List.getD_eq_getElem?_getD, List.getElem?_eq_getElem hi]; rfl
  rw [flatMap_set cellsB_len bk (x := (t, bk[i].2)) hi (by omega) (by rw [e]; rfl)] at h1
  unfold BookT
  rw [List.length_set]
  exact h1
theorem BookT.mark {W w : World} {R : Thing} {g cap n : Nat} {bk : List (List UInt8 × Bool)} (hn : n = bk.length) (h : At W w (Both (BookT (.slice (some ⟨g, 0, none⟩) n cap) bk) R)) (hR : Stable R) {i : Nat} (hi : i < bk.length) (x : Bool) :
    At W (w.setCell ⟨g, i * 2 + 1, none⟩ (.bool x)) (Both (BookT (.slice (some ⟨g, 0, none⟩) n cap) (bk.set i (bk[i].1, x))) R) := by
  subst hn
  have h1 := h.storeG hR (i * 2 + 1) (.bool x)
  have e : bk.getD i default = bk[i] := by rw [List.getD_eq_getElem?_getD, List.getElem?_eq_getElem hi]; rfl
  rw [flatMap_set cellsB_len bk (x := (bk[i].1, x)) hi (by omega) (by rw [e]; rfl)] at h1
  unfold BookT
  rw [List.length_set]
  exact h1

set_option maxRecDepth 100000 in
set_option maxHeartbeats 25600000 in
theorem runsHolds_walk (W : World) (ef : Nat → Nat × Nat) (hF : Fails W ef failsAll) (c : Int) (hc : -9223372036854775808 ≤ c ∧ c ≤ 9223372036854775807) (ops : List OpD) (v : Value) (hops : OpsRow W v ops) (hlen : ops.length ≤ 1048576) :
    Calls Tryd.prog 8 #[.int .i64 c, v] W fun e w' => e = .returned (.bool true) ∧ Below W.heap.size W w' := by
  have HF := Lib.hid hF
  have HO := Lib.hid hops
  obtain ⟨ao, cap, hv, hcap, hcm⟩ := hops.row.shape
  subst hv
  clear hF hops
  go_enter Tryd.func8, Tryd.ntmps8
  (repeat' (first | (go_big_may; fail) | go_values | go_skip | go_guarded | go_step | go_upon | go_back | dsimp only))
  refine (New_at (At.nought (Below.refl _ _)) Stable.nought (by unfold inI64; omega)).mono ?_
  rintro e w1 ⟨rfl, h1⟩
  generalize W.heap.size + 1 = b at *
  have H1 := Lib.hid h1
  clear h1
  (repeat' (first | (go_big_may; fail) | go_values | go_skip | go_guarded | go_step | go_upon | go_back | dsimp only))
  refine (wakes_calls (Below.refl _ _) (HF.out.below H1.out.below) (by decide) (by decide)).mono ?_
  rintro e w2 ⟨rfl, hb2⟩
  have h2 := H1.out.mono ((StoreT.stable _ _).both Stable.nought) hb2
  have H2 := Lib.hid (h2.noRowG ((StoreT.stable _ _).both Stable.nought) tHeld 2).swap
  clear hb2 h2 H1
  (repeat' (first | (go_big_may; fail) | go_values | go_skip | go_guarded | go_step | go_upon | go_back | dsimp only))
  go_loopw [6, 22] (fun bv i wr => ∃ (k : Nat) (S : St) (bk : List (List UInt8 × Bool)), i = .int .i64 k ∧ k ≤ ops.length ∧ GoodS S ∧ BookR S bk ∧ S.cap = (newSt c).cap ∧ At W wr (Both (StoreT b S) (Both (BookT bv bk) Nought))) (fun _ i _ => ops.length - (intOf i).toNat)
  case atStart => exact ⟨0, newSt c, [], rfl, by omega, GoodS.new c, BookR.new c, rfl, H2.out⟩
  case round =>
    rename World => wr
    obtain ⟨k, S, bk, rfl, hk, hG, hB, hcp, hh⟩ := hrel
    obtain ⟨aob, capb, hbv, _, _⟩ := own_shape hh.drop.rowG
    subst hbv
    have HH := Lib.hid hh
    have HG := Lib.hid hG
    have HB := Lib.hid hB
    have HCP := Lib.hid hcp
    clear H2 hG hB hcp
    by_cases hlt : (k : Int) < ops.length
    · have hkl : k < ops.length := by omega
      obtain ⟨bo, oo, co, hsl, ⟨x0, x1, x2, x3, x4⟩, hop⟩ := (HO.out.below hh.below).op hkl
      cases hsl
      have hopW : OpOk W (ops.getD k default) := HO.out.each _ (getD_mem hkl)
      obtain ⟨av, cv, hov, _, _⟩ := hopW.row.shape
      generalize ops.getD k default = o at *
      have HOP := Lib.hid hopW
      obtain ⟨ok, orun, opos, on, ov, op⟩ := o
      dsimp only at hov x0 x1 x2 x3 x4
      subst hov
      have hk0 : (0 : Int) ≤ k := by omega
      have hst : Stable (Both (StoreT b S) (Both (BookT (.slice aob bk.length capb) bk) Nought)) := (StoreT.stable _ _).both ((RowG.stable _ _ _ _ _).both Stable.nought)
      have h4 := HH.out.newCell hst (opCells ⟨ok, orun, opos, on, .slice av op.length cv, op⟩) tOp
      obtain ⟨w4, hw4⟩ : ∃ w4, w4 = wr.alloc (.cells (opCells ⟨ok, orun, opos, on, .slice av op.length cv, op⟩) tOp) := ⟨_, rfl⟩
      rw [← hw4] at h4
      have H4 := Lib.hid h4
      have HW4 := Lib.hid hw4
      clear h4 hw4 hh hop
      go_upto_region 8 with (fail)
      rw [← HW4.out]
      clear HW4 x0 x1 x2 x3 x4
      generalize wr.heap.size = s4 at *
      have y0 := cell_of H4.out.cell.1 0; have y1 := cell_of H4.out.cell.1 1; have y2 := cell_of H4.out.cell.1 2; have y3 := cell_of H4.out.cell.1 3; have y4 := cell_of H4.out.cell.1 4
      simp only [List.getElem?_toArray, List.getElem?_cons_zero, List.getElem?_cons_succ] at y0 y1 y2 y3 y4
      have HR4 := Lib.hid (show Stable (Both (CellT s4 (opCells ⟨ok, orun, opos, on, .slice av op.length cv, op⟩) tOp) (Both (BookT (.slice aob bk.length capb) bk) Nought)) from (CellT.stable _ _ _).both ((RowG.stable _ _ _ _ _).both Stable.nought))
      have hG2 := HG.out.play HOP.out.n
      have hcp2 := (playP_cap S ⟨ok, orun, opos, on, .slice av op.length cv, op⟩).trans HCP.out
      have hBC := HB.out.playC (o := ⟨ok, orun, opos, on, .slice av op.length cv, op⟩)
      have hBA := HB.out.playA (o := ⟨ok, orun, opos, on, .slice av op.length cv, op⟩)
      have hBR := HB.out.playR (o := ⟨ok, orun, opos, on, .slice av op.length cv, op⟩)
      have hBO := HB.out.playO (o := ⟨ok, orun, opos, on, .slice av op.length cv, op⟩)
      have hpl := plays_calls H4.out.swap HR4.out HF.out HG.out HOP.out
      generalize hPP : playP S ⟨ok, orun, opos, on, .slice av op.length cv, op⟩ = PP at *
      obtain ⟨S2, A⟩ := PP
      dsimp only at hpl hG2 hcp2 hBC hBA hBR hBO
      have HPL := Lib.hid hpl
      have HG2 := Lib.hid hG2
      have HCP2 := Lib.hid hcp2
      have HBC := Lib.hid hBC
      have HBA := Lib.hid hBA
      have HBR := Lib.hid hBR
      have HBO := Lib.hid hBO
      have hcap2 : (S2.cap : Int) ≤ max 0 c := by rw [hcp2]; simp only [newSt]; omega
      have HCAP := Lib.hid hcap2
      have hblen : bk.length ≤ 16777216 := by rw [HB.out.len]; exact HG.out.sizes.2.2.2.1
      clear hpl hG2 hcp2 hBC hBA hBR hBO hPP hcap2
      (repeat' (first | (go_big_may; fail) | go_values | go_skip | go_guarded | go_step | go_upon | go_back | dsimp only))
      refine HPL.out.mono ?_
      rintro e w5 ⟨va, rfl, h5⟩
      obtain ⟨aol, capl, hva, _, _⟩ := own_shape h5.row
      subst hva
      have hst5 : Stable (Both (RowT (.slice aol A.list.length capl) A.list) (Both (StoreT b S2) (Both (CellT s4 (opCells ⟨ok, orun, opos, on, .slice av op.length cv, op⟩) tOp) (Both (BookT (.slice aob bk.length capb) bk) Nought)))) := (RowT.stable _ _).both ((StoreT.stable _ _).both HR4.out)
      have h6 := h5.newCell hst5 (ansD A (.slice aol A.list.length capl)) tAns
      obtain ⟨w6, hw6⟩ : ∃ w6, w6 = w5.alloc (.cells (ansD A (.slice aol A.list.length capl)) tAns) := ⟨_, rfl⟩
      rw [← hw6] at h6
      have H6 := Lib.hid (h6.pull5)
      have HW6 := Lib.hid hw6
      clear h5 h6 hw6 y0 y1 y2 y3 y4 H4 hst5
      go_upto_region 9 with (fail)
      rw [← HW6.out]
      clear HW6
      generalize w5.heap.size = s5 at *
      have HSR := Lib.hid (show Stable (Both (CellT s5 (ansD A (.slice aol A.list.length capl)) tAns) (Both (RowT (.slice aol A.list.length capl) A.list) (Both (StoreT b S2) (Both (CellT s4 (opCells ⟨ok, orun, opos, on, .slice av op.length cv, op⟩) tOp) Nought)))) from (CellT.stable _ _ _).both ((RowT.stable _ _).both ((StoreT.stable _ _).both ((CellT.stable _ _ _).both Stable.nought))))
      have y0 := cell_of H6.out.drop.drop.drop.drop.cell.1 0; have y1 := cell_of H6.out.drop.drop.drop.drop.cell.1 1; have y4 := cell_of H6.out.drop.drop.drop.drop.cell.1 4
      have z0 := cell_of H6.out.drop.cell.1 0; have z1 := cell_of H6.out.drop.cell.1 1
      simp only [List.getElem?_toArray, List.getElem?_cons_zero, List.getElem?_cons_succ] at y0 y1 y4 z0 z1
      have hends : ∀ (w9 : World) (bv : Value) (bk2 : List (List UInt8 × Bool)), BookR S2 bk2 → At W w9 (Both (BookT bv bk2) (Both (CellT s5 (ansD A (.slice aol A.list.length capl)) tAns) (Both (RowT (.slice aol A.list.length capl) A.list) (Both (StoreT b S2) (Both (CellT s4 (opCells ⟨ok, orun, opos, on, .slice av op.length cv, op⟩) tOp) Nought))))) →
          Calls Tryd.prog 25 #[.pointer (some ⟨b, 0, none⟩), bv, .int .i64 c] w9 fun e w' => e = .returned (.bool true) ∧ At W w' (Both (StoreT b S2) (Both (BookT bv bk2) Nought)) := fun w9 bv bk2 hb2 h9 => by
        refine (holds_calls h9.pull4 ((CellT.stable _ _ _).both ((RowT.stable _ _).both ((CellT.stable _ _ _).both Stable.nought))) HF.out HG2.out hb2 (by unfold inI64; omega) HCAP.out).mono ?_
        rintro e w' ⟨he, h⟩
        exact ⟨he, h.pull3.drop.pull3.drop.pull3.drop⟩
      have HENDS := Lib.hid hends
      clear hends
      by_cases hc1 : A.code = 0 ∧ ok = 1
      · obtain ⟨hcode, hk1⟩ := hc1
        obtain ⟨hn1, hm1, hb2⟩ := HBC.out hk1 hcode
        have HB2 := Lib.hid hb2
        subst hk1
        rw [hcode] at z1
        rw [hn1] at z0
        clear hb2
        (repeat' (first | (go_big_may; (at_builtin; go_must (refine wpList_append_at rfl _ _ 50 tHeld rfl Tryd.underlying50 info_held rfl (by decide) rfl H6.out HSR.out (m := 1) rfl rfl (by intro u hu; simp at hu; rcases hu with rfl | rfl <;> rfl) (by unfold maxLen; omega) (by omega) ?_); intro v7 w7 h7 _ _; have H7 := Lib.hid h7; clear h7)) | go_values | go_skip | go_guarded | go_step | go_upon | go_back | dsimp only))
        obtain ⟨ao7, cap7, hv7, _, _⟩ := own_shape H7.out.rowG
        subst hv7
        have h8 : At W w7.drew (Both (BookT (.slice ao7 (bk.length + 1) cap7) (bk ++ [([], true)])) (Both (CellT s5 (ansD A (.slice aol A.list.length capl)) tAns) (Both (RowT (.slice aol A.list.length capl) A.list) (Both (StoreT b S2) (Both (CellT s4 (opCells ⟨1, orun, opos, on, .slice av op.length cv, op⟩) tOp) Nought))))) := by
          have q := H7.out.mono ((RowG.stable _ _ _ _ _).both HSR.out) ((Below.refl _ _).drew)
          unfold BookT
          rw [List.length_append, List.flatMap_append]
          exact q
        have H8 := Lib.hid h8
        have he1 : ((bk.length : Int) + 1 == ((bk.length + 1 : Nat) : Int)) = true := by simp
        have he2 : (((bk.length + 1 : Nat) : Int) == (bk.length : Int) + 1) = true := by simp
        have p0 := cell_of H7.out.drop.cell.1 0; have p1 := cell_of H7.out.drop.cell.1 1
        have r0 := cell_of H7.out.drop.drop.drop.drop.cell.1 0; have r1 := cell_of H7.out.drop.drop.drop.drop.cell.1 1
        simp only [List.getElem?_toArray, List.getElem?_cons_zero, List.getElem?_cons_succ] at p0 p1 r0 r1
        rw [hcode] at p1
        rw [hn1] at p0
        have HM1 := Lib.hid hm1
        clear h8 y0 y1 y4 z0 z1 H7 hn1 hm1 H6
        go_region_law (refine step_call_fnG (by first | rfl | simp [Region.wanted, yielded]) 24 _ _ rfl enters_made [.pointer (some ⟨b, 0, none⟩)] rfl ?_; refine (Made_at H8.out.pull4).mono ?_; rintro e w8 ⟨rfl, rfl⟩; rw [HM1.out])
        all_goals
          (repeat' (first | (go_big_may; fail) | go_values | go_skip | go_guarded | go_step | go_upon | go_back | dsimp only))
          refine (HENDS.out _ _ _ HB2.out H8.out).mono ?_
          rintro e w9 ⟨rfl, h9⟩
          have H9 := Lib.hid h9
          clear h9 p0 p1 r0 r1 H8
          (repeat' (first | (go_big_may; fail) | go_values | go_skip | go_guarded | go_step | go_upon | go_back | dsimp only))
          go_roundw
          case rel => exact ⟨k + 1, S2, _, by simp, by omega, HG2.out, HB2.out, HCP2.out, H9.out⟩
          case measure => simp [intOf] <;> omega
      · by_cases hc2 : A.code = 0 ∧ (ok = 2 ∨ ok = 6)
        · obtain ⟨hcode, hk26⟩ := hc2
          rcases hk26 with hk2 | hk6
          · obtain ⟨i, hi, hrun, hthere, hb2⟩ := HBA.out hk2 hcode
            (try dsimp only at hrun hb2)
            subst hk2
            subst hrun
            have HB2 := Lib.hid hb2
            have HTH := Lib.hid hthere
            rw [hcode] at z1
            obtain ⟨gb, cb, hsl, x0, x1, fz⟩ := BookT.item H6.out hi
            cases hsl
            rw [hthere] at x1
            have hi0 : ¬ ((i : Int) + 1 < 1) := by omega
            have hbl : bk[i].1.length ≤ 67108864 := by
              obtain ⟨p, _, _, hp2, hpf⟩ := HB.out.at HG.out hi HTH.out
              have h1 := HG.out.le p hpf
              have h2 := HG.out.sizes
              rw [hp2] at h1
              omega
            have hol : op.length ≤ 1048576 := by have h1 := HOP.out.len; have h2 : op.length + (cat op).length ≤ 1048576 := h1; omega
            have hi2 : ¬ ((bk.length : Int) < (i : Int) + 1) := by omega
            have hi3 : (0 : Int) ≤ i := by omega
            have hi4 : (i : Int) < bk.length := by omega
            have hwi : IntKind.i64.wrap ((i : Int) + 1 - 1) = (i : Int) := by rw [IntKind.wrap_i64] <;> omega
            have hbb : ∀ bv bk2, At W w6 (Both (BookT bv bk2) (Both (CellT s5 (ansD A (.slice aol A.list.length capl)) tAns) (Both (RowT (.slice aol A.list.length capl) A.list) (Both (StoreT b S2) (Both (CellT s4 (opCells ⟨2, (i : Int) + 1, opos, on, .slice av op.length cv, op⟩) tOp) Nought))))) → True := fun _ _ _ => trivial
            clear hbb hb2 hthere
            (repeat' (first | (go_big_may; fail) | go_values | go_skip | go_guarded | go_step | go_upon | go_back | dsimp only))
            go_loopw [89] (fun x wx => ∃ m : Nat, x = .int .i64 m ∧ m ≤ op.length ∧ At W wx (Both (BookT (.slice (some ⟨gb, 0, none⟩) bk.length capb) (bk.set i (bk[i].1 ++ cat (op.take m), true))) (Both (CellT s5 (ansD A (.slice aol A.list.length capl)) tAns) (Both (RowT (.slice aol A.list.length capl) A.list) (Both (StoreT b S2) (Both (CellT s4 (opCells ⟨2, (i : Int) + 1, opos, on, .slice av op.length cv, op⟩) tOp) Nought)))))) (fun x _ => op.length - (intOf x).toNat)
            case atStart =>
              refine ⟨0, rfl, by omega, ?_⟩
              have e0 : bk[i].1 ++ cat (op.take 0) = bk[i].1 := List.append_nil _
              have e1 : (bk[i].1, true) = bk[i] := by rw [← HTH.out]
              have e : bk.set i (bk[i].1 ++ cat (op.take 0), true) = bk := by rw [e0, e1, List.set_getElem_self]
              rw [e]
              exact H6.out
            case round =>
              rename World => wx
              obtain ⟨m, rfl, hm, hx⟩ := hrel
              have HX := Lib.hid hx
              have y0 := cell_of hx.drop.drop.drop.drop.cell.1 0; have y1 := cell_of hx.drop.drop.drop.drop.cell.1 1
              simp only [List.getElem?_toArray, List.getElem?_cons_zero, List.getElem?_cons_succ] at y0 y1
              obtain ⟨g2, c2, e2, u0, u1, uz⟩ := BookT.item hx (i := i) (by rw [List.length_set]; exact hi)
              rw [List.length_set] at e2
              cases e2
              rw [List.getElem_set_self] at u0 u1
              by_cases hlm : (m : Int) < op.length
              · have hml : m < op.length := by omega
                have hm0 : (0 : Int) ≤ m := by omega
                obtain ⟨bp, fp, cp, hps, w0⟩ := (HOP.out.row.below hx.below).str (k := m) (r := op.getD m []) (by rw [List.getD_eq_getElem?_getD, List.getElem?_eq_getElem hml]; rfl)
                cases hps
                have hcs := cat_take_succ hml
                generalize op.getD m [] = r at *
                have hput := BookT.put (by rw [List.length_set]) hx HSR.out (i := i) (by rw [List.length_set]; exact hi) (bk[i].1 ++ cat (op.take m) ++ r)
                rw [List.set_set, List.getElem_set_self] at hput
                rw [List.append_assoc, ← hcs] at hput
                have hct := cat_str (bk[i].1 ++ cat (op.take m)) r
                rw [List.append_assoc, ← hcs] at hct
                have HPUT := Lib.hid hput
                have hfit : ¬ 9223372036854775807 < bk[i].1.length + (cat (op.take m)).length + r.length := by
                  have h1 := congrArg List.length hcs
                  rw [List.length_append] at h1
                  have h2 := cat_take_le op (m + 1)
                  have h3 := HOP.out.len
                  have h4 : op.length + (cat op).length ≤ 1048576 := h3
                  omega
                clear hput hx hcs
                (repeat' (first | (go_big_may; fail) | go_values | go_skip | go_guarded | go_step | go_upon | go_back | dsimp only))
                go_roundw
                case rel => exact ⟨m + 1, by simp, by omega, HPUT.out⟩
                case measure => simp [intOf] <;> omega
              · have hme : m = op.length := by omega
                subst hme
                rw [List.take_length] at hx u0
                have hmk := BookT.mark (by rw [List.length_set]) hx HSR.out (i := i) (by rw [List.length_set]; exact hi) true
                rw [List.set_set, List.getElem_set_self] at hmk
                have HMK := Lib.hid hmk
                clear hmk hx
                (repeat' (first | (go_big_may; fail) | go_values | go_skip | go_guarded | go_step | go_upon | go_back | dsimp only))
                refine (HENDS.out _ _ _ (HB2.out) HMK.out).mono ?_
                rintro e w9 ⟨rfl, h9⟩
                have H9 := Lib.hid h9
                clear h9
                (repeat' (first | (go_big_may; fail) | go_values | go_skip | go_guarded | go_step | go_upon | go_back | dsimp only))
                go_roundw
                case rel => exact ⟨k + 1, S2, _, by simp, by omega, HG2.out, HB2.out, HCP2.out, H9.out⟩
                case measure => simp [intOf] <;> omega
          · obtain ⟨i, hi, hrun, hthere, hb2⟩ := HBR.out hk6 hcode
            (try dsimp only at hrun hb2)
            subst hk6
            subst hrun
            have HB2 := Lib.hid hb2
            have HTH := Lib.hid hthere
            rw [hcode] at z1
            obtain ⟨gb, cb, hsl, x0, x1, fz⟩ := BookT.item H6.out hi
            cases hsl
            rw [hthere] at x1
            have hi0 : ¬ ((i : Int) + 1 < 1) := by omega
            have hol : op.length ≤ 1048576 := by have h1 := HOP.out.len; have h2 : op.length + (cat op).length ≤ 1048576 := h1; omega
            have hi2 : ¬ ((bk.length : Int) < (i : Int) + 1) := by omega
            have hi3 : (0 : Int) ≤ i := by omega
            have hi4 : (i : Int) < bk.length := by omega
            have hwi : IntKind.i64.wrap ((i : Int) + 1 - 1) = (i : Int) := by rw [IntKind.wrap_i64] <;> omega
            have hbb : ∀ bv bk2, At W w6 (Both (BookT bv bk2) (Both (CellT s5 (ansD A (.slice aol A.list.length capl)) tAns) (Both (RowT (.slice aol A.list.length capl) A.list) (Both (StoreT b S2) (Both (CellT s4 (opCells ⟨6, (i : Int) + 1, opos, on, .slice av op.length cv, op⟩) tOp) Nought))))) → True := fun _ _ _ => trivial
            clear hbb hb2 hthere
            (repeat' (first | (go_big_may; fail) | go_values | go_skip | go_guarded | go_step | go_upon | go_back | dsimp only))
            go_loopw [89] (fun x wx => ∃ m : Nat, x = .int .i64 m ∧ m ≤ op.length ∧ At W wx (Both (BookT (.slice (some ⟨gb, 0, none⟩) bk.length capb) bk) (Both (CellT s5 (ansD A (.slice aol A.list.length capl)) tAns) (Both (RowT (.slice aol A.list.length capl) A.list) (Both (StoreT b S2) (Both (CellT s4 (opCells ⟨6, (i : Int) + 1, opos, on, .slice av op.length cv, op⟩) tOp) Nought)))))) (fun x _ => op.length - (intOf x).toNat)
            case atStart =>
              refine ⟨0, rfl, by omega, ?_⟩
              exact H6.out
            case round =>
              rename World => wx
              obtain ⟨m, rfl, hm, hx⟩ := hrel
              have HX := Lib.hid hx
              have y0 := cell_of hx.drop.drop.drop.drop.cell.1 0; have y1 := cell_of hx.drop.drop.drop.drop.cell.1 1
              simp only [List.getElem?_toArray, List.getElem?_cons_zero, List.getElem?_cons_succ] at y0 y1
              obtain ⟨g2, c2, e2, u0, u1, uz⟩ := BookT.item hx hi
              cases e2
              rw [HTH.out] at u1
              by_cases hlm : (m : Int) < op.length
              · have hml : m < op.length := by omega
                have hm0 : (0 : Int) ≤ m := by omega
                obtain ⟨bp, fp, cp, hps, w0⟩ := (HOP.out.row.below hx.below).str (k := m) (r := op.getD m []) (by rw [List.getD_eq_getElem?_getD, List.getElem?_eq_getElem hml]; rfl)
                cases hps
                generalize op.getD m [] = r at *
                clear hx
                (repeat' (first | (go_big_may; fail) | go_values | go_skip | go_guarded | go_step | go_upon | go_back | dsimp only))
                go_roundw
                case rel => exact ⟨m + 1, by simp, by omega, HX.out⟩
                case measure => simp [intOf] <;> omega
              · have hme : m = op.length := by omega
                subst hme
                have hmk := BookT.mark rfl hx HSR.out hi false
                have HMK := Lib.hid hmk
                clear hmk hx
                (repeat' (first | (go_big_may; fail) | go_values | go_skip | go_guarded | go_step | go_upon | go_back | dsimp only))
                refine (HENDS.out _ _ _ (HB2.out _) HMK.out).mono ?_
                rintro e w9 ⟨rfl, h9⟩
                have H9 := Lib.hid h9
                clear h9
                (repeat' (first | (go_big_may; fail) | go_values | go_skip | go_guarded | go_step | go_upon | go_back | dsimp only))
                go_roundw
                case rel => exact ⟨k + 1, S2, _, by simp, by omega, HG2.out, HB2.out _, HCP2.out, H9.out⟩
                case measure => simp [intOf] <;> omega
        · have hb2 := HBO.out (fun h0 => ⟨fun h => hc1 ⟨h0, h⟩, fun h => hc2 ⟨h0, .inl h⟩, fun h => hc2 ⟨h0, .inr h⟩⟩)
          have HB2 := Lib.hid hb2
          clear hb2
          by_cases hcode : A.code = 0
          · have k1 : (ok == 1) = false := by have : ¬ ok = 1 := fun h => hc1 ⟨hcode, h⟩; simpa using this
            have k2 : (ok == 2) = false := by have : ¬ ok = 2 := fun h => hc2 ⟨hcode, .inl h⟩; simpa using this
            have k6 : (ok == 6) = false := by have : ¬ ok = 6 := fun h => hc2 ⟨hcode, .inr h⟩; simpa using this
            rw [hcode] at z1
            clear hc1 hc2
            (repeat' (first | (go_big_may; fail) | go_values | go_skip | go_guarded | go_step | go_upon | go_back | dsimp only))
            refine (HENDS.out _ _ _ HB2.out H6.out).mono ?_
            rintro e w9 ⟨rfl, h9⟩
            have H9 := Lib.hid h9
            clear h9 y0 y1 y4 z0 z1 H6
            (repeat' (first | (go_big_may; fail) | go_values | go_skip | go_guarded | go_step | go_upon | go_back | dsimp only))
            go_roundw
            case rel => exact ⟨k + 1, S2, bk, by simp, by omega, HG2.out, HB2.out, HCP2.out, H9.out⟩
            case measure => simp [intOf] <;> omega
          · have kc : ((A.code : Int) == 0) = false := by have : ¬ (A.code : Int) = 0 := by omega
                                                          simpa using this
            clear hc1 hc2 hcode
            (repeat' (first | (go_big_may; fail) | go_values | go_skip | go_guarded | go_step | go_upon | go_back | dsimp only))
            refine (HENDS.out _ _ _ HB2.out H6.out).mono ?_
            rintro e w9 ⟨rfl, h9⟩
            have H9 := Lib.hid h9
            clear h9 y0 y1 y4 z0 z1 H6
            (repeat' (first | (go_big_may; fail) | go_values | go_skip | go_guarded | go_step | go_upon | go_back | dsimp only))
            go_roundw
            case rel => exact ⟨k + 1, S2, bk, by simp, by omega, HG2.out, HB2.out, HCP2.out, H9.out⟩
            case measure => simp [intOf] <;> omega
    · clear hh
      (repeat' (first | (go_big_may; fail) | go_values | go_skip | go_guarded | go_step | go_upon | go_back | dsimp only))
      go_ret
      exact ⟨rfl, HH.out.below⟩
end Go.Proofs.YtomlkhfmblkpcaaDoor

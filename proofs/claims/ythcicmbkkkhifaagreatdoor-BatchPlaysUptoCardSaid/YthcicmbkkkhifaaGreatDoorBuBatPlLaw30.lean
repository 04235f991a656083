/- batch.Former: the deferred end of write. · batch.Former: Drop walked. -/
import Derived.Test.YthcicmbkkkhifaaGreatDoorBuBatPlLaw29
import Derived.Test.YthcicmbkkkhifaaGreatDoorBuBatPlLaw24
import Derived.Defers
set_option linter.unusedSimpArgs false
set_option linter.unusedVariables false
namespace Go.Proofs.YthcicmbkkkhifaaGreatDoor
open Go.RowKit

abbrev tPW : TypeId := 92
abbrev tPF : TypeId := 32
section
variable {W w : World} {R : Thing} {k b ke kw kf kx : Nat} {ef : Nat → Nat × Nat} {S : St} {f : FmD} {x : WrD} {c : Nat}
theorem At.fmDead (h : At W w (Both (FoT k b ef f) R)) (hR : Stable R) (hc : c ≠ 0) : At W (w.setCell ⟨k, 4, none⟩ (errV ef c)) (Both (FoT k b ef { f with dead := c }) R) := by
  obtain ⟨bv, hs, mv, hq, h⟩ := h.fo
  have h2 : At W _ (Both (CellT k (fmCells b ef { f with dead := c } bv mv) tFm) (Both (RowG tSx 1 bv hs.length (strs hs)) (Both (RowT mv (mz f.made)) R))) :=
    (h.perm (show _ = Both (CellT k (fmCells b ef f bv mv) tFm) (Both (RowG tSx 1 bv hs.length (strs hs)) (Both (RowT mv (mz f.made)) R)) by unfold FoI; ac_rfl)).setCell ((RowG.stable _ _ _ _ _).both ((RowT.stable _ _).both hR)) 4 (errV ef c)
  exact At.toFo (f := { f with dead := c }) (fun e => absurd e hc) (h2.perm (by unfold FoI; ac_rfl))
theorem At.foDead (h : At W w (Both (FoT k b ef f) R)) : ∃ v, w.cell? ⟨k, 4, none⟩ = some v ∧ w.frozen? ⟨k, 4, none⟩ = false ∧ k < w.heap.size := by
  obtain ⟨bv, hs, mv, hq, h⟩ := h.fo
  exact ⟨_, h.foF.c4, h.foF.fz 4, h.foF.lt⟩
set_option maxRecDepth 100000 in
set_option maxHeartbeats 1600000 in
/-- No failure: nothing. -/
theorem write1_ok (h : At W w (Both (CellT ke #[.nilIface] tErr) R)) (vw vf : Value) :
    CallsD Tryz.prog 42 #[.pointer (some ⟨ke, 0, none⟩), vw, vf] .returning w fun e u' w' => u' = .returning ∧ (e = .returned (.tuple #[]) ∧ w' = w) := by
  have c0 := cell_at h.cell.1 0
  simp only [List.getElem?_toArray, List.getElem?_cons_zero] at c0
  have neqn : ∀ wz : World, (binOp .neq tErr .nilIface .nilIface).run Tryz.prog wz = .ok (.bool false) wz := fun wz => neq_nil wz
  clear h
  go_enter_d Tryz.func42, Tryz.ntmps42
  (repeat' (first | (go_big_may; fail) | go_values | go_skip | go_guarded | go_step | go_upon | go_back | dsimp only))
  go_end0
  exact ⟨rfl, rfl⟩
set_option maxRecDepth 100000 in
set_option maxHeartbeats 3200000 in
/-- A failure ahead of the writer: what was made is removed, and the former dies. -/
theorem write1_nil (h : At W w (Both (CellT ke #[errV ef c] tErr) (Both (CellT kw #[.pointer none] tPW) (Both (CellT kf #[.pointer (some ⟨k, 0, none⟩)] tPF) (Both (FoT k b ef f) (Both (StoreT b S) R)))))) (hR : Stable R) (hF : Fails W ef fails11) (hG : GoodS S) (hm : ∀ n ∈ f.made, n ≤ S.made) (hc : c ≠ 0) :
    CallsD Tryz.prog 42 #[.pointer (some ⟨ke, 0, none⟩), .pointer (some ⟨kw, 0, none⟩), .pointer (some ⟨kf, 0, none⟩)] .returning w fun e u' w' => u' = .returning ∧ (e = .returned (.tuple #[]) ∧
      At W w' (Both (CellT ke #[errV ef c] tErr) (Both (CellT kw #[.pointer none] tPW) (Both (CellT kf #[.pointer (some ⟨k, 0, none⟩)] tPF) (Both (FoT k b ef { f with made := [], dead := c }) (Both (StoreT b (goneP S f.made)) R)))))) := by
  have hep := errV_pos ef hc
  have HEP := Lib.hid hep
  rw [hep] at h ⊢
  have HC := Lib.hid hc
  have HR := Lib.hid hR
  have HF := Lib.hid hF
  have HG := Lib.hid hG
  have HM := Lib.hid hm
  generalize ef c = ec at *
  have neqi := run_neq_iface_nil2 ⟨ec.1, ec.2, none⟩
  have e0 := cell_at h.cell.1 0
  have w0 := cell_at h.drop.cell.1 0
  simp only [List.getElem?_toArray, List.getElem?_cons_zero] at e0 w0
  have H := Lib.hid h
  clear h hR hF hG hm hc hep
  go_enter_d Tryz.func42, Tryz.ntmps42
  (repeat' (first | (go_big_may; fail) | go_values | go_skip | go_guarded | go_step | go_upon | go_back | dsimp only))
  refine Drop_nil.mono ?_
  rintro e w1 ⟨rfl, hb⟩
  have h1 := H.out.mono ((CellT.stable _ _ _).both ((CellT.stable _ _ _).both ((CellT.stable _ _ _).both ((FoT.stable _ _ _ _).both ((StoreT.stable _ _).both HR.out))))) hb
  have f0 := cell_at h1.drop.drop.cell.1 0
  simp only [List.getElem?_toArray, List.getElem?_cons_zero] at f0
  have HCL := Lib.hid (clear_at (h1.perm (show _ = Both (FoT k b ef f) (Both (StoreT b S) (Both (CellT ke #[.iface tES (.pointer (some ⟨ec.1, ec.2, none⟩))] tErr) (Both (CellT kw #[.pointer none] tPW) (Both (CellT kf #[.pointer (some ⟨k, 0, none⟩)] tPF) R)))) by ac_rfl)) ((CellT.stable _ _ _).both ((CellT.stable _ _ _).both ((CellT.stable _ _ _).both HR.out))) HF.out HG.out HM.out)
  clear h1 hb e0 w0 H
  (repeat' (first | (go_big_may; fail) | go_values | go_skip | go_guarded | go_step | go_upon | go_back | dsimp only))
  refine HCL.out.mono ?_
  rintro e w3 ⟨rfl, h3⟩
  have H3 := Lib.hid h3
  obtain ⟨vd, d4, fz4, lt4⟩ := h3.foDead
  have h4 := h3.perm (show _ = Both (CellT ke #[.iface tES (.pointer (some ⟨ec.1, ec.2, none⟩))] tErr) (Both (CellT kf #[.pointer (some ⟨k, 0, none⟩)] tPF) (Both (CellT kw #[.pointer none] tPW) (Both (FoT k b ef { f with made := [] }) (Both (StoreT b (goneP S f.made)) R)))) by ac_rfl)
  have e0 := cell_at h4.cell.1 0
  have f0 := cell_at h4.drop.cell.1 0
  have HEND := Lib.hid (At.fmDead (c := c) H3.out ((StoreT.stable _ _).both ((CellT.stable _ _ _).both ((CellT.stable _ _ _).both ((CellT.stable _ _ _).both HR.out)))) HC.out)
  rw [HEP.out] at HEND
  simp only [List.getElem?_toArray, List.getElem?_cons_zero] at e0 f0
  clear h3 h4 HCL
  (repeat' (first | (go_big_may; fail) | go_values | go_skip | go_guarded | go_step | go_upon | go_back | dsimp only))
  go_end0
  exact ⟨rfl, HEND.out.perm (by ac_rfl)⟩
set_option maxRecDepth 100000 in
set_option maxHeartbeats 3200000 in
/-- A failure of the writer: it is dropped, what was made is removed, and the former dies. -/
theorem write1_live (h : At W w (Both (CellT ke #[errV ef c] tErr) (Both (CellT kw #[.pointer (some ⟨kx, 0, none⟩)] tPW) (Both (CellT kf #[.pointer (some ⟨k, 0, none⟩)] tPF) (Both (WrT kx b ef x) (Both (FoT k b ef f) (Both (StoreT b S) R))))))) (hR : Stable R) (hF : Fails W ef fails11) (hG : GoodS S) (hrun : inI64 x.run) (hd : okC x.dead)
    (hG2 : GoodS (dropP S x).1) (hm : ∀ n ∈ f.made, n ≤ (dropP S x).1.made) (hc : c ≠ 0) :
    CallsD Tryz.prog 42 #[.pointer (some ⟨ke, 0, none⟩), .pointer (some ⟨kw, 0, none⟩), .pointer (some ⟨kf, 0, none⟩)] .returning w fun e u' w' => u' = .returning ∧ (e = .returned (.tuple #[]) ∧
      At W w' (Both (CellT ke #[errV ef c] tErr) (Both (CellT kw #[.pointer (some ⟨kx, 0, none⟩)] tPW) (Both (CellT kf #[.pointer (some ⟨k, 0, none⟩)] tPF) (Both (FoT k b ef { f with made := [], dead := c }) (Both (StoreT b (goneP (dropP S x).1 f.made)) R)))))) := by
  have hep := errV_pos ef hc
  have HEP := Lib.hid hep
  have HDR := Lib.hid (Drop_at (h.perm (show _ = Both (WrT kx b ef x) (Both (StoreT b S) (Both (CellT ke #[errV ef c] tErr) (Both (CellT kw #[.pointer (some ⟨kx, 0, none⟩)] tPW) (Both (CellT kf #[.pointer (some ⟨k, 0, none⟩)] tPF) (Both (FoT k b ef f) R))))) by ac_rfl)) ((CellT.stable _ _ _).both ((CellT.stable _ _ _).both ((CellT.stable _ _ _).both ((FoT.stable _ _ _ _).both hR)))) hF hG.le hrun hd)
  rw [hep] at h HDR ⊢
  generalize (dropP S x).1 = S2 at *
  generalize (dropP S x).2 = x2 at *
  have HC := Lib.hid hc
  have HR := Lib.hid hR
  have HF := Lib.hid hF
  have HG := Lib.hid hG2
  have HM := Lib.hid hm
  generalize ef c = ec at *
  have neqi := run_neq_iface_nil2 ⟨ec.1, ec.2, none⟩
  have e0 := cell_at h.cell.1 0
  have w0 := cell_at h.drop.cell.1 0
  simp only [List.getElem?_toArray, List.getElem?_cons_zero] at e0 w0
  clear h hR hF hG hG2 hm hc hep hd
  go_enter_d Tryz.func42, Tryz.ntmps42
  (repeat' (first | (go_big_may; fail) | go_values | go_skip | go_guarded | go_step | go_upon | go_back | dsimp only))
  refine HDR.out.mono ?_
  rintro e w1 ⟨rfl, h1⟩
  have h2 := h1.drop.perm (show _ = Both (CellT kf #[.pointer (some ⟨k, 0, none⟩)] tPF) (Both (FoT k b ef f) (Both (StoreT b S2) (Both (CellT ke #[.iface tES (.pointer (some ⟨ec.1, ec.2, none⟩))] tErr) (Both (CellT kw #[.pointer (some ⟨kx, 0, none⟩)] tPW) R)))) by ac_rfl)
  have f0 := cell_at h2.cell.1 0
  simp only [List.getElem?_toArray, List.getElem?_cons_zero] at f0
  have HCL := Lib.hid (clear_at (h2.perm (show _ = Both (FoT k b ef f) (Both (StoreT b S2) (Both (CellT ke #[.iface tES (.pointer (some ⟨ec.1, ec.2, none⟩))] tErr) (Both (CellT kw #[.pointer (some ⟨kx, 0, none⟩)] tPW) (Both (CellT kf #[.pointer (some ⟨k, 0, none⟩)] tPF) R)))) by ac_rfl)) ((CellT.stable _ _ _).both ((CellT.stable _ _ _).both ((CellT.stable _ _ _).both HR.out))) HF.out HG.out HM.out)
  clear h1 h2 e0 w0 HDR
  (repeat' (first | (go_big_may; fail) | go_values | go_skip | go_guarded | go_step | go_upon | go_back | dsimp only))
  refine HCL.out.mono ?_
  rintro e w3 ⟨rfl, h3⟩
  have H3 := Lib.hid h3
  obtain ⟨vd, d4, fz4, lt4⟩ := h3.foDead
  have h4 := h3.perm (show _ = Both (CellT ke #[.iface tES (.pointer (some ⟨ec.1, ec.2, none⟩))] tErr) (Both (CellT kf #[.pointer (some ⟨k, 0, none⟩)] tPF) (Both (CellT kw #[.pointer (some ⟨kx, 0, none⟩)] tPW) (Both (FoT k b ef { f with made := [] }) (Both (StoreT b (goneP S2 f.made)) R)))) by ac_rfl)
  have e0 := cell_at h4.cell.1 0
  have f0 := cell_at h4.drop.cell.1 0
  have HEND := Lib.hid (At.fmDead (c := c) H3.out ((StoreT.stable _ _).both ((CellT.stable _ _ _).both ((CellT.stable _ _ _).both ((CellT.stable _ _ _).both HR.out)))) HC.out)
  rw [HEP.out] at HEND
  simp only [List.getElem?_toArray, List.getElem?_cons_zero] at e0 f0
  clear h3 h4 HCL
  (repeat' (first | (go_big_may; fail) | go_values | go_skip | go_guarded | go_step | go_upon | go_back | dsimp only))
  go_end0
  exact ⟨rfl, HEND.out.perm (by ac_rfl)⟩
end
end Go.Proofs.YthcicmbkkkhifaaGreatDoor
namespace Go.Proofs.YthcicmbkkkhifaaGreatDoor
open Go.RowKit

section
variable {W w : World} {R : Thing} {k b : Nat} {ef : Nat → Nat × Nat} {S : St} {f : FmD}
set_option maxRecDepth 100000 in
set_option maxHeartbeats 1600000 in
theorem FDrop_at (h : At W w (Both (FoT k b ef f) (Both (StoreT b S) R))) (hR : Stable R) (hF : Fails W ef fails11) (hG : GoodS S) (hm : ∀ n ∈ f.made, n ≤ S.made) (hd : okC f.dead) :
    Calls Tryz.prog 19 #[.pointer (some ⟨k, 0, none⟩)] w fun e w' => e = .returned (.tuple #[]) ∧ At W w' (Both (FoT k b ef (dropF S f).2) (Both (StoreT b (dropF S f).1) R)) := by
  have cg := (hF.below h.below).cell (13, 0) (by decide)
  have hne : (13 : Nat) ≠ 0 := by decide
  have hmem13 : ((13 : Nat), 0) ∈ fails11 := by decide
  obtain ⟨bv, hs, mv, hq0, h1⟩ := h.fo
  have c4 := h1.foF.c4
  have hlt := h1.foF.lt
  unfold dropF
  by_cases h13 : f.dead = 13
  · rw [if_pos h13]
    rw [h13, errV_pos ef (by decide)] at c4
    have hq := fun wz => neq_same (⟨(ef 13).1, (ef 13).2, none⟩ : Addr) wz
    have H := Lib.hid h
    have HR := Lib.hid hR
    generalize ef 13 = e13 at *
    clear h h1 hR hF hd h13 hG hm hq0
    go_enter Tryz.func19, Tryz.ntmps19
    (repeat' (first | (go_big_may; fail) | go_values | go_skip | go_guarded | go_step | go_upon | go_back | dsimp only))
    (refine region_still_tail 9 (by kernel_rfl) (by kernel_rfl) ?_; simp only [List.take_succ_cons, List.take_zero, List.drop_succ_cons, List.drop_zero]; (iterate 9 (first | ((with_reducible refine still_plain ?_ rfl ?_ ?_); rotate_left; (next => (go_simp; (try with_reducible rfl))); simp only [Act.put, List.setIfInBounds_toArray, List.set_cons_zero, List.set_cons_succ]) | ((with_reducible refine still_skip ?_ ?_); (next => (go_simp; done)); simp only [Act.put, List.setIfInBounds_toArray, List.set_cons_zero, List.set_cons_succ]) | ((with_reducible refine still_val ?_ ?_ ?_ ?_); rotate_left; (next => (go_simp; done)); (next => (go_simp; (try with_reducible rfl))); simp only [Act.put, List.setIfInBounds_toArray, List.set_cons_zero, List.set_cons_succ]))); (with_reducible refine wpStill_nil ?_))
    (repeat' (first | (go_big_may; fail) | go_values | go_skip | go_guarded | go_step | go_upon | go_back | dsimp only))
    go_end0
    exact ⟨rfl, H.out.mono ((FoT.stable _ _ _ _).both ((StoreT.stable _ _).both HR.out)) (Below.refl _ _).drew⟩
  · rw [if_neg h13]
    have hrm := fun (w' : World) (hb : Below w.heap.size w w') => clear_at (h.mono ((FoT.stable _ _ _ _).both ((StoreT.stable b S).both hR)) hb) hR hF hG hm
    have HRM := Lib.hid hrm
    have HST := Lib.hid ((StoreT.stable b (goneP S f.made)).both hR)
    have hcg : ∀ w', Below W.heap.size W w' → w'.cell? ⟨0, 0, none⟩ = some (.iface tES (.pointer (some ⟨(ef 13).1, (ef 13).2, none⟩))) := fun w' hb => (hF.below hb).cell (13, 0) (by decide)
    have HCG := Lib.hid hcg
    have he13 : errV ef 13 = .iface tES (.pointer (some ⟨(ef 13).1, (ef 13).2, none⟩)) := errV_pos ef (by decide)
    have HE13 := Lib.hid he13
    have c4o := c4
    clear c4
    obtain ⟨dv, c4, hq⟩ : ∃ dv : Option Nat, w.cell? ⟨k, 4, none⟩ = some (match dv with | none => .nilIface | some c => .iface tES (.pointer (some ⟨(ef c).1, (ef c).2, none⟩))) ∧ (binOp .neq tErr (match dv with | none => .nilIface | some c => .iface tES (.pointer (some ⟨(ef c).1, (ef c).2, none⟩))) (.iface tES (.pointer (some ⟨(ef 13).1, (ef 13).2, none⟩)))).run Tryz.prog w.drew = .ok (.bool true) w.drew := by
      rcases hd with h0 | ⟨g, hg⟩
      · refine ⟨none, ?_, neq_nil_left _ _⟩
        rw [c4o, h0, errV_zero]
      · refine ⟨some f.dead, ?_, ?_⟩
        · rw [c4o, errV_pos ef (by
            intro e
            rw [e] at hg
            simp [fails11] at hg)]
        · have h1 := neq_errs ((hF.below h.below).below (Below.refl _ _).drew) hg hmem13
          dsimp only at h1
          rw [decide_eq_true (show f.dead ≠ 13 from h13)] at h1
          exact h1
    clear h h1 hR hF hd h13 hrm hcg he13 c4o hG hm hq0
    cases dv
    all_goals
      dsimp only at c4 hq
      go_enter Tryz.func19, Tryz.ntmps19
      (repeat' (first | (go_big_may; fail) | go_values | go_skip | go_guarded | go_step | go_upon | go_back | dsimp only))
      (refine region_still_tail 9 (by kernel_rfl) (by kernel_rfl) ?_; simp only [List.take_succ_cons, List.take_zero, List.drop_succ_cons, List.drop_zero]; (iterate 9 (first | ((with_reducible refine still_plain ?_ rfl ?_ ?_); rotate_left; (next => (go_simp; (try with_reducible rfl))); simp only [Act.put, List.setIfInBounds_toArray, List.set_cons_zero, List.set_cons_succ]) | ((with_reducible refine still_skip ?_ ?_); (next => (go_simp; done)); simp only [Act.put, List.setIfInBounds_toArray, List.set_cons_zero, List.set_cons_succ]) | ((with_reducible refine still_val ?_ ?_ ?_ ?_); rotate_left; (next => (go_simp; done)); (next => (go_simp; (try with_reducible rfl))); simp only [Act.put, List.setIfInBounds_toArray, List.set_cons_zero, List.set_cons_succ]))); (with_reducible refine wpStill_nil ?_))
      (repeat' (first | (go_big_may; fail) | go_values | go_skip | go_guarded | go_step | go_upon | go_back | dsimp only))
      refine (HRM.out _ (Below.refl _ _).drew).mono ?_
      rintro e w1 ⟨rfl, h1⟩
      obtain ⟨bv2, hs2, mv2, hq2, h2⟩ := h1.fo
      have fz4 := h2.foF.fz 4
      have d4 := h2.foF.c4
      have hlt1 := h2.foF.lt
      have cg1 := HCG.out w1 h2.below
      have h3 := At.fmDead (c := 13) h1 HST.out (by decide)
      rw [HE13.out] at h3
      have H3 := Lib.hid h3
      clear h1 h2 h3 hq2
      (repeat' (first | (go_big_may; fail) | go_values | go_skip | go_guarded | go_step | go_upon | go_back | dsimp only))
      go_end0
      exact ⟨rfl, H3.out⟩
end
end Go.Proofs.YthcicmbkkkhifaaGreatDoor

/- batch.Former in memory: state, clear. · batch.Former: the deferred end of write. · batch.Former: Drop walked. -/
import Derived.Test.YtadokkffmekndaaGreatDoorBuMgPlLaw38
import Derived.Test.YtadokkffmekndaaGreatDoorBuMgPlLaw23
import Derived.Test.YtadokkffmekndaaGreatDoorBuMgPlLaw36
import Derived.Deep.RegionHeld3
import Derived.Defers
set_option linter.unusedSimpArgs false
set_option linter.unusedVariables false
namespace Go.Proofs.YtadokkffmekndaaGreatDoor
open Go.RowKit
abbrev tFm : TypeId := 111
abbrev tSx : TypeId := 9
def mz (l : List Nat) : List Int := l.map fun (n : Nat) => (n : Int)
abbrev fmCells (b : Nat) (ef : Nat → Nat × Nat) (f : FmD) (bv mv : Value) : Array Value := #[.pointer (some ⟨b, 0, none⟩), bv, .int .i64 f.most, mv, errV ef f.dead]
abbrev FoI (k b : Nat) (ef : Nat → Nat × Nat) (f : FmD) (bv : Value) (hs : List (List UInt8)) (mv : Value) : Thing :=
  Both (CellT k (fmCells b ef f bv mv) tFm) (Both (RowG tSx 1 bv hs.length (strs hs)) (RowT mv (mz f.made)))
theorem FoI.stable (k b : Nat) (ef : Nat → Nat × Nat) (f : FmD) (bv : Value) (hs : List (List UInt8)) (mv : Value) : Stable (FoI k b ef f bv hs mv) :=
  (CellT.stable _ _ _).both ((RowG.stable _ _ _ _ _).both (RowT.stable _ _))
def FoT (k b : Nat) (ef : Nat → Nat × Nat) (f : FmD) : Thing := fun w fp => ∃ q : {q : Value × List (List UInt8) × Value // f.dead = 0 → q.2.1 = f.held}, FoI k b ef f q.1.1 q.1.2.1 q.1.2.2 w fp
theorem FoT.stable (k b : Nat) (ef : Nat → Nat × Nat) (f : FmD) : Stable (FoT k b ef f) := Stable.ex fun _ => FoI.stable _ _ _ _ _ _ _
theorem RdRow.intA {w : World} {v : Value} {l : List Int} (h : RdRow w v l.length 1 (intsV l)) {k : Nat} {z : Int} (hk : l[k]? = some z) : ∃ b off cap, v = .slice (some ⟨b, off, none⟩) l.length cap ∧ w.cell? ⟨b, off + k, none⟩ = some (.int .i64 z) := by
  obtain ⟨_, a, cap, rfl, _, _, hc⟩ := h
  obtain ⟨b, off, rfl, h⟩ := hc k (.int .i64 z) (by simp [intsV, hk])
  exact ⟨b, off, cap, rfl, h⟩
section
variable {W w : World} {R : Thing} {k b : Nat} {ef : Nat → Nat × Nat} {S : St} {f : FmD}
theorem At.fo (h : At W w (Both (FoT k b ef f) R)) : ∃ bv hs mv, (f.dead = 0 → hs = f.held) ∧ At W w (Both (FoI k b ef f bv hs mv) R) := by
  obtain ⟨q, h⟩ := At.ex h
  exact ⟨_, _, _, q.2, h⟩
theorem At.toFo {bv : Value} {hs : List (List UInt8)} {mv : Value} (hq : f.dead = 0 → hs = f.held) (h : At W w (Both (FoI k b ef f bv hs mv) R)) : At W w (Both (FoT k b ef f) R) :=
  At.intoEx (⟨(bv, hs, mv), hq⟩ : {q : Value × List (List UInt8) × Value // f.dead = 0 → q.2.1 = f.held}) h
structure FoFacts (w : World) (k b : Nat) (ef : Nat → Nat × Nat) (f : FmD) (bv mv : Value) : Prop where
  c0 : w.cell? ⟨k, 0, none⟩ = some (.pointer (some ⟨b, 0, none⟩))
  c1 : w.cell? ⟨k, 1, none⟩ = some bv
  c2 : w.cell? ⟨k, 2, none⟩ = some (.int .i64 f.most)
  c3 : w.cell? ⟨k, 3, none⟩ = some mv
  c4 : w.cell? ⟨k, 4, none⟩ = some (errV ef f.dead)
  fz : ∀ j, w.frozen? ⟨k, j, none⟩ = false
  lt : k < w.heap.size
theorem At.foF {bv : Value} {hs : List (List UInt8)} {mv : Value} (h : At W w (Both (FoI k b ef f bv hs mv) R)) : FoFacts w k b ef f bv mv := by
  have h0 : At W w (Both (CellT k (fmCells b ef f bv mv) tFm) (Both (RowG tSx 1 bv hs.length (strs hs)) (Both (RowT mv (mz f.made)) R))) := h.perm (by unfold FoI; ac_rfl)
  have h1 := h0.cell.1
  exact ⟨cell_at h1 0, cell_at h1 1, cell_at h1 2, cell_at h1 3, cell_at h1 4, thaw_at h1, lt_of_heap h1⟩
theorem At.foMade {bv : Value} {hs : List (List UInt8)} {mv : Value} (h : At W w (Both (FoI k b ef f bv hs mv) R)) : w.ownsRow 0 tInt 1 mv (mz f.made).length (intsV (mz f.made)) :=
  (h.perm (show _ = Both (RowT mv (mz f.made)) (Both (CellT k (fmCells b ef f bv mv) tFm) (Both (RowG tSx 1 bv hs.length (strs hs)) R)) by unfold FoI; ac_rfl)).row
theorem At.foHeld {bv : Value} {hs : List (List UInt8)} {mv : Value} (h : At W w (Both (FoI k b ef f bv hs mv) R)) : w.ownsRow 0 tSx 1 bv hs.length (strs hs) :=
  (h.perm (show _ = Both (RowG tSx 1 bv hs.length (strs hs)) (Both (CellT k (fmCells b ef f bv mv) tFm) (Both (RowT mv (mz f.made)) R)) by unfold FoI; ac_rfl)).rowG
set_option maxRecDepth 100000 in
set_option maxHeartbeats 800000 in
theorem fmState_calls (h : At W w (Both (FoT k b ef f) R)) :
    Calls Tryz.prog 56 #[.pointer (some ⟨k, 0, none⟩)] w fun e w' => e = .returned (errV ef f.dead) ∧ w = w' := by
  obtain ⟨bv, hs, mv, _, h⟩ := h.fo
  have c4 := h.foF.c4
  generalize errV ef f.dead = u at *
  clear h
  go_enter Tryz.func56, Tryz.ntmps56
  (repeat' (first | go_values | go_skip | go_guarded | go_step | go_upon | go_back | dsimp only))
  go_ret
  exact ⟨rfl, rfl⟩
set_option maxRecDepth 100000 in
set_option maxHeartbeats 1600000 in
theorem clear_at (h : At W w (Both (FoT k b ef f) (Both (StoreT b S) R))) (hR : Stable R) (hF : Fails W ef fails11) (hG : GoodS S) (hm : ∀ n ∈ f.made, n ≤ S.made) :
    Calls Tryz.prog 80 #[.pointer (some ⟨k, 0, none⟩)] w fun e w' => e = .returned (.tuple #[]) ∧ At W w' (Both (FoT k b ef { f with made := [] }) (Both (StoreT b (goneP S f.made)) R)) := by
  obtain ⟨bv, hs, mv, hq, h⟩ := h.fo
  obtain ⟨ao, cp, hmv, hcp1, hcp2⟩ := own_shape h.foMade
  subst hmv
  have hlen : (mz f.made).length = f.made.length := by simp [mz]
  rw [hlen] at h hcp1
  have hml : f.made.length ≤ 9223372036854775807 := by unfold maxLen at hcp2; omega
  have hms : S.made ≤ 16777216 := hG.sizes.2.2.2.1
  have HQ := Lib.hid hq
  have HM := Lib.hid hm
  have HF := Lib.hid hF
  have HR := Lib.hid hR
  have HG := Lib.hid hG
  have H := Lib.hid h
  obtain ⟨c0, _, _, c3, _, _, hlt⟩ := h.foF
  clear h hF hR hG hm hq hcp1 hlen
  go_enter Tryz.func80, Tryz.ntmps80
  (repeat' (first | go_values | go_skip | go_guarded | go_step | go_upon | go_back | dsimp only))
  go_loopw [9] (fun vi wr => ∃ (i : Nat) (S1 : St), vi = .int .i64 i ∧ i ≤ f.made.length ∧ GoodS S1 ∧ S1.made = S.made ∧ goneP S1 (f.made.drop i) = goneP S f.made ∧ At W wr (Both (FoI k b ef f bv hs (.slice ao f.made.length cp)) (Both (StoreT b S1) R))) (fun vi _ => f.made.length - (intOf vi).toNat)
  case atStart => exact ⟨0, S, rfl, Nat.zero_le _, HG.out, rfl, rfl, H.out⟩
  case round =>
    obtain ⟨i, S1, rfl, hi, hG1, hm1, hg1, h1⟩ := hrel
    clear c0 c3 hlt
    obtain ⟨c0, _, _, c3, _, fz, hlt⟩ := h1.foF
    have H1 := Lib.hid h1
    have HG1 := Lib.hid hG1
    have HM1 := Lib.hid hm1
    have HGO := Lib.hid hg1
    by_cases hlt2 : i < f.made.length
    · obtain ⟨n, hn⟩ : ∃ n, f.made[i]? = some n := ⟨_, List.getElem?_eq_getElem hlt2⟩
      have hnl := HM.out n (List.mem_of_getElem? hn)
      have hrd := RdRow.of_own h1.foMade
      obtain ⟨gb, off, cap', hsl, hcell⟩ := hrd.intA (k := i) (z := (n : Int)) (by simp [mz, hn])
      have hdr : f.made.drop i = n :: f.made.drop (i + 1) := by
        obtain ⟨h1, h2⟩ := List.getElem?_eq_some_iff.1 hn
        rw [List.drop_eq_getElem_cons h1, h2]
      rw [hdr] at hg1
      have HGO2 := Lib.hid hg1
      have hnz : inI64 (n : Int) := by unfold inI64; omega
      have hrm := Remove_7 (h1.perm (show _ = Both (StoreT b S1) (Both (FoI k b ef f bv hs (.slice ao f.made.length cp)) R) by ac_rfl)) ((FoI.stable _ _ _ _ _ _ _).both HR.out) (fails11_7 HF.out) hnz HG1.out.le
      have HRM := Lib.hid hrm
      have HGR := Lib.hid (HG1.out.remove (n : Int))
      have HMR := Lib.hid ((made_remove S1 (n : Int)).trans HM1.out)
      have hi0 : (0 : Int) ≤ i := by omega
      have hi1 : (i : Int) < f.made.length := by omega
      simp only [Value.slice.injEq] at hsl
      obtain ⟨hao, hl1, _⟩ := hsl
      subst hao
      have hwr : IntKind.i64.wrap ((i : Int) + 1) = ((i + 1 : Nat) : Int) := by rw [IntKind.wrap_i64] <;> omega
      generalize (removeP S1 (n : Int)).2 = cc at *
      clear h1 hG1 hm1 hg1 hrd hrm hnz hdr hn hnl hl1
      (repeat' (first | go_values | go_skip | go_guarded | go_step | go_upon | go_back | dsimp only))
      refine HRM.out.mono ?_
      rintro e w2 ⟨rfl, h2⟩
      have H2 := Lib.hid h2
      clear h2 HRM
      (repeat' (first | go_values | go_skip | go_guarded | go_step | go_upon | go_back | dsimp only))
      go_roundw
      case rel => exact ⟨i + 1, (removeP S1 (n : Int)).1, rfl, hlt2, HGR.out, HMR.out, HGO2.out, H2.out.perm (by ac_rfl)⟩
      case measure => simp [intOf]; omega
    · have hi0 : ¬ (i : Int) < f.made.length := by omega
      have hie : f.made.drop i = [] := List.drop_eq_nil_of_le (by omega)
      rw [hie] at hg1
      have hg2 : S1 = goneP S f.made := hg1
      have h2 : At W _ (Both (CellT k (fmCells b ef { f with made := [] } bv (.slice none 0 0)) tFm) (Both (RowG tSx 1 bv hs.length (strs hs)) (Both (RowT (.slice ao f.made.length cp) (mz f.made)) (Both (StoreT b S1) R)))) :=
        (h1.perm (show _ = Both (CellT k (fmCells b ef f bv (.slice ao f.made.length cp)) tFm) (Both (RowG tSx 1 bv hs.length (strs hs)) (Both (RowT (.slice ao f.made.length cp) (mz f.made)) (Both (StoreT b S1) R))) by unfold FoI; ac_rfl)).setCell ((RowG.stable _ _ _ _ _).both ((RowT.stable _ _).both ((StoreT.stable _ _).both HR.out))) 3 (.slice none 0 0)
      have h3 := h2.pull3.drop
      rw [hg2] at h3
      have HEND := Lib.hid ((h3.noRow ((CellT.stable _ _ _).both ((RowG.stable _ _ _ _ _).both ((StoreT.stable _ _).both HR.out)))).perm (show _ = Both (FoI k b ef { f with made := [] } bv hs (.slice none 0 0)) (Both (StoreT b (goneP S f.made)) R) by unfold FoI; simp only [mz, List.map_nil]; ac_rfl))
      clear h1 h2 h3 hg1 hg2 hG1 hm1 hie
      (repeat' (first | go_values | go_skip | go_guarded | go_step | go_upon | go_back | dsimp only))
      go_end0
      exact ⟨rfl, At.toFo (f := { f with made := [] }) HQ.out HEND.out⟩
end
abbrev tPW : TypeId := 136
abbrev tPF : TypeId := 70
section
variable {W w : World} {R : Thing} {k b ke kw kf kx : Nat} {ef : Nat → Nat × Nat} {S : St} {f : FmD} {x : WrD} {c : Nat}
theorem At.fmDead (h : At W w (Both (FoT k b ef f) R)) (hR : Stable R) (hc : c ≠ 0) : At W (w.setCell ⟨k, 4, none⟩ (errV ef c)) (Both (FoT k b ef { f with dead := c }) R) := by
  obtain ⟨bv, hs, mv, hq, h⟩ := h.fo
  have h2 : At W _ (Both (CellT k (fmCells b ef { f with dead := c } bv mv) tFm) (Both (RowG tSx 1 bv hs.length (strs hs)) (Both (RowT mv (mz f.made)) R))) :=
    (h.perm (show _ = Both (CellT k (fmCells b ef f bv mv) tFm) (Both (RowG tSx 1 bv hs.length (strs hs)) (Both (RowT mv (mz f.made)) R)) by unfold FoI; ac_rfl)).setCell ((RowG.stable _ _ _ _ _).both ((RowT.stable _ _).both hR)) 4 (errV ef c)
  exact At.toFo (f := { f with dead := c }) (fun e => absurd e hc) (h2.perm (by unfold FoI; ac_rfl))
theorem At.foDead (h : At W w (Both (FoT k b ef f) R)) : ∃ v, w.cell? ⟨k, 4, none⟩ = some v ∧ w.frozen? ⟨k, 4, none⟩ = false ∧ k < w.heap.size := by
  obtain ⟨bv, hs, mv, hq, h⟩ := h.fo
  exact ⟨_, h.foF.c4, h.foF.fz 4, h.foF.lt⟩
set_option maxRecDepth 100000 in
set_option maxHeartbeats 1600000 in
theorem write1_ok (h : At W w (Both (CellT ke #[.nilIface] tErr) R)) (vw vf : Value) :
    CallsD Tryz.prog 78 #[.pointer (some ⟨ke, 0, none⟩), vw, vf] .returning w fun e u' w' => u' = .returning ∧ (e = .returned (.tuple #[]) ∧ w' = w) := by
  have c0 := cell_at h.cell.1 0
  simp only [List.getElem?_toArray, List.getElem?_cons_zero] at c0
  have neqn : ∀ wz : World, (binOp .neq tErr .nilIface .nilIface).run Tryz.prog wz = .ok (.bool false) wz := fun wz => neq_nil wz
  clear h
  go_enter_d Tryz.func78, Tryz.ntmps78
  (repeat' (first | go_values | go_skip | go_guarded | go_step | go_upon | go_back | dsimp only))
  go_end0
  exact ⟨rfl, rfl⟩
set_option maxRecDepth 100000 in
set_option maxHeartbeats 3200000 in
theorem write1_nil (h : At W w (Both (CellT ke #[errV ef c] tErr) (Both (CellT kw #[.pointer none] tPW) (Both (CellT kf #[.pointer (some ⟨k, 0, none⟩)] tPF) (Both (FoT k b ef f) (Both (StoreT b S) R)))))) (hR : Stable R) (hF : Fails W ef fails11) (hG : GoodS S) (hm : ∀ n ∈ f.made, n ≤ S.made) (hc : c ≠ 0) :
    CallsD Tryz.prog 78 #[.pointer (some ⟨ke, 0, none⟩), .pointer (some ⟨kw, 0, none⟩), .pointer (some ⟨kf, 0, none⟩)] .returning w fun e u' w' => u' = .returning ∧ (e = .returned (.tuple #[]) ∧
      At W w' (Both (CellT ke #[errV ef c] tErr) (Both (CellT kw #[.pointer none] tPW) (Both (CellT kf #[.pointer (some ⟨k, 0, none⟩)] tPF) (Both (FoT k b ef { f with made := [], dead := c }) (Both (StoreT b (goneP S f.made)) R)))))) := by
  have hep := errV_pos ef hc
  have HEP := Lib.hid hep
  rw [hep] at h ⊢
  have HC := Lib.hid hc
  have HR := Lib.hid hR
  have HF := Lib.hid hF
  have HG := Lib.hid hG
  have HM := Lib.hid hm
  generalize ef c = ec at *
  have neqi := run_neq_iface_nil2 ⟨ec.1, ec.2, none⟩
  have e0 := cell_at h.cell.1 0
  have w0 := cell_at h.drop.cell.1 0
  simp only [List.getElem?_toArray, List.getElem?_cons_zero] at e0 w0
  have H := Lib.hid h
  clear h hR hF hG hm hc hep
  go_enter_d Tryz.func78, Tryz.ntmps78
  (repeat' (first | go_values | go_skip | go_guarded | go_step | go_upon | go_back | dsimp only))
  refine Drop_nil.mono ?_
  rintro e w1 ⟨rfl, hb⟩
  have h1 := H.out.mono ((CellT.stable _ _ _).both ((CellT.stable _ _ _).both ((CellT.stable _ _ _).both ((FoT.stable _ _ _ _).both ((StoreT.stable _ _).both HR.out))))) hb
  have f0 := cell_at h1.drop.drop.cell.1 0
  simp only [List.getElem?_toArray, List.getElem?_cons_zero] at f0
  have HCL := Lib.hid (clear_at (h1.perm (show _ = Both (FoT k b ef f) (Both (StoreT b S) (Both (CellT ke #[.iface tES (.pointer (some ⟨ec.1, ec.2, none⟩))] tErr) (Both (CellT kw #[.pointer none] tPW) (Both (CellT kf #[.pointer (some ⟨k, 0, none⟩)] tPF) R)))) by ac_rfl)) ((CellT.stable _ _ _).both ((CellT.stable _ _ _).both ((CellT.stable _ _ _).both HR.out))) HF.out HG.out HM.out)
  clear h1 hb e0 w0 H
  (repeat' (first | go_values | go_skip | go_guarded | go_step | go_upon | go_back | dsimp only))
  refine HCL.out.mono ?_
  rintro e w3 ⟨rfl, h3⟩
  have H3 := Lib.hid h3
  obtain ⟨vd, d4, fz4, lt4⟩ := h3.foDead
  have h4 := h3.perm (show _ = Both (CellT ke #[.iface tES (.pointer (some ⟨ec.1, ec.2, none⟩))] tErr) (Both (CellT kf #[.pointer (some ⟨k, 0, none⟩)] tPF) (Both (CellT kw #[.pointer none] tPW) (Both (FoT k b ef { f with made := [] }) (Both (StoreT b (goneP S f.made)) R)))) by ac_rfl)
  have e0 := cell_at h4.cell.1 0
  have f0 := cell_at h4.drop.cell.1 0
  have HEND := Lib.hid (At.fmDead (c := c) H3.out ((StoreT.stable _ _).both ((CellT.stable _ _ _).both ((CellT.stable _ _ _).both ((CellT.stable _ _ _).both HR.out)))) HC.out)
  rw [HEP.out] at HEND
  simp only [List.getElem?_toArray, List.getElem?_cons_zero] at e0 f0
  clear h3 h4 HCL
  (repeat' (first | go_values | go_skip | go_guarded | go_step | go_upon | go_back | dsimp only))
  go_end0
  exact ⟨rfl, HEND.out.perm (by ac_rfl)⟩
set_option maxRecDepth 100000 in
set_option maxHeartbeats 3200000 in
theorem write1_live (h : At W w (Both (CellT ke #[errV ef c] tErr) (Both (CellT kw #[.pointer (some ⟨kx, 0, none⟩)] tPW) (Both (CellT kf #[.pointer (some ⟨k, 0, none⟩)] tPF) (Both (WrT kx b ef x) (Both (FoT k b ef f) (Both (StoreT b S) R))))))) (hR : Stable R) (hF : Fails W ef fails11) (hG : GoodS S) (hrun : inI64 x.run) (hd : okC x.dead)
    (hG2 : GoodS (dropP S x).1) (hm : ∀ n ∈ f.made, n ≤ (dropP S x).1.made) (hc : c ≠ 0) :
    CallsD Tryz.prog 78 #[.pointer (some ⟨ke, 0, none⟩), .pointer (some ⟨kw, 0, none⟩), .pointer (some ⟨kf, 0, none⟩)] .returning w fun e u' w' => u' = .returning ∧ (e = .returned (.tuple #[]) ∧
      At W w' (Both (CellT ke #[errV ef c] tErr) (Both (CellT kw #[.pointer (some ⟨kx, 0, none⟩)] tPW) (Both (CellT kf #[.pointer (some ⟨k, 0, none⟩)] tPF) (Both (FoT k b ef { f with made := [], dead := c }) (Both (StoreT b (goneP (dropP S x).1 f.made)) R)))))) := by
  have hep := errV_pos ef hc
  have HEP := Lib.hid hep
  have HDR := Lib.hid (Drop_at (h.perm (show _ = Both (WrT kx b ef x) (Both (StoreT b S) (Both (CellT ke #[errV ef c] tErr) (Both (CellT kw #[.pointer (some ⟨kx, 0, none⟩)] tPW) (Both (CellT kf #[.pointer (some ⟨k, 0, none⟩)] tPF) (Both (FoT k b ef f) R))))) by ac_rfl)) ((CellT.stable _ _ _).both ((CellT.stable _ _ _).both ((CellT.stable _ _ _).both ((FoT.stable _ _ _ _).both hR)))) hF hG.le hrun hd)
  rw [hep] at h HDR ⊢
  generalize (dropP S x).1 = S2 at *
  generalize (dropP S x).2 = x2 at *
  have HC := Lib.hid hc
  have HR := Lib.hid hR
  have HF := Lib.hid hF
  have HG := Lib.hid hG2
  have HM := Lib.hid hm
  generalize ef c = ec at *
  have neqi := run_neq_iface_nil2 ⟨ec.1, ec.2, none⟩
  have e0 := cell_at h.cell.1 0
  have w0 := cell_at h.drop.cell.1 0
  simp only [List.getElem?_toArray, List.getElem?_cons_zero] at e0 w0
  clear h hR hF hG hG2 hm hc hep hd
  go_enter_d Tryz.func78, Tryz.ntmps78
  (repeat' (first | go_values | go_skip | go_guarded | go_step | go_upon | go_back | dsimp only))
  refine HDR.out.mono ?_
  rintro e w1 ⟨rfl, h1⟩
  have h2 := h1.drop.perm (show _ = Both (CellT kf #[.pointer (some ⟨k, 0, none⟩)] tPF) (Both (FoT k b ef f) (Both (StoreT b S2) (Both (CellT ke #[.iface tES (.pointer (some ⟨ec.1, ec.2, none⟩))] tErr) (Both (CellT kw #[.pointer (some ⟨kx, 0, none⟩)] tPW) R)))) by ac_rfl)
  have f0 := cell_at h2.cell.1 0
  simp only [List.getElem?_toArray, List.getElem?_cons_zero] at f0
  have HCL := Lib.hid (clear_at (h2.perm (show _ = Both (FoT k b ef f) (Both (StoreT b S2) (Both (CellT ke #[.iface tES (.pointer (some ⟨ec.1, ec.2, none⟩))] tErr) (Both (CellT kw #[.pointer (some ⟨kx, 0, none⟩)] tPW) (Both (CellT kf #[.pointer (some ⟨k, 0, none⟩)] tPF) R)))) by ac_rfl)) ((CellT.stable _ _ _).both ((CellT.stable _ _ _).both ((CellT.stable _ _ _).both HR.out))) HF.out HG.out HM.out)
  clear h1 h2 e0 w0 HDR
  (repeat' (first | go_values | go_skip | go_guarded | go_step | go_upon | go_back | dsimp only))
  refine HCL.out.mono ?_
  rintro e w3 ⟨rfl, h3⟩
  have H3 := Lib.hid h3
  obtain ⟨vd, d4, fz4, lt4⟩ := h3.foDead
  have h4 := h3.perm (show _ = Both (CellT ke #[.iface tES (.pointer (some ⟨ec.1, ec.2, none⟩))] tErr) (Both (CellT kf #[.pointer (some ⟨k, 0, none⟩)] tPF) (Both (CellT kw #[.pointer (some ⟨kx, 0, none⟩)] tPW) (Both (FoT k b ef { f with made := [] }) (Both (StoreT b (goneP S2 f.made)) R)))) by ac_rfl)
  have e0 := cell_at h4.cell.1 0
  have f0 := cell_at h4.drop.cell.1 0
  have HEND := Lib.hid (At.fmDead (c := c) H3.out ((StoreT.stable _ _).both ((CellT.stable _ _ _).both ((CellT.stable _ _ _).both ((CellT.stable _ _ _).both HR.out)))) HC.out)
  rw [HEP.out] at HEND
  simp only [List.getElem?_toArray, List.getElem?_cons_zero] at e0 f0
  clear h3 h4 HCL
  (repeat' (first | go_values | go_skip | go_guarded | go_step | go_upon | go_back | dsimp only))
  go_end0
  exact ⟨rfl, HEND.out.perm (by ac_rfl)⟩
end
section
variable {W w : World} {R : Thing} {k b : Nat} {ef : Nat → Nat × Nat} {S : St} {f : FmD}
end
end Go.Proofs.YtadokkffmekndaaGreatDoor

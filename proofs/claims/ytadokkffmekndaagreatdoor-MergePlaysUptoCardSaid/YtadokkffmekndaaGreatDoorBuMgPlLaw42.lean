/- batch.Former: write walked. · batch.Former: Add walked. · batch.Former: New, Finish, Drop walked. · hornbooklaw10: the laws' helpers walked: twin, text, has, set, ints, fit. · batch, the law's text of a sealed run: nothing is drawn and nothing is made. -/
import Derived.Test.YtadokkffmekndaaGreatDoorBuMgPlLaw39
import Derived.Test.YtadokkffmekndaaGreatDoorBuMgPlLaw40
import Derived.Test.YtadokkffmekndaaGreatDoorBuMgPlLaw41
import Derived.Test.YtadokkffmekndaaGreatDoorBuMgPlLaw12
import Derived.Test.YtadokkffmekndaaGreatDoorBuMgPlLaw17
import Derived.Test.YtadokkffmekndaaGreatDoorBuMgPlLaw28
import Derived.Lib.SliceRun
import Derived.Deep.QuietTactic
import Derived.BigQuiet
set_option linter.unusedSimpArgs false
set_option linter.unusedVariables false
namespace Go.Proofs.YtadokkffmekndaaGreatDoor
open Go.RowKit
section
variable {W w : World} {R : Thing} {k b : Nat} {ef : Nat → Nat × Nat} {S : St} {f : FmD}
theorem fwrite_bad {r : St × Nat × Nat} (h : writtenP S (ofL f.held) = r) (hz : r.2.2 ≠ 0) : fwriteP S f = (goneP r.1 f.made, { f with made := [], dead := r.2.2 }, r.2.2) := by
  subst h
  unfold fwriteP
  rw [if_neg hz]
theorem fwrite_good {r : St × Nat × Nat} (h : writtenP S (ofL f.held) = r) (hz : r.2.2 = 0) : fwriteP S f = (r.1, { f with made := f.made ++ [r.2.1], held := [] }, 0) := by
  subst h
  unfold fwriteP
  rw [if_pos hz]
theorem At.foAny (h : At W w (Both (FoT k b ef f) R)) (hd : f.dead ≠ 0) (L : List (List UInt8)) : At W w (Both (FoT k b ef { f with held := L }) R) := by
  obtain ⟨bv, hs, mv, _, h⟩ := h.fo
  exact At.toFo (f := { f with held := L }) (fun e => absurd e hd) h
theorem At.rowShort {e : TypeId} {size g n cap : Nat} {xs : List Value} (h : At W w (Both (RowG e size (.slice (some ⟨g, 0, none⟩) n cap) n xs) R)) : At W w (Both (RowG e size (.slice (some ⟨g, 0, none⟩) 0 cap) 0 []) R) :=
  h.impl fun fp q => by
    obtain ⟨f, gg, ⟨h1, rfl⟩, h2⟩ := q
    refine ⟨_, gg, ⟨?_, rfl⟩, h2⟩
    rcases h1.2 with ⟨h3, _⟩ | ⟨g', cap', cur, h3, h4, h5, h6, h7, h8, h9⟩
    · cases h3
    · cases h3
      exact ⟨by simp, .inr ⟨g, cap, cur, rfl, h4, h5, Nat.zero_le _, h7, h8, by simp⟩⟩
theorem At.setCellsG {e : TypeId} {size g cap : Nat} (hR : Stable R) : ∀ (vs : List Value) (o : Nat) {w : World}, At W w (Both (RowG e size (.slice (some ⟨g, 0, none⟩) 0 cap) 0 []) R) → At W (w.setCells g o vs) (Both (RowG e size (.slice (some ⟨g, 0, none⟩) 0 cap) 0 []) R)
  | [], _, _, h => h
  | v :: vs, o, _, h => At.setCellsG hR vs (o + 1) (h.storeG hR o v)
abbrev BwT (ke kf k b : Nat) (ef : Nat → Nat × Nat) (f : FmD) (vE bv : Value) (L : List (List UInt8)) (mv : Value) : Thing :=
  Both (CellT ke #[vE] tErr) (Both (CellT kf #[.pointer (some ⟨k, 0, none⟩)] tPF) (Both (CellT k (fmCells b ef f bv mv) tFm) (Both (RowG tSx 1 bv L.length (strs L)) (RowT mv (mz f.made)))))
theorem BwT.stable (ke kf k b : Nat) (ef : Nat → Nat × Nat) (f : FmD) (vE bv : Value) (L : List (List UInt8)) (mv : Value) : Stable (BwT ke kf k b ef f vE bv L mv) :=
  (CellT.stable _ _ _).both ((CellT.stable _ _ _).both ((CellT.stable _ _ _).both ((RowG.stable _ _ _ _ _).both (RowT.stable _ _))))
structure BwF (w : World) (ke kf k b : Nat) (ef : Nat → Nat × Nat) (f : FmD) (vE bv mv : Value) : Prop where
  e0 : w.cell? ⟨ke, 0, none⟩ = some vE
  ez : w.frozen? ⟨ke, 0, none⟩ = false
  el : ke < w.heap.size
  f0 : w.cell? ⟨kf, 0, none⟩ = some (.pointer (some ⟨k, 0, none⟩))
  fl : kf < w.heap.size
  c0 : w.cell? ⟨k, 0, none⟩ = some (.pointer (some ⟨b, 0, none⟩))
  c1 : w.cell? ⟨k, 1, none⟩ = some bv
  c3 : w.cell? ⟨k, 3, none⟩ = some mv
  cz : ∀ j, w.frozen? ⟨k, j, none⟩ = false
  cl : k < w.heap.size
theorem At.bw {ke kf : Nat} {vE bv mv : Value} {L : List (List UInt8)} (h : At W w (Both (BwT ke kf k b ef f vE bv L mv) R)) : BwF w ke kf k b ef f vE bv mv := by
  have h0 := h.perm (show _ = Both (CellT ke #[vE] tErr) (Both (CellT kf #[.pointer (some ⟨k, 0, none⟩)] tPF) (Both (CellT k (fmCells b ef f bv mv) tFm) (Both (RowG tSx 1 bv L.length (strs L)) (Both (RowT mv (mz f.made)) R)))) by unfold BwT; ac_rfl)
  have h1 := h0.cell.1
  have h2 := h0.drop.cell.1
  have h3 := h0.drop.drop.cell.1
  exact ⟨cell_at h1 0, thaw_at h1 0, lt_of_heap h1, cell_at h2 0, lt_of_heap h2, cell_at h3 0, cell_at h3 1, cell_at h3 3, thaw_at h3, lt_of_heap h3⟩
theorem At.bwx {ke kf : Nat} {vE bv mv : Value} {L : List (List UInt8)} {X : Thing} (h : At W w (Both (CellT ke #[vE] tErr) (Both (CellT kf #[.pointer (some ⟨k, 0, none⟩)] tPF) (Both (FoI k b ef f bv L mv) X)))) : BwF w ke kf k b ef f vE bv mv :=
  At.bw (R := X) (L := L) (h.perm (by unfold BwT FoI; ac_rfl))
theorem info_int : (Tryz.prog.info? tInt).map (fun i => (i.zero, i.size, i.bytes)) = some (some (.int .i64 0), 1, 8) := by kernel_rfl
set_option maxRecDepth 100000 in
set_option maxHeartbeats 6400000 in
theorem write_calls (h : At W w (Both (FoT k b ef f) (Both (StoreT b S) R))) (hR : Stable R) (hF : Fails W ef fails11) (hG : GoodS S) (hfit : fits f.held = true) (hlen : f.held.length ≤ 65536) (hne : f.held ≠ []) (hd : f.dead = 0) (hm : ∀ n ∈ f.made, n ≤ S.made) (hfew : f.made.length ≤ S.made) :
    Calls Tryz.prog 57 #[.pointer (some ⟨k, 0, none⟩)] w fun e w' => e = .returned (errV ef (fwriteP S f).2.2) ∧ At W w' (Both (FoT k b ef (fwriteP S f).2.1) (Both (StoreT b (fwriteP S f).1) R)) := by
  obtain ⟨bv, hs, mv, hq, h⟩ := h.fo
  obtain rfl := hq hd
  have hmf : ∀ (fn : Fn) (first cap : Array Value) (w : World), (Instr.makeFunc fn first cap).run Tryz.prog w = .ok (.func fn first cap) w := fun _ _ _ _ => rfl
  obtain ⟨bg, cp, hbv, _, hcp1, hcp2⟩ := own_cut h.foHeld (List.length_pos_iff.2 hne)
  subst hbv
  have HNE := Lib.hid (List.length_pos_iff.2 hne)
  have hfw2 : (mz f.made).length ≤ 16777216 := by have := hG.sizes.2.2.2.1; simp only [mz, List.length_map]; omega
  have HFW := Lib.hid hfw2
  clear hne hfew hfw2
  have hst0 := (FoI.stable k b ef f (.slice (some ⟨bg, 0, none⟩) f.held.length cp) f.held mv).both ((StoreT.stable b S).both hR)
  have h1 : At W _ (Both (BwT (w.heap.size + 1) w.heap.size k b ef f .nilIface (.slice (some ⟨bg, 0, none⟩) f.held.length cp) f.held mv) (Both (StoreT b S) R)) :=
    ((h.newCell hst0 #[.pointer (some ⟨k, 0, none⟩)] tPF).newCell ((CellT.stable _ _ _).both hst0) #[.nilIface] tErr).perm (by rw [show (w.alloc (.cells #[.pointer (some ⟨k, 0, none⟩)] tPF)).heap.size = w.heap.size + 1 by simp]; unfold FoI BwT; ac_rfl)
  have H1 := Lib.hid h1
  have HR := Lib.hid hR
  have HF := Lib.hid hF
  have HG := Lib.hid hG
  have HM := Lib.hid hm
  have HD := Lib.hid hd
  have HFI := Lib.hid hfit
  have HLN := Lib.hid hlen
  have hlt := h.foF.lt
  have c1 := h.foF.c1
  have HCP := Lib.hid (And.intro hcp1 hcp2)
  clear h h1 hst0 hR hF hG hm hd hfit hlen hq hcp1 hcp2
  go_enter_defers Tryz.func57, Tryz.ntmps57
  (repeat' (first | go_values | go_skip | go_guarded | go_step | go_upon | go_back | dsimp only))
  clear c1 hlt
  generalize (w.alloc _).alloc _ = w1 at *
  generalize w.heap.size = kf at *
  -- the words are sorted
  refine (Sort_at (L := f.held) (H1.out.perm (show _ = Both (RowG tSx 1 (.slice (some ⟨bg, 0, none⟩) f.held.length cp) f.held.length (strs f.held)) (Both (CellT (kf + 1) #[.nilIface] tErr) (Both (CellT kf #[.pointer (some ⟨k, 0, none⟩)] tPF) (Both (CellT k (fmCells b ef f (.slice (some ⟨bg, 0, none⟩) f.held.length cp) mv) tFm) (Both (RowT mv (mz f.made)) (Both (StoreT b S) R))))) by unfold BwT; ac_rfl)) ((CellT.stable _ _ _).both ((CellT.stable _ _ _).both ((CellT.stable _ _ _).both ((RowT.stable _ _).both ((StoreT.stable _ _).both HR.out))))) (by have := HLN.out; omega)).mono ?_
  rintro e w2 ⟨rfl, h2⟩
  have hsl : (f.held.mergeSort fun x y => decide (x ≤ y)).length = f.held.length := List.length_mergeSort _
  have hcs := compact_sort f.held
  generalize (f.held.mergeSort fun x y => decide (x ≤ y)) = L1 at *
  have h3 : At W w2 (Both (BwT (kf + 1) kf k b ef f .nilIface (.slice (some ⟨bg, 0, none⟩) f.held.length cp) L1 mv) (Both (StoreT b S) R)) := h2.perm (by unfold BwT; rw [hsl]; ac_rfl)
  have H3 := Lib.hid h3
  have HSL := Lib.hid hsl
  have HCS := Lib.hid hcs
  obtain ⟨e0, ez, el, f0, fl, c0, c1, c3, cz, cl⟩ := h3.bw
  clear h2 h3 H1 hsl hcs
  (repeat' (first | go_values | go_skip | go_guarded | go_step | go_upon | go_back | dsimp only))
  have HH := Lib.hid (fits_ofL HFI.out)
  have HWT := Lib.hid (written_top HG.out (L := ofL f.held) (fits_ofL HFI.out))
  by_cases hc : (createP S).2.2 = 0
  · refine (Open_ok (H3.out.perm (show _ = Both (StoreT b S) (Both (BwT (kf + 1) kf k b ef f .nilIface (.slice (some ⟨bg, 0, none⟩) f.held.length cp) L1 mv) R) by ac_rfl)) ((BwT.stable _ _ _ _ _ _ _ _ _ _).both HR.out) HF.out (n := 512) (by omega) hc).mono ?_
    rintro e w3 ⟨kx, rfl, h4⟩
    have h5 : At W _ (Both (CellT (kf + 1) #[.nilIface] tErr) (Both (CellT kf #[.pointer (some ⟨k, 0, none⟩)] tPF) (Both (FoI k b ef f (.slice (some ⟨bg, 0, none⟩) f.held.length cp) L1 mv) (Both (WrT kx b ef ⟨(createP S).2.1, 512, [], 0⟩) (Both (StoreT b (createP S).1) R))))) := (h4.perm (show _ = Both (CellT (kf + 1) #[.nilIface] tErr) (Both (CellT kf #[.pointer (some ⟨k, 0, none⟩)] tPF) (Both (FoI k b ef f (.slice (some ⟨bg, 0, none⟩) f.held.length cp) L1 mv) (Both (WrT kx b ef ⟨(createP S).2.1, 512, [], 0⟩) (Both (StoreT b (createP S).1) R)))) by unfold BwT FoI; ac_rfl)).setCell ((CellT.stable _ _ _).both ((FoI.stable _ _ _ _ _ _ _).both ((WrT.stable _ _ _ _).both ((StoreT.stable _ _).both HR.out)))) 0 .nilIface
    have h6 := h5.newCell ((CellT.stable _ _ _).both ((CellT.stable _ _ _).both ((FoI.stable _ _ _ _ _ _ _).both ((WrT.stable _ _ _ _).both ((StoreT.stable _ _).both HR.out))))) #[.pointer (some ⟨kx, 0, none⟩)] tPW
    clear e0 ez el f0 fl c0 c1 c3 cz cl
    have hsz : (w3.setCell ⟨kf + 1, 0, none⟩ .nilIface).heap.size = w3.heap.size := by simp
    rw [hsz] at h6
    have H6 := Lib.hid h6
    obtain ⟨e0, ez, el, f0, fl, c0, c1, c3, cz, cl⟩ := h4.drop.drop.bw
    clear h4 h5 h6 H3 hsz
    (repeat' (first | go_values | go_skip | go_guarded | go_step | go_upon | go_back | dsimp only))
    clear e0 ez el f0 fl c0 c1 c3 cz cl
    generalize (w3.setCell _ _).alloc _ = w4 at *
    generalize w3.heap.size = kw at *
    have h6 := H6.out.perm (show _ = Both (BwT (kf + 1) kf k b ef f .nilIface (.slice (some ⟨bg, 0, none⟩) f.held.length cp) L1 mv) (Both (CellT kw #[.pointer (some ⟨kx, 0, none⟩)] tPW) (Both (WrT kx b ef ⟨(createP S).2.1, 512, [], 0⟩) (Both (StoreT b (createP S).1) R))) by unfold BwT FoI; ac_rfl)
    obtain ⟨e0, ez, el, f0, fl, c0, c1, c3, cz, cl⟩ := h6.bw
    have k0 := cell_at h6.drop.cell.1 0
    have kl := lt_of_heap h6.drop.cell.1
    simp only [List.getElem?_toArray, List.getElem?_cons_zero] at k0
    obtain ⟨htop, _⟩ := create_top HG.out hc
    have HTOP := Lib.hid htop
    have hgs : GoodS (createP S).1 := htop.good
    have hln := HLN.out
    have hol := ofL_len f.held
    have hfw := frame_wsum HH.out
    have hww : wsum (ofL f.held) ≤ 257 * (ofL f.held).length := wsum_fit HH.out
    -- Compact, then Put
    have hco := fun (w' : World) (hb : Below w4.heap.size w4 w') => Compact_in (L := L1) ((h6.mono ((BwT.stable _ _ _ _ _ _ _ _ _ _).both ((CellT.stable _ _ _).both ((WrT.stable _ _ _ _).both ((StoreT.stable _ _).both HR.out)))) hb).perm (show _ = Both (RowG tSx 1 (.slice (some ⟨bg, 0, none⟩) f.held.length cp) L1.length (strs L1)) (Both (CellT (kf + 1) #[.nilIface] tErr) (Both (CellT kf #[.pointer (some ⟨k, 0, none⟩)] tPF) (Both (CellT k (fmCells b ef f (.slice (some ⟨bg, 0, none⟩) f.held.length cp) mv) tFm) (Both (RowT mv (mz f.made)) (Both (CellT kw #[.pointer (some ⟨kx, 0, none⟩)] tPW) (Both (WrT kx b ef ⟨(createP S).2.1, 512, [], 0⟩) (Both (StoreT b (createP S).1) R))))))) by unfold BwT; ac_rfl)) ((CellT.stable _ _ _).both ((CellT.stable _ _ _).both ((CellT.stable _ _ _).both ((RowT.stable _ _).both ((CellT.stable _ _ _).both ((WrT.stable _ _ _ _).both ((StoreT.stable _ _).both HR.out))))))) (by have := HSL.out; omega)
    have hpu := fun (w' : World) (L' : List (List UInt8)) (v' : Value) (h : At W w' (Both (BwT (kf + 1) kf k b ef f .nilIface (.slice (some ⟨bg, 0, none⟩) f.held.length cp) L' mv) (Both (CellT kw #[.pointer (some ⟨kx, 0, none⟩)] tPW) (Both (WrT kx b ef ⟨(createP S).2.1, 512, [], 0⟩) (Both (StoreT b (createP S).1) R))))) (hrd : RdRow w' v' (ofL f.held).length 1 (strs (ofL f.held))) =>
      Put_at (ss := ofL f.held) goodI (h.perm (show _ = Both (WrT kx b ef ⟨(createP S).2.1, 512, [], 0⟩) (Both (StoreT b (createP S).1) (Both (BwT (kf + 1) kf k b ef f .nilIface (.slice (some ⟨bg, 0, none⟩) f.held.length cp) L' mv) (Both (CellT kw #[.pointer (some ⟨kx, 0, none⟩)] tPW) R))) by ac_rfl)) ((BwT.stable _ _ _ _ _ _ _ _ _ _).both ((CellT.stable _ _ _).both HR.out)) HF.out hgs (by show 1 ≤ 512; omega) (by show 512 ≤ 4096; omega) (by have := hgs.sizes.2.2.2.1; have := htop.num; have := htop.made; unfold inI64; dsimp only; omega) hrd (by show 0 + _ ≤ _; omega)
    obtain ⟨P, hP⟩ : ∃ P, P = putP (createP S).1 ⟨(createP S).2.1, 512, [], 0⟩ (ofL f.held) := ⟨_, rfl⟩
    rw [← hP] at hpu
    obtain ⟨t', p1, p2, p3, p4, p5, p6, p7⟩ := putP_top (x := ⟨(createP S).2.1, 512, [], 0⟩) (L := ofL f.held) htop rfl rfl HH.out
    rw [← hP] at p1 p2 p3 p4 p5 p6 p7
    have hmade : S.made ≤ P.1.made := by rw [p1.made]; omega
    have hrunz : inI64 P.2.1.run := by
      have h1 := p1.good.sizes.2.2.2.1
      have h2 := p1.made
      have h3 := p1.num
      rw [p2]; unfold inI64; omega
    have HCO := Lib.hid hco
    have HPU := Lib.hid hpu
    have HGS := Lib.hid hgs
    have hcg := And.intro k0 (And.intro f0 c1)
    clear hco hpu htop hgs hln hol hww h6 H6
    have HPG := Lib.hid p1.good
    have HPR := Lib.hid hrunz
    have HTP := Lib.hid p1
    have HRU := Lib.hid p2
    have HMD := Lib.hid hmade
    by_cases hz : P.2.2 = 0
    · obtain ⟨q1, q2⟩ := p4 hz
      have hbuf : P.2.1.buf.length ≤ 16842752 := by
        have h1 := congrArg List.length q2
        simp only [List.length_append, List.length_nil] at h1
        have h2 := HLN.out
        have h3 := wsum_fit HH.out
        have h4 := ofL_len f.held
        omega
      rw [hz, errV_zero] at HPU
      have neqn : ∀ wz : World, (binOp .neq tErr .nilIface .nilIface).run Tryz.prog wz = .ok (.bool false) wz := fun wz => neq_nil wz
      have HBU := Lib.hid hbuf
      have HAL := Lib.hid q1
      have HPZ := Lib.hid hz
      have HPE := Lib.hid hP
      clear p1 p2 p3 p4 p5 p6 p7 q1 q2 hbuf hmade hrunz hz hP hfw
      go_region_held3 (fun wx => wx.cell? ⟨kw, 0, none⟩ = some (.pointer (some ⟨kx, 0, none⟩)) ∧ wx.cell? ⟨kf, 0, none⟩ = some (.pointer (some ⟨k, 0, none⟩)) ∧ wx.cell? ⟨k, 1, none⟩ = some (.slice (some ⟨bg, 0, none⟩) f.held.length cp)) (first | assumption | go_keep) ((first
        | (go_at_call 81; (refine Calls.mono (HPU.out _ _ _ H7.out HRD.out) ?_); rintro e w6 ⟨rfl, h8⟩; have h9 := (h8.perm (show _ = Both (BwT (kf + 1) kf k b ef f .nilIface (.slice (some ⟨bg, 0, none⟩) f.held.length cp) L2 mv) (Both (CellT kw #[.pointer (some ⟨kx, 0, none⟩)] tPW) (Both (WrT kx b ef P.2.1) (Both (StoreT b P.1) R))) by ac_rfl)); have cg8 := And.intro (cell_at h9.drop.cell.1 0) (And.intro h9.bw.f0 h9.bw.c1); have hl8 := h9.bw.cl; have H9 := Lib.hid h9; clear h8 h9)
        | (go_at_call 82; (refine Calls.mono (HCO.out _ (by exact ⟨rfl, rfl, rfl, Nat.le_refl _, fun _ _ => rfl⟩)) ?_); rintro e w5 ⟨v5, L2, rfl, hl2, hrd2, h7⟩; rw [HCS.out] at hrd2; have h7a := (h7.perm (show _ = Both (BwT (kf + 1) kf k b ef f .nilIface (.slice (some ⟨bg, 0, none⟩) f.held.length cp) L2 mv) (Both (CellT kw #[.pointer (some ⟨kx, 0, none⟩)] tPW) (Both (WrT kx b ef ⟨(createP S).2.1, 512, [], 0⟩) (Both (StoreT b (createP S).1) R))) by unfold BwT; ac_rfl)); have cg7 := And.intro (cell_at h7a.drop.cell.1 0) (And.intro h7a.bw.f0 h7a.bw.c1); have hl7 := h7a.bw.cl; have H7 := Lib.hid h7a; have HRD := Lib.hid hrd2; have HL2 := Lib.hid hl2; clear h7 h7a hrd2 hl2)))
      clear cg8 hcg cg7 hl8 hl7 H7 HCO HPU HRD
      all_goals (try clear e0 ez el f0 fl c0 c1 c3 cz cl k0 kl)
      obtain ⟨e0, ez, el, f0, fl, c0, c1, c3, cz, cl⟩ := H9.out.bw
      have k0 := cell_at H9.out.drop.cell.1 0
      simp only [List.getElem?_toArray, List.getElem?_cons_zero] at k0
      (repeat' (first | go_values | go_skip | go_guarded | go_step | go_upon | go_back | dsimp only))
      clear e0 ez el f0 fl c0 c1 c3 cz cl k0
      have hcl := Close_at goodI (H9.out.perm (show _ = Both (WrT kx b ef P.2.1) (Both (StoreT b P.1) (Both (BwT (kf + 1) kf k b ef f .nilIface (.slice (some ⟨bg, 0, none⟩) f.held.length cp) L2 mv) (Both (CellT kw #[.pointer (some ⟨kx, 0, none⟩)] tPW) R))) by ac_rfl)) ((BwT.stable _ _ _ _ _ _ _ _ _ _).both ((CellT.stable _ _ _).both HR.out)) HF.out HPG.out HPR.out (by have := HBU.out; omega)
      have hct := closeP_top HTP.out HRU.out HAL.out
      have hcgd := closeP_good HPG.out P.2.1
      have hcmd := made_close P.1 P.2.1
      obtain ⟨Q, hQ⟩ : ∃ Q, Q = closeP P.1 P.2.1 := ⟨_, rfl⟩
      rw [← hQ] at hcl hct hcgd hcmd
      by_cases hz2 : Q.2.2.2 = 0
      · rcases hct.symm with ⟨k1, _⟩ | ⟨_, k2, k3⟩
        · exact absurd hz2 k1
        have hgood := fwrite_good (S := S) (f := f) (r := (Q.1, Q.2.2.1, 0)) (by
          unfold writtenP
          rw [if_neg (by simpa using hc)]
          dsimp only
          rw [← HPE.out, if_neg (by simpa using HPZ.out), ← hQ, if_neg (by simpa using hz2)]) rfl
        dsimp only at hgood
        have HGOOD := Lib.hid hgood
        rw [hz2, errV_zero] at hcl
        have HCL := Lib.hid hcl
        clear hcl hcgd hcmd hQ hz2 k2 k3 hgood
        refine HCL.out.mono ?_
        rintro e w7 ⟨rfl, h10⟩
        have h11 := h10.perm (show _ = Both (CellT (kf + 1) #[.nilIface] tErr) (Both (CellT kf #[.pointer (some ⟨k, 0, none⟩)] tPF) (Both (FoI k b ef f (.slice (some ⟨bg, 0, none⟩) f.held.length cp) L2 mv) (Both (CellT kw #[.pointer (some ⟨kx, 0, none⟩)] tPW) (Both (WrT kx b ef Q.2.1) (Both (StoreT b Q.1) R))))) by unfold BwT FoI; ac_rfl)
        have h12 : At W (w7.setCell ⟨kf + 1, 0, none⟩ .nilIface) (Both (CellT (kf + 1) #[.nilIface] tErr) (Both (CellT kf #[.pointer (some ⟨k, 0, none⟩)] tPF) (Both (FoI k b ef f (.slice (some ⟨bg, 0, none⟩) f.held.length cp) L2 mv) (Both (CellT kw #[.pointer (some ⟨kx, 0, none⟩)] tPW) (Both (WrT kx b ef Q.2.1) (Both (StoreT b Q.1) R)))))) := h11.setCell ((CellT.stable _ _ _).both ((FoI.stable _ _ _ _ _ _ _).both ((CellT.stable _ _ _).both ((WrT.stable _ _ _ _).both ((StoreT.stable _ _).both HR.out))))) 0 .nilIface
        have h13 := h12.perm (show _ = Both (RowG tSx 1 (.slice (some ⟨bg, 0, none⟩) f.held.length cp) L2.length (strs L2)) (Both (CellT (kf + 1) #[.nilIface] tErr) (Both (CellT kf #[.pointer (some ⟨k, 0, none⟩)] tPF) (Both (CellT k (fmCells b ef f (.slice (some ⟨bg, 0, none⟩) f.held.length cp) mv) tFm) (Both (RowT mv (mz f.made)) (Both (CellT kw #[.pointer (some ⟨kx, 0, none⟩)] tPW) (Both (WrT kx b ef Q.2.1) (Both (StoreT b Q.1) R))))))) by unfold FoI; ac_rfl)
        have hl2 : L2.length = f.held.length := HL2.out.trans HSL.out
        rw [hl2] at h13
        have hcl : ∀ ty, (Builtin.clear_ #[22] ty #[.slice (some ⟨bg, 0, none⟩) f.held.length cp]).run Tryz.prog (w7.setCell ⟨kf + 1, 0, none⟩ .nilIface) = .ok (.tuple #[]) ((w7.setCell ⟨kf + 1, 0, none⟩ .nilIface).setCells bg 0 (List.replicate f.held.length (.string ⟨#[]⟩))) := fun ty =>
          Lib.run_clear_slice _ _ _ ty (.string ⟨#[]⟩) Tryz.underlying22 (fun w => by kernel_rfl) rfl rfl bg 0 f.held.length cp HNE.out
            (fun j hj => by
              obtain ⟨u, hu⟩ : ∃ u, (strs L2)[j]? = some u := ⟨_, List.getElem?_eq_getElem (by simp [strs]; omega)⟩
              rw [Nat.zero_add, (h13.rowCell hu).1]; rfl)
            (fun j hj => by
              obtain ⟨u, hu⟩ : ∃ u, (strs L2)[j]? = some u := ⟨_, List.getElem?_eq_getElem (by simp [strs]; omega)⟩
              rw [Nat.zero_add, (h13.rowCell hu).2.1])
        have hst13 : Stable (Both (CellT (kf + 1) #[.nilIface] tErr) (Both (CellT kf #[.pointer (some ⟨k, 0, none⟩)] tPF) (Both (CellT k (fmCells b ef f (.slice (some ⟨bg, 0, none⟩) f.held.length cp) mv) tFm) (Both (RowT mv (mz f.made)) (Both (CellT kw #[.pointer (some ⟨kx, 0, none⟩)] tPW) (Both (WrT kx b ef Q.2.1) (Both (StoreT b Q.1) R))))))) :=
          (CellT.stable _ _ _).both ((CellT.stable _ _ _).both ((CellT.stable _ _ _).both ((RowT.stable _ _).both ((CellT.stable _ _ _).both ((WrT.stable _ _ _ _).both ((StoreT.stable _ _).both HR.out))))))
        have h14 := At.setCellsG hst13 (List.replicate f.held.length (.string ⟨#[]⟩)) 0 h13.rowShort
        have H14 := Lib.hid h14
        have f1 := cell_at h12.drop.cell.1 0
        have b1 := h11.bwx
        clear h10 h11 h12 h13 h14 hst13 HCL H9 hl2
        simp only [List.getElem?_toArray, List.getElem?_cons_zero] at f1
        obtain ⟨e0, ez, el, f0, fl, c0, c1, c3, cz, cl⟩ := b1
        (repeat' (first | go_values | go_skip | go_guarded | go_step | go_upon | go_back | dsimp only))
        clear e0 ez el f0 fl c0 c1 c3 cz cl f1 hcl
        generalize World.setCells _ _ _ _ = w8 at *
        have h15 := H14.out.perm (show _ = Both (CellT k (fmCells b ef f (.slice (some ⟨bg, 0, none⟩) f.held.length cp) mv) tFm) (Both (RowG tSx 1 (.slice (some ⟨bg, 0, none⟩) 0 cp) 0 []) (Both (CellT (kf + 1) #[.nilIface] tErr) (Both (CellT kf #[.pointer (some ⟨k, 0, none⟩)] tPF) (Both (RowG tInt 1 mv (mz f.made).length (intsV (mz f.made))) (Both (CellT kw #[.pointer (some ⟨kx, 0, none⟩)] tPW) (Both (WrT kx b ef Q.2.1) (Both (StoreT b Q.1) R))))))) by show _ = Both _ (Both _ (Both _ (Both _ (Both (RowT mv (mz f.made)) _)))); ac_rfl)
        have hSX : Stable (Both (CellT k (fmCells b ef f (.slice (some ⟨bg, 0, none⟩) f.held.length cp) mv) tFm) (Both (RowG tSx 1 (.slice (some ⟨bg, 0, none⟩) 0 cp) 0 []) (Both (CellT (kf + 1) #[.nilIface] tErr) (Both (CellT kf #[.pointer (some ⟨k, 0, none⟩)] tPF) (Both (CellT kw #[.pointer (some ⟨kx, 0, none⟩)] tPW) (Both (WrT kx b ef Q.2.1) (Both (StoreT b Q.1) R))))))) :=
          (CellT.stable _ _ _).both ((RowG.stable _ _ _ _ _).both ((CellT.stable _ _ _).both ((CellT.stable _ _ _).both ((CellT.stable _ _ _).both ((WrT.stable _ _ _ _).both ((StoreT.stable _ _).both HR.out))))))
        have hSY : Stable (Both (CellT k (fmCells b ef f (.slice (some ⟨bg, 0, none⟩) f.held.length cp) mv) tFm) (Both (RowG tSx 1 (.slice (some ⟨bg, 0, none⟩) 0 cp) 0 []) (Both (CellT (kf + 1) #[.nilIface] tErr) (Both (CellT kf #[.pointer (some ⟨k, 0, none⟩)] tPF) (Both (RowG tInt 1 mv (mz f.made).length (intsV (mz f.made))) (Both (CellT kw #[.pointer (some ⟨kx, 0, none⟩)] tPW) (Both (WrT kx b ef Q.2.1) (Both (StoreT b Q.1) R)))))))) :=
          (CellT.stable _ _ _).both ((RowG.stable _ _ _ _ _).both ((CellT.stable _ _ _).both ((CellT.stable _ _ _).both ((RowG.stable _ _ _ _ _).both ((CellT.stable _ _ _).both ((WrT.stable _ _ _ _).both ((StoreT.stable _ _).both HR.out)))))))
        have q1 := cell_at h15.cell.1 1
        have q3 := cell_at h15.cell.1 3
        have qf := cell_at h15.drop.drop.drop.cell.1 0
        have lkk := lt_of_heap h15.cell.1
        have lkf := lt_of_heap h15.drop.drop.drop.cell.1
        simp only [List.getElem?_toArray, List.getElem?_cons_zero, List.getElem?_cons_succ] at q1 q3 qf
        have H15 := Lib.hid h15
        have hS9 : w8.drew.cell? ⟨kf, 0, none⟩ = some (.pointer (some ⟨k, 0, none⟩)) ∧ w8.drew.cell? ⟨k, 3, none⟩ = some mv ∧ w8.drew.cell? ⟨k, 1, none⟩ = some (.slice (some ⟨bg, 0, none⟩) f.held.length cp) := ⟨qf, q3, q1⟩
        clear h15 H14
        refine wp_only ?_
        rename_i K13 hK13
        have HK13 := Lib.hid hK13
        clear hK13
        refine wpL.start (fun l wx => wx.cell? ⟨kf, 0, none⟩ = some (.pointer (some ⟨k, 0, none⟩)) ∧ (l.getD 16 true = false → wx.cell? ⟨k, 3, none⟩ = some mv) ∧ (l.getD 19 true = false → wx.cell? ⟨k, 1, none⟩ = some (.slice (some ⟨bg, 0, none⟩) f.held.length cp))) (by kernel_rfl) ⟨hS9.1, fun _ => hS9.2.1, fun _ => hS9.2.2⟩ (fun hHeld => ?_)
        refine wpL.takeS (i := 0) (v := ?_) (T := fun wx => wx.cell? ⟨kf, 0, none⟩ = some (.pointer (some ⟨k, 0, none⟩))) rfl (by kernel_rfl) (by kernel_rfl) (by kernel_rfl) (fun _ _ _ h => h) (fun l w hS => hS.1) (fun l w => by (try dsimp only); rw [getD_set_ne true (show 0 ≠ 16 by decide), getD_set_ne true (show 0 ≠ 19 by decide)]) (Or.inl ⟨by rfl, ?_⟩) hHeld (fun hH2 => ?_)
        rotate_left
        next => (intro w hSw; (try dsimp only at hSw); go_simp; (try with_reducible rfl))
        clear hHeld
        have hHeld := hH2
        clear hH2
        (try simp only [List.getElem_toArray, List.getElem_cons_zero, List.getElem_cons_succ, Act.put, List.setIfInBounds_toArray, List.set_cons_zero, List.set_cons_succ])
        refine wpL.takeS (i := 2) (v := ?_) (T := fun wx => wx.cell? ⟨kf, 0, none⟩ = some (.pointer (some ⟨k, 0, none⟩))) rfl (by kernel_rfl) (by kernel_rfl) (by kernel_rfl) (fun _ _ _ h => h) (fun l w hS => hS.1) (fun l w => by (try dsimp only); rw [getD_set_ne true (show 2 ≠ 16 by decide), getD_set_ne true (show 2 ≠ 19 by decide)]) (Or.inl ⟨by rfl, ?_⟩) hHeld (fun hH2 => ?_)
        rotate_left
        next => (intro w hSw; (try dsimp only at hSw); go_simp; (try with_reducible rfl))
        clear hHeld
        have hHeld := hH2
        clear hH2
        (try simp only [List.getElem_toArray, List.getElem_cons_zero, List.getElem_cons_succ, Act.put, List.setIfInBounds_toArray, List.set_cons_zero, List.set_cons_succ])
        refine wpL.take (i := 3) (v := ?_) rfl (by kernel_rfl) (by kernel_rfl) (by kernel_rfl) (fun _ _ _ h => h) (fun l w => by (try dsimp only); rw [getD_set_ne true (show 3 ≠ 16 by decide), getD_set_ne true (show 3 ≠ 19 by decide)]) (Or.inl ⟨by rfl, ?_⟩) hHeld (fun hH2 => ?_)
        rotate_left
        next => (intro w hSw; go_simp; (try with_reducible rfl))
        clear hHeld
        have hHeld := hH2
        clear hH2
        (try simp only [List.getElem_toArray, List.getElem_cons_zero, List.getElem_cons_succ, Act.put, List.setIfInBounds_toArray, List.set_cons_zero, List.set_cons_succ])
        refine wpL.take (i := 4) (v := ?_) rfl (by kernel_rfl) (by kernel_rfl) (by kernel_rfl) (fun _ _ _ h => h) (fun l w => by (try dsimp only); rw [getD_set_ne true (show 4 ≠ 16 by decide), getD_set_ne true (show 4 ≠ 19 by decide)]) (Or.inl ⟨by rfl, ?_⟩) hHeld (fun hH2 => ?_)
        rotate_left
        next => (intro w hSw; go_simp; (try with_reducible rfl))
        clear hHeld
        have hHeld := hH2
        clear hH2
        (try simp only [List.getElem_toArray, List.getElem_cons_zero, List.getElem_cons_succ, Act.put, List.setIfInBounds_toArray, List.set_cons_zero, List.set_cons_succ])
        refine wpL.takeG (i := 5) (g := 16) (v := ?_) (T := fun wx => wx.cell? ⟨k, 3, none⟩ = some (mv)) rfl rfl (by kernel_rfl) (by kernel_rfl) (by kernel_rfl) (by kernel_rfl) (by kernel_rfl) (fun _ _ _ h => h) (fun l w hl hS => hS.2.1 hl) (fun l w => by (try dsimp only); rw [getD_set_ne true (show 5 ≠ 16 by decide), getD_set_ne true (show 5 ≠ 19 by decide)]) (Or.inl ⟨by rfl, ?_⟩) hHeld (fun hH2 => ?_)
        rotate_left
        next => (intro w hSw; (try dsimp only at hSw); go_simp; (try with_reducible rfl))
        clear hHeld
        have hHeld := hH2
        clear hH2
        (try simp only [List.getElem_toArray, List.getElem_cons_zero, List.getElem_cons_succ, Act.put, List.setIfInBounds_toArray, List.set_cons_zero, List.set_cons_succ])
        refine wpL.take (i := 6) (v := ?_) rfl (by kernel_rfl) (by kernel_rfl) (by kernel_rfl) (fun _ _ _ h => h) (fun l w => by (try dsimp only); rw [getD_set_ne true (show 6 ≠ 16 by decide), getD_set_ne true (show 6 ≠ 19 by decide)]) (Or.inl ⟨by rfl, ?_⟩) hHeld (fun hH2 => ?_)
        rotate_left
        next => (intro w hSw; go_simp; (try with_reducible rfl))
        clear hHeld
        have hHeld := hH2
        clear hH2
        (try simp only [List.getElem_toArray, List.getElem_cons_zero, List.getElem_cons_succ, Act.put, List.setIfInBounds_toArray, List.set_cons_zero, List.set_cons_succ])
        refine wpL.takeS (i := 9) (v := ?_) (T := fun wx => wx.cell? ⟨kf, 0, none⟩ = some (.pointer (some ⟨k, 0, none⟩))) rfl (by kernel_rfl) (by kernel_rfl) (by kernel_rfl) (fun _ _ _ h => h) (fun l w hS => hS.1) (fun l w => by (try dsimp only); rw [getD_set_ne true (show 9 ≠ 16 by decide), getD_set_ne true (show 9 ≠ 19 by decide)]) (Or.inl ⟨by rfl, ?_⟩) hHeld (fun hH2 => ?_)
        rotate_left
        next => (intro w hSw; (try dsimp only at hSw); go_simp; (try with_reducible rfl))
        clear hHeld
        have hHeld := hH2
        clear hH2
        (try simp only [List.getElem_toArray, List.getElem_cons_zero, List.getElem_cons_succ, Act.put, List.setIfInBounds_toArray, List.set_cons_zero, List.set_cons_succ])
        refine wpL.take (i := 10) (v := ?_) rfl (by kernel_rfl) (by kernel_rfl) (by kernel_rfl) (fun _ _ _ h => h) (fun l w => by (try dsimp only); rw [getD_set_ne true (show 10 ≠ 16 by decide), getD_set_ne true (show 10 ≠ 19 by decide)]) (Or.inl ⟨by rfl, ?_⟩) hHeld (fun hH2 => ?_)
        rotate_left
        next => (intro w hSw; go_simp; (try with_reducible rfl))
        clear hHeld
        have hHeld := hH2
        clear hH2
        (try simp only [List.getElem_toArray, List.getElem_cons_zero, List.getElem_cons_succ, Act.put, List.setIfInBounds_toArray, List.set_cons_zero, List.set_cons_succ])
        refine wpL.take (i := 11) (v := ?_) rfl (by kernel_rfl) (by kernel_rfl) (by kernel_rfl) (fun _ _ _ h => h) (fun l w => by (try dsimp only); rw [getD_set_ne true (show 11 ≠ 16 by decide), getD_set_ne true (show 11 ≠ 19 by decide)]) (Or.inl ⟨by rfl, ?_⟩) hHeld (fun hH2 => ?_)
        rotate_left
        next => (intro w hSw; go_simp; (try with_reducible rfl))
        clear hHeld
        have hHeld := hH2
        clear hH2
        (try simp only [List.getElem_toArray, List.getElem_cons_zero, List.getElem_cons_succ, Act.put, List.setIfInBounds_toArray, List.set_cons_zero, List.set_cons_succ])
        refine wpL.takeG (i := 12) (g := 19) (v := ?_) (T := fun wx => wx.cell? ⟨k, 1, none⟩ = some (.slice (some ⟨bg, 0, none⟩) f.held.length cp)) rfl rfl (by kernel_rfl) (by kernel_rfl) (by kernel_rfl) (by kernel_rfl) (by kernel_rfl) (fun _ _ _ h => h) (fun l w hl hS => hS.2.2 hl) (fun l w => by (try dsimp only); rw [getD_set_ne true (show 12 ≠ 16 by decide), getD_set_ne true (show 12 ≠ 19 by decide)]) (Or.inl ⟨by rfl, ?_⟩) hHeld (fun hH2 => ?_)
        rotate_left
        next => (intro w hSw; (try dsimp only at hSw); go_simp; (try with_reducible rfl))
        clear hHeld
        have hHeld := hH2
        clear hH2
        (try simp only [List.getElem_toArray, List.getElem_cons_zero, List.getElem_cons_succ, Act.put, List.setIfInBounds_toArray, List.set_cons_zero, List.set_cons_succ])
        refine wpL.take (i := 13) (v := ?_) rfl (by kernel_rfl) (by kernel_rfl) (by kernel_rfl) (fun _ _ _ h => h) (fun l w => by (try dsimp only); rw [getD_set_ne true (show 13 ≠ 16 by decide), getD_set_ne true (show 13 ≠ 19 by decide)]) (Or.inl ⟨by rfl, ?_⟩) hHeld (fun hH2 => ?_)
        rotate_left
        next => (intro w hSw; go_simp; (try with_reducible rfl))
        clear hHeld
        have hHeld := hH2
        clear hH2
        (try simp only [List.getElem_toArray, List.getElem_cons_zero, List.getElem_cons_succ, Act.put, List.setIfInBounds_toArray, List.set_cons_zero, List.set_cons_succ])
        refine wpL.takeS (i := 1) (v := ?_) (T := fun wx => wx.cell? ⟨kf, 0, none⟩ = some (.pointer (some ⟨k, 0, none⟩))) rfl (by kernel_rfl) (by kernel_rfl) (by kernel_rfl) (fun _ _ _ h => h) (fun l w hS => hS.1) (fun l w => by (try dsimp only); rw [getD_set_ne true (show 1 ≠ 16 by decide), getD_set_ne true (show 1 ≠ 19 by decide)]) (Or.inl ⟨by rfl, ?_⟩) hHeld (fun hH2 => ?_)
        rotate_left
        next => (intro w hSw; (try dsimp only at hSw); go_simp; (try with_reducible rfl))
        clear hHeld
        have hHeld := hH2
        clear hH2
        (try simp only [List.getElem_toArray, List.getElem_cons_zero, List.getElem_cons_succ, Act.put, List.setIfInBounds_toArray, List.set_cons_zero, List.set_cons_succ])
        refine wpL.ready (rs := [7]) (by kernel_rfl) (by simp) ?_
        refine AllL.cons rfl (fun K hK => ?_) AllL.nil
        go_simp
        refine hK.out _ _ ?_ (fun hH2 => ?_)
        next =>
          (try dsimp only)
          refine ⟨?_, fun hl => ?_, fun hl => ?_⟩
          · first | exact hS9.1 | exact cell_oldA hS9.1 | exact t0 | exact v0 | exact z0
          · first | (exact lNo hl (by decide +kernel)) | exact hS9.2.1 | exact cell_oldA hS9.2.1 | exact t3
          · first | (exact lNo hl (by decide +kernel)) | exact hS9.2.2 | exact cell_oldA hS9.2.2 | exact t1 | exact v1
        clear hK K hHeld
        have hHeld := hH2
        clear hH2
        (try simp only [List.getElem_toArray, List.getElem_cons_zero, List.getElem_cons_succ, Act.put, List.setIfInBounds_toArray, List.set_cons_zero, List.set_cons_succ])
        refine wpL.ready (rs := [8]) (by kernel_rfl) (by simp) ?_
        refine AllL.cons rfl (fun K hK => ?_) AllL.nil
        refine step_append_ex rfl _ _ 23 rfl mv _ rfl rfl (append_cell_run (R := Both (CellT k (fmCells b ef f (.slice (some ⟨bg, 0, none⟩) f.held.length cp) mv) tFm) (Both (RowG tSx 1 (.slice (some ⟨bg, 0, none⟩) 0 cp) 0 []) (Both (CellT (kf + 1) #[.nilIface] tErr) (Both (CellT kf #[.pointer (some ⟨k, 0, none⟩)] tPF) (Both (CellT kw #[.pointer (some ⟨kx, 0, none⟩)] tPW) (Both (WrT kx b ef Q.2.1) (Both (StoreT b Q.1) R))))))) (xs := intsV (mz f.made)) (u := .int .i64 Q.2.2.1) 23 23 tInt Tryz.underlying23 info_int rfl (((H15.out.drew hSY).alloc hSY _).perm (by ac_rfl)) hSX (by exact cell_new _ _ _) rfl (by have := HFW.out; unfold maxLen; omega) (by have := HFW.out; omega)) ?_
        rintro ao1 cp1 w10 ⟨h10, hu10⟩
        have h11 := h10.perm (show _ = Both (CellT k (fmCells b ef f (.slice (some ⟨bg, 0, none⟩) f.held.length cp) mv) tFm) (Both (RowG tSx 1 (.slice (some ⟨bg, 0, none⟩) 0 cp) 0 []) (Both (CellT (kf + 1) #[.nilIface] tErr) (Both (CellT kf #[.pointer (some ⟨k, 0, none⟩)] tPF) (Both (RowG tInt 1 (.slice ao1 ((mz f.made).length + 1) cp1) ((mz f.made).length + 1) (intsV (mz f.made) ++ [.int .i64 Q.2.2.1])) (Both (CellT kw #[.pointer (some ⟨kx, 0, none⟩)] tPW) (Both (WrT kx b ef Q.2.1) (Both (StoreT b Q.1) R))))))) by ac_rfl)
        have hSZ : Stable (Both (RowG tSx 1 (.slice (some ⟨bg, 0, none⟩) 0 cp) 0 []) (Both (CellT (kf + 1) #[.nilIface] tErr) (Both (CellT kf #[.pointer (some ⟨k, 0, none⟩)] tPF) (Both (RowG tInt 1 (.slice ao1 ((mz f.made).length + 1) cp1) ((mz f.made).length + 1) (intsV (mz f.made) ++ [.int .i64 Q.2.2.1])) (Both (CellT kw #[.pointer (some ⟨kx, 0, none⟩)] tPW) (Both (WrT kx b ef Q.2.1) (Both (StoreT b Q.1) R))))))) :=
          (RowG.stable _ _ _ _ _).both ((CellT.stable _ _ _).both ((CellT.stable _ _ _).both ((RowG.stable _ _ _ _ _).both ((CellT.stable _ _ _).both ((WrT.stable _ _ _ _).both ((StoreT.stable _ _).both HR.out))))))
        have t0 := cell_at h11.drop.drop.drop.cell.1 0
        have t1 := cell_at h11.cell.1 1
        have t3 := cell_at h11.cell.1 3
        have tz := thaw_at h11.cell.1
        have tl := lt_of_heap h11.cell.1
        have h12 := h11.setCell hSZ 3 (.slice ao1 ((mz f.made).length + 1) cp1)
        have v0 := cell_at h12.drop.drop.drop.cell.1 0
        have v1 := cell_at h12.cell.1 1
        have vz := thaw_at h12.cell.1
        have vl := lt_of_heap h12.cell.1
        have h13 := h12.setCell hSZ 1 (.slice (some ⟨bg, 0, none⟩) 0 cp)
        have z0 := cell_at h13.drop.drop.drop.cell.1 0
        have ze := cell_at h13.drop.drop.cell.1 0
        have zf := thaw_at h13.drop.drop.cell.1
        have zl := lt_of_heap h13.drop.drop.cell.1
        have H13 := Lib.hid h13
        simp only [List.getElem?_toArray, List.getElem?_cons_zero, List.getElem?_cons_succ, List.setIfInBounds_toArray, List.set_cons_zero, List.set_cons_succ] at t0 t1 t3 v0 v1 z0 ze
        clear h10 h11 h12 h13 hSZ hu10 H15 hSX hSY hS9 q1 q3 qf lkk lkf
        refine hK.out _ _ ?_ (fun hH2 => ?_)
        next =>
          (try dsimp only)
          refine ⟨?_, fun hl => ?_, fun hl => ?_⟩
          · first | exact hS9.1 | exact cell_oldA hS9.1 | exact t0 | exact v0 | exact z0
          · first | (exact lNo hl (by decide +kernel)) | exact hS9.2.1 | exact cell_oldA hS9.2.1 | exact t3
          · first | (exact lNo hl (by decide +kernel)) | exact hS9.2.2 | exact cell_oldA hS9.2.2 | exact t1 | exact v1
        clear hK K hHeld
        have hHeld := hH2
        clear hH2
        (try simp only [List.getElem_toArray, List.getElem_cons_zero, List.getElem_cons_succ, Act.put, List.setIfInBounds_toArray, List.set_cons_zero, List.set_cons_succ])
        refine wpL.ready (rs := [14]) (by kernel_rfl) (by simp) ?_
        refine AllL.cons rfl (fun K hK => ?_) AllL.nil
        go_simp
        refine hK.out _ _ ?_ (fun hH2 => ?_)
        next =>
          (try dsimp only)
          refine ⟨?_, fun hl => ?_, fun hl => ?_⟩
          · first | exact hS9.1 | exact cell_oldA hS9.1 | exact t0 | exact v0 | exact z0
          · first | (exact lNo hl (by decide +kernel)) | exact hS9.2.1 | exact cell_oldA hS9.2.1 | exact t3
          · first | (exact lNo hl (by decide +kernel)) | exact hS9.2.2 | exact cell_oldA hS9.2.2 | exact t1 | exact v1
        clear hK K hHeld
        have hHeld := hH2
        clear hH2
        (try simp only [List.getElem_toArray, List.getElem_cons_zero, List.getElem_cons_succ, Act.put, List.setIfInBounds_toArray, List.set_cons_zero, List.set_cons_succ])
        refine wpL.ready (rs := [15]) (by kernel_rfl) (by simp) ?_
        refine AllL.cons rfl (fun K hK => ?_) AllL.nil
        go_simp
        refine hK.out _ _ ?_ (fun hH2 => ?_)
        next =>
          (try dsimp only)
          refine ⟨?_, fun hl => ?_, fun hl => ?_⟩
          · first | exact hS9.1 | exact cell_oldA hS9.1 | exact t0 | exact v0 | exact z0
          · first | (exact lNo hl (by decide +kernel)) | exact hS9.2.1 | exact cell_oldA hS9.2.1 | exact t3
          · first | (exact lNo hl (by decide +kernel)) | exact hS9.2.2 | exact cell_oldA hS9.2.2 | exact t1 | exact v1
        clear hK K hHeld
        have hHeld := hH2
        clear hH2
        (try simp only [List.getElem_toArray, List.getElem_cons_zero, List.getElem_cons_succ, Act.put, List.setIfInBounds_toArray, List.set_cons_zero, List.set_cons_succ])
        refine wpL.ready (rs := [16]) (by kernel_rfl) (by simp) ?_
        refine AllL.cons rfl (fun K hK => ?_) AllL.nil
        go_simp
        refine hK.out _ _ ?_ (fun hH2 => ?_)
        next =>
          (try dsimp only)
          refine ⟨?_, fun hl => ?_, fun hl => ?_⟩
          · first | exact hS9.1 | exact cell_oldA hS9.1 | exact t0 | exact v0 | exact z0
          · first | (exact lNo hl (by decide +kernel)) | exact hS9.2.1 | exact cell_oldA hS9.2.1 | exact t3
          · first | (exact lNo hl (by decide +kernel)) | exact hS9.2.2 | exact cell_oldA hS9.2.2 | exact t1 | exact v1
        clear hK K hHeld
        have hHeld := hH2
        clear hH2
        (try simp only [List.getElem_toArray, List.getElem_cons_zero, List.getElem_cons_succ, Act.put, List.setIfInBounds_toArray, List.set_cons_zero, List.set_cons_succ])
        refine wpL.ready (rs := [17]) (by kernel_rfl) (by simp) ?_
        refine AllL.cons rfl (fun K hK => ?_) AllL.nil
        go_simp
        refine hK.out _ _ ?_ (fun hH2 => ?_)
        next =>
          (try dsimp only)
          refine ⟨?_, fun hl => ?_, fun hl => ?_⟩
          · first | exact hS9.1 | exact cell_oldA hS9.1 | exact t0 | exact v0 | exact z0
          · first | (exact lNo hl (by decide +kernel)) | exact hS9.2.1 | exact cell_oldA hS9.2.1 | exact t3
          · first | (exact lNo hl (by decide +kernel)) | exact hS9.2.2 | exact cell_oldA hS9.2.2 | exact t1 | exact v1
        clear hK K hHeld
        have hHeld := hH2
        clear hH2
        (try simp only [List.getElem_toArray, List.getElem_cons_zero, List.getElem_cons_succ, Act.put, List.setIfInBounds_toArray, List.set_cons_zero, List.set_cons_succ])
        refine wpL.ready (rs := [18]) (by kernel_rfl) (by simp) ?_
        refine AllL.cons rfl (fun K hK => ?_) AllL.nil
        go_simp
        refine hK.out _ _ ?_ (fun hH2 => ?_)
        next =>
          (try dsimp only)
          refine ⟨?_, fun hl => ?_, fun hl => ?_⟩
          · first | exact hS9.1 | exact cell_oldA hS9.1 | exact t0 | exact v0 | exact z0
          · first | (exact lNo hl (by decide +kernel)) | exact hS9.2.1 | exact cell_oldA hS9.2.1 | exact t3
          · first | (exact lNo hl (by decide +kernel)) | exact hS9.2.2 | exact cell_oldA hS9.2.2 | exact t1 | exact v1
        clear hK K hHeld
        have hHeld := hH2
        clear hH2
        (try simp only [List.getElem_toArray, List.getElem_cons_zero, List.getElem_cons_succ, Act.put, List.setIfInBounds_toArray, List.set_cons_zero, List.set_cons_succ])
        refine wpL.ready (rs := [19]) (by kernel_rfl) (by simp) ?_
        refine AllL.cons rfl (fun K hK => ?_) AllL.nil
        go_simp
        refine hK.out _ _ ?_ (fun hH2 => ?_)
        next =>
          (try dsimp only)
          refine ⟨?_, fun hl => ?_, fun hl => ?_⟩
          · first | exact hS9.1 | exact cell_oldA hS9.1 | exact t0 | exact v0 | exact z0
          · first | (exact lNo hl (by decide +kernel)) | exact hS9.2.1 | exact cell_oldA hS9.2.1 | exact t3
          · first | (exact lNo hl (by decide +kernel)) | exact hS9.2.2 | exact cell_oldA hS9.2.2 | exact t1 | exact v1
        clear hK K hHeld
        have hHeld := hH2
        clear hH2
        (try simp only [List.getElem_toArray, List.getElem_cons_zero, List.getElem_cons_succ, Act.put, List.setIfInBounds_toArray, List.set_cons_zero, List.set_cons_succ])
        refine wpL.done (by kernel_rfl) ?_ _
        refine HK13.out _ _ ?_
        generalize World.setCell _ (⟨k, 1, none⟩ : Addr) _ = w12 at *
        clear hHeld t0 t1 t3 tz tl v0 v1 vz vl z0
        (repeat' (first | go_values | go_skip | go_guarded | go_step | go_upon | go_back | dsimp only))
        have h14 := H13.out.perm (show _ = Both (CellT (kf + 1) #[.nilIface] tErr) (Both (CellT k (fmCells b ef { f with made := f.made ++ [Q.2.2.1], held := [] } (.slice (some ⟨bg, 0, none⟩) 0 cp) (.slice ao1 ((mz f.made).length + 1) cp1)) tFm) (Both (RowG tSx 1 (.slice (some ⟨bg, 0, none⟩) 0 cp) 0 []) (Both (RowG tInt 1 (.slice ao1 ((mz f.made).length + 1) cp1) ((mz f.made).length + 1) (intsV (mz f.made) ++ [.int .i64 Q.2.2.1])) (Both (CellT kf #[.pointer (some ⟨k, 0, none⟩)] tPF) (Both (CellT kw #[.pointer (some ⟨kx, 0, none⟩)] tPW) (Both (WrT kx b ef Q.2.1) (Both (StoreT b Q.1) R))))))) by show Both (CellT k (fmCells b ef { f with made := f.made ++ [Q.2.2.1], held := [] } (.slice (some ⟨bg, 0, none⟩) 0 cp) (.slice ao1 ((mz f.made).length + 1) cp1)) tFm) _ = _; ac_rfl)
        have h15 := h14.setCell ((CellT.stable _ _ _).both ((RowG.stable _ _ _ _ _).both ((RowG.stable _ _ _ _ _).both ((CellT.stable _ _ _).both ((CellT.stable _ _ _).both ((WrT.stable _ _ _ _).both ((StoreT.stable _ _).both HR.out))))))) 0 .nilIface
        have HE := Lib.hid h15
        have r0 := cell_at h15.cell.1 0
        simp only [List.getElem?_toArray, List.getElem?_cons_zero, List.setIfInBounds_toArray, List.set_cons_zero] at r0
        refine leaves_cons (f := 78) (args := #[.pointer (some ⟨kf + 1, 0, none⟩), .pointer (some ⟨kw, 0, none⟩), .pointer (some ⟨kf, 0, none⟩)]) (by simp) (by simp [go_sem]) ?_
        refine (write1_ok h15 _ _).mono ?_
        rintro e u' w'' ⟨rfl, rfl, rfl⟩
        refine ⟨.nilIface, ?_, ?_⟩
        · simp [results, Tryz.results57, go_sem, r0]
        · rw [HGOOD.out]
          refine ⟨rfl, At.toFo (hs := []) (f := { f with made := f.made ++ [Q.2.2.1], held := [] }) (fun _ => rfl) (bv := .slice (some ⟨bg, 0, none⟩) 0 cp) (mv := .slice ao1 ((mz f.made).length + 1) cp1) ?_⟩
          have e1 : mz (f.made ++ [Q.2.2.1]) = mz f.made ++ [(Q.2.2.1 : Int)] := by simp [mz]
          have e2 : RowG tInt 1 (.slice ao1 ((mz f.made).length + 1) cp1) ((mz f.made).length + 1) (intsV (mz f.made) ++ [.int .i64 Q.2.2.1]) = RowT (.slice ao1 ((mz f.made).length + 1) cp1) (mz (f.made ++ [Q.2.2.1])) := by
            funext w fp
            unfold RowT RowG
            rw [e1]
            simp only [List.length_append, List.length_cons, List.length_nil, intsV, List.map_append, List.map_cons, List.map_nil, Nat.zero_add]
          have h16 := HE.out
          rw [e2] at h16
          exact (h16.perm (show _ = Both (CellT (kf + 1) #[.nilIface] tErr) (Both (CellT kf #[.pointer (some ⟨k, 0, none⟩)] tPF) (Both (CellT kw #[.pointer (some ⟨kx, 0, none⟩)] tPW) (Both (WrT kx b ef Q.2.1) (Both (FoI k b ef { f with made := f.made ++ [Q.2.2.1], held := [] } (.slice (some ⟨bg, 0, none⟩) 0 cp) [] (.slice ao1 ((mz f.made).length + 1) cp1)) (Both (StoreT b Q.1) R))))) by unfold FoI; show Both (CellT (kf + 1) #[.nilIface] tErr) _ = _; simp only [strs, List.map_nil, List.length_nil]; ac_rfl)).drop.drop.drop.drop
      · rcases hct with ⟨k1, _⟩ | ⟨_, ⟨t2, k2⟩, k3, k4, k5, k6⟩
        · exact absurd k1 hz2
        have hbad := fwrite_bad (S := S) (f := f) (r := ((dropP Q.1 Q.2.1).1, 0, Q.2.2.2)) (by
          unfold writtenP
          rw [if_neg (by simpa using hc)]
          dsimp only
          rw [← HPE.out, if_neg (by simpa using HPZ.out), ← hQ, if_pos hz2]) hz2
        dsimp only at hbad
        obtain ⟨d1, d2, d3⟩ := dropP_top k2 k3 (by rw [k4]; exact k6)
        have hmd : S.made ≤ (dropP Q.1 Q.2.1).1.made := by rw [d3]; omega
        have HBAD := Lib.hid hbad
        have HD2 := Lib.hid d2
        have HMD2 := Lib.hid hmd
        have hep := errV_pos ef hz2
        have HEP := Lib.hid hep
        have HCN := Lib.hid hz2
        have hokd : okC Q.2.1.dead := by rw [k4]; exact k5
        have HOK := Lib.hid hokd
        have hrq : inI64 Q.2.1.run := by rw [k3, ← HRU.out]; exact HPR.out
        have HGX := Lib.hid hcgd
        have HPRX := Lib.hid hrq
        rw [hep] at hcl
        have HCL := Lib.hid hcl
        have neqi := run_neq_iface_nil2 ⟨(ef Q.2.2.2).1, (ef Q.2.2.2).2, none⟩
        clear hcl hcgd hcmd hQ hz2 k2 k3 k4 k5 k6 d1 d2 d3 hmd hbad hep hokd hrq
        refine HCL.out.mono ?_
        rintro e w7 ⟨rfl, h10⟩
        have h11 := h10.perm (show _ = Both (BwT (kf + 1) kf k b ef f .nilIface (.slice (some ⟨bg, 0, none⟩) f.held.length cp) L2 mv) (Both (CellT kw #[.pointer (some ⟨kx, 0, none⟩)] tPW) (Both (WrT kx b ef Q.2.1) (Both (StoreT b Q.1) R))) by ac_rfl)
        have H11 := Lib.hid h11
        obtain ⟨e0, ez, el, f0, fl, c0, c1, c3, cz, cl⟩ := h11.bw
        clear h10 h11 HCL H9
        (repeat' (first | go_values | go_skip | go_guarded | go_step | go_upon | go_back | dsimp only))
        have he : At W _ (Both (CellT (kf + 1) #[errV ef Q.2.2.2] tErr) (Both (CellT kf #[.pointer (some ⟨k, 0, none⟩)] tPF) (Both (FoI k b ef f (.slice (some ⟨bg, 0, none⟩) f.held.length cp) L2 mv) (Both (CellT kw #[.pointer (some ⟨kx, 0, none⟩)] tPW) (Both (WrT kx b ef Q.2.1) (Both (StoreT b Q.1) R)))))) := (H11.out.perm (show _ = Both (CellT (kf + 1) #[.nilIface] tErr) (Both (CellT kf #[.pointer (some ⟨k, 0, none⟩)] tPF) (Both (FoI k b ef f (.slice (some ⟨bg, 0, none⟩) f.held.length cp) L2 mv) (Both (CellT kw #[.pointer (some ⟨kx, 0, none⟩)] tPW) (Both (WrT kx b ef Q.2.1) (Both (StoreT b Q.1) R))))) by unfold BwT FoI; ac_rfl)).setCell ((CellT.stable _ _ _).both ((FoI.stable _ _ _ _ _ _ _).both ((CellT.stable _ _ _).both ((WrT.stable _ _ _ _).both ((StoreT.stable _ _).both HR.out))))) 0 (errV ef Q.2.2.2)
        have he : At W _ (Both (CellT (kf + 1) #[errV ef Q.2.2.2] tErr) (Both (CellT kf #[.pointer (some ⟨k, 0, none⟩)] tPF) (Both (FoI k b ef f (.slice (some ⟨bg, 0, none⟩) f.held.length cp) L2 mv) (Both (CellT kw #[.pointer (some ⟨kx, 0, none⟩)] tPW) (Both (WrT kx b ef Q.2.1) (Both (StoreT b Q.1) R)))))) := he.setCell ((CellT.stable _ _ _).both ((FoI.stable _ _ _ _ _ _ _).both ((CellT.stable _ _ _).both ((WrT.stable _ _ _ _).both ((StoreT.stable _ _).both HR.out))))) 0 (errV ef Q.2.2.2)
        rw [HEP.out] at he
        clear e0 ez el f0 fl c0 c1 c3 cz cl
        generalize (w7.setCell _ _).setCell _ _ = w8 at *
        rw [← HEP.out] at he
        have hx8 := At.toFo (f := { f with held := L2 }) (fun _ => rfl) (he.perm (show _ = Both (FoI k b ef f (.slice (some ⟨bg, 0, none⟩) f.held.length cp) L2 mv) (Both (CellT (kf + 1) #[errV ef Q.2.2.2] tErr) (Both (CellT kw #[.pointer (some ⟨kx, 0, none⟩)] tPW) (Both (CellT kf #[.pointer (some ⟨k, 0, none⟩)] tPF) (Both (WrT kx b ef Q.2.1) (Both (StoreT b Q.1) R))))) by unfold FoI; ac_rfl))
        refine leaves_cons (f := 78) (args := #[.pointer (some ⟨kf + 1, 0, none⟩), .pointer (some ⟨kw, 0, none⟩), .pointer (some ⟨kf, 0, none⟩)]) (by simp) (by simp [go_sem]) ?_
        refine (write1_live (f := { f with held := L2 }) (c := Q.2.2.2) (x := Q.2.1) (S := Q.1) (hx8.perm (by ac_rfl)) HR.out HF.out HGX.out HPRX.out HOK.out HD2.out (fun n hn => Nat.le_trans (HM.out n hn) HMD2.out) HCN.out).mono ?_
        rintro e u' w'' ⟨rfl, rfl, hend⟩
        have r0 := cell_at hend.cell.1 0
        simp only [List.getElem?_toArray, List.getElem?_cons_zero] at r0
        refine ⟨errV ef Q.2.2.2, ?_, ?_⟩
        · simp [results, Tryz.results57, go_sem, r0]
        · rw [HBAD.out]
          exact ⟨rfl, At.foAny (f := ⟨L2, f.most, [], Q.2.2.2⟩) hend.drop.drop.drop HCN.out f.held⟩
    · have hbad := fwrite_bad (S := S) (f := f) (r := ((dropP P.1 P.2.1).1, 0, P.2.2)) (by
        unfold writtenP
        rw [if_neg (by simpa using hc)]
        dsimp only
        rw [← hP, if_pos hz]) hz
      dsimp only at hbad
      obtain ⟨d1, d2, d3⟩ := dropP_top p1 p2 (by rw [p5]; exact p7)
      have hmd : S.made ≤ (dropP P.1 P.2.1).1.made := by rw [d3]; omega
      have HBAD := Lib.hid hbad
      have HD2 := Lib.hid d2
      have HMD2 := Lib.hid hmd
      have hep := errV_pos ef hz
      have HEP := Lib.hid hep
      have HCN := Lib.hid hz
      have hokd : okC P.2.1.dead := by rw [p5]; exact p6
      have HOK := Lib.hid hokd
      rw [hep] at HPU
      have neqi := run_neq_iface_nil2 ⟨(ef P.2.2).1, (ef P.2.2).2, none⟩
      clear p1 p2 p3 p4 p5 p6 p7 hmade hrunz hz hP d1 d2 d3 hmd hbad hep hokd hfw
      go_region_held3 (fun wx => wx.cell? ⟨kw, 0, none⟩ = some (.pointer (some ⟨kx, 0, none⟩)) ∧ wx.cell? ⟨kf, 0, none⟩ = some (.pointer (some ⟨k, 0, none⟩)) ∧ wx.cell? ⟨k, 1, none⟩ = some (.slice (some ⟨bg, 0, none⟩) f.held.length cp)) (first | assumption | go_keep) ((first
        | (go_at_call 81; (refine Calls.mono (HPU.out _ _ _ H7.out HRD.out) ?_); rintro e w6 ⟨rfl, h8⟩; have h9 := (h8.perm (show _ = Both (BwT (kf + 1) kf k b ef f .nilIface (.slice (some ⟨bg, 0, none⟩) f.held.length cp) L2 mv) (Both (CellT kw #[.pointer (some ⟨kx, 0, none⟩)] tPW) (Both (WrT kx b ef P.2.1) (Both (StoreT b P.1) R))) by ac_rfl)); have cg8 := And.intro (cell_at h9.drop.cell.1 0) (And.intro h9.bw.f0 h9.bw.c1); have hl8 := h9.bw.cl; have H9 := Lib.hid h9; clear h8 h9)
        | (go_at_call 82; (refine Calls.mono (HCO.out _ (by exact ⟨rfl, rfl, rfl, Nat.le_refl _, fun _ _ => rfl⟩)) ?_); rintro e w5 ⟨v5, L2, rfl, hl2, hrd2, h7⟩; rw [HCS.out] at hrd2; have h7a := (h7.perm (show _ = Both (BwT (kf + 1) kf k b ef f .nilIface (.slice (some ⟨bg, 0, none⟩) f.held.length cp) L2 mv) (Both (CellT kw #[.pointer (some ⟨kx, 0, none⟩)] tPW) (Both (WrT kx b ef ⟨(createP S).2.1, 512, [], 0⟩) (Both (StoreT b (createP S).1) R))) by unfold BwT; ac_rfl)); have cg7 := And.intro (cell_at h7a.drop.cell.1 0) (And.intro h7a.bw.f0 h7a.bw.c1); have hl7 := h7a.bw.cl; have H7 := Lib.hid h7a; have HRD := Lib.hid hrd2; have HL2 := Lib.hid hl2; clear h7 h7a hrd2 hl2)))
      clear cg8 hcg cg7 hl8 hl7 H7 HCO HPU HRD
      all_goals (try clear e0 ez el f0 fl c0 c1 c3 cz cl k0 kl)
      obtain ⟨e0, ez, el, f0, fl, c0, c1, c3, cz, cl⟩ := H9.out.bw
      (repeat' (first | go_values | go_skip | go_guarded | go_step | go_upon | go_back | dsimp only))
      have he : At W _ (Both (CellT (kf + 1) #[errV ef P.2.2] tErr) (Both (CellT kf #[.pointer (some ⟨k, 0, none⟩)] tPF) (Both (FoI k b ef f (.slice (some ⟨bg, 0, none⟩) f.held.length cp) L2 mv) (Both (CellT kw #[.pointer (some ⟨kx, 0, none⟩)] tPW) (Both (WrT kx b ef P.2.1) (Both (StoreT b P.1) R)))))) := (H9.out.perm (show _ = Both (CellT (kf + 1) #[.nilIface] tErr) (Both (CellT kf #[.pointer (some ⟨k, 0, none⟩)] tPF) (Both (FoI k b ef f (.slice (some ⟨bg, 0, none⟩) f.held.length cp) L2 mv) (Both (CellT kw #[.pointer (some ⟨kx, 0, none⟩)] tPW) (Both (WrT kx b ef P.2.1) (Both (StoreT b P.1) R))))) by unfold BwT FoI; ac_rfl)).setCell ((CellT.stable _ _ _).both ((FoI.stable _ _ _ _ _ _ _).both ((CellT.stable _ _ _).both ((WrT.stable _ _ _ _).both ((StoreT.stable _ _).both HR.out))))) 0 (errV ef P.2.2)
      rw [HEP.out] at he
      clear e0 ez el f0 fl c0 c1 c3 cz cl
      generalize w6.setCell _ _ = w7 at *
      rw [← HEP.out] at he
      have HGX := HPG
      have HPRX := HPR
      have hx8 := At.toFo (f := { f with held := L2 }) (fun _ => rfl) (he.perm (show _ = Both (FoI k b ef f (.slice (some ⟨bg, 0, none⟩) f.held.length cp) L2 mv) (Both (CellT (kf + 1) #[errV ef P.2.2] tErr) (Both (CellT kw #[.pointer (some ⟨kx, 0, none⟩)] tPW) (Both (CellT kf #[.pointer (some ⟨k, 0, none⟩)] tPF) (Both (WrT kx b ef P.2.1) (Both (StoreT b P.1) R))))) by unfold FoI; ac_rfl))
      refine leaves_cons (f := 78) (args := #[.pointer (some ⟨kf + 1, 0, none⟩), .pointer (some ⟨kw, 0, none⟩), .pointer (some ⟨kf, 0, none⟩)]) (by simp) (by simp [go_sem]) ?_
      refine (write1_live (f := { f with held := L2 }) (c := P.2.2) (x := P.2.1) (S := P.1) (hx8.perm (by ac_rfl)) HR.out HF.out HGX.out HPRX.out HOK.out HD2.out (fun n hn => Nat.le_trans (HM.out n hn) HMD2.out) HCN.out).mono ?_
      rintro e u' w'' ⟨rfl, rfl, hend⟩
      have r0 := cell_at hend.cell.1 0
      simp only [List.getElem?_toArray, List.getElem?_cons_zero] at r0
      refine ⟨errV ef P.2.2, ?_, ?_⟩
      · simp [results, Tryz.results57, go_sem, r0]
      · rw [HBAD.out]
        exact ⟨rfl, At.foAny (f := ⟨L2, f.most, [], P.2.2⟩) hend.drop.drop.drop HCN.out f.held⟩
  · refine (Open_fail (H3.out.perm (show _ = Both (StoreT b S) (Both (BwT (kf + 1) kf k b ef f .nilIface (.slice (some ⟨bg, 0, none⟩) f.held.length cp) L1 mv) R) by ac_rfl)) ((BwT.stable _ _ _ _ _ _ _ _ _ _).both HR.out) HF.out (n := 512) (by omega) hc).mono ?_
    rintro e w3 ⟨rfl, h4⟩
    have hbad := fwrite_bad (S := S) (f := f) (r := ((createP S).1, 0, (createP S).2.2)) (by unfold writtenP; rw [if_pos hc]) hc
    dsimp only at hbad
    have hep := errV_pos ef hc
    have HEP := Lib.hid hep
    have HCN := Lib.hid hc
    have HBAD := Lib.hid hbad
    rw [hep]
    have h5 : At W _ (Both (CellT (kf + 1) #[errV ef (createP S).2.2] tErr) (Both (CellT kf #[.pointer (some ⟨k, 0, none⟩)] tPF) (Both (FoI k b ef f (.slice (some ⟨bg, 0, none⟩) f.held.length cp) L1 mv) (Both (StoreT b (createP S).1) R)))) := (h4.perm (show _ = Both (CellT (kf + 1) #[.nilIface] tErr) (Both (CellT kf #[.pointer (some ⟨k, 0, none⟩)] tPF) (Both (FoI k b ef f (.slice (some ⟨bg, 0, none⟩) f.held.length cp) L1 mv) (Both (StoreT b (createP S).1) R))) by unfold BwT FoI; ac_rfl)).setCell ((CellT.stable _ _ _).both ((FoI.stable _ _ _ _ _ _ _).both ((StoreT.stable _ _).both HR.out))) 0 (errV ef (createP S).2.2)
    have h5 : At W _ (Both (CellT (kf + 1) #[errV ef (createP S).2.2] tErr) (Both (CellT kf #[.pointer (some ⟨k, 0, none⟩)] tPF) (Both (FoI k b ef f (.slice (some ⟨bg, 0, none⟩) f.held.length cp) L1 mv) (Both (StoreT b (createP S).1) R)))) := h5.setCell ((CellT.stable _ _ _).both ((FoI.stable _ _ _ _ _ _ _).both ((StoreT.stable _ _).both HR.out))) 0 (errV ef (createP S).2.2)
    have h6 := h5.newCell ((CellT.stable _ _ _).both ((CellT.stable _ _ _).both ((FoI.stable _ _ _ _ _ _ _).both ((StoreT.stable _ _).both HR.out)))) #[.pointer none] tPW
    have hsz : ((w3.setCell ⟨kf + 1, 0, none⟩ (errV ef (createP S).2.2)).setCell ⟨kf + 1, 0, none⟩ (errV ef (createP S).2.2)).heap.size = w3.heap.size := by simp
    rw [hsz] at h6
    rw [hep] at h6
    clear e0 ez el f0 fl c0 c1 c3 cz cl
    obtain ⟨e0, ez, el, f0, fl, c0, c1, c3, cz, cl⟩ := h4.drop.bw
    have hgs : GoodS (createP S).1 ∧ S.made ≤ (createP S).1.made := ⟨HG.out.create, by rcases made_create S with h | h <;> omega⟩
    have HGS := Lib.hid hgs
    have H6 := Lib.hid h6
    generalize (createP S).1 = S1 at *
    generalize (createP S).2.2 = cc at *
    generalize hec : ef cc = ec at *
    have HEC := Lib.hid hec
    have neqi := run_neq_iface_nil2 ⟨ec.1, ec.2, none⟩
    clear h4 h5 h6 H3 hbad hep hc hec hsz hgs
    (repeat' (first | go_values | go_skip | go_guarded | go_step | go_upon | go_back | dsimp only))
    clear e0 ez el f0 fl c0 c1 c3 cz cl
    generalize ((w3.setCell _ _).setCell _ _).alloc _ = w4 at *
    generalize w3.heap.size = kw at *
    have h7 := H6.out
    rw [← HEP.out] at h7
    refine leaves_cons (f := 78) (args := #[.pointer (some ⟨kf + 1, 0, none⟩), .pointer (some ⟨kw, 0, none⟩), .pointer (some ⟨kf, 0, none⟩)]) (by simp) (by simp [go_sem]) ?_
    have h8 := At.toFo (f := { f with held := L1 }) (fun _ => rfl) (h7.perm (show _ = Both (FoI k b ef f (.slice (some ⟨bg, 0, none⟩) f.held.length cp) L1 mv) (Both (CellT (kf + 1) #[errV ef cc] tErr) (Both (CellT kw #[.pointer none] tPW) (Both (CellT kf #[.pointer (some ⟨k, 0, none⟩)] tPF) (Both (StoreT b S1) R)))) by ac_rfl))
    refine (write1_nil (f := { f with held := L1 }) (c := cc) (h8.perm (show _ = Both (CellT (kf + 1) #[errV ef cc] tErr) (Both (CellT kw #[.pointer none] tPW) (Both (CellT kf #[.pointer (some ⟨k, 0, none⟩)] tPF) (Both (FoT k b ef { f with held := L1 }) (Both (StoreT b S1) R)))) by ac_rfl)) HR.out HF.out HGS.out.1 (fun n hn => Nat.le_trans (HM.out n hn) HGS.out.2) HCN.out).mono ?_
    rintro e u' w'' ⟨rfl, rfl, hend⟩
    have r0 := cell_at hend.cell.1 0
    simp only [List.getElem?_toArray, List.getElem?_cons_zero] at r0
    refine ⟨errV ef cc, ?_, ?_⟩
    · simp [results, Tryz.results57, go_sem, r0]
    · rw [HBAD.out]
      exact ⟨rfl, At.foAny (f := ⟨L1, f.most, [], cc⟩) hend.drop.drop.drop HCN.out f.held⟩
end
theorem info_Sx : (Tryz.prog.info? tSx).map (fun i => (i.zero, i.size, i.bytes)) = some (some (.string ⟨#[]⟩), 1, 16) := by kernel_rfl
theorem fits_at {ws : List (List UInt8)} (h : fits ws = true) {i : Nat} {x : List UInt8} (hx : ws[i]? = some x) : x.length ≤ 255 := fits_mem.1 h x (List.mem_of_getElem? hx)
theorem fits_no {ws : List (List UInt8)} (h : fits ws = false) : ∃ (i : Nat) (x : List UInt8), ws[i]? = some x ∧ 255 < x.length := by
  apply Classical.byContradiction
  intro hn
  have : fits ws = true := fits_mem.2 fun r hr => by
    obtain ⟨i, hi⟩ := List.mem_iff_getElem?.1 hr
    apply Classical.byContradiction
    intro h2
    exact hn ⟨i, r, hi, by omega⟩
  rw [this] at h
  cases h
theorem addL_nil (S : St) (f : FmD) : addL S f [] = (S, f, 0) := by rw [addL]
section
variable {W w : World} {R : Thing} {k b : Nat} {ef : Nat → Nat × Nat} {S : St} {f : FmD} {ws : List (List UInt8)} {v : Value}
set_option maxRecDepth 100000 in
set_option maxHeartbeats 6400000 in
theorem Add_at (h : At W w (Both (FoT k b ef f) (Both (StoreT b S) R))) (hR : Stable R) (hF : Fails W ef fails11) (hG : GoodS S) (hS : Sealed S) (hO : FOk S f) (hv : ∃ ao cp, v = .slice ao ws.length cp ∧ ws.length ≤ 1099511627776) (hx : ∀ x ∈ ws, x.length ≤ 1099511627776) (hrd : ∀ w', At W w' R → RdRow w' v ws.length 1 (strs ws)) :
    Calls Tryz.prog 33 #[.pointer (some ⟨k, 0, none⟩), v] w fun e w' => e = .returned (errV ef (addP S f ws).2.2) ∧ At W w' (Both (FoT k b ef (addP S f ws).2.1) (Both (StoreT b (addP S f ws).1) R)) := by
  obtain ⟨av, cv, rfl, hlen⟩ := hv
  have HS := Lib.hid (fmState_calls h)
  have H := Lib.hid h
  have HR := Lib.hid hR
  have HF := Lib.hid hF
  have HRD := Lib.hid hrd
  have HX := Lib.hid hx
  obtain ⟨res, hres⟩ : ∃ res, res = addP S f ws := ⟨_, rfl⟩
  rw [← hres]
  unfold addP at hres
  by_cases hd : f.dead = 0
  · rw [if_neg (by simpa using hd)] at hres
    rw [hd, errV_zero] at HS
    have neqn : ∀ wz : World, (binOp .neq tErr .nilIface .nilIface).run Tryz.prog wz = .ok (.bool false) wz := fun wz => neq_nil wz
    have HG := Lib.hid hG
    have HSE := Lib.hid hS
    have HO := Lib.hid hO
    have HD := Lib.hid hd
    by_cases hfit : fits ws = false
    · rw [if_pos hfit] at hres
      have HRES := Lib.hid hres
      have HFI := Lib.hid hfit
      have cg : ∀ w', Below W.heap.size W w' → w'.cell? ⟨8, 0, none⟩ = some (.iface tES (.pointer (some ⟨(ef 10).1, (ef 10).2, none⟩))) := fun w' hb => (hF.below hb).cell (10, 8) (by decide)
      have HCG := Lib.hid cg
      clear h hR hF hG hS hO hrd hx hres hfit hd cg
      go_enter Tryz.func33, Tryz.ntmps33
      (repeat' (first | go_values | go_skip | go_guarded | go_step | go_upon | go_back | dsimp only))
      refine HS.out.mono ?_
      rintro e w1 ⟨rfl, rfl⟩
      (repeat' (first | go_values | go_skip | go_guarded | go_step | go_upon | go_back | dsimp only))
      go_loopw [18] (fun vi wr => ∃ (i : Nat), vi = .int .i64 i ∧ i ≤ ws.length ∧ (∀ (j : Nat) x, j < i → ws[j]? = some x → x.length ≤ 255) ∧ At W wr (Both (FoT k b ef f) (Both (StoreT b S) R))) (fun vi _ => ws.length - (intOf vi).toNat)
      case atStart => exact ⟨0, rfl, Nat.zero_le _, fun j x hj => absurd hj (Nat.not_lt_zero _), H.out⟩
      case round =>
        obtain ⟨i, rfl, hi, hsm, h1⟩ := hrel
        have H1 := Lib.hid h1
        have HSM := Lib.hid hsm
        by_cases hlt : i < ws.length
        · obtain ⟨x, hxx⟩ : ∃ x, ws[i]? = some x := ⟨_, List.getElem?_eq_getElem hlt⟩
          obtain ⟨gb, off, cap', hsl, hcell⟩ := (HRD.out _ h1.drop.drop).str hxx
          simp only [Value.slice.injEq] at hsl
          obtain ⟨hao, _, hcv⟩ := hsl
          subst hao
          subst hcv
          have hxl := HX.out x (List.mem_of_getElem? hxx)
          have hi0 : (0 : Int) ≤ i := by omega
          have hi1 : (i : Int) < ws.length := by omega
          have hwr : IntKind.i64.wrap ((i : Int) + 1) = ((i + 1 : Nat) : Int) := by rw [IntKind.wrap_i64] <;> omega
          by_cases hbig : 255 < x.length
          · have hb1 : (255 : Int) < x.length := by omega
            have hcg := HCG.out _ h1.below
            have e10 := errV_pos ef (show (10 : Nat) ≠ 0 by decide)
            have HE10 := Lib.hid e10
            clear h1 hsm hxx e10
            (repeat' (first | go_values | go_skip | go_guarded | go_step | go_upon | go_back | dsimp only))
            go_ret
            rw [HRES.out]
            dsimp only
            rw [HE10.out]
            exact ⟨rfl, H1.out⟩
          · have hb1 : ¬ (255 : Int) < x.length := by omega
            have HXX := Lib.hid hxx
            have HBG := Lib.hid hbig
            clear h1 hsm hxx hbig
            (repeat' (first | go_values | go_skip | go_guarded | go_step | go_upon | go_back | dsimp only))
            go_roundw
            case rel => exact ⟨i + 1, rfl, hlt, fun j y hj hy => by
              rcases Nat.lt_or_ge j i with h2 | h2
              · exact HSM.out j y h2 hy
              · have : j = i := by omega
                subst this
                rw [HXX.out] at hy
                cases hy
                have := HBG.out
                omega, H1.out⟩
            case measure => simp [intOf]; omega
        · exfalso
          obtain ⟨j, x, hj, hbx⟩ := fits_no HFI.out
          have h2 := (List.getElem?_eq_some_iff.1 hj).1
          have := hsm j x (by omega) hj
          omega
    · have hft : fits ws = true := by simpa using hfit
      rw [if_neg hfit] at hres
      have HRES := Lib.hid hres
      have HFI := Lib.hid hft
      clear h hR hF hG hS hO hrd hx hres hfit hft hd
      go_enter Tryz.func33, Tryz.ntmps33
      (repeat' (first | go_values | go_skip | go_guarded | go_step | go_upon | go_back | dsimp only))
      refine HS.out.mono ?_
      rintro e w1 ⟨rfl, rfl⟩
      (repeat' (first | go_values | go_skip | go_guarded | go_step | go_upon | go_back | dsimp only))
      go_loopw [18] (fun vi wr => ∃ (i : Nat), vi = .int .i64 i ∧ i ≤ ws.length ∧ At W wr (Both (FoT k b ef f) (Both (StoreT b S) R))) (fun vi _ => ws.length - (intOf vi).toNat)
      case atStart => exact ⟨0, rfl, Nat.zero_le _, H.out⟩
      case round =>
        obtain ⟨i, rfl, hi, h1⟩ := hrel
        have H1 := Lib.hid h1
        by_cases hlt : i < ws.length
        · obtain ⟨x, hxx⟩ : ∃ x, ws[i]? = some x := ⟨_, List.getElem?_eq_getElem hlt⟩
          obtain ⟨gb, off, cap', hsl, hcell⟩ := (HRD.out _ h1.drop.drop).str hxx
          simp only [Value.slice.injEq] at hsl
          obtain ⟨hao, _, hcv⟩ := hsl
          subst hao
          subst hcv
          have hxl := fits_at HFI.out hxx
          have hi0 : (0 : Int) ≤ i := by omega
          have hi1 : (i : Int) < ws.length := by omega
          have hwr : IntKind.i64.wrap ((i : Int) + 1) = ((i + 1 : Nat) : Int) := by rw [IntKind.wrap_i64] <;> omega
          have hb1 : ¬ (255 : Int) < x.length := by omega
          clear h1 hxx hxl
          (repeat' (first | go_values | go_skip | go_guarded | go_step | go_upon | go_back | dsimp only))
          go_roundw
          case rel => exact ⟨i + 1, rfl, hlt, H1.out⟩
          case measure => simp [intOf]; omega
        · have hi1 : ¬ (i : Int) < ws.length := by omega
          clear h1
          (repeat' (first | go_values | go_skip | go_guarded | go_step | go_upon | go_back | dsimp only))
          go_loopw [29] (fun vi wr => ∃ (i : Nat) (S1 : St) (f1 : FmD), vi = .int .i64 i ∧ i ≤ ws.length ∧ GoodS S1 ∧ Sealed S1 ∧ FOk S1 f1 ∧ f1.dead = 0 ∧ res = addL S1 f1 (ws.drop i) ∧ At W wr (Both (FoT k b ef f1) (Both (StoreT b S1) R))) (fun vi _ => ws.length - (intOf vi).toNat)
          case atStart => exact ⟨0, S, f, rfl, Nat.zero_le _, HG.out, HSE.out, HO.out, HD.out, HRES.out, H1.out⟩
          case round =>
            obtain ⟨i, S1, f1, rfl, hi, hg1, hs1, ho1, hd1, hr1, h1⟩ := hrel
            clear HRES H1 H HG HSE HO HD
            have HR1 := Lib.hid hr1
            have HG1 := Lib.hid hg1
            have HS1 := Lib.hid hs1
            have HO1 := Lib.hid ho1
            have HD1 := Lib.hid hd1
            by_cases hlt : i < ws.length
            · obtain ⟨x, hxx⟩ : ∃ x, ws[i]? = some x := ⟨_, List.getElem?_eq_getElem hlt⟩
              obtain ⟨gb, off, cap', hsl, hcell⟩ := (HRD.out _ h1.drop.drop).str hxx
              simp only [Value.slice.injEq] at hsl
              obtain ⟨hao, _, hcv⟩ := hsl
              subst hao
              subst hcv
              have hdr : ws.drop i = x :: ws.drop (i + 1) := by
                obtain ⟨h1, h2⟩ := List.getElem?_eq_some_iff.1 hxx
                rw [List.drop_eq_getElem_cons h1, h2]
              rw [hdr, addL_cons] at hr1
              have hxl := fits_at HFI.out hxx
              have hfx : fits (f1.held ++ [x]) = true := fits_append.2 ⟨ho1.fit, by simp [fits, hxl]⟩
              have HFX := Lib.hid hfx
              have hless := ho1.less hd1
              have hmost := ho1.most
              have hi0 : (0 : Int) ≤ i := by omega
              have hi1 : (i : Int) < ws.length := by omega
              have hwr : IntKind.i64.wrap ((i : Int) + 1) = ((i + 1 : Nat) : Int) := by rw [IntKind.wrap_i64] <;> omega
              obtain ⟨bv, hs, mv, hq, h1⟩ := h1.fo
              obtain rfl := hq hd1
              obtain ⟨bo, cp, hbv, hcp1, hcp2⟩ := own_shape h1.foHeld
              subst hbv
              have h2 := h1.perm (show _ = Both (RowG tSx 1 (.slice bo f1.held.length cp) f1.held.length (strs f1.held)) (Both (CellT k (fmCells b ef f1 (.slice bo f1.held.length cp) mv) tFm) (Both (RowT mv (mz f1.made)) (Both (StoreT b S1) R))) by unfold FoI; ac_rfl)
              have H2 := Lib.hid h2
              have c1 := cell_at h2.drop.cell.1 1
              have lk := lt_of_heap h2.drop.cell.1
              simp only [List.getElem?_toArray, List.getElem?_cons_zero, List.getElem?_cons_succ] at c1
              have hST : Stable (Both (CellT k (fmCells b ef f1 (.slice bo f1.held.length cp) mv) tFm) (Both (RowT mv (mz f1.made)) (Both (StoreT b S1) R))) := (CellT.stable _ _ _).both ((RowT.stable _ _).both ((StoreT.stable _ _).both HR.out))
              have HST := Lib.hid hST
              clear h1 h2 hxx hdr hxl hfx hq hg1 hs1 ho1 hd1 hST hcp1
              (repeat' (first | (go_big_may; ((at_builtin; go_must (refine wpList_append_to rfl _ _ 22 tSx rfl Tryz.underlying22 info_Sx rfl (by decide) rfl (H2.out) (HST.out) rfl (by first | rfl | simp) rfl (one_str _) (by unfold maxLen; omega) (by omega) ?_); intro a3 p3 w3 h3 _); have H3 := Lib.hid h3; obtain ⟨e1, e1f, e1l⟩ := h3.drop.cellF (o := 1) rfl; clear h3 c1 lk)) | go_values | go_skip | go_guarded | go_step | go_upon | go_back | dsimp only))
              have h4 := (H3.out.perm (show _ = Both (CellT k (fmCells b ef f1 (.slice bo f1.held.length cp) mv) tFm) (Both (RowG tSx 1 (.slice a3 (f1.held.length + 1) p3) (f1.held.length + 1) (strs f1.held ++ (#[Value.string ⟨x.toArray⟩] : Array Value).toList)) (Both (RowT mv (mz f1.made)) (Both (StoreT b S1) R))) by ac_rfl)).setCell ((RowG.stable _ _ _ _ _).both ((RowT.stable _ _).both ((StoreT.stable _ _).both HR.out))) 1 (.slice a3 (f1.held.length + 1) p3)
              have hstr : strs f1.held ++ (#[Value.string ⟨x.toArray⟩] : Array Value).toList = strs (f1.held ++ [x]) := by simp [strs]
              have hll : f1.held.length + 1 = (f1.held ++ [x]).length := by simp
              rw [hstr] at h4
              have h5 : At W _ (Both (FoI k b ef { f1 with held := f1.held ++ [x] } (.slice a3 (f1.held.length + 1) p3) (f1.held ++ [x]) mv) (Both (StoreT b S1) R)) :=
                h4.perm (show Both (CellT k (fmCells b ef { f1 with held := f1.held ++ [x] } (.slice a3 (f1.held.length + 1) p3) mv) tFm) _ = _ by unfold FoI; rw [← hll]; ac_rfl)
              have hF5 := h5.foF
              obtain ⟨_, g1, g2, _, _, _, gl⟩ := hF5
              have H5 := Lib.hid (At.toFo (f := { f1 with held := f1.held ++ [x] }) (fun _ => rfl) h5)
              clear h4 h5 hstr hll H2 H3 e1 e1f e1l HST
              generalize w3.setCell _ _ = w4 at *
              have HHL := Lib.hid (rfl : f1.held.length + 1 = f1.held.length + 1)
              generalize hn1 : f1.held.length + 1 = n1 at *
              dsimp only at g2
              by_cases hm : f1.most ≤ n1
              · have hqq : ((n1 : Int) == (f1.most : Int)) = true := beq_iff_eq.2 (by omega)
                rw [if_pos hm] at hr1
                have HN1 := Lib.hid hn1
                have hwc := fun (w' : World) (hb : Below w4.heap.size w4 w') => write_calls (H5.out.mono ((FoT.stable _ _ _ _).both ((StoreT.stable _ _).both HR.out)) hb) HR.out HF.out HG1.out HFX.out (by show (f1.held ++ [x]).length ≤ _; simp; omega) (by show f1.held ++ [x] ≠ []; simp) HD1.out HO1.out.made HO1.out.few
                obtain ⟨k1, k2, k3, k4, k5, k6⟩ := fwrite_keep (f := { f1 with held := f1.held ++ [x] }) HG1.out HS1.out HO1.out.most HFX.out HD1.out HO1.out.made HO1.out.few
                generalize fwriteP S1 { f1 with held := f1.held ++ [x] } = P at *
                by_cases hz : P.2.2 = 0
                · rw [if_pos hz] at hr1
                  rw [hz, errV_zero] at hwc
                  have HWC := Lib.hid hwc
                  have HK := Lib.hid k1
                  have HK2 := Lib.hid (k2.trans hz)
                  have HRR := Lib.hid hr1
                  clear hwc k1 k2 k3 k4 k5 k6 hr1 hn1 hz hm
                  (repeat' (first | go_values | go_skip | go_guarded | go_step | go_upon | go_back | dsimp only))
                  (refine region_still_tail 9 (by kernel_rfl) (by kernel_rfl) ?_; simp only [List.take_succ_cons, List.take_zero, List.drop_succ_cons, List.drop_zero]; (iterate 9 (first | ((with_reducible refine still_plain ?_ rfl ?_ ?_); rotate_left; (next => (go_simp; (try with_reducible rfl))); simp only [Act.put, List.setIfInBounds_toArray, List.set_cons_zero, List.set_cons_succ]) | ((with_reducible refine still_skip ?_ ?_); (next => (go_simp; done)); simp only [Act.put, List.setIfInBounds_toArray, List.set_cons_zero, List.set_cons_succ]) | ((with_reducible refine still_val ?_ ?_ ?_ ?_); rotate_left; (next => (go_simp; done)); (next => (go_simp; (try with_reducible rfl))); simp only [Act.put, List.setIfInBounds_toArray, List.set_cons_zero, List.set_cons_succ]))); (with_reducible refine wpStill_nil ?_))
                  (repeat' (first | go_values | go_skip | go_guarded | go_step | go_upon | go_back | dsimp only))
                  refine (HWC.out _ (Below.refl _ _).drew).mono ?_
                  rintro e w6 ⟨rfl, h6⟩
                  have H6 := Lib.hid h6
                  clear h6 HWC
                  (repeat' (first | go_values | go_skip | go_guarded | go_step | go_upon | go_back | dsimp only))
                  go_roundw
                  case rel => exact ⟨i + 1, P.1, P.2.1, rfl, hlt, HK.out.good, HK.out.seal_, HK.out.ok, HK2.out, HRR.out, H6.out⟩
                  case measure => simp [intOf]; omega
                · rw [if_neg hz] at hr1
                  have hep := errV_pos ef hz
                  rw [hep] at hwc
                  have HWC := Lib.hid hwc
                  have HEP := Lib.hid hep
                  have HRR := Lib.hid hr1
                  have neqi := run_neq_iface_nil2 ⟨(ef P.2.2).1, (ef P.2.2).2, none⟩
                  clear hwc k1 k2 k3 k4 k5 k6 hr1 hn1 hz hm hep
                  (repeat' (first | go_values | go_skip | go_guarded | go_step | go_upon | go_back | dsimp only))
                  (refine region_still_tail 9 (by kernel_rfl) (by kernel_rfl) ?_; simp only [List.take_succ_cons, List.take_zero, List.drop_succ_cons, List.drop_zero]; (iterate 9 (first | ((with_reducible refine still_plain ?_ rfl ?_ ?_); rotate_left; (next => (go_simp; (try with_reducible rfl))); simp only [Act.put, List.setIfInBounds_toArray, List.set_cons_zero, List.set_cons_succ]) | ((with_reducible refine still_skip ?_ ?_); (next => (go_simp; done)); simp only [Act.put, List.setIfInBounds_toArray, List.set_cons_zero, List.set_cons_succ]) | ((with_reducible refine still_val ?_ ?_ ?_ ?_); rotate_left; (next => (go_simp; done)); (next => (go_simp; (try with_reducible rfl))); simp only [Act.put, List.setIfInBounds_toArray, List.set_cons_zero, List.set_cons_succ]))); (with_reducible refine wpStill_nil ?_))
                  (repeat' (first | go_values | go_skip | go_guarded | go_step | go_upon | go_back | dsimp only))
                  refine (HWC.out _ (Below.refl _ _).drew).mono ?_
                  rintro e w6 ⟨rfl, h6⟩
                  have H6 := Lib.hid h6
                  clear h6 HWC
                  (repeat' (first | go_values | go_skip | go_guarded | go_step | go_upon | go_back | dsimp only))
                  go_ret
                  rw [HRR.out, HEP.out]
                  exact ⟨rfl, H6.out⟩
              · have hqq : ((n1 : Int) == (f1.most : Int)) = false := beq_eq_false_iff_ne.2 (by omega)
                rw [if_neg hm] at hr1
                have HRR := Lib.hid hr1
                have HM := Lib.hid hm
                have HN1 := Lib.hid hn1
                clear hr1 hn1 hm
                (repeat' (first | go_values | go_skip | go_guarded | go_step | go_upon | go_back | dsimp only))
                (refine region_still_tail 9 (by kernel_rfl) (by kernel_rfl) ?_; simp only [List.take_succ_cons, List.take_zero, List.drop_succ_cons, List.drop_zero]; (iterate 9 (first | ((with_reducible refine still_plain ?_ rfl ?_ ?_); rotate_left; (next => (go_simp; (try with_reducible rfl))); simp only [Act.put, List.setIfInBounds_toArray, List.set_cons_zero, List.set_cons_succ]) | ((with_reducible refine still_skip ?_ ?_); (next => (go_simp; done)); simp only [Act.put, List.setIfInBounds_toArray, List.set_cons_zero, List.set_cons_succ]) | ((with_reducible refine still_val ?_ ?_ ?_ ?_); rotate_left; (next => (go_simp; done)); (next => (go_simp; (try with_reducible rfl))); simp only [Act.put, List.setIfInBounds_toArray, List.set_cons_zero, List.set_cons_succ]))); (with_reducible refine wpStill_nil ?_))
                (repeat' (first | go_values | go_skip | go_guarded | go_step | go_upon | go_back | dsimp only))
                go_roundw
                case rel => exact ⟨i + 1, S1, { f1 with held := f1.held ++ [x] }, rfl, hlt, HG1.out, HS1.out, ⟨HO1.out.most, fun _ => by show (f1.held ++ [x]).length < f1.most; have := HM.out; have := HN1.out; simp; omega, HFX.out, HO1.out.code, HO1.out.made, HO1.out.few⟩, HD1.out, HRR.out, H5.out.mono ((FoT.stable _ _ _ _).both ((StoreT.stable _ _).both HR.out)) (Below.refl _ _).drew⟩
                case measure => simp [intOf]; omega
            · have hi1 : ¬ (i : Int) < ws.length := by omega
              have hdn : ws.drop i = [] := List.drop_eq_nil_of_le (by omega)
              rw [hdn, addL_nil] at hr1
              have HRR := Lib.hid hr1
              have H1 := Lib.hid h1
              clear h1 hr1 hdn hg1 hs1 ho1 hd1
              (repeat' (first | go_values | go_skip | go_guarded | go_step | go_upon | go_back | dsimp only))
              go_ret
              rw [HRR.out]
              dsimp only
              rw [errV_zero]
              exact ⟨rfl, H1.out⟩
  · rw [if_pos hd] at hres
    have hep := errV_pos ef hd
    rw [hep] at HS
    have HRES := Lib.hid hres
    have HEP := Lib.hid hep
    have neqi := run_neq_iface_nil2 ⟨(ef f.dead).1, (ef f.dead).2, none⟩
    clear h hR hF hG hS hO hrd hx hres hd hep
    go_enter Tryz.func33, Tryz.ntmps33
    (repeat' (first | go_values | go_skip | go_guarded | go_step | go_upon | go_back | dsimp only))
    refine HS.out.mono ?_
    rintro e w1 ⟨rfl, rfl⟩
    (repeat' (first | go_values | go_skip | go_guarded | go_step | go_upon | go_back | dsimp only))
    go_ret
    rw [HRES.out]
    dsimp only
    rw [HEP.out]
    exact ⟨rfl, H.out⟩
end
def newF (n : Nat) : FmD := ⟨[], n, [], 0⟩
theorem newF_ok (S : St) {n : Nat} (hn : 1 ≤ n ∧ n ≤ 65536) : FOk S (newF n) := ⟨hn, fun _ => hn.1, rfl, okC_zero, fun _ h => (by cases h), Nat.zero_le _⟩
section
variable {W w : World} {R : Thing} {k b : Nat} {ef : Nat → Nat × Nat} {S : St} {f : FmD}
set_option maxRecDepth 100000 in
set_option maxHeartbeats 1600000 in
theorem FNew_at (h : At W w R) (hR : Stable R) {n : Nat} (hn : 1 ≤ n ∧ n ≤ 65536) :
    Calls Tryz.prog 31 #[.pointer (some ⟨b, 0, none⟩), .int .i64 n] w fun e w' => ∃ k, e = .returned (.tuple #[.pointer (some ⟨k, 0, none⟩), .nilIface]) ∧ At W w' (Both (FoT k b ef (newF n)) R) := by
  have h1 : ¬ (n : Int) < 1 := by omega
  have h2 : ¬ 65536 < (n : Int) := by omega
  have h3 := h.newCell hR (fmCells b ef (newF n) (.slice none 0 0) (.slice none 0 0)) tFm
  have h4 := (h3.noRow ((CellT.stable _ _ _).both hR)).noRowG ((RowT.stable _ _).both ((CellT.stable _ _ _).both hR)) tSx 1
  have h5 := At.toFo (b := b) (ef := ef) (f := newF n) (hs := []) (fun _ => rfl) (h4.perm (show _ = Both (FoI w.heap.size b ef (newF n) (.slice none 0 0) [] (.slice none 0 0)) R by unfold FoI; show Both (RowG tSx 1 (.slice none 0 0) 0 []) (Both (RowT (.slice none 0 0) []) _) = Both (Both _ (Both (RowG tSx 1 (.slice none 0 0) 0 []) (RowT (.slice none 0 0) []))) R; ac_rfl))
  have e0 : fmCells b ef (newF n) (.slice none 0 0) (.slice none 0 0) = #[.pointer (some ⟨b, 0, none⟩), .slice none 0 0, .int .i64 n, .slice none 0 0, .nilIface] := by
    show #[_, _, _, _, errV ef 0] = _
    rw [errV_zero]; rfl
  rw [e0] at h5
  have H5 := Lib.hid h5
  clear h h3 h4 h5 e0 hn
  go_enter Tryz.func31, Tryz.ntmps31
  (repeat' (first | go_values | go_skip | go_guarded | go_step | go_upon | go_back | dsimp only))
  go_ret2
  exact ⟨_, rfl, H5.out⟩
set_option maxRecDepth 100000 in
set_option maxHeartbeats 3200000 in
theorem Finish_at (h : At W w (Both (FoT k b ef f) (Both (StoreT b S) R))) (hR : Stable R) (hF : Fails W ef fails11) (hG : GoodS S) (hS : Sealed S) (hO : FOk S f) :
    Calls Tryz.prog 34 #[.pointer (some ⟨k, 0, none⟩)] w fun e w' => ∃ v, e = .returned (.tuple #[v, errV ef (finishP S f).2.2.2]) ∧ At W w' (Both (RowT v (mz (finishP S f).2.2.1)) (Both (FoT k b ef (finishP S f).2.1) (Both (StoreT b (finishP S f).1) R))) := by
  have HS := Lib.hid (fmState_calls h)
  have HR := Lib.hid hR
  have HF := Lib.hid hF
  obtain ⟨res, hres⟩ : ∃ res, res = finishP S f := ⟨_, rfl⟩
  rw [← hres]
  unfold finishP at hres
  by_cases hd : f.dead = 0
  · rw [if_neg (by simpa using hd)] at hres
    rw [hd, errV_zero] at HS
    have neqn : ∀ wz : World, (binOp .neq tErr .nilIface .nilIface).run Tryz.prog wz = .ok (.bool false) wz := fun wz => neq_nil wz
    have hms := hG.sizes.2.2.2.1
    have hfw := hO.few
    obtain ⟨bv, hs, mv, hq, h1⟩ := h.fo
    obtain rfl := hq hd
    obtain ⟨bo, cp, hbv, hcp1, hcp2⟩ := own_shape h1.foHeld
    subst hbv
    have c1 := h1.foF.c1
    have lk := h1.foF.lt
    unfold maxLen at hcp2
    have hmx : f.held.length ≤ 9223372036854775807 := by omega
    clear hcp1 hcp2 h1
    by_cases hh : f.held = []
    · rw [if_pos hh] at hres
      have HRES := Lib.hid hres
      have H6 := Lib.hid h
      have hl0 : ¬ (0 : Int) < f.held.length := by rw [hh]; simp
      have hl1 : (mz f.made).length ≤ 8796093022208 := by simp only [mz, List.length_map]; omega
      have HL1 := Lib.hid hl1
      clear h hR hF hG hS hO hres hd hh hl1 hms hfw hq
      go_enter Tryz.func34, Tryz.ntmps34
      (repeat' (first | go_values | go_skip | go_guarded | go_step | go_upon | go_back | dsimp only))
      refine HS.out.mono ?_
      rintro e w1 ⟨rfl, rfl⟩
      obtain ⟨bv2, hs2, mv2, hq2, h7⟩ := H6.out.fo
      have hfm := h7.foF
      have c3 := hfm.c3
      have HCI := Lib.hid (Clone_ints (RdRow.of_own h7.foMade) HL1.out)
      have H7 := Lib.hid h7
      have HQ2 := Lib.hid hq2
      clear hfm h7 hq2
      (repeat' (first | go_values | go_skip | go_guarded | go_step | go_upon | go_back | dsimp only))
      refine HCI.out.mono ?_
      rintro e w8 ⟨v8, rfl, hrow, hb⟩
      have h8 := H7.out.newRow ((FoI.stable _ _ _ _ _ _ _).both ((StoreT.stable _ _).both HR.out)) hb hrow
      have cg := (HF.out.below h8.below).cell (13, 9) (by decide)
      have h9 := h8.perm (show _ = Both (FoI k b ef f bv2 hs2 mv2) (Both (StoreT b S) (Both (RowT v8 (mz (f : FmD).made)) R)) by ac_rfl)
      have hfm := h9.foF
      have d4 := hfm.c4
      have dz := hfm.fz 4
      have dl := hfm.lt
      have hend := At.fmDead (c := 13) (At.toFo HQ2.out h9) ((StoreT.stable _ _).both ((RowT.stable _ _).both HR.out)) (by decide)
      rw [errV_pos ef (show (13 : Nat) ≠ 0 by decide)] at hend
      have HEND := Lib.hid hend
      generalize errV ef (f : FmD).dead = dv at *
      clear c3 h8 h9 hfm hend hb hrow HCI
      (repeat' (first | go_values | go_skip | go_guarded | go_step | go_upon | go_back | dsimp only))
      go_ret2
      rw [HRES.out]
      dsimp only
      rw [errV_zero]
      exact ⟨v8, rfl, HEND.out.perm (by ac_rfl)⟩
    · rw [if_neg hh] at hres
      have hl0 : (0 : Int) < f.held.length := by have := List.length_pos_iff.2 hh; omega
      have hl0n : 0 < f.held.length := List.length_pos_iff.2 hh
      have hless := hO.less hd
      have hmost := hO.most
      have hwc := write_calls h hR hF hG hO.fit (by omega) hh hd hO.made hO.few
      obtain ⟨k1, k2, k3, k4, k5, k6⟩ := fwrite_keep hG hS hO.most hO.fit hd hO.made hO.few
      generalize fwriteP S f = P at *
      have hms2 := k1.good.sizes.2.2.2.1
      have hfw2 := k1.ok.few
      have hl1 : (mz P.2.1.made).length ≤ 8796093022208 := by simp only [mz, List.length_map]; omega
      have HL1 := Lib.hid hl1
      by_cases hz : P.2.2 = 0
      · rw [if_pos hz] at hres
        rw [hz, errV_zero] at hwc
        have HWC := Lib.hid hwc
        have HRES := Lib.hid hres
        clear h hR hF hG hS hO hres hd hh hl1 hms hfw hq hwc k1 k2 k3 k4 k5 k6 hms2 hfw2 hz hless hmost
        go_enter Tryz.func34, Tryz.ntmps34
        (repeat' (first | go_values | go_skip | go_guarded | go_step | go_upon | go_back | dsimp only))
        refine HS.out.mono ?_
        rintro e w1 ⟨rfl, rfl⟩
        (repeat' (first | go_values | go_skip | go_guarded | go_step | go_upon | go_back | dsimp only))
        refine HWC.out.mono ?_
        rintro e w6 ⟨rfl, h6⟩
        have H6 := Lib.hid h6
        clear h6 HWC c1 lk
        obtain ⟨bv2, hs2, mv2, hq2, h7⟩ := H6.out.fo
        have hfm := h7.foF
        have c3 := hfm.c3
        have HCI := Lib.hid (Clone_ints (RdRow.of_own h7.foMade) HL1.out)
        have H7 := Lib.hid h7
        have HQ2 := Lib.hid hq2
        clear hfm h7 hq2
        (repeat' (first | go_values | go_skip | go_guarded | go_step | go_upon | go_back | dsimp only))
        refine HCI.out.mono ?_
        rintro e w8 ⟨v8, rfl, hrow, hb⟩
        have h8 := H7.out.newRow ((FoI.stable _ _ _ _ _ _ _).both ((StoreT.stable _ _).both HR.out)) hb hrow
        have cg := (HF.out.below h8.below).cell (13, 9) (by decide)
        have h9 := h8.perm (show _ = Both (FoI k b ef P.2.1 bv2 hs2 mv2) (Both (StoreT b P.1) (Both (RowT v8 (mz (P.2.1 : FmD).made)) R)) by ac_rfl)
        have hfm := h9.foF
        have d4 := hfm.c4
        have dz := hfm.fz 4
        have dl := hfm.lt
        have hend := At.fmDead (c := 13) (At.toFo HQ2.out h9) ((StoreT.stable _ _).both ((RowT.stable _ _).both HR.out)) (by decide)
        rw [errV_pos ef (show (13 : Nat) ≠ 0 by decide)] at hend
        have HEND := Lib.hid hend
        generalize errV ef (P.2.1 : FmD).dead = dv at *
        clear c3 h8 h9 hfm hend hb hrow HCI
        (repeat' (first | go_values | go_skip | go_guarded | go_step | go_upon | go_back | dsimp only))
        go_ret2
        rw [HRES.out]
        dsimp only
        rw [errV_zero]
        exact ⟨v8, rfl, HEND.out.perm (by ac_rfl)⟩
      · rw [if_neg hz] at hres
        have hep := errV_pos ef hz
        rw [hep] at hwc
        have HWC := Lib.hid hwc
        have HEP := Lib.hid hep
        have HRES := Lib.hid hres
        have neqi := run_neq_iface_nil2 ⟨(ef P.2.2).1, (ef P.2.2).2, none⟩
        clear h hR hF hG hS hO hres hd hh hl1 hms hfw hq hwc k1 k2 k3 k4 k5 k6 hms2 hfw2 hz hless hmost hep
        go_enter Tryz.func34, Tryz.ntmps34
        (repeat' (first | go_values | go_skip | go_guarded | go_step | go_upon | go_back | dsimp only))
        refine HS.out.mono ?_
        rintro e w1 ⟨rfl, rfl⟩
        (repeat' (first | go_values | go_skip | go_guarded | go_step | go_upon | go_back | dsimp only))
        refine HWC.out.mono ?_
        rintro e w6 ⟨rfl, h6⟩
        have H6 := Lib.hid h6
        clear h6 HWC c1 lk
        (repeat' (first | go_values | go_skip | go_guarded | go_step | go_upon | go_back | dsimp only))
        go_ret2
        rw [HRES.out]
        dsimp only
        rw [HEP.out]
        exact ⟨_, rfl, H6.out.noRow ((FoT.stable _ _ _ _).both ((StoreT.stable _ _).both HR.out))⟩
  · rw [if_pos hd] at hres
    have hep := errV_pos ef hd
    rw [hep] at HS
    have H := Lib.hid h
    have HRES := Lib.hid hres
    have HEP := Lib.hid hep
    have neqi := run_neq_iface_nil2 ⟨(ef f.dead).1, (ef f.dead).2, none⟩
    clear h hR hF hG hS hO hres hd hep
    go_enter Tryz.func34, Tryz.ntmps34
    (repeat' (first | go_values | go_skip | go_guarded | go_step | go_upon | go_back | dsimp only))
    refine HS.out.mono ?_
    rintro e w1 ⟨rfl, rfl⟩
    (repeat' (first | go_values | go_skip | go_guarded | go_step | go_upon | go_back | dsimp only))
    go_ret2
    rw [HRES.out]
    dsimp only
    rw [HEP.out]
    exact ⟨_, rfl, H.out.noRow ((FoT.stable _ _ _ _).both ((StoreT.stable _ _).both HR.out))⟩
end
theorem info_S10 : (Tryz.prog.info? 9).map (fun i => (i.zero, i.size, i.bytes)) = some (some (.string ⟨#[]⟩), 1, 16) := by kernel_rfl
set_option maxHeartbeats 400000 in
theorem twin10_calls (ss : List (List UInt8)) (v : Value) (w : World) (hv : RdRow w v ss.length 1 (strs ss)) (hlen : ss.length ≤ 8796093022208) :
    Calls Tryz.prog 11 #[v] w fun e w' => ∃ v', e = .returned v' ∧ w'.ownsRow w.heap.size 9 1 v' ss.length (strs ss) ∧ Below w.heap.size w w' := by
  obtain ⟨a, cap, rfl, hc1, hc2⟩ := hv.shape
  have HV := Lib.hid hv
  clear hv
  have h0 := World.ownsRow_nil w w.heap.size 9 1
  go_enter Tryz.func11, Tryz.ntmps11
  (repeat' (first | (go_big_may; (at_builtin; go_must (refine wpList_append_rd rfl _ _ 22 9 rfl Tryz.underlying22 info_S10 rfl (by decide) rfl h0 rfl HV.out (strs_oneCell _) (Nat.le_refl _) (by unfold maxLen; omega) (by omega) ?_); intro v1 w1 hown1 hgrow1 _)) | go_values | go_skip | go_guarded | go_step | go_upon | go_back | dsimp only))
  go_ret
  exact ⟨_, rfl, by simpa using hown1, grownOwn (Below.refl _ _) (Nat.le_refl _) h0 hgrow1⟩
def textP (S : St) (z : Int) : List UInt8 := readT S z 0 (sizeN S z)
theorem textP_of {S : St} (hG : GoodS S) {p : Nat × RunD} (hp : p ∈ S.runs) (hs : p.2.sealed = true) : textP S p.1 = p.2.text := by
  have hf := find_of_mem hG hp
  unfold textP readT sizeN
  rw [hf]
  dsimp only
  rw [if_neg (by simp [hs]), if_neg (by omega)]
  simp
section
variable {W w : World} {R : Thing} {b : Nat} {ef : Nat → Nat × Nat} {S : St}
theorem fails12_store {W : World} {ef : Nat → Nat × Nat} (h : Fails W ef fails12) : Fails W ef failsAll := h.less (by decide)
set_option maxHeartbeats 800000 in
theorem text_at (h : At W w (Both (StoreT b S) R)) (hR : Stable R) (hF : Fails W ef fails12) (hG : GoodS S) {z : Int} (hz : inI64 z) :
    Calls Tryz.prog 14 #[.pointer (some ⟨b, 0, none⟩), .int .i64 z] w fun e w' => e = .returned (.string ⟨(textP S z).toArray⟩) ∧ At W w' (Both (StoreT b S) R) := by
  have hsz : inI64 ((sizeN S z : Nat) : Int) := by
    unfold sizeN inI64
    cases hf : S.find z with
    | none => simp
    | some p =>
      have h1 := hG.le p hf
      have h2 := hG.sizes.2.1
      have h3 := hG.sizes.1
      dsimp only
      omega
  have HS := Lib.hid (Size_at h hR (fails12_store hF) hz)
  have HRD := Lib.hid (fun (w' : World) (h' : At W w' (Both (StoreT b S) R)) => Read_at h' hR (fails12_store hF) hz (a := 0) (n := sizeN S z) (by unfold inI64; omega) hsz)
  unfold textP
  generalize errV ef (sizeC S z) = u1 at *
  generalize errV ef (readC S z 0 (sizeN S z)) = u2 at *
  generalize readT S z 0 (sizeN S z) = T at *
  generalize sizeN S z = n at *
  clear h hR hF hG hz hsz
  go_enter Tryz.func14, Tryz.ntmps14
  (repeat' (first | go_values | go_skip | go_guarded | go_step | go_upon | go_back | dsimp only))
  refine HS.out.mono ?_
  rintro e w1 ⟨rfl, h1⟩
  have H1 := Lib.hid h1
  clear h1 HS
  (repeat' (first | go_values | go_skip | go_guarded | go_step | go_upon | go_back | dsimp only))
  refine (HRD.out w1 H1.out).mono ?_
  rintro e w2 ⟨rfl, h2⟩
  have H2 := Lib.hid h2
  clear h2 HRD H1
  (repeat' (first | go_values | go_skip | go_guarded | go_step | go_upon | go_back | dsimp only))
  go_ret
  exact ⟨rfl, H2.out⟩
end
section
variable {W w : World} {R : Thing} {b mb : Nat} {blk : Nat → Nat} {val : Nat → Value} {S : St}
set_option maxHeartbeats 800000 in
theorem Size_same (h : StoreI w b mb blk val S) {p : Nat × RunD} (hz : inI64 (p.1 : Int)) (hf : S.find p.1 = some p) :
    Calls Tryz.prog 35 #[.pointer (some ⟨b, 0, none⟩), .int .i64 p.1] w fun e w' => e = .returned (.tuple #[.int .i64 p.2.text.length, .nilIface]) ∧ w = w' := by
  have c5 := h.facts.c5
  have hl := h.look_some hz hf
  have hrun := h.run p (find_mem hf).1
  obtain ⟨ao, cap, hv, _, _⟩ := (RdRow.of_own (h.row p (find_mem hf).1)).shape
  have r0 : w.cell? ⟨blk p.1, 0, none⟩ = some (val p.1) := by simp [World.cell?, hrun]
  rw [hv] at r0
  clear h hf hz hrun hv
  generalize blk p.1 = rb at *
  go_enter Tryz.func35, Tryz.ntmps35
  (repeat' (first | go_values | go_skip | go_guarded | go_step | go_upon | go_back | dsimp only))
  go_ret2
  exact ⟨rfl, rfl⟩
set_option maxRecDepth 100000 in
set_option maxHeartbeats 1600000 in
theorem Read_same (h : StoreI w b mb blk val S) {p : Nat × RunD} (hz : inI64 (p.1 : Int)) (hf : S.find p.1 = some p) (hs : p.2.sealed = true) :
    Calls Tryz.prog 36 #[.pointer (some ⟨b, 0, none⟩), .int .i64 p.1, .int .i64 0, .int .i64 p.2.text.length] w fun e w' => e = .returned (.tuple #[.string ⟨p.2.text.toArray⟩, .nilIface]) ∧ w = w' := by
  have c5 := h.facts.c5
  have hl := h.look_some hz hf
  have hrun := h.run p (find_mem hf).1
  have hrd := RdRow.of_own (h.row p (find_mem hf).1)
  obtain ⟨ao, cap, hv, hc1, hc2⟩ := hrd.shape
  have r0 : w.cell? ⟨blk p.1, 0, none⟩ = some (val p.1) := by simp [World.cell?, hrun]
  have r1 : w.cell? ⟨blk p.1, 1, none⟩ = some (.bool p.2.sealed) := by simp [World.cell?, hrun]
  have HV := Lib.hid hrd
  have HVE := Lib.hid hv
  have hlen := hc1
  rw [hs] at r1
  rw [hv] at r0
  have hVE := hv
  have hVR := hrd
  clear h hf hz hrun hv hrd hs
  generalize blk p.1 = rb at *
  have hwr : IntKind.i64.wrap ((p.2.text.length : Int) - 0) = (p.2.text.length : Int) := by rw [IntKind.wrap_i64] <;> (unfold maxLen at hc2; omega)
  have hwr3 : IntKind.i64.wrap (p.2.text.length : Int) = (p.2.text.length : Int) := by rw [IntKind.wrap_i64]; unfold maxLen at hc2; omega
  have hwr2 : IntKind.i64.wrap (0 + (p.2.text.length : Int)) = (p.2.text.length : Int) := by rw [IntKind.wrap_i64] <;> (unfold maxLen at hc2; omega)
  have hkc : (p.2.text.length : Int) ≤ cap := by omega
  have hn0 : ¬ (p.2.text.length : Int) < 0 := by omega
  have hn1 : (0 : Int) ≤ (p.2.text.length : Int) := by omega
  have hcv : Sem.run Tryz.prog (convert 85 9 (Value.slice ao p.2.text.length cap)) w = Result.ok (.string ⟨p.2.text.toArray⟩) w := by
    have := run_string_part (P := Tryz.prog) (w := w) 85 9 5 Tryz.underlying85 Tryz.underlying5 Tryz.underlying9 (hVE ▸ hVR) (k := 0) (m := p.2.text.length) (by omega)
    simp only [List.drop_zero, List.take_length, Nat.sub_zero] at this
    rw [← this]
    congr 3
    split
    · rfl
    · cases ao with
      | none => rfl
      | some a => simp [Addr.add]
  have HTL := Lib.hid (show p.2.text.length = p.2.text.length from rfl)
  clear hVE hVR
  go_enter Tryz.func36, Tryz.ntmps36
  (repeat' (first | go_values | go_skip | go_guarded | go_step | go_upon | go_back | dsimp only))
  go_ret2
  exact ⟨rfl, rfl⟩
end
section
variable {W w : World} {R : Thing} {b : Nat} {S : St}
theorem text_same (h : At W w (Both (StoreT b S) R)) (hG : GoodS S) {p : Nat × RunD} (hp : p ∈ S.runs) (hs : p.2.sealed = true) :
    Calls Tryz.prog 14 #[.pointer (some ⟨b, 0, none⟩), .int .i64 p.1] w fun e w' => e = .returned (.string ⟨p.2.text.toArray⟩) ∧ w = w' := by
  obtain ⟨mb, blk, val, h1, _⟩ := h.store
  have hz : inI64 (p.1 : Int) := by
    have h2 := hG.sizes
    have h3 := hG.inside p hp
    unfold inI64
    omega
  have hf := find_of_mem hG hp
  have HS := Lib.hid (Size_same h1 hz hf)
  have HRD := Lib.hid (Read_same h1 hz hf hs)
  clear h h1 hG hp hs hz hf
  go_enter Tryz.func14, Tryz.ntmps14
  (repeat' (first | go_values | go_skip | go_guarded | go_step | go_upon | go_back | dsimp only))
  refine HS.out.mono ?_
  rintro e w1 ⟨rfl, rfl⟩
  (repeat' (first | go_values | go_skip | go_guarded | go_step | go_upon | go_back | dsimp only))
  refine HRD.out.mono ?_
  rintro e w2 ⟨rfl, rfl⟩
  (repeat' (first | go_values | go_skip | go_guarded | go_step | go_upon | go_back | dsimp only))
  go_ret
  exact ⟨rfl, rfl⟩
end
end Go.Proofs.YtadokkffmekndaaGreatDoor

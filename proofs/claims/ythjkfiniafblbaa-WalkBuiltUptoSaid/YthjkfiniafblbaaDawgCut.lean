/- dawg.Builder.cut walked. -/
import Derived.Test.YthjkfiniafblbaaDawgFz
namespace Go.Proofs.Ythjkfiniafblbaa
open Go.RowKit

theorem egc_set {bl : Nat → Nat} (o : Nat) : ∀ (es : List (UInt8 × Nat)) {l : Nat}, l < es.length → (es.flatMap (egc bl)).set (l * 2 + 1) (ptrN (bl o)) = (es.set l ((es.getD l default).1, o)).flatMap (egc bl)
  | [], _, h => absurd h (Nat.not_lt_zero _)
  | e :: es, 0, _ => rfl
  | e :: es, l + 1, h => by
    have ih := egc_set (bl := bl) o es (l := l) (by simpa using h)
    have e1 : (l + 1) * 2 + 1 = (l * 2 + 1) + 1 + 1 := by omega
    simp only [List.flatMap_cons, List.set_cons_succ, List.getD_cons_succ]
    rw [e1, ← ih]
    rfl
theorem At.rowCut {W w : World} {R : Thing} {e : TypeId} {size g n cap : Nat} {xs : List Value} (h : At W w (Both (RowG e size (.slice (some ⟨g, 0, none⟩) n cap) n xs) R)) {m : Nat} (hm : m ≤ n) :
    At W w (Both (RowG e size (.slice (some ⟨g, 0, none⟩) m cap) m (xs.take (m * size))) R) := by
  refine h.impl fun fp q => Both.monoL (fun w' f q => ?_) q
  obtain ⟨h1, rfl⟩ := q
  refine ⟨?_, rfl⟩
  obtain ⟨hl, hor⟩ := h1
  have hms : m * size ≤ n * size := Nat.mul_le_mul_right _ hm
  rcases hor with ⟨hx, _⟩ | ⟨g', cap', cur, hv, hbg, hg, hnc, hcm, hcs, htake⟩
  · cases hx
  · cases hv
    refine ⟨by rw [List.length_take, hl]; omega, .inr ⟨g, cap, cur, rfl, hbg, hg, by omega, hcm, hcs, ?_⟩⟩
    rw [← htake, List.take_take, Nat.min_eq_left hms]
theorem At.push4 {W w : World} {A B C D E : Thing} (h : At W w (Both D (Both A (Both B (Both C E))))) : At W w (Both A (Both B (Both C (Both D E)))) := h.pull4.pull4.pull4
theorem pathV_get {bl : Nat → Nat} {path : List Nat} {j : Nat} (h : j < path.length) : (pathV bl path)[j]? = some (ptrN (bl (path.getD j 0))) := by
  rw [List.getElem?_map, List.getElem?_eq_getElem h, List.getD_eq_getElem?_getD, List.getElem?_eq_getElem h]; rfl
theorem pathV_take {bl : Nat → Nat} {path : List Nat} {m : Nat} : (pathV bl path).take (m * 1) = pathV bl (path.take m) := by rw [Nat.mul_one]; exact List.map_take.symm

set_option maxRecDepth 100000 in
set_option maxHeartbeats 6400000 in
theorem cut_at {W : World} (kb mb : Nat) (bl : Nat → Nat) (ev : Nat → Value) (most : Int) (last : ByteArray) (any : Bool) (pv : Value) (st cnt : Int) {s : Fz} {path : List Nat} {n : Nat} (hn : n < path.length) (hs : FInv s) (hp : ∀ j, path.getD j 0 < s.N.length)
    (hpe : ∀ i, i + 1 < path.length → 0 < (nodeAt s.N (path.getD i 0)).edges.length) (hN : s.N.length ≤ 1099511627776) (hK : s.known.length + path.length ≤ 1099511627776)
    (w : World) (R : Thing) (h : At W w (Both (CellT kb (bdC most last any pv mb st cnt) tBd) (FzT bl ev mb s (Both (RowG tPN 1 pv path.length (pathV bl path)) R)))) (hR : Stable R) :
    Calls Try.prog 64 #[ptrN kb, .int .i64 n] w fun e w' => e = .returned (.tuple #[]) ∧ ∃ pv', At W w' (Both (CellT kb (bdC most last any pv' mb st cnt) tBd) (FzT bl ev mb (cutL path n (path.length - 1 - n) s) (Both (RowG tPN 1 pv' (n + 1) (pathV bl (path.take (n + 1)))) R))) := by
  obtain ⟨gp, pcap, rfl, _, hpc, hpcm⟩ := own_cut h.drop.drop.drop.rowG (by omega)
  have hpl : path.length ≤ 1099511627776 := by omega
  have hst : ∀ s', Stable (Both (CellT kb (bdC most last any (.slice (some ⟨gp, 0, none⟩) path.length pcap) mb st cnt) tBd) (FzT bl ev mb s' (Both (RowG tPN 1 (.slice (some ⟨gp, 0, none⟩) path.length pcap) path.length (pathV bl path)) R))) :=
    fun s' => (CellT.stable _ _ _).both (FzT.stable ((RowG.stable _ _ _ _ _).both hR))
  obtain ⟨c3, _, hkl⟩ := h.cellF (o := 3) (u := .slice (some ⟨gp, 0, none⟩) path.length pcap) rfl
  have HST := Lib.hid hst
  have H := Lib.hid h
  have HS := Lib.hid hs
  have HP := Lib.hid hp
  have HPE := Lib.hid hpe
  have HR := Lib.hid hR
  clear h hs hp hpe hR hst
  go_enter Try.func64, Try.ntmps64
  (repeat' (first | (go_big_may; fail) | go_values | go_skip | go_guarded | go_step | go_upon | go_back | dsimp only))
  go_loopw [4] (fun vi wr => ∃ (m : Nat) (s' : Fz), vi = .int .i64 m ∧ n ≤ m ∧ m < path.length ∧ (FInv s' ∧ FKeep s s') ∧ s'.known.length + m < s.known.length + path.length ∧ cutL path n (m - n) s' = cutL path n (path.length - 1 - n) s ∧
    At W wr (Both (CellT kb (bdC most last any (.slice (some ⟨gp, 0, none⟩) path.length pcap) mb st cnt) tBd) (FzT bl ev mb s' (Both (RowG tPN 1 (.slice (some ⟨gp, 0, none⟩) path.length pcap) path.length (pathV bl path)) R)))) (fun vi _ => (intOf vi).toNat)
  case atStart => exact ⟨path.length - 1, s, by congr 1; omega, by omega, by omega, ⟨HS.out, FKeep.refl s⟩, by omega, rfl, H.out⟩
  case round =>
    obtain ⟨m, s', rfl, hnm, hmp, hinv, hkm, heq, h3⟩ := hrel
    clear c3
    obtain ⟨c3, _, _⟩ := h3.cellF (o := 3) (u := .slice (some ⟨gp, 0, none⟩) path.length pcap) rfl
    have hsN : s'.N.length = s.N.length := hinv.2.len
    have HEQ := Lib.hid heq
    have HI := Lib.hid hinv
    have H3 := Lib.hid h3
    clear heq hinv
    by_cases hlt : n < m
    · obtain ⟨q, rfl⟩ : ∃ q, m = q + 1 := ⟨m - 1, by omega⟩
      have hu := HP.out q
      have hc := HP.out (q + 1)
      have hpos := HPE.out q hmp
      generalize hun : path.getD q 0 = uN at hu hpos
      generalize hcn : path.getD (q + 1) 0 = cN at hc
      have hedg := HI.out.2.edges uN hu
      have hcntu := HI.out.1.cnt uN (by rw [hsN]; exact hu)
      obtain ⟨l, hl⟩ : ∃ l, (nodeAt s'.N uN).edges.length = l + 1 := ⟨(nodeAt s'.N uN).edges.length - 1, by omega⟩
      have h4 := h3.drew (HST.out s')
      have h5 := h4.pull3.node (i := uN) (by rw [hsN]; exact hu)
      rw [hl] at h5
      obtain ⟨ge, ecap, hge, _, hec, hecm⟩ := own_cut h5.drop.rowG (by omega)
      have facts : ∀ (wx : World) (s2 : Fz), At W wx (Both (CellT kb (bdC most last any (.slice (some ⟨gp, 0, none⟩) path.length pcap) mb st cnt) tBd) (FzT bl ev mb s2 (Both (RowG tPN 1 (.slice (some ⟨gp, 0, none⟩) path.length pcap) path.length (pathV bl path)) R))) → s2.N.length = s.N.length →
          wx.cell? ⟨bl uN, 1, none⟩ = some (.slice (some ⟨ge, 0, none⟩) (l + 1) ecap) ∧ wx.cell? ⟨kb, 3, none⟩ = some (.slice (some ⟨gp, 0, none⟩) path.length pcap) ∧ wx.cell? ⟨gp, q + 1, none⟩ = some (ptrN (bl cN)) := fun wx s2 hx hl2 =>
        ⟨((hx.pull3.node (i := uN) (by rw [hl2]; exact hu)).cellF (o := 1) (u := ev uN) rfl).1.trans (by rw [hge]), (hx.cellF (o := 3) (u := .slice (some ⟨gp, 0, none⟩) path.length pcap) rfl).1, (hx.drop.drop.drop.rowCell (by rw [← hcn]; exact pathV_get hmp)).1⟩
      have hpq := (h3.drop.drop.drop.rowCell (u := ptrN (bl uN)) (by rw [← hun]; exact pathV_get (by omega))).1
      have hfr := freeze_at kb mb bl ev (bdC most last any (.slice (some ⟨gp, 0, none⟩) path.length pcap) mb st cnt) rfl (n := cN) (by rw [hsN]; exact hc) HI.out.1 (by rw [hsN]; exact hN) (by omega) wr.drew _ h4 ((RowG.stable _ _ _ _ _).both HR.out)
      have hfi := freezeP_inv (n := cN) HI.out.1 (by rw [hsN]; exact hc)
      have hse := setLast_inv (up := uN) (o := (freezeP s' cN).2) hfi.1 (by rw [hfi.2.1.len, hsN]; exact hu) (by rw [hfi.2.1.len]; exact hfi.2.2.1)
      have hnext : cutL path n (q - n) ⟨setLast (freezeP s' cN).1.N uN (freezeP s' cN).2, (freezeP s' cN).1.known⟩ = cutL path n (path.length - 1 - n) s := by
        rw [← HEQ.out, show q + 1 - n = (q - n) + 1 from by omega]
        simp only [cutL]
        rw [show n + (q - n) + 1 = q + 1 from by omega, show n + (q - n) = q from by omega, hcn, hun]
      have F0 := facts _ _ h4 hsN
      have hle2 : (nodeAt (freezeP s' cN).1.N uN).edges.length = l + 1 := by rw [hfi.2.1.edges uN (by rw [hsN]; exact hu)]; exact hl
      have hl2N : (freezeP s' cN).1.N.length = s.N.length := by rw [hfi.2.1.len, hsN]
      have step : ∀ (w5 : World), At W w5 (Both (CellT kb (bdC most last any (.slice (some ⟨gp, 0, none⟩) path.length pcap) mb st cnt) tBd) (FzT bl ev mb (freezeP s' cN).1 (Both (RowG tPN 1 (.slice (some ⟨gp, 0, none⟩) path.length pcap) path.length (pathV bl path)) R))) →
          (∃ z, w5.cell? ⟨ge, l * 2 + 1, none⟩ = some z) ∧ w5.frozen? ⟨ge, l * 2 + 1, none⟩ = false ∧ ge < w5.heap.size ∧
          At W (w5.setCell ⟨ge, l * 2 + 1, none⟩ (ptrN (bl (freezeP s' cN).2))) (Both (CellT kb (bdC most last any (.slice (some ⟨gp, 0, none⟩) path.length pcap) mb st cnt) tBd) (FzT bl ev mb ⟨setLast (freezeP s' cN).1.N uN (freezeP s' cN).2, (freezeP s' cN).1.known⟩ (Both (RowG tPN 1 (.slice (some ⟨gp, 0, none⟩) path.length pcap) path.length (pathV bl path)) R))) := by
        intro w5 h6
        have h7 := h6.pull3.node (i := uN) (by rw [hl2N]; exact hu)
        have hge2 := hge
        have hst7 := (HoleT.stable bl ev (freezeP s' cN).1.N uN).both ((CellT.stable kb (bdC most last any (.slice (some ⟨gp, 0, none⟩) path.length pcap) mb st cnt) tBd).both ((MapT.stable Try.prog tKy mb (knV bl (freezeP s' cN).1.known)).both ((RowG.stable tPN 1 (.slice (some ⟨gp, 0, none⟩) path.length pcap) path.length (pathV bl path)).both HR.out)))
        have hxl := flatMap_get (egc_len bl) (nodeAt (freezeP s' cN).1.N uN).edges (i := l) (j := 1) (by omega) (by decide)
        have hset := egc_set (bl := bl) (freezeP s' cN).2 (nodeAt (freezeP s' cN).1.N uN).edges (l := l) (by omega)
        have h8 := h7.swap
        rw [hge, hle2] at h8
        obtain ⟨r1, r2, r3⟩ := h8.rowCell (u := ptrN (bl ((nodeAt (freezeP s' cN).1.N uN).edges.getD l default).2)) hxl
        have h9 := h8.storeG ((CellT.stable _ _ _).both hst7) (l * 2 + 1) (ptrN (bl (freezeP s' cN).2))
        rw [hset] at h9
        refine ⟨⟨_, r1⟩, r2, r3, ?_⟩
        have e1 : (nodeAt (freezeP s' cN).1.N uN).edges.length - 1 = l := by omega
        have h10 := h9.swap
        have e2 : l + 1 = ((nodeAt (freezeP s' cN).1.N uN).edges.set l (((nodeAt (freezeP s' cN).1.N uN).edges.getD l default).1, (freezeP s' cN).2)).length := by rw [List.length_set, hle2]
        rw [← hge] at h10
        rw [e2] at h10
        have h11 := (h10.nodeBack0 (i := uN) (nd := { nodeAt (freezeP s' cN).1.N uN with edges := (nodeAt (freezeP s' cN).1.N uN).edges.set l (((nodeAt (freezeP s' cN).1.N uN).edges.getD l default).1, (freezeP s' cN).2) }) (by rw [hl2N]; exact hu)).push3
        have e3 : setLast (freezeP s' cN).1.N uN (freezeP s' cN).2 = (freezeP s' cN).1.N.set uN { nodeAt (freezeP s' cN).1.N uN with edges := (nodeAt (freezeP s' cN).1.N uN).edges.set l (((nodeAt (freezeP s' cN).1.N uN).edges.getD l default).1, (freezeP s' cN).2) } := by
          unfold setLast
          rw [e1]
        show At W _ (Both _ (Both _ (Both (NodesT bl ev (setLast (freezeP s' cN).1.N uN (freezeP s' cN).2)) _)))
        rw [e3]
        exact h11
      have FACTS := Lib.hid facts
      have STEP := Lib.hid step
      have HFR := Lib.hid hfr
      have HF0 := Lib.hid F0
      have HL2 := Lib.hid (And.intro hl2N (And.intro hse hfi))
      have HNX := Lib.hid hnext
      have HL3 := Lib.hid (show (⟨setLast (freezeP s' cN).1.N uN (freezeP s' cN).2, (freezeP s' cN).1.known⟩ : Fz).N.length = s.N.length from hse.2.len.trans hl2N)
      have HKN := Lib.hid hfi.2.2.2
      have hl0 : (0 : Int) ≤ (l : Int) := by omega
      have hl1 : (l : Int) < ((l + 1 : Nat) : Int) := by omega
      have hl2 : (l : Int) < (l : Int) + 1 := by omega
      have hlw : IntKind.i64.wrap (l : Int) = (l : Int) := by rw [IntKind.wrap_i64] <;> omega
      have hq1 : (0 : Int) ≤ (q : Int) + 1 := by omega
      have hq2 : (q : Int) + 1 < (path.length : Int) := by omega
      clear h4 h5 facts step hfr F0 hge hun hcn hl h3 hnext hfi hse hedg hcntu hle2 hl2N hpos
      obtain ⟨F1, F2, F3⟩ : wr.cell? ⟨bl uN, 1, none⟩ = some (.slice (some ⟨ge, 0, none⟩) (l + 1) ecap) ∧ wr.cell? ⟨kb, 3, none⟩ = some (.slice (some ⟨gp, 0, none⟩) path.length pcap) ∧ wr.cell? ⟨gp, q + 1, none⟩ = some (ptrN (bl cN)) := HF0.out
      (repeat' (first | (go_big_may; fail) | go_values | go_skip | go_guarded | go_step | go_upon | go_back | dsimp only))
      go_region_held3 (fun wx => wx.cell? ⟨bl uN, 1, none⟩ = some (.slice (some ⟨ge, 0, none⟩) (l + 1) ecap) ∧ wx.cell? ⟨kb, 3, none⟩ = some (.slice (some ⟨gp, 0, none⟩) path.length pcap) ∧ wx.cell? ⟨gp, q + 1, none⟩ = some (ptrN (bl cN)))
        (first | exact HF0.out | exact FACTS.out _ _ h5' HL2.out.1 | exact FACTS.out _ ⟨setLast (freezeP s' cN).1.N uN (freezeP s' cN).2, (freezeP s' cN).1.known⟩ H6.out HL3.out)
        ((go_at_call 65; refine HFR.out.mono ?_; rintro e5 w5 ⟨rfl, h5'⟩; obtain ⟨⟨z, z1⟩, z2, z3, h6⟩ := STEP.out w5 h5'; have H6 := Lib.hid h6; clear h6))
      all_goals
        (repeat' (first | (go_big_may; fail) | go_values | go_skip | go_guarded | go_step | go_upon | go_back | dsimp only))
        go_roundw
        case rel => exact ⟨q, ⟨setLast (freezeP s' cN).1.N uN (freezeP s' cN).2, (freezeP s' cN).1.known⟩, by simp, by omega, by omega, ⟨HL2.out.2.1.1, (HI.out.2.trans HL2.out.2.2.2.1).trans HL2.out.2.1.2⟩, by have := HKN.out; dsimp only; omega, HNX.out, H6.out⟩
        case measure => simp [intOf] <;> omega
    · obtain rfl : m = n := by omega
      have h4 := ((h3.setCell (FzT.stable ((RowG.stable _ _ _ _ _).both HR.out)) 3 (.slice (some ⟨gp, 0, none⟩) (m + 1) pcap)).pull4.rowCut (m := m + 1) (by omega)).push4
      rw [pathV_take] at h4
      have H4 := Lib.hid h4
      clear h3 h4
      (repeat' (first | (go_big_may; fail) | go_values | go_skip | go_guarded | go_step | go_upon | go_back | dsimp only))
      go_end0
      refine ⟨rfl, .slice (some ⟨gp, 0, none⟩) (m + 1) pcap, ?_⟩
      have hq := HEQ.out
      rw [Nat.sub_self] at hq
      rw [← hq]
      exact H4.out
end Go.Proofs.Ythjkfiniafblbaa

/- The law MergeAgain walked. -/
import Derived.Test.YtadokkffmekndaaGreatDoorBuMgAgLaw52
import Derived.Test.YtadokkffmekndaaGreatDoorBuMgAgLaw43
set_option linter.unusedSimpArgs false
set_option linter.unusedVariables false
namespace Go.Proofs.YtadokkffmekndaaGreatDoor
open Go.RowKit

abbrev tW3 : TypeId := 39
abbrev tI3 : TypeId := 40
theorem ofM_strs (A : List (List UInt8)) (hf : fits A = true) : ∀ x ∈ A, x.length ≤ 1099511627776 := fun x hx => by have := fits_mem.1 hf x hx; omega
theorem ix3_0 (a b c : Value) (w : World) : (Instr.index tW3 (.agg #[a, b, c]) (.int .i64 0)).run Tryz.prog w = .ok a w := by kernel_rfl
theorem ix3_1 (a b c : Value) (w : World) : (Instr.index tW3 (.agg #[a, b, c]) (.int .i64 1)).run Tryz.prog w = .ok b w := by kernel_rfl
theorem ix3_2 (a b c : Value) (w : World) : (Instr.index tW3 (.agg #[a, b, c]) (.int .i64 2)).run Tryz.prog w = .ok c w := by kernel_rfl
def mbn : Nat → Nat
  | 0 => 0
  | n + 1 => 2 * mbn n + 1050000
def padC : List Nat → Array Value
  | [] => #[.int .i64 0, .int .i64 0, .int .i64 0]
  | [a] => #[.int .i64 a, .int .i64 0, .int .i64 0]
  | [a, b] => #[.int .i64 a, .int .i64 b, .int .i64 0]
  | a :: b :: c :: _ => #[.int .i64 a, .int .i64 b, .int .i64 c]
set_option maxRecDepth 100000 in
set_option maxHeartbeats 51200000 in
theorem mergeAgain_walk (W : World) (ef : Nat → Nat × Nat) (hF : Fails W ef fails13) (s0 : List (List UInt8)) (a0 : Value) (rd0 : RdRow W a0 s0.length 1 (strs s0)) (hb0 : s0.length + sumLen s0 ≤ 1048576) (s1 : List (List UInt8)) (a1 : Value) (rd1 : RdRow W a1 s1.length 1 (strs s1)) (hb1 : s1.length + sumLen s1 ≤ 1048576) (s2 : List (List UInt8)) (a2 : Value) (rd2 : RdRow W a2 s2.length 1 (strs s2)) (hb2 : s2.length + sumLen s2 ≤ 1048576) :
    Calls Tryz.prog 4 #[a0, a1, a2] W fun e w' => e = .returned (.bool true) ∧ Below W.heap.size W w' := by
  obtain ⟨hl0, hx0⟩ := bulk_eachM hb0
  obtain ⟨hl1, hx1⟩ := bulk_eachM hb1
  obtain ⟨hl2, hx2⟩ := bulk_eachM hb2
  obtain ⟨f01, f02, f03, _⟩ := fitW_facts s0 0
  obtain ⟨f11, f12, f13, _⟩ := fitW_facts s1 0
  obtain ⟨f21, f22, f23, _⟩ := fitW_facts s2 0
  have f03 := f03 (by omega)
  have f13 := f13 (by omega)
  have f23 := f23 (by omega)
  have w0 : wsum (fitW s0 0).1 ≤ 1048833 := by omega
  have w1 : wsum (fitW s1 0).1 ≤ 1048833 := by omega
  have w2 : wsum (fitW s2 0).1 ≤ 1048833 := by omega
  have hnot : ∀ (x : Bool) (w : World), (Op.unary .not (.bool x)).run Tryz.prog w = .ok (.bool (!x)) w := fun _ _ => rfl
  have neqn : ∀ wz : World, (binOp .neq tErr .nilIface .nilIface).run Tryz.prog wz = .ok (.bool false) wz := fun wz => neq_nil wz
  have eqn : ∀ wz : World, (binOp .eql tErr .nilIface .nilIface).run Tryz.prog wz = .ok (.bool true) wz := fun wz => eql_nil wz
  have x30 := ix3_0
  have x31 := ix3_1
  have x32 := ix3_2
  have HWK := Lib.hid (wakes10_calls hF)
  have HF := Lib.hid hF
  have R0 := Lib.hid rd0
  have R1 := Lib.hid rd1
  have R2 := Lib.hid rd2
  have X0 := Lib.hid (And.intro hl0 hx0)
  have X1 := Lib.hid (And.intro hl1 hx1)
  have X2 := Lib.hid (And.intro hl2 hx2)
  have F0 := Lib.hid (And.intro f01 w0)
  have F1 := Lib.hid (And.intro f11 w1)
  have F2 := Lib.hid (And.intro f21 w2)
  clear hF rd0 rd1 rd2 hb0 hb1 hb2 hl0 hl1 hl2 hx0 hx1 hx2 f01 f02 f03 f11 f12 f13 f21 f22 f23 w0 w1 w2
  go_enter Tryz.func4, Tryz.ntmps4
  (repeat' (first | (go_big_may; fail) | go_values | go_skip | go_guarded | go_step | go_upon | go_back | dsimp only))
  refine HWK.out.mono ?_
  rintro e w1 ⟨rfl, hbw⟩
  have h1 := (At.nought hbw).newCell Stable.nought #[.slice none 0 0, .slice none 0 0, .slice none 0 0] tW3
  have H1 := Lib.hid h1
  clear hbw HWK h1
  (repeat' (first | (go_big_may; fail) | go_values | go_skip | go_guarded | go_step | go_upon | go_back | dsimp only))
  generalize hkw : w1.heap.size = kw at *
  clear hkw
  refine (fit10_at H1.out ((CellT.stable _ _ _).both Stable.nought) R0.out X0.out.1 X0.out.2).mono ?_
  rintro e w2 ⟨v0, rfl, _, h2⟩
  obtain ⟨g0, c0, hv0, _, hm0⟩ := own_shape h2.rowG
  have h3 := h2.perm (show _ = Both (CellT kw #[.slice none 0 0, .slice none 0 0, .slice none 0 0] tW3) (Both (RowG tSx 1 v0 (fitW s0 0).1.length (strs (fitW s0 0).1)) Nought) by ac_rfl)
  have d0 := cell_at h3.cell.1 0
  have dz := thaw_at h3.cell.1
  have dl := lt_of_heap h3.cell.1
  simp only [List.getElem?_toArray, List.getElem?_cons_zero] at d0
  have h4 : At W _ (Both (CellT kw #[v0, .slice none 0 0, .slice none 0 0] tW3) _) := h3.setCell ((RowG.stable _ _ _ _ _).both Stable.nought) 0 v0
  subst hv0
  have H4 := Lib.hid h4
  clear h2 h3 h4 H1
  (repeat' (first | (go_big_may; fail) | go_values | go_skip | go_guarded | go_step | go_upon | go_back | dsimp only))
  clear d0 dz dl
  refine (fit10_at H4.out ((CellT.stable _ _ _).both ((RowG.stable _ _ _ _ _).both Stable.nought)) R1.out X1.out.1 X1.out.2).mono ?_
  rintro e w3 ⟨v1, rfl, _, h5⟩
  obtain ⟨g1, c1, hv1, _, hm1⟩ := own_shape h5.rowG
  have h6 := h5.perm (show _ = Both (CellT kw #[(.slice g0 (fitW s0 0).1.length c0), .slice none 0 0, .slice none 0 0] tW3) (Both (RowG tSx 1 v1 (fitW s1 0).1.length (strs (fitW s1 0).1)) (Both (RowG tSx 1 (.slice g0 (fitW s0 0).1.length c0) (fitW s0 0).1.length (strs (fitW s0 0).1)) Nought)) by ac_rfl)
  have d0 := cell_at h6.cell.1 1
  have dz := thaw_at h6.cell.1
  have dl := lt_of_heap h6.cell.1
  simp only [List.getElem?_toArray, List.getElem?_cons_zero, List.getElem?_cons_succ] at d0
  have h7 : At W _ (Both (CellT kw #[(.slice g0 (fitW s0 0).1.length c0), v1, .slice none 0 0] tW3) _) := h6.setCell ((RowG.stable _ _ _ _ _).both ((RowG.stable _ _ _ _ _).both Stable.nought)) 1 v1
  subst hv1
  have H7 := Lib.hid h7
  clear h5 h6 h7 H4
  (repeat' (first | (go_big_may; fail) | go_values | go_skip | go_guarded | go_step | go_upon | go_back | dsimp only))
  clear d0 dz dl
  refine (fit10_at H7.out ((CellT.stable _ _ _).both ((RowG.stable _ _ _ _ _).both ((RowG.stable _ _ _ _ _).both Stable.nought))) R2.out X2.out.1 X2.out.2).mono ?_
  rintro e w4 ⟨v2, rfl, _, h8⟩
  obtain ⟨g2, c2, hv2, _, hm2⟩ := own_shape h8.rowG
  have h9 := h8.perm (show _ = Both (CellT kw #[(.slice g0 (fitW s0 0).1.length c0), (.slice g1 (fitW s1 0).1.length c1), .slice none 0 0] tW3) (Both (RowG tSx 1 v2 (fitW s2 0).1.length (strs (fitW s2 0).1)) (Both (RowG tSx 1 (.slice g1 (fitW s1 0).1.length c1) (fitW s1 0).1.length (strs (fitW s1 0).1)) (Both (RowG tSx 1 (.slice g0 (fitW s0 0).1.length c0) (fitW s0 0).1.length (strs (fitW s0 0).1)) Nought))) by ac_rfl)
  have d0 := cell_at h9.cell.1 2
  have dz := thaw_at h9.cell.1
  have dl := lt_of_heap h9.cell.1
  simp only [List.getElem?_toArray, List.getElem?_cons_zero, List.getElem?_cons_succ] at d0
  have hst9 : Stable (Both (RowG tSx 1 v2 (fitW s2 0).1.length (strs (fitW s2 0).1)) (Both (RowG tSx 1 (.slice g1 (fitW s1 0).1.length c1) (fitW s1 0).1.length (strs (fitW s1 0).1)) (Both (RowG tSx 1 (.slice g0 (fitW s0 0).1.length c0) (fitW s0 0).1.length (strs (fitW s0 0).1)) Nought))) := (RowG.stable _ _ _ _ _).both ((RowG.stable _ _ _ _ _).both ((RowG.stable _ _ _ _ _).both Stable.nought))
  have h10 : At W _ (Both (CellT kw #[(.slice g0 (fitW s0 0).1.length c0), (.slice g1 (fitW s1 0).1.length c1), v2] tW3) _) := h9.setCell hst9 2 v2
  subst hv2
  have H10 := Lib.hid h10
  have HST := Lib.hid hst9
  clear h8 h9 h10 H7 hst9
  generalize (fitW s0 0).1 = A0 at *
  generalize (fitW s1 0).1 = A1 at *
  generalize (fitW s2 0).1 = A2 at *
  (repeat' (first | (go_big_may; fail) | go_values | go_skip | go_guarded | go_step | go_upon | go_back | dsimp only))
  clear d0 dz dl
  generalize w4.setCell _ _ = w5 at *
  refine (New_at H10.out ((CellT.stable _ _ _).both HST.out) (c := 67108864) (by unfold inI64; omega)).mono ?_
  rintro e w6 ⟨rfl, h11⟩
  generalize hsb : w5.heap.size + 1 = sb at *
  clear hsb
  have hst11 := (StoreT.stable sb (newSt 67108864)).both ((CellT.stable kw #[(.slice g0 A0.length c0), (.slice g1 A1.length c1), (.slice g2 A2.length c2)] tW3).both HST.out)
  have HN := Lib.hid (New_at h11 hst11 (c := 67108864) (by unfold inI64; omega))
  clear h11 hst11 H10
  (repeat' (first | (go_big_may; fail) | go_values | go_skip | go_guarded | go_step | go_upon | go_back | dsimp only))
  refine HN.out.mono ?_
  rintro e w7 ⟨rfl, h12⟩
  generalize htb : w6.heap.size + 1 = tb at *
  clear htb HN
  have hst12 := (StoreT.stable tb (newSt 67108864)).both ((StoreT.stable sb (newSt 67108864)).both ((CellT.stable kw #[(.slice g0 A0.length c0), (.slice g1 A1.length c1), (.slice g2 A2.length c2)] tW3).both HST.out))
  have h13 := (h12.newCell hst12 #[.int .i64 0, .int .i64 0, .int .i64 0] tI3).newCell ((CellT.stable _ _ _).both hst12) #[.int .i64 0, .int .i64 0, .int .i64 0] tI3
  rw [show (w7.alloc (.cells #[.int .i64 0, .int .i64 0, .int .i64 0] tI3)).heap.size = w7.heap.size + 1 from by simp] at h13
  obtain ⟨RR, hRR⟩ : ∃ RR : Thing, RR = Both (CellT kw #[(.slice g0 A0.length c0), (.slice g1 A1.length c1), (.slice g2 A2.length c2)] tW3) (Both (RowG tSx 1 (.slice g2 A2.length c2) A2.length (strs A2)) (Both (RowG tSx 1 (.slice g1 A1.length c1) A1.length (strs A1)) (Both (RowG tSx 1 (.slice g0 A0.length c0) A0.length (strs A0)) Nought))) := ⟨_, rfl⟩
  have hRs : Stable RR := by rw [hRR]; exact (CellT.stable _ _ _).both HST.out
  have h14 := h13.perm (show _ = Both RR (Both (CellT w7.heap.size #[.int .i64 0, .int .i64 0, .int .i64 0] tI3) (Both (CellT (w7.heap.size + 1) #[.int .i64 0, .int .i64 0, .int .i64 0] tI3) (Both (StoreT sb (newSt 67108864)) (StoreT tb (newSt 67108864))))) by rw [hRR]; ac_rfl)
  have hw := h14.perm (show _ = Both (CellT kw #[(.slice g0 A0.length c0), (.slice g1 A1.length c1), (.slice g2 A2.length c2)] tW3) (Both (Both (RowG tSx 1 (.slice g2 A2.length c2) A2.length (strs A2)) (Both (RowG tSx 1 (.slice g1 A1.length c1) A1.length (strs A1)) (Both (RowG tSx 1 (.slice g0 A0.length c0) A0.length (strs A0)) Nought))) (Both (CellT w7.heap.size #[.int .i64 0, .int .i64 0, .int .i64 0] tI3) (Both (CellT (w7.heap.size + 1) #[.int .i64 0, .int .i64 0, .int .i64 0] tI3) (Both (StoreT sb (newSt 67108864)) (StoreT tb (newSt 67108864)))))) by rw [hRR]; ac_rfl)
  have y0 := cell_at hw.cell.1 0
  have y1 := cell_at hw.cell.1 1
  have y2 := cell_at hw.cell.1 2
  simp only [List.getElem?_toArray, List.getElem?_cons_zero, List.getElem?_cons_succ] at y0 y1 y2
  have hq0 : ∀ (X : Thing) (w' : World), At W w' (Both RR X) → RdRow w' (.slice g0 A0.length c0) A0.length 1 (strs A0) := fun X w' h => RdRow.of_own (h.perm (show _ = Both (RowG tSx 1 (.slice g0 A0.length c0) A0.length (strs A0)) (Both (CellT kw #[(.slice g0 A0.length c0), (.slice g1 A1.length c1), (.slice g2 A2.length c2)] tW3) (Both (RowG tSx 1 (.slice g2 A2.length c2) A2.length (strs A2)) (Both (RowG tSx 1 (.slice g1 A1.length c1) A1.length (strs A1)) (Both Nought X)))) by rw [hRR]; ac_rfl)).rowG
  have hq1 : ∀ (X : Thing) (w' : World), At W w' (Both RR X) → RdRow w' (.slice g1 A1.length c1) A1.length 1 (strs A1) := fun X w' h => RdRow.of_own (h.perm (show _ = Both (RowG tSx 1 (.slice g1 A1.length c1) A1.length (strs A1)) (Both (CellT kw #[(.slice g0 A0.length c0), (.slice g1 A1.length c1), (.slice g2 A2.length c2)] tW3) (Both (RowG tSx 1 (.slice g2 A2.length c2) A2.length (strs A2)) (Both (RowG tSx 1 (.slice g0 A0.length c0) A0.length (strs A0)) (Both Nought X)))) by rw [hRR]; ac_rfl)).rowG
  have hq2 : ∀ (X : Thing) (w' : World), At W w' (Both RR X) → RdRow w' (.slice g2 A2.length c2) A2.length 1 (strs A2) := fun X w' h => RdRow.of_own (h.perm (show _ = Both (RowG tSx 1 (.slice g2 A2.length c2) A2.length (strs A2)) (Both (CellT kw #[(.slice g0 A0.length c0), (.slice g1 A1.length c1), (.slice g2 A2.length c2)] tW3) (Both (RowG tSx 1 (.slice g1 A1.length c1) A1.length (strs A1)) (Both (RowG tSx 1 (.slice g0 A0.length c0) A0.length (strs A0)) (Both Nought X)))) by rw [hRR]; ac_rfl)).rowG
  have Q0 := Lib.hid hq0
  have Q1 := Lib.hid hq1
  have Q2 := Lib.hid hq2
  have H14 := Lib.hid h14
  have HRs := Lib.hid hRs
  clear h12 h13 h14 hst12 hw hRR hRs hq0 hq1 hq2 HST
  (repeat' (first | (go_big_may; fail) | go_values | go_skip | go_guarded | go_step | go_upon | go_back | dsimp only))
  generalize hkl : w7.heap.size = kl at *
  clear hkl
  generalize (w7.alloc _).alloc _ = w8 at *
  clear y0 y1 y2
  go_loopw [47] (fun vi wr => ∃ (k : Nat) (S T : St) (ms ns : List Nat), vi = .int .i64 k ∧ k ≤ 3 ∧ ms.length = k ∧ ns.length = k ∧ SrtK S (ms.zip [ofL A0, ofL A1, ofL A2]) (mbn k) ∧ SrtK T (ns.zip [ofL A0, ofL A1, ofL A2]) (mbn k) ∧ (∀ r ∈ ms, r ≤ 16777216) ∧ (∀ r ∈ ns, r ≤ 16777216) ∧ At W wr (Both RR (Both (CellT kl (padC ms) tI3) (Both (CellT (kl + 1) (padC ns) tI3) (Both (StoreT sb S) (StoreT tb T)))))) (fun vi _ => 3 - (intOf vi).toNat)
  case atStart => exact ⟨0, newSt 67108864, newSt 67108864, [], [], rfl, by omega, rfl, rfl, SrtK.new, SrtK.new, by simp, by simp, H14.out⟩
  case round =>
    obtain ⟨k, S, T, ms, ns, rfl, hk, hms, hns, hS, hT, hmb, hnb, h⟩ := hrel
    clear H14
    rcases (show k = 0 ∨ k = 1 ∨ k = 2 ∨ k = 3 by omega) with rfl | rfl | rfl | rfl
    · obtain rfl := List.length_eq_zero_iff.1 hms
      obtain rfl := List.length_eq_zero_iff.1 hns
      have hlen : (A0).length ≤ 524416 := by have := wsum_len (A0); have := F0.out.2; omega
      obtain ⟨S', ka, e1, K1, b1, t1⟩ := hS.sort (L := A0) F0.out.1 F0.out.2 (by have := F0.out.2; have := F0.out.2; have := F1.out.2; have := F2.out.2; have := wsum_of A0; have := wsum_of A1; have := wsum_of A2; simp; omega) (by simp only [mbn]; omega) (b := 3) (fan := 2) (by omega) (by omega)
      obtain ⟨T', kb, e2, K2, b2, t2⟩ := hT.sort (L := A0) F0.out.1 F0.out.2 (by have := F0.out.2; have := F0.out.2; have := F1.out.2; have := F2.out.2; have := wsum_of A0; have := wsum_of A1; have := wsum_of A2; simp; omega) (by simp only [mbn]; omega) (b := 7) (fan := 5) (by omega) (by omega)
      have gS := hS.runs.good
      have gT := hT.runs.good
      have HTW := Lib.hid (twin10_calls (A0) (.slice g0 A0.length c0) wr (Q0.out _ _ h) (by omega))
      have H := Lib.hid h
      have hstR : Stable (Both RR (Both (CellT kl #[.int .i64 0, .int .i64 0, .int .i64 0] tI3) (Both (CellT (kl + 1) #[.int .i64 0, .int .i64 0, .int .i64 0] tI3) (Both (StoreT sb S) (StoreT tb T))))) := HRs.out.both ((CellT.stable _ _ _).both ((CellT.stable _ _ _).both ((StoreT.stable _ _).both (StoreT.stable _ _))))
      have HSR := Lib.hid hstR
      have E1 := Lib.hid e1
      have E2 := Lib.hid e2
      have T1 := Lib.hid t1
      have T2 := Lib.hid t2
      have K1 := Lib.hid K1
      have K2 := Lib.hid K2
      have GS := Lib.hid gS
      have GT := Lib.hid gT
      have BB := Lib.hid (And.intro b1 b2)
      clear h hS hT hstR e1 e2 t1 t2 gS gT b1 b2
      (repeat' (first | (go_big_may; fail) | go_values | go_skip | go_guarded | go_step | go_upon | go_back | dsimp only))
      refine HTW.out.mono ?_
      rintro e x1 ⟨va, rfl, hto, hbt⟩
      have h1 := (H.out.newRowG HSR.out hbt hto).perm (show _ = Both (StoreT sb S) (Both (RowG tSx 1 va (A0).length (strs (A0))) (Both RR (Both (CellT kl #[.int .i64 0, .int .i64 0, .int .i64 0] tI3) (Both (CellT (kl + 1) #[.int .i64 0, .int .i64 0, .int .i64 0] tI3) (StoreT tb T))))) by ac_rfl)
      obtain ⟨ga, pa, hva, _, _⟩ := own_shape hto
      subst hva
      have hso := Sort_at9 (ws := A0) (bu := 3) (fan := 2) (v := .slice ga (A0).length pa) h1 ((RowG.stable _ _ _ _ _).both (HRs.out.both ((CellT.stable _ _ _).both ((CellT.stable _ _ _).both (StoreT.stable _ _))))) HF.out GS.out (by unfold inI64; omega) (by unfold inI64; omega) ⟨_, _, rfl, by omega⟩ (ofM_strs _ F0.out.1) (fun w' h' => RdRow.of_own h'.rowG)
      rw [E1.out] at hso
      dsimp only at hso
      rw [errV_zero] at hso
      have HSO := Lib.hid hso
      clear h1 hso hto hbt HTW H HSR
      (repeat' (first | (go_big_may; fail) | go_values | go_skip | go_guarded | go_step | go_upon | go_back | dsimp only))
      refine HSO.out.mono ?_
      rintro e x2 ⟨rfl, h2⟩
      have h3 := (h2.perm (show _ = Both (RowG tSx 1 (.slice ga (A0).length pa) (A0).length (strs (A0))) (Both RR (Both (CellT kl #[.int .i64 0, .int .i64 0, .int .i64 0] tI3) (Both (CellT (kl + 1) #[.int .i64 0, .int .i64 0, .int .i64 0] tI3) (Both (StoreT sb S') (StoreT tb T))))) by ac_rfl)).drop
      have HTW := Lib.hid (twin10_calls (A0) (.slice g0 A0.length c0) x2 (Q0.out _ _ h3) (by omega))
      have H := Lib.hid h3
      have hstR : Stable (Both RR (Both (CellT kl #[.int .i64 0, .int .i64 0, .int .i64 0] tI3) (Both (CellT (kl + 1) #[.int .i64 0, .int .i64 0, .int .i64 0] tI3) (Both (StoreT sb S') (StoreT tb T))))) := HRs.out.both ((CellT.stable _ _ _).both ((CellT.stable _ _ _).both ((StoreT.stable _ _).both (StoreT.stable _ _))))
      have HSR := Lib.hid hstR
      clear h2 h3 HSO hstR
      (repeat' (first | (go_big_may; fail) | go_values | go_skip | go_guarded | go_step | go_upon | go_back | dsimp only))
      refine HTW.out.mono ?_
      rintro e x3 ⟨vb, rfl, hto, hbt⟩
      have h1 := (H.out.newRowG HSR.out hbt hto).perm (show _ = Both (StoreT tb T) (Both (RowG tSx 1 vb (A0).length (strs (A0))) (Both RR (Both (CellT kl #[.int .i64 0, .int .i64 0, .int .i64 0] tI3) (Both (CellT (kl + 1) #[.int .i64 0, .int .i64 0, .int .i64 0] tI3) (StoreT sb S'))))) by ac_rfl)
      obtain ⟨gb, pb, hvb, _, _⟩ := own_shape hto
      subst hvb
      have hso := Sort_at9 (ws := A0) (bu := 7) (fan := 5) (v := .slice gb (A0).length pb) h1 ((RowG.stable _ _ _ _ _).both (HRs.out.both ((CellT.stable _ _ _).both ((CellT.stable _ _ _).both (StoreT.stable _ _))))) HF.out GT.out (by unfold inI64; omega) (by unfold inI64; omega) ⟨_, _, rfl, by omega⟩ (ofM_strs _ F0.out.1) (fun w' h' => RdRow.of_own h'.rowG)
      rw [E2.out] at hso
      dsimp only at hso
      rw [errV_zero] at hso
      have HSO := Lib.hid hso
      clear h1 hso hto hbt HTW H HSR
      (repeat' (first | (go_big_may; fail) | go_values | go_skip | go_guarded | go_step | go_upon | go_back | dsimp only))
      refine HSO.out.mono ?_
      rintro e x4 ⟨rfl, h4⟩
      have h5 := (h4.perm (show _ = Both (RowG tSx 1 (.slice gb (A0).length pb) (A0).length (strs (A0))) (Both (StoreT sb S') (Both (StoreT tb T') (Both RR (Both (CellT kl #[.int .i64 0, .int .i64 0, .int .i64 0] tI3) (CellT (kl + 1) #[.int .i64 0, .int .i64 0, .int .i64 0] tI3))))) by ac_rfl)).drop
      have htx := text_at h5 ((StoreT.stable _ _).both (HRs.out.both ((CellT.stable _ _ _).both (CellT.stable _ _ _)))) (fails13_all HF.out) K1.out.runs.good (z := (ka : Int)) (by have := BB.out; unfold inI64; omega)
      rw [T1.out] at htx
      have HTX := Lib.hid htx
      clear h4 h5 htx HSO
      (repeat' (first | (go_big_may; fail) | go_values | go_skip | go_guarded | go_step | go_upon | go_back | dsimp only))
      refine HTX.out.mono ?_
      rintro e x5 ⟨rfl, h6⟩
      have htx := text_at (h6.perm (show _ = Both (StoreT tb T') (Both (StoreT sb S') (Both RR (Both (CellT kl #[.int .i64 0, .int .i64 0, .int .i64 0] tI3) (CellT (kl + 1) #[.int .i64 0, .int .i64 0, .int .i64 0] tI3)))) by ac_rfl)) ((StoreT.stable _ _).both (HRs.out.both ((CellT.stable _ _ _).both (CellT.stable _ _ _)))) (fails13_all HF.out) K2.out.runs.good (z := (kb : Int)) (by have := BB.out; unfold inI64; omega)
      rw [T2.out] at htx
      have HTX2 := Lib.hid htx
      clear h6 htx HTX
      (repeat' (first | (go_big_may; fail) | go_values | go_skip | go_guarded | go_step | go_upon | go_back | dsimp only))
      refine HTX2.out.mono ?_
      rintro e x6 ⟨rfl, h7⟩
      have h8 := h7.perm (show _ = Both (CellT kl #[.int .i64 0, .int .i64 0, .int .i64 0] tI3) (Both (CellT (kl + 1) #[.int .i64 0, .int .i64 0, .int .i64 0] tI3) (Both RR (Both (StoreT sb S') (StoreT tb T')))) by ac_rfl)
      have hst8 : Stable (Both RR (Both (StoreT sb S') (StoreT tb T'))) := HRs.out.both ((StoreT.stable _ _).both (StoreT.stable _ _))
      have h9 : At W _ (Both (CellT kl #[.int .i64 ka, .int .i64 0, .int .i64 0] tI3) (Both (CellT (kl + 1) #[.int .i64 0, .int .i64 0, .int .i64 0] tI3) (Both RR (Both (StoreT sb S') (StoreT tb T'))))) := h8.setCell ((CellT.stable _ _ _).both hst8) 0 (.int .i64 ka)
      have h10 := h9.perm (show _ = Both (CellT (kl + 1) #[.int .i64 0, .int .i64 0, .int .i64 0] tI3) (Both (CellT kl #[.int .i64 ka, .int .i64 0, .int .i64 0] tI3) (Both RR (Both (StoreT sb S') (StoreT tb T')))) by ac_rfl)
      have h11 : At W _ (Both (CellT (kl + 1) #[.int .i64 kb, .int .i64 0, .int .i64 0] tI3) (Both (CellT kl #[.int .i64 ka, .int .i64 0, .int .i64 0] tI3) (Both RR (Both (StoreT sb S') (StoreT tb T'))))) := h10.setCell ((CellT.stable _ _ _).both hst8) 0 (.int .i64 kb)
      have u0 := cell_at h8.cell.1 0
      have uz := thaw_at h8.cell.1
      have ul := lt_of_heap h8.cell.1
      have v0 := cell_at h10.cell.1 0
      have vz := thaw_at h10.cell.1
      have vl := lt_of_heap h10.cell.1
      simp only [List.getElem?_toArray, List.getElem?_cons_zero, List.getElem?_cons_succ] at u0 v0
      have H11 := Lib.hid (h11.perm (show _ = Both RR (Both (CellT kl #[.int .i64 ka, .int .i64 0, .int .i64 0] tI3) (Both (CellT (kl + 1) #[.int .i64 kb, .int .i64 0, .int .i64 0] tI3) (Both (StoreT sb S') (StoreT tb T')))) by ac_rfl))
      clear h7 h8 h9 h10 h11 hst8 HTX2
      (repeat' (first | (go_big_may; fail) | go_values | go_skip | go_guarded | go_step | go_upon | go_back | dsimp only))
      clear u0 uz ul v0 vz vl
      go_roundw
      case rel => exact ⟨1, S', T', [ka], [kb], rfl, by omega, rfl, rfl, K1.out, K2.out, by have := BB.out.1; simpa using this, by have := BB.out.2; simpa using this, H11.out⟩
      case measure => simp [intOf]
    · obtain ⟨m0, rfl⟩ := List.length_eq_one_iff.1 hms
      obtain ⟨n0, rfl⟩ := List.length_eq_one_iff.1 hns
      have hlen : (A1).length ≤ 524416 := by have := wsum_len (A1); have := F1.out.2; omega
      obtain ⟨S', ka, e1, K1, b1, t1⟩ := hS.sort (L := A1) F1.out.1 F1.out.2 (by have := F1.out.2; have := F0.out.2; have := F1.out.2; have := F2.out.2; have := wsum_of A0; have := wsum_of A1; have := wsum_of A2; simp; omega) (by simp only [mbn]; omega) (b := 3) (fan := 2) (by omega) (by omega)
      obtain ⟨T', kb, e2, K2, b2, t2⟩ := hT.sort (L := A1) F1.out.1 F1.out.2 (by have := F1.out.2; have := F0.out.2; have := F1.out.2; have := F2.out.2; have := wsum_of A0; have := wsum_of A1; have := wsum_of A2; simp; omega) (by simp only [mbn]; omega) (b := 7) (fan := 5) (by omega) (by omega)
      have gS := hS.runs.good
      have gT := hT.runs.good
      have HTW := Lib.hid (twin10_calls (A1) (.slice g1 A1.length c1) wr (Q1.out _ _ h) (by omega))
      have H := Lib.hid h
      have hstR : Stable (Both RR (Both (CellT kl #[.int .i64 m0, .int .i64 0, .int .i64 0] tI3) (Both (CellT (kl + 1) #[.int .i64 n0, .int .i64 0, .int .i64 0] tI3) (Both (StoreT sb S) (StoreT tb T))))) := HRs.out.both ((CellT.stable _ _ _).both ((CellT.stable _ _ _).both ((StoreT.stable _ _).both (StoreT.stable _ _))))
      have HSR := Lib.hid hstR
      have E1 := Lib.hid e1
      have E2 := Lib.hid e2
      have T1 := Lib.hid t1
      have T2 := Lib.hid t2
      have K1 := Lib.hid K1
      have K2 := Lib.hid K2
      have GS := Lib.hid gS
      have GT := Lib.hid gT
      have BB := Lib.hid (And.intro b1 b2)
      clear h hS hT hstR e1 e2 t1 t2 gS gT b1 b2
      (repeat' (first | (go_big_may; fail) | go_values | go_skip | go_guarded | go_step | go_upon | go_back | dsimp only))
      refine HTW.out.mono ?_
      rintro e x1 ⟨va, rfl, hto, hbt⟩
      have h1 := (H.out.newRowG HSR.out hbt hto).perm (show _ = Both (StoreT sb S) (Both (RowG tSx 1 va (A1).length (strs (A1))) (Both RR (Both (CellT kl #[.int .i64 m0, .int .i64 0, .int .i64 0] tI3) (Both (CellT (kl + 1) #[.int .i64 n0, .int .i64 0, .int .i64 0] tI3) (StoreT tb T))))) by ac_rfl)
      obtain ⟨ga, pa, hva, _, _⟩ := own_shape hto
      subst hva
      have hso := Sort_at9 (ws := A1) (bu := 3) (fan := 2) (v := .slice ga (A1).length pa) h1 ((RowG.stable _ _ _ _ _).both (HRs.out.both ((CellT.stable _ _ _).both ((CellT.stable _ _ _).both (StoreT.stable _ _))))) HF.out GS.out (by unfold inI64; omega) (by unfold inI64; omega) ⟨_, _, rfl, by omega⟩ (ofM_strs _ F1.out.1) (fun w' h' => RdRow.of_own h'.rowG)
      rw [E1.out] at hso
      dsimp only at hso
      rw [errV_zero] at hso
      have HSO := Lib.hid hso
      clear h1 hso hto hbt HTW H HSR
      (repeat' (first | (go_big_may; fail) | go_values | go_skip | go_guarded | go_step | go_upon | go_back | dsimp only))
      refine HSO.out.mono ?_
      rintro e x2 ⟨rfl, h2⟩
      have h3 := (h2.perm (show _ = Both (RowG tSx 1 (.slice ga (A1).length pa) (A1).length (strs (A1))) (Both RR (Both (CellT kl #[.int .i64 m0, .int .i64 0, .int .i64 0] tI3) (Both (CellT (kl + 1) #[.int .i64 n0, .int .i64 0, .int .i64 0] tI3) (Both (StoreT sb S') (StoreT tb T))))) by ac_rfl)).drop
      have HTW := Lib.hid (twin10_calls (A1) (.slice g1 A1.length c1) x2 (Q1.out _ _ h3) (by omega))
      have H := Lib.hid h3
      have hstR : Stable (Both RR (Both (CellT kl #[.int .i64 m0, .int .i64 0, .int .i64 0] tI3) (Both (CellT (kl + 1) #[.int .i64 n0, .int .i64 0, .int .i64 0] tI3) (Both (StoreT sb S') (StoreT tb T))))) := HRs.out.both ((CellT.stable _ _ _).both ((CellT.stable _ _ _).both ((StoreT.stable _ _).both (StoreT.stable _ _))))
      have HSR := Lib.hid hstR
      clear h2 h3 HSO hstR
      (repeat' (first | (go_big_may; fail) | go_values | go_skip | go_guarded | go_step | go_upon | go_back | dsimp only))
      refine HTW.out.mono ?_
      rintro e x3 ⟨vb, rfl, hto, hbt⟩
      have h1 := (H.out.newRowG HSR.out hbt hto).perm (show _ = Both (StoreT tb T) (Both (RowG tSx 1 vb (A1).length (strs (A1))) (Both RR (Both (CellT kl #[.int .i64 m0, .int .i64 0, .int .i64 0] tI3) (Both (CellT (kl + 1) #[.int .i64 n0, .int .i64 0, .int .i64 0] tI3) (StoreT sb S'))))) by ac_rfl)
      obtain ⟨gb, pb, hvb, _, _⟩ := own_shape hto
      subst hvb
      have hso := Sort_at9 (ws := A1) (bu := 7) (fan := 5) (v := .slice gb (A1).length pb) h1 ((RowG.stable _ _ _ _ _).both (HRs.out.both ((CellT.stable _ _ _).both ((CellT.stable _ _ _).both (StoreT.stable _ _))))) HF.out GT.out (by unfold inI64; omega) (by unfold inI64; omega) ⟨_, _, rfl, by omega⟩ (ofM_strs _ F1.out.1) (fun w' h' => RdRow.of_own h'.rowG)
      rw [E2.out] at hso
      dsimp only at hso
      rw [errV_zero] at hso
      have HSO := Lib.hid hso
      clear h1 hso hto hbt HTW H HSR
      (repeat' (first | (go_big_may; fail) | go_values | go_skip | go_guarded | go_step | go_upon | go_back | dsimp only))
      refine HSO.out.mono ?_
      rintro e x4 ⟨rfl, h4⟩
      have h5 := (h4.perm (show _ = Both (RowG tSx 1 (.slice gb (A1).length pb) (A1).length (strs (A1))) (Both (StoreT sb S') (Both (StoreT tb T') (Both RR (Both (CellT kl #[.int .i64 m0, .int .i64 0, .int .i64 0] tI3) (CellT (kl + 1) #[.int .i64 n0, .int .i64 0, .int .i64 0] tI3))))) by ac_rfl)).drop
      have htx := text_at h5 ((StoreT.stable _ _).both (HRs.out.both ((CellT.stable _ _ _).both (CellT.stable _ _ _)))) (fails13_all HF.out) K1.out.runs.good (z := (ka : Int)) (by have := BB.out; unfold inI64; omega)
      rw [T1.out] at htx
      have HTX := Lib.hid htx
      clear h4 h5 htx HSO
      (repeat' (first | (go_big_may; fail) | go_values | go_skip | go_guarded | go_step | go_upon | go_back | dsimp only))
      refine HTX.out.mono ?_
      rintro e x5 ⟨rfl, h6⟩
      have htx := text_at (h6.perm (show _ = Both (StoreT tb T') (Both (StoreT sb S') (Both RR (Both (CellT kl #[.int .i64 m0, .int .i64 0, .int .i64 0] tI3) (CellT (kl + 1) #[.int .i64 n0, .int .i64 0, .int .i64 0] tI3)))) by ac_rfl)) ((StoreT.stable _ _).both (HRs.out.both ((CellT.stable _ _ _).both (CellT.stable _ _ _)))) (fails13_all HF.out) K2.out.runs.good (z := (kb : Int)) (by have := BB.out; unfold inI64; omega)
      rw [T2.out] at htx
      have HTX2 := Lib.hid htx
      clear h6 htx HTX
      (repeat' (first | (go_big_may; fail) | go_values | go_skip | go_guarded | go_step | go_upon | go_back | dsimp only))
      refine HTX2.out.mono ?_
      rintro e x6 ⟨rfl, h7⟩
      have h8 := h7.perm (show _ = Both (CellT kl #[.int .i64 m0, .int .i64 0, .int .i64 0] tI3) (Both (CellT (kl + 1) #[.int .i64 n0, .int .i64 0, .int .i64 0] tI3) (Both RR (Both (StoreT sb S') (StoreT tb T')))) by ac_rfl)
      have hst8 : Stable (Both RR (Both (StoreT sb S') (StoreT tb T'))) := HRs.out.both ((StoreT.stable _ _).both (StoreT.stable _ _))
      have h9 : At W _ (Both (CellT kl #[.int .i64 m0, .int .i64 ka, .int .i64 0] tI3) (Both (CellT (kl + 1) #[.int .i64 n0, .int .i64 0, .int .i64 0] tI3) (Both RR (Both (StoreT sb S') (StoreT tb T'))))) := h8.setCell ((CellT.stable _ _ _).both hst8) 1 (.int .i64 ka)
      have h10 := h9.perm (show _ = Both (CellT (kl + 1) #[.int .i64 n0, .int .i64 0, .int .i64 0] tI3) (Both (CellT kl #[.int .i64 m0, .int .i64 ka, .int .i64 0] tI3) (Both RR (Both (StoreT sb S') (StoreT tb T')))) by ac_rfl)
      have h11 : At W _ (Both (CellT (kl + 1) #[.int .i64 n0, .int .i64 kb, .int .i64 0] tI3) (Both (CellT kl #[.int .i64 m0, .int .i64 ka, .int .i64 0] tI3) (Both RR (Both (StoreT sb S') (StoreT tb T'))))) := h10.setCell ((CellT.stable _ _ _).both hst8) 1 (.int .i64 kb)
      have u0 := cell_at h8.cell.1 1
      have uz := thaw_at h8.cell.1
      have ul := lt_of_heap h8.cell.1
      have v0 := cell_at h10.cell.1 1
      have vz := thaw_at h10.cell.1
      have vl := lt_of_heap h10.cell.1
      simp only [List.getElem?_toArray, List.getElem?_cons_zero, List.getElem?_cons_succ] at u0 v0
      have H11 := Lib.hid (h11.perm (show _ = Both RR (Both (CellT kl #[.int .i64 m0, .int .i64 ka, .int .i64 0] tI3) (Both (CellT (kl + 1) #[.int .i64 n0, .int .i64 kb, .int .i64 0] tI3) (Both (StoreT sb S') (StoreT tb T')))) by ac_rfl))
      clear h7 h8 h9 h10 h11 hst8 HTX2
      (repeat' (first | (go_big_may; fail) | go_values | go_skip | go_guarded | go_step | go_upon | go_back | dsimp only))
      clear u0 uz ul v0 vz vl
      go_roundw
      case rel => exact ⟨2, S', T', [m0, ka], [n0, kb], rfl, by omega, rfl, rfl, K1.out, K2.out, fun r hr => by
        simp only [List.mem_cons, List.not_mem_nil, or_false] at hr
        rcases hr with rfl | rfl
        · exact hmb _ (by simp)
        · exact BB.out.1, fun r hr => by
        simp only [List.mem_cons, List.not_mem_nil, or_false] at hr
        rcases hr with rfl | rfl
        · exact hnb _ (by simp)
        · exact BB.out.2, H11.out⟩
      case measure => simp [intOf]
    · obtain ⟨m0, m1, rfl⟩ : ∃ a b, ms = [a, b] := by match ms, hms with | [a, b], _ => exact ⟨a, b, rfl⟩
      obtain ⟨n0, n1, rfl⟩ : ∃ a b, ns = [a, b] := by match ns, hns with | [a, b], _ => exact ⟨a, b, rfl⟩
      have hlen : (A2).length ≤ 524416 := by have := wsum_len (A2); have := F2.out.2; omega
      obtain ⟨S', ka, e1, K1, b1, t1⟩ := hS.sort (L := A2) F2.out.1 F2.out.2 (by have := F2.out.2; have := F0.out.2; have := F1.out.2; have := F2.out.2; have := wsum_of A0; have := wsum_of A1; have := wsum_of A2; simp; omega) (by simp only [mbn]; omega) (b := 3) (fan := 2) (by omega) (by omega)
      obtain ⟨T', kb, e2, K2, b2, t2⟩ := hT.sort (L := A2) F2.out.1 F2.out.2 (by have := F2.out.2; have := F0.out.2; have := F1.out.2; have := F2.out.2; have := wsum_of A0; have := wsum_of A1; have := wsum_of A2; simp; omega) (by simp only [mbn]; omega) (b := 7) (fan := 5) (by omega) (by omega)
      have gS := hS.runs.good
      have gT := hT.runs.good
      have HTW := Lib.hid (twin10_calls (A2) (.slice g2 A2.length c2) wr (Q2.out _ _ h) (by omega))
      have H := Lib.hid h
      have hstR : Stable (Both RR (Both (CellT kl #[.int .i64 m0, .int .i64 m1, .int .i64 0] tI3) (Both (CellT (kl + 1) #[.int .i64 n0, .int .i64 n1, .int .i64 0] tI3) (Both (StoreT sb S) (StoreT tb T))))) := HRs.out.both ((CellT.stable _ _ _).both ((CellT.stable _ _ _).both ((StoreT.stable _ _).both (StoreT.stable _ _))))
      have HSR := Lib.hid hstR
      have E1 := Lib.hid e1
      have E2 := Lib.hid e2
      have T1 := Lib.hid t1
      have T2 := Lib.hid t2
      have K1 := Lib.hid K1
      have K2 := Lib.hid K2
      have GS := Lib.hid gS
      have GT := Lib.hid gT
      have BB := Lib.hid (And.intro b1 b2)
      clear h hS hT hstR e1 e2 t1 t2 gS gT b1 b2
      (repeat' (first | (go_big_may; fail) | go_values | go_skip | go_guarded | go_step | go_upon | go_back | dsimp only))
      refine HTW.out.mono ?_
      rintro e x1 ⟨va, rfl, hto, hbt⟩
      have h1 := (H.out.newRowG HSR.out hbt hto).perm (show _ = Both (StoreT sb S) (Both (RowG tSx 1 va (A2).length (strs (A2))) (Both RR (Both (CellT kl #[.int .i64 m0, .int .i64 m1, .int .i64 0] tI3) (Both (CellT (kl + 1) #[.int .i64 n0, .int .i64 n1, .int .i64 0] tI3) (StoreT tb T))))) by ac_rfl)
      obtain ⟨ga, pa, hva, _, _⟩ := own_shape hto
      subst hva
      have hso := Sort_at9 (ws := A2) (bu := 3) (fan := 2) (v := .slice ga (A2).length pa) h1 ((RowG.stable _ _ _ _ _).both (HRs.out.both ((CellT.stable _ _ _).both ((CellT.stable _ _ _).both (StoreT.stable _ _))))) HF.out GS.out (by unfold inI64; omega) (by unfold inI64; omega) ⟨_, _, rfl, by omega⟩ (ofM_strs _ F2.out.1) (fun w' h' => RdRow.of_own h'.rowG)
      rw [E1.out] at hso
      dsimp only at hso
      rw [errV_zero] at hso
      have HSO := Lib.hid hso
      clear h1 hso hto hbt HTW H HSR
      (repeat' (first | (go_big_may; fail) | go_values | go_skip | go_guarded | go_step | go_upon | go_back | dsimp only))
      refine HSO.out.mono ?_
      rintro e x2 ⟨rfl, h2⟩
      have h3 := (h2.perm (show _ = Both (RowG tSx 1 (.slice ga (A2).length pa) (A2).length (strs (A2))) (Both RR (Both (CellT kl #[.int .i64 m0, .int .i64 m1, .int .i64 0] tI3) (Both (CellT (kl + 1) #[.int .i64 n0, .int .i64 n1, .int .i64 0] tI3) (Both (StoreT sb S') (StoreT tb T))))) by ac_rfl)).drop
      have HTW := Lib.hid (twin10_calls (A2) (.slice g2 A2.length c2) x2 (Q2.out _ _ h3) (by omega))
      have H := Lib.hid h3
      have hstR : Stable (Both RR (Both (CellT kl #[.int .i64 m0, .int .i64 m1, .int .i64 0] tI3) (Both (CellT (kl + 1) #[.int .i64 n0, .int .i64 n1, .int .i64 0] tI3) (Both (StoreT sb S') (StoreT tb T))))) := HRs.out.both ((CellT.stable _ _ _).both ((CellT.stable _ _ _).both ((StoreT.stable _ _).both (StoreT.stable _ _))))
      have HSR := Lib.hid hstR
      clear h2 h3 HSO hstR
      (repeat' (first | (go_big_may; fail) | go_values | go_skip | go_guarded | go_step | go_upon | go_back | dsimp only))
      refine HTW.out.mono ?_
      rintro e x3 ⟨vb, rfl, hto, hbt⟩
      have h1 := (H.out.newRowG HSR.out hbt hto).perm (show _ = Both (StoreT tb T) (Both (RowG tSx 1 vb (A2).length (strs (A2))) (Both RR (Both (CellT kl #[.int .i64 m0, .int .i64 m1, .int .i64 0] tI3) (Both (CellT (kl + 1) #[.int .i64 n0, .int .i64 n1, .int .i64 0] tI3) (StoreT sb S'))))) by ac_rfl)
      obtain ⟨gb, pb, hvb, _, _⟩ := own_shape hto
      subst hvb
      have hso := Sort_at9 (ws := A2) (bu := 7) (fan := 5) (v := .slice gb (A2).length pb) h1 ((RowG.stable _ _ _ _ _).both (HRs.out.both ((CellT.stable _ _ _).both ((CellT.stable _ _ _).both (StoreT.stable _ _))))) HF.out GT.out (by unfold inI64; omega) (by unfold inI64; omega) ⟨_, _, rfl, by omega⟩ (ofM_strs _ F2.out.1) (fun w' h' => RdRow.of_own h'.rowG)
      rw [E2.out] at hso
      dsimp only at hso
      rw [errV_zero] at hso
      have HSO := Lib.hid hso
      clear h1 hso hto hbt HTW H HSR
      (repeat' (first | (go_big_may; fail) | go_values | go_skip | go_guarded | go_step | go_upon | go_back | dsimp only))
      refine HSO.out.mono ?_
      rintro e x4 ⟨rfl, h4⟩
      have h5 := (h4.perm (show _ = Both (RowG tSx 1 (.slice gb (A2).length pb) (A2).length (strs (A2))) (Both (StoreT sb S') (Both (StoreT tb T') (Both RR (Both (CellT kl #[.int .i64 m0, .int .i64 m1, .int .i64 0] tI3) (CellT (kl + 1) #[.int .i64 n0, .int .i64 n1, .int .i64 0] tI3))))) by ac_rfl)).drop
      have htx := text_at h5 ((StoreT.stable _ _).both (HRs.out.both ((CellT.stable _ _ _).both (CellT.stable _ _ _)))) (fails13_all HF.out) K1.out.runs.good (z := (ka : Int)) (by have := BB.out; unfold inI64; omega)
      rw [T1.out] at htx
      have HTX := Lib.hid htx
      clear h4 h5 htx HSO
      (repeat' (first | (go_big_may; fail) | go_values | go_skip | go_guarded | go_step | go_upon | go_back | dsimp only))
      refine HTX.out.mono ?_
      rintro e x5 ⟨rfl, h6⟩
      have htx := text_at (h6.perm (show _ = Both (StoreT tb T') (Both (StoreT sb S') (Both RR (Both (CellT kl #[.int .i64 m0, .int .i64 m1, .int .i64 0] tI3) (CellT (kl + 1) #[.int .i64 n0, .int .i64 n1, .int .i64 0] tI3)))) by ac_rfl)) ((StoreT.stable _ _).both (HRs.out.both ((CellT.stable _ _ _).both (CellT.stable _ _ _)))) (fails13_all HF.out) K2.out.runs.good (z := (kb : Int)) (by have := BB.out; unfold inI64; omega)
      rw [T2.out] at htx
      have HTX2 := Lib.hid htx
      clear h6 htx HTX
      (repeat' (first | (go_big_may; fail) | go_values | go_skip | go_guarded | go_step | go_upon | go_back | dsimp only))
      refine HTX2.out.mono ?_
      rintro e x6 ⟨rfl, h7⟩
      have h8 := h7.perm (show _ = Both (CellT kl #[.int .i64 m0, .int .i64 m1, .int .i64 0] tI3) (Both (CellT (kl + 1) #[.int .i64 n0, .int .i64 n1, .int .i64 0] tI3) (Both RR (Both (StoreT sb S') (StoreT tb T')))) by ac_rfl)
      have hst8 : Stable (Both RR (Both (StoreT sb S') (StoreT tb T'))) := HRs.out.both ((StoreT.stable _ _).both (StoreT.stable _ _))
      have h9 : At W _ (Both (CellT kl #[.int .i64 m0, .int .i64 m1, .int .i64 ka] tI3) (Both (CellT (kl + 1) #[.int .i64 n0, .int .i64 n1, .int .i64 0] tI3) (Both RR (Both (StoreT sb S') (StoreT tb T'))))) := h8.setCell ((CellT.stable _ _ _).both hst8) 2 (.int .i64 ka)
      have h10 := h9.perm (show _ = Both (CellT (kl + 1) #[.int .i64 n0, .int .i64 n1, .int .i64 0] tI3) (Both (CellT kl #[.int .i64 m0, .int .i64 m1, .int .i64 ka] tI3) (Both RR (Both (StoreT sb S') (StoreT tb T')))) by ac_rfl)
      have h11 : At W _ (Both (CellT (kl + 1) #[.int .i64 n0, .int .i64 n1, .int .i64 kb] tI3) (Both (CellT kl #[.int .i64 m0, .int .i64 m1, .int .i64 ka] tI3) (Both RR (Both (StoreT sb S') (StoreT tb T'))))) := h10.setCell ((CellT.stable _ _ _).both hst8) 2 (.int .i64 kb)
      have u0 := cell_at h8.cell.1 2
      have uz := thaw_at h8.cell.1
      have ul := lt_of_heap h8.cell.1
      have v0 := cell_at h10.cell.1 2
      have vz := thaw_at h10.cell.1
      have vl := lt_of_heap h10.cell.1
      simp only [List.getElem?_toArray, List.getElem?_cons_zero, List.getElem?_cons_succ] at u0 v0
      have H11 := Lib.hid (h11.perm (show _ = Both RR (Both (CellT kl #[.int .i64 m0, .int .i64 m1, .int .i64 ka] tI3) (Both (CellT (kl + 1) #[.int .i64 n0, .int .i64 n1, .int .i64 kb] tI3) (Both (StoreT sb S') (StoreT tb T')))) by ac_rfl))
      clear h7 h8 h9 h10 h11 hst8 HTX2
      (repeat' (first | (go_big_may; fail) | go_values | go_skip | go_guarded | go_step | go_upon | go_back | dsimp only))
      clear u0 uz ul v0 vz vl
      go_roundw
      case rel => exact ⟨3, S', T', [m0, m1, ka], [n0, n1, kb], rfl, by omega, rfl, rfl, K1.out, K2.out, fun r hr => by
        simp only [List.mem_cons, List.not_mem_nil, or_false] at hr
        rcases hr with rfl | rfl | rfl
        · exact hmb _ (by simp)
        · exact hmb _ (by simp)
        · exact BB.out.1, fun r hr => by
        simp only [List.mem_cons, List.not_mem_nil, or_false] at hr
        rcases hr with rfl | rfl | rfl
        · exact hnb _ (by simp)
        · exact hnb _ (by simp)
        · exact BB.out.2, H11.out⟩
      case measure => simp [intOf]
    · obtain ⟨m0, m1, m2, rfl⟩ : ∃ a b c, ms = [a, b, c] := by match ms, hms with | [a, b, c], _ => exact ⟨a, b, c, rfl⟩
      obtain ⟨n0, n1, n2, rfl⟩ : ∃ a b c, ns = [a, b, c] := by match ns, hns with | [a, b, c], _ => exact ⟨a, b, c, rfl⟩
      obtain ⟨S4, r1, e1, e2, e3, e4⟩ := again_s (k0 := m0) (k1 := m1) (k2 := m2) hS (by decide)
      obtain ⟨T4, j1, t1, t2, t3, T5, j2, t4, t5, t6, t7⟩ := again_t (k0 := n0) (k1 := n1) (k2 := n2) hT (by decide)
      have hal := merge_alone (fan := 2) e2 (r := r1) (t := frameL (ofL (A0 ++ A1 ++ A2))) (by rw [e3]; simp) (by omega)
      have htx1 : textP S4 (r1 : Int) = frameL (ofL (A0 ++ A1 ++ A2)) := textP_of e2 (p := (r1, ⟨frameL (ofL (A0 ++ A1 ++ A2)), true⟩)) (by rw [e3]; simp) rfl
      have htx2 : textP T5 (j2 : Int) = frameL (ofL (A0 ++ A1 ++ A2)) := textP_of t5 (p := (j2, ⟨frameL (ofL (A0 ++ A1 ++ A2)), true⟩)) (by rw [t6]; simp) rfl
      have hky1 : S4.keys = [(r1 : Int)] := by unfold St.keys; rw [e3]; rfl
      have hky2 : T5.keys = [(j2 : Int)] := by unfold St.keys; rw [t6]; rfl
      have gS := hS.runs.good
      have gT := hT.runs.good
      have zm : ∀ r ∈ [m0, m1, m2], inI64 (r : Int) := fun r hr => by have := hmb r hr; unfold inI64; omega
      have zn : ∀ r ∈ [n0, n1, n2], inI64 (r : Int) := fun r hr => by have := hnb r hr; unfold inI64; omega
      have hh := h.perm (show _ = Both (CellT kl #[.int .i64 m0, .int .i64 m1, .int .i64 m2] tI3) (Both (CellT (kl + 1) #[.int .i64 n0, .int .i64 n1, .int .i64 n2] tI3) (Both RR (Both (StoreT sb S) (StoreT tb T)))) by show Both RR (Both (CellT kl #[.int .i64 m0, .int .i64 m1, .int .i64 m2] tI3) (Both (CellT (kl + 1) #[.int .i64 n0, .int .i64 n1, .int .i64 n2] tI3) _)) = _; ac_rfl)
      have u0 := cell_at hh.cell.1 0
      have u1 := cell_at hh.cell.1 1
      have u2 := cell_at hh.cell.1 2
      simp only [List.getElem?_toArray, List.getElem?_cons_zero, List.getElem?_cons_succ] at u0 u1 u2
      have hst : Stable (Both (CellT kl #[.int .i64 m0, .int .i64 m1, .int .i64 m2] tI3) (Both (CellT (kl + 1) #[.int .i64 n0, .int .i64 n1, .int .i64 n2] tI3) (Both RR (Both (StoreT sb S) (StoreT tb T))))) := (CellT.stable _ _ _).both ((CellT.stable _ _ _).both (HRs.out.both ((StoreT.stable _ _).both (StoreT.stable _ _))))
      have h1 := (hh.newCell hst #[.int .i64 m0, .int .i64 m1, .int .i64 m2] tInt).perm (show _ = Both (StoreT sb S) (Both (CellT wr.heap.size #[.int .i64 m0, .int .i64 m1, .int .i64 m2] tInt) (Both (CellT kl #[.int .i64 m0, .int .i64 m1, .int .i64 m2] tI3) (Both (CellT (kl + 1) #[.int .i64 n0, .int .i64 n1, .int .i64 n2] tI3) (Both RR (StoreT tb T))))) by ac_rfl)
      have hm1 := Merge_at (l := [(m0 : Int), (m1 : Int), (m2 : Int)]) (fan := 3) (v := .slice (some ⟨wr.heap.size, 0, none⟩) 3 3) h1 ((CellT.stable _ _ _).both ((CellT.stable _ _ _).both ((CellT.stable _ _ _).both (HRs.out.both (StoreT.stable _ _))))) HF.out gS (by
        intro z hz
        simp only [List.mem_cons, List.not_mem_nil, or_false] at hz
        rcases hz with rfl | rfl | rfl <;> exact zm _ (by simp)) (by show 3 ≤ _; omega) (by unfold inI64; omega) ⟨_, _, rfl⟩ (fun w' h' => rd_cell h'.cell.1 rfl (by unfold maxLen; decide))
      rw [e1] at hm1
      dsimp only at hm1
      rw [errV_zero] at hm1
      have HM1 := Lib.hid hm1
      have GT := Lib.hid gT
      have ZN := Lib.hid zn
      have E := Lib.hid (And.intro e2 e4)
      have TT := Lib.hid (And.intro t1 (And.intro t2 (And.intro t3 (And.intro t4 (And.intro t5 t7)))))
      have AL := Lib.hid hal
      have TX1 := Lib.hid htx1
      have TX2 := Lib.hid htx2
      have KY1 := Lib.hid hky1
      have KY2 := Lib.hid hky2
      clear h hh hst h1 hm1 gS gT zm zn e1 e2 e3 e4 t1 t2 t3 t4 t5 t6 t7 hal htx1 htx2 hky1 hky2 hS hT hmb hnb
      (repeat' (first | (go_big_may; fail) | go_values | go_skip | go_guarded | go_step | go_upon | go_back | dsimp only))
      clear u0 u1 u2
      refine HM1.out.mono ?_
      rintro e x1 ⟨rfl, h2⟩
      have h3 := (h2.perm (show _ = Both (CellT wr.heap.size #[.int .i64 m0, .int .i64 m1, .int .i64 m2] tInt) (Both (CellT (kl + 1) #[.int .i64 n0, .int .i64 n1, .int .i64 n2] tI3) (Both (CellT kl #[.int .i64 m0, .int .i64 m1, .int .i64 m2] tI3) (Both RR (Both (StoreT sb S4) (StoreT tb T))))) by ac_rfl)).drop
      have u1 := cell_at h3.cell.1 1
      have u2 := cell_at h3.cell.1 2
      simp only [List.getElem?_toArray, List.getElem?_cons_zero, List.getElem?_cons_succ] at u1 u2
      have hst : Stable (Both (CellT (kl + 1) #[.int .i64 n0, .int .i64 n1, .int .i64 n2] tI3) (Both (CellT kl #[.int .i64 m0, .int .i64 m1, .int .i64 m2] tI3) (Both RR (Both (StoreT sb S4) (StoreT tb T))))) := (CellT.stable _ _ _).both ((CellT.stable _ _ _).both (HRs.out.both ((StoreT.stable _ _).both (StoreT.stable _ _))))
      have h4 := (h3.newCell hst #[.int .i64 n2, .int .i64 n1] tInt).perm (show _ = Both (StoreT tb T) (Both (CellT x1.heap.size #[.int .i64 n2, .int .i64 n1] tInt) (Both (CellT (kl + 1) #[.int .i64 n0, .int .i64 n1, .int .i64 n2] tI3) (Both (CellT kl #[.int .i64 m0, .int .i64 m1, .int .i64 m2] tI3) (Both RR (StoreT sb S4))))) by ac_rfl)
      have hm2 := Merge_at (l := [(n2 : Int), (n1 : Int)]) (fan := 2) (v := .slice (some ⟨x1.heap.size, 0, none⟩) 2 2) h4 ((CellT.stable _ _ _).both ((CellT.stable _ _ _).both ((CellT.stable _ _ _).both (HRs.out.both (StoreT.stable _ _))))) HF.out GT.out (by
        intro z hz
        simp only [List.mem_cons, List.not_mem_nil, or_false] at hz
        rcases hz with rfl | rfl <;> exact ZN.out _ (by simp)) (by show 2 ≤ _; omega) (by unfold inI64; omega) ⟨_, _, rfl⟩ (fun w' h' => rd_cell h'.cell.1 rfl (by unfold maxLen; decide))
      rw [TT.out.1] at hm2
      dsimp only at hm2
      rw [errV_zero] at hm2
      have HM2 := Lib.hid hm2
      clear h2 h3 h4 hm2 hst HM1
      (repeat' (first | (go_big_may; fail) | go_values | go_skip | go_guarded | go_step | go_upon | go_back | dsimp only))
      clear u1 u2
      refine HM2.out.mono ?_
      rintro e x2 ⟨rfl, h2⟩
      have h3 := (h2.perm (show _ = Both (CellT x1.heap.size #[.int .i64 n2, .int .i64 n1] tInt) (Both (CellT (kl + 1) #[.int .i64 n0, .int .i64 n1, .int .i64 n2] tI3) (Both (CellT kl #[.int .i64 m0, .int .i64 m1, .int .i64 m2] tI3) (Both RR (Both (StoreT sb S4) (StoreT tb T4))))) by ac_rfl)).drop
      have u0 := cell_at h3.cell.1 0
      simp only [List.getElem?_toArray, List.getElem?_cons_zero] at u0
      have hst : Stable (Both (CellT (kl + 1) #[.int .i64 n0, .int .i64 n1, .int .i64 n2] tI3) (Both (CellT kl #[.int .i64 m0, .int .i64 m1, .int .i64 m2] tI3) (Both RR (Both (StoreT sb S4) (StoreT tb T4))))) := (CellT.stable _ _ _).both ((CellT.stable _ _ _).both (HRs.out.both ((StoreT.stable _ _).both (StoreT.stable _ _))))
      have h4 := (h3.newCell hst #[.int .i64 j1, .int .i64 n0] tInt).perm (show _ = Both (StoreT tb T4) (Both (CellT x2.heap.size #[.int .i64 j1, .int .i64 n0] tInt) (Both (CellT (kl + 1) #[.int .i64 n0, .int .i64 n1, .int .i64 n2] tI3) (Both (CellT kl #[.int .i64 m0, .int .i64 m1, .int .i64 m2] tI3) (Both RR (StoreT sb S4))))) by ac_rfl)
      have hm3 := Merge_at (l := [(j1 : Int), (n0 : Int)]) (fan := 2) (v := .slice (some ⟨x2.heap.size, 0, none⟩) 2 2) h4 ((CellT.stable _ _ _).both ((CellT.stable _ _ _).both ((CellT.stable _ _ _).both (HRs.out.both (StoreT.stable _ _))))) HF.out TT.out.2.1 (by
        intro z hz
        simp only [List.mem_cons, List.not_mem_nil, or_false] at hz
        rcases hz with rfl | rfl
        · have := TT.out.2.2.1; unfold inI64; omega
        · exact ZN.out _ (by simp)) (by show 2 ≤ _; omega) (by unfold inI64; omega) ⟨_, _, rfl⟩ (fun w' h' => rd_cell h'.cell.1 rfl (by unfold maxLen; decide))
      rw [TT.out.2.2.2.1] at hm3
      dsimp only at hm3
      rw [errV_zero] at hm3
      have HM3 := Lib.hid hm3
      clear h2 h3 h4 hm3 hst HM2
      (repeat' (first | (go_big_may; fail) | go_values | go_skip | go_guarded | go_step | go_upon | go_back | dsimp only))
      clear u0
      refine HM3.out.mono ?_
      rintro e x3 ⟨rfl, h2⟩
      have h3 := (h2.perm (show _ = Both (CellT x2.heap.size #[.int .i64 j1, .int .i64 n0] tInt) (Both (CellT (kl + 1) #[.int .i64 n0, .int .i64 n1, .int .i64 n2] tI3) (Both (CellT kl #[.int .i64 m0, .int .i64 m1, .int .i64 m2] tI3) (Both (StoreT sb S4) (Both (StoreT tb T5) RR)))) by ac_rfl)).drop.drop.drop
      have htx := text_at h3 ((StoreT.stable _ _).both HRs.out) (fails13_all HF.out) E.out.1 (z := (r1 : Int)) (by have := E.out.2; unfold inI64; omega)
      rw [TX1.out] at htx
      have HX := Lib.hid htx
      clear h2 h3 htx HM3
      (repeat' (first | (go_big_may; fail) | go_values | go_skip | go_guarded | go_step | go_upon | go_back | dsimp only))
      refine HX.out.mono ?_
      rintro e x4 ⟨rfl, h4⟩
      have htx := text_at (h4.perm (show _ = Both (StoreT tb T5) (Both (StoreT sb S4) RR) by ac_rfl)) ((StoreT.stable _ _).both HRs.out) (fails13_all HF.out) TT.out.2.2.2.2.1 (z := (j2 : Int)) (by have := TT.out.2.2.2.2.2; unfold inI64; omega)
      rw [TX2.out] at htx
      have HX2 := Lib.hid htx
      clear h4 htx HX
      (repeat' (first | (go_big_may; fail) | go_values | go_skip | go_guarded | go_step | go_upon | go_back | dsimp only))
      refine HX2.out.mono ?_
      rintro e x5 ⟨rfl, h5⟩
      have h6 := (h5.newCell ((StoreT.stable _ _).both ((StoreT.stable _ _).both HRs.out)) #[.int .i64 r1] tInt).perm (show _ = Both (StoreT sb S4) (Both (CellT x5.heap.size #[.int .i64 r1] tInt) (Both (StoreT tb T5) RR)) by ac_rfl)
      have hm4 := Merge_at (l := [(r1 : Int)]) (fan := 2) (v := .slice (some ⟨x5.heap.size, 0, none⟩) 1 1) h6 ((CellT.stable _ _ _).both ((StoreT.stable _ _).both HRs.out)) HF.out E.out.1 (by
        intro z hz
        rw [List.mem_singleton.1 hz]
        have := E.out.2; unfold inI64; omega) (by show 1 ≤ _; omega) (by unfold inI64; omega) ⟨_, _, rfl⟩ (fun w' h' => rd_cell h'.cell.1 rfl (by unfold maxLen; decide))
      rw [AL.out] at hm4
      dsimp only at hm4
      rw [errV_zero] at hm4
      have HM4 := Lib.hid hm4
      clear h5 h6 hm4 HX2
      (repeat' (first | (go_big_may; fail) | go_values | go_skip | go_guarded | go_step | go_upon | go_back | dsimp only))
      refine HM4.out.mono ?_
      rintro e x6 ⟨rfl, h7⟩
      have hrr : ((r1 : Int) == (r1 : Int)) = true := by simp
      have hlv := Live_at h7 ((CellT.stable _ _ _).both ((StoreT.stable _ _).both HRs.out))
      rw [KY1.out] at hlv
      have HLV := Lib.hid hlv
      clear h7 hlv HM4
      (repeat' (first | (go_big_may; fail) | go_values | go_skip | go_guarded | go_step | go_upon | go_back | dsimp only))
      refine HLV.out.mono ?_
      rintro e x7 ⟨vl, rfl, h8⟩
      obtain ⟨al, cl, hvl, _, _⟩ := own_shape h8.row
      have hvl2 : vl = .slice al 1 cl := hvl
      subst hvl2
      have hlv := Live_at (h8.drop.perm (show _ = Both (StoreT tb T5) (Both (StoreT sb S4) (Both (CellT x5.heap.size #[.int .i64 r1] tInt) RR)) by ac_rfl)) ((StoreT.stable _ _).both ((CellT.stable _ _ _).both HRs.out))
      rw [KY2.out] at hlv
      have HLV2 := Lib.hid hlv
      clear h8 hlv HLV hvl
      (repeat' (first | (go_big_may; fail) | go_values | go_skip | go_guarded | go_step | go_upon | go_back | dsimp only))
      refine HLV2.out.mono ?_
      rintro e x8 ⟨vl2, rfl, h9⟩
      obtain ⟨al2, cl2, hvl2, _, _⟩ := own_shape h9.row
      have hvl3 : vl2 = .slice al2 1 cl2 := hvl2
      subst hvl3
      have HBE := Lib.hid h9.below
      clear h9 HLV2 hvl2
      (repeat' (first | (go_big_may; fail) | go_values | go_skip | go_guarded | go_step | go_upon | go_back | dsimp only))
      go_ret
      exact ⟨rfl, HBE.out⟩
end Go.Proofs.YtadokkffmekndaaGreatDoor

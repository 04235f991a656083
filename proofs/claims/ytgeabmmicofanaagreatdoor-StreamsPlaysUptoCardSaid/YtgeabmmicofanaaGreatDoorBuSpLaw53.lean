/- StreamsPlays walked. -/
import Derived.Test.YtgeabmmicofanaaGreatDoorBuSpLaw52
set_option linter.unusedSimpArgs false
set_option linter.unusedVariables false
namespace Go.Proofs.YtgeabmmicofanaaGreatDoor
open Go.RowKit

theorem getD_mem9 {ops : List Op9} {k : Nat} (h : k < ops.length) : ops.getD k default ∈ ops := by
  rw [List.getD_eq_getElem?_getD, List.getElem?_eq_getElem h]
  exact List.getElem_mem h
set_option maxRecDepth 100000 in
set_option maxHeartbeats 6400000 in
theorem streamsPlays_walk (W : World) (ef : Nat → Nat × Nat) (hF : Fails W ef fails10) (ops : List Op9) (v : Value) (hops : OpsRow W v ops) (hlen : ops.length ≤ 1048576) :
    Calls Tryz.prog 3 #[v] W fun e w' => e = .returned (.bool true) ∧ Below W.heap.size W w' := by
  have HF := Lib.hid hF
  have HO := Lib.hid hops
  obtain ⟨ao, cap, hv, hcap, hcm⟩ := hops.row.shape
  subst hv
  have hnot : ∀ (x : Bool) (w : World), (Op.unary .not (.bool x)).run Tryz.prog w = .ok (.bool (!x)) w := fun _ _ => rfl
  clear hF hops
  go_enter Tryz.func3, Tryz.ntmps3
  (repeat' (first | (go_big_may; fail) | go_values | go_skip | go_guarded | go_step | go_upon | go_back | dsimp only))
  refine (New_at (At.nought (Below.refl _ _)) Stable.nought (c := 1048576) (by unfold inI64; omega)).mono ?_
  rintro e w1 ⟨rfl, h1⟩
  generalize W.heap.size + 1 = b at *
  have hst1 := (StoreT.stable b (newSt 1048576)).both Stable.nought
  have h2 := h1.newCell hst1 (wl8C b (.slice none 0 0) (.slice none 0 0) (.slice none 0 0)) tWl8
  have hs2 := (CellT.stable w1.heap.size (wl8C b (.slice none 0 0) (.slice none 0 0) (.slice none 0 0)) tWl8).both hst1
  have h3 := h2.noRowG hs2 tStr 1
  have hs3 := (RowG.stable tStr 1 (.slice none 0 0) 0 []).both hs2
  have h4 := h3.noRowG hs3 tTxs 1
  have hs4 := (RowG.stable tTxs 1 (.slice none 0 0) 0 []).both hs3
  have h5 := h4.noRowG hs4 tInt 1
  have h6 : At W _ (Both (WlI w1.heap.size b [] (.slice none 0 0) (.slice none 0 0) (.slice none 0 0)) (Both (StoreT b (newSt 1048576)) Nought)) := h5.perm (by
    show Both (RowG tInt 1 (.slice none 0 0) 0 []) (Both (RowG tTxs 1 (.slice none 0 0) 0 []) (Both (RowG tStr 1 (.slice none 0 0) 0 []) (Both (CellT w1.heap.size (wl8C b (.slice none 0 0) (.slice none 0 0) (.slice none 0 0)) tWl8) (Both (StoreT b (newSt 1048576)) Nought)))) = Both (Both (CellT w1.heap.size (wl8C b (.slice none 0 0) (.slice none 0 0) (.slice none 0 0)) tWl8) (Both (RowG tStr 1 (.slice none 0 0) 0 []) (Both (RowG tTxs 1 (.slice none 0 0) 0 []) (RowG tInt 1 (.slice none 0 0) 0 [])))) _
    ac_rfl)
  have hs6 := (WlI.stable w1.heap.size b [] (.slice none 0 0) (.slice none 0 0) (.slice none 0 0)).both hst1
  have hwk := wakes8_calls (w1.alloc (.cells (wl8C b (.slice none 0 0) (.slice none 0 0) (.slice none 0 0)) tWl8))
  have H6 := Lib.hid fun (w' : World) (hb : Below (w1.alloc (.cells (wl8C b (.slice none 0 0) (.slice none 0 0) (.slice none 0 0)) tWl8)).heap.size (w1.alloc (.cells (wl8C b (.slice none 0 0) (.slice none 0 0) (.slice none 0 0)) tWl8)) w') => h6.mono hs6 hb
  have HWK := Lib.hid hwk
  have eqs := nil_neq_ptr ⟨b, 0, none⟩
  clear h1 h2 h3 h4 h5 h6 hwk hst1 hs2 hs3 hs4 hs6
  (repeat' (first | (go_big_may; fail) | go_values | go_skip | go_guarded | go_step | go_upon | go_back | dsimp only))
  refine HWK.out.mono ?_
  rintro e w4 ⟨rfl, hb4⟩
  have h7 := H6.out _ hb4
  generalize w1.heap.size = kx at *
  have k0 := cell_at h7.toR.cell.1 0
  have lk := lt_of_heap h7.toR.cell.1
  simp only [List.getElem?_toArray, List.getElem?_cons_zero, List.getElem?_cons_succ] at k0
  have H7 := Lib.hid h7
  clear h7 hb4 H6 HWK
  (repeat' (first | (go_big_may; fail) | go_values | go_skip | go_guarded | go_step | go_upon | go_back | dsimp only))
  go_loopw [21] (fun i wr => ∃ (k : Nat) (S : St) (rs : RunsOf) (N : Thing) (l : List Nd) (gv wv pv : Value), i = .int .i64 k ∧ k ≤ ops.length ∧ l.length ≤ k ∧ LsOk W b S rs N l ∧ At W wr (Both (WlI kx b l gv wv pv) (Both (StoreT b S) N))) (fun i _ => ops.length - (intOf i).toNat)
  case atStart => exact ⟨0, _, [], _, [], _, _, _, rfl, by omega, by simp, ⟨Stable.nought, (fun _ h => by cases h), (fun _ h => by cases h), (fun _ h => by cases h), GoodS.new _, HoldsT.nil⟩, H7.out⟩
  case round =>
    obtain ⟨k, S, rs, N, l, gv, wv, pv, rfl, hk, hlk, hls, hh⟩ := hrel
    have HH := Lib.hid hh
    have HL := Lib.hid hls
    clear H7 hls k0 lk
    by_cases hlt : (k : Int) < ops.length
    · have hkl : k < ops.length := by omega
      obtain ⟨bo, oo, co, hsl, ⟨x0, x1, x2, x3⟩, hop⟩ := (HO.out.below hh.below).op hkl
      cases hsl
      have hopW : OpOk W (ops.getD k default) := HO.out.each _ (getD_mem9 hkl)
      obtain ⟨av, cv, hov, _, _⟩ := hopW.row.shape
      generalize ops.getD k default = o at *
      have HOP := Lib.hid hopW
      obtain ⟨ok, oat, on, ov, op⟩ := o
      dsimp only at hov x0 x1 x2 x3
      subst hov
      have hk0 : (0 : Int) ≤ k := by omega
      have hst := (WlI.stable kx b l gv wv pv).both ((StoreT.stable b S).both HL.out.st)
      have h4 := HH.out.newCell hst (cellsO9 ⟨ok, oat, on, .slice av op.length cv, op⟩).toArray tNode
      obtain ⟨w4, hw4⟩ : ∃ w4, w4 = wr.alloc (.cells (cellsO9 ⟨ok, oat, on, .slice av op.length cv, op⟩).toArray tNode) := ⟨_, rfl⟩
      rw [← hw4] at h4
      have H4 := Lib.hid h4
      have HW4 := Lib.hid hw4
      clear h4 hw4 hh hop
      go_upto_region 7 with (fail)
      rw [show wr.alloc (Obj.cells #[.int .i64 ok, .int .i64 oat, .int .i64 on, .slice av op.length cv] tNode) = w4 from HW4.out.symm]
      clear HW4 x0 x1 x2 x3
      generalize wr.heap.size = s4 at *
      have y0 := cell_at H4.out.cell.1 0; have y1 := cell_at H4.out.cell.1 1; have y2 := cell_at H4.out.cell.1 2; have y3 := cell_at H4.out.cell.1 3
      have ly := lt_of_heap H4.out.cell.1
      simp only [List.getElem?_toArray, List.getElem?_cons_zero, List.getElem?_cons_succ] at y0 y1 y2 y3
      (repeat' (first | (go_big_may; fail) | go_values | go_skip | go_guarded | go_step | go_upon | go_back | dsimp only))
      refine (make_calls HF.out H4.out.drop HL.out (by omega) ⟨ok, oat, on, .slice av op.length cv, op⟩ HOP.out).mono ?_
      rintro e w5 ⟨rfl, l2, S2, rs2, N2, gv2, wv2, pv2, hl2, hls2, h5⟩
      have HL2 := Lib.hid hls2
      have H5 := Lib.hid h5
      have hwr : IntKind.i64.wrap ((k : Int) + 1) = ((k + 1 : Nat) : Int) := by rw [IntKind.wrap_i64] <;> omega
      clear h5 hls2 y0 y1 y2 y3 ly H4
      (repeat' (first | (go_big_may; fail) | go_values | go_skip | go_guarded | go_step | go_upon | go_back | dsimp only))
      go_roundw
      case rel => exact ⟨k + 1, S2, rs2, N2, l2, gv2, wv2, pv2, by simp, by omega, by omega, HL2.out, H5.out⟩
      case measure => simp [intOf] <;> omega
    · clear hh
      have hln : l.length ≤ 1048576 := by omega
      have hstE := (WlI.stable kx b l gv wv pv).both ((StoreT.stable b S).both HL.out.st)
      (repeat' (first | (go_big_may; fail) | go_values | go_skip | go_guarded | go_step | go_upon | go_back | dsimp only))
      go_loopw [30] (fun i w2 => ∃ j : Nat, i = .int .i64 j ∧ j ≤ 2 ∧ At W w2 (Both (WlI kx b l gv wv pv) (Both (StoreT b S) N))) (fun i _ => 2 - (intOf i).toNat)
      case atStart => exact ⟨0, rfl, by omega, HH.out⟩
      case round =>
        obtain ⟨j, rfl, hj, h2⟩ := hrel
        by_cases hj2 : (j : Int) < 2
        · have k1 := cell_at h2.toR.cell.1 1
          have lk := lt_of_heap h2.toR.cell.1
          simp only [List.getElem?_toArray, List.getElem?_cons_zero, List.getElem?_cons_succ] at k1
          obtain ⟨g1, p1, rfl, _, _⟩ := own_shape h2.toR.drop.toR.rowG
          have H2 := Lib.hid h2
          clear h2
          (repeat' (first | (go_big_may; fail) | go_values | go_skip | go_guarded | go_step | go_upon | go_back | dsimp only))
          go_loopw [37] (fun i w3 => ∃ m : Nat, i = .int .i64 m ∧ m ≤ l.length ∧ At W w3 (Both (WlI kx b l (.slice g1 l.length p1) wv pv) (Both (StoreT b S) N))) (fun i _ => l.length - (intOf i).toNat)
          case atStart => exact ⟨0, rfl, by omega, H2.out⟩
          case round =>
            obtain ⟨m, rfl, hm, h3⟩ := hrel
            clear k1 lk
            by_cases hml : (m : Int) < l.length
            · have hm2 : m < l.length := by omega
              obtain ⟨d, hd⟩ : ∃ d, l[m]? = some d := ⟨_, List.getElem?_eq_getElem hm2⟩
              have hmem := List.mem_of_getElem? hd
              have kc0 := h3.toR.cell.1
              have kk1 := cell_at kc0 1
              have kk2 := cell_at kc0 2
              have lkx := lt_of_heap kc0
              simp only [List.getElem?_toArray, List.getElem?_cons_zero, List.getElem?_cons_succ] at kk1 kk2
              have r1 := h3.toR.drop.toR.rowG
              have r2 := h3.toR.drop.toR.drop.toR.rowG
              obtain ⟨gg, pp, hsl, _, _, _⟩ := own_cut r1 (by omega)
              cases hsl
              obtain ⟨g2, p2, rfl, _, _, _⟩ := own_cut r2 (by omega)
              have c1 := r1.cellAt m (by omega)
              have c2 := r2.cellAt m (by omega)
              simp only [List.getElem?_map, hd, Option.map_some] at c1 c2
              have hm0 : (0 : Int) ≤ m := by omega
              have hnd := HL.out.ok d hmem
              have hdp := HL.out.p d hmem
              have hdl := hnd.len
              have h4 := (h3.drew hstE).perm (show _ = Both (Both N (StoreT b S)) (WlI kx b l (.slice (some ⟨gg, 0, none⟩) l.length p1) (.slice (some ⟨g2, 0, none⟩) l.length p2) pv) by ac_rfl)
              have his := is_at (hnd.str S HL.out.holds) (HL.out.st.both (StoreT.stable b S)) (WlI.stable kx b l (.slice (some ⟨gg, 0, none⟩) l.length p1) (.slice (some ⟨g2, 0, none⟩) l.length p2) pv) h4 (by omega) (fun w' h' => hnd.want w' (Both (StoreT b S) (WlI kx b l (.slice (some ⟨gg, 0, none⟩) l.length p1) (.slice (some ⟨g2, 0, none⟩) l.length p2) pv)) (h'.perm (by ac_rfl)))
              have HIS := Lib.hid his
              have hwr : IntKind.i64.wrap ((m : Int) + 1) = ((m + 1 : Nat) : Int) := by rw [IntKind.wrap_i64] <;> omega
              have HDm := Lib.hid hd
              have hcg := And.intro kk1 (And.intro kk2 (And.intro c1 c2))
              clear hnd hdp hdl h4 his h3 kc0 r1 r2 hd hmem H2
              obtain ⟨du, dw, dL, dp⟩ := d
              dsimp only at c1 c2 hcg
              go_upto_region 15 with (fail)
              go_region_held3 (fun wx => wx.cell? ⟨kx, 1, none⟩ = some (Value.slice (some ⟨gg, 0, none⟩) l.length p1) ∧ wx.cell? ⟨kx, 2, none⟩ = some (Value.slice (some ⟨g2, 0, none⟩) l.length p2) ∧ wx.cell? ⟨gg, m, none⟩ = some du ∧ wx.cell? ⟨g2, m, none⟩ = some dw) (first | assumption | go_keep) (
                (go_at_call 7; (refine Calls.mono HIS.out ?_); rintro e w8 ⟨rfl, h8⟩
                 have h9 := h8.perm (show _ = Both (WlI kx b l (.slice (some ⟨gg, 0, none⟩) l.length p1) (.slice (some ⟨g2, 0, none⟩) l.length p2) pv) (Both (StoreT b S) N) by ac_rfl)
                 have kc0 := h9.toR.cell.1
                 have r1 := h9.toR.drop.toR.rowG
                 have r2 := h9.toR.drop.toR.drop.toR.rowG
                 have d1 := r1.cellAt m (by omega)
                 have d2 := r2.cellAt m (by omega)
                 simp only [List.getElem?_map, HDm.out, Option.map_some] at d1 d2
                 have d3 := cell_at kc0 1
                 have d4 := cell_at kc0 2
                 simp only [List.getElem?_toArray, List.getElem?_cons_zero, List.getElem?_cons_succ] at d3 d4
                 have hcg9 := And.intro d3 (And.intro d4 (And.intro d1 d2))
                 have H9 := Lib.hid h9
                 clear h8 h9 kc0 r1 r2 d1 d2 d3 d4))
              all_goals
                (repeat' (first | (go_big_may; fail) | go_values | go_skip | go_guarded | go_step | go_upon | go_back | dsimp only))
                go_roundw
                case rel => exact ⟨m + 1, by simp, by omega, H9.out⟩
                case measure => simp [intOf] <;> omega
            · have H3 := Lib.hid h3
              have hwr : IntKind.i64.wrap ((j : Int) + 1) = ((j + 1 : Nat) : Int) := by rw [IntKind.wrap_i64] <;> omega
              clear h3 H2
              (repeat' (first | (go_big_may; fail) | go_values | go_skip | go_guarded | go_step | go_upon | go_back | dsimp only))
              go_roundw
              case rel => exact ⟨j + 1, by simp, by omega, H3.out⟩
              case measure => simp [intOf] <;> omega
        · have H2 := Lib.hid h2
          clear h2
          (repeat' (first | (go_big_may; fail) | go_values | go_skip | go_guarded | go_step | go_upon | go_back | dsimp only))
          go_ret
          exact ⟨rfl, H2.out.below⟩
end Go.Proofs.YtgeabmmicofanaaGreatDoor

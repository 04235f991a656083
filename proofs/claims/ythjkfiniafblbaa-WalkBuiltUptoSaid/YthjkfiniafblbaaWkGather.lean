/- walk's gather walked: the words of a tree are put behind the list, up to most in all. -/
import Derived.Test.YthjkfiniafblbaaWkCount
import Derived.Test.YthjkfiniafblbaaWkNth
import Derived.Test.YthjkfiniafblbaaDawgCut
import Derived.Test.YthjkfiniafblbaaStill
import Derived.Deep.RegionLaw
namespace Go.Proofs.Ythjkfiniafblbaa
open Go.RowKit

abbrev tLs : TypeId := 92
abbrev tStr : TypeId := 9
/-- The lister in memory. -/
abbrev GaT (kl most : Nat) (va vw vo : Value) (pre : List UInt8) (L : List (List UInt8)) (R : Thing) : Thing :=
  Both (CellT kl #[va, vw, vo, .int .i64 (most : Nat)] tLs) (Both (RowG 5 1 vw pre.length (bvs pre)) (Both (RowG tStr 1 vo L.length (strs L)) R))
theorem GaT.stable {kl most : Nat} {va vw vo : Value} {pre : List UInt8} {L : List (List UInt8)} {R : Thing} (h : Stable R) : Stable (GaT kl most va vw vo pre L R) := (CellT.stable _ _ _).both ((RowG.stable _ _ _ _ _).both ((RowG.stable _ _ _ _ _).both h))
theorem isEmpty_iff (s : ByteArray) : s.toList.isEmpty = true ↔ s.size = 0 := by
  rw [Lib.toList_data, List.isEmpty_iff_length_eq_zero]
  simp
theorem info_St : (Try.prog.info? tStr).map (fun i => (i.zero, i.size, i.bytes)) = some (some (.string ⟨#[]⟩), 1, 16) := by kernel_rfl
theorem toList_get0 {s : ByteArray} {i : Nat} (h : i < s.size) : s.data.toList[i]? = some s[i] := by
  rw [List.getElem?_eq_getElem (by simpa using h)]; rfl
theorem extract1 (s : ByteArray) : (s.extract 1 s.size).data.toList = s.data.toList.drop 1 := by
  simp [ByteArray.data_extract]
  exact List.take_of_length_le (by simp)
theorem wT_split (t : Trie) (f : List UInt8) (L : List (List UInt8)) (pre : List UInt8) (most : Nat) : (L ++ pwT pre (headL t f) ++ pwT pre (lE t f)).take most = (L ++ pwT pre (wT t f)).take most := by
  unfold wT
  rw [pwT_app, List.append_assoc]

set_option maxRecDepth 100000 in
set_option maxHeartbeats 3200000 in
theorem gather_at {W : World} {A : List Sta} {va : Value} (hA : RdAut W va A) (_hl : A.length ≤ 1048576 ∧ edgesN A ≤ 1048576) (kl most : Nat) (hmost : most ≤ 4096) (k : Nat) : ∀ (w : World) (n : Nat) (t : Trie) (fs : ByteArray) (vw vo : Value) (pre : List UInt8) (L : List (List UInt8)) (R : Thing),
    At W w (GaT kl most va vw vo pre L R) → Stable R → Unf A n t → htT t < k → pre.length + htT t ≤ 1048576 → L.length < most →
    Calls Try.prog 42 #[ptrN kl, .int .i64 n, .string fs] w fun e w' => ∃ vw' vo' pre', e = .returned (.bool (decide (((L ++ pwT pre (wT t fs.data.toList)).take most).length < most))) ∧
      (((L ++ pwT pre (wT t fs.data.toList)).take most).length < most → pre' = pre) ∧ At W w' (GaT kl most va vw' vo' pre' ((L ++ pwT pre (wT t fs.data.toList)).take most) R) := by
  induction k with
  | zero => intro w n t fs vw vo pre L R _ _ _ h; omega
  | succ k ih =>
    intro w n t fs vw vo pre L R h hR hu hk hpl hL
    have hn := hu.lt
    have hnI : (n : Int) < (A.length : Int) := by omega
    obtain ⟨x, hx, hux⟩ := hu
    obtain ⟨b, off, cap, u, hsv, d0, d1, hue⟩ := hA.at hx
    obtain ⟨ua, uc, rfl, _, huc⟩ := hue.shape
    unfold maxLen at huc
    obtain ⟨wa, wca, rfl, _, hwca⟩ := own_shape h.drop.rowG
    obtain ⟨oa, oc, rfl, _, hoc⟩ := own_shape h.drop.drop.rowG
    unfold maxLen at hwca hoc
    subst hsv
    have D1 := Lib.hid d1
    replace d0 := (h.below.cell (World.block_lt_of_cell? _ _ d0)).trans d0
    have hel := edgesN_le hx
    have hfin := hux.final
    obtain ⟨c0, _, hkl⟩ := h.cellF (o := 0) rfl
    obtain ⟨c1, _, _⟩ := h.cellF (o := 1) rfl
    obtain ⟨c2, f2, _⟩ := h.cellF (o := 2) rfl
    have H := Lib.hid h
    have HR := Lib.hid hR
    have HU := Lib.hid hux
    have IH := Lib.hid ih
    have HE := Lib.hid (show RdEds W (.slice ua x.edges.length uc) x.edges from hue)
    have HFIN := Lib.hid hfin
    clear h hR hux hx ih hue hfin
    go_enter Try.func42, Try.ntmps42
    have hfsE := isEmpty_iff fs
    have HFS := Lib.hid hfsE
    clear hfsE
    go_upto_region 1 with (fail)
    go_cut [21] (fun v wx => v = .bool (x.final && fs.toList.isEmpty) ∧ wx = w)
    case first =>
      refine wp_norm ?_
      rename_i J K' hJ hK
      have HJ := Lib.hid hJ
      have HK := Lib.hid hK
      clear hJ hK
      cases hf : x.final <;> rw [hf] at d0
      all_goals
        (repeat' (first | (go_big_may; fail) | go_values | go_skip | go_guarded | go_step | go_upon | go_back | dsimp only))
        refine HK.out _ _ ?_
        have hJ := HJ.out
        go_meet
        case rel => exact ⟨by rw [hf]; rfl, rfl⟩
    case rest =>
    obtain ⟨rfl, hwc⟩ := hcut
    have hwc' := hwc.symm
    subst hwc'
    go_upto_if 21 with (fail)
    go_cut [] (fun wx => ∃ (oa' : Option Addr) (oc' : Nat), At W wx (GaT kl most (.slice (some ⟨b, off, none⟩) A.length cap) (.slice wa pre.length wca) (.slice oa' (L ++ pwT pre (headL t fs.data.toList)).length oc') pre (L ++ pwT pre (headL t fs.data.toList)) R))
    case first =>
      refine wp_norm ?_
      rename_i J K' hJ hK
      have HJ := Lib.hid hJ
      have HK := Lib.hid hK
      clear hJ hK
      cases hf : x.final with
      | false =>
        rw [Bool.false_and]
        (repeat' (first | (go_big_may; fail) | go_values | go_skip | go_guarded | go_step | go_upon | go_back | dsimp only))
        refine HK.out _ _ ?_
        have hJ := HJ.out
        go_meet
        case rel =>
          rw [headL_not (by rw [HFIN.out, hf]; simp)]
          simp only [pwT, List.map_nil, List.append_nil]
          exact ⟨oa, oc, H.out⟩
      | true =>
        rw [Bool.true_and]
        by_cases hfe : fs.size = 0
        · have hE := HFS.out.2 hfe
          have hnil : fs.data.toList = [] := List.eq_nil_of_length_eq_zero (by simpa using hfe)
          have hh : headL t fs.data.toList = [[]] := by rw [hnil]; exact headL_yes (by rw [HFIN.out, hf])
          rw [hh] at HJ
          rw [hE]
          have hst1 := (CellT.stable kl #[.slice (some ⟨b, off, none⟩) A.length cap, .slice wa pre.length wca, .slice oa L.length oc, .int .i64 (most : Nat)] tLs).both ((RowG.stable 5 1 (.slice wa pre.length wca) pre.length (bvs pre)).both HR.out)
          have h5 : At W w (Both (RowG tStr 1 (.slice oa L.length oc) L.length (strs L)) (Both (CellT kl #[.slice (some ⟨b, off, none⟩) A.length cap, .slice wa pre.length wca, .slice oa L.length oc, .int .i64 (most : Nat)] tLs) (Both (RowG 5 1 (.slice wa pre.length wca) pre.length (bvs pre)) R))) := H.out.pull3
          have hcv := run_string_own (P := Try.prog) (w := w.drew) 83 9 5 (.slice wa pre.length wca) pre.length pre Try.underlying83 Try.underlying5 Try.underlying9 (H.out.drop.rowG)
          obtain ⟨v2, w4, hrun, h6, _, _⟩ := append_at_run (P := Try.prog) 36 36 tStr Try.underlying36 info_St rfl (by decide) (h5.drew ((RowG.stable _ _ _ _ _).both hst1)) hst1 (C := #[.string ⟨pre.toArray⟩]) (m := 1) (c := 1) rfl (one_str _) (by unfold maxLen; omega) (by omega)
          obtain ⟨a2, cp2, rfl, _, _⟩ := own_shape h6.rowG
          obtain ⟨e2, fe2, _⟩ := h6.drop.cellF (o := 2) rfl
          have h7 := h6.swap.setCell ((RowG.stable _ _ _ _ _).both ((RowG.stable _ _ _ _ _).both HR.out)) 2 (.slice a2 (L.length + 1) cp2)
          have H7 := Lib.hid h7
          clear h5 h6 h7 hst1 hfe
          (repeat' (first | (go_big_may; fail) | go_values | go_skip | go_guarded | go_step | go_upon | go_back | dsimp only))
          go_region_law (refine step_append_run rfl _ _ 36 rfl _ _ rfl rfl hrun ?_)
          all_goals
            refine HK.out _ _ ?_
            have hJ := HJ.out
            go_meet
            case rel =>
              have e1 : (L ++ pwT pre [[]]).length = L.length + 1 := by simp [pwT]
              have e2 : strs (L ++ pwT pre [[]]) = strs L ++ (#[.string ⟨pre.toArray⟩] : Array Value).toList := by simp [pwT, strs]
              refine ⟨a2, cp2, ?_⟩
              show At W _ (Both _ (Both _ (Both (RowG tStr 1 _ (L ++ pwT pre [[]]).length (strs (L ++ pwT pre [[]]))) R)))
              rw [e1, e2]
              exact H7.out.swap2
        · have hE : fs.toList.isEmpty = false := by
            cases h : fs.toList.isEmpty with
            | false => rfl
            | true => exact absurd (HFS.out.1 h) hfe
          have hh : headL t fs.data.toList = [] := headL_not (by rintro ⟨_, h⟩; exact hfe (by have := congrArg List.length h; simpa using this))
          rw [hh] at HJ
          rw [hE]
          clear hfe
          (repeat' (first | (go_big_may; fail) | go_values | go_skip | go_guarded | go_step | go_upon | go_back | dsimp only))
          refine HK.out _ _ ?_
          have hJ := HJ.out
          go_meet
          case rel =>
            simp only [pwT, List.map_nil, List.append_nil]
            exact ⟨oa, oc, H.out⟩
    case rest =>
      obtain ⟨oa2, oc2, hcut⟩ := hcut
      have HC0 := Lib.hid hcut
      have d1 := (hcut.below.cell (World.block_lt_of_cell? _ _ D1.out)).trans D1.out
      obtain ⟨z0, _, zkl⟩ := hcut.cellF (o := 0) rfl
      have HT := Lib.hid (wT_split t fs.data.toList L pre most)
      clear hcut d0 c0 c1 c2 f2
      (repeat' (first | (go_big_may; fail) | go_values | go_skip | go_guarded | go_step | go_upon | go_back | dsimp only))
      go_loopw [45] (fun vj wr => ∃ (j : Nat) (tj : Trie) (vw2 vo2 : Value) (Lj : List (List UInt8)), vj = .int .i64 j ∧ j ≤ x.edges.length ∧ UnfE A tj x.final (x.edges.drop j) ∧ htT tj ≤ htT t ∧ (Lj ++ pwT pre (lE tj fs.data.toList)).take most = (L ++ pwT pre (wT t fs.data.toList)).take most ∧ Lj.length ≤ most ∧ At W wr (GaT kl most (.slice (some ⟨b, off, none⟩) A.length cap) vw2 vo2 pre Lj R)) (fun vj _ => x.edges.length - (intOf vj).toNat)
      case atStart => exact ⟨0, t, _, _, _, rfl, Nat.zero_le _, HU.out, Nat.le_refl _, HT.out, by simp [pwT, headL]; split <;> simp <;> omega, HC0.out⟩
      case round =>
        obtain ⟨j, tj, vw2, vo2, Lj, rfl, hj, hut, hhj, hcutj, hLj, h3⟩ := hrel
        obtain ⟨wa2, wc2, rfl, _, hwc2⟩ := own_shape h3.drop.rowG
        obtain ⟨oa3, oc3, rfl, _, hoc3⟩ := own_shape h3.drop.drop.rowG
        unfold maxLen at hwc2 hoc3
        by_cases hlj : j < x.edges.length
        · obtain ⟨e, he⟩ : ∃ e, x.edges[j]? = some e := ⟨_, List.getElem?_eq_getElem hlj⟩
          rw [drop_at he] at hut
          obtain ⟨ct, r, rfl, he0, hct, hr⟩ := hut.cons
          obtain ⟨m, hm⟩ := Int.eq_ofNat_of_zero_le he0
          rw [hm, Int.toNat_natCast] at hct
          simp only [htT] at hhj
          have hml := hct.lt
          have hmI : (m : Int) < (A.length : Int) := by omega
          have hjI : (j : Int) < (x.edges.length : Int) := by omega
          obtain ⟨be, oe, ce, hse, e0, e1⟩ := RdEds.at (HE.out.below h3.below) he
          cases hse
          rw [hm] at e1
          have hst3 : Stable (GaT kl most (.slice (some ⟨b, off, none⟩) A.length cap) (.slice wa2 pre.length wc2) (.slice oa3 Lj.length oc3) pre Lj R) := GaT.stable HR.out
          have h4 := h3.newCell hst3 #[bv e.1, .int .i64 m] tAE
          obtain ⟨g1, _, gkl⟩ := h4.drop.cellF (o := 1) rfl
          obtain ⟨g2, gf2, _⟩ := h4.drop.cellF (o := 2) rfl
          obtain ⟨g3, _, _⟩ := h4.drop.cellF (o := 3) rfl
          have H4 := Lib.hid h4
          have HST3 := Lib.hid hst3
          have HED := Lib.hid (And.intro he hm)
          have HR2 := Lib.hid hr
          have HCT := Lib.hid hct
          have HCJ := Lib.hid hcutj
          clear h3 h4 hst3 he hm hr hct hcutj hut he0 z0 d1
          by_cases hfull : Lj.length = most
          · have hfI : ((Lj.length : Int) == (most : Int)) = true := by rw [hfull]; simp
            have hfin : (L ++ pwT pre (wT t fs.data.toList)).take most = Lj := by
              rw [← HCJ.out, List.take_append_of_le_length (by omega), List.take_of_length_le (by omega)]
            have HFL := Lib.hid (And.intro hfull hfin)
            clear hfull hfin
            (repeat' (first | (go_big_may; fail) | go_values | go_skip | go_guarded | go_step | go_upon | go_back | dsimp only))
            (refine region_still_tail 9 (by kernel_rfl) (by kernel_rfl) ?_; simp only [List.take_succ_cons, List.take_zero, List.drop_succ_cons, List.drop_zero]; (iterate 9 (first | ((with_reducible refine still_plain ?_ rfl ?_ ?_); rotate_left; (next => (go_simp; (try with_reducible rfl))); simp only [Act.put, List.setIfInBounds_toArray, List.set_cons_zero, List.set_cons_succ]) | ((with_reducible refine still_skip ?_ ?_); (next => (go_simp; done)); simp only [Act.put, List.setIfInBounds_toArray, List.set_cons_zero, List.set_cons_succ]) | ((with_reducible refine still_val ?_ ?_ ?_ ?_); rotate_left; (next => (go_simp; done)); (next => (go_simp; (try with_reducible rfl))); simp only [Act.put, List.setIfInBounds_toArray, List.set_cons_zero, List.set_cons_succ]))); (with_reducible refine wpStill_nil ?_))
            (repeat' (first | (go_big_may; fail) | go_values | go_skip | go_guarded | go_step | go_upon | go_back | dsimp only))
            go_ret
            rw [HFL.out.2]
            have hd : decide (Lj.length < most) = false := decide_eq_false (by rw [HFL.out.1]; omega)
            rw [hd]
            exact ⟨_, _, pre, rfl, fun _ => rfl, (H4.out.drew ((CellT.stable _ _ _).both HST3.out)).drop⟩
          · have hfI : ((Lj.length : Int) == (most : Int)) = false := by rw [beq_eq_false_iff_ne]; omega
            have hLlt : Lj.length < most := by omega
            clear hfull
            by_cases hfe : fs.size = 0
            · have hE := HFS.out.2 hfe
              have hnil : fs.data.toList = [] := List.eq_nil_of_length_eq_zero (by simpa using hfe)
              have HN := Lib.hid (show nextF e.1 fs.data.toList = some (⟨#[]⟩ : ByteArray).data.toList from by rw [hnil]; rfl)
              clear hnil hfe
              (repeat' (first | (go_big_may; fail) | go_values | go_skip | go_guarded | go_step | go_upon | go_back | dsimp only))
              (refine region_still_tail 9 (by kernel_rfl) (by kernel_rfl) ?_; simp only [List.take_succ_cons, List.take_zero, List.drop_succ_cons, List.drop_zero]; (iterate 9 (first | ((with_reducible refine still_plain ?_ rfl ?_ ?_); rotate_left; (next => (go_simp; (try with_reducible rfl))); simp only [Act.put, List.setIfInBounds_toArray, List.set_cons_zero, List.set_cons_succ]) | ((with_reducible refine still_skip ?_ ?_); (next => (go_simp; done)); simp only [Act.put, List.setIfInBounds_toArray, List.set_cons_zero, List.set_cons_succ]) | ((with_reducible refine still_val ?_ ?_ ?_ ?_); rotate_left; (next => (go_simp; done)); (next => (go_simp; (try with_reducible rfl))); simp only [Act.put, List.setIfInBounds_toArray, List.set_cons_zero, List.set_cons_succ]))); (with_reducible refine wpStill_nil ?_))
              (repeat' (first | (go_big_may; fail) | go_values | go_skip | go_guarded | go_step | go_upon | go_back | dsimp only))
              (refine region_still_tail 8 (by kernel_rfl) (by kernel_rfl) ?_; simp only [List.take_succ_cons, List.take_zero, List.drop_succ_cons, List.drop_zero]; (iterate 8 (first | ((with_reducible refine still_plain ?_ rfl ?_ ?_); rotate_left; (next => (go_simp; (try with_reducible rfl))); simp only [Act.put, List.setIfInBounds_toArray, List.set_cons_zero, List.set_cons_succ]) | ((with_reducible refine still_skip ?_ ?_); (next => (go_simp; done)); simp only [Act.put, List.setIfInBounds_toArray, List.set_cons_zero, List.set_cons_succ]) | ((with_reducible refine still_val ?_ ?_ ?_ ?_); rotate_left; (next => (go_simp; done)); (next => (go_simp; (try with_reducible rfl))); simp only [Act.put, List.setIfInBounds_toArray, List.set_cons_zero, List.set_cons_succ]))); (with_reducible refine wpStill_nil ?_))
              (repeat' (first | (go_big_may; fail) | go_values | go_skip | go_guarded | go_step | go_upon | go_back | dsimp only))
              (refine region_still_tail 8 (by kernel_rfl) (by kernel_rfl) ?_; simp only [List.take_succ_cons, List.take_zero, List.drop_succ_cons, List.drop_zero]; (iterate 8 (first | ((with_reducible refine still_plain ?_ rfl ?_ ?_); rotate_left; (next => (go_simp; (try with_reducible rfl))); simp only [Act.put, List.setIfInBounds_toArray, List.set_cons_zero, List.set_cons_succ]) | ((with_reducible refine still_skip ?_ ?_); (next => (go_simp; done)); simp only [Act.put, List.setIfInBounds_toArray, List.set_cons_zero, List.set_cons_succ]) | ((with_reducible refine still_val ?_ ?_ ?_ ?_); rotate_left; (next => (go_simp; done)); (next => (go_simp; (try with_reducible rfl))); simp only [Act.put, List.setIfInBounds_toArray, List.set_cons_zero, List.set_cons_succ]))); (with_reducible refine wpStill_nil ?_))
              (repeat' (first | (go_big_may; fail) | go_values | go_skip | go_guarded | go_step | go_upon | go_back | dsimp only))
              have h4x := ((H4.out.drew ((CellT.stable _ _ _).both HST3.out)).drew ((CellT.stable _ _ _).both HST3.out)).drew ((CellT.stable _ _ _).both HST3.out)
              have hkne : wr.heap.size = wr.heap.size := rfl
              generalize (wr.alloc (.cells #[bv e.1, .int .i64 m] tAE)).drew.drew.drew = wX at h4x ⊢
              obtain ⟨x0, _, xkl⟩ := h4x.cellF (o := 0) rfl
              obtain ⟨x1, _, _⟩ := h4x.drop.cellF (o := 1) rfl
              have H4x := Lib.hid h4x
              clear h4x hkne g1 g2 gf2 g3 gkl
              go_cut [] (fun wx => ∃ (a2 : Option Addr) (cp2 : Nat), At W wx (GaT kl most (.slice (some ⟨b, off, none⟩) A.length cap) (.slice a2 (pre.length + 1) cp2) (.slice oa3 Lj.length oc3) (pre ++ [e.1]) Lj (Both (CellT wr.heap.size #[bv e.1, .int .i64 m] tAE) R)))
              case first =>
                refine wp_norm ?_
                rename_i J K' hJ hK
                have HJ := Lib.hid hJ
                have HK := Lib.hid hK
                clear hJ hK
                have h5 := (H4x.out.drew ((CellT.stable _ _ _).both HST3.out)).pull3
                have hst5 := (CellT.stable wr.heap.size #[bv e.1, .int .i64 m] tAE).both ((CellT.stable kl #[(.slice (some ⟨b, off, none⟩) A.length cap), .slice wa2 pre.length wc2, .slice oa3 Lj.length oc3, .int .i64 (most : Nat)] tLs).both ((RowG.stable tStr 1 (.slice oa3 Lj.length oc3) Lj.length (strs Lj)).both HR.out))
                obtain ⟨v2, w4, hrun, h6, _, _⟩ := append_at_run (P := Try.prog) 83 83 5 Try.underlying83 info_u8 rfl (by decide) h5 hst5 (C := #[bv e.1]) (m := 1) (c := 1) rfl (one_int _ _) (by unfold maxLen; omega) (by omega)
                obtain ⟨a2, cp2, rfl, _, _⟩ := own_shape h6.rowG
                obtain ⟨y2, fy2, _⟩ := h6.drop.drop.cellF (o := 1) rfl
                have h7 := h6.pull3.setCell ((RowG.stable _ _ _ _ _).both ((CellT.stable _ _ _).both ((RowG.stable _ _ _ _ _).both HR.out))) 1 (.slice a2 (pre.length + 1) cp2)
                have h8 : At W (w4.setCell ⟨kl, 1, none⟩ (.slice a2 (pre.length + 1) cp2)) (GaT kl most (.slice (some ⟨b, off, none⟩) A.length cap) (.slice a2 (pre.length + 1) cp2) (.slice oa3 Lj.length oc3) (pre ++ [e.1]) Lj (Both (CellT wr.heap.size #[bv e.1, .int .i64 m] tAE) R)) := by
                  have z1 : (pre ++ [e.1]).length = pre.length + 1 := by simp
                  have z2 : bvs (pre ++ [e.1]) = bvs pre ++ (#[bv e.1] : Array Value).toList := by rw [bvs_append]; rfl
                  show At W _ (Both _ (Both (RowG _ 1 _ (pre ++ [e.1]).length (bvs (pre ++ [e.1]))) _))
                  rw [z1, z2]
                  exact h7.impl fun _ q => Both.mono (fun _ _ q => Both.mono (fun _ _ q => q.assoc) q) q
                have H8 := Lib.hid h8
                clear h5 hst5 h6 h7 h8
                go_region_law (refine step_append_run rfl _ _ 83 rfl _ _ rfl rfl hrun ?_)
                all_goals
                  refine HK.out _ _ ?_
                  have hJ := HJ.out
                  go_meet
                  case rel => exact ⟨a2, cp2, H8.out⟩
              case rest =>
                obtain ⟨a2, cp2, h8⟩ := hcut
                obtain ⟨q1, _, _⟩ := h8.drop.drop.drop.cellF (o := 1) rfl
                have hcall := IH.out _ m ct ⟨#[]⟩ _ _ (pre ++ [e.1]) Lj _ h8 ((CellT.stable _ _ _).both HR.out) HCT.out (by omega) (by rw [List.length_append, List.length_singleton]; omega) hLlt
                have hsplit : (L ++ pwT pre (wT t fs.data.toList)).take most = (Lj ++ (pwT (pre ++ [e.1]) (wT ct (⟨#[]⟩ : ByteArray).data.toList) ++ pwT pre (lE r fs.data.toList))).take most := by
                  rw [← HCJ.out, lE_some HN.out, pwT_app, pwT_cons]
                obtain ⟨P1, hP1⟩ : ∃ P1, P1 = pwT (pre ++ [e.1]) (wT ct (⟨#[]⟩ : ByteArray).data.toList) := ⟨_, rfl⟩
                rw [← hP1] at hcall hsplit
                have HCALL := Lib.hid hcall
                have HSP := Lib.hid hsplit
                clear h8 hcall hsplit hP1 HN HCJ x0 x1 xkl
                (repeat' (first | (go_big_may; fail) | go_values | go_skip | go_guarded | go_step | go_upon | go_back | dsimp only))
                refine HCALL.out.mono ?_
                rintro e5 w5 ⟨vw5, vo5, pre5, rfl, hpre5, h9⟩
                by_cases hroom : ((Lj ++ P1).take most).length < most
                · rw [decide_eq_true hroom]
                  obtain rfl := hpre5 hroom
                  have hce := cut_room hroom
                  rw [hce] at h9 hroom
                  obtain ⟨g5, cap5, rfl, _, _, _⟩ := own_cut h9.drop.rowG (by simp)
                  have h9b : At W w5 (Both (CellT kl #[(.slice (some ⟨b, off, none⟩) A.length cap), .slice (some ⟨g5, 0, none⟩) (pre.length + 1) cap5, vo5, .int .i64 (most : Nat)] tLs) (Both (RowG 5 1 (.slice (some ⟨g5, 0, none⟩) (pre.length + 1) cap5) (pre.length + 1) (bvs (pre ++ [e.1]))) (Both (RowG tStr 1 vo5 (Lj ++ P1).length (strs (Lj ++ P1))) (Both (CellT wr.heap.size #[bv e.1, .int .i64 m] tAE) R)))) := by
                    have z1 : (pre ++ [e.1]).length = pre.length + 1 := by simp
                    have := h9
                    unfold GaT at this
                    rw [z1] at this
                    exact this
                  obtain ⟨k1, kf1, kkl⟩ := h9b.cellF (o := 1) rfl
                  have hlw : IntKind.i64.wrap (pre.length : Int) = (pre.length : Int) := by rw [IntKind.wrap_i64] <;> omega
                  have hlw2 : IntKind.i64.wrap ((pre.length : Int) + 1 - 1) = (pre.length : Int) := by rw [IntKind.wrap_i64] <;> omega
                  have hst9 := (RowG.stable 5 1 (.slice (some ⟨g5, 0, none⟩) (pre.length + 1) cap5) (pre.length + 1) (bvs (pre ++ [e.1]))).both ((RowG.stable tStr 1 vo5 (Lj ++ P1).length (strs (Lj ++ P1))).both ((CellT.stable wr.heap.size #[bv e.1, .int .i64 m] tAE).both HR.out))
                  have h11 := (((h9b.drew ((CellT.stable _ _ _).both hst9)).setCell hst9 1 (.slice (some ⟨g5, 0, none⟩) pre.length cap5)).swap.rowCut (m := pre.length) (by omega)).swap
                  have z3 : (bvs (pre ++ [e.1])).take (pre.length * 1) = bvs pre := by rw [Nat.mul_one, bvs_append]; exact List.take_left' (bvs_length pre)
                  rw [z3] at h11
                  have H12 := Lib.hid (show At W _ (GaT kl most (.slice (some ⟨b, off, none⟩) A.length cap) (.slice (some ⟨g5, 0, none⟩) pre.length cap5) vo5 pre (Lj ++ P1) R) from (h11.pull4).drop)
                  have hcpl : (pre.length : Int) ≤ (cap5 : Int) := by have := h9b.drop.rowG; obtain ⟨_, hh⟩ := this; rcases hh with ⟨hh, _⟩ | ⟨_, _, _, hh, _, _, h1, _⟩ <;> cases hh; omega
                  have HCE := Lib.hid hroom
                  clear h9 h9b h11 hst9 z3 hce hroom hpre5
                  (repeat' (first | (go_big_may; fail) | go_values | go_skip | go_guarded | go_step | go_upon | go_back | dsimp only))
                  (refine region_still_tail 14 (by kernel_rfl) (by kernel_rfl) ?_; simp only [List.take_succ_cons, List.take_zero, List.drop_succ_cons, List.drop_zero]; (iterate 14 (first | ((with_reducible refine still_plain ?_ rfl ?_ ?_); rotate_left; (next => (go_simp; (try with_reducible rfl))); simp only [Act.put, List.setIfInBounds_toArray, List.set_cons_zero, List.set_cons_succ]) | ((with_reducible refine still_skip ?_ ?_); (next => (go_simp; done)); simp only [Act.put, List.setIfInBounds_toArray, List.set_cons_zero, List.set_cons_succ]) | ((with_reducible refine still_val ?_ ?_ ?_ ?_); rotate_left; (next => (go_simp; done)); (next => (go_simp; (try with_reducible rfl))); simp only [Act.put, List.setIfInBounds_toArray, List.set_cons_zero, List.set_cons_succ]))); (with_reducible refine wpStill_nil ?_))
                  (repeat' (first | (go_big_may; fail) | go_values | go_skip | go_guarded | go_step | go_upon | go_back | dsimp only))
                  go_roundw
                  case rel => exact ⟨j + 1, r, _, _, Lj ++ P1, by simp, by omega, HR2.out, by omega, by rw [HSP.out, List.append_assoc], by have := HCE.out; omega, H12.out⟩
                  case measure => simp [intOf] <;> omega
                · rw [decide_eq_false hroom]
                  have hfu := cut_full (B := pwT pre (lE r fs.data.toList)) (cut_len hroom)
                  have H10 := Lib.hid (show At W w5 (GaT kl most (.slice (some ⟨b, off, none⟩) A.length cap) vw5 vo5 pre5 ((Lj ++ P1).take most) R) from h9.pull4.drop)
                  have HFU := Lib.hid (And.intro hfu hroom)
                  clear h9 hfu hroom hpre5
                  (repeat' (first | (go_big_may; fail) | go_values | go_skip | go_guarded | go_step | go_upon | go_back | dsimp only))
                  go_ret
                  rw [HSP.out, HFU.out.1]
                  exact ⟨_, _, pre5, by rw [decide_eq_false HFU.out.2]; rfl, fun h => absurd h HFU.out.2, H10.out⟩
            · have hE : fs.toList.isEmpty = false := by
                cases h : fs.toList.isEmpty with
                | false => rfl
                | true => exact absurd (HFS.out.1 h) hfe
              have hpos : 0 < fs.size := by omega
              have hposI : (0 : Int) < (fs.size : Int) := by omega
              obtain ⟨y, hy⟩ : ∃ y, fs[0] = y := ⟨_, rfl⟩
              have hfl := drop_at (toList_get0 hpos)
              rw [hy, List.drop_zero, Nat.zero_add] at hfl
              have HFL := Lib.hid hfl
              clear hfe hfl
              rcases Nat.lt_trichotomy e.1.toNat y.toNat with hlt | heq | hgt
              · have hltI : (e.1.toNat : Int) < (y.toNat : Int) := by omega
                have HN := Lib.hid (show nextF e.1 fs.data.toList = none from by rw [HFL.out]; exact nextF_low hlt)
                (repeat' (first | (go_big_may; fail) | go_values | go_skip | go_guarded | go_step | go_upon | go_back | dsimp only))
                (refine region_still_tail 9 (by kernel_rfl) (by kernel_rfl) ?_; simp only [List.take_succ_cons, List.take_zero, List.drop_succ_cons, List.drop_zero]; (iterate 9 (first | ((with_reducible refine still_plain ?_ rfl ?_ ?_); rotate_left; (next => (go_simp; (try with_reducible rfl))); simp only [Act.put, List.setIfInBounds_toArray, List.set_cons_zero, List.set_cons_succ]) | ((with_reducible refine still_skip ?_ ?_); (next => (go_simp; done)); simp only [Act.put, List.setIfInBounds_toArray, List.set_cons_zero, List.set_cons_succ]) | ((with_reducible refine still_val ?_ ?_ ?_ ?_); rotate_left; (next => (go_simp; done)); (next => (go_simp; (try with_reducible rfl))); simp only [Act.put, List.setIfInBounds_toArray, List.set_cons_zero, List.set_cons_succ]))); (with_reducible refine wpStill_nil ?_))
                (repeat' (first | (go_big_may; fail) | go_values | go_skip | go_guarded | go_step | go_upon | go_back | dsimp only))
                (refine region_still_tail 8 (by kernel_rfl) (by kernel_rfl) ?_; simp only [List.take_succ_cons, List.take_zero, List.drop_succ_cons, List.drop_zero]; (iterate 8 (first | ((with_reducible refine still_plain ?_ rfl ?_ ?_); rotate_left; (next => (go_simp; (try with_reducible rfl))); simp only [Act.put, List.setIfInBounds_toArray, List.set_cons_zero, List.set_cons_succ]) | ((with_reducible refine still_skip ?_ ?_); (next => (go_simp; done)); simp only [Act.put, List.setIfInBounds_toArray, List.set_cons_zero, List.set_cons_succ]) | ((with_reducible refine still_val ?_ ?_ ?_ ?_); rotate_left; (next => (go_simp; done)); (next => (go_simp; (try with_reducible rfl))); simp only [Act.put, List.setIfInBounds_toArray, List.set_cons_zero, List.set_cons_succ]))); (with_reducible refine wpStill_nil ?_))
                (repeat' (first | (go_big_may; fail) | go_values | go_skip | go_guarded | go_step | go_upon | go_back | dsimp only))
                go_roundw
                case rel => exact ⟨j + 1, r, _, _, Lj, by simp, by omega, HR2.out, by omega, by rw [← HCJ.out, lE_none HN.out], by omega, (((H4.out.drew ((CellT.stable _ _ _).both HST3.out)).drew ((CellT.stable _ _ _).both HST3.out))).drop⟩
                case measure => simp [intOf] <;> omega
              · have heq' : e.1 = y := UInt8.toNat_inj.1 heq
                have hltI : ¬ (e.1.toNat : Int) < (y.toNat : Int) := by omega
                have heqI : ((e.1.toNat : Int) == (y.toNat : Int)) = true := by rw [beq_iff_eq]; omega
                have HN := Lib.hid (show nextF e.1 fs.data.toList = some (fs.extract 1 fs.size).data.toList from by rw [extract1]; conv => lhs; rw [HFL.out, nextF_eq heq'])
                clear heq heq'
                (repeat' (first | (go_big_may; fail) | go_values | go_skip | go_guarded | go_step | go_upon | go_back | dsimp only))
                (refine region_still_tail 9 (by kernel_rfl) (by kernel_rfl) ?_; simp only [List.take_succ_cons, List.take_zero, List.drop_succ_cons, List.drop_zero]; (iterate 9 (first | ((with_reducible refine still_plain ?_ rfl ?_ ?_); rotate_left; (next => (go_simp; (try with_reducible rfl))); simp only [Act.put, List.setIfInBounds_toArray, List.set_cons_zero, List.set_cons_succ]) | ((with_reducible refine still_skip ?_ ?_); (next => (go_simp; done)); simp only [Act.put, List.setIfInBounds_toArray, List.set_cons_zero, List.set_cons_succ]) | ((with_reducible refine still_val ?_ ?_ ?_ ?_); rotate_left; (next => (go_simp; done)); (next => (go_simp; (try with_reducible rfl))); simp only [Act.put, List.setIfInBounds_toArray, List.set_cons_zero, List.set_cons_succ]))); (with_reducible refine wpStill_nil ?_))
                (repeat' (first | (go_big_may; fail) | go_values | go_skip | go_guarded | go_step | go_upon | go_back | dsimp only))
                (refine region_still_tail 8 (by kernel_rfl) (by kernel_rfl) ?_; simp only [List.take_succ_cons, List.take_zero, List.drop_succ_cons, List.drop_zero]; (iterate 8 (first | ((with_reducible refine still_plain ?_ rfl ?_ ?_); rotate_left; (next => (go_simp; (try with_reducible rfl))); simp only [Act.put, List.setIfInBounds_toArray, List.set_cons_zero, List.set_cons_succ]) | ((with_reducible refine still_skip ?_ ?_); (next => (go_simp; done)); simp only [Act.put, List.setIfInBounds_toArray, List.set_cons_zero, List.set_cons_succ]) | ((with_reducible refine still_val ?_ ?_ ?_ ?_); rotate_left; (next => (go_simp; done)); (next => (go_simp; (try with_reducible rfl))); simp only [Act.put, List.setIfInBounds_toArray, List.set_cons_zero, List.set_cons_succ]))); (with_reducible refine wpStill_nil ?_))
                (repeat' (first | (go_big_may; fail) | go_values | go_skip | go_guarded | go_step | go_upon | go_back | dsimp only))
                (refine region_still_tail 8 (by kernel_rfl) (by kernel_rfl) ?_; simp only [List.take_succ_cons, List.take_zero, List.drop_succ_cons, List.drop_zero]; (iterate 8 (first | ((with_reducible refine still_plain ?_ rfl ?_ ?_); rotate_left; (next => (go_simp; (try with_reducible rfl))); simp only [Act.put, List.setIfInBounds_toArray, List.set_cons_zero, List.set_cons_succ]) | ((with_reducible refine still_skip ?_ ?_); (next => (go_simp; done)); simp only [Act.put, List.setIfInBounds_toArray, List.set_cons_zero, List.set_cons_succ]) | ((with_reducible refine still_val ?_ ?_ ?_ ?_); rotate_left; (next => (go_simp; done)); (next => (go_simp; (try with_reducible rfl))); simp only [Act.put, List.setIfInBounds_toArray, List.set_cons_zero, List.set_cons_succ]))); (with_reducible refine wpStill_nil ?_))
                (repeat' (first | (go_big_may; fail) | go_values | go_skip | go_guarded | go_step | go_upon | go_back | dsimp only))
                have h4x := ((H4.out.drew ((CellT.stable _ _ _).both HST3.out)).drew ((CellT.stable _ _ _).both HST3.out)).drew ((CellT.stable _ _ _).both HST3.out)
                have hkne : wr.heap.size = wr.heap.size := rfl
                generalize (wr.alloc (.cells #[bv e.1, .int .i64 m] tAE)).drew.drew.drew = wX at h4x ⊢
                obtain ⟨x0, _, xkl⟩ := h4x.cellF (o := 0) rfl
                obtain ⟨x1, _, _⟩ := h4x.drop.cellF (o := 1) rfl
                have H4x := Lib.hid h4x
                clear h4x hkne g1 g2 gf2 g3 gkl
                go_cut [] (fun wx => ∃ (a2 : Option Addr) (cp2 : Nat), At W wx (GaT kl most (.slice (some ⟨b, off, none⟩) A.length cap) (.slice a2 (pre.length + 1) cp2) (.slice oa3 Lj.length oc3) (pre ++ [e.1]) Lj (Both (CellT wr.heap.size #[bv e.1, .int .i64 m] tAE) R)))
                case first =>
                  refine wp_norm ?_
                  rename_i J K' hJ hK
                  have HJ := Lib.hid hJ
                  have HK := Lib.hid hK
                  clear hJ hK
                  have h5 := (H4x.out.drew ((CellT.stable _ _ _).both HST3.out)).pull3
                  have hst5 := (CellT.stable wr.heap.size #[bv e.1, .int .i64 m] tAE).both ((CellT.stable kl #[(.slice (some ⟨b, off, none⟩) A.length cap), .slice wa2 pre.length wc2, .slice oa3 Lj.length oc3, .int .i64 (most : Nat)] tLs).both ((RowG.stable tStr 1 (.slice oa3 Lj.length oc3) Lj.length (strs Lj)).both HR.out))
                  obtain ⟨v2, w4, hrun, h6, _, _⟩ := append_at_run (P := Try.prog) 83 83 5 Try.underlying83 info_u8 rfl (by decide) h5 hst5 (C := #[bv e.1]) (m := 1) (c := 1) rfl (one_int _ _) (by unfold maxLen; omega) (by omega)
                  obtain ⟨a2, cp2, rfl, _, _⟩ := own_shape h6.rowG
                  obtain ⟨y2, fy2, _⟩ := h6.drop.drop.cellF (o := 1) rfl
                  have h7 := h6.pull3.setCell ((RowG.stable _ _ _ _ _).both ((CellT.stable _ _ _).both ((RowG.stable _ _ _ _ _).both HR.out))) 1 (.slice a2 (pre.length + 1) cp2)
                  have h8 : At W (w4.setCell ⟨kl, 1, none⟩ (.slice a2 (pre.length + 1) cp2)) (GaT kl most (.slice (some ⟨b, off, none⟩) A.length cap) (.slice a2 (pre.length + 1) cp2) (.slice oa3 Lj.length oc3) (pre ++ [e.1]) Lj (Both (CellT wr.heap.size #[bv e.1, .int .i64 m] tAE) R)) := by
                    have z1 : (pre ++ [e.1]).length = pre.length + 1 := by simp
                    have z2 : bvs (pre ++ [e.1]) = bvs pre ++ (#[bv e.1] : Array Value).toList := by rw [bvs_append]; rfl
                    show At W _ (Both _ (Both (RowG _ 1 _ (pre ++ [e.1]).length (bvs (pre ++ [e.1]))) _))
                    rw [z1, z2]
                    exact h7.impl fun _ q => Both.mono (fun _ _ q => Both.mono (fun _ _ q => q.assoc) q) q
                  have H8 := Lib.hid h8
                  clear h5 hst5 h6 h7 h8
                  go_region_law (refine step_append_run rfl _ _ 83 rfl _ _ rfl rfl hrun ?_)
                  all_goals
                    refine HK.out _ _ ?_
                    have hJ := HJ.out
                    go_meet
                    case rel => exact ⟨a2, cp2, H8.out⟩
                case rest =>
                  obtain ⟨a2, cp2, h8⟩ := hcut
                  obtain ⟨q1, _, _⟩ := h8.drop.drop.drop.cellF (o := 1) rfl
                  have hcall := IH.out _ m ct (fs.extract 1 fs.size) _ _ (pre ++ [e.1]) Lj _ h8 ((CellT.stable _ _ _).both HR.out) HCT.out (by omega) (by rw [List.length_append, List.length_singleton]; omega) hLlt
                  have hsplit : (L ++ pwT pre (wT t fs.data.toList)).take most = (Lj ++ (pwT (pre ++ [e.1]) (wT ct ((fs.extract 1 fs.size) : ByteArray).data.toList) ++ pwT pre (lE r fs.data.toList))).take most := by
                    rw [← HCJ.out, lE_some HN.out, pwT_app, pwT_cons]
                  obtain ⟨P1, hP1⟩ : ∃ P1, P1 = pwT (pre ++ [e.1]) (wT ct ((fs.extract 1 fs.size) : ByteArray).data.toList) := ⟨_, rfl⟩
                  rw [← hP1] at hcall hsplit
                  have HCALL := Lib.hid hcall
                  have HSP := Lib.hid hsplit
                  clear h8 hcall hsplit hP1 HN HCJ x0 x1 xkl
                  (repeat' (first | (go_big_may; fail) | go_values | go_skip | go_guarded | go_step | go_upon | go_back | dsimp only))
                  refine HCALL.out.mono ?_
                  rintro e5 w5 ⟨vw5, vo5, pre5, rfl, hpre5, h9⟩
                  by_cases hroom : ((Lj ++ P1).take most).length < most
                  · rw [decide_eq_true hroom]
                    obtain rfl := hpre5 hroom
                    have hce := cut_room hroom
                    rw [hce] at h9 hroom
                    obtain ⟨g5, cap5, rfl, _, _, _⟩ := own_cut h9.drop.rowG (by simp)
                    have h9b : At W w5 (Both (CellT kl #[(.slice (some ⟨b, off, none⟩) A.length cap), .slice (some ⟨g5, 0, none⟩) (pre.length + 1) cap5, vo5, .int .i64 (most : Nat)] tLs) (Both (RowG 5 1 (.slice (some ⟨g5, 0, none⟩) (pre.length + 1) cap5) (pre.length + 1) (bvs (pre ++ [e.1]))) (Both (RowG tStr 1 vo5 (Lj ++ P1).length (strs (Lj ++ P1))) (Both (CellT wr.heap.size #[bv e.1, .int .i64 m] tAE) R)))) := by
                      have z1 : (pre ++ [e.1]).length = pre.length + 1 := by simp
                      have := h9
                      unfold GaT at this
                      rw [z1] at this
                      exact this
                    obtain ⟨k1, kf1, kkl⟩ := h9b.cellF (o := 1) rfl
                    have hlw : IntKind.i64.wrap (pre.length : Int) = (pre.length : Int) := by rw [IntKind.wrap_i64] <;> omega
                    have hlw2 : IntKind.i64.wrap ((pre.length : Int) + 1 - 1) = (pre.length : Int) := by rw [IntKind.wrap_i64] <;> omega
                    have hst9 := (RowG.stable 5 1 (.slice (some ⟨g5, 0, none⟩) (pre.length + 1) cap5) (pre.length + 1) (bvs (pre ++ [e.1]))).both ((RowG.stable tStr 1 vo5 (Lj ++ P1).length (strs (Lj ++ P1))).both ((CellT.stable wr.heap.size #[bv e.1, .int .i64 m] tAE).both HR.out))
                    have h11 := (((h9b.drew ((CellT.stable _ _ _).both hst9)).setCell hst9 1 (.slice (some ⟨g5, 0, none⟩) pre.length cap5)).swap.rowCut (m := pre.length) (by omega)).swap
                    have z3 : (bvs (pre ++ [e.1])).take (pre.length * 1) = bvs pre := by rw [Nat.mul_one, bvs_append]; exact List.take_left' (bvs_length pre)
                    rw [z3] at h11
                    have H12 := Lib.hid (show At W _ (GaT kl most (.slice (some ⟨b, off, none⟩) A.length cap) (.slice (some ⟨g5, 0, none⟩) pre.length cap5) vo5 pre (Lj ++ P1) R) from (h11.pull4).drop)
                    have hcpl : (pre.length : Int) ≤ (cap5 : Int) := by have := h9b.drop.rowG; obtain ⟨_, hh⟩ := this; rcases hh with ⟨hh, _⟩ | ⟨_, _, _, hh, _, _, h1, _⟩ <;> cases hh; omega
                    have HCE := Lib.hid hroom
                    clear h9 h9b h11 hst9 z3 hce hroom hpre5
                    (repeat' (first | (go_big_may; fail) | go_values | go_skip | go_guarded | go_step | go_upon | go_back | dsimp only))
                    (refine region_still_tail 14 (by kernel_rfl) (by kernel_rfl) ?_; simp only [List.take_succ_cons, List.take_zero, List.drop_succ_cons, List.drop_zero]; (iterate 14 (first | ((with_reducible refine still_plain ?_ rfl ?_ ?_); rotate_left; (next => (go_simp; (try with_reducible rfl))); simp only [Act.put, List.setIfInBounds_toArray, List.set_cons_zero, List.set_cons_succ]) | ((with_reducible refine still_skip ?_ ?_); (next => (go_simp; done)); simp only [Act.put, List.setIfInBounds_toArray, List.set_cons_zero, List.set_cons_succ]) | ((with_reducible refine still_val ?_ ?_ ?_ ?_); rotate_left; (next => (go_simp; done)); (next => (go_simp; (try with_reducible rfl))); simp only [Act.put, List.setIfInBounds_toArray, List.set_cons_zero, List.set_cons_succ]))); (with_reducible refine wpStill_nil ?_))
                    (repeat' (first | (go_big_may; fail) | go_values | go_skip | go_guarded | go_step | go_upon | go_back | dsimp only))
                    go_roundw
                    case rel => exact ⟨j + 1, r, _, _, Lj ++ P1, by simp, by omega, HR2.out, by omega, by rw [HSP.out, List.append_assoc], by have := HCE.out; omega, H12.out⟩
                    case measure => simp [intOf] <;> omega
                  · rw [decide_eq_false hroom]
                    have hfu := cut_full (B := pwT pre (lE r fs.data.toList)) (cut_len hroom)
                    have H10 := Lib.hid (show At W w5 (GaT kl most (.slice (some ⟨b, off, none⟩) A.length cap) vw5 vo5 pre5 ((Lj ++ P1).take most) R) from h9.pull4.drop)
                    have HFU := Lib.hid (And.intro hfu hroom)
                    clear h9 hfu hroom hpre5
                    (repeat' (first | (go_big_may; fail) | go_values | go_skip | go_guarded | go_step | go_upon | go_back | dsimp only))
                    go_ret
                    rw [HSP.out, HFU.out.1]
                    exact ⟨_, _, pre5, by rw [decide_eq_false HFU.out.2]; rfl, fun h => absurd h HFU.out.2, H10.out⟩
              · have hltI : ¬ (e.1.toNat : Int) < (y.toNat : Int) := by omega
                have heqI : ((e.1.toNat : Int) == (y.toNat : Int)) = false := by rw [beq_eq_false_iff_ne]; omega
                have HN := Lib.hid (show nextF e.1 fs.data.toList = some (⟨#[]⟩ : ByteArray).data.toList from by rw [HFL.out]; exact nextF_high hgt)
                (repeat' (first | (go_big_may; fail) | go_values | go_skip | go_guarded | go_step | go_upon | go_back | dsimp only))
                (refine region_still_tail 9 (by kernel_rfl) (by kernel_rfl) ?_; simp only [List.take_succ_cons, List.take_zero, List.drop_succ_cons, List.drop_zero]; (iterate 9 (first | ((with_reducible refine still_plain ?_ rfl ?_ ?_); rotate_left; (next => (go_simp; (try with_reducible rfl))); simp only [Act.put, List.setIfInBounds_toArray, List.set_cons_zero, List.set_cons_succ]) | ((with_reducible refine still_skip ?_ ?_); (next => (go_simp; done)); simp only [Act.put, List.setIfInBounds_toArray, List.set_cons_zero, List.set_cons_succ]) | ((with_reducible refine still_val ?_ ?_ ?_ ?_); rotate_left; (next => (go_simp; done)); (next => (go_simp; (try with_reducible rfl))); simp only [Act.put, List.setIfInBounds_toArray, List.set_cons_zero, List.set_cons_succ]))); (with_reducible refine wpStill_nil ?_))
                (repeat' (first | (go_big_may; fail) | go_values | go_skip | go_guarded | go_step | go_upon | go_back | dsimp only))
                (refine region_still_tail 8 (by kernel_rfl) (by kernel_rfl) ?_; simp only [List.take_succ_cons, List.take_zero, List.drop_succ_cons, List.drop_zero]; (iterate 8 (first | ((with_reducible refine still_plain ?_ rfl ?_ ?_); rotate_left; (next => (go_simp; (try with_reducible rfl))); simp only [Act.put, List.setIfInBounds_toArray, List.set_cons_zero, List.set_cons_succ]) | ((with_reducible refine still_skip ?_ ?_); (next => (go_simp; done)); simp only [Act.put, List.setIfInBounds_toArray, List.set_cons_zero, List.set_cons_succ]) | ((with_reducible refine still_val ?_ ?_ ?_ ?_); rotate_left; (next => (go_simp; done)); (next => (go_simp; (try with_reducible rfl))); simp only [Act.put, List.setIfInBounds_toArray, List.set_cons_zero, List.set_cons_succ]))); (with_reducible refine wpStill_nil ?_))
                (repeat' (first | (go_big_may; fail) | go_values | go_skip | go_guarded | go_step | go_upon | go_back | dsimp only))
                (refine region_still_tail 8 (by kernel_rfl) (by kernel_rfl) ?_; simp only [List.take_succ_cons, List.take_zero, List.drop_succ_cons, List.drop_zero]; (iterate 8 (first | ((with_reducible refine still_plain ?_ rfl ?_ ?_); rotate_left; (next => (go_simp; (try with_reducible rfl))); simp only [Act.put, List.setIfInBounds_toArray, List.set_cons_zero, List.set_cons_succ]) | ((with_reducible refine still_skip ?_ ?_); (next => (go_simp; done)); simp only [Act.put, List.setIfInBounds_toArray, List.set_cons_zero, List.set_cons_succ]) | ((with_reducible refine still_val ?_ ?_ ?_ ?_); rotate_left; (next => (go_simp; done)); (next => (go_simp; (try with_reducible rfl))); simp only [Act.put, List.setIfInBounds_toArray, List.set_cons_zero, List.set_cons_succ]))); (with_reducible refine wpStill_nil ?_))
                (repeat' (first | (go_big_may; fail) | go_values | go_skip | go_guarded | go_step | go_upon | go_back | dsimp only))
                have h4x := ((H4.out.drew ((CellT.stable _ _ _).both HST3.out)).drew ((CellT.stable _ _ _).both HST3.out)).drew ((CellT.stable _ _ _).both HST3.out)
                have hkne : wr.heap.size = wr.heap.size := rfl
                generalize (wr.alloc (.cells #[bv e.1, .int .i64 m] tAE)).drew.drew.drew = wX at h4x ⊢
                obtain ⟨x0, _, xkl⟩ := h4x.cellF (o := 0) rfl
                obtain ⟨x1, _, _⟩ := h4x.drop.cellF (o := 1) rfl
                have H4x := Lib.hid h4x
                clear h4x hkne g1 g2 gf2 g3 gkl
                go_cut [] (fun wx => ∃ (a2 : Option Addr) (cp2 : Nat), At W wx (GaT kl most (.slice (some ⟨b, off, none⟩) A.length cap) (.slice a2 (pre.length + 1) cp2) (.slice oa3 Lj.length oc3) (pre ++ [e.1]) Lj (Both (CellT wr.heap.size #[bv e.1, .int .i64 m] tAE) R)))
                case first =>
                  refine wp_norm ?_
                  rename_i J K' hJ hK
                  have HJ := Lib.hid hJ
                  have HK := Lib.hid hK
                  clear hJ hK
                  have h5 := (H4x.out.drew ((CellT.stable _ _ _).both HST3.out)).pull3
                  have hst5 := (CellT.stable wr.heap.size #[bv e.1, .int .i64 m] tAE).both ((CellT.stable kl #[(.slice (some ⟨b, off, none⟩) A.length cap), .slice wa2 pre.length wc2, .slice oa3 Lj.length oc3, .int .i64 (most : Nat)] tLs).both ((RowG.stable tStr 1 (.slice oa3 Lj.length oc3) Lj.length (strs Lj)).both HR.out))
                  obtain ⟨v2, w4, hrun, h6, _, _⟩ := append_at_run (P := Try.prog) 83 83 5 Try.underlying83 info_u8 rfl (by decide) h5 hst5 (C := #[bv e.1]) (m := 1) (c := 1) rfl (one_int _ _) (by unfold maxLen; omega) (by omega)
                  obtain ⟨a2, cp2, rfl, _, _⟩ := own_shape h6.rowG
                  obtain ⟨y2, fy2, _⟩ := h6.drop.drop.cellF (o := 1) rfl
                  have h7 := h6.pull3.setCell ((RowG.stable _ _ _ _ _).both ((CellT.stable _ _ _).both ((RowG.stable _ _ _ _ _).both HR.out))) 1 (.slice a2 (pre.length + 1) cp2)
                  have h8 : At W (w4.setCell ⟨kl, 1, none⟩ (.slice a2 (pre.length + 1) cp2)) (GaT kl most (.slice (some ⟨b, off, none⟩) A.length cap) (.slice a2 (pre.length + 1) cp2) (.slice oa3 Lj.length oc3) (pre ++ [e.1]) Lj (Both (CellT wr.heap.size #[bv e.1, .int .i64 m] tAE) R)) := by
                    have z1 : (pre ++ [e.1]).length = pre.length + 1 := by simp
                    have z2 : bvs (pre ++ [e.1]) = bvs pre ++ (#[bv e.1] : Array Value).toList := by rw [bvs_append]; rfl
                    show At W _ (Both _ (Both (RowG _ 1 _ (pre ++ [e.1]).length (bvs (pre ++ [e.1]))) _))
                    rw [z1, z2]
                    exact h7.impl fun _ q => Both.mono (fun _ _ q => Both.mono (fun _ _ q => q.assoc) q) q
                  have H8 := Lib.hid h8
                  clear h5 hst5 h6 h7 h8
                  go_region_law (refine step_append_run rfl _ _ 83 rfl _ _ rfl rfl hrun ?_)
                  all_goals
                    refine HK.out _ _ ?_
                    have hJ := HJ.out
                    go_meet
                    case rel => exact ⟨a2, cp2, H8.out⟩
                case rest =>
                  obtain ⟨a2, cp2, h8⟩ := hcut
                  obtain ⟨q1, _, _⟩ := h8.drop.drop.drop.cellF (o := 1) rfl
                  have hcall := IH.out _ m ct ⟨#[]⟩ _ _ (pre ++ [e.1]) Lj _ h8 ((CellT.stable _ _ _).both HR.out) HCT.out (by omega) (by rw [List.length_append, List.length_singleton]; omega) hLlt
                  have hsplit : (L ++ pwT pre (wT t fs.data.toList)).take most = (Lj ++ (pwT (pre ++ [e.1]) (wT ct (⟨#[]⟩ : ByteArray).data.toList) ++ pwT pre (lE r fs.data.toList))).take most := by
                    rw [← HCJ.out, lE_some HN.out, pwT_app, pwT_cons]
                  obtain ⟨P1, hP1⟩ : ∃ P1, P1 = pwT (pre ++ [e.1]) (wT ct (⟨#[]⟩ : ByteArray).data.toList) := ⟨_, rfl⟩
                  rw [← hP1] at hcall hsplit
                  have HCALL := Lib.hid hcall
                  have HSP := Lib.hid hsplit
                  clear h8 hcall hsplit hP1 HN HCJ x0 x1 xkl
                  (repeat' (first | (go_big_may; fail) | go_values | go_skip | go_guarded | go_step | go_upon | go_back | dsimp only))
                  refine HCALL.out.mono ?_
                  rintro e5 w5 ⟨vw5, vo5, pre5, rfl, hpre5, h9⟩
                  by_cases hroom : ((Lj ++ P1).take most).length < most
                  · rw [decide_eq_true hroom]
                    obtain rfl := hpre5 hroom
                    have hce := cut_room hroom
                    rw [hce] at h9 hroom
                    obtain ⟨g5, cap5, rfl, _, _, _⟩ := own_cut h9.drop.rowG (by simp)
                    have h9b : At W w5 (Both (CellT kl #[(.slice (some ⟨b, off, none⟩) A.length cap), .slice (some ⟨g5, 0, none⟩) (pre.length + 1) cap5, vo5, .int .i64 (most : Nat)] tLs) (Both (RowG 5 1 (.slice (some ⟨g5, 0, none⟩) (pre.length + 1) cap5) (pre.length + 1) (bvs (pre ++ [e.1]))) (Both (RowG tStr 1 vo5 (Lj ++ P1).length (strs (Lj ++ P1))) (Both (CellT wr.heap.size #[bv e.1, .int .i64 m] tAE) R)))) := by
                      have z1 : (pre ++ [e.1]).length = pre.length + 1 := by simp
                      have := h9
                      unfold GaT at this
                      rw [z1] at this
                      exact this
                    obtain ⟨k1, kf1, kkl⟩ := h9b.cellF (o := 1) rfl
                    have hlw : IntKind.i64.wrap (pre.length : Int) = (pre.length : Int) := by rw [IntKind.wrap_i64] <;> omega
                    have hlw2 : IntKind.i64.wrap ((pre.length : Int) + 1 - 1) = (pre.length : Int) := by rw [IntKind.wrap_i64] <;> omega
                    have hst9 := (RowG.stable 5 1 (.slice (some ⟨g5, 0, none⟩) (pre.length + 1) cap5) (pre.length + 1) (bvs (pre ++ [e.1]))).both ((RowG.stable tStr 1 vo5 (Lj ++ P1).length (strs (Lj ++ P1))).both ((CellT.stable wr.heap.size #[bv e.1, .int .i64 m] tAE).both HR.out))
                    have h11 := (((h9b.drew ((CellT.stable _ _ _).both hst9)).setCell hst9 1 (.slice (some ⟨g5, 0, none⟩) pre.length cap5)).swap.rowCut (m := pre.length) (by omega)).swap
                    have z3 : (bvs (pre ++ [e.1])).take (pre.length * 1) = bvs pre := by rw [Nat.mul_one, bvs_append]; exact List.take_left' (bvs_length pre)
                    rw [z3] at h11
                    have H12 := Lib.hid (show At W _ (GaT kl most (.slice (some ⟨b, off, none⟩) A.length cap) (.slice (some ⟨g5, 0, none⟩) pre.length cap5) vo5 pre (Lj ++ P1) R) from (h11.pull4).drop)
                    have hcpl : (pre.length : Int) ≤ (cap5 : Int) := by have := h9b.drop.rowG; obtain ⟨_, hh⟩ := this; rcases hh with ⟨hh, _⟩ | ⟨_, _, _, hh, _, _, h1, _⟩ <;> cases hh; omega
                    have HCE := Lib.hid hroom
                    clear h9 h9b h11 hst9 z3 hce hroom hpre5
                    (repeat' (first | (go_big_may; fail) | go_values | go_skip | go_guarded | go_step | go_upon | go_back | dsimp only))
                    (refine region_still_tail 14 (by kernel_rfl) (by kernel_rfl) ?_; simp only [List.take_succ_cons, List.take_zero, List.drop_succ_cons, List.drop_zero]; (iterate 14 (first | ((with_reducible refine still_plain ?_ rfl ?_ ?_); rotate_left; (next => (go_simp; (try with_reducible rfl))); simp only [Act.put, List.setIfInBounds_toArray, List.set_cons_zero, List.set_cons_succ]) | ((with_reducible refine still_skip ?_ ?_); (next => (go_simp; done)); simp only [Act.put, List.setIfInBounds_toArray, List.set_cons_zero, List.set_cons_succ]) | ((with_reducible refine still_val ?_ ?_ ?_ ?_); rotate_left; (next => (go_simp; done)); (next => (go_simp; (try with_reducible rfl))); simp only [Act.put, List.setIfInBounds_toArray, List.set_cons_zero, List.set_cons_succ]))); (with_reducible refine wpStill_nil ?_))
                    (repeat' (first | (go_big_may; fail) | go_values | go_skip | go_guarded | go_step | go_upon | go_back | dsimp only))
                    go_roundw
                    case rel => exact ⟨j + 1, r, _, _, Lj ++ P1, by simp, by omega, HR2.out, by omega, by rw [HSP.out, List.append_assoc], by have := HCE.out; omega, H12.out⟩
                    case measure => simp [intOf] <;> omega
                  · rw [decide_eq_false hroom]
                    have hfu := cut_full (B := pwT pre (lE r fs.data.toList)) (cut_len hroom)
                    have H10 := Lib.hid (show At W w5 (GaT kl most (.slice (some ⟨b, off, none⟩) A.length cap) vw5 vo5 pre5 ((Lj ++ P1).take most) R) from h9.pull4.drop)
                    have HFU := Lib.hid (And.intro hfu hroom)
                    clear h9 hfu hroom hpre5
                    (repeat' (first | (go_big_may; fail) | go_values | go_skip | go_guarded | go_step | go_upon | go_back | dsimp only))
                    go_ret
                    rw [HSP.out, HFU.out.1]
                    exact ⟨_, _, pre5, by rw [decide_eq_false HFU.out.2]; rfl, fun h => absurd h HFU.out.2, H10.out⟩
        · obtain rfl : j = x.edges.length := by omega
          rw [List.drop_eq_nil_of_le (Nat.le_refl _)] at hut
          obtain rfl := hut.nil
          have hfin : (L ++ pwT pre (wT t fs.data.toList)).take most = Lj := by
            rw [← hcutj]
            simp only [lE, pwT, List.map_nil, List.append_nil]
            exact List.take_of_length_le hLj
          obtain ⟨g2, _, gkl⟩ := h3.cellF (o := 2) rfl
          obtain ⟨g3, _, _⟩ := h3.cellF (o := 3) rfl
          have H3 := Lib.hid h3
          have HFL := Lib.hid hfin
          clear h3 hcutj hut hfin z0 d1
          (repeat' (first | (go_big_may; fail) | go_values | go_skip | go_guarded | go_step | go_upon | go_back | dsimp only))
          (refine region_still_tail 10 (by kernel_rfl) (by kernel_rfl) ?_; simp only [List.take_succ_cons, List.take_zero, List.drop_succ_cons, List.drop_zero]; (iterate 10 (first | ((with_reducible refine still_plain ?_ rfl ?_ ?_); rotate_left; (next => (go_simp; (try with_reducible rfl))); simp only [Act.put, List.setIfInBounds_toArray, List.set_cons_zero, List.set_cons_succ]) | ((with_reducible refine still_skip ?_ ?_); (next => (go_simp; done)); simp only [Act.put, List.setIfInBounds_toArray, List.set_cons_zero, List.set_cons_succ]) | ((with_reducible refine still_val ?_ ?_ ?_ ?_); rotate_left; (next => (go_simp; done)); (next => (go_simp; (try with_reducible rfl))); simp only [Act.put, List.setIfInBounds_toArray, List.set_cons_zero, List.set_cons_succ]))); (with_reducible refine wpStill_nil ?_))
          (repeat' (first | (go_big_may; fail) | go_values | go_skip | go_guarded | go_step | go_upon | go_back | dsimp only))
          go_ret
          rw [HFL.out]
          exact ⟨_, _, pre, by simp, fun _ => rfl, H3.out.drew (GaT.stable HR.out)⟩
end Go.Proofs.Ythjkfiniafblbaa

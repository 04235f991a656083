/- The document's more walked: the words of a tree behind a beginning, put behind the list, up to most in all. -/
import Derived.Test.YthjkfiniafblbaaWkList
namespace Go.Proofs.Ythjkfiniafblbaa
open Go.RowKit

/-- What is left of the text. -/
def leftF (tight : Bool) (fs : ByteArray) (d : Nat) : List UInt8 := if tight = true then fs.data.toList.drop d else []
theorem cut_cut (L A B : List (List UInt8)) (m : Nat) : ((L ++ A).take m ++ B).take m = (L ++ (A ++ B)).take m := by
  rw [← List.append_assoc]
  by_cases h : (L ++ A).length ≤ m
  · rw [List.take_of_length_le h]
  · rw [List.take_append_of_le_length (by rw [List.length_take]; omega), List.take_take, Nat.min_self, List.take_append_of_le_length (l₁ := L ++ A) (by omega)]

set_option maxRecDepth 100000 in
set_option maxHeartbeats 6400000 in
theorem more_at {W : World} {A : List Sta} {va : Value} (hA : RdAut W va A) (most : Nat) (hmost : most ≤ 4096) (k : Nat) : ∀ (w : World) (n : Nat) (t : Trie) (fs : ByteArray) (tight : Bool) (vw vl : Value) (pre : List UInt8) (L : List (List UInt8)) (R : Thing),
    At W w (Both (RowG 5 1 vw pre.length (bvs pre)) (Both (RowG tStr 1 vl L.length (strs L)) R)) → Stable R → Unf A n t → htT t < k → pre.length + htT t ≤ 1048576 → L.length ≤ most →
    Calls Try.prog 41 #[va, .int .i64 n, vw, .string fs, .bool tight, vl, .int .i64 (most : Nat)] w fun e w' => ∃ vl', e = .returned vl' ∧
      At W w' (Both (RowG 5 1 vw pre.length (bvs pre)) (Both (RowG tStr 1 vl' ((L ++ pwT pre (wT t (leftF tight fs pre.length))).take most).length (strs ((L ++ pwT pre (wT t (leftF tight fs pre.length))).take most))) R)) := by
  induction k with
  | zero => intro w n t fs tight vw vl pre L R _ _ _ h; omega
  | succ k ih =>
    intro w n t fs tight vw vl pre L R h hR hu hk hpl hL
    have hn := hu.lt
    have hnI : (n : Int) < (A.length : Int) := by omega
    obtain ⟨x, hx, hux⟩ := hu
    obtain ⟨b, off, cap, u, hsv, d0, d1, hue⟩ := hA.at hx
    obtain ⟨ua, uc, rfl, _, huc⟩ := hue.shape
    unfold maxLen at huc
    obtain ⟨wa, wca, rfl, _, hwca⟩ := own_shape h.rowG
    obtain ⟨oa, oc, rfl, _, hoc⟩ := own_shape h.drop.rowG
    unfold maxLen at hwca hoc
    subst hsv
    have D1 := Lib.hid d1
    replace d0 := (h.below.cell (World.block_lt_of_cell? _ _ d0)).trans d0
    have hel := edgesN_le hx
    have HFIN := Lib.hid hux.final
    have H := Lib.hid h
    have HR := Lib.hid hR
    have HU := Lib.hid hux
    have IH := Lib.hid ih
    have HE := Lib.hid (show RdEds W (.slice ua x.edges.length uc) x.edges from hue)
    clear h hR hux hx ih hue d1
    by_cases hfull : most ≤ L.length
    · have hfI : (most : Int) ≤ (L.length : Int) := by omega
      have hfin : (L ++ pwT pre (wT t (leftF tight fs pre.length))).take most = L := by
        rw [List.take_append_of_le_length hfull, List.take_of_length_le hL]
      have HFL := Lib.hid hfin
      clear hfin
      go_enter Try.func41, Try.ntmps41
      (repeat' (first | (go_big_may; fail) | go_values | go_skip | go_guarded | go_step | go_upon | go_back | dsimp only))
      go_ret
      rw [HFL.out]
      exact ⟨_, rfl, H.out⟩
    · have hfI : ¬ (most : Int) ≤ (L.length : Int) := by omega
      obtain ⟨g, hg⟩ : ∃ g, g = leftF tight fs pre.length := ⟨_, rfl⟩
      rw [← hg]
      have hgc : (tight = true ∧ pre.length < fs.size ∧ g = fs.data.toList.drop pre.length) ∨ (¬ (tight = true ∧ pre.length < fs.size) ∧ g = []) := by
        rw [hg]
        unfold leftF
        cases tight with
        | false => right; exact ⟨by simp, by simp⟩
        | true =>
          by_cases h : pre.length < fs.size
          · left; exact ⟨rfl, h, by simp⟩
          · right; exact ⟨by simp [h], by simp; omega⟩
      have HGC := Lib.hid hgc
      clear hgc hg
      go_enter Try.func41, Try.ntmps41
      go_upto_region 4 with (fail)
      go_cut [41] (fun v wx => v = .bool (x.final && g.isEmpty) ∧ wx = w)
      case first =>
        refine wp_norm ?_
        rename_i J K' hJ hK
        have HJ := Lib.hid hJ
        have HK := Lib.hid hK
        clear hJ hK
        rcases HGC.out with ⟨h1, h2, h3⟩ | ⟨h1, h3⟩
        · have hgn : g.isEmpty = false := by
            rw [h3]
            cases h : fs.data.toList.drop pre.length with
            | nil => have := congrArg List.length h; simp at this; omega
            | cons a l => rfl
          have h2I : ¬ (fs.size : Int) ≤ (pre.length : Int) := by omega
          have HGN := Lib.hid hgn
          subst h1
          clear h3 hgn
          cases hf : x.final <;> rw [hf] at d0
          all_goals
            (repeat' (first | (go_big_may; fail) | go_values | go_skip | go_guarded | go_step | go_upon | go_back | dsimp only))
            refine HK.out _ _ ?_
            have hJ := HJ.out
            go_meet
            case rel => exact ⟨by rw [hf, HGN.out]; rfl, rfl⟩
        · have hgn : g.isEmpty = true := by rw [h3]; rfl
          have HGN := Lib.hid hgn
          clear h3 hgn
          have htb : tight = false ∨ tight = true := by cases tight <;> simp
          rcases htb with rfl | rfl
          · cases hf : x.final <;> rw [hf] at d0
            all_goals
              (repeat' (first | (go_big_may; fail) | go_values | go_skip | go_guarded | go_step | go_upon | go_back | dsimp only))
              refine HK.out _ _ ?_
              have hJ := HJ.out
              go_meet
              case rel => exact ⟨by rw [hf, HGN.out]; rfl, rfl⟩
          · have h2I : (fs.size : Int) ≤ (pre.length : Int) := by
              have : ¬ pre.length < fs.size := fun h => h1 ⟨rfl, h⟩
              omega
            cases hf : x.final <;> rw [hf] at d0
            all_goals
              (repeat' (first | (go_big_may; fail) | go_values | go_skip | go_guarded | go_step | go_upon | go_back | dsimp only))
              refine HK.out _ _ ?_
              have hJ := HJ.out
              go_meet
              case rel => exact ⟨by rw [hf, HGN.out]; rfl, rfl⟩
      case rest =>
      obtain ⟨rfl, hwc⟩ := hcut
      have hwc' := hwc.symm
      subst hwc'
      clear hwc
      go_upto_if 41 with (fail)
      go_cut [5] (fun v wx => At W wx (Both (RowG 5 1 (.slice wa pre.length wca) pre.length (bvs pre)) (Both (RowG tStr 1 v (L ++ pwT pre (headL t g)).length (strs (L ++ pwT pre (headL t g)))) R)))
      case first =>
        refine wp_norm ?_
        rename_i J K' hJ hK
        have HJ := Lib.hid hJ
        have HK := Lib.hid hK
        clear hJ hK
        by_cases hcc : x.final = true ∧ g = []
        · obtain ⟨hf, hg0⟩ := hcc
          have hh : headL t g = [[]] := by rw [hg0]; exact headL_yes (by rw [HFIN.out, hf])
          have e0 : (x.final && g.isEmpty) = true := by rw [hf, hg0]; rfl
          rw [hh] at HJ
          rw [e0]
          clear hh e0 hg0
          (repeat' (first | (go_big_may; first | ((with_reducible (show wpList _ _ _ ({ dst := _, op := Op.convert 83 9 _, type := _, pos := _, after := _, guard := _ } :: _) _ _); refine wpList_string_own rfl 83 9 5 _ rfl Try.underlying83 Try.underlying5 Try.underlying9 _ _ _ rfl H.out.rowG ?_)) | ((at_builtin; go_must (refine wpList_append_to rfl _ _ 36 tStr rfl Try.underlying36 info_St rfl (by decide) rfl (H.out.swap) ((RowG.stable _ _ _ _ _).both HR.out) rfl (by first | rfl | simp) rfl (one_str _) (by unfold maxLen; omega) (by omega) ?_); intro a4 c4 w4 h4 _); have H4 := Lib.hid h4; clear h4)) | go_values | go_skip | go_guarded | go_step | go_upon | go_back | dsimp only))
          refine HK.out _ _ ?_
          have hJ := HJ.out
          go_meet
          case rel =>
            have e1 : (L ++ pwT pre [[]]).length = L.length + 1 := by simp [pwT]
            have e2 : strs (L ++ pwT pre [[]]) = strs L ++ (#[.string ⟨pre.toArray⟩] : Array Value).toList := by simp [pwT, strs]
            rw [e1, e2]
            exact H4.out.swap
        · have hh : headL t g = [] := headL_not (by rw [HFIN.out]; exact hcc)
          have e0 : (x.final && g.isEmpty) = false := by
            cases hf : x.final with
            | false => rfl
            | true =>
              cases g with
              | nil => exact absurd ⟨hf, rfl⟩ hcc
              | cons a l => rfl
          rw [hh] at HJ
          rw [e0]
          clear hh e0 hcc
          (repeat' (first | (go_big_may; fail) | go_values | go_skip | go_guarded | go_step | go_upon | go_back | dsimp only))
          refine HK.out _ _ ?_
          have hJ := HJ.out
          go_meet
          case rel =>
            simp only [pwT, List.map_nil, List.append_nil]
            exact H.out
      case rest =>
      have HC0 := Lib.hid hcut
      have HT := Lib.hid (wT_split t g L pre most)
      have hl1 : (L ++ pwT pre (headL t g)).length ≤ most := by simp [pwT, headL]; split <;> simp <;> omega
      clear hcut d0 hfull hfI
      (repeat' (first | (go_big_may; fail) | go_values | go_skip | go_guarded | go_step | go_upon | go_back | dsimp only))
      go_loopw [5, 16] (fun vl vj wr => ∃ (j : Nat) (tj : Trie) (vl2 : Value) (Lj : List (List UInt8)), vj = .int .i64 j ∧ j ≤ x.edges.length ∧ UnfE A tj x.final (x.edges.drop j) ∧ htT tj ≤ htT t ∧ (Lj ++ pwT pre (lE tj g)).take most = (L ++ pwT pre (wT t g)).take most ∧ Lj.length ≤ most ∧ vl = vl2 ∧ At W wr (Both (RowG 5 1 (.slice wa pre.length wca) pre.length (bvs pre)) (Both (RowG tStr 1 vl2 Lj.length (strs Lj)) R))) (fun _ vj _ => x.edges.length - (intOf vj).toNat)
      case atStart => exact ⟨0, t, _, _, rfl, Nat.zero_le _, HU.out, Nat.le_refl _, HT.out, hl1, rfl, HC0.out⟩
      case round =>
        obtain ⟨j, tj, vl2, Lj, rfl, hj, hut, hhj, hcutj, hLj, rfl, h3⟩ := hrel
        obtain ⟨oa3, oc3, rfl, _, hoc3⟩ := own_shape h3.drop.rowG
        unfold maxLen at hoc3
        have d1 := (h3.below.cell (World.block_lt_of_cell? _ _ D1.out)).trans D1.out
        by_cases hlj : j < x.edges.length
        · obtain ⟨e, he⟩ : ∃ e, x.edges[j]? = some e := ⟨_, List.getElem?_eq_getElem hlj⟩
          rw [drop_at he] at hut
          obtain ⟨ct, r, rfl, he0, hct, hr⟩ := hut.cons
          obtain ⟨m, hm⟩ := Int.eq_ofNat_of_zero_le he0
          rw [hm, Int.toNat_natCast] at hct
          simp only [htT] at hhj
          have hml := hct.lt
          have hmI : (m : Int) < (A.length : Int) := by omega
          have hjI : (j : Int) < (x.edges.length : Int) := by omega
          have hplb : pre.length ≤ 1048576 := by omega
          have hplI : (pre.length : Int) < (pre.length : Int) + 1 := by omega
          have hpl0 : (0 : Int) ≤ (pre.length : Int) := by omega
          obtain ⟨be, oe, ce, hse, e0, e1⟩ := RdEds.at (HE.out.below h3.below) he
          cases hse
          rw [hm] at e1
          have HST3 := Lib.hid (show Stable (Both (RowG 5 1 (.slice wa pre.length wca) pre.length (bvs pre)) (Both (RowG tStr 1 (.slice oa3 Lj.length oc3) Lj.length (strs Lj)) R)) from (RowG.stable _ _ _ _ _).both ((RowG.stable _ _ _ _ _).both HR.out))
          have H3 := Lib.hid h3
          have HED := Lib.hid (And.intro he hm)
          have HR2 := Lib.hid hr
          have HCT := Lib.hid hct
          have HCJ := Lib.hid hcutj
          clear h3 he hm hr hct hcutj hut he0
          rcases HGC.out with ⟨htt, hds, hgg⟩ | ⟨hno, hgg⟩
          · subst htt
            have hdsI : (pre.length : Int) < (fs.size : Int) := by omega
            obtain ⟨y, hy⟩ : ∃ y, fs[pre.length] = y := ⟨_, rfl⟩
            have hfl := drop_at (toList_get0 hds)
            rw [hy, ← hgg] at hfl
            have HFL := Lib.hid hfl
            clear hfl hgg
            rcases Nat.lt_trichotomy e.1.toNat y.toNat with hlt | heq | hgt
            · have hltI : (e.1.toNat : Int) < (y.toNat : Int) := by omega
              have HNX := Lib.hid (show nextF e.1 g = none from by rw [HFL.out]; exact nextF_low hlt)
              (repeat' (first | (go_big_may; fail) | go_values | go_skip | go_guarded | go_step | go_upon | go_back | dsimp only))
              go_roundw
              case rel => exact ⟨j + 1, r, _, Lj, by simp, by omega, HR2.out, by omega, by rw [← HCJ.out, lE_none HNX.out], hLj, rfl, H3.out⟩
              case measure => simp [intOf] <;> omega
            · have heq' : e.1 = y := UInt8.toNat_inj.1 heq
              have hltI : ¬ (e.1.toNat : Int) < (y.toNat : Int) := by omega
              have heqI : ((e.1.toNat : Int) == (y.toNat : Int)) = true := by rw [beq_iff_eq]; omega
              have HNX := Lib.hid (show nextF e.1 g = some (fs.data.toList.drop (pre.length + 1)) from by rw [HFL.out]; exact nextF_eq heq')
              have HN := Lib.hid (show fs.data.toList.drop (pre.length + 1) = leftF true fs (pre.length + 1) from (if_pos rfl).symm)
              clear heq heq'
              (repeat' (first | (go_big_may; first | ((at_make; go_must (refine wpList_make_at (n := pre.length + 1) rfl _ _ 83 rfl tBy Try.underlying83 info_By rfl rfl rfl (by simp) (by simp) (by omega) (by unfold maxLen; omega) H3.out HST3.out ?_)); intro w6 h6 _; have H6 := Lib.hid h6; clear h6) | (with_reducible (show wpList _ _ _ ({ dst := _, op := Op.call { callee := Callee.builtin Builtin.copy, args := _, argTypes := _ }, type := _, pos := _, after := _, guard := _ } :: _) _ _); (go_must (refine wpList_copy_at rfl _ _ _ _ rfl tBy Try.underlying83 (by kernel_rfl) H6.out HST3.out (RdRow.of_own H6.out.drop.rowG) (by omega) (bvs_oneCell _) rfl rfl ?_)); intro w7 h7; have h8 := h7.storeG HST3.out pre.length (bv e.1); obtain ⟨r1, r2, r3⟩ := h7.rowCell (j := pre.length) (u := .int .u8 0) (by rw [List.getElem?_append_right (by rw [bvs_length]; exact Nat.le_refl _), bvs_length, Nat.sub_self, List.drop_replicate, show pre.length + 1 - pre.length = 1 from by omega]; simp); have H8 := Lib.hid h8; have d1b := (h8.below.cell (World.block_lt_of_cell? _ _ D1.out)).trans D1.out; obtain ⟨be2, oe2, ce2, hse2, _, e1b⟩ := RdEds.at (HE.out.below h8.below) HED.out.1; cases hse2; rw [HED.out.2] at e1b; clear h7 h8)) | go_values | go_skip | go_guarded | go_step | go_upon | go_back | dsimp only))
              have h9 : At W (w7.setCell ⟨wr.heap.size, pre.length, none⟩ (bv e.1)) (Both (RowG 5 1 (.slice (some ⟨wr.heap.size, 0, none⟩) (pre ++ [e.1]).length (pre.length + 1)) (pre ++ [e.1]).length (bvs (pre ++ [e.1]))) (Both (RowG tStr 1 (.slice oa3 Lj.length oc3) Lj.length (strs Lj)) (Both (RowG 5 1 (.slice wa pre.length wca) pre.length (bvs pre)) R))) := by
                have z1 : (pre ++ [e.1]).length = pre.length + 1 := by simp
                rw [z1]
                have z2 : (bvs pre ++ List.drop pre.length (List.replicate (pre.length + 1) (Value.int .u8 0))).set pre.length (bv e.1) = bvs (pre ++ [e.1]) := by
                  rw [List.drop_replicate, show pre.length + 1 - pre.length = 1 from by omega, bvs_append]
                  rw [List.set_append_right _ _ (by rw [bvs_length]; exact Nat.le_refl _), bvs_length, Nat.sub_self]
                  rfl
                have := H8.out
                rw [z2] at this
                exact this.impl fun _ q => Both.mono (fun _ _ q => q.assoc) q
              have H9 := Lib.hid h9
              have z1 : (pre ++ [e.1]).length = pre.length + 1 := by simp
              clear h9 e0 e1
              have hcall := IH.out _ m ct fs true (.slice (some ⟨wr.heap.size, 0, none⟩) (pre ++ [e.1]).length (pre.length + 1)) (.slice oa3 Lj.length oc3) (pre ++ [e.1]) Lj _ H9.out ((RowG.stable _ _ _ _ _).both HR.out) HCT.out (by omega) (by omega) hLj
              rw [z1] at hcall
              rw [← HN.out] at hcall
              refine hcall.mono ?_
              rintro e5 w5 ⟨vl5, rfl, h10⟩
              have H10 := Lib.hid (show At W w5 (Both (RowG 5 1 (.slice wa pre.length wca) pre.length (bvs pre)) (Both (RowG tStr 1 vl5 _ _) R)) from h10.drop.swap)
              clear h10 hcall z1 d1b e1b r1 r2 r3
              (repeat' (first | (go_big_may; fail) | go_values | go_skip | go_guarded | go_step | go_upon | go_back | dsimp only))
              go_roundw
              case rel => exact ⟨j + 1, r, vl5, _, by simp, by omega, HR2.out, by omega, by rw [← HCJ.out, lE_some HNX.out, pwT_app, pwT_cons]; exact cut_cut _ _ _ _, by rw [List.length_take]; omega, rfl, H10.out⟩
              case measure => simp [intOf] <;> omega
            · have hltI : ¬ (e.1.toNat : Int) < (y.toNat : Int) := by omega
              have heqI : ((e.1.toNat : Int) == (y.toNat : Int)) = false := by rw [beq_eq_false_iff_ne]; omega
              have HNX := Lib.hid (show nextF e.1 g = some [] from by rw [HFL.out]; exact nextF_high hgt)
              have HN := Lib.hid (show ([] : List UInt8) = leftF false fs (pre.length + 1) from rfl)
              (repeat' (first | (go_big_may; first | ((at_make; go_must (refine wpList_make_at (n := pre.length + 1) rfl _ _ 83 rfl tBy Try.underlying83 info_By rfl rfl rfl (by simp) (by simp) (by omega) (by unfold maxLen; omega) H3.out HST3.out ?_)); intro w6 h6 _; have H6 := Lib.hid h6; clear h6) | (with_reducible (show wpList _ _ _ ({ dst := _, op := Op.call { callee := Callee.builtin Builtin.copy, args := _, argTypes := _ }, type := _, pos := _, after := _, guard := _ } :: _) _ _); (go_must (refine wpList_copy_at rfl _ _ _ _ rfl tBy Try.underlying83 (by kernel_rfl) H6.out HST3.out (RdRow.of_own H6.out.drop.rowG) (by omega) (bvs_oneCell _) rfl rfl ?_)); intro w7 h7; have h8 := h7.storeG HST3.out pre.length (bv e.1); obtain ⟨r1, r2, r3⟩ := h7.rowCell (j := pre.length) (u := .int .u8 0) (by rw [List.getElem?_append_right (by rw [bvs_length]; exact Nat.le_refl _), bvs_length, Nat.sub_self, List.drop_replicate, show pre.length + 1 - pre.length = 1 from by omega]; simp); have H8 := Lib.hid h8; have d1b := (h8.below.cell (World.block_lt_of_cell? _ _ D1.out)).trans D1.out; obtain ⟨be2, oe2, ce2, hse2, _, e1b⟩ := RdEds.at (HE.out.below h8.below) HED.out.1; cases hse2; rw [HED.out.2] at e1b; clear h7 h8)) | go_values | go_skip | go_guarded | go_step | go_upon | go_back | dsimp only))
              have h9 : At W (w7.setCell ⟨wr.heap.size, pre.length, none⟩ (bv e.1)) (Both (RowG 5 1 (.slice (some ⟨wr.heap.size, 0, none⟩) (pre ++ [e.1]).length (pre.length + 1)) (pre ++ [e.1]).length (bvs (pre ++ [e.1]))) (Both (RowG tStr 1 (.slice oa3 Lj.length oc3) Lj.length (strs Lj)) (Both (RowG 5 1 (.slice wa pre.length wca) pre.length (bvs pre)) R))) := by
                have z1 : (pre ++ [e.1]).length = pre.length + 1 := by simp
                rw [z1]
                have z2 : (bvs pre ++ List.drop pre.length (List.replicate (pre.length + 1) (Value.int .u8 0))).set pre.length (bv e.1) = bvs (pre ++ [e.1]) := by
                  rw [List.drop_replicate, show pre.length + 1 - pre.length = 1 from by omega, bvs_append]
                  rw [List.set_append_right _ _ (by rw [bvs_length]; exact Nat.le_refl _), bvs_length, Nat.sub_self]
                  rfl
                have := H8.out
                rw [z2] at this
                exact this.impl fun _ q => Both.mono (fun _ _ q => q.assoc) q
              have H9 := Lib.hid h9
              have z1 : (pre ++ [e.1]).length = pre.length + 1 := by simp
              clear h9 e0 e1
              have hcall := IH.out _ m ct fs false (.slice (some ⟨wr.heap.size, 0, none⟩) (pre ++ [e.1]).length (pre.length + 1)) (.slice oa3 Lj.length oc3) (pre ++ [e.1]) Lj _ H9.out ((RowG.stable _ _ _ _ _).both HR.out) HCT.out (by omega) (by omega) hLj
              rw [z1] at hcall
              rw [← HN.out] at hcall
              refine hcall.mono ?_
              rintro e5 w5 ⟨vl5, rfl, h10⟩
              have H10 := Lib.hid (show At W w5 (Both (RowG 5 1 (.slice wa pre.length wca) pre.length (bvs pre)) (Both (RowG tStr 1 vl5 _ _) R)) from h10.drop.swap)
              clear h10 hcall z1 d1b e1b r1 r2 r3
              (repeat' (first | (go_big_may; fail) | go_values | go_skip | go_guarded | go_step | go_upon | go_back | dsimp only))
              go_roundw
              case rel => exact ⟨j + 1, r, vl5, _, by simp, by omega, HR2.out, by omega, by rw [← HCJ.out, lE_some HNX.out, pwT_app, pwT_cons]; exact cut_cut _ _ _ _, by rw [List.length_take]; omega, rfl, H10.out⟩
              case measure => simp [intOf] <;> omega
          · have HNX := Lib.hid (show nextF e.1 g = some [] from by rw [hgg]; rfl)
            have HN := Lib.hid (show ([] : List UInt8) = leftF false fs (pre.length + 1) from rfl)
            clear hgg
            have htb : tight = false ∨ tight = true := by cases tight <;> simp
            rcases htb with rfl | rfl
            · skip
              (repeat' (first | (go_big_may; first | ((at_make; go_must (refine wpList_make_at (n := pre.length + 1) rfl _ _ 83 rfl tBy Try.underlying83 info_By rfl rfl rfl (by simp) (by simp) (by omega) (by unfold maxLen; omega) H3.out HST3.out ?_)); intro w6 h6 _; have H6 := Lib.hid h6; clear h6) | (with_reducible (show wpList _ _ _ ({ dst := _, op := Op.call { callee := Callee.builtin Builtin.copy, args := _, argTypes := _ }, type := _, pos := _, after := _, guard := _ } :: _) _ _); (go_must (refine wpList_copy_at rfl _ _ _ _ rfl tBy Try.underlying83 (by kernel_rfl) H6.out HST3.out (RdRow.of_own H6.out.drop.rowG) (by omega) (bvs_oneCell _) rfl rfl ?_)); intro w7 h7; have h8 := h7.storeG HST3.out pre.length (bv e.1); obtain ⟨r1, r2, r3⟩ := h7.rowCell (j := pre.length) (u := .int .u8 0) (by rw [List.getElem?_append_right (by rw [bvs_length]; exact Nat.le_refl _), bvs_length, Nat.sub_self, List.drop_replicate, show pre.length + 1 - pre.length = 1 from by omega]; simp); have H8 := Lib.hid h8; have d1b := (h8.below.cell (World.block_lt_of_cell? _ _ D1.out)).trans D1.out; obtain ⟨be2, oe2, ce2, hse2, _, e1b⟩ := RdEds.at (HE.out.below h8.below) HED.out.1; cases hse2; rw [HED.out.2] at e1b; clear h7 h8)) | go_values | go_skip | go_guarded | go_step | go_upon | go_back | dsimp only))
              have h9 : At W (w7.setCell ⟨wr.heap.size, pre.length, none⟩ (bv e.1)) (Both (RowG 5 1 (.slice (some ⟨wr.heap.size, 0, none⟩) (pre ++ [e.1]).length (pre.length + 1)) (pre ++ [e.1]).length (bvs (pre ++ [e.1]))) (Both (RowG tStr 1 (.slice oa3 Lj.length oc3) Lj.length (strs Lj)) (Both (RowG 5 1 (.slice wa pre.length wca) pre.length (bvs pre)) R))) := by
                have z1 : (pre ++ [e.1]).length = pre.length + 1 := by simp
                rw [z1]
                have z2 : (bvs pre ++ List.drop pre.length (List.replicate (pre.length + 1) (Value.int .u8 0))).set pre.length (bv e.1) = bvs (pre ++ [e.1]) := by
                  rw [List.drop_replicate, show pre.length + 1 - pre.length = 1 from by omega, bvs_append]
                  rw [List.set_append_right _ _ (by rw [bvs_length]; exact Nat.le_refl _), bvs_length, Nat.sub_self]
                  rfl
                have := H8.out
                rw [z2] at this
                exact this.impl fun _ q => Both.mono (fun _ _ q => q.assoc) q
              have H9 := Lib.hid h9
              have z1 : (pre ++ [e.1]).length = pre.length + 1 := by simp
              clear h9 e0 e1
              have hcall := IH.out _ m ct fs false (.slice (some ⟨wr.heap.size, 0, none⟩) (pre ++ [e.1]).length (pre.length + 1)) (.slice oa3 Lj.length oc3) (pre ++ [e.1]) Lj _ H9.out ((RowG.stable _ _ _ _ _).both HR.out) HCT.out (by omega) (by omega) hLj
              rw [z1] at hcall
              rw [← HN.out] at hcall
              refine hcall.mono ?_
              rintro e5 w5 ⟨vl5, rfl, h10⟩
              have H10 := Lib.hid (show At W w5 (Both (RowG 5 1 (.slice wa pre.length wca) pre.length (bvs pre)) (Both (RowG tStr 1 vl5 _ _) R)) from h10.drop.swap)
              clear h10 hcall z1 d1b e1b r1 r2 r3
              (repeat' (first | (go_big_may; fail) | go_values | go_skip | go_guarded | go_step | go_upon | go_back | dsimp only))
              go_roundw
              case rel => exact ⟨j + 1, r, vl5, _, by simp, by omega, HR2.out, by omega, by rw [← HCJ.out, lE_some HNX.out, pwT_app, pwT_cons]; exact cut_cut _ _ _ _, by rw [List.length_take]; omega, rfl, H10.out⟩
              case measure => simp [intOf] <;> omega
            · have hdsI : ¬ (pre.length : Int) < (fs.size : Int) := by
                have : ¬ pre.length < fs.size := fun h => hno ⟨rfl, h⟩
                omega
              (repeat' (first | (go_big_may; first | ((at_make; go_must (refine wpList_make_at (n := pre.length + 1) rfl _ _ 83 rfl tBy Try.underlying83 info_By rfl rfl rfl (by simp) (by simp) (by omega) (by unfold maxLen; omega) H3.out HST3.out ?_)); intro w6 h6 _; have H6 := Lib.hid h6; clear h6) | (with_reducible (show wpList _ _ _ ({ dst := _, op := Op.call { callee := Callee.builtin Builtin.copy, args := _, argTypes := _ }, type := _, pos := _, after := _, guard := _ } :: _) _ _); (go_must (refine wpList_copy_at rfl _ _ _ _ rfl tBy Try.underlying83 (by kernel_rfl) H6.out HST3.out (RdRow.of_own H6.out.drop.rowG) (by omega) (bvs_oneCell _) rfl rfl ?_)); intro w7 h7; have h8 := h7.storeG HST3.out pre.length (bv e.1); obtain ⟨r1, r2, r3⟩ := h7.rowCell (j := pre.length) (u := .int .u8 0) (by rw [List.getElem?_append_right (by rw [bvs_length]; exact Nat.le_refl _), bvs_length, Nat.sub_self, List.drop_replicate, show pre.length + 1 - pre.length = 1 from by omega]; simp); have H8 := Lib.hid h8; have d1b := (h8.below.cell (World.block_lt_of_cell? _ _ D1.out)).trans D1.out; obtain ⟨be2, oe2, ce2, hse2, _, e1b⟩ := RdEds.at (HE.out.below h8.below) HED.out.1; cases hse2; rw [HED.out.2] at e1b; clear h7 h8)) | go_values | go_skip | go_guarded | go_step | go_upon | go_back | dsimp only))
              have h9 : At W (w7.setCell ⟨wr.heap.size, pre.length, none⟩ (bv e.1)) (Both (RowG 5 1 (.slice (some ⟨wr.heap.size, 0, none⟩) (pre ++ [e.1]).length (pre.length + 1)) (pre ++ [e.1]).length (bvs (pre ++ [e.1]))) (Both (RowG tStr 1 (.slice oa3 Lj.length oc3) Lj.length (strs Lj)) (Both (RowG 5 1 (.slice wa pre.length wca) pre.length (bvs pre)) R))) := by
                have z1 : (pre ++ [e.1]).length = pre.length + 1 := by simp
                rw [z1]
                have z2 : (bvs pre ++ List.drop pre.length (List.replicate (pre.length + 1) (Value.int .u8 0))).set pre.length (bv e.1) = bvs (pre ++ [e.1]) := by
                  rw [List.drop_replicate, show pre.length + 1 - pre.length = 1 from by omega, bvs_append]
                  rw [List.set_append_right _ _ (by rw [bvs_length]; exact Nat.le_refl _), bvs_length, Nat.sub_self]
                  rfl
                have := H8.out
                rw [z2] at this
                exact this.impl fun _ q => Both.mono (fun _ _ q => q.assoc) q
              have H9 := Lib.hid h9
              have z1 : (pre ++ [e.1]).length = pre.length + 1 := by simp
              clear h9 e0 e1
              have hcall := IH.out _ m ct fs false (.slice (some ⟨wr.heap.size, 0, none⟩) (pre ++ [e.1]).length (pre.length + 1)) (.slice oa3 Lj.length oc3) (pre ++ [e.1]) Lj _ H9.out ((RowG.stable _ _ _ _ _).both HR.out) HCT.out (by omega) (by omega) hLj
              rw [z1] at hcall
              rw [← HN.out] at hcall
              refine hcall.mono ?_
              rintro e5 w5 ⟨vl5, rfl, h10⟩
              have H10 := Lib.hid (show At W w5 (Both (RowG 5 1 (.slice wa pre.length wca) pre.length (bvs pre)) (Both (RowG tStr 1 vl5 _ _) R)) from h10.drop.swap)
              clear h10 hcall z1 d1b e1b r1 r2 r3
              (repeat' (first | (go_big_may; fail) | go_values | go_skip | go_guarded | go_step | go_upon | go_back | dsimp only))
              go_roundw
              case rel => exact ⟨j + 1, r, vl5, _, by simp, by omega, HR2.out, by omega, by rw [← HCJ.out, lE_some HNX.out, pwT_app, pwT_cons]; exact cut_cut _ _ _ _, by rw [List.length_take]; omega, rfl, H10.out⟩
              case measure => simp [intOf] <;> omega
        · obtain rfl : j = x.edges.length := by omega
          rw [List.drop_eq_nil_of_le (Nat.le_refl _)] at hut
          obtain rfl := hut.nil
          have hfin : (L ++ pwT pre (wT t g)).take most = Lj := by
            rw [← hcutj]
            simp only [lE, pwT, List.map_nil, List.append_nil]
            exact List.take_of_length_le hLj
          have H3 := Lib.hid h3
          have HFL := Lib.hid hfin
          clear h3 hcutj hut hfin
          (repeat' (first | (go_big_may; fail) | go_values | go_skip | go_guarded | go_step | go_upon | go_back | dsimp only))
          go_ret
          rw [HFL.out]
          exact ⟨_, rfl, H3.out⟩
end Go.Proofs.Ythjkfiniafblbaa

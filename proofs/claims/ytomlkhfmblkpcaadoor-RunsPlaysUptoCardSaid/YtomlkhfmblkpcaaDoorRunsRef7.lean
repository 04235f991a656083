/- The document's store (hornbookref05): Remove walked. -/
import Derived.Test.YtomlkhfmblkpcaaDoorRunsRef6
namespace Go.Proofs.YtomlkhfmblkpcaaDoor
open Go.RowKit

theorem runs_erase {S : St} (hG : GoodS S) {rs : List RR} (hr : S.runs = rs.map runOf) {j : Nat} (hj : j < rs.length) : (S.runs.filter fun q => q.1 != (rs.getD j default).num) = (rs.eraseIdx j).map runOf := by
  rw [hr, List.eraseIdx_eq_take_drop_succ]
  have h1 : ∀ i, i < rs.length → i ≠ j → (rs.getD i default).num ≠ (rs.getD j default).num := fun i hi hij => nums_ne hG hr hi hj hij
  obtain ⟨num, hnum⟩ : ∃ n, n = (rs.getD j default).num := ⟨_, rfl⟩
  rw [← hnum] at h1 ⊢
  conv => lhs; rw [split_at hj]
  rw [List.map_append, List.map_cons, List.filter_append, List.filter_cons, if_neg (by show ¬ ((rs.getD j default).num != num) = true; rw [hnum]; simp), List.map_append]
  congr 1
  · rw [List.filter_eq_self]
    intro q hq
    obtain ⟨r, hr2, rfl⟩ := List.mem_map.1 hq
    obtain ⟨i, hi, rfl⟩ := List.getElem_of_mem hr2
    rw [List.length_take] at hi
    have := h1 i (by omega) (by omega)
    rw [List.getD_eq_getElem?_getD, List.getElem?_eq_getElem (show i < rs.length by omega)] at this
    simpa [runOf] using this
  · rw [List.filter_eq_self]
    intro q hq
    obtain ⟨r, hr2, rfl⟩ := List.mem_map.1 hq
    obtain ⟨i, hi, rfl⟩ := List.getElem_of_mem hr2
    rw [List.length_drop] at hi
    have := h1 (j + 1 + i) (by omega) (by omega)
    rw [List.getD_eq_getElem?_getD, List.getElem?_eq_getElem (show j + 1 + i < rs.length by omega)] at this
    simpa [runOf] using this
theorem take_erase_same {α : Type} {l : List α} {j : Nat} (hj : j < l.length) : (l.take (j + 1)).eraseIdx j = (l.take j).eraseIdx j := by
  rw [List.take_add_one, List.getElem?_eq_getElem hj, List.eraseIdx_append_of_length_le (by simp; omega), List.eraseIdx_of_length_le (l := l.take j) (by rw [List.length_take]; exact Nat.min_le_left _ _)]
  simp [Nat.min_eq_left (Nat.le_of_lt hj)]
theorem take_erase_other {α : Type} [Inhabited α] {l : List α} {j k : Nat} (hk : k < l.length) (hjk : k ≠ j) : (l.take (k + 1)).eraseIdx j = (l.take k).eraseIdx j ++ [l.getD k default] := by
  have e : (l[k]?).toList = [l.getD k default] := by rw [List.getD_eq_getElem?_getD, List.getElem?_eq_getElem hk]; rfl
  rw [List.take_add_one, e]
  rcases Nat.lt_or_gt_of_ne hjk with h | h
  · rw [List.eraseIdx_of_length_le (by simp; omega), List.eraseIdx_of_length_le (by simp; omega)]
  · rw [List.eraseIdx_append_of_lt_length (by simp; omega)]

theorem place_at {S : St} (hG : GoodS S) {rs : List RR} (hr : S.runs = rs.map runOf) {z : Int} {p : Nat × RunD} (hf : S.find z = some p) :
    ∃ j : Nat, j < rs.length ∧ p = runOf (rs.getD j default) ∧ ∀ r, PlaceR rs S z r → r = j := by
  have h1 := (find_mem hf).1
  rw [hr] at h1
  obtain ⟨r, hr1, rfl⟩ := List.mem_map.1 h1
  obtain ⟨j, hj, rfl⟩ := mem_getD hr1
  refine ⟨j, hj, rfl, fun r hp => ?_⟩
  rcases hp with ⟨h1, _⟩ | ⟨i, hi, _, h1, h2⟩
  · rw [hf] at h1; cases h1
  · rw [hf] at h1
    rw [h2]
    by_cases hij : i = j
    · rw [hij]
    · exact absurd (congrArg Prod.fst (Option.some.inj h1)).symm (nums_ne hG hr hi hj hij)

set_option maxRecDepth 100000 in
set_option maxHeartbeats 3200000 in
theorem rRemove_at {W w : World} {R : Thing} {rb : Nat} {S : St} (h : At W w (Both (RefT rb S) R)) (hR : Stable R) (hG : GoodS S) {z : Int} (hz : inI64 z) :
    Calls Tryd.prog 40 #[.pointer (some ⟨rb, 0, none⟩), .int .i64 z] w fun e w' => e = .returned (.int .i64 (removeP S z).2) ∧ At W w' (Both (RefT rb (removeP S z).1) R) := by
  obtain ⟨rv, rs, hr, h1⟩ := h.ref
  have hfr := h1.refR hr
  have hn := hfr.len hG
  obtain ⟨ao, cap, hrv, hcap, hcm⟩ := hfr.shape
  subst hrv
  have HP := Lib.hid (place_calls hfr hG hz)
  have HH := Lib.hid h
  unfold removeP
  cases hf : S.find z with
  | none =>
    dsimp only
    have HF := Lib.hid hf
    clear hf h h1 hfr hr hG
    go_enter Tryd.func40, Tryd.ntmps40
    (repeat' (first | (go_big_may; fail) | go_values | go_skip | go_guarded | go_step | go_upon | go_back | dsimp only))
    refine HP.out.mono ?_
    rintro e w1 ⟨⟨r, rfl, hp⟩, rfl⟩
    obtain rfl : r = -1 := by
      rcases hp with ⟨_, h1⟩ | ⟨j, _, _, h1, _⟩
      · exact h1
      · rw [HF.out] at h1; cases h1
    clear hp
    (repeat' (first | (go_big_may; fail) | go_values | go_skip | go_guarded | go_step | go_upon | go_back | dsimp only))
    go_ret
    exact ⟨rfl, HH.out⟩
  | some p =>
    dsimp only
    obtain ⟨j, hj, hpj, hpl⟩ := place_at hG hr hf
    have hstR : Stable (Both (TextsT rs) R) := (TextsT.stable _).both hR
    have hst : Stable (Both (CellT rb (refCells S (.slice ao rs.length cap)) tRef) (Both (RowG tRRun 3 (.slice ao rs.length cap) rs.length (rs.flatMap cellsR)) (Both (TextsT rs) R))) := (CellT.stable _ _ _).both ((RowG.stable _ _ _ _ _).both hstR)
    have HPL := Lib.hid hpl
    have HPJ := Lib.hid hpj
    have HR := Lib.hid hr
    have HST := Lib.hid hst
    have HSR := Lib.hid hstR
    have HRR := Lib.hid hR
    have HG := Lib.hid hG
    have H1 := Lib.hid (h1.noRowG hst tRRun 3)
    clear hf h h1 hfr hr hG hpl hpj hst hstR hR
    go_enter Tryd.func40, Tryd.ntmps40
    (repeat' (first | (go_big_may; fail) | go_values | go_skip | go_guarded | go_step | go_upon | go_back | dsimp only))
    refine HP.out.mono ?_
    rintro e w1 ⟨⟨r, rfl, hp⟩, rfl⟩
    obtain rfl := HPL.out _ hp
    clear hp
    (repeat' (first | (go_big_may; fail) | go_values | go_skip | go_guarded | go_step | go_upon | go_back | dsimp only))
    go_loopw [6, 7] (fun v i wr => ∃ k : Nat, i = .int .i64 k ∧ k ≤ rs.length ∧ At W wr (Both (RowG tRRun 3 v ((rs.take k).eraseIdx j).length (((rs.take k).eraseIdx j).flatMap cellsR)) (Both (CellT rb (refCells S (.slice ao rs.length cap)) tRef) (Both (RowG tRRun 3 (.slice ao rs.length cap) rs.length (rs.flatMap cellsR)) (Both (TextsT rs) R))))) (fun _ i _ => rs.length - (intOf i).toNat)
    case atStart => exact ⟨0, rfl, by omega, by simpa using H1.out⟩
    case round =>
      rename World => wr
      obtain ⟨k, rfl, hk, hh⟩ := hrel
      have hfr := hh.drop.refR HR.out
      obtain ⟨_, _, _, _, c4⟩ := hfr.c
      have HH := Lib.hid hh
      by_cases hlt : (k : Int) < rs.length
      · obtain ⟨g, cap', hsl, i0, i1, i2, _⟩ := hfr.item (i := k) (by omega)
        cases hsl
        have hk0 : (0 : Int) ≤ k := by omega
        by_cases hkj : k = j
        · have hts := take_erase_same (l := rs) hj
          subst hkj
          rw [← hts] at hh
          have HX := Lib.hid hh
          clear hh hfr hts HH i0 i1 i2
          (repeat' (first | (go_big_may; fail) | go_values | go_skip | go_guarded | go_step | go_upon | go_back | dsimp only))
          go_roundw
          case rel => exact ⟨k + 1, by simp, by omega, HX.out⟩
          case measure => simp [intOf] <;> omega
        · have hts := take_erase_other (l := rs) (k := k) (j := j) (by omega) hkj
          have hkn : ¬ ((k : Int) = (j : Int)) := by omega
          have hkb : ((k : Int) == (j : Int)) = false := by simpa using hkn
          have htx := hfr.texts _ (getD_mem (show k < rs.length by omega))
          have hlen : ((rs.take k).eraseIdx j).length ≤ 16777216 := by
            have := List.length_eraseIdx_le (rs.take k) j
            rw [List.length_take] at this
            omega
          generalize (rs.take k).eraseIdx j = L at *
          have HTS := Lib.hid hts
          clear hts hh hfr
          generalize hq : rs.getD k default = q at *
          obtain ⟨qn, qv, qt, qs⟩ := q
          dsimp only at htx i0 i1 i2
          obtain ⟨at2, capt, hv, _, _⟩ := own_shape htx
          subst hv
          have HQ := Lib.hid hq
          clear hq htx
          (repeat' (first | (go_big_may; (at_builtin; go_must (refine wpList_append_at rfl _ _ 70 tRRun rfl Tryd.underlying70 info_run rfl (by decide) rfl HH.out HST.out rfl rfl (by intro u hu; simp at hu; rcases hu with rfl | rfl | rfl <;> rfl) (by unfold maxLen; omega) (by omega) ?_); intro v2 w2 h2 _ _; have H2 := Lib.hid h2; clear h2)) | go_values | go_skip | go_guarded | go_step | go_upon | go_back | dsimp only))
          go_roundw
          case rel =>
            refine ⟨k + 1, by simp, by omega, ?_⟩
            rw [HTS.out]
            have := H2.out
            simpa [cellsR] using this
          case measure => simp [intOf] <;> omega
      · have hkn : k = rs.length := by omega
        subst hkn
        rw [List.take_length] at hh
        obtain ⟨ao2, cap2, hv2, _, _⟩ := own_shape hh.rowG
        subst hv2
        have fz := hfr.fz
        have h2 := hh.swap.setCell ((RowG.stable _ _ _ _ _).both ((RowG.stable _ _ _ _ _).both HSR.out)) 4 (.slice ao2 (rs.eraseIdx j).length cap2)
        have h3 : At W (wr.setCell ⟨rb, 4, none⟩ (.slice ao2 (rs.eraseIdx j).length cap2)) (Both (RefT rb (({ S with used := S.used - p.2.text.length } : St).delRun p.1)) R) := by
          refine At.toRef (rv := .slice ao2 (rs.eraseIdx j).length cap2) (rs := rs.eraseIdx j) ?_ ?_
          · rw [← runs_erase HG.out HR.out hj, HPJ.out]; rfl
          · have h4 := h2.pull3.drop
            have h5 := (h4.impl fun fp q => Both.mono (fun w fp h => Both.mono (fun w fp h => Both.out (Both.comm (Both.mono (fun w fp h => TextsT.get hj h) (Both.comm h)))) h) q).pull3.drop
            rw [← List.eraseIdx_eq_take_drop_succ] at h5
            simpa [refCells, St.delRun] using h5
        have H3 := Lib.hid h3
        clear hh h2 h3 hfr HH
        (repeat' (first | (go_big_may; fail) | go_values | go_skip | go_guarded | go_step | go_upon | go_back | dsimp only))
        go_ret
        exact ⟨rfl, H3.out⟩
end Go.Proofs.YtomlkhfmblkpcaaDoor

/- The document's store (hornbookref05): Size, Live, Read walked. -/
import Derived.Test.YtomlkhfmblkpcaaDoorRunsRef4
namespace Go.Proofs.YtomlkhfmblkpcaaDoor
open Go.RowKit

section
variable {w : World} {rb : Nat} {S : St} {rv : Value} {rs : List RR}
set_option maxRecDepth 100000 in
set_option maxHeartbeats 1600000 in
theorem rSize_calls (h : RefR w rb S rv rs) (hG : GoodS S) {z : Int} (hz : inI64 z) :
    Calls Tryd.prog 39 #[.pointer (some ⟨rb, 0, none⟩), .int .i64 z] w fun e w' => e = .returned (.tuple #[.int .i64 (sizeN S z), .int .i64 (sizeC S z)]) ∧ w = w' := by
  have H := Lib.hid h
  have HG := Lib.hid hG
  have hn := h.len hG
  obtain ⟨_, _, _, _, c4⟩ := h.c
  obtain ⟨ao, cap, hrv, hcap, hcm⟩ := h.shape
  subst hrv
  unfold sizeN sizeC
  clear h hG
  cases hf : S.find z with
  | none =>
    dsimp only
    have HF := Lib.hid hf
    clear hf
    go_enter Tryd.func39, Tryd.ntmps39
    (repeat' (first | (go_big_may; fail) | go_values | go_skip | go_guarded | go_step | go_upon | go_back | dsimp only))
    refine (place_calls H.out HG.out hz).mono ?_
    rintro e w1 ⟨⟨r, rfl, hp⟩, rfl⟩
    obtain rfl : r = -1 := by
      rcases hp with ⟨_, h1⟩ | ⟨j, _, _, h1, _⟩
      · exact h1
      · rw [HF.out] at h1; cases h1
    clear hp
    (repeat' (first | (go_big_may; fail) | go_values | go_skip | go_guarded | go_step | go_upon | go_back | dsimp only))
    go_ret2
    exact ⟨rfl, rfl⟩
  | some p =>
    dsimp only
    have HF := Lib.hid hf
    clear hf
    go_enter Tryd.func39, Tryd.ntmps39
    (repeat' (first | (go_big_may; fail) | go_values | go_skip | go_guarded | go_step | go_upon | go_back | dsimp only))
    refine (place_calls H.out HG.out hz).mono ?_
    rintro e w1 ⟨⟨r, rfl, hp⟩, rfl⟩
    obtain ⟨j, hj, hpj, rfl⟩ : ∃ j : Nat, j < rs.length ∧ p = runOf (rs.getD j default) ∧ r = j := by
      rcases hp with ⟨h1, _⟩ | ⟨j, hj, _, h1, h2⟩
      · rw [HF.out] at h1; cases h1
      · rw [HF.out] at h1; exact ⟨j, hj, by cases h1; rfl, h2⟩
    obtain ⟨g, cap', hsl, _, i1, _, _⟩ := H.out.item hj
    cases hsl
    have htx := H.out.texts _ (getD_mem hj)
    obtain ⟨at_, capt, hv, _, _⟩ := own_shape htx
    rw [hv] at i1
    have HP2 := Lib.hid (show p.2.text.length = (rs.getD j default).text.length by rw [hpj]; rfl)
    generalize (rs.getD j default).text.length = L at *
    have hj0 : (0 : Int) ≤ j := by omega
    have hj1 : (j : Int) < rs.length := by omega
    clear htx hv hp hpj
    (repeat' (first | (go_big_may; fail) | go_values | go_skip | go_guarded | go_step | go_upon | go_back | dsimp only))
    go_ret2
    refine ⟨?_, rfl⟩
    rw [HP2.out]; rfl
end

theorem RefT.fold {R : Thing} {rb : Nat} {S : St} {rv : Value} {rs : List RR} (hr : S.runs = rs.map runOf) {w : World} {fp : List Nat} (h : Both (CellT rb (refCells S rv) tRef) (Both (RowG tRRun 3 rv rs.length (rs.flatMap cellsR)) (Both (TextsT rs) R)) w fp) : Both (RefT rb S) R w fp := by
  obtain ⟨f, g, h2, h3, h4, h6⟩ := Both.inn (Both.mono (fun w fp h => Both.inn h) h)
  exact ⟨f, g, ⟨rv, rs, hr, h2⟩, h3, h4, h6⟩
theorem keys_take {S : St} {rs : List RR} (hr : S.runs = rs.map runOf) : S.keys = rs.map fun r => (r.num : Int) := by
  unfold St.keys; rw [hr, List.map_map]; rfl
set_option maxRecDepth 100000 in
set_option maxHeartbeats 1600000 in
theorem rLive_at {W w : World} {R : Thing} {rb : Nat} {S : St} (h : At W w (Both (RefT rb S) R)) (hR : Stable R) (hG : GoodS S) :
    Calls Tryd.prog 41 #[.pointer (some ⟨rb, 0, none⟩)] w fun e w' => ∃ v, e = .returned v ∧ At W w' (Both (RowT v S.keys) (Both (RefT rb S) R)) := by
  obtain ⟨rv, rs, hr, h1⟩ := h.ref
  have hf := h1.refR hr
  have hn := hf.len hG
  obtain ⟨ao, cap, hrv, _, _⟩ := hf.shape
  subst hrv
  have hk := keys_take hr
  have hst : Stable (Both (CellT rb (refCells S (.slice ao rs.length cap)) tRef) (Both (RowG tRRun 3 (.slice ao rs.length cap) rs.length (rs.flatMap cellsR)) (Both (TextsT rs) R))) := (CellT.stable _ _ _).both ((RowG.stable _ _ _ _ _).both ((TextsT.stable _).both hR))
  have H1 := Lib.hid (h1.noRowG hst tInt 1)
  have HST := Lib.hid hst
  have HR := Lib.hid hr
  have HK := Lib.hid hk
  clear h h1 hf hr hst hG hk
  go_enter Tryd.func41, Tryd.ntmps41
  (repeat' (first | (go_big_may; fail) | go_values | go_skip | go_guarded | go_step | go_upon | go_back | dsimp only))
  go_loopw [3, 4] (fun v i wr => ∃ k : Nat, i = .int .i64 k ∧ k ≤ rs.length ∧ At W wr (Both (RowG tInt 1 v k (intsV ((rs.take k).map fun r => (r.num : Int)))) (Both (CellT rb (refCells S (.slice ao rs.length cap)) tRef) (Both (RowG tRRun 3 (.slice ao rs.length cap) rs.length (rs.flatMap cellsR)) (Both (TextsT rs) R))))) (fun _ i _ => rs.length - (intOf i).toNat)
  case atStart => exact ⟨0, rfl, by omega, H1.out⟩
  case round =>
    rename World => wr
    obtain ⟨k, rfl, hk, hh⟩ := hrel
    have hfr := hh.drop.refR HR.out
    obtain ⟨_, _, _, _, c4⟩ := hfr.c
    have HH := Lib.hid hh
    by_cases hlt : (k : Int) < rs.length
    · obtain ⟨g, cap', hsl, i0, _, _, _⟩ := hfr.item (i := k) (by omega)
      cases hsl
      have hk0 : (0 : Int) ≤ k := by omega
      have hts : (rs.take (k + 1)).map (fun r => (r.num : Int)) = (rs.take k).map (fun r => (r.num : Int)) ++ [((rs.getD k default).num : Int)] := by
        rw [List.take_add_one, List.getD_eq_getElem?_getD, List.getElem?_eq_getElem (show k < rs.length by omega), List.map_append]
        rfl
      generalize (rs.getD k default).num = q at *
      have HTS := Lib.hid hts
      clear hh hfr hts
      (repeat' (first | (go_big_may; (at_builtin; go_must (refine wpList_append_at rfl _ _ 33 tInt rfl Tryd.underlying33 info_intL rfl (by decide) rfl HH.out HST.out rfl rfl (by intro u hu; simp at hu; subst hu; rfl) (by unfold maxLen; omega) (by omega) ?_); intro v2 w2 h2 _ _; have H2 := Lib.hid h2; clear h2)) | go_values | go_skip | go_guarded | go_step | go_upon | go_back | dsimp only))
      go_roundw
      case rel =>
        refine ⟨k + 1, by simp, by omega, ?_⟩
        have := H2.out
        rw [HTS.out]
        simpa [intsV] using this
      case measure => simp [intOf] <;> omega
    · have hkn : k = rs.length := by omega
      subst hkn
      rw [List.take_length, ← HK.out] at hh
      have hl : rs.length = S.keys.length := by rw [HK.out, List.length_map]
      rw [hl] at hh
      have HE := Lib.hid (show At W wr (Both (RowT _ S.keys) (Both (RefT rb S) R)) from hh.impl fun fp q => Both.mono (fun w fp h => RefT.fold HR.out (hl ▸ h)) q)
      clear hh hfr
      (repeat' (first | (go_big_may; fail) | go_values | go_skip | go_guarded | go_step | go_upon | go_back | dsimp only))
      go_ret
      exact ⟨_, rfl, HE.out⟩
end Go.Proofs.YtomlkhfmblkpcaaDoor

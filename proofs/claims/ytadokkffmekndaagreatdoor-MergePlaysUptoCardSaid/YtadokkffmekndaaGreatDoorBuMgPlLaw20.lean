/- The document's store (hornbookref05): Size, Live, Read walked. · The document's store (hornbookref05): Read, Remove walked. · The document's store (hornbookref05): Remove walked. · The document's store (hornbookref05): Append walked. · runs: the document's store on things: what 'says' calls. · The document's store: Append of a text of up to two million bytes (printed by port/rapp.py out of XRunsRefB). -/
import Derived.Test.YtadokkffmekndaaGreatDoorBuMgPlLaw19
import Derived.Test.YtadokkffmekndaaGreatDoorBuMgPlLaw12
import Derived.Deep.DeepCutAuto
set_option linter.unusedSimpArgs false
set_option linter.unusedVariables false
namespace Go.Proofs.YtadokkffmekndaaGreatDoor
section
open Go.RowKit
section
variable {w : World} {rb : Nat} {S : St} {rv : Value} {rs : List RR}
set_option maxRecDepth 100000 in
set_option maxHeartbeats 1600000 in
theorem rSize_calls (h : RefR w rb S rv rs) (hG : GoodS S) {z : Int} (hz : inI64 z) :
    Calls Tryz.prog 110 #[.pointer (some ⟨rb, 0, none⟩), .int .i64 z] w fun e w' => e = .returned (.tuple #[.int .i64 (sizeN S z), .int .i64 (sizeC S z)]) ∧ w = w' := by
  have H := Lib.hid h
  have HG := Lib.hid hG
  have hn := h.len hG
  obtain ⟨_, _, _, _, c4⟩ := h.c
  obtain ⟨ao, cap, hrv, hcap, hcm⟩ := h.shape
  subst hrv
  unfold sizeN sizeC
  clear h hG
  cases hf : S.find z with
  | none =>
    dsimp only
    have HF := Lib.hid hf
    clear hf
    go_enter Tryz.func110, Tryz.ntmps110
    (repeat' (first | go_values | go_skip | go_guarded | go_step | go_upon | go_back | dsimp only))
    refine (place_calls H.out HG.out hz).mono ?_
    rintro e w1 ⟨⟨r, rfl, hp⟩, rfl⟩
    obtain rfl : r = -1 := by
      rcases hp with ⟨_, h1⟩ | ⟨j, _, _, h1, _⟩
      · exact h1
      · rw [HF.out] at h1; cases h1
    clear hp
    (repeat' (first | go_values | go_skip | go_guarded | go_step | go_upon | go_back | dsimp only))
    go_ret2
    exact ⟨rfl, rfl⟩
  | some p =>
    dsimp only
    have HF := Lib.hid hf
    clear hf
    go_enter Tryz.func110, Tryz.ntmps110
    (repeat' (first | go_values | go_skip | go_guarded | go_step | go_upon | go_back | dsimp only))
    refine (place_calls H.out HG.out hz).mono ?_
    rintro e w1 ⟨⟨r, rfl, hp⟩, rfl⟩
    obtain ⟨j, hj, hpj, rfl⟩ : ∃ j : Nat, j < rs.length ∧ p = runOf (rs.getD j default) ∧ r = j := by
      rcases hp with ⟨h1, _⟩ | ⟨j, hj, _, h1, h2⟩
      · rw [HF.out] at h1; cases h1
      · rw [HF.out] at h1; exact ⟨j, hj, by cases h1; rfl, h2⟩
    obtain ⟨g, cap', hsl, _, i1, _, _⟩ := H.out.item hj
    cases hsl
    have htx := H.out.texts _ (getD_mem hj)
    obtain ⟨at_, capt, hv, _, _⟩ := own_shape htx
    rw [hv] at i1
    have HP2 := Lib.hid (show p.2.text.length = (rs.getD j default).text.length by rw [hpj]; rfl)
    generalize (rs.getD j default).text.length = L at *
    have hj0 : (0 : Int) ≤ j := by omega
    have hj1 : (j : Int) < rs.length := by omega
    clear htx hv hp hpj
    (repeat' (first | go_values | go_skip | go_guarded | go_step | go_upon | go_back | dsimp only))
    go_ret2
    refine ⟨?_, rfl⟩
    rw [HP2.out]; rfl
end
end
section
open Go.RowKit
set_option maxRecDepth 100000 in
set_option maxHeartbeats 3200000 in
theorem rRead_calls {w : World} {rb : Nat} {S : St} {rv : Value} {rs : List RR} (h : RefR w rb S rv rs) (hG : GoodS S) {z at_ n : Int} (hz : inI64 z) (ha : inI64 at_) (hn : inI64 n) :
    Calls Tryz.prog 105 #[.pointer (some ⟨rb, 0, none⟩), .int .i64 z, .int .i64 at_, .int .i64 n] w fun e w' => e = .returned (.tuple #[.string ⟨(readT S z at_ n).toArray⟩, .int .i64 (readC S z at_ n)]) ∧ w = w' := by
  have H := Lib.hid h
  have HG := Lib.hid hG
  have hnn := h.len hG
  obtain ⟨_, _, _, _, c4⟩ := h.c
  obtain ⟨ao, cap, hrv, hcap, hcm⟩ := h.shape
  subst hrv
  unfold readT readC
  clear h hG
  cases hf : S.find z with
  | none =>
    dsimp only
    have HF := Lib.hid hf
    clear hf
    go_enter Tryz.func105, Tryz.ntmps105
    (repeat' (first | go_values | go_skip | go_guarded | go_step | go_upon | go_back | dsimp only))
    refine (place_calls H.out HG.out hz).mono ?_
    rintro e w1 ⟨⟨r, rfl, hp⟩, rfl⟩
    obtain rfl : r = -1 := by
      rcases hp with ⟨_, h1⟩ | ⟨j, _, _, h1, _⟩
      · exact h1
      · rw [HF.out] at h1; cases h1
    clear hp
    (repeat' (first | go_values | go_skip | go_guarded | go_step | go_upon | go_back | dsimp only))
    go_ret2
    exact ⟨rfl, rfl⟩
  | some p =>
    dsimp only
    have HF := Lib.hid hf
    clear hf
    have HP := Lib.hid (place_calls H.out HG.out hz)
    obtain ⟨j, hj, hpj⟩ : ∃ j : Nat, j < rs.length ∧ p = runOf (rs.getD j default) := by
      have := (find_mem HF.out).1
      rw [H.out.runs] at this
      obtain ⟨r, hr, rfl⟩ := List.mem_map.1 this
      obtain ⟨j, hj, rfl⟩ := mem_getD hr
      exact ⟨j, hj, rfl⟩
    have HJ : ∀ r, PlaceR rs S z r → r = j := fun r hp => by
      rcases hp with ⟨h1, _⟩ | ⟨i, hi, _, h1, h2⟩
      · rw [HF.out] at h1; cases h1
      · rw [HF.out] at h1
        rw [h2]
        by_cases hij : i = j
        · rw [hij]
        · refine absurd ?_ (nums_ne HG.out H.out.runs hi hj hij)
          have e := Option.some.inj h1
          rw [hpj] at e
          have := congrArg Prod.fst e
          exact this.symm
    have HJJ := Lib.hid HJ
    clear HJ
    obtain ⟨g, cap', hsl, _, i1, i2, _⟩ := H.out.item hj
    cases hsl
    have htx := H.out.texts _ (getD_mem hj)
    rw [hpj]
    unfold runOf
    generalize rs.getD j default = q at *
    obtain ⟨qn, qv, qt, qs⟩ := q
    dsimp only at *
    obtain ⟨at2, capt, hv, hc1, hc2⟩ := own_shape htx
    subst hv
    have hj0 : (0 : Int) ≤ j := by omega
    have hj1 : (j : Int) < rs.length := by omega
    cases qs with
    | false =>
      rw [if_pos rfl, if_pos rfl]
      clear htx hpj HF
      go_enter Tryz.func105, Tryz.ntmps105
      (repeat' (first | go_values | go_skip | go_guarded | go_step | go_upon | go_back | dsimp only))
      refine HP.out.mono ?_
      rintro e w1 ⟨⟨r, rfl, hp⟩, rfl⟩
      obtain rfl := HJJ.out _ hp
      clear hp
      (repeat' (first | go_values | go_skip | go_guarded | go_step | go_upon | go_back | dsimp only))
      go_ret2
      exact ⟨rfl, rfl⟩
    | true =>
      rw [if_neg (show ¬ (true = false) by decide), if_neg (show ¬ (true = false) by decide)]
      have HTX := Lib.hid htx
      clear htx hpj HF
      have hL : (qt.length : Int) ≤ 9223372036854775807 := by unfold maxLen at hc2; omega
      by_cases hr : at_ < 0 ∨ n < 0 ∨ at_ > qt.length ∨ n > qt.length - at_
      · rw [if_pos hr, if_pos hr]
        have HRR := Lib.hid hr
        clear hr
        by_cases a0 : at_ < 0
        · go_enter Tryz.func105, Tryz.ntmps105
          (repeat' (first | go_values | go_skip | go_guarded | go_step | go_upon | go_back | dsimp only))
          refine HP.out.mono ?_
          rintro e w1 ⟨⟨r, rfl, hp⟩, rfl⟩
          obtain rfl := HJJ.out _ hp
          clear hp
          (repeat' (first | go_values | go_skip | go_guarded | go_step | go_upon | go_back | dsimp only))
          go_ret2
          exact ⟨rfl, rfl⟩
        · by_cases n0 : n < 0
          · go_enter Tryz.func105, Tryz.ntmps105
            (repeat' (first | go_values | go_skip | go_guarded | go_step | go_upon | go_back | dsimp only))
            refine HP.out.mono ?_
            rintro e w1 ⟨⟨r, rfl, hp⟩, rfl⟩
            obtain rfl := HJJ.out _ hp
            clear hp
            (repeat' (first | go_values | go_skip | go_guarded | go_step | go_upon | go_back | dsimp only))
            go_ret2
            exact ⟨rfl, rfl⟩
          · by_cases aL : (qt.length : Int) < at_
            · go_enter Tryz.func105, Tryz.ntmps105
              (repeat' (first | go_values | go_skip | go_guarded | go_step | go_upon | go_back | dsimp only))
              refine HP.out.mono ?_
              rintro e w1 ⟨⟨r, rfl, hp⟩, rfl⟩
              obtain rfl := HJJ.out _ hp
              clear hp
              (repeat' (first | go_values | go_skip | go_guarded | go_step | go_upon | go_back | dsimp only))
              go_ret2
              exact ⟨rfl, rfl⟩
            · have nL : (qt.length : Int) - at_ < n := by have := HRR.out; omega
              have hwr : IntKind.i64.wrap ((qt.length : Int) - at_) = (qt.length : Int) - at_ := by rw [IntKind.wrap_i64]; omega
              go_enter Tryz.func105, Tryz.ntmps105
              (repeat' (first | go_values | go_skip | go_guarded | go_step | go_upon | go_back | dsimp only))
              refine HP.out.mono ?_
              rintro e w1 ⟨⟨r, rfl, hp⟩, rfl⟩
              obtain rfl := HJJ.out _ hp
              clear hp
              (repeat' (first | go_values | go_skip | go_guarded | go_step | go_upon | go_back | dsimp only))
              go_ret2
              exact ⟨rfl, rfl⟩
      · rw [if_neg hr, if_neg hr]
        have hVR := RdRow.of_own HTX.out
        obtain ⟨k, rfl⟩ : ∃ k : Nat, at_ = k := Int.eq_ofNat_of_zero_le (by omega)
        obtain ⟨m, rfl⟩ : ∃ m : Nat, n = m := Int.eq_ofNat_of_zero_le (by omega)
        have hkL : k ≤ qt.length := by omega
        have hmL : m ≤ qt.length - k := by omega
        have hkL' : ¬ (qt.length : Int) < k := by omega
        have hmL' : ¬ (qt.length : Int) - k < m := by omega
        have hm0 : ¬ (m : Int) < 0 := by omega
        have hk0 : ¬ (k : Int) < 0 := by omega
        have hwr : IntKind.i64.wrap ((qt.length : Int) - k) = (qt.length : Int) - k := by rw [IntKind.wrap_i64]; omega
        have hkc : (k : Int) + m ≤ capt := by omega
        have hk1 : (0 : Int) ≤ k := by omega
        have hk2 : (k : Int) ≤ (k : Int) + m := by omega
        have hcv : Sem.run Tryz.prog (convert 85 9 (Value.slice (if capt = k then at2 else Option.map (fun x => x.add k) at2) m (capt - k))) w = Result.ok (.string ⟨((qt.drop k).take m).toArray⟩) w := run_string_part _ _ 5 Tryz.underlying85 Tryz.underlying5 Tryz.underlying9 hVR (by omega)
        have hwr2 : IntKind.i64.wrap ((k : Int) + m) = (k : Int) + m := by rw [IntKind.wrap_i64]; unfold maxLen at hc2; omega
        clear hr hVR
        have HC := Lib.hid hc1
        have HKL := Lib.hid hkL
        have HML := Lib.hid hmL
        clear hkL hmL hc1
        go_enter Tryz.func105, Tryz.ntmps105
        (repeat' (first | go_values | go_skip | go_guarded | go_step | go_upon | go_back | dsimp only))
        refine HP.out.mono ?_
        rintro e w1 ⟨⟨r, rfl, hp⟩, rfl⟩
        obtain rfl := HJJ.out _ hp
        clear hp
        go_upto_region 9 with (fail)
        clear hkL' hmL' hm0 hk0 hwr ha hn
        (repeat' (first | go_values | go_skip | go_guarded | go_step | go_upon | go_back | dsimp only))
        go_ret2
        refine ⟨?_, rfl⟩
        rw [Int.toNat_natCast, Int.toNat_natCast]; rfl
end
section
open Go.RowKit
theorem runs_erase {S : St} (hG : GoodS S) {rs : List RR} (hr : S.runs = rs.map runOf) {j : Nat} (hj : j < rs.length) : (S.runs.filter fun q => q.1 != (rs.getD j default).num) = (rs.eraseIdx j).map runOf := by
  rw [hr, List.eraseIdx_eq_take_drop_succ]
  have h1 : ∀ i, i < rs.length → i ≠ j → (rs.getD i default).num ≠ (rs.getD j default).num := fun i hi hij => nums_ne hG hr hi hj hij
  obtain ⟨num, hnum⟩ : ∃ n, n = (rs.getD j default).num := ⟨_, rfl⟩
  rw [← hnum] at h1 ⊢
  conv => lhs; rw [split_at hj]
  rw [List.map_append, List.map_cons, List.filter_append, List.filter_cons, if_neg (by show ¬ ((rs.getD j default).num != num) = true; rw [hnum]; simp), List.map_append]
  congr 1
  · rw [List.filter_eq_self]
    intro q hq
    obtain ⟨r, hr2, rfl⟩ := List.mem_map.1 hq
    obtain ⟨i, hi, rfl⟩ := List.getElem_of_mem hr2
    rw [List.length_take] at hi
    have := h1 i (by omega) (by omega)
    rw [List.getD_eq_getElem?_getD, List.getElem?_eq_getElem (show i < rs.length by omega)] at this
    simpa [runOf] using this
  · rw [List.filter_eq_self]
    intro q hq
    obtain ⟨r, hr2, rfl⟩ := List.mem_map.1 hq
    obtain ⟨i, hi, rfl⟩ := List.getElem_of_mem hr2
    rw [List.length_drop] at hi
    have := h1 (j + 1 + i) (by omega) (by omega)
    rw [List.getD_eq_getElem?_getD, List.getElem?_eq_getElem (show j + 1 + i < rs.length by omega)] at this
    simpa [runOf] using this
theorem take_erase_same {α : Type} {l : List α} {j : Nat} (hj : j < l.length) : (l.take (j + 1)).eraseIdx j = (l.take j).eraseIdx j := by
  rw [List.take_add_one, List.getElem?_eq_getElem hj, List.eraseIdx_append_of_length_le (by simp; omega), List.eraseIdx_of_length_le (l := l.take j) (by rw [List.length_take]; exact Nat.min_le_left _ _)]
  simp [Nat.min_eq_left (Nat.le_of_lt hj)]
theorem take_erase_other {α : Type} [Inhabited α] {l : List α} {j k : Nat} (hk : k < l.length) (hjk : k ≠ j) : (l.take (k + 1)).eraseIdx j = (l.take k).eraseIdx j ++ [l.getD k default] := by
  have e : (l[k]?).toList = [l.getD k default] := by rw [List.getD_eq_getElem?_getD, List.getElem?_eq_getElem hk]; rfl
  rw [List.take_add_one, e]
  rcases Nat.lt_or_gt_of_ne hjk with h | h
  · rw [List.eraseIdx_of_length_le (by simp; omega), List.eraseIdx_of_length_le (by simp; omega)]
  · rw [List.eraseIdx_append_of_lt_length (by simp; omega)]
theorem place_at {S : St} (hG : GoodS S) {rs : List RR} (hr : S.runs = rs.map runOf) {z : Int} {p : Nat × RunD} (hf : S.find z = some p) :
    ∃ j : Nat, j < rs.length ∧ p = runOf (rs.getD j default) ∧ ∀ r, PlaceR rs S z r → r = j := by
  have h1 := (find_mem hf).1
  rw [hr] at h1
  obtain ⟨r, hr1, rfl⟩ := List.mem_map.1 h1
  obtain ⟨j, hj, rfl⟩ := mem_getD hr1
  refine ⟨j, hj, rfl, fun r hp => ?_⟩
  rcases hp with ⟨h1, _⟩ | ⟨i, hi, _, h1, h2⟩
  · rw [hf] at h1; cases h1
  · rw [hf] at h1
    rw [h2]
    by_cases hij : i = j
    · rw [hij]
    · exact absurd (congrArg Prod.fst (Option.some.inj h1)).symm (nums_ne hG hr hi hj hij)
set_option maxRecDepth 100000 in
set_option maxHeartbeats 3200000 in
theorem rRemove_at {W w : World} {R : Thing} {rb : Nat} {S : St} (h : At W w (Both (RefT rb S) R)) (hR : Stable R) (hG : GoodS S) {z : Int} (hz : inI64 z) :
    Calls Tryz.prog 53 #[.pointer (some ⟨rb, 0, none⟩), .int .i64 z] w fun e w' => e = .returned (.int .i64 (removeP S z).2) ∧ At W w' (Both (RefT rb (removeP S z).1) R) := by
  obtain ⟨rv, rs, hr, h1⟩ := h.ref
  have hfr := h1.refR hr
  have hn := hfr.len hG
  obtain ⟨ao, cap, hrv, hcap, hcm⟩ := hfr.shape
  subst hrv
  have HP := Lib.hid (place_calls hfr hG hz)
  have HH := Lib.hid h
  unfold removeP
  cases hf : S.find z with
  | none =>
    dsimp only
    have HF := Lib.hid hf
    clear hf h h1 hfr hr hG
    go_enter Tryz.func53, Tryz.ntmps53
    (repeat' (first | go_values | go_skip | go_guarded | go_step | go_upon | go_back | dsimp only))
    refine HP.out.mono ?_
    rintro e w1 ⟨⟨r, rfl, hp⟩, rfl⟩
    obtain rfl : r = -1 := by
      rcases hp with ⟨_, h1⟩ | ⟨j, _, _, h1, _⟩
      · exact h1
      · rw [HF.out] at h1; cases h1
    clear hp
    (repeat' (first | go_values | go_skip | go_guarded | go_step | go_upon | go_back | dsimp only))
    go_ret
    exact ⟨rfl, HH.out⟩
  | some p =>
    dsimp only
    obtain ⟨j, hj, hpj, hpl⟩ := place_at hG hr hf
    have hstR : Stable (Both (TextsT rs) R) := (TextsT.stable _).both hR
    have hst : Stable (Both (CellT rb (refCells S (.slice ao rs.length cap)) tRef) (Both (RowG tRRun 3 (.slice ao rs.length cap) rs.length (rs.flatMap cellsR)) (Both (TextsT rs) R))) := (CellT.stable _ _ _).both ((RowG.stable _ _ _ _ _).both hstR)
    have HPL := Lib.hid hpl
    have HPJ := Lib.hid hpj
    have HR := Lib.hid hr
    have HST := Lib.hid hst
    have HSR := Lib.hid hstR
    have HRR := Lib.hid hR
    have HG := Lib.hid hG
    have H1 := Lib.hid (h1.noRowG hst tRRun 3)
    clear hf h h1 hfr hr hG hpl hpj hst hstR hR
    go_enter Tryz.func53, Tryz.ntmps53
    (repeat' (first | go_values | go_skip | go_guarded | go_step | go_upon | go_back | dsimp only))
    refine HP.out.mono ?_
    rintro e w1 ⟨⟨r, rfl, hp⟩, rfl⟩
    obtain rfl := HPL.out _ hp
    clear hp
    (repeat' (first | go_values | go_skip | go_guarded | go_step | go_upon | go_back | dsimp only))
    go_loopw [6, 7] (fun v i wr => ∃ k : Nat, i = .int .i64 k ∧ k ≤ rs.length ∧ At W wr (Both (RowG tRRun 3 v ((rs.take k).eraseIdx j).length (((rs.take k).eraseIdx j).flatMap cellsR)) (Both (CellT rb (refCells S (.slice ao rs.length cap)) tRef) (Both (RowG tRRun 3 (.slice ao rs.length cap) rs.length (rs.flatMap cellsR)) (Both (TextsT rs) R))))) (fun _ i _ => rs.length - (intOf i).toNat)
    case atStart => exact ⟨0, rfl, by omega, by simpa using H1.out⟩
    case round =>
      rename World => wr
      obtain ⟨k, rfl, hk, hh⟩ := hrel
      have hfr := hh.drop.refR HR.out
      obtain ⟨_, _, _, _, c4⟩ := hfr.c
      have HH := Lib.hid hh
      by_cases hlt : (k : Int) < rs.length
      · obtain ⟨g, cap', hsl, i0, i1, i2, _⟩ := hfr.item (i := k) (by omega)
        cases hsl
        have hk0 : (0 : Int) ≤ k := by omega
        by_cases hkj : k = j
        · have hts := take_erase_same (l := rs) hj
          subst hkj
          rw [← hts] at hh
          have HX := Lib.hid hh
          clear hh hfr hts HH i0 i1 i2
          (repeat' (first | go_values | go_skip | go_guarded | go_step | go_upon | go_back | dsimp only))
          go_roundw
          case rel => exact ⟨k + 1, by simp, by omega, HX.out⟩
          case measure => simp [intOf] <;> omega
        · have hts := take_erase_other (l := rs) (k := k) (j := j) (by omega) hkj
          have hkn : ¬ ((k : Int) = (j : Int)) := by omega
          have hkb : ((k : Int) == (j : Int)) = false := by simpa using hkn
          have htx := hfr.texts _ (getD_mem (show k < rs.length by omega))
          have hlen : ((rs.take k).eraseIdx j).length ≤ 16777216 := by
            have := List.length_eraseIdx_le (rs.take k) j
            rw [List.length_take] at this
            omega
          generalize (rs.take k).eraseIdx j = L at *
          have HTS := Lib.hid hts
          clear hts hh hfr
          generalize hq : rs.getD k default = q at *
          obtain ⟨qn, qv, qt, qs⟩ := q
          dsimp only at htx i0 i1 i2
          obtain ⟨at2, capt, hv, _, _⟩ := own_shape htx
          subst hv
          have HQ := Lib.hid hq
          clear hq htx
          (repeat' (first | (go_big_may; (at_builtin; go_must (refine wpList_append_at rfl _ _ 88 tRRun rfl Tryz.underlying88 info_run rfl (by decide) rfl HH.out HST.out rfl rfl (by intro u hu; simp at hu; rcases hu with rfl | rfl | rfl <;> rfl) (by unfold maxLen; omega) (by omega) ?_); intro v2 w2 h2 _ _; have H2 := Lib.hid h2; clear h2)) | go_values | go_skip | go_guarded | go_step | go_upon | go_back | dsimp only))
          go_roundw
          case rel =>
            refine ⟨k + 1, by simp, by omega, ?_⟩
            rw [HTS.out]
            have := H2.out
            simpa [cellsR] using this
          case measure => simp [intOf] <;> omega
      · have hkn : k = rs.length := by omega
        subst hkn
        rw [List.take_length] at hh
        obtain ⟨ao2, cap2, hv2, _, _⟩ := own_shape hh.rowG
        subst hv2
        have fz := hfr.fz
        have h2 := hh.swap.setCell ((RowG.stable _ _ _ _ _).both ((RowG.stable _ _ _ _ _).both HSR.out)) 4 (.slice ao2 (rs.eraseIdx j).length cap2)
        have h3 : At W (wr.setCell ⟨rb, 4, none⟩ (.slice ao2 (rs.eraseIdx j).length cap2)) (Both (RefT rb (({ S with used := S.used - p.2.text.length } : St).delRun p.1)) R) := by
          refine At.toRef (rv := .slice ao2 (rs.eraseIdx j).length cap2) (rs := rs.eraseIdx j) ?_ ?_
          · rw [← runs_erase HG.out HR.out hj, HPJ.out]; rfl
          · have h4 := h2.pull3.drop
            have h5 := (h4.impl fun fp q => Both.mono (fun w fp h => Both.mono (fun w fp h => Both.out (Both.comm (Both.mono (fun w fp h => TextsT.get hj h) (Both.comm h)))) h) q).pull3.drop
            rw [← List.eraseIdx_eq_take_drop_succ] at h5
            simpa [refCells, St.delRun] using h5
        have H3 := Lib.hid h3
        clear hh h2 h3 hfr HH
        (repeat' (first | go_values | go_skip | go_guarded | go_step | go_upon | go_back | dsimp only))
        go_ret
        exact ⟨rfl, H3.out⟩
end
section
open Go.RowKit
theorem cat_take_succ {ss : List (List UInt8)} {k : Nat} (h : k < ss.length) : cat (ss.take (k + 1)) = cat (ss.take k) ++ ss.getD k [] := by
  unfold cat
  rw [List.take_add_one, List.getElem?_eq_getElem h, List.getD_eq_getElem?_getD, List.getElem?_eq_getElem h]
  simp only [Option.toList_some, List.flatten_append, List.flatten_cons, List.flatten_nil, List.append_nil, Option.getD_some]
theorem fit_at {S : St} (hG : GoodS S) {rs : List RR} (hr : S.runs = rs.map runOf) {z : Int} {p : Nat × RunD} (hf : S.find z = some p) (hs : p.2.sealed = false) :
    ∃ j : Nat, j < rs.length ∧ p = runOf (rs.getD j default) ∧ ∀ i c, FitR rs S z i c → i = j ∧ c = 0 := by
  obtain ⟨j, hj, hpj, hpl⟩ := place_at hG hr hf
  refine ⟨j, hj, hpj, fun i c h => ?_⟩
  rcases h with ⟨h1, _⟩ | ⟨m, hm, hn, h1, h2⟩
  · rw [hf] at h1; cases h1
  · have e := hpl m (.inr ⟨m, hm, hn, h1, rfl⟩)
    have e2 : m = j := Int.ofNat.inj e
    subst e2
    rcases h2 with ⟨h3, _⟩ | ⟨_, h3, h4⟩
    · rw [hpj] at hs
      have hs2 : (rs.getD m default).sealed = false := hs
      rw [h3] at hs2; cases hs2
    · exact ⟨h3, h4⟩
theorem fit_err {S : St} {rs : List RR} {z i : Int} {c : Nat} (h : FitR rs S z i c) (hc : openC S z ≠ 0) : c = openC S z ∧ i = 0 := by
  unfold openC at hc ⊢
  rcases h with ⟨h1, h2, h3⟩ | ⟨m, hm, hn, h1, h2⟩
  · rw [h1]; exact ⟨h3, h2⟩
  · rw [h1] at hc ⊢
    rcases h2 with ⟨h3, h4, h5⟩ | ⟨h3, _⟩
    · have e : (runOf (rs.getD m default)).2.sealed = true := h3
      dsimp only
      rw [e, h5]; exact ⟨rfl, h4⟩
    · have e : (runOf (rs.getD m default)).2.sealed = false := h3
      dsimp only at hc
      rw [e] at hc; exact absurd rfl hc
theorem enters_rUsed : ∀ xs w, (callFunc 54 xs).run Tryz.prog w = .ok (.enter 54 xs) w :=
  enters_fn Tryz.func54 (by kernel_rfl) rfl
set_option maxRecDepth 100000 in
set_option maxHeartbeats 6400000 in
theorem rAppend_atR {W w : World} {R : Thing} {rb : Nat} {S : St} (h : At W w (Both (RefT rb S) R)) (hR : Stable R) (hG : GoodS S) {z : Int} (hz : inI64 z) {v : Value} {ss : List (List UInt8)} (hrd : ∀ w', At W w' R → RdRow w' v ss.length 1 (strs ss)) (hlen : ss.length + (cat ss).length ≤ 1048576) :
    Calls Tryz.prog 45 #[.pointer (some ⟨rb, 0, none⟩), .int .i64 z, v] w fun e w' => e = .returned (.int .i64 (appendP S z (cat ss)).2) ∧ At W w' (Both (RefT rb (appendP S z (cat ss)).1) R) := by
  have HREF := Lib.hid (refused_at h hR hG)
  have HG := Lib.hid hG
  have HR := Lib.hid hR
  have HRD := Lib.hid hrd
  obtain ⟨avs, capv, hv, hcv1, hcv2⟩ := (hrd w h.drop).shape
  subst hv
  clear h hG hR hrd
  by_cases h9 : S.left = 1
  · rw [show appendP S z (cat ss) = (stepS S, 9) from withRun_broken h9]
    rw [decide_eq_true h9] at HREF
    clear h9
    go_enter Tryz.func45, Tryz.ntmps45
    (repeat' (first | go_values | go_skip | go_guarded | go_step | go_upon | go_back | dsimp only))
    refine HREF.out.mono ?_
    rintro e w1 ⟨rfl, h1⟩
    have H1 := Lib.hid h1
    clear h1
    (repeat' (first | go_values | go_skip | go_guarded | go_step | go_upon | go_back | dsimp only))
    go_ret
    exact ⟨rfl, H1.out⟩
  · rw [decide_eq_false h9] at HREF
    by_cases ho : openC S z = 0
    · obtain ⟨p, hf, hs⟩ : ∃ p, S.find z = some p ∧ p.2.sealed = false := by
        unfold openC at ho
        cases hf : S.find z with
        | none => rw [hf] at ho; cases ho
        | some p =>
          rw [hf] at ho
          dsimp only at ho
          refine ⟨p, rfl, ?_⟩
          cases hs : p.2.sealed with
          | false => rfl
          | true => rw [if_pos hs] at ho; cases ho
      have hP : appendP S z (cat ss) = if S.cap - S.used < (cat ss).length then (stepS S, 7) else (grownS (stepS S) p (cat ss), 0) := by
        unfold appendP withRun
        rw [if_neg h9, hf]
        dsimp only
        rw [if_neg (by rw [hs]; decide)]
      obtain ⟨res, hres⟩ : ∃ res, res = appendP S z (cat ss) := ⟨_, rfl⟩
      rw [← hres]
      rw [hP] at hres
      have HRES := Lib.hid hres
      clear hres
      have hsz := HG.out.sizes
      have HF := Lib.hid (show (stepS S).find z = some p from hf)
      have HS := Lib.hid hs
      clear h9 ho hP hf hs
      go_enter Tryz.func45, Tryz.ntmps45
      (repeat' (first | go_values | go_skip | go_guarded | go_step | go_upon | go_back | dsimp only))
      refine HREF.out.mono ?_
      rintro e w1 ⟨rfl, h1⟩
      obtain ⟨rv, rs, hr, h2⟩ := h1.ref
      have hrf := h2.refR hr
      obtain ⟨j, hj, hpj, hfa⟩ := fit_at HG.out.step hr HF.out HS.out
      have hn := hrf.len HG.out.step
      have HFA := Lib.hid hfa
      have HPJ := Lib.hid hpj
      have HRF := Lib.hid hrf
      have HRS := Lib.hid hr
      have H2 := Lib.hid h2
      have H1 := Lib.hid h1
      clear h1 hr h2 hrf hfa hpj
      (repeat' (first | go_values | go_skip | go_guarded | go_step | go_upon | go_back | dsimp only))
      refine (fit_calls HRF.out HG.out.step hz).mono ?_
      rintro e w2 ⟨⟨i, c, rfl, hfit⟩, rfl⟩
      obtain ⟨rfl, rfl⟩ := HFA.out _ _ hfit
      clear hfit
      obtain ⟨c0, c1, _, _, c4⟩ := HRF.out.c
      have e0 : (stepS S).cap = S.cap ∧ (stepS S).peak = S.peak ∧ (stepS S).used = S.used := ⟨rfl, rfl, rfl⟩
      rw [e0.1] at c0
      rw [e0.2.1] at c1
      have HE0 := Lib.hid e0
      clear e0
      have hw1 : IntKind.i64.wrap ((S.cap : Int) - S.used) = (S.cap : Int) - S.used := by rw [IntKind.wrap_i64] <;> omega
      (repeat' (first | go_values | go_skip | go_guarded | go_step | go_upon | go_back | dsimp only))
      go_cut [10] (fun v wx => v = .int .i64 ((S.cap : Int) - S.used) ∧ wx = w1.drew)
      case first =>
        refine wp_only ?_
        rename_i J K' hJ hK
        have HJ := Lib.hid hJ
        have HK := Lib.hid hK
        clear hJ hK
        go_region_law (refine step_call_fn rfl 54 _ _ rfl enters_rUsed [.pointer (some ⟨rb, 0, none⟩)] rfl ?_; refine (rUsed_calls (HRF.out.below ((Below.refl _ _).drew)) HG.out.step).mono ?_; rintro e w3 ⟨rfl, rfl⟩; have hus := HE0.out.2.2; rw [hus])
        all_goals
          (repeat' (first | go_values | go_skip | go_guarded | go_step | go_upon | go_back | dsimp only))
          refine HK.out _ _ ?_
          have hJ := HJ.out
          go_meet
          case rel => exact ⟨rfl, rfl⟩
      case rest =>
        obtain ⟨e10, hw⟩ := hcut
        subst e10 hw
        have hstR : Stable (Both (TextsT rs) R) := (TextsT.stable _).both HR.out
        have hst : Stable (Both (CellT rb (refCells (stepS S) rv) tRef) (Both (RowG tRRun 3 rv rs.length (rs.flatMap cellsR)) (Both (TextsT rs) R))) := (CellT.stable _ _ _).both ((RowG.stable _ _ _ _ _).both hstR)
        have H3 := Lib.hid (H2.out.mono hst ((Below.refl _ _).drew))
        have H4 := Lib.hid (H1.out.mono ((RefT.stable _ _).both HR.out) ((Below.refl _ _).drew))
        have HRD3 := Lib.hid (HRD.out _ H3.out.drop.drop.drop)
        have HSR := Lib.hid hstR
        clear hst hstR c0 c1 c4 H1 H2 HRF hw1
        generalize w1.drew = w2 at *
        have hcu : (S.used : Int) ≤ S.cap := by omega
        (repeat' (first | go_values | go_skip | go_guarded | go_step | go_upon | go_back | dsimp only))
        go_loop [10, 11] (fun a b => ∃ k : Nat, a = .int .i64 ((S.cap : Int) - S.used - ((cat (ss.take k)).length : Int)) ∧ b = .int .i64 k ∧ k ≤ ss.length ∧ (cat (ss.take k)).length ≤ S.cap - S.used) (fun _ b => ss.length - (intOf b).toNat)
        case atStart => exact ⟨0, by simp [cat], rfl, by omega, by simp [cat]⟩
        case round =>
          obtain ⟨k, rfl, rfl, hk, hfit⟩ := hrel
          by_cases hlt : (k : Int) < ss.length
          · have hkl : k < ss.length := by omega
            obtain ⟨bx, ox, cx, hsl, x0⟩ := HRD3.out.str (k := k) (r := ss.getD k []) (by rw [List.getD_eq_getElem?_getD, List.getElem?_eq_getElem hkl]; rfl)
            cases hsl
            have hcs := cat_take_succ hkl
            have hle := cat_take_le ss (k + 1)
            have hcl := congrArg List.length hcs
            rw [List.length_append] at hcl
            generalize ss.getD k [] = r at *
            have hk0 : (0 : Int) ≤ k := by omega
            generalize (cat (ss.take k)).length = ck at *
            have HCL := Lib.hid hcl
            have HFIT := Lib.hid hfit
            by_cases hbig : (S.cap : Int) - S.used - ck < r.length
            · have hfull : S.cap - S.used < (cat ss).length := by omega
              have HFULL := Lib.hid hfull
              clear hcs hcl hle hfit hfull
              (repeat' (first | go_values | go_skip | go_guarded | go_step | go_upon | go_back | dsimp only))
              go_ret
              have hres := HRES.out
              rw [if_pos HFULL.out] at hres
              subst hres
              exact ⟨rfl, H4.out⟩
            · have hw1 : IntKind.i64.wrap ((S.cap : Int) - S.used - ck - r.length) = (S.cap : Int) - S.used - ck - r.length := by rw [IntKind.wrap_i64] <;> omega
              have HCS := Lib.hid hcs
              clear hcs hcl hle hfit
              (repeat' (first | go_values | go_skip | go_guarded | go_step | go_upon | go_back | dsimp only))
              refine ⟨⟨k + 1, ?_, by simp, by omega, by have := HCL.out; omega⟩, by simp [intOf] <;> omega⟩
              congr 1
              have := HCL.out
              omega
          · have hkn : k = ss.length := by omega
            subst hkn
            rw [List.take_length] at hfit ⊢
            have HFIT := Lib.hid hfit
            obtain ⟨g, capg, hsl, _, i1, _, fzg⟩ := (H3.out.refR HRS.out).item hj
            subst hsl
            obtain ⟨_, _, _, _, c4⟩ := (H3.out.refR HRS.out).c
            have htx := (H3.out.refR HRS.out).texts _ (getD_mem hj)
            obtain ⟨aot, capt, hvt, _, _⟩ := own_shape htx
            rw [hvt] at i1
            have HVT := Lib.hid hvt
            have hj0 : (0 : Int) ≤ j := by omega
            have hj1 : (j : Int) < rs.length := by omega
            clear hfit htx hvt
            obtain ⟨Rest, hRest⟩ : ∃ X, X = Both (CellT rb (refCells (stepS S) (.slice (some ⟨g, 0, none⟩) rs.length capg)) tRef) (Both (RowG tRRun 3 (.slice (some ⟨g, 0, none⟩) rs.length capg) rs.length (rs.flatMap cellsR)) (Both (TextsT (rs.take j ++ rs.drop (j + 1))) R)) := ⟨_, rfl⟩
            have hSR : Stable Rest := by rw [hRest]; exact (CellT.stable _ _ _).both ((RowG.stable _ _ _ _ _).both ((TextsT.stable _).both HR.out))
            have h5 : At W w2 (Both (RowG tU8 1 (.slice aot (rs.getD j default).text.length capt) (rs.getD j default).text.length (bvs (rs.getD j default).text)) Rest) := by
              rw [hRest]
              have q := (H3.out.impl fun fp q => Both.mono (fun w fp h => Both.mono (fun w fp h => Both.out (Both.comm (Both.mono (fun w fp h => TextsT.get hj h) (Both.comm h)))) h) q).pull3
              unfold TextT at q
              rw [HVT.out] at q
              exact q
            have hpt : p.2.text = (rs.getD j default).text := by rw [HPJ.out]; rfl
            have HPT := Lib.hid hpt
            rw [← hpt] at h5
            have hpl : p.2.text.length ≤ 67108864 := by
              have h7 := HG.out.step.le p HF.out
              have e : (stepS S).used = S.used := rfl
              rw [e] at h7
              omega
            rw [← hpt] at i1
            generalize hT : p.2.text = T at *
            have HT := Lib.hid hT
            have HSR2 := Lib.hid hSR
            have HREST := Lib.hid hRest
            have H5 := Lib.hid h5
            clear hRest hSR h5 hpt hT
            (repeat' (first | go_values | go_skip | go_guarded | go_step | go_upon | go_back | dsimp only))
            go_loopw [12, 13] (fun v i wr => ∃ k : Nat, i = .int .i64 k ∧ k ≤ ss.length ∧ At W wr (Both (RowG tU8 1 v (T ++ cat (ss.take k)).length (bvs (T ++ cat (ss.take k)))) Rest)) (fun _ i _ => ss.length - (intOf i).toNat)
            case atStart => exact ⟨0, rfl, by omega, by simpa [cat] using H5.out⟩
            case round =>
              rename World => wr
              obtain ⟨k, rfl, hk, hh⟩ := hrel
              have HH := Lib.hid hh
              by_cases hlt : (k : Int) < ss.length
              · have hkl : k < ss.length := by omega
                obtain ⟨bx, ox, cx, hsl, x0⟩ := (HRD.out _ (show At W wr R from by have q := hh.drop; rw [HREST.out] at q; exact q.drop.drop.drop)).str (k := k) (r := ss.getD k []) (by rw [List.getD_eq_getElem?_getD, List.getElem?_eq_getElem hkl]; rfl)
                cases hsl
                have hcs := cat_take_succ hkl
                have hle := cat_take_le ss (k + 1)
                have hcl := congrArg List.length hcs
                rw [List.length_append] at hcl
                have hget : ss[k]? = some (ss.getD k []) := by rw [List.getD_eq_getElem?_getD, List.getElem?_eq_getElem hkl]; rfl
                have HX := Lib.hid (show ∀ wq : World, At W wq R → wq.cell? ⟨bx, ox + k, none⟩ = some (.string ⟨(ss.getD k []).toArray⟩) from fun wq hb => by
                  obtain ⟨b2, o2, c2, e, h7⟩ := (HRD.out _ hb).str hget
                  cases e
                  exact h7)
                generalize ss.getD k [] = r at *
                generalize cat (ss.take k) = ck at *
                obtain ⟨sb, hsb⟩ : ∃ sb : ByteArray, sb = ⟨r.toArray⟩ := ⟨_, rfl⟩
                rw [← hsb] at x0 HX
                have hsz : sb.size = r.length := by rw [hsb]; simp [ByteArray.size]
                have hk0 : (0 : Int) ≤ k := by omega
                have hrl : r.length ≤ 1048576 := by omega
                have hckl : ck.length ≤ 1048576 := by omega
                have HCS := Lib.hid hcs
                have HSB := Lib.hid hsb
                clear hcs hsb hh x0 hget hle hcl
                (repeat' (first | go_values | go_skip | go_guarded | go_step | go_upon | go_back | dsimp only))
                go_loopw [12, 14] (fun v i wq => ∃ b : Nat, i = .int .i64 b ∧ b ≤ sb.size ∧ At W wq (Both (RowG tU8 1 v (T ++ (ck ++ r.take b)).length (bvs (T ++ (ck ++ r.take b)))) Rest)) (fun _ i _ => sb.size - (intOf i).toNat)
                case atStart => exact ⟨0, rfl, by omega, by simpa using HH.out⟩
                case round =>
                  rename World => wq
                  obtain ⟨b, rfl, hb, hq⟩ := hrel
                  have HQ := Lib.hid hq
                  have x0 := HX.out _ (show At W wq R from by have q := hq.drop; rw [HREST.out] at q; exact q.drop.drop.drop)
                  by_cases hbl : (b : Int) < sb.size
                  · have hb1 : b < sb.size := by omega
                    have hb0 : (0 : Int) ≤ b := by omega
                    have hts : T ++ (ck ++ r.take (b + 1)) = (T ++ (ck ++ r.take b)) ++ [sb[b]] := by
                      rw [List.take_add_one, List.getElem?_eq_getElem (show b < r.length by omega)]
                      have e : sb[b] = r[b]'(by omega) := by
                        have := HSB.out
                        subst this
                        rfl
                      rw [e]; simp
                    have hll : (T ++ (ck ++ r.take b)).length ≤ 100000000 := by simp only [List.length_append, List.length_take]; omega
                    have HTS := Lib.hid hts
                    generalize T ++ (ck ++ r.take b) = L at *
                    clear hq hts
                    (repeat' (first | (go_big_may; (at_builtin; go_must (refine wpList_append_at rfl _ _ 85 tU8 rfl Tryz.underlying85 info_u8 rfl (by decide) rfl HQ.out HSR2.out (m := 1) rfl rfl (by intro u hu; simp at hu; subst hu; rfl) (by unfold maxLen; omega) (by omega) ?_); intro v2 w7 h7 _ _; have H7 := Lib.hid h7; clear h7)) | go_values | go_skip | go_guarded | go_step | go_upon | go_back | dsimp only))
                    go_roundw
                    case rel =>
                      refine ⟨b + 1, by simp, by omega, ?_⟩
                      have := H7.out
                      rw [HTS.out]
                      simpa [Lib.byteCells] using this
                    case measure => simp [intOf] <;> omega
                  · have hbs : b = r.length := by omega
                    subst hbs
                    rw [List.take_length, ← HCS.out] at hq
                    have HQ2 := Lib.hid hq
                    clear hq HQ
                    (repeat' (first | go_values | go_skip | go_guarded | go_step | go_upon | go_back | dsimp only))
                    go_roundw
                    case rel => exact ⟨k + 1, by simp, by omega, HQ2.out⟩
                    case measure => simp [intOf] <;> omega
              · have hkn : k = ss.length := by omega
                subst hkn
                rw [List.take_length] at hh
                obtain ⟨ao3, cap3, hv3, _, _⟩ := own_shape hh.rowG
                subst hv3
                rw [HREST.out] at hh
                obtain ⟨x, hx⟩ : ∃ x : RR, x = ⟨(rs.getD j default).num, .slice ao3 (T ++ cat ss).length cap3, T ++ cat ss, (rs.getD j default).sealed⟩ := ⟨_, rfl⟩
                have hxv : x.v = .slice ao3 (T ++ cat ss).length cap3 := by rw [hx]
                have hxt : x.text = T ++ cat ss := by rw [hx]
                have hxn : x.num = (rs.getD j default).num := by rw [hx]
                have h6 := hh.pull3
                have hlt6 := h6.rowG
                have z1 : wr.cell? ⟨g, j * 3 + 1, none⟩ = some (rs.getD j default).v := by
                  rw [hlt6.cellAt _ (by omega), flatMap_get cellsR_len rs hj (by omega)]; rfl
                have fz6 := hlt6.frozenAt
                have c46 : wr.cell? ⟨rb, 4, none⟩ = some (.slice (some ⟨g, 0, none⟩) rs.length capg) := by
                  have := cell_of hh.drop.cell.1 4
                  rw [this]; simp [refCells]
                have h7 := h6.storeG ((RowG.stable _ _ _ _ _).both ((CellT.stable _ _ _).both ((TextsT.stable _).both HR.out))) (j * 3 + 1) x.v
                rw [flatMap_set cellsR_len rs (x := x) hj (by omega) (by rw [hx]; rfl)] at h7
                have h8 : At W (wr.setCell ⟨g, j * 3 + 1, none⟩ x.v) (Both (CellT rb (refCells (stepS S) (.slice (some ⟨g, 0, none⟩) rs.length capg)) tRef) (Both (RowG tRRun 3 (.slice (some ⟨g, 0, none⟩) rs.length capg) (rs.set j x).length ((rs.set j x).flatMap cellsR)) (Both (TextsT (rs.set j x)) R))) := by
                  rw [List.length_set]
                  have ht : TextT x = RowG tU8 1 (.slice ao3 (T ++ cat ss).length cap3) (T ++ cat ss).length (bvs (T ++ cat ss)) := by unfold TextT; rw [hxv, hxt]
                  rw [← ht] at h7
                  exact h7.pull3.impl fun fp q => Both.mono (fun w fp h => Both.mono (fun w fp h => Both.comm (Both.mono (fun w fp h => TextsT.put hj h) (Both.comm (Both.inn h)))) h) q
                rw [hxv] at h8
                obtain ⟨S3, hS3⟩ : ∃ S3 : St, S3 = { (stepS S).setRun p.1 ⟨T ++ cat ss, p.2.sealed⟩ with used := S.used + (cat ss).length } := ⟨_, rfl⟩
                have hr3 : S3.runs = (rs.set j x).map runOf := by
                  rw [← runs_set HG.out.step HRS.out hj hxn, hS3, hx, HPJ.out]
                  rfl
                have hp1 : p ∈ (stepS S).runs := (find_mem HF.out).1
                have hu3 : S3.used = usedOf S3.runs := by
                  have h10 := usedOf_map (r := ⟨T ++ cat ss, p.2.sealed⟩) HG.out.step.rising hp1
                  have h11 := HG.out.step.used
                  have h12 : (stepS S).used = S.used := rfl
                  rw [hS3]
                  show S.used + (cat ss).length = usedOf ((stepS S).runs.map fun q => if q.1 = p.1 then (p.1, ⟨T ++ cat ss, p.2.sealed⟩) else q)
                  rw [HT.out] at h10
                  simp only [List.length_append] at h10
                  omega
                have hc3 : refCells S3 (.slice (some ⟨g, 0, none⟩) rs.length capg) = refCells (stepS S) (.slice (some ⟨g, 0, none⟩) rs.length capg) := by rw [hS3]; rfl
                rw [← hc3] at h8
                have hue : S3.used = S.used + (cat ss).length := by rw [hS3]
                have hpe : S3.peak = S.peak := by rw [hS3]; rfl
                have hrf8 := At.refR (S := S3) hr3 h8
                obtain ⟨_, d1, _, _, _⟩ := hrf8.c
                have dz := hrf8.fz
                have dlt := lt_of_heap hrf8.cells
                have hul : S3.used ≤ 67108864 := by rw [hue]; have := HFIT.out; omega
                have hln : (rs.set j x).length ≤ 16777216 := by rw [List.length_set]; exact hn
                have hst8 : Stable (Both (RowG tRRun 3 (.slice (some ⟨g, 0, none⟩) rs.length capg) (rs.set j x).length ((rs.set j x).flatMap cellsR)) (Both (TextsT (rs.set j x)) R)) := (RowG.stable _ _ _ _ _).both ((TextsT.stable _).both HR.out)
                have hres := HRES.out
                rw [if_neg (by have := HFIT.out; omega)] at hres
                have hgr : grownS (stepS S) p (cat ss) = { S3 with peak := max S.peak S3.used } := by
                  rw [hue, hS3]
                  unfold grownS
                  rw [HT.out]
                  rfl
                rw [hgr] at hres
                have HUSED := Lib.hid (rUsed_calls0 hrf8 hu3 hln hul)
                rw [hpe] at d1
                by_cases hpk : (S.peak : Int) < S3.used
                · have h13 := h8.setCell hst8 1 (.int .i64 (S3.used : Int))
                  have hc4 : (refCells S3 (.slice (some ⟨g, 0, none⟩) rs.length capg)).setIfInBounds 1 (.int .i64 (S3.used : Int)) = refCells { S3 with peak := max S.peak S3.used } (.slice (some ⟨g, 0, none⟩) rs.length capg) := by
                    simp only [refCells]
                    rw [show max S.peak S3.used = S3.used by omega]
                    rfl
                  rw [hc4] at h13
                  have HEND := Lib.hid (At.toRef (S := { S3 with peak := max S.peak S3.used }) hr3 h13)
                  have HRES2 := Lib.hid hres
                  rw [List.length_append] at HUSED HEND
                  simp only [List.length_append] at d1 dz dlt
                  clear hh h6 hlt6 h7 h8 hx hxv hxt hxn hr3 hp1 hu3 hc3 hue hpe hrf8 hst8 hres hgr h13 hc4 hS3
                  (repeat' (first | go_values | go_skip | go_guarded | go_step | go_upon | go_back | dsimp only))
                  refine HUSED.out.mono ?_
                  rintro e w9 ⟨rfl, rfl⟩
                  (repeat' (first | go_values | go_skip | go_guarded | go_step | go_upon | go_back | dsimp only))
                  go_ret
                  rw [HRES2.out]
                  exact ⟨rfl, HEND.out⟩
                · have hc4 : refCells S3 (.slice (some ⟨g, 0, none⟩) rs.length capg) = refCells { S3 with peak := max S.peak S3.used } (.slice (some ⟨g, 0, none⟩) rs.length capg) := by
                    simp only [refCells]
                    rw [show max S.peak S3.used = S.peak by omega, hpe]
                  rw [hc4] at h8
                  have HEND := Lib.hid (At.toRef (S := { S3 with peak := max S.peak S3.used }) hr3 h8)
                  have HRES2 := Lib.hid hres
                  rw [List.length_append] at HUSED HEND
                  simp only [List.length_append] at d1 dz dlt
                  clear hh h6 hlt6 h7 h8 hx hxv hxt hxn hr3 hp1 hu3 hc3 hue hpe hrf8 hst8 hres hgr hc4 hS3
                  (repeat' (first | go_values | go_skip | go_guarded | go_step | go_upon | go_back | dsimp only))
                  refine HUSED.out.mono ?_
                  rintro e w9 ⟨rfl, rfl⟩
                  (repeat' (first | go_values | go_skip | go_guarded | go_step | go_upon | go_back | dsimp only))
                  go_ret
                  rw [HRES2.out]
                  exact ⟨rfl, HEND.out⟩
    · rw [show appendP S z (cat ss) = (stepS S, openC S z) from withRun_err h9 ho]
      have HO := Lib.hid ho
      have hoc : openC S z = 3 ∨ openC S z = 4 := by
        unfold openC at ho ⊢
        cases hf : S.find z with
        | none => exact .inl rfl
        | some p =>
          rw [hf] at ho
          dsimp only at ho ⊢
          by_cases hs : p.2.sealed = true
          · rw [if_pos hs]; exact .inr rfl
          · rw [if_neg hs] at ho; exact absurd rfl ho
      have hcne : ((openC S z : Int) == 0) = false := by
        have : ¬ (openC S z : Int) = 0 := by omega
        simpa using this
      clear h9 ho hoc
      go_enter Tryz.func45, Tryz.ntmps45
      (repeat' (first | go_values | go_skip | go_guarded | go_step | go_upon | go_back | dsimp only))
      refine HREF.out.mono ?_
      rintro e w1 ⟨rfl, h1⟩
      obtain ⟨rv, rs, hr, h2⟩ := h1.ref
      have HRF := Lib.hid (h2.refR hr)
      have H1 := Lib.hid h1
      clear h1 hr h2
      (repeat' (first | go_values | go_skip | go_guarded | go_step | go_upon | go_back | dsimp only))
      refine (fit_calls HRF.out HG.out.step hz).mono ?_
      rintro e w2 ⟨⟨i, c, rfl, hfit⟩, rfl⟩
      have ho2 : openC (stepS S) z = openC S z := rfl
      obtain ⟨hc, rfl⟩ := fit_err hfit HO.out
      rw [ho2] at hc
      subst hc
      clear hfit ho2
      (repeat' (first | go_values | go_skip | go_guarded | go_step | go_upon | go_back | dsimp only))
      go_ret
      exact ⟨rfl, H1.out⟩
end
section
open Go.RowKit
section
variable {W w : World} {R : Thing} {rb : Nat} {S : St}
theorem rSize_at (h : At W w (Both (RefT rb S) R)) (hG : GoodS S) {z : Int} (hz : inI64 z) :
    Calls Tryz.prog 110 #[.pointer (some ⟨rb, 0, none⟩), .int .i64 z] w fun e w' => e = .returned (.tuple #[.int .i64 (sizeN S z), .int .i64 (sizeC S z)]) ∧ w = w' := by
  obtain ⟨rv, rs, hr, h2⟩ := h.ref
  exact rSize_calls (h2.refR hr) hG hz
theorem rRead_at (h : At W w (Both (RefT rb S) R)) (hG : GoodS S) {z a n : Int} (hz : inI64 z) (ha : inI64 a) (hn : inI64 n) :
    Calls Tryz.prog 105 #[.pointer (some ⟨rb, 0, none⟩), .int .i64 z, .int .i64 a, .int .i64 n] w fun e w' => e = .returned (.tuple #[.string ⟨(readT S z a n).toArray⟩, .int .i64 (readC S z a n)]) ∧ w = w' := by
  obtain ⟨rv, rs, hr, h2⟩ := h.ref
  exact rRead_calls (h2.refR hr) hG hz ha hn
end
end
end Go.Proofs.YtadokkffmekndaaGreatDoor
namespace Go.Proofs.YtadokkffmekndaaGreatDoor
open Go.RowKit
set_option maxRecDepth 100000 in
set_option maxHeartbeats 6400000 in
theorem rAppend_atB {W w : World} {R : Thing} {rb : Nat} {S : St} (h : At W w (Both (RefT rb S) R)) (hR : Stable R) (hG : GoodS S) {z : Int} (hz : inI64 z) {v : Value} {ss : List (List UInt8)} (hrd : ∀ w', At W w' R → RdRow w' v ss.length 1 (strs ss)) (hlen : ss.length + (cat ss).length ≤ 2097152) :
    Calls Tryz.prog 45 #[.pointer (some ⟨rb, 0, none⟩), .int .i64 z, v] w fun e w' => e = .returned (.int .i64 (appendP S z (cat ss)).2) ∧ At W w' (Both (RefT rb (appendP S z (cat ss)).1) R) := by
  have HREF := Lib.hid (refused_at h hR hG)
  have HG := Lib.hid hG
  have HR := Lib.hid hR
  have HRD := Lib.hid hrd
  obtain ⟨avs, capv, hv, hcv1, hcv2⟩ := (hrd w h.drop).shape
  subst hv
  clear h hG hR hrd
  by_cases h9 : S.left = 1
  · rw [show appendP S z (cat ss) = (stepS S, 9) from withRun_broken h9]
    rw [decide_eq_true h9] at HREF
    clear h9
    go_enter Tryz.func45, Tryz.ntmps45
    (repeat' (first | go_values | go_skip | go_guarded | go_step | go_upon | go_back | dsimp only))
    refine HREF.out.mono ?_
    rintro e w1 ⟨rfl, h1⟩
    have H1 := Lib.hid h1
    clear h1
    (repeat' (first | go_values | go_skip | go_guarded | go_step | go_upon | go_back | dsimp only))
    go_ret
    exact ⟨rfl, H1.out⟩
  · rw [decide_eq_false h9] at HREF
    by_cases ho : openC S z = 0
    · obtain ⟨p, hf, hs⟩ : ∃ p, S.find z = some p ∧ p.2.sealed = false := by
        unfold openC at ho
        cases hf : S.find z with
        | none => rw [hf] at ho; cases ho
        | some p =>
          rw [hf] at ho
          dsimp only at ho
          refine ⟨p, rfl, ?_⟩
          cases hs : p.2.sealed with
          | false => rfl
          | true => rw [if_pos hs] at ho; cases ho
      have hP : appendP S z (cat ss) = if S.cap - S.used < (cat ss).length then (stepS S, 7) else (grownS (stepS S) p (cat ss), 0) := by
        unfold appendP withRun
        rw [if_neg h9, hf]
        dsimp only
        rw [if_neg (by rw [hs]; decide)]
      obtain ⟨res, hres⟩ : ∃ res, res = appendP S z (cat ss) := ⟨_, rfl⟩
      rw [← hres]
      rw [hP] at hres
      have HRES := Lib.hid hres
      clear hres
      have hsz := HG.out.sizes
      have HF := Lib.hid (show (stepS S).find z = some p from hf)
      have HS := Lib.hid hs
      clear h9 ho hP hf hs
      go_enter Tryz.func45, Tryz.ntmps45
      (repeat' (first | go_values | go_skip | go_guarded | go_step | go_upon | go_back | dsimp only))
      refine HREF.out.mono ?_
      rintro e w1 ⟨rfl, h1⟩
      obtain ⟨rv, rs, hr, h2⟩ := h1.ref
      have hrf := h2.refR hr
      obtain ⟨j, hj, hpj, hfa⟩ := fit_at HG.out.step hr HF.out HS.out
      have hn := hrf.len HG.out.step
      have HFA := Lib.hid hfa
      have HPJ := Lib.hid hpj
      have HRF := Lib.hid hrf
      have HRS := Lib.hid hr
      have H2 := Lib.hid h2
      have H1 := Lib.hid h1
      clear h1 hr h2 hrf hfa hpj
      (repeat' (first | go_values | go_skip | go_guarded | go_step | go_upon | go_back | dsimp only))
      refine (fit_calls HRF.out HG.out.step hz).mono ?_
      rintro e w2 ⟨⟨i, c, rfl, hfit⟩, rfl⟩
      obtain ⟨rfl, rfl⟩ := HFA.out _ _ hfit
      clear hfit
      obtain ⟨c0, c1, _, _, c4⟩ := HRF.out.c
      have e0 : (stepS S).cap = S.cap ∧ (stepS S).peak = S.peak ∧ (stepS S).used = S.used := ⟨rfl, rfl, rfl⟩
      rw [e0.1] at c0
      rw [e0.2.1] at c1
      have HE0 := Lib.hid e0
      clear e0
      have hw1 : IntKind.i64.wrap ((S.cap : Int) - S.used) = (S.cap : Int) - S.used := by rw [IntKind.wrap_i64] <;> omega
      (repeat' (first | go_values | go_skip | go_guarded | go_step | go_upon | go_back | dsimp only))
      go_cut [10] (fun v wx => v = .int .i64 ((S.cap : Int) - S.used) ∧ wx = w1.drew)
      case first =>
        refine wp_only ?_
        rename_i J K' hJ hK
        have HJ := Lib.hid hJ
        have HK := Lib.hid hK
        clear hJ hK
        go_region_law (refine step_call_fn rfl 54 _ _ rfl enters_rUsed [.pointer (some ⟨rb, 0, none⟩)] rfl ?_; refine (rUsed_calls (HRF.out.below ((Below.refl _ _).drew)) HG.out.step).mono ?_; rintro e w3 ⟨rfl, rfl⟩; have hus := HE0.out.2.2; rw [hus])
        all_goals
          (repeat' (first | go_values | go_skip | go_guarded | go_step | go_upon | go_back | dsimp only))
          refine HK.out _ _ ?_
          have hJ := HJ.out
          go_meet
          case rel => exact ⟨rfl, rfl⟩
      case rest =>
        obtain ⟨e10, hw⟩ := hcut
        subst e10 hw
        have hstR : Stable (Both (TextsT rs) R) := (TextsT.stable _).both HR.out
        have hst : Stable (Both (CellT rb (refCells (stepS S) rv) tRef) (Both (RowG tRRun 3 rv rs.length (rs.flatMap cellsR)) (Both (TextsT rs) R))) := (CellT.stable _ _ _).both ((RowG.stable _ _ _ _ _).both hstR)
        have H3 := Lib.hid (H2.out.mono hst ((Below.refl _ _).drew))
        have H4 := Lib.hid (H1.out.mono ((RefT.stable _ _).both HR.out) ((Below.refl _ _).drew))
        have HRD3 := Lib.hid (HRD.out _ H3.out.drop.drop.drop)
        have HSR := Lib.hid hstR
        clear hst hstR c0 c1 c4 H1 H2 HRF hw1
        generalize w1.drew = w2 at *
        have hcu : (S.used : Int) ≤ S.cap := by omega
        (repeat' (first | go_values | go_skip | go_guarded | go_step | go_upon | go_back | dsimp only))
        go_loop [10, 11] (fun a b => ∃ k : Nat, a = .int .i64 ((S.cap : Int) - S.used - ((cat (ss.take k)).length : Int)) ∧ b = .int .i64 k ∧ k ≤ ss.length ∧ (cat (ss.take k)).length ≤ S.cap - S.used) (fun _ b => ss.length - (intOf b).toNat)
        case atStart => exact ⟨0, by simp [cat], rfl, by omega, by simp [cat]⟩
        case round =>
          obtain ⟨k, rfl, rfl, hk, hfit⟩ := hrel
          by_cases hlt : (k : Int) < ss.length
          · have hkl : k < ss.length := by omega
            obtain ⟨bx, ox, cx, hsl, x0⟩ := HRD3.out.str (k := k) (r := ss.getD k []) (by rw [List.getD_eq_getElem?_getD, List.getElem?_eq_getElem hkl]; rfl)
            cases hsl
            have hcs := cat_take_succ hkl
            have hle := cat_take_le ss (k + 1)
            have hcl := congrArg List.length hcs
            rw [List.length_append] at hcl
            generalize ss.getD k [] = r at *
            have hk0 : (0 : Int) ≤ k := by omega
            generalize (cat (ss.take k)).length = ck at *
            have HCL := Lib.hid hcl
            have HFIT := Lib.hid hfit
            by_cases hbig : (S.cap : Int) - S.used - ck < r.length
            · have hfull : S.cap - S.used < (cat ss).length := by omega
              have HFULL := Lib.hid hfull
              clear hcs hcl hle hfit hfull
              (repeat' (first | go_values | go_skip | go_guarded | go_step | go_upon | go_back | dsimp only))
              go_ret
              have hres := HRES.out
              rw [if_pos HFULL.out] at hres
              subst hres
              exact ⟨rfl, H4.out⟩
            · have hw1 : IntKind.i64.wrap ((S.cap : Int) - S.used - ck - r.length) = (S.cap : Int) - S.used - ck - r.length := by rw [IntKind.wrap_i64] <;> omega
              have HCS := Lib.hid hcs
              clear hcs hcl hle hfit
              (repeat' (first | go_values | go_skip | go_guarded | go_step | go_upon | go_back | dsimp only))
              refine ⟨⟨k + 1, ?_, by simp, by omega, by have := HCL.out; omega⟩, by simp [intOf] <;> omega⟩
              congr 1
              have := HCL.out
              omega
          · have hkn : k = ss.length := by omega
            subst hkn
            rw [List.take_length] at hfit ⊢
            have HFIT := Lib.hid hfit
            obtain ⟨g, capg, hsl, _, i1, _, fzg⟩ := (H3.out.refR HRS.out).item hj
            subst hsl
            obtain ⟨_, _, _, _, c4⟩ := (H3.out.refR HRS.out).c
            have htx := (H3.out.refR HRS.out).texts _ (getD_mem hj)
            obtain ⟨aot, capt, hvt, _, _⟩ := own_shape htx
            rw [hvt] at i1
            have HVT := Lib.hid hvt
            have hj0 : (0 : Int) ≤ j := by omega
            have hj1 : (j : Int) < rs.length := by omega
            clear hfit htx hvt
            obtain ⟨Rest, hRest⟩ : ∃ X, X = Both (CellT rb (refCells (stepS S) (.slice (some ⟨g, 0, none⟩) rs.length capg)) tRef) (Both (RowG tRRun 3 (.slice (some ⟨g, 0, none⟩) rs.length capg) rs.length (rs.flatMap cellsR)) (Both (TextsT (rs.take j ++ rs.drop (j + 1))) R)) := ⟨_, rfl⟩
            have hSR : Stable Rest := by rw [hRest]; exact (CellT.stable _ _ _).both ((RowG.stable _ _ _ _ _).both ((TextsT.stable _).both HR.out))
            have h5 : At W w2 (Both (RowG tU8 1 (.slice aot (rs.getD j default).text.length capt) (rs.getD j default).text.length (bvs (rs.getD j default).text)) Rest) := by
              rw [hRest]
              have q := (H3.out.impl fun fp q => Both.mono (fun w fp h => Both.mono (fun w fp h => Both.out (Both.comm (Both.mono (fun w fp h => TextsT.get hj h) (Both.comm h)))) h) q).pull3
              unfold TextT at q
              rw [HVT.out] at q
              exact q
            have hpt : p.2.text = (rs.getD j default).text := by rw [HPJ.out]; rfl
            have HPT := Lib.hid hpt
            rw [← hpt] at h5
            have hpl : p.2.text.length ≤ 67108864 := by
              have h7 := HG.out.step.le p HF.out
              have e : (stepS S).used = S.used := rfl
              rw [e] at h7
              omega
            rw [← hpt] at i1
            generalize hT : p.2.text = T at *
            have HT := Lib.hid hT
            have HSR2 := Lib.hid hSR
            have HREST := Lib.hid hRest
            have H5 := Lib.hid h5
            clear hRest hSR h5 hpt hT
            (repeat' (first | go_values | go_skip | go_guarded | go_step | go_upon | go_back | dsimp only))
            go_loopw [12, 13] (fun v i wr => ∃ k : Nat, i = .int .i64 k ∧ k ≤ ss.length ∧ At W wr (Both (RowG tU8 1 v (T ++ cat (ss.take k)).length (bvs (T ++ cat (ss.take k)))) Rest)) (fun _ i _ => ss.length - (intOf i).toNat)
            case atStart => exact ⟨0, rfl, by omega, by simpa [cat] using H5.out⟩
            case round =>
              rename World => wr
              obtain ⟨k, rfl, hk, hh⟩ := hrel
              have HH := Lib.hid hh
              by_cases hlt : (k : Int) < ss.length
              · have hkl : k < ss.length := by omega
                obtain ⟨bx, ox, cx, hsl, x0⟩ := (HRD.out _ (show At W wr R from by have q := hh.drop; rw [HREST.out] at q; exact q.drop.drop.drop)).str (k := k) (r := ss.getD k []) (by rw [List.getD_eq_getElem?_getD, List.getElem?_eq_getElem hkl]; rfl)
                cases hsl
                have hcs := cat_take_succ hkl
                have hle := cat_take_le ss (k + 1)
                have hcl := congrArg List.length hcs
                rw [List.length_append] at hcl
                have hget : ss[k]? = some (ss.getD k []) := by rw [List.getD_eq_getElem?_getD, List.getElem?_eq_getElem hkl]; rfl
                have HX := Lib.hid (show ∀ wq : World, At W wq R → wq.cell? ⟨bx, ox + k, none⟩ = some (.string ⟨(ss.getD k []).toArray⟩) from fun wq hb => by
                  obtain ⟨b2, o2, c2, e, h7⟩ := (HRD.out _ hb).str hget
                  cases e
                  exact h7)
                generalize ss.getD k [] = r at *
                generalize cat (ss.take k) = ck at *
                obtain ⟨sb, hsb⟩ : ∃ sb : ByteArray, sb = ⟨r.toArray⟩ := ⟨_, rfl⟩
                rw [← hsb] at x0 HX
                have hsz : sb.size = r.length := by rw [hsb]; simp [ByteArray.size]
                have hk0 : (0 : Int) ≤ k := by omega
                have hrl : r.length ≤ 2097152 := by omega
                have hckl : ck.length ≤ 2097152 := by omega
                have HCS := Lib.hid hcs
                have HSB := Lib.hid hsb
                clear hcs hsb hh x0 hget hle hcl
                (repeat' (first | go_values | go_skip | go_guarded | go_step | go_upon | go_back | dsimp only))
                go_loopw [12, 14] (fun v i wq => ∃ b : Nat, i = .int .i64 b ∧ b ≤ sb.size ∧ At W wq (Both (RowG tU8 1 v (T ++ (ck ++ r.take b)).length (bvs (T ++ (ck ++ r.take b)))) Rest)) (fun _ i _ => sb.size - (intOf i).toNat)
                case atStart => exact ⟨0, rfl, by omega, by simpa using HH.out⟩
                case round =>
                  rename World => wq
                  obtain ⟨b, rfl, hb, hq⟩ := hrel
                  have HQ := Lib.hid hq
                  have x0 := HX.out _ (show At W wq R from by have q := hq.drop; rw [HREST.out] at q; exact q.drop.drop.drop)
                  by_cases hbl : (b : Int) < sb.size
                  · have hb1 : b < sb.size := by omega
                    have hb0 : (0 : Int) ≤ b := by omega
                    have hts : T ++ (ck ++ r.take (b + 1)) = (T ++ (ck ++ r.take b)) ++ [sb[b]] := by
                      rw [List.take_add_one, List.getElem?_eq_getElem (show b < r.length by omega)]
                      have e : sb[b] = r[b]'(by omega) := by
                        have := HSB.out
                        subst this
                        rfl
                      rw [e]; simp
                    have hll : (T ++ (ck ++ r.take b)).length ≤ 100000000 := by simp only [List.length_append, List.length_take]; omega
                    have HTS := Lib.hid hts
                    generalize T ++ (ck ++ r.take b) = L at *
                    clear hq hts
                    (repeat' (first | (go_big_may; (at_builtin; go_must (refine wpList_append_at rfl _ _ 85 tU8 rfl Tryz.underlying85 info_u8 rfl (by decide) rfl HQ.out HSR2.out (m := 1) rfl rfl (by intro u hu; simp at hu; subst hu; rfl) (by unfold maxLen; omega) (by omega) ?_); intro v2 w7 h7 _ _; have H7 := Lib.hid h7; clear h7)) | go_values | go_skip | go_guarded | go_step | go_upon | go_back | dsimp only))
                    go_roundw
                    case rel =>
                      refine ⟨b + 1, by simp, by omega, ?_⟩
                      have := H7.out
                      rw [HTS.out]
                      simpa [Lib.byteCells] using this
                    case measure => simp [intOf] <;> omega
                  · have hbs : b = r.length := by omega
                    subst hbs
                    rw [List.take_length, ← HCS.out] at hq
                    have HQ2 := Lib.hid hq
                    clear hq HQ
                    (repeat' (first | go_values | go_skip | go_guarded | go_step | go_upon | go_back | dsimp only))
                    go_roundw
                    case rel => exact ⟨k + 1, by simp, by omega, HQ2.out⟩
                    case measure => simp [intOf] <;> omega
              · have hkn : k = ss.length := by omega
                subst hkn
                rw [List.take_length] at hh
                obtain ⟨ao3, cap3, hv3, _, _⟩ := own_shape hh.rowG
                subst hv3
                rw [HREST.out] at hh
                obtain ⟨x, hx⟩ : ∃ x : RR, x = ⟨(rs.getD j default).num, .slice ao3 (T ++ cat ss).length cap3, T ++ cat ss, (rs.getD j default).sealed⟩ := ⟨_, rfl⟩
                have hxv : x.v = .slice ao3 (T ++ cat ss).length cap3 := by rw [hx]
                have hxt : x.text = T ++ cat ss := by rw [hx]
                have hxn : x.num = (rs.getD j default).num := by rw [hx]
                have h6 := hh.pull3
                have hlt6 := h6.rowG
                have z1 : wr.cell? ⟨g, j * 3 + 1, none⟩ = some (rs.getD j default).v := by
                  rw [hlt6.cellAt _ (by omega), flatMap_get cellsR_len rs hj (by omega)]; rfl
                have fz6 := hlt6.frozenAt
                have c46 : wr.cell? ⟨rb, 4, none⟩ = some (.slice (some ⟨g, 0, none⟩) rs.length capg) := by
                  have := cell_of hh.drop.cell.1 4
                  rw [this]; simp [refCells]
                have h7 := h6.storeG ((RowG.stable _ _ _ _ _).both ((CellT.stable _ _ _).both ((TextsT.stable _).both HR.out))) (j * 3 + 1) x.v
                rw [flatMap_set cellsR_len rs (x := x) hj (by omega) (by rw [hx]; rfl)] at h7
                have h8 : At W (wr.setCell ⟨g, j * 3 + 1, none⟩ x.v) (Both (CellT rb (refCells (stepS S) (.slice (some ⟨g, 0, none⟩) rs.length capg)) tRef) (Both (RowG tRRun 3 (.slice (some ⟨g, 0, none⟩) rs.length capg) (rs.set j x).length ((rs.set j x).flatMap cellsR)) (Both (TextsT (rs.set j x)) R))) := by
                  rw [List.length_set]
                  have ht : TextT x = RowG tU8 1 (.slice ao3 (T ++ cat ss).length cap3) (T ++ cat ss).length (bvs (T ++ cat ss)) := by unfold TextT; rw [hxv, hxt]
                  rw [← ht] at h7
                  exact h7.pull3.impl fun fp q => Both.mono (fun w fp h => Both.mono (fun w fp h => Both.comm (Both.mono (fun w fp h => TextsT.put hj h) (Both.comm (Both.inn h)))) h) q
                rw [hxv] at h8
                obtain ⟨S3, hS3⟩ : ∃ S3 : St, S3 = { (stepS S).setRun p.1 ⟨T ++ cat ss, p.2.sealed⟩ with used := S.used + (cat ss).length } := ⟨_, rfl⟩
                have hr3 : S3.runs = (rs.set j x).map runOf := by
                  rw [← runs_set HG.out.step HRS.out hj hxn, hS3, hx, HPJ.out]
                  rfl
                have hp1 : p ∈ (stepS S).runs := (find_mem HF.out).1
                have hu3 : S3.used = usedOf S3.runs := by
                  have h10 := usedOf_map (r := ⟨T ++ cat ss, p.2.sealed⟩) HG.out.step.rising hp1
                  have h11 := HG.out.step.used
                  have h12 : (stepS S).used = S.used := rfl
                  rw [hS3]
                  show S.used + (cat ss).length = usedOf ((stepS S).runs.map fun q => if q.1 = p.1 then (p.1, ⟨T ++ cat ss, p.2.sealed⟩) else q)
                  rw [HT.out] at h10
                  simp only [List.length_append] at h10
                  omega
                have hc3 : refCells S3 (.slice (some ⟨g, 0, none⟩) rs.length capg) = refCells (stepS S) (.slice (some ⟨g, 0, none⟩) rs.length capg) := by rw [hS3]; rfl
                rw [← hc3] at h8
                have hue : S3.used = S.used + (cat ss).length := by rw [hS3]
                have hpe : S3.peak = S.peak := by rw [hS3]; rfl
                have hrf8 := At.refR (S := S3) hr3 h8
                obtain ⟨_, d1, _, _, _⟩ := hrf8.c
                have dz := hrf8.fz
                have dlt := lt_of_heap hrf8.cells
                have hul : S3.used ≤ 67108864 := by rw [hue]; have := HFIT.out; omega
                have hln : (rs.set j x).length ≤ 16777216 := by rw [List.length_set]; exact hn
                have hst8 : Stable (Both (RowG tRRun 3 (.slice (some ⟨g, 0, none⟩) rs.length capg) (rs.set j x).length ((rs.set j x).flatMap cellsR)) (Both (TextsT (rs.set j x)) R)) := (RowG.stable _ _ _ _ _).both ((TextsT.stable _).both HR.out)
                have hres := HRES.out
                rw [if_neg (by have := HFIT.out; omega)] at hres
                have hgr : grownS (stepS S) p (cat ss) = { S3 with peak := max S.peak S3.used } := by
                  rw [hue, hS3]
                  unfold grownS
                  rw [HT.out]
                  rfl
                rw [hgr] at hres
                have HUSED := Lib.hid (rUsed_calls0 hrf8 hu3 hln hul)
                rw [hpe] at d1
                by_cases hpk : (S.peak : Int) < S3.used
                · have h13 := h8.setCell hst8 1 (.int .i64 (S3.used : Int))
                  have hc4 : (refCells S3 (.slice (some ⟨g, 0, none⟩) rs.length capg)).setIfInBounds 1 (.int .i64 (S3.used : Int)) = refCells { S3 with peak := max S.peak S3.used } (.slice (some ⟨g, 0, none⟩) rs.length capg) := by
                    simp only [refCells]
                    rw [show max S.peak S3.used = S3.used by omega]
                    rfl
                  rw [hc4] at h13
                  have HEND := Lib.hid (At.toRef (S := { S3 with peak := max S.peak S3.used }) hr3 h13)
                  have HRES2 := Lib.hid hres
                  rw [List.length_append] at HUSED HEND
                  simp only [List.length_append] at d1 dz dlt
                  clear hh h6 hlt6 h7 h8 hx hxv hxt hxn hr3 hp1 hu3 hc3 hue hpe hrf8 hst8 hres hgr h13 hc4 hS3
                  (repeat' (first | go_values | go_skip | go_guarded | go_step | go_upon | go_back | dsimp only))
                  refine HUSED.out.mono ?_
                  rintro e w9 ⟨rfl, rfl⟩
                  (repeat' (first | go_values | go_skip | go_guarded | go_step | go_upon | go_back | dsimp only))
                  go_ret
                  rw [HRES2.out]
                  exact ⟨rfl, HEND.out⟩
                · have hc4 : refCells S3 (.slice (some ⟨g, 0, none⟩) rs.length capg) = refCells { S3 with peak := max S.peak S3.used } (.slice (some ⟨g, 0, none⟩) rs.length capg) := by
                    simp only [refCells]
                    rw [show max S.peak S3.used = S.peak by omega, hpe]
                  rw [hc4] at h8
                  have HEND := Lib.hid (At.toRef (S := { S3 with peak := max S.peak S3.used }) hr3 h8)
                  have HRES2 := Lib.hid hres
                  rw [List.length_append] at HUSED HEND
                  simp only [List.length_append] at d1 dz dlt
                  clear hh h6 hlt6 h7 h8 hx hxv hxt hxn hr3 hp1 hu3 hc3 hue hpe hrf8 hst8 hres hgr hc4 hS3
                  (repeat' (first | go_values | go_skip | go_guarded | go_step | go_upon | go_back | dsimp only))
                  refine HUSED.out.mono ?_
                  rintro e w9 ⟨rfl, rfl⟩
                  (repeat' (first | go_values | go_skip | go_guarded | go_step | go_upon | go_back | dsimp only))
                  go_ret
                  rw [HRES2.out]
                  exact ⟨rfl, HEND.out⟩
    · rw [show appendP S z (cat ss) = (stepS S, openC S z) from withRun_err h9 ho]
      have HO := Lib.hid ho
      have hoc : openC S z = 3 ∨ openC S z = 4 := by
        unfold openC at ho ⊢
        cases hf : S.find z with
        | none => exact .inl rfl
        | some p =>
          rw [hf] at ho
          dsimp only at ho ⊢
          by_cases hs : p.2.sealed = true
          · rw [if_pos hs]; exact .inr rfl
          · rw [if_neg hs] at ho; exact absurd rfl ho
      have hcne : ((openC S z : Int) == 0) = false := by
        have : ¬ (openC S z : Int) = 0 := by omega
        simpa using this
      clear h9 ho hoc
      go_enter Tryz.func45, Tryz.ntmps45
      (repeat' (first | go_values | go_skip | go_guarded | go_step | go_upon | go_back | dsimp only))
      refine HREF.out.mono ?_
      rintro e w1 ⟨rfl, h1⟩
      obtain ⟨rv, rs, hr, h2⟩ := h1.ref
      have HRF := Lib.hid (h2.refR hr)
      have H1 := Lib.hid h1
      clear h1 hr h2
      (repeat' (first | go_values | go_skip | go_guarded | go_step | go_upon | go_back | dsimp only))
      refine (fit_calls HRF.out HG.out.step hz).mono ?_
      rintro e w2 ⟨⟨i, c, rfl, hfit⟩, rfl⟩
      have ho2 : openC (stepS S) z = openC S z := rfl
      obtain ⟨hc, rfl⟩ := fit_err hfit HO.out
      rw [ho2] at hc
      subst hc
      clear hfit ho2
      (repeat' (first | go_values | go_skip | go_guarded | go_step | go_upon | go_back | dsimp only))
      go_ret
      exact ⟨rfl, H1.out⟩
end Go.Proofs.YtadokkffmekndaaGreatDoor

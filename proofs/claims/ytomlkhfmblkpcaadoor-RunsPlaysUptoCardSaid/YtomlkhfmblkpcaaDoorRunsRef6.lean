/- The document's store (hornbookref05): Read, Remove walked. -/
import Derived.Test.YtomlkhfmblkpcaaDoorRunsRef5
namespace Go.Proofs.YtomlkhfmblkpcaaDoor
open Go.RowKit

set_option maxRecDepth 100000 in
set_option maxHeartbeats 3200000 in
theorem rRead_calls {w : World} {rb : Nat} {S : St} {rv : Value} {rs : List RR} (h : RefR w rb S rv rs) (hG : GoodS S) {z at_ n : Int} (hz : inI64 z) (ha : inI64 at_) (hn : inI64 n) :
    Calls Tryd.prog 38 #[.pointer (some ⟨rb, 0, none⟩), .int .i64 z, .int .i64 at_, .int .i64 n] w fun e w' => e = .returned (.tuple #[.string ⟨(readT S z at_ n).toArray⟩, .int .i64 (readC S z at_ n)]) ∧ w = w' := by
  have H := Lib.hid h
  have HG := Lib.hid hG
  have hnn := h.len hG
  obtain ⟨_, _, _, _, c4⟩ := h.c
  obtain ⟨ao, cap, hrv, hcap, hcm⟩ := h.shape
  subst hrv
  unfold readT readC
  clear h hG
  cases hf : S.find z with
  | none =>
    dsimp only
    have HF := Lib.hid hf
    clear hf
    go_enter Tryd.func38, Tryd.ntmps38
    (repeat' (first | (go_big_may; fail) | go_values | go_skip | go_guarded | go_step | go_upon | go_back | dsimp only))
    refine (place_calls H.out HG.out hz).mono ?_
    rintro e w1 ⟨⟨r, rfl, hp⟩, rfl⟩
    obtain rfl : r = -1 := by
      rcases hp with ⟨_, h1⟩ | ⟨j, _, _, h1, _⟩
      · exact h1
      · rw [HF.out] at h1; cases h1
    clear hp
    (repeat' (first | (go_big_may; fail) | go_values | go_skip | go_guarded | go_step | go_upon | go_back | dsimp only))
    go_ret2
    exact ⟨rfl, rfl⟩
  | some p =>
    dsimp only
    have HF := Lib.hid hf
    clear hf
    have HP := Lib.hid (place_calls H.out HG.out hz)
    obtain ⟨j, hj, hpj⟩ : ∃ j : Nat, j < rs.length ∧ p = runOf (rs.getD j default) := by
      have := (find_mem HF.out).1
      rw [H.out.runs] at this
      obtain ⟨r, hr, rfl⟩ := List.mem_map.1 this
      obtain ⟨j, hj, rfl⟩ := mem_getD hr
      exact ⟨j, hj, rfl⟩
    have HJ : ∀ r, PlaceR rs S z r → r = j := fun r hp => by
      rcases hp with ⟨h1, _⟩ | ⟨i, hi, _, h1, h2⟩
      · rw [HF.out] at h1; cases h1
      · rw [HF.out] at h1
        rw [h2]
        by_cases hij : i = j
        · rw [hij]
        · refine absurd ?_ (nums_ne HG.out H.out.runs hi hj hij)
          have e := Option.some.inj h1
          rw [hpj] at e
          have := congrArg Prod.fst e
          exact this.symm
    have HJJ := Lib.hid HJ
    clear HJ
    obtain ⟨g, cap', hsl, _, i1, i2, _⟩ := H.out.item hj
    cases hsl
    have htx := H.out.texts _ (getD_mem hj)
    rw [hpj]
    unfold runOf
    generalize rs.getD j default = q at *
    obtain ⟨qn, qv, qt, qs⟩ := q
    dsimp only at *
    obtain ⟨at2, capt, hv, hc1, hc2⟩ := own_shape htx
    subst hv
    have hj0 : (0 : Int) ≤ j := by omega
    have hj1 : (j : Int) < rs.length := by omega
    cases qs with
    | false =>
      rw [if_pos rfl, if_pos rfl]
      clear htx hpj HF
      go_enter Tryd.func38, Tryd.ntmps38
      (repeat' (first | (go_big_may; fail) | go_values | go_skip | go_guarded | go_step | go_upon | go_back | dsimp only))
      refine HP.out.mono ?_
      rintro e w1 ⟨⟨r, rfl, hp⟩, rfl⟩
      obtain rfl := HJJ.out _ hp
      clear hp
      (repeat' (first | (go_big_may; fail) | go_values | go_skip | go_guarded | go_step | go_upon | go_back | dsimp only))
      go_ret2
      exact ⟨rfl, rfl⟩
    | true =>
      rw [if_neg (show ¬ (true = false) by decide), if_neg (show ¬ (true = false) by decide)]
      have HTX := Lib.hid htx
      clear htx hpj HF
      have hL : (qt.length : Int) ≤ 9223372036854775807 := by unfold maxLen at hc2; omega
      by_cases hr : at_ < 0 ∨ n < 0 ∨ at_ > qt.length ∨ n > qt.length - at_
      · rw [if_pos hr, if_pos hr]
        have HRR := Lib.hid hr
        clear hr
        by_cases a0 : at_ < 0
        · go_enter Tryd.func38, Tryd.ntmps38
          (repeat' (first | (go_big_may; fail) | go_values | go_skip | go_guarded | go_step | go_upon | go_back | dsimp only))
          refine HP.out.mono ?_
          rintro e w1 ⟨⟨r, rfl, hp⟩, rfl⟩
          obtain rfl := HJJ.out _ hp
          clear hp
          (repeat' (first | (go_big_may; fail) | go_values | go_skip | go_guarded | go_step | go_upon | go_back | dsimp only))
          go_ret2
          exact ⟨rfl, rfl⟩
        · by_cases n0 : n < 0
          · go_enter Tryd.func38, Tryd.ntmps38
            (repeat' (first | (go_big_may; fail) | go_values | go_skip | go_guarded | go_step | go_upon | go_back | dsimp only))
            refine HP.out.mono ?_
            rintro e w1 ⟨⟨r, rfl, hp⟩, rfl⟩
            obtain rfl := HJJ.out _ hp
            clear hp
            (repeat' (first | (go_big_may; fail) | go_values | go_skip | go_guarded | go_step | go_upon | go_back | dsimp only))
            go_ret2
            exact ⟨rfl, rfl⟩
          · by_cases aL : (qt.length : Int) < at_
            · go_enter Tryd.func38, Tryd.ntmps38
              (repeat' (first | (go_big_may; fail) | go_values | go_skip | go_guarded | go_step | go_upon | go_back | dsimp only))
              refine HP.out.mono ?_
              rintro e w1 ⟨⟨r, rfl, hp⟩, rfl⟩
              obtain rfl := HJJ.out _ hp
              clear hp
              (repeat' (first | (go_big_may; fail) | go_values | go_skip | go_guarded | go_step | go_upon | go_back | dsimp only))
              go_ret2
              exact ⟨rfl, rfl⟩
            · have nL : (qt.length : Int) - at_ < n := by have := HRR.out; omega
              have hwr : IntKind.i64.wrap ((qt.length : Int) - at_) = (qt.length : Int) - at_ := by rw [IntKind.wrap_i64]; omega
              go_enter Tryd.func38, Tryd.ntmps38
              (repeat' (first | (go_big_may; fail) | go_values | go_skip | go_guarded | go_step | go_upon | go_back | dsimp only))
              refine HP.out.mono ?_
              rintro e w1 ⟨⟨r, rfl, hp⟩, rfl⟩
              obtain rfl := HJJ.out _ hp
              clear hp
              (repeat' (first | (go_big_may; fail) | go_values | go_skip | go_guarded | go_step | go_upon | go_back | dsimp only))
              go_ret2
              exact ⟨rfl, rfl⟩
      · rw [if_neg hr, if_neg hr]
        have hVR := RdRow.of_own HTX.out
        obtain ⟨k, rfl⟩ : ∃ k : Nat, at_ = k := Int.eq_ofNat_of_zero_le (by omega)
        obtain ⟨m, rfl⟩ : ∃ m : Nat, n = m := Int.eq_ofNat_of_zero_le (by omega)
        have hkL : k ≤ qt.length := by omega
        have hmL : m ≤ qt.length - k := by omega
        have hkL' : ¬ (qt.length : Int) < k := by omega
        have hmL' : ¬ (qt.length : Int) - k < m := by omega
        have hm0 : ¬ (m : Int) < 0 := by omega
        have hk0 : ¬ (k : Int) < 0 := by omega
        have hwr : IntKind.i64.wrap ((qt.length : Int) - k) = (qt.length : Int) - k := by rw [IntKind.wrap_i64]; omega
        have hkc : (k : Int) + m ≤ capt := by omega
        have hk1 : (0 : Int) ≤ k := by omega
        have hk2 : (k : Int) ≤ (k : Int) + m := by omega
        have hcv : Sem.run Tryd.prog (convert 62 9 (Value.slice (if capt = k then at2 else Option.map (fun x => x.add k) at2) m (capt - k))) w = Result.ok (.string ⟨((qt.drop k).take m).toArray⟩) w := run_string_part _ _ 5 Tryd.underlying62 Tryd.underlying5 Tryd.underlying9 hVR (by omega)
        have hwr2 : IntKind.i64.wrap ((k : Int) + m) = (k : Int) + m := by rw [IntKind.wrap_i64]; unfold maxLen at hc2; omega
        clear hr hVR
        have HC := Lib.hid hc1
        have HKL := Lib.hid hkL
        have HML := Lib.hid hmL
        clear hkL hmL hc1
        go_enter Tryd.func38, Tryd.ntmps38
        (repeat' (first | (go_big_may; fail) | go_values | go_skip | go_guarded | go_step | go_upon | go_back | dsimp only))
        refine HP.out.mono ?_
        rintro e w1 ⟨⟨r, rfl, hp⟩, rfl⟩
        obtain rfl := HJJ.out _ hp
        clear hp
        go_upto_region 9 with (fail)
        clear hkL' hmL' hm0 hk0 hwr ha hn
        (repeat' (first | (go_big_may; fail) | go_values | go_skip | go_guarded | go_step | go_upon | go_back | dsimp only))
        go_ret2
        refine ⟨?_, rfl⟩
        rw [Int.toNat_natCast, Int.toNat_natCast]; rfl
end Go.Proofs.YtomlkhfmblkpcaaDoor

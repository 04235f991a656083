/- hornbookref08.Rising walked. -/
import Derived.Test.YtgeabmmicofanaaGreatDoorBuSpLaw01
import Derived.Test.YtgeabmmicofanaaGreatDoorBuSpLaw28
import Derived.Test.YtgeabmmicofanaaGreatDoorBuSpLaw21
set_option linter.unusedSimpArgs false
set_option linter.unusedVariables false
namespace Go.Proofs.YtgeabmmicofanaaGreatDoor
open Go.RowKit

set_option maxRecDepth 100000 in
set_option maxHeartbeats 1600000 in
theorem Rising_calls (L : List (List UInt8)) (v : Value) (w : World) (hv : RdRow w v L.length 1 (strs L)) (hlen : L.length ≤ 8796093022208) :
    Calls Tryz.prog 50 #[v] w fun e w' => ∃ v', e = .returned v' ∧ w'.ownsRow w.heap.size 9 1 v' (risB none L).length (strs (risB none L)) ∧ Below w.heap.size w w' := by
  obtain ⟨a, cap, rfl, hc1, hc2⟩ := hv.shape
  unfold maxLen at hc2
  have HV := Lib.hid hv
  clear hv
  go_enter Tryz.func50, Tryz.ntmps50
  (repeat' (first | (go_big_may; fail) | go_values | go_skip | go_guarded | go_step | go_upon | go_back | dsimp only))
  go_loopw [3, 4] (fun x i wr => ∃ k : Nat, i = .int .i64 k ∧ RisAt L k ∧ wr.ownsRow w.heap.size 9 1 x k (strs (L.take k)) ∧ Below w.heap.size w wr) (fun _ i _ => L.length - (intOf i).toNat)
  case atStart => exact ⟨0, rfl, RisAt.start _, World.ownsRow_nil _ _ _ _, Below.refl _ _⟩
  case round =>
    obtain ⟨k, rfl, hat, hown, hbel⟩ := hrel
    have hB : w.heap.size ≤ wr.heap.size := hbel.size
    have hk := hat.1
    obtain ⟨ao, cp, rfl, _, hcp⟩ := own_shape hown
    unfold maxLen at hcp
    by_cases hlt : k < L.length
    · obtain ⟨x, hx⟩ : ∃ x, L[k]? = some x := ⟨_, List.getElem?_eq_getElem hlt⟩
      obtain ⟨b, off, cp2, hsl, hcell⟩ := (HV.out.below hbel).str hx
      cases hsl
      have hi0 : (0 : Int) ≤ k := by omega
      have hi1 : (k : Int) < L.length := by omega
      have HX := Lib.hid hx
      have HAT := Lib.hid hat
      have ht : L.take (k + 1) = L.take k ++ [x] := by rw [List.take_add_one, hx]; rfl
      have HT := Lib.hid ht
      clear hat hx ht
      by_cases h0 : k = 0
      · subst h0
        have hn : ¬ (0 : Int) < (0 : Nat) := by decide
        have HU := Lib.hid (HAT.out.up HX.out rfl)
        simp only [Nat.add_zero] at hcell
        (repeat' (first | (go_big_may; fail) | go_values | go_skip | go_guarded | go_step | go_upon | go_back | dsimp only))
        go_quiet (fail)
        have hown2 := ownsRow_below hown (below_dW wr nq)
        have hB3 : w.heap.size ≤ (wr.drewN nq).heap.size := by simpa using hB
        have HB2 := Lib.hid (hbel.trans ((below_dW wr nq).mono hB))
        clear hown hbel
        (repeat' (first | (go_big_may; (at_builtin; go_must (refine wpList_append_new rfl _ _ 32 9 rfl Tryz.underlying32 info_str rfl (by decide) rfl hown2 rfl rfl (one_str _) (by omega) (by unfold maxLen; omega) (by omega) ?_); intro v1 w1 hown1 hgrow1 _)) | go_values | go_skip | go_guarded | go_step | go_upon | go_back | dsimp only))
        go_roundw
        case rel => exact ⟨1, by go_num, HU.out, by rw [HT.out]; simpa [strs] using hown1, grownOwn HB2.out (by simpa using hB) hown2 hgrow1⟩
        case measure => simp [intOf] <;> omega
      · obtain ⟨j, hj⟩ : ∃ j, k = j + 1 := ⟨k - 1, by omega⟩
        obtain ⟨y, hy⟩ : ∃ y, L[j]? = some y := ⟨_, List.getElem?_eq_getElem (by omega)⟩
        obtain ⟨b2, off2, cp3, hsl, hcell2⟩ := (HV.out.below hbel).str hy
        cases hsl
        have hw1 : IntKind.i64.wrap ((k : Int) - 1) = (j : Int) := by rw [IntKind.wrap_i64] <;> omega
        have hj0 : (0 : Int) ≤ j := by omega
        have hj1 : (j : Int) < L.length := by omega
        have hk0 : (0 : Int) < k := by omega
        have hk1 : 0 < k := by omega
        have hq : (if k = 0 then none else L[k - 1]?) = some y := by rw [if_neg h0, hj, Nat.add_sub_cancel, hy]
        have HQ := Lib.hid hq
        clear hq hy hj h0
        cases hyx : Op.bytesLess y x with
        | false =>
          have HS := Lib.hid (HAT.out.stop HX.out (by rw [HQ.out]; exact hyx))
          have HL := Lib.hid HAT.out.len
          have hle : (Op.bytesLess x y || x == y) = true := by
            by_cases e : x = y
            · simp [e]
            · simp [bl_total hyx (fun q => e q.symm)]
          (repeat' (first | (go_big_may; fail) | go_values | go_skip | go_guarded | go_step | go_upon | go_back | dsimp only))
          go_quiet (fail)
          (repeat' (first | (go_big_may; fail) | go_values | go_skip | go_guarded | go_step | go_upon | go_back | dsimp only))
          go_ret
          refine ⟨_, rfl, ?_, hbel.trans ((below_dW wr nq).mono hB)⟩
          rw [HS.out, HL.out]
          exact ownsRow_below hown (below_dW wr nq)
        | true =>
          have HU := Lib.hid (HAT.out.up HX.out (by rw [HQ.out]; exact hyx))
          have hle : (Op.bytesLess x y || x == y) = false := by
            have h1 : Op.bytesLess x y = false := LtW.not hyx
            have h2 : ¬ x = y := fun e => LtW.ne hyx e.symm
            simp [h1, h2]
          (repeat' (first | (go_big_may; fail) | go_values | go_skip | go_guarded | go_step | go_upon | go_back | dsimp only))
          go_quiet (fail)
          have hown2 := ownsRow_below hown (below_dW wr nq)
          have hB3 : w.heap.size ≤ (wr.drewN nq).heap.size := by simpa using hB
          have HB2 := Lib.hid (hbel.trans ((below_dW wr nq).mono hB))
          clear hown hbel hk1
          (repeat' (first | (go_big_may; (at_builtin; go_must (refine wpList_append_new rfl _ _ 32 9 rfl Tryz.underlying32 info_str rfl (by decide) rfl hown2 rfl rfl (one_str _) (by omega) (by unfold maxLen; omega) (by omega) ?_); intro v1 w1 hown1 hgrow1 _)) | go_values | go_skip | go_guarded | go_step | go_upon | go_back | dsimp only))
          go_roundw
          case rel => exact ⟨k + 1, by go_num, HU.out, by rw [HT.out]; simpa [strs] using hown1, grownOwn HB2.out (by simpa using hB) hown2 hgrow1⟩
          case measure => simp [intOf] <;> omega
    · have HD := Lib.hid (hat.done hlt)
      have hlt2 : (L.length : Int) ≤ k := by omega
      have HK := Lib.hid hk
      clear hk hat
      (repeat' (first | (go_big_may; fail) | go_values | go_skip | go_guarded | go_step | go_upon | go_back | dsimp only))
      go_ret
      refine ⟨_, rfl, ?_, hbel⟩
      rw [HD.out.1, List.length_take, Nat.min_eq_left HK.out]
      exact hown
end Go.Proofs.YtgeabmmicofanaaGreatDoor

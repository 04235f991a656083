/- StreamsRecorded walked. · hornbooklaw08.texts at a run of frames. -/
import Derived.Test.YtgeabmmicofanaaGreatDoorBuSpLaw47
import Derived.Test.YtgeabmmicofanaaGreatDoorBuSpLaw23
import Derived.Test.YtgeabmmicofanaaGreatDoorBuSpLaw15
import Derived.Test.YtgeabmmicofanaaGreatDoorCards
import Derived.Test.YtgeabmmicofanaaGreatDoorTie
import Derived.Deep.DeepHandedRow
import Derived.Deep.DeepWitnessRowRef
import Derived.LaidMore
import Derived.LaidEql
set_option linter.unusedSimpArgs false
set_option linter.unusedVariables false
namespace Go.Proofs.YtgeabmmicofanaaGreatDoor
open Go.RowKit

theorem cat_app (x t : List UInt8) : (⟨x.toArray⟩ : ByteArray) ++ ⟨t.toArray⟩ = ⟨(x ++ t).toArray⟩ := by
  apply ByteArray.ext
  simp [ByteArray.data_append]
set_option maxRecDepth 100000 in
set_option maxHeartbeats 1600000 in
theorem texts_calls (ss : List (List UInt8)) (v : Value) (w : World) (hv : RdRow w v ss.length 1 (strs ss)) (hlen : (cat ss).length ≤ 8796093022208) {k0 a0 b0 : Int} (hk : k0 ≠ 6) :
    Calls Tryz.prog 21 #[.agg #[.int .i64 k0, .int .i64 a0, .int .i64 b0, v]] w fun e w' => ∃ v', e = .returned (.tuple #[v', .string ⟨(cat ss).toArray⟩]) ∧
      w'.ownsRow w.heap.size 9 1 v' (risB none (headsL (cat ss)).1).length (strs (risB none (headsL (cat ss)).1)) ∧ Below w.heap.size w w' := by
  obtain ⟨a, cap, rfl, hc1, hc2⟩ := hv.shape
  unfold maxLen at hc2
  have hb0 : Below w.heap.size w (w.alloc (.cells #[.int .i64 k0, .int .i64 a0, .int .i64 b0, .slice a ss.length cap] 34)) := (Below.refl _ _).alloc (Nat.le_refl _) _
  have HV := Lib.hid (hv.below hb0)
  have hx := heap_alloc_new w (.cells #[.int .i64 k0, .int .i64 a0, .int .i64 b0, .slice a ss.length cap] 34)
  have c0 := cell_at hx 0
  have c3 := cell_at hx 3
  have hkb : (k0 == 6) = false := beq_eq_false_iff_ne.2 hk
  have HB0 := Lib.hid hb0
  clear hv hx hk hb0
  go_enter Tryz.func21, Tryz.ntmps21
  (repeat' (first | (go_big_may; fail) | go_values | go_skip | go_guarded | go_step | go_upon | go_back | dsimp only))
  generalize hw1 : w.alloc (.cells #[.int .i64 k0, .int .i64 a0, .int .i64 b0, .slice a ss.length cap] 34) = w1 at *
  clear c0 c3 hw1
  go_loop [4, 21] (fun x i => ∃ k : Nat, i = .int .i64 k ∧ k ≤ ss.length ∧ x = .string ⟨(cat (ss.take k)).toArray⟩) (fun _ i => ss.length - (intOf i).toNat)
  case atStart => exact ⟨0, rfl, Nat.zero_le _, rfl⟩
  case round =>
    obtain ⟨k, rfl, hk, rfl⟩ := hrel
    by_cases hlt : k < ss.length
    · obtain ⟨x, hx⟩ : ∃ x, ss[k]? = some x := ⟨_, List.getElem?_eq_getElem hlt⟩
      obtain ⟨b, off, cp, hsl, hcell⟩ := HV.out.str hx
      cases hsl
      have HT := Lib.hid (cat_at hx)
      have hl1 := cat_take_le ss (k + 1)
      rw [HT.out, List.length_append] at hl1
      have hsum : ¬ 9223372036854775807 < (cat (ss.take k)).length + x.length := by omega
      have hca := cat_app (cat (ss.take k)) x
      have hi0 : (0 : Int) ≤ k := by omega
      have hi1 : (k : Int) < ss.length := by omega
      clear hx
      (repeat' (first | (go_big_may; fail) | go_values | go_skip | go_guarded | go_step | go_upon | go_back | dsimp only))
      go_round
      case rel => exact ⟨k + 1, by go_num, hlt, by rw [HT.out]⟩
      case measure => simp [intOf] <;> omega
    · obtain rfl : k = ss.length := by omega
      rw [List.take_of_length_le (Nat.le_refl _)]
      have HH := Lib.hid (Heads_calls ⟨(cat ss).toArray⟩ w1 (by simpa [ByteArray.size] using hlen))
      have hln := headsL_len (cat ss)
      (repeat' (first | (go_big_may; fail) | go_values | go_skip | go_guarded | go_step | go_upon | go_back | dsimp only))
      refine HH.out.mono ?_
      rintro e w2 ⟨v2, rfl, hown, hb2⟩
      obtain ⟨ao, cp, rfl, _, _⟩ := own_shape hown
      have hri := Rising_calls (headsL (cat ss)).1 (.slice ao (headsL (cat ss)).1.length cp) w2 (RdRow.of_own hown) (by omega)
      have HRI := Lib.hid hri
      have HB2 := Lib.hid (HB0.out.trans (hb2.mono HB0.out.size))
      clear hri hown hb2 HH HV
      (repeat' (first | (go_big_may; fail) | go_values | go_skip | go_guarded | go_step | go_upon | go_back | dsimp only))
      refine HRI.out.mono ?_
      rintro e w3 ⟨v3, rfl, hown3, hb3⟩
      obtain ⟨ao3, cp3, rfl, _, _⟩ := own_shape hown3
      (repeat' (first | (go_big_may; fail) | go_values | go_skip | go_guarded | go_step | go_upon | go_back | dsimp only))
      go_ret2
      exact ⟨_, rfl, ownsRow_base hown3 HB2.out.size, HB2.out.trans (hb3.mono HB2.out.size)⟩
theorem sum_cat (ss : List (List UInt8)) : (cat ss).length = sumLen ss := by simp [cat, sumLen, List.length_flatten]
theorem nil_neq_ptr (a : Addr) (wz : World) : (binOp .eql tSpt (.pointer (some a)) (.pointer none)).run Tryz.prog wz = .ok (.bool false) wz := by kernel_rfl
end Go.Proofs.YtgeabmmicofanaaGreatDoor
namespace Go.Proofs.YtgeabmmicofanaaGreatDoor
open Go.RowKit

set_option maxRecDepth 100000 in
set_option maxHeartbeats 1600000 in
theorem texts6_calls (ss : List (List UInt8)) (v : Value) (w : World) (hv : RdRow w v ss.length 1 (strs ss)) (hlen : (frameL ss).length ≤ 8796093022208) {a0 b0 : Int} :
    Calls Tryz.prog 21 #[.agg #[.int .i64 6, .int .i64 a0, .int .i64 b0, v]] w fun e w' => ∃ v', e = .returned (.tuple #[v', .string ⟨(frameR ss).1.toArray⟩]) ∧
      w'.ownsRow w.heap.size 9 1 v' (risB none (headsL (frameR ss).1).1).length (strs (risB none (headsL (frameR ss).1).1)) ∧ Below w.heap.size w w' := by
  obtain ⟨a, cap, rfl, hc1, hc2⟩ := hv.shape
  unfold maxLen at hc2
  have hb0 : Below w.heap.size w (w.alloc (.cells #[.int .i64 6, .int .i64 a0, .int .i64 b0, .slice a ss.length cap] 34)) := (Below.refl _ _).alloc (Nat.le_refl _) _
  have HFR := Lib.hid (refFrame_calls ss _ _ (hv.below hb0) (by omega))
  have hfl : (frameR ss).1.length ≤ 8796093022208 := by
    unfold frameR; split <;> simp <;> omega
  obtain ⟨P, hP⟩ : ∃ P, frameR ss = P := ⟨_, rfl⟩
  rw [hP] at HFR hfl ⊢
  obtain ⟨T, er⟩ := P
  dsimp only at HFR hfl ⊢
  clear hP
  have hx := heap_alloc_new w (.cells #[.int .i64 6, .int .i64 a0, .int .i64 b0, .slice a ss.length cap] 34)
  have c0 := cell_at hx 0
  have c3 := cell_at hx 3
  have HB0 := Lib.hid hb0
  clear hv hx hb0
  go_enter Tryz.func21, Tryz.ntmps21
  (repeat' (first | (go_big_may; fail) | go_values | go_skip | go_guarded | go_step | go_upon | go_back | dsimp only))
  generalize hw1 : w.alloc (.cells #[.int .i64 6, .int .i64 a0, .int .i64 b0, .slice a ss.length cap] 34) = w1 at *
  clear c0 c3 hw1
  refine HFR.out.mono ?_
  rintro e wa ⟨rfl, hba⟩
  have HBA := Lib.hid (HB0.out.trans (hba.mono HB0.out.size))
  clear hba HFR
  have HH := Lib.hid (Heads_calls ⟨T.toArray⟩ wa (by simpa [ByteArray.size] using hfl))
  have hln := headsL_len T
  (repeat' (first | (go_big_may; fail) | go_values | go_skip | go_guarded | go_step | go_upon | go_back | dsimp only))
  refine HH.out.mono ?_
  rintro e w2 ⟨v2, rfl, hown, hb2⟩
  obtain ⟨ao, cp, rfl, _, _⟩ := own_shape hown
  have hri := Rising_calls (headsL T).1 (.slice ao (headsL T).1.length cp) w2 (RdRow.of_own hown) (by omega)
  have HRI := Lib.hid hri
  have HB2 := Lib.hid (HBA.out.trans (hb2.mono HBA.out.size))
  clear hri hown hb2 HH
  (repeat' (first | (go_big_may; fail) | go_values | go_skip | go_guarded | go_step | go_upon | go_back | dsimp only))
  refine HRI.out.mono ?_
  rintro e w3 ⟨v3, rfl, hown3, hb3⟩
  obtain ⟨ao3, cp3, rfl, _, _⟩ := own_shape hown3
  (repeat' (first | (go_big_may; fail) | go_values | go_skip | go_guarded | go_step | go_upon | go_back | dsimp only))
  go_ret2
  exact ⟨_, rfl, ownsRow_base hown3 HB2.out.size, HB2.out.trans (hb3.mono HB2.out.size)⟩
end Go.Proofs.YtgeabmmicofanaaGreatDoor

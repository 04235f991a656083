/- record.Frame walked. · hornbookref06.Frame, the law's twin and list, walked. -/
import Derived.Test.YtgeabmmicofanaaGreatDoorBuSpLaw21
import Derived.Test.YtgeabmmicofanaaGreatDoorBuSpLaw12
import Derived.Test.YtgeabmmicofanaaGreatDoorBuSpLaw13
set_option linter.unusedSimpArgs false
set_option linter.unusedVariables false
namespace Go.Proofs.YtgeabmmicofanaaGreatDoor
open Go.RowKit

/-- The loop of Frame: k records are written. -/
def FrAt (w : World) (ss : List (List UInt8)) (k : Nat) (wr : World) : Prop :=
  k ≤ ss.length ∧ (∀ j, j < k → ∀ r, ss[j]? = some r → r.length ≤ 255) ∧ Lib.IsBuilder tB tU8 w.heap.size w.heap.size (bvs (frameL (ss.take k))) wr ∧ Below w.heap.size w wr

end Go.Proofs.YtgeabmmicofanaaGreatDoor
namespace Go.Proofs.YtgeabmmicofanaaGreatDoor
open Go.RowKit

/-- A piece of a text is written, byte by byte: of r the first j behind what was there. -/
def CopyAt (w0 : World) (base : List UInt8) (r : ByteArray) (v : Value) (j : Nat) (wr : World) : Prop :=
  j ≤ r.size ∧ wr.ownsRow w0.heap.size 5 1 v (base.length + j) (bvs (base ++ r.data.toList.take j)) ∧ Below w0.heap.size w0 wr
theorem CopyAt.next {w0 wr w1 : World} {base : List UInt8} {r : ByteArray} {v v1 : Value} {j : Nat} (h : CopyAt w0 base r v j wr) (hj : j < r.size) (hB : w0.heap.size ≤ wr.heap.size)
    (hown : w1.ownsRow w0.heap.size 5 1 v1 (base.length + j + 1) (bvs ((base ++ r.data.toList.take j) ++ [r[j]]))) (hg : wr.grownBy w1 v.ownBlock) : CopyAt w0 base r v1 (j + 1) w1 := by
  refine ⟨hj, ?_, grownOwn h.2.2 hB h.2.1 hg⟩
  have e : r.data.toList.take (j + 1) = r.data.toList.take j ++ [r[j]] := by
    rw [List.take_succ_eq_append_getElem (by simpa using hj)]; rfl
  rw [e, ← List.append_assoc]
  exact hown

theorem CopyAt.start {w0 wr : World} {base : List UInt8} (r : ByteArray) {v : Value} (hown : wr.ownsRow w0.heap.size 5 1 v base.length (bvs base)) (hb : Below w0.heap.size w0 wr) : CopyAt w0 base r v 0 wr :=
  ⟨Nat.zero_le _, by simpa using hown, hb⟩
theorem CopyAt.whole {w0 wr : World} {base l : List UInt8} {r : ByteArray} {v : Value} {j : Nat} (h : CopyAt w0 base r v j wr) (hj : ¬ j < r.size) (hl : l = base ++ r.data.toList) : wr.ownsRow w0.heap.size 5 1 v l.length (bvs l) := by
  obtain ⟨h1, h2, _⟩ := h
  have hj : j = r.size := by omega
  subst hl
  subst hj
  rw [List.length_append]
  have e : r.data.toList.length = r.size := by simp
  rw [e]
  rwa [List.take_of_length_le (by simp)] at h2

set_option maxRecDepth 100000 in
set_option maxHeartbeats 1600000 in
theorem refFrame_calls (ss : List (List UInt8)) (v : Value) (w : World) (hv : RdRow w v ss.length 1 (strs ss)) (hlen : (frameL ss).length ≤ 70368744177664) :
    Calls Tryz.prog 48 #[v] w fun e w' => e = .returned (.tuple #[.string ⟨(frameR ss).1.toArray⟩, .int .i64 (frameR ss).2]) ∧ Below w.heap.size w w' := by
  obtain ⟨a, cap, rfl, hc1, hc2⟩ := hv.shape
  unfold maxLen at hc2
  have HV := Lib.hid hv
  have HLN := Lib.hid hlen
  clear hv hlen
  go_enter Tryz.func48, Tryz.ntmps48
  (repeat' (first | (go_big_may; fail) | go_values | go_skip | go_guarded | go_step | go_upon | go_back | dsimp only))
  go_loop [5] (fun i => ∃ k : Nat, i = .int .i64 k ∧ k ≤ ss.length ∧ (∀ j, j < k → ∀ r, ss[j]? = some r → r.length ≤ 255)) (fun i => ss.length - (intOf i).toNat)
  case atStart => exact ⟨0, rfl, Nat.zero_le _, fun j hj => absurd hj (Nat.not_lt_zero _)⟩
  case round =>
    obtain ⟨k, rfl, hk, hfit⟩ := hrel
    have HF := Lib.hid hfit
    clear hfit
    by_cases hlt : k < ss.length
    · obtain ⟨r, hr⟩ : ∃ r, ss[k]? = some r := ⟨_, List.getElem?_eq_getElem hlt⟩
      have HR := Lib.hid hr
      obtain ⟨b, off, cap', hsl, hcell⟩ := (HV.out.below ((Below.refl _ _).alloc (Nat.le_refl _) (.cells #[] 5))).str hr
      cases hsl
      clear hr
      by_cases h255 : 255 < r.length
      · (repeat' (first | (go_big_may; fail) | go_values | go_skip | go_guarded | go_step | go_upon | go_back | dsimp only))
        go_ret2
        refine ⟨?_, (Below.refl _ _).alloc (Nat.le_refl _) _⟩
        have e : frameR ss = ([], 62) := by unfold frameR; rw [fits_not HR.out h255]; rfl
        rw [e]; rfl
      · (repeat' (first | (go_big_may; fail) | go_values | go_skip | go_guarded | go_step | go_upon | go_back | dsimp only))
        go_round
        case rel =>
          refine ⟨k + 1, by go_num, by omega, ?_⟩
          intro j hj r' hr'
          by_cases hjk : j = k
          · subst hjk; rw [HR.out] at hr'; cases hr'; omega
          · exact HF.out j (by omega) r' hr'
        case measure => simp [intOf] <;> omega
    · have hall : fits ss = true := fits_of (fun j hj r hr => HF.out j (by omega) r hr)
      have HA := Lib.hid hall
      clear hall
      (repeat' (first | (go_big_may; fail) | go_values | go_skip | go_guarded | go_step | go_upon | go_back | dsimp only))
      go_loopw [4, 6] (fun x i wr => ∃ k : Nat, i = .int .i64 k ∧ k ≤ ss.length ∧ wr.ownsRow w.heap.size 5 1 x (frameL (ss.take k)).length (bvs (frameL (ss.take k))) ∧ Below w.heap.size w wr) (fun _ i _ => ss.length - (intOf i).toNat)
      case atStart => exact ⟨0, rfl, Nat.zero_le _, ⟨rfl, .inr ⟨w.heap.size, 0, #[], rfl, Nat.le_refl _, heap_alloc_new w _, Nat.le_refl _, by simp [maxLen], rfl, rfl⟩⟩, (Below.refl _ _).alloc (Nat.le_refl _) _⟩
      case round =>
        obtain ⟨k2, rfl, hk2, hown, hbel⟩ := hrel
        have hB : w.heap.size ≤ wr.heap.size := hbel.size
        by_cases hlt2 : k2 < ss.length
        · obtain ⟨r, hr⟩ : ∃ r : ByteArray, ss[k2]? = some r.data.toList := ⟨⟨ss[k2].toArray⟩, List.getElem?_eq_getElem hlt2⟩
          have HR := Lib.hid hr
          obtain ⟨b, off, cap', hsl, hcell⟩ := (HV.out.below hbel).strb hr
          cases hsl
          have h255 : r.size ≤ 255 := by have := HF.out k2 (by omega) _ hr; simpa using this
          have hl10 := uintL_length10 (n := r.size) (by omega)
          have hsum : (frameL (ss.take k2)).length + (uintL r.size).length + r.size ≤ 70368744177664 := by
            have h1 := frameL_take_le ss (k2 + 1)
            have h2 := HLN.out
            rw [frameL_at HR.out] at h1
            simp only [List.length_append, Array.length_toList, ByteArray.size_data] at h1
            omega
          have HR2 : Hid (frameL (ss.take (k2 + 1)) = frameL (ss.take k2) ++ uintL r.size ++ r.data.toList) := by
            have := frameL_at hr
            rw [Array.length_toList, ByteArray.size_data] at this
            show _ = _
            rw [this, List.append_assoc]
          clear hr
          (repeat' (first | (go_big_may; fail) | go_values | go_skip | go_guarded | go_step | go_upon | go_back | dsimp only))
          refine (refUint_calls r.size (by omega) _).mono ?_
          rintro e w1 ⟨rfl, hb1⟩
          have hown1 := ownsRow_below hown hb1
          have hbel1 := hbel.trans (hb1.mono hB)
          clear hcell hown hbel hB
          obtain ⟨hd, hhd⟩ : ∃ hd : ByteArray, hd = ⟨(uintL r.size).toArray⟩ := ⟨_, rfl⟩
          have hdl : hd.data.toList = uintL r.size := by rw [hhd]
          have hds : hd.size ≤ 10 := by rw [← ByteArray.size_data, ← Array.length_toList, hdl]; exact hl10
          rw [← hhd]
          have HD := Lib.hid hdl
          clear hhd hdl
          (repeat' (first | (go_big_may; fail) | go_values | go_skip | go_guarded | go_step | go_upon | go_back | dsimp only))
          go_loopw [4, 8] (fun x j w2 => ∃ jj : Nat, j = .int .i64 jj ∧ CopyAt w (frameL (ss.take k2)) hd x jj w2) (fun _ j _ => hd.size - (intOf j).toNat)
          case atStart => exact ⟨0, rfl, Nat.zero_le _, by simpa using hown1, hbel1⟩
          case round =>
            obtain ⟨j, rfl, hcp⟩ := hrel
            have hj := hcp.1
            have hB := hcp.2.2.size
            have hown2 := hcp.2.1
            by_cases hlt3 : j < hd.size
            · have hi1 : (0 : Int) ≤ j := by omega
              have hi2 : (j : Int) < hd.size := by omega
              have HC := Lib.hid hcp
              clear hcp
              (repeat' (first | (go_big_may; (at_builtin; go_must (refine wpList_append_byte rfl _ _ 93 5 rfl Tryz.underlying93 info_u8 rfl hown2 (hd[j]) (rfl) rfl (by omega) (by omega) ?_); intro v3 w3 hown3 hgrow3)) | go_values | go_skip | go_guarded | go_step | go_upon | go_back | dsimp only))
              go_roundw
              case rel => exact ⟨j + 1, by go_num, HC.out.next hlt3 hB hown3 hgrow3⟩
              case measure => simp [intOf] <;> omega
            · have hcp2 := CopyAt.start (w0 := w) r (hcp.whole hlt3 (l := frameL (ss.take k2) ++ uintL r.size) (by rw [HD.out])) hcp.2.2
              clear hcp hown2
              (repeat' (first | (go_big_may; fail) | go_values | go_skip | go_guarded | go_step | go_upon | go_back | dsimp only))
              go_loopw [4, 9] (fun x j w2 => ∃ jj : Nat, j = .int .i64 jj ∧ CopyAt w (frameL (ss.take k2) ++ uintL r.size) r x jj w2) (fun _ j _ => r.size - (intOf j).toNat)
              case atStart => exact ⟨0, rfl, hcp2⟩
              case round =>
                obtain ⟨j2, rfl, hcp⟩ := hrel
                have hj := hcp.1
                have hB := hcp.2.2.size
                have hown2 := hcp.2.1
                obtain ⟨b', off', cap', hsl, hcell⟩ := (HV.out.below hcp.2.2).strb HR.out
                cases hsl
                by_cases hlt4 : j2 < r.size
                · have hi1 : (0 : Int) ≤ j2 := by omega
                  have hi2 : (j2 : Int) < r.size := by omega
                  have hll : (frameL (ss.take k2) ++ uintL r.size).length ≤ (frameL (ss.take k2)).length + (uintL r.size).length := by simp
                  have HC := Lib.hid hcp
                  clear hcp
                  (repeat' (first | (go_big_may; (at_builtin; go_must (refine wpList_append_byte rfl _ _ 93 5 rfl Tryz.underlying93 info_u8 rfl hown2 (r[j2]) (rfl) rfl (by omega) (by omega) ?_); intro v3 w3 hown3 hgrow3)) | go_values | go_skip | go_guarded | go_step | go_upon | go_back | dsimp only))
                  go_roundw
                  case rel => exact ⟨j2 + 1, by go_num, HC.out.next hlt4 hB hown3 hgrow3⟩
                  case measure => simp [intOf] <;> omega
                · have hw := hcp.whole hlt4 HR2.out
                  have HC := Lib.hid hcp
                  clear hcp hown2
                  (repeat' (first | (go_big_may; fail) | go_values | go_skip | go_guarded | go_step | go_upon | go_back | dsimp only))
                  go_roundw
                  case rel => exact ⟨k2 + 1, by go_num, by omega, hw, HC.out.2.2⟩
                  case measure => simp [intOf] <;> omega
        · (repeat' (first | (go_big_may; (with_reducible (show wpList _ _ _ ({ dst := _, op := Op.convert 93 9 _, type := _, pos := _, after := _, guard := _ } :: _) _ _); refine wpList_string_own rfl 93 9 5 _ rfl Tryz.underlying93 Tryz.underlying5 Tryz.underlying9 _ _ _ rfl hown ?_)) | go_values | go_skip | go_guarded | go_step | go_upon | go_back | dsimp only))
          go_ret2
          have hkl : k2 = ss.length := by omega
          refine ⟨?_, hbel⟩
          have e : frameR ss = (frameL ss, 0) := by unfold frameR; rw [HA.out]; rfl
          rw [e, hkl, List.take_length]; rfl

end Go.Proofs.YtgeabmmicofanaaGreatDoor

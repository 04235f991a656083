/- StreamsSorts walked. -/
import Derived.Test.YtbmfaffnbjmipaaStLaw
import Derived.Test.YtbmfaffnbjmipaaOpen
namespace Go.Proofs.Ytbmfaffnbjmipaa
open Go.RowKit

theorem mem_take_succ {L : List (List UInt8)} {k : Nat} {x y : List UInt8} (h : L[k]? = some y) : decide (x ∈ L.take (k + 1)) = (decide (x ∈ L.take k) || (y == x)) := by
  rw [List.take_add_one, h]
  by_cases e : y = x
  · subst e; simp
  · have : ¬ x = y := fun e' => e e'.symm
    simp [e, this]
set_option maxRecDepth 100000 in
set_option maxHeartbeats 3200000 in
theorem streamsSorts_walk (W : World) (ss : List (List UInt8)) (v : Value) (rd : RdRow W v ss.length 1 (strs ss)) (hm : ss.length + sumLen ss ≤ 1048576) :
    Calls Try.prog 4 #[v] W fun e w' => e = .returned (.bool true) ∧ Below W.heap.size W w' := by
  obtain ⟨a, cap, rfl, hc1, hc2⟩ := rd.shape
  unfold maxLen at hc2
  have hWk := wakes8_calls W
  have RD := Lib.hid rd
  clear rd
  go_enter Try.func4, Try.ntmps4
  (repeat' (first | (go_big_may; fail) | go_values | go_skip | go_guarded | go_step | go_upon | go_back | dsimp only))
  refine hWk.mono ?_
  rintro e w1 ⟨rfl, hb1⟩
  have ht := twin8_calls ss _ w1 (RD.out.below hb1) (by omega)
  have h1 := At.nought hb1
  have HT := Lib.hid ht
  have H1 := Lib.hid h1
  clear ht h1 hb1 hWk
  (repeat' (first | (go_big_may; fail) | go_values | go_skip | go_guarded | go_step | go_upon | go_back | dsimp only))
  refine HT.out.mono ?_
  rintro e w2 ⟨v2, rfl, ho2, hb2⟩
  have h2 := H1.out.newRowG Stable.nought hb2 ho2
  have HO := Lib.hid (SOf_at h2 ((RowG.stable _ _ _ _ _).both Stable.nought) (RdRow.of_own h2.rowG) (by omega))
  clear h2 ho2 hb2 HT H1
  (repeat' (first | (go_big_may; fail) | go_values | go_skip | go_guarded | go_step | go_upon | go_back | dsimp only))
  refine HO.out.mono ?_
  rintro e w3 ⟨Φ, u, hΦ, rfl, hs, h3⟩
  have hL : RisesL (ofL ss) := ofL_rises ss
  have hlen : (ofL ss).length ≤ ss.length := ofL_len ss
  have hmem := ofL_mem ss
  generalize ofL ss = L at *
  have hR1 := (CellT.stable w3.heap.size #[u] tStr).both ((RowG.stable tTx 1 v2 ss.length (strs ss)).both Stable.nought)
  obtain ⟨hst, h4⟩ := h3.keepStr hΦ ((RowG.stable _ _ _ _ _).both Stable.nought) hs.one
  have HLs := Lib.hid (List_all hs hΦ hR1 h4 (by omega) (m := 1099511627776) (by omega) (by omega))
  have HS := Lib.hid hs
  have HM := Lib.hid hmem
  have HLR := Lib.hid hL
  have c4 := (h4.drop.cellF (o := 0) (u := u) rfl).1
  clear h4 h3 HO hs hmem hL
  (repeat' (first | (go_big_may; fail) | go_values | go_skip | go_guarded | go_step | go_upon | go_back | dsimp only))
  refine HLs.out.mono ?_
  rintro e w5 ⟨g, rfl, h5⟩
  obtain ⟨ga, gc, rfl, _, hgc⟩ := own_shape h5.rowG
  unfold maxLen at hgc
  have HG := Lib.hid (RdRow.of_own h5.rowG)
  have H5 := Lib.hid h5.drop
  have HB5 := Lib.hid h5.below
  generalize w3.heap.size = kb at *
  have RD5 := Lib.hid (RD.out.below h5.below)
  have RD0 := RD
  clear h5 HLs RD
  (repeat' (first | (go_big_may; fail) | go_values | go_skip | go_guarded | go_step | go_upon | go_back | dsimp only))
  go_loopw [21] (fun i wr => ∃ k : Nat, i = .int .i64 k ∧ k ≤ L.length ∧ Below w5.heap.size w5 wr) (fun i _ => L.length - (intOf i).toNat)
  case atStart => exact ⟨0, rfl, Nat.zero_le _, Below.refl _ _⟩
  case round =>
    obtain ⟨k, rfl, hk, hbel⟩ := hrel
    by_cases hlt : k < L.length
    · obtain ⟨x, hx⟩ : ∃ x, L[k]? = some x := ⟨_, List.getElem?_eq_getElem hlt⟩
      obtain ⟨b, off, cp, hsl, hcell⟩ := (HG.out.below hbel).str hx
      cases hsl
      have hi0 : (0 : Int) ≤ k := by omega
      have hi1 : (k : Int) < L.length := by omega
      have HX := Lib.hid hx
      clear hx
      rcases Nat.eq_zero_or_pos k with hz | hz
      · have hz1 : ¬ (0 : Int) < k := by omega
        clear hz
        (repeat' (first | (go_big_may; fail) | go_values | go_skip | go_guarded | go_step | go_upon | go_back | dsimp only))
        go_loopw [7, 39] (fun fd j wr2 => ∃ (m : Nat) (bb : Bool), j = .int .i64 m ∧ fd = .bool bb ∧ m ≤ ss.length ∧ bb = decide (x ∈ ss.take m) ∧ Below w5.heap.size w5 wr2) (fun _ j _ => ss.length - (intOf j).toNat)
        case atStart => exact ⟨0, false, rfl, rfl, Nat.zero_le _, by simp, hbel⟩
        case round =>
          obtain ⟨m, bb, rfl, rfl, hm2, hbb, hbel2⟩ := hrel
          by_cases hlt2 : m < ss.length
          · obtain ⟨y2, hy2⟩ : ∃ y, ss[m]? = some y := ⟨_, List.getElem?_eq_getElem hlt2⟩
            obtain ⟨b2, off2, cp2, hsl2, hcell2⟩ := (RD5.out.below hbel2).str hy2
            cases hsl2
            have hj0 : (0 : Int) ≤ m := by omega
            have hj1 : (m : Int) < ss.length := by omega
            have hstep := mem_take_succ (x := x) hy2
            rw [← hbb] at hstep
            have HST := Lib.hid hstep
            have HBL := Lib.hid hbel2
            clear hstep hbb hbel2 hy2
            cases bb
            · (repeat' (first | (go_big_may; fail) | go_values | go_skip | go_guarded | go_step | go_upon | go_back | dsimp only))
              go_roundw
              case rel => exact ⟨m + 1, _, by go_num, rfl, by omega, by rw [HST.out]; rfl, HBL.out⟩
              case measure => simp [intOf] <;> omega
            · (repeat' (first | (go_big_may; fail) | go_values | go_skip | go_guarded | go_step | go_upon | go_back | dsimp only))
              go_roundw
              case rel => exact ⟨m + 1, _, by go_num, rfl, by omega, by rw [HST.out]; rfl, HBL.out⟩
              case measure => simp [intOf] <;> omega
          · have hall : bb = true := by
              rw [hbb, List.take_of_length_le (by omega)]
              simpa using (HM.out x).1 (List.mem_of_getElem? HX.out)
            subst hall
            have HBL := Lib.hid hbel2
            clear hbb hbel2
            (repeat' (first | (go_big_may; fail) | go_values | go_skip | go_guarded | go_step | go_upon | go_back | dsimp only))
            go_roundw
            case rel => exact ⟨k + 1, by go_num, by omega, HBL.out⟩
            case measure => simp [intOf] <;> omega
      · obtain ⟨y, hy⟩ : ∃ y, L[k - 1]? = some y := ⟨_, List.getElem?_eq_getElem (by omega)⟩
        obtain ⟨b', off', cp', hsl', hcell'⟩ := (HG.out.below hbel).str hy
        cases hsl'
        have hyx := rises_get HLR.out (show k - 1 < k by omega) hy HX.out
        have hlt1 : Op.bytesLess y x = true := hyx
        have hk0 : (0 : Int) < k := by omega
        have hw1 : IntKind.i64.wrap ((k : Int) - 1) = ((k - 1 : Nat) : Int) := by rw [IntKind.wrap_i64]; omega
        have hp0 : (0 : Int) ≤ ((k - 1 : Nat) : Int) := by omega
        have hp1 : ((k - 1 : Nat) : Int) < L.length := by omega
        clear hy hyx
        generalize k - 1 = p at *
        (repeat' (first | (go_big_may; fail) | go_values | go_skip | go_guarded | go_step | go_upon | go_back | dsimp only))
        go_loopw [7, 39] (fun fd j wr2 => ∃ (m : Nat) (bb : Bool), j = .int .i64 m ∧ fd = .bool bb ∧ m ≤ ss.length ∧ bb = decide (x ∈ ss.take m) ∧ Below w5.heap.size w5 wr2) (fun _ j _ => ss.length - (intOf j).toNat)
        case atStart => exact ⟨0, false, rfl, rfl, Nat.zero_le _, by simp, hbel⟩
        case round =>
          obtain ⟨m, bb, rfl, rfl, hm2, hbb, hbel2⟩ := hrel
          by_cases hlt2 : m < ss.length
          · obtain ⟨y2, hy2⟩ : ∃ y, ss[m]? = some y := ⟨_, List.getElem?_eq_getElem hlt2⟩
            obtain ⟨b2, off2, cp2, hsl2, hcell2⟩ := (RD5.out.below hbel2).str hy2
            cases hsl2
            have hj0 : (0 : Int) ≤ m := by omega
            have hj1 : (m : Int) < ss.length := by omega
            have hstep := mem_take_succ (x := x) hy2
            rw [← hbb] at hstep
            have HST := Lib.hid hstep
            have HBL := Lib.hid hbel2
            clear hstep hbb hbel2 hy2
            cases bb
            · (repeat' (first | (go_big_may; fail) | go_values | go_skip | go_guarded | go_step | go_upon | go_back | dsimp only))
              go_roundw
              case rel => exact ⟨m + 1, _, by go_num, rfl, by omega, by rw [HST.out]; rfl, HBL.out⟩
              case measure => simp [intOf] <;> omega
            · (repeat' (first | (go_big_may; fail) | go_values | go_skip | go_guarded | go_step | go_upon | go_back | dsimp only))
              go_roundw
              case rel => exact ⟨m + 1, _, by go_num, rfl, by omega, by rw [HST.out]; rfl, HBL.out⟩
              case measure => simp [intOf] <;> omega
          · have hall : bb = true := by
              rw [hbb, List.take_of_length_le (by omega)]
              simpa using (HM.out x).1 (List.mem_of_getElem? HX.out)
            subst hall
            have HBL := Lib.hid hbel2
            clear hbb hbel2
            (repeat' (first | (go_big_may; fail) | go_values | go_skip | go_guarded | go_step | go_upon | go_back | dsimp only))
            go_roundw
            case rel => exact ⟨k + 1, by go_num, by omega, HBL.out⟩
            case measure => simp [intOf] <;> omega
    · have h6 := H5.out.mono (hΦ.both hR1) hbel
      have HH := Lib.hid h6
      have hbw := hbel
      clear h6
      (repeat' (first | (go_big_may; fail) | go_values | go_skip | go_guarded | go_step | go_upon | go_back | dsimp only))
      go_loopw [55] (fun j wr2 => ∃ m : Nat, j = .int .i64 m ∧ m ≤ ss.length ∧ At W wr2 (Both Φ (Both (CellT kb #[u] tStr) (Both (RowG tTx 1 v2 ss.length (strs ss)) Nought)))) (fun j _ => ss.length - (intOf j).toNat)
      case atStart => exact ⟨0, rfl, Nat.zero_le _, HH.out⟩
      case round =>
        obtain ⟨m, rfl, hm2, h7⟩ := hrel
        by_cases hlt2 : m < ss.length
        · obtain ⟨y2, hy2⟩ : ∃ y, ss[m]? = some y := ⟨_, List.getElem?_eq_getElem hlt2⟩
          obtain ⟨b2, off2, cp2, hsl2, hcell2⟩ := (RD0.out.below h7.below).str hy2
          cases hsl2
          have hj0 : (0 : Int) ≤ m := by omega
          have hj1 : (m : Int) < ss.length := by omega
          have c7 := (h7.drop.cellF (o := 0) (u := u) rfl).1
          have hh := Has_at HS.out hΦ hR1 h7 HLR.out y2
          rw [decide_eq_true ((HM.out y2).2 (List.mem_of_getElem? hy2))] at hh
          have HHas := Lib.hid hh
          clear hh h7 hy2
          (repeat' (first | (go_big_may; fail) | go_values | go_skip | go_guarded | go_step | go_upon | go_back | dsimp only))
          refine HHas.out.mono ?_
          rintro e w8 ⟨rfl, h8⟩
          have H8 := Lib.hid h8
          clear h8
          (repeat' (first | (go_big_may; fail) | go_values | go_skip | go_guarded | go_step | go_upon | go_back | dsimp only))
          go_roundw
          case rel => exact ⟨m + 1, by go_num, by omega, H8.out⟩
          case measure => simp [intOf] <;> omega
        · have HB := Lib.hid h7.below
          clear h7
          have hle : ((L.length : Int) ≤ ss.length) := by omega
          (repeat' (first | (go_big_may; fail) | go_values | go_skip | go_guarded | go_step | go_upon | go_back | dsimp only))
          go_ret
          exact ⟨by simp, HB.out⟩
end Go.Proofs.Ytbmfaffnbjmipaa

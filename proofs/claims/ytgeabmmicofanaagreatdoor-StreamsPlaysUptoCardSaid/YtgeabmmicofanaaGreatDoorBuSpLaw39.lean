/- hornbookref08.Minus, Common, From walked. -/
import Derived.Test.YtgeabmmicofanaaGreatDoorBuSpLaw38
import Derived.Test.YtgeabmmicofanaaGreatDoorBuSpLaw28
set_option linter.unusedSimpArgs false
set_option linter.unusedVariables false
namespace Go.Proofs.YtgeabmmicofanaaGreatDoor
open Go.RowKit

theorem strs_more3 {W w : World} {v : Value} {zs : List (List UInt8)} {x : ByteArray} {R : Thing} (h : At W w (Both (RowG tTx 1 v (zs.length + 1) (strs zs ++ (#[.string x] : Array Value).toList)) R)) : At W w (Both (RowG tTx 1 v (zs ++ [x.data.toList]).length (strs (zs ++ [x.data.toList]))) R) := by
  have e1 : (zs ++ [x.data.toList]).length = zs.length + 1 := by simp
  have e2 : strs (zs ++ [x.data.toList]) = strs zs ++ (#[.string x] : Array Value).toList := by simp [strs]
  rw [e1, e2]
  exact h
set_option maxRecDepth 100000 in
set_option maxHeartbeats 1600000 in
theorem minus_take {la lb : List (List UInt8)} {i : Nat} {x : List UInt8} (hx : la[i]? = some x) : minusL (la.take (i + 1)) lb = minusL (la.take i) lb ++ if x ∈ lb then [] else [x] := by
  unfold minusL
  rw [List.take_add_one, hx, List.filter_append]
  by_cases h : x ∈ lb <;> simp [h]
set_option maxRecDepth 100000 in
set_option maxHeartbeats 1600000 in
theorem RMinus_calls {w : World} {la lb : List (List UInt8)} {va vb : Value} (ha : RdRow w va la.length 1 (strs la)) (hb : RdRow w vb lb.length 1 (strs lb)) (hr : RisesL lb) (hn : la.length ≤ 1099511627776) (hnb : lb.length ≤ 1099511627776) :
    Calls Tryz.prog 15 #[va, vb] w fun e w' => ∃ vo, e = .returned vo ∧ At w w' (Both (RowG tSt 1 vo (minusL la lb).length (strs (minusL la lb))) Nought) := by
  have HH := Lib.hid (fun (w1 : World) (h : Below w.heap.size w w1) (z : List UInt8) => RHas_calls hr (hb.below h) hnb z)
  obtain ⟨aa, ac, rfl, _, hac⟩ := ha.shape
  obtain ⟨ba, bc, rfl, _, _⟩ := hb.shape
  unfold maxLen at hac
  have HA := Lib.hid ha
  clear ha hb hr
  go_enter Tryz.func15, Tryz.ntmps15
  (repeat' (first | (go_big_may; fail) | go_values | go_skip | go_guarded | go_step | go_upon | go_back | dsimp only))
  go_loopw [5, 6] (fun vo vi wr => ∃ i : Nat, vi = .int .i64 i ∧ i ≤ la.length ∧ At w wr (Both (RowG tSt 1 vo (minusL (la.take i) lb).length (strs (minusL (la.take i) lb))) Nought)) (fun _ vi _ => la.length - (intOf vi).toNat)
  case atStart => exact ⟨0, rfl, Nat.zero_le _, (At.nought (Below.refl _ _)).noRowG Stable.nought tSt 1⟩
  case round =>
    obtain ⟨i, rfl, hi, h⟩ := hrel
    by_cases hlt : i < la.length
    · obtain ⟨x, hx⟩ : ∃ x : ByteArray, la[i]? = some x.data.toList := ⟨⟨la[i].toArray⟩, List.getElem?_eq_getElem hlt⟩
      obtain ⟨g, off, cp, hsl, hcx⟩ := (HA.out.below h.below).strb hx
      cases hsl
      have hmt := minus_take (lb := lb) hx
      have hhas := HH.out wr h.below x.data.toList
      have hln : (minusL (la.take i) lb).length ≤ 1099511627776 := by
        have h1 : (minusL (la.take i) lb).length ≤ (la.take i).length := List.length_filter_le _ _
        simp at h1; omega
      have hiI : (i : Int) < (la.length : Int) := by omega
      obtain ⟨U, hU⟩ : ∃ U, minusL (la.take i) lb = U := ⟨_, rfl⟩
      rw [hU] at h hmt hln
      by_cases hm : x.data.toList ∈ lb
      · rw [decide_eq_true hm] at hhas
        rw [if_pos hm, List.append_nil] at hmt
        have HHAS := Lib.hid hhas
        have HMT := Lib.hid hmt
        have H := Lib.hid h
        clear h hx hhas hmt hU hm
        (repeat' (first | (go_big_may; fail) | go_values | go_skip | go_guarded | go_step | go_upon | go_back | dsimp only))
        refine HHAS.out.mono ?_
        rintro e1 w1 ⟨rfl, rfl⟩
        (repeat' (first | (go_big_may; fail) | go_values | go_skip | go_guarded | go_step | go_upon | go_back | dsimp only))
        go_roundw
        case rel => exact ⟨i + 1, by go_num, by omega, by rw [HMT.out]; exact H.out⟩
        case measure => simp [intOf] <;> omega
      · rw [decide_eq_false hm] at hhas
        rw [if_neg hm] at hmt
        have HHAS := Lib.hid hhas
        have HMT := Lib.hid hmt
        have H := Lib.hid h
        clear h hx hhas hmt hU hm
        (repeat' (first | (go_big_may; fail) | go_values | go_skip | go_guarded | go_step | go_upon | go_back | dsimp only))
        refine HHAS.out.mono ?_
        rintro e1 w1 ⟨rfl, rfl⟩
        (repeat' (first | (go_big_may; ((at_builtin; go_must (refine wpList_append_to rfl _ _ 32 tSt rfl Tryz.underlying32 info_St8 rfl (by decide) rfl (H.out) (Stable.nought) rfl (by first | rfl | simp) rfl (one_str _) (by unfold maxLen; omega) (by omega) ?_); intro a5 c5 w5 h5 _); have H5 := Lib.hid h5; clear h5)) | go_values | go_skip | go_guarded | go_step | go_upon | go_back | dsimp only))
        go_roundw
        case rel => exact ⟨i + 1, by go_num, by omega, by rw [HMT.out]; exact strs_more3 H5.out⟩
        case measure => simp [intOf] <;> omega
    · obtain rfl : i = la.length := by omega
      have hiI : ¬ (la.length : Int) < (la.length : Int) := by omega
      rw [List.take_length] at h
      have H := Lib.hid h
      clear h
      (repeat' (first | (go_big_may; fail) | go_values | go_skip | go_guarded | go_step | go_upon | go_back | dsimp only))
      go_ret
      exact ⟨_, rfl, H.out⟩
theorem common_take {la lb : List (List UInt8)} {i : Nat} {x : List UInt8} (hx : la[i]? = some x) : commonW (la.take (i + 1)) lb = commonW (la.take i) lb ++ if x ∈ lb then [x] else [] := by
  unfold commonW
  rw [List.take_add_one, hx, List.filter_append]
  by_cases h : x ∈ lb <;> simp [h]
set_option maxRecDepth 100000 in
set_option maxHeartbeats 1600000 in
theorem RCommon_calls {w : World} {la lb : List (List UInt8)} {va vb : Value} (ha : RdRow w va la.length 1 (strs la)) (hb : RdRow w vb lb.length 1 (strs lb)) (hr : RisesL lb) (hn : la.length ≤ 1099511627776) (hnb : lb.length ≤ 1099511627776) :
    Calls Tryz.prog 17 #[va, vb] w fun e w' => ∃ vo, e = .returned vo ∧ At w w' (Both (RowG tSt 1 vo (commonW la lb).length (strs (commonW la lb))) Nought) := by
  have HH := Lib.hid (fun (w1 : World) (h : Below w.heap.size w w1) (z : List UInt8) => RHas_calls hr (hb.below h) hnb z)
  obtain ⟨aa, ac, rfl, _, hac⟩ := ha.shape
  obtain ⟨ba, bc, rfl, _, _⟩ := hb.shape
  unfold maxLen at hac
  have HA := Lib.hid ha
  clear ha hb hr
  go_enter Tryz.func17, Tryz.ntmps17
  (repeat' (first | (go_big_may; fail) | go_values | go_skip | go_guarded | go_step | go_upon | go_back | dsimp only))
  go_loopw [5, 6] (fun vo vi wr => ∃ i : Nat, vi = .int .i64 i ∧ i ≤ la.length ∧ At w wr (Both (RowG tSt 1 vo (commonW (la.take i) lb).length (strs (commonW (la.take i) lb))) Nought)) (fun _ vi _ => la.length - (intOf vi).toNat)
  case atStart => exact ⟨0, rfl, Nat.zero_le _, (At.nought (Below.refl _ _)).noRowG Stable.nought tSt 1⟩
  case round =>
    obtain ⟨i, rfl, hi, h⟩ := hrel
    by_cases hlt : i < la.length
    · obtain ⟨x, hx⟩ : ∃ x : ByteArray, la[i]? = some x.data.toList := ⟨⟨la[i].toArray⟩, List.getElem?_eq_getElem hlt⟩
      obtain ⟨g, off, cp, hsl, hcx⟩ := (HA.out.below h.below).strb hx
      cases hsl
      have hmt := common_take (lb := lb) hx
      have hhas := HH.out wr h.below x.data.toList
      have hln : (commonW (la.take i) lb).length ≤ 1099511627776 := by
        have h1 : (commonW (la.take i) lb).length ≤ (la.take i).length := List.length_filter_le _ _
        simp at h1; omega
      have hiI : (i : Int) < (la.length : Int) := by omega
      obtain ⟨U, hU⟩ : ∃ U, commonW (la.take i) lb = U := ⟨_, rfl⟩
      rw [hU] at h hmt hln
      by_cases hm : x.data.toList ∈ lb
      · rw [decide_eq_true hm] at hhas
        rw [if_pos hm] at hmt
        have HHAS := Lib.hid hhas
        have HMT := Lib.hid hmt
        have H := Lib.hid h
        clear h hx hhas hmt hU hm
        (repeat' (first | (go_big_may; fail) | go_values | go_skip | go_guarded | go_step | go_upon | go_back | dsimp only))
        refine HHAS.out.mono ?_
        rintro e1 w1 ⟨rfl, rfl⟩
        (repeat' (first | (go_big_may; ((at_builtin; go_must (refine wpList_append_to rfl _ _ 32 tSt rfl Tryz.underlying32 info_St8 rfl (by decide) rfl (H.out) (Stable.nought) rfl (by first | rfl | simp) rfl (one_str _) (by unfold maxLen; omega) (by omega) ?_); intro a5 c5 w5 h5 _); have H5 := Lib.hid h5; clear h5)) | go_values | go_skip | go_guarded | go_step | go_upon | go_back | dsimp only))
        go_roundw
        case rel => exact ⟨i + 1, by go_num, by omega, by rw [HMT.out]; exact strs_more3 H5.out⟩
        case measure => simp [intOf] <;> omega
      · rw [decide_eq_false hm] at hhas
        rw [if_neg hm, List.append_nil] at hmt
        have HHAS := Lib.hid hhas
        have HMT := Lib.hid hmt
        have H := Lib.hid h
        clear h hx hhas hmt hU hm
        (repeat' (first | (go_big_may; fail) | go_values | go_skip | go_guarded | go_step | go_upon | go_back | dsimp only))
        refine HHAS.out.mono ?_
        rintro e1 w1 ⟨rfl, rfl⟩
        (repeat' (first | (go_big_may; fail) | go_values | go_skip | go_guarded | go_step | go_upon | go_back | dsimp only))
        go_roundw
        case rel => exact ⟨i + 1, by go_num, by omega, by rw [HMT.out]; exact H.out⟩
        case measure => simp [intOf] <;> omega
    · obtain rfl : i = la.length := by omega
      have hiI : ¬ (la.length : Int) < (la.length : Int) := by omega
      rw [List.take_length] at h
      have H := Lib.hid h
      clear h
      (repeat' (first | (go_big_may; fail) | go_values | go_skip | go_guarded | go_step | go_upon | go_back | dsimp only))
      go_ret
      exact ⟨_, rfl, H.out⟩
theorem nb_eq {z : List UInt8} : ∀ {L : List (List UInt8)}, RisesL L → notBelow z L = fromL L z
  | [], _ => rfl
  | x :: L, h => by
    unfold notBelow fromL belowL
    cases hb : Op.bytesLess x z with
    | true =>
      rw [List.filter_cons_of_neg (by simp [hb]), List.takeWhile_cons_of_pos (by simpa using hb), List.length_cons, List.drop_succ_cons]
      exact nb_eq (List.pairwise_cons.1 h).2
    | false =>
      rw [List.takeWhile_cons_of_neg (by simp [hb]), List.length_nil, List.drop_zero, List.filter_eq_self]
      intro y hy
      rcases List.mem_cons.1 hy with rfl | hy
      · simp [hb]
      · cases hyz : Op.bytesLess y z with
        | false => rfl
        | true => have := bl_trans ((List.pairwise_cons.1 h).1 y hy) hyz; rw [hb] at this; cases this
set_option maxRecDepth 100000 in
set_option maxHeartbeats 1600000 in
theorem RFrom_calls {w : World} {L : List (List UInt8)} {v : Value} (hr : RisesL L) (hv : RdRow w v L.length 1 (strs L)) (hn : L.length ≤ 1099511627776) (z : List UInt8) :
    Calls Tryz.prog 20 #[v, .string ⟨z.toArray⟩] w fun e w' => ∃ vo, e = .returned vo ∧ w' = w ∧ (∀ w1, RdRow w1 v L.length 1 (strs L) → RdRow w1 vo (fromL L z).length 1 (strs (fromL L z))) := by
  have HH := Lib.hid (halve_calls hr hv hn z)
  obtain ⟨a, c, rfl, hc1, hc⟩ := hv.shape
  unfold maxLen at hc
  have hble := belowL_le L z
  have HV := Lib.hid hv
  have hk0 : (0 : Int) ≤ belowL L z := by omega
  have hk1 : (belowL L z : Int) ≤ L.length := by omega
  clear hv hr
  unfold fromL
  generalize belowL L z = k at *
  go_enter Tryz.func20, Tryz.ntmps20
  (repeat' (first | (go_big_may; fail) | go_values | go_skip | go_guarded | go_step | go_upon | go_back | dsimp only))
  refine HH.out.mono ?_
  rintro e w' ⟨rfl, rfl⟩
  (repeat' (first | (go_big_may; fail) | go_values | go_skip | go_guarded | go_step | go_upon | go_back | dsimp only))
  go_ret
  refine ⟨_, rfl, rfl, fun w1 h1 => ?_⟩
  have e0 : (L.drop k).length = L.length - k := by simp
  rw [e0]
  show RdRow w1 (.slice (if c = k then a else Option.map (fun x => x.add k) a) (L.length - k) (c - k)) (L.length - k) 1 (strs (L.drop k))
  obtain ⟨h1l, a', c', e, hle, hmx, hcell⟩ := h1
  cases e
  refine ⟨by simp [strs], _, _, rfl, by omega, by omega, fun j u hj => ?_⟩
  have hj2 : (strs L)[k + j]? = some u := by
    rw [← strs_drop, List.getElem?_drop] at hj; exact hj
  obtain ⟨g, off, rfl, hc2⟩ := hcell (k + j) u hj2
  have hlt : k + j < L.length := by
    have := (List.getElem?_eq_some_iff.1 hj2).1; simpa [strs] using this
  rw [if_neg (by omega)]
  exact ⟨g, off + k, by simp [Addr.add], by rw [Nat.add_assoc]; exact hc2⟩
end Go.Proofs.YtgeabmmicofanaaGreatDoor

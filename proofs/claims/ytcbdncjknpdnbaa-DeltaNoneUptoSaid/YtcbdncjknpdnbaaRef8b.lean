/- hornbookref08.Of walked. · hornbookref08: Union, halve and Has walked. -/
import Derived.Test.YtcbdncjknpdnbaaRef8
namespace Go.Proofs.Ytcbdncjknpdnbaa
section
open Go.RowKit

theorem RdRow.front {w : World} {b off n cap size : Nat} {cs : List Value} (h : RdRow w (.slice (some ⟨b, off, none⟩) n cap) n size cs) {k : Nat} (hk : k ≤ n) : RdRow w (.slice (some ⟨b, off, none⟩) k cap) k size (cs.take (k * size)) := by
  obtain ⟨hl, a, cap', hv, h1, h2, h3⟩ := h
  cases hv
  have := Nat.mul_le_mul_right size hk
  refine ⟨by rw [List.length_take, hl]; omega, _, cap, rfl, by omega, h2, fun j u hu => ?_⟩
  rw [List.getElem?_take] at hu
  split at hu
  · exact h3 j u hu
  · cases hu
theorem RdRow.back {w : World} {b off n cap size : Nat} {cs : List Value} (h : RdRow w (.slice (some ⟨b, off, none⟩) n cap) n size cs) {k : Nat} (hk : k ≤ n) : RdRow w (.slice (some ⟨b, off + k * size, none⟩) (n - k) (cap - k)) (n - k) size (cs.drop (k * size)) := by
  obtain ⟨hl, a, cap', hv, h1, h2, h3⟩ := h
  cases hv
  refine ⟨by rw [List.length_drop, hl, Nat.sub_mul], _, cap - k, rfl, by omega, by omega, fun j u hu => ?_⟩
  rw [List.getElem?_drop] at hu
  obtain ⟨b', off', he, hc⟩ := h3 (k * size + j) u hu
  cases he
  exact ⟨b, off + k * size, rfl, by rw [Nat.add_assoc]; exact hc⟩
theorem strs_take (L : List (List UInt8)) (k : Nat) : (strs L).take k = strs (L.take k) := by simp [strs, List.map_take]
theorem strs_drop (L : List (List UInt8)) (k : Nat) : (strs L).drop k = strs (L.drop k) := by simp [strs, List.map_drop]
theorem At.rebase {W w w' : World} {Φ : Thing} (h : At w w' Φ) (hb : Below W.heap.size W w) : At W w' Φ := by
  obtain ⟨h0, fp, h1, h2⟩ := h
  exact ⟨hb.trans (h0.mono hb.size), fp, h1, fun k hk => Nat.le_trans hb.size (h2 k hk)⟩
end

section
open Go.RowKit

theorem RUnion_calls {w : World} {la lb : List (List UInt8)} {va vb : Value} (ha : RdRow w va la.length 1 (strs la)) (hb : RdRow w vb lb.length 1 (strs lb)) (hn : la.length + lb.length ≤ 1099511627776) :
    Calls Try.prog 29 #[va, vb] w fun e w' => ∃ vo, e = .returned vo ∧ At w w' (Both (RowG tSt 1 vo (mergeL la lb).length (strs (mergeL la lb))) Nought) := by
  have HM := Lib.hid (merge_calls ha hb hn)
  obtain ⟨aa, ac, rfl, _, _⟩ := ha.shape
  obtain ⟨ba, bc, rfl, _, _⟩ := hb.shape
  clear ha hb
  go_enter Try.func29, Try.ntmps29
  (repeat' (first | (go_big_may; fail) | go_values | go_skip | go_guarded | go_step | go_upon | go_back | dsimp only))
  refine HM.out.mono ?_
  rintro e w' ⟨vo, rfl, h⟩
  (repeat' (first | (go_big_may; fail) | go_values | go_skip | go_guarded | go_step | go_upon | go_back | dsimp only))
  go_ret
  exact ⟨_, rfl, h⟩
theorem At.glue {W w w' : World} {X R : Thing} (h : At W w R) (hR : Stable R) (h2 : At w w' (Both X Nought)) : At W w' (Both X R) := by
  obtain ⟨hb, fp, ⟨f, g, h3, h4, h5, h6⟩, h7⟩ := h2
  exact h.add hR hb h3 fun k hk => h7 k ((h6 k).2 (.inl hk))
set_option maxRecDepth 100000 in
set_option maxHeartbeats 800000 in
theorem halve_calls {w : World} {L : List (List UInt8)} {v : Value} (hr : RisesL L) (hv : RdRow w v L.length 1 (strs L)) (hn : L.length ≤ 1099511627776) (z : List UInt8) :
    Calls Try.prog 49 #[v, .string ⟨z.toArray⟩] w fun e w' => e = .returned (.int .i64 (belowL L z)) ∧ w' = w := by
  obtain ⟨a, c, rfl, _, hc⟩ := hv.shape
  unfold maxLen at hc
  have HV := Lib.hid hv
  have HR := Lib.hid hr
  have hble := belowL_le L z
  clear hv hr
  go_enter Try.func49, Try.ntmps49
  (repeat' (first | (go_big_may; fail) | go_values | go_skip | go_guarded | go_step | go_upon | go_back | dsimp only))
  go_loopw [5, 6] (fun vi vj wr => ∃ (i j : Nat), vi = .int .i64 i ∧ vj = .int .i64 j ∧ i ≤ belowL L z ∧ belowL L z ≤ j ∧ j ≤ L.length ∧ wr = w) (fun vi vj _ => (intOf vj).toNat - (intOf vi).toNat)
  case atStart => exact ⟨0, L.length, rfl, rfl, Nat.zero_le _, hble, Nat.le_refl _, rfl⟩
  case round =>
    obtain ⟨i, j, rfl, rfl, h1, h2, h3, rfl⟩ := hrel
    by_cases hlt : i < j
    · obtain ⟨m, hm⟩ : ∃ m : Nat, m = i + (j - i) / 2 := ⟨_, rfl⟩
      have hm1 : (i : Int) + ((j : Int) - i) / 2 = (m : Int) := by omega
      obtain ⟨x, hx⟩ : ∃ x, L[m]? = some x := ⟨_, List.getElem?_eq_getElem (by omega)⟩
      have hib := belowL_iff HR.out z m x hx
      obtain ⟨g, off, cp, hsl, hcx⟩ := RdRow.str HV.out hx
      cases hsl
      have hi0 : (0 : Int) ≤ m := by omega
      have hi1 : (m : Int) < L.length := by omega
      have HM := Lib.hid hm
      clear hx hm
      cases hb : Op.bytesLess x z with
      | true =>
        have hb1 := hib.2 hb
        clear hib
        (repeat' (first | (go_big_may; fail) | go_values | go_skip | go_guarded | go_step | go_upon | go_back | dsimp only))
        go_roundw
        case rel => exact ⟨m + 1, j, by go_num, rfl, hb1, h2, h3, trivial⟩
        case measure => have := HM.out; simp [intOf] <;> omega
      | false =>
        have hb1 : ¬ m < belowL L z := fun h => by have := hib.1 h; rw [LtW, hb] at this; cases this
        clear hib
        (repeat' (first | (go_big_may; fail) | go_values | go_skip | go_guarded | go_step | go_upon | go_back | dsimp only))
        go_roundw
        case rel => exact ⟨i, m, rfl, rfl, h1, by omega, by omega, trivial⟩
        case measure => have := HM.out; simp [intOf] <;> omega
    · obtain rfl : i = j := by omega
      obtain rfl : i = belowL L z := by omega
      (repeat' (first | (go_big_may; fail) | go_values | go_skip | go_guarded | go_step | go_upon | go_back | dsimp only))
      go_ret
      exact ⟨rfl, rfl⟩
theorem belowL_take {L : List (List UInt8)} (hr : RisesL L) (z : List UInt8) : ∀ y ∈ L.take (belowL L z), LtW y z := fun y hy => by
  obtain ⟨i, hi⟩ := List.mem_iff_getElem?.1 hy
  rw [List.getElem?_take] at hi
  split at hi
  · rename_i h; exact (belowL_iff hr z i y hi).1 h
  · cases hi
set_option maxRecDepth 100000 in
set_option maxHeartbeats 800000 in
theorem RHas_calls {w : World} {L : List (List UInt8)} {v : Value} (hr : RisesL L) (hv : RdRow w v L.length 1 (strs L)) (hn : L.length ≤ 1099511627776) (z : List UInt8) :
    Calls Try.prog 30 #[v, .string ⟨z.toArray⟩] w fun e w' => e = .returned (.bool (decide (z ∈ L))) ∧ w' = w := by
  have HH := Lib.hid (halve_calls hr hv hn z)
  obtain ⟨a, c, rfl, _, hc⟩ := hv.shape
  unfold maxLen at hc
  have hble := belowL_le L z
  by_cases hlt : belowL L z < L.length
  · obtain ⟨x, hx⟩ : ∃ x, L[belowL L z]? = some x := ⟨_, List.getElem?_eq_getElem hlt⟩
    have hnb : Op.bytesLess x z = false := by
      cases hb : Op.bytesLess x z with
      | false => rfl
      | true => have := (belowL_iff hr z _ x hx).2 hb; omega
    have hdec := mem_at hr (belowL_take hr z) hx hnb
    obtain ⟨g, off, cp, hsl, hcx⟩ := RdRow.str hv hx
    cases hsl
    rw [hdec]
    have hi0 : (0 : Int) ≤ belowL L z := by omega
    have hi1 : (belowL L z : Int) < L.length := by omega
    clear hv hr hx hnb hdec
    generalize belowL L z = i at *
    go_enter Try.func30, Try.ntmps30
    (repeat' (first | (go_big_may; fail) | go_values | go_skip | go_guarded | go_step | go_upon | go_back | dsimp only))
    refine HH.out.mono ?_
    rintro e w' ⟨rfl, rfl⟩
    (repeat' (first | (go_big_may; fail) | go_values | go_skip | go_guarded | go_step | go_upon | go_back | dsimp only))
    go_ret
    exact ⟨rfl, rfl⟩
  · have he : belowL L z = L.length := by omega
    have hdec : decide (z ∈ L) = false := mem_end fun y hy => belowL_take hr z y (by rw [he, List.take_of_length_le (Nat.le_refl _)]; exact hy)
    rw [hdec]
    have HE := Lib.hid he
    have hi1 : ¬ (belowL L z : Int) < L.length := by omega
    clear hv hr he hdec
    generalize belowL L z = i at *
    go_enter Try.func30, Try.ntmps30
    (repeat' (first | (go_big_may; fail) | go_values | go_skip | go_guarded | go_step | go_upon | go_back | dsimp only))
    refine HH.out.mono ?_
    rintro e w' ⟨rfl, rfl⟩
    (repeat' (first | (go_big_may; fail) | go_values | go_skip | go_guarded | go_step | go_upon | go_back | dsimp only))
    go_ret
    exact ⟨rfl, rfl⟩
end
end Go.Proofs.Ytcbdncjknpdnbaa

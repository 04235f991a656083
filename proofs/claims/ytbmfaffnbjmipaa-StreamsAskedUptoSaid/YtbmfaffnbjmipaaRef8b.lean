/- hornbookref08.Of walked. -/
import Derived.Test.YtbmfaffnbjmipaaRef8
namespace Go.Proofs.Ytbmfaffnbjmipaa
open Go.RowKit

theorem RdRow.front {w : World} {b off n cap size : Nat} {cs : List Value} (h : RdRow w (.slice (some ⟨b, off, none⟩) n cap) n size cs) {k : Nat} (hk : k ≤ n) : RdRow w (.slice (some ⟨b, off, none⟩) k cap) k size (cs.take (k * size)) := by
  obtain ⟨hl, a, cap', hv, h1, h2, h3⟩ := h
  cases hv
  have := Nat.mul_le_mul_right size hk
  refine ⟨by rw [List.length_take, hl]; omega, _, cap, rfl, by omega, h2, fun j u hu => ?_⟩
  rw [List.getElem?_take] at hu
  split at hu
  · exact h3 j u hu
  · cases hu
theorem RdRow.back {w : World} {b off n cap size : Nat} {cs : List Value} (h : RdRow w (.slice (some ⟨b, off, none⟩) n cap) n size cs) {k : Nat} (hk : k ≤ n) : RdRow w (.slice (some ⟨b, off + k * size, none⟩) (n - k) (cap - k)) (n - k) size (cs.drop (k * size)) := by
  obtain ⟨hl, a, cap', hv, h1, h2, h3⟩ := h
  cases hv
  refine ⟨by rw [List.length_drop, hl, Nat.sub_mul], _, cap - k, rfl, by omega, by omega, fun j u hu => ?_⟩
  rw [List.getElem?_drop] at hu
  obtain ⟨b', off', he, hc⟩ := h3 (k * size + j) u hu
  cases he
  exact ⟨b, off + k * size, rfl, by rw [Nat.add_assoc]; exact hc⟩
theorem strs_take (L : List (List UInt8)) (k : Nat) : (strs L).take k = strs (L.take k) := by simp [strs, List.map_take]
theorem strs_drop (L : List (List UInt8)) (k : Nat) : (strs L).drop k = strs (L.drop k) := by simp [strs, List.map_drop]
theorem At.rebase {W w w' : World} {Φ : Thing} (h : At w w' Φ) (hb : Below W.heap.size W w) : At W w' Φ := by
  obtain ⟨h0, fp, h1, h2⟩ := h
  exact ⟨hb.trans (h0.mono hb.size), fp, h1, fun k hk => Nat.le_trans hb.size (h2 k hk)⟩
set_option maxRecDepth 100000 in
set_option maxHeartbeats 3200000 in
theorem Of_at (n : Nat) : ∀ (w : World) (L : List (List UInt8)) (v : Value), L.length ≤ n → L.length ≤ 1099511627776 → RdRow w v L.length 1 (strs L) →
    Calls Try.prog 13 #[v] w fun e w' => ∃ vo, e = .returned vo ∧ At w w' (Both (RowG tSt 1 vo (ofL L).length (strs (ofL L))) Nought) := by
  induction n with
  | zero =>
    intro w L v h hb hr
    obtain rfl : L = [] := List.eq_nil_of_length_eq_zero (by omega)
    obtain ⟨a, c, hv, _, _⟩ := hr.shape
    simp only [List.length_nil] at hv
    subst hv
    rw [ofL_nil]
    have H0 := Lib.hid ((At.nought (Below.refl w.heap.size w)).noRowG Stable.nought tSt 1)
    clear hr
    go_enter Try.func13, Try.ntmps13
    (repeat' (first | (go_big_may; fail) | go_values | go_skip | go_guarded | go_step | go_upon | go_back | dsimp only))
    go_ret
    exact ⟨_, rfl, H0.out⟩
  | succ n ih =>
    intro w L v h hb hr
    obtain ⟨a, c, rfl, hc1, hc2⟩ := hr.shape
    unfold maxLen at hc2
    by_cases h0 : L.length = 0
    · exact ih w L _ (by omega) hb hr
    · by_cases h1 : L.length = 1
      · obtain ⟨x, rfl⟩ : ∃ x, L = [x] := by
          match L, h1 with
          | [x], _ => exact ⟨x, rfl⟩
        rw [ofL_one]
        obtain ⟨b, off, cap, hs, hcell⟩ := hr.str (k := 0) (r := x) rfl
        simp only [List.length_cons, List.length_nil, Nat.zero_add] at hs
        cases hs
        simp only [Nat.add_zero] at hcell
        have H1 := Lib.hid ((At.nought (Below.refl w.heap.size w)).newLits8 Stable.nought tSt 1 1 #[.string ⟨x.toArray⟩] rfl (by unfold maxLen; omega))
        clear hr ih
        go_enter Try.func13, Try.ntmps13
        (repeat' (first | (go_big_may; fail) | go_values | go_skip | go_guarded | go_step | go_upon | go_back | dsimp only))
        go_ret
        exact ⟨_, rfl, H1.out⟩
      · have h2 : 2 ≤ L.length := by omega
        obtain ⟨x0, hx0⟩ : ∃ x, L[0]? = some x := ⟨_, List.getElem?_eq_getElem (by omega)⟩
        obtain ⟨b, off, cap, hs, _⟩ := hr.str hx0
        cases hs
        have hr1 := hr.front (k := L.length / 2) (by omega)
        have hr2 := hr.back (k := L.length / 2) (by omega)
        rw [Nat.mul_one, strs_take] at hr1
        rw [Nat.mul_one, strs_drop] at hr2
        have ht : (L.take (L.length / 2)).length = L.length / 2 := by rw [List.length_take]; omega
        have hd : (L.drop (L.length / 2)).length = L.length - L.length / 2 := List.length_drop
        have HI1 := Lib.hid (ih w (L.take (L.length / 2)) _ (by omega) (by omega) (by rw [ht]; exact hr1))
        have HI2 := Lib.hid (fun w' (hbl : Below w.heap.size w w') => ih w' (L.drop (L.length / 2)) _ (by omega) (by omega) (by rw [hd]; exact hr2.below hbl))
        have HOF := Lib.hid (ofL_two h2)
        have hl1 := ofL_len (L.take (L.length / 2))
        have hl2 := ofL_len (L.drop (L.length / 2))
        rw [ht] at hl1
        rw [hd] at hl2
        have hne0 : ((L.length : Int) == 0) = false := beq_eq_false_iff_ne.2 (by omega)
        have hne1 : ((L.length : Int) == 1) = false := beq_eq_false_iff_ne.2 (by omega)
        rw [HOF.out]
        clear hr ih hr1 hr2 hx0
        generalize ofL (L.take (L.length / 2)) = P at *
        generalize ofL (L.drop (L.length / 2)) = Q at *
        have hmg : P.length + Q.length ≤ 1099511627776 := by omega
        have HMG := Lib.hid (fun w' va vb (ha : RdRow w' va P.length 1 (strs P)) (hb : RdRow w' vb Q.length 1 (strs Q)) => merge_calls ha hb hmg)
        clear hl1 hl2 ht hd hmg
        go_enter Try.func13, Try.ntmps13
        (repeat' (first | (go_big_may; fail) | go_values | go_skip | go_guarded | go_step | go_upon | go_back | dsimp only))
        refine HI1.out.mono ?_
        rintro e1 w1 ⟨v1, rfl, k1⟩
        have K1 := Lib.hid k1
        clear k1
        (repeat' (first | (go_big_may; fail) | go_values | go_skip | go_guarded | go_step | go_upon | go_back | dsimp only))
        refine (HI2.out _ K1.out.below).mono ?_
        rintro e2 w2 ⟨v2, rfl, k2⟩
        have K2 := Lib.hid k2
        have KB := Lib.hid (RdRow.below (RdRow.of_own K1.out.rowG) k2.below)
        have HM2 := Lib.hid (HMG.out w2 v1 v2 KB.out (RdRow.of_own k2.rowG))
        clear k2
        (repeat' (first | (go_big_may; fail) | go_values | go_skip | go_guarded | go_step | go_upon | go_back | dsimp only))
        refine HM2.out.mono ?_
        rintro e3 w3 ⟨v3, rfl, k3⟩
        have hb3 : Below w.heap.size w w2 := K1.out.below.trans (K2.out.below.mono K1.out.below.size)
        have K3 := Lib.hid (k3.rebase hb3)
        clear k3 hb3
        (repeat' (first | (go_big_may; fail) | go_values | go_skip | go_guarded | go_step | go_upon | go_back | dsimp only))
        go_ret
        exact ⟨_, rfl, K3.out⟩
end Go.Proofs.Ytbmfaffnbjmipaa

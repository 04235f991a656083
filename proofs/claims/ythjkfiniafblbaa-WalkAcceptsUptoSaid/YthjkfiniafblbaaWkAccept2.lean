/- Accepts walked. -/
import Derived.Test.YthjkfiniafblbaaWkAccepts
namespace Go.Proofs.Ythjkfiniafblbaa
open Go.RowKit

theorem good_at {A : List Sta} (h : Shaped A) {n : Nat} {t : Trie} (hu : Unf A n t) : Good t := by
  obtain ⟨t', h1, h2, _⟩ := h.tr n hu.lt
  rw [hu.uniq h1]; exact h2
set_option maxRecDepth 100000 in
set_option maxHeartbeats 1600000 in
theorem Accepts_calls {w : World} {A : List Sta} {va : Value} (hA : RdAut w va A) (hl : A.length + edgesN A ≤ 1048576) (hsh : shapeB A = true) {t : Trie} (ht : Unf A 0 t) (s : ByteArray) (hs : s.size ≤ 1048576) :
    Calls Try.prog 29 #[va, .string s] w fun e w' => e = .returned (.tuple #[.bool (accT t s.data.toList).1, .int .i64 ((accT t s.data.toList).2 : Nat), .int .i64 0]) ∧ Below w.heap.size w w' := by
  obtain ⟨a0, c0, hv, _, hc0⟩ := hA.shape
  unfold maxLen at hc0
  have HS0 := Lib.hid (Shape_calls hA hl)
  rw [shapeV_ok hsh] at HS0
  have HA := Lib.hid hA
  have HT := Lib.hid ht
  have HSH := Lib.hid (shaped_of hsh)
  have hN : A.length ≤ 1048576 := by omega
  clear hA ht hsh
  subst hv
  go_enter Try.func29, Try.ntmps29
  (repeat' (first | (go_big_may; fail) | go_values | go_skip | go_guarded | go_step | go_upon | go_back | dsimp only))
  refine HS0.out.mono ?_
  rintro e0 w0 ⟨rfl, hb0⟩
  have HB0 := Lib.hid hb0
  clear hb0 HS0
  (repeat' (first | (go_big_may; fail) | go_values | go_skip | go_guarded | go_step | go_upon | go_back | dsimp only))
  go_loopw [8, 18] (fun vk vi wr => ∃ (i k : Nat) (t' : Trie), vi = .int .i64 i ∧ vk = .int .i64 k ∧ i ≤ s.size ∧ Unf A k t' ∧ accT t s.data.toList = ((accT t' (s.data.toList.drop i)).1, i + (accT t' (s.data.toList.drop i)).2) ∧ Below w.heap.size w wr) (fun _ vi _ => s.size - (intOf vi).toNat)
  case atStart => exact ⟨0, 0, t, rfl, rfl, Nat.zero_le _, HT.out, by simp, HB0.out⟩
  case round =>
    obtain ⟨i, k, t', rfl, rfl, hi, hk, hacc, hb⟩ := hrel
    have HK := Lib.hid hk
    have HACC := Lib.hid hacc
    have HB := Lib.hid hb
    have hkl := hk.lt
    have hkI : (k : Int) < (A.length : Int) := by omega
    by_cases hlt : i < s.size
    · have hiI : (i : Int) < (s.size : Int) := by omega
      have hgi := toList_getElem hlt
      obtain ⟨x, hx⟩ : ∃ x, s[i] = x := ⟨_, rfl⟩
      rw [hx] at hgi
      have HG := Lib.hid (drop_at hgi)
      have HS := Lib.hid (step_calls (HA.out.below hb) hl hk (good_at HSH.out hk) x)
      clear hk hacc hb hgi
      (repeat' (first | (go_big_may; fail) | go_values | go_skip | go_guarded | go_step | go_upon | go_back | dsimp only))
      refine HS.out.mono ?_
      rintro e1 w1 ⟨m, rfl, hm, hb1⟩
      have HB1 := Lib.hid (lk' HB.out hb1)
      clear hb1 HS
      unfold StepTo at hm
      cases hst : stepE t' x with
      | none =>
        rw [hst] at hm
        dsimp only at hm
        subst hm
        have HST := Lib.hid hst
        clear hst
        (repeat' (first | (go_big_may; fail) | go_values | go_skip | go_guarded | go_step | go_upon | go_back | dsimp only))
        go_ret3
        exact ⟨by rw [HACC.out, HG.out, accT_none HST.out]; simp, HB1.out⟩
      | some c =>
        rw [hst] at hm
        obtain ⟨k2, rfl, hk2⟩ := hm
        have HST := Lib.hid hst
        have HK2 := Lib.hid hk2
        have hk2n : ¬ (k2 : Int) < 0 := by omega
        clear hst hk2
        (repeat' (first | (go_big_may; fail) | go_values | go_skip | go_guarded | go_step | go_upon | go_back | dsimp only))
        go_roundw
        case rel => exact ⟨i + 1, k2, c, by simp, rfl, by omega, HK2.out, by rw [HACC.out, HG.out, accT_some HST.out]; simp <;> omega, HB1.out⟩
        case measure => simp [intOf] <;> omega
    · obtain rfl : i = s.size := by omega
      obtain ⟨y, hy, hu⟩ := hk
      obtain ⟨b, off, cap, u, hsv, d0, d1, hue⟩ := (HA.out.below hb).at hy
      cases hsv
      have HF := Lib.hid hu.final
      clear hacc hb hy hu hue d1
      (repeat' (first | (go_big_may; fail) | go_values | go_skip | go_guarded | go_step | go_upon | go_back | dsimp only))
      go_ret3
      exact ⟨by rw [HACC.out, List.drop_eq_nil_of_le (by simp), ← HF.out]; rfl, HB.out⟩
set_option maxRecDepth 100000 in
set_option maxHeartbeats 1600000 in
theorem Accepts_bad {w : World} {A : List Sta} {va : Value} (hA : RdAut w va A) (hl : A.length + edgesN A ≤ 1048576) (hs : shapeB A = false) (s : ByteArray) :
    Calls Try.prog 29 #[va, .string s] w fun e w' => e = .returned (.tuple #[.bool false, .int .i64 0, .int .i64 190]) ∧ Below w.heap.size w w' := by
  have HS := Lib.hid (Shape_calls hA hl)
  rw [shapeV_bad hs] at HS
  clear hs hA
  go_enter Try.func29, Try.ntmps29
  (repeat' (first | (go_big_may; fail) | go_values | go_skip | go_guarded | go_step | go_upon | go_back | dsimp only))
  refine HS.out.mono ?_
  rintro e1 w1 ⟨rfl, hb1⟩
  have HB1 := Lib.hid hb1
  clear hb1
  (repeat' (first | (go_big_may; fail) | go_values | go_skip | go_guarded | go_step | go_upon | go_back | dsimp only))
  go_ret3
  exact ⟨rfl, HB1.out⟩
end Go.Proofs.Ythjkfiniafblbaa

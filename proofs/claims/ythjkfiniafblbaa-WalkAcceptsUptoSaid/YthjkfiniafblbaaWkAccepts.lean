/- walk.step; Accepts and the document's Accepts walked. -/
import Derived.Test.YthjkfiniafblbaaWkSearch
namespace Go.Proofs.Ythjkfiniafblbaa
open Go.RowKit

theorem lk' {w a b : World} (h : Below w.heap.size w a) (k : Below a.heap.size a b) : Below w.heap.size w b := h.trans (k.mono h.size)

set_option maxRecDepth 100000 in
set_option maxHeartbeats 1600000 in
theorem step_calls {w : World} {A : List Sta} {va : Value} (hA : RdAut w va A) (hl : A.length + edgesN A ≤ 1048576) {n : Nat} {t : Trie} (ht : Unf A n t) (hg : Good t) (x : UInt8) :
    Calls Try.prog 43 #[va, .int .i64 n, bv x] w fun e w' => ∃ m, e = .returned (.int .i64 m) ∧ StepTo A t x m ∧ Below w.heap.size w w' := by
  have hn := ht.lt
  have hnI : (n : Int) < (A.length : Int) := by omega
  obtain ⟨y, hy, hu⟩ := ht
  obtain ⟨b, off, cap, u, hsv, d0, d1, hue⟩ := hA.at hy
  obtain ⟨ua, uc, rfl, _, huc⟩ := hue.shape
  unfold maxLen at huc
  subst hsv
  have hel := edgesN_le hy
  have D1 := Lib.hid d1
  have HE := Lib.hid (show RdEds w (.slice ua y.edges.length uc) y.edges from hue)
  have HU := Lib.hid hu
  have HR := Lib.hid (rising_edges hu hg).2
  have HS := Lib.hid (search_calls hue (by omega) HR.out x)
  clear hA hy hu hue d0
  go_enter Try.func43, Try.ntmps43
  (repeat' (first | (go_big_may; fail) | go_values | go_skip | go_guarded | go_step | go_upon | go_back | dsimp only))
  refine HS.out.mono ?_
  rintro e1 w1 ⟨i, bf, rfl, hf, hb1⟩
  have HB1 := Lib.hid hb1
  have d1' := (hb1.cell (World.block_lt_of_cell? _ _ D1.out)).trans D1.out
  have HF := Lib.hid hf
  cases bf with
  | false =>
    clear hf hb1 HS d1
    (repeat' (first | (go_big_may; fail) | go_values | go_skip | go_guarded | go_step | go_upon | go_back | dsimp only))
    go_ret
    refine ⟨-1, rfl, ?_, HB1.out⟩
    have hno : ∀ e ∈ y.edges, e.1 ≠ x := HF.out
    unfold StepTo
    cases hs : stepE t x with
    | none => rfl
    | some c =>
      obtain ⟨j, e', h1, h2, _⟩ := stepE_unf HU.out hs
      exact absurd h2 (hno e' (List.mem_of_getElem? h1))
  | true =>
    obtain ⟨e, he, hex⟩ : ∃ e, y.edges[i]? = some e ∧ e.1 = x := hf
    have hil := (List.getElem?_eq_some_iff.1 he).1
    have hiI : (i : Int) < (y.edges.length : Int) := by omega
    obtain ⟨be, oe, ce, hse, e0, e1⟩ := RdEds.at (HE.out.below hb1) he
    cases hse
    have HED := Lib.hid (And.intro he hex)
    clear he hex hb1 HS d1 e0
    (repeat' (first | (go_big_may; fail) | go_values | go_skip | go_guarded | go_step | go_upon | go_back | dsimp only))
    go_ret
    refine ⟨e.2, rfl, ?_, HB1.out⟩
    unfold StepTo
    cases hs : stepE t x with
    | none => exact absurd HED.out.2 (stepE_miss HU.out hs e (List.mem_of_getElem? HED.out.1))
    | some c =>
      obtain ⟨j, e', h1, h2, h3, h4, h5⟩ := stepE_unf HU.out hs
      have hij : j = i := by
        rcases Nat.lt_trichotomy i j with h | h | h
        · exact absurd HED.out.2 (h3 i h e HED.out.1)
        · exact h.symm
        · have := HR.out j i e' e h h1 HED.out.1
          rw [h2, HED.out.2] at this
          omega
      subst hij
      rw [HED.out.1] at h1
      cases h1
      obtain ⟨k, hk⟩ := Int.eq_ofNat_of_zero_le h4
      rw [hk, Int.toNat_natCast] at h5
      exact ⟨k, hk, h5⟩

theorem toList_getElem {s : ByteArray} {i : Nat} (h : i < s.size) : s.data.toList[i]? = some s[i] := by
  rw [List.getElem?_eq_getElem (by simpa using h)]; rfl
set_option maxRecDepth 100000 in
set_option maxHeartbeats 1600000 in
theorem RAccepts_calls {w : World} {A : List Sta} {va : Value} (hA : RdAut w va A) (hl : A.length + edgesN A ≤ 1048576) {t : Trie} (ht : Unf A 0 t) (s : ByteArray) (hs : s.size ≤ 1048576) :
    Calls Try.prog 30 #[va, .string s] w fun e w' => e = .returned (.tuple #[.bool (accT t s.data.toList).1, .int .i64 ((accT t s.data.toList).2 : Nat)]) ∧ Below w.heap.size w w' := by
  obtain ⟨a0, c0, hv, _, hc0⟩ := hA.shape
  unfold maxLen at hc0
  have HA := Lib.hid hA
  have HT := Lib.hid ht
  have hN : A.length ≤ 1048576 := by omega
  clear hA ht
  subst hv
  go_enter Try.func30, Try.ntmps30
  (repeat' (first | (go_big_may; fail) | go_values | go_skip | go_guarded | go_step | go_upon | go_back | dsimp only))
  go_loopw [6, 7] (fun vk vi wr => ∃ (i k : Nat) (t' : Trie), vi = .int .i64 i ∧ vk = .int .i64 k ∧ i ≤ s.size ∧ Unf A k t' ∧ accT t s.data.toList = ((accT t' (s.data.toList.drop i)).1, i + (accT t' (s.data.toList.drop i)).2) ∧ Below w.heap.size w wr) (fun _ vi _ => s.size - (intOf vi).toNat)
  case atStart => exact ⟨0, 0, t, rfl, rfl, Nat.zero_le _, HT.out, by simp, Below.refl _ _⟩
  case round =>
    obtain ⟨i, k, t', rfl, rfl, hi, hk, hacc, hb⟩ := hrel
    have HK := Lib.hid hk
    have HACC := Lib.hid hacc
    have HB := Lib.hid hb
    have hkl := hk.lt
    have hkI : (k : Int) < (A.length : Int) := by omega
    by_cases hlt : i < s.size
    · have hiI : (i : Int) < (s.size : Int) := by omega
      have hgi := toList_getElem hlt
      obtain ⟨x, hx⟩ : ∃ x, s[i] = x := ⟨_, rfl⟩
      rw [hx] at hgi
      have HG := Lib.hid (drop_at hgi)
      have HS := Lib.hid (RStep_calls (HA.out.below hb) hl hk x)
      clear hk hacc hb hgi
      (repeat' (first | (go_big_may; fail) | go_values | go_skip | go_guarded | go_step | go_upon | go_back | dsimp only))
      refine HS.out.mono ?_
      rintro e1 w1 ⟨m, rfl, hm, hb1⟩
      have HB1 := Lib.hid (lk' HB.out hb1)
      clear hb1 HS
      unfold StepTo at hm
      cases hst : stepE t' x with
      | none =>
        rw [hst] at hm
        dsimp only at hm
        subst hm
        have HST := Lib.hid hst
        clear hst
        (repeat' (first | (go_big_may; fail) | go_values | go_skip | go_guarded | go_step | go_upon | go_back | dsimp only))
        go_ret2
        exact ⟨by rw [HACC.out, HG.out, accT_none HST.out]; simp, HB1.out⟩
      | some c =>
        rw [hst] at hm
        obtain ⟨k2, rfl, hk2⟩ := hm
        have HST := Lib.hid hst
        have HK2 := Lib.hid hk2
        clear hst hk2
        (repeat' (first | (go_big_may; fail) | go_values | go_skip | go_guarded | go_step | go_upon | go_back | dsimp only))
        go_roundw
        case rel => exact ⟨i + 1, k2, c, by simp, rfl, by omega, HK2.out, by rw [HACC.out, HG.out, accT_some HST.out]; simp <;> omega, HB1.out⟩
        case measure => simp [intOf] <;> omega
    · obtain rfl : i = s.size := by omega
      obtain ⟨y, hy, hu⟩ := hk
      obtain ⟨b, off, cap, u, hsv, d0, d1, hue⟩ := (HA.out.below hb).at hy
      cases hsv
      have HF := Lib.hid hu.final
      clear hacc hb hy hu hue d1
      (repeat' (first | (go_big_may; fail) | go_values | go_skip | go_guarded | go_step | go_upon | go_back | dsimp only))
      go_ret2
      exact ⟨by rw [HACC.out, List.drop_eq_nil_of_le (by simp), ← HF.out]; rfl, HB.out⟩
end Go.Proofs.Ythjkfiniafblbaa

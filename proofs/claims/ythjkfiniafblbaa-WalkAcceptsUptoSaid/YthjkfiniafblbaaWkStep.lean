/- The document's Step, the search by halves and walk.step walked. -/
import Derived.Test.YthjkfiniafblbaaWkRankP
import Derived.Test.YthjkfiniafblbaaWkNth
namespace Go.Proofs.Ythjkfiniafblbaa
open Go.RowKit

/-- Where the step leads, as a number. -/
def StepTo (A : List Sta) (t : Trie) (x : UInt8) (m : Int) : Prop :=
  match stepE t x with
  | none => m = -1
  | some c => ∃ k : Nat, m = k ∧ Unf A k c

set_option maxRecDepth 100000 in
set_option maxHeartbeats 1600000 in
theorem RStep_calls {w : World} {A : List Sta} {va : Value} (hA : RdAut w va A) (hl : A.length + edgesN A ≤ 1048576) {n : Nat} {t : Trie} (ht : Unf A n t) (x : UInt8) :
    Calls Try.prog 40 #[va, .int .i64 n, bv x] w fun e w' => ∃ m, e = .returned (.int .i64 m) ∧ StepTo A t x m ∧ Below w.heap.size w w' := by
  have hn := ht.lt
  have hnI : (n : Int) < (A.length : Int) := by omega
  obtain ⟨y, hy, hu⟩ := ht
  obtain ⟨b, off, cap, u, hsv, d0, d1, hue⟩ := hA.at hy
  obtain ⟨ua, uc, rfl, _, huc⟩ := hue.shape
  unfold maxLen at huc
  subst hsv
  have hel := edgesN_le hy
  have D1 := Lib.hid d1
  have HE := Lib.hid (show RdEds w (.slice ua y.edges.length uc) y.edges from hue)
  have HU := Lib.hid hu
  clear hA hy hu hue d0 d1
  go_enter Try.func40, Try.ntmps40
  (repeat' (first | (go_big_may; fail) | go_values | go_skip | go_guarded | go_step | go_upon | go_back | dsimp only))
  go_loopw [7] (fun vi wr => ∃ i : Nat, vi = .int .i64 i ∧ i ≤ y.edges.length ∧ (∀ q, q < i → ∀ e, y.edges[q]? = some e → e.1 ≠ x) ∧ Below w.heap.size w wr) (fun vi _ => y.edges.length - (intOf vi).toNat)
  case atStart => exact ⟨0, rfl, Nat.zero_le _, fun q hq => absurd hq (Nat.not_lt_zero _), Below.refl _ _⟩
  case round =>
    obtain ⟨i, rfl, hi, hno, hb⟩ := hrel
    have HNO := Lib.hid hno
    have HB := Lib.hid hb
    have d1 := (hb.cell (World.block_lt_of_cell? _ _ D1.out)).trans D1.out
    by_cases hlt : i < y.edges.length
    · obtain ⟨e, he⟩ : ∃ e, y.edges[i]? = some e := ⟨_, List.getElem?_eq_getElem hlt⟩
      obtain ⟨be, oe, ce, hse, e0, e1⟩ := RdEds.at (HE.out.below hb) he
      cases hse
      have hiI : (i : Int) < (y.edges.length : Int) := by omega
      have HED := Lib.hid he
      clear hno hb he
      by_cases hx : e.1 = x
      · rw [hx] at e0
        have HX := Lib.hid hx
        clear hx
        (repeat' (first | (go_big_may; fail) | go_values | go_skip | go_guarded | go_step | go_upon | go_back | dsimp only))
        go_ret
        refine ⟨e.2, rfl, ?_, HB.out⟩
        unfold StepTo
        cases hs : stepE t x with
        | none => exact absurd HX.out (stepE_miss HU.out hs e (List.mem_of_getElem? HED.out))
        | some c =>
          obtain ⟨j, e', h1, h2, h3, h4, h5⟩ := stepE_unf HU.out hs
          have hij : j = i := by
            rcases Nat.lt_trichotomy i j with h | h | h
            · exact absurd HX.out (h3 i h e HED.out)
            · exact h.symm
            · exact absurd h2 (HNO.out j h e' h1)
          subst hij
          rw [HED.out] at h1
          cases h1
          obtain ⟨k, hk⟩ := Int.eq_ofNat_of_zero_le h4
          rw [hk, Int.toNat_natCast] at h5
          exact ⟨k, hk, h5⟩
      · have hx2 : ((e.1.toNat : Int) == (x.toNat : Int)) = false := by
          rw [beq_eq_false_iff_ne]
          intro e'
          exact hx (UInt8.toNat_inj.1 (by omega))
        have HX := Lib.hid hx
        clear hx
        (repeat' (first | (go_big_may; fail) | go_values | go_skip | go_guarded | go_step | go_upon | go_back | dsimp only))
        go_roundw
        case rel =>
          refine ⟨i + 1, by simp, by omega, fun q hq e' he' => ?_, HB.out⟩
          by_cases hqi : q = i
          · subst hqi
            rw [HED.out] at he'
            cases he'
            exact HX.out
          · exact HNO.out q (by omega) e' he'
        case measure => simp [intOf] <;> omega
    · obtain rfl : i = y.edges.length := by omega
      clear hno hb
      (repeat' (first | (go_big_may; fail) | go_values | go_skip | go_guarded | go_step | go_upon | go_back | dsimp only))
      go_ret
      refine ⟨-1, rfl, ?_, HB.out⟩
      unfold StepTo
      cases hs : stepE t x with
      | none => rfl
      | some c =>
        obtain ⟨j, e', h1, h2, _⟩ := stepE_unf HU.out hs
        exact absurd h2 (HNO.out j (List.getElem?_eq_some_iff.1 h1).1 e' h1)
end Go.Proofs.Ythjkfiniafblbaa

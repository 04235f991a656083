/- words.Common walked. -/
import Derived.Test.YtcbdncjknpdnbaaKit
import Derived.Test.YtcbdncjknpdnbaaProg
import Derived.Test.YtcbdncjknpdnbaaDawgP
import Derived.Lib.Hide
import Derived.Deep.QuietTactic
import Derived.BigQuiet
import Derived.BigRegion
import Derived.Test.YtcbdncjknpdnbaaStill
namespace Go.Proofs.Ytcbdncjknpdnbaa
open Go.RowKit

theorem commonL_step {a b : List UInt8} {k : Nat} {x y : UInt8} (hx : a[k]? = some x) (hy : b[k]? = some y) : commonL (a.drop k) (b.drop k) = if x = y then commonL (a.drop (k + 1)) (b.drop (k + 1)) + 1 else 0 := by
  obtain ⟨h1, rfl⟩ := List.getElem?_eq_some_iff.1 hx
  obtain ⟨h2, rfl⟩ := List.getElem?_eq_some_iff.1 hy
  rw [List.drop_eq_getElem_cons h1, List.drop_eq_getElem_cons h2]
  rfl
theorem commonL_end {a b : List UInt8} {k : Nat} (h : ¬ (k < a.length ∧ k < b.length)) : commonL (a.drop k) (b.drop k) = 0 := by
  by_cases h1 : k < a.length
  · have h2 : b.drop k = [] := List.drop_eq_nil_of_le (by omega)
    rw [h2, List.drop_eq_getElem_cons h1]; rfl
  · have h2 : a.drop k = [] := List.drop_eq_nil_of_le (by omega)
    rw [h2]; rfl

set_option maxRecDepth 100000 in
set_option maxHeartbeats 1600000 in
theorem Common_calls (a b : ByteArray) (w : World) (ha : a.size ≤ 9223372036854775807) (hb : b.size ≤ 9223372036854775807) :
    Calls Try.prog 89 #[.string a, .string b] w fun e w' => e = .returned (.int .i64 (commonL a.data.toList b.data.toList)) ∧ Below w.heap.size w w' := by
  go_enter Try.func89, Try.ntmps89
  (repeat' (first | (go_big_may; fail) | go_values | go_skip | go_guarded | go_step | go_upon | go_back | dsimp only))
  go_loopw [5] (fun x wr => ∃ k : Nat, x = .int .i64 k ∧ k ≤ a.size ∧ k ≤ b.size ∧ commonL a.data.toList b.data.toList = k + commonL (a.data.toList.drop k) (b.data.toList.drop k) ∧ Below w.heap.size w wr) (fun x _ => a.size - (intOf x).toNat)
  case atStart => exact ⟨0, rfl, Nat.zero_le _, Nat.zero_le _, by simp, Below.refl _ _⟩
  case round =>
    obtain ⟨k, rfl, h1, h2, h3, h4⟩ := hrel
    have H := Lib.hid (And.intro h3 h4)
    clear h3 h4
    have hsp : b.size < a.size ∨ ¬ b.size < a.size := Classical.em _
    by_cases hin : k < a.size ∧ k < b.size
    · obtain ⟨i1, i2⟩ := hin
      have hx : a.data.toList[k]? = some a[k] := by rw [List.getElem?_eq_getElem (by simpa using i1)]; rfl
      have hy : b.data.toList[k]? = some b[k] := by rw [List.getElem?_eq_getElem (by simpa using i2)]; rfl
      have HS := Lib.hid (commonL_step hx hy)
      clear hx hy
      have j1 : (k : Int) < (a.size : Int) := by omega
      have j2 : (k : Int) < (b.size : Int) := by omega
      have j0 : (0 : Int) ≤ (k : Int) := by omega
      by_cases hq : a[k] = b[k]
      · have hq2 : a[k].toNat = b[k].toNat := by rw [hq]
        have HQ := Lib.hid hq
        clear hq
        rcases hsp with hm | hm
        all_goals
          (repeat' (first | (go_big_may; fail) | go_values | go_skip | go_guarded | go_step | go_upon | go_back | dsimp only))
          (refine region_still_tail 15 (by kernel_rfl) (by kernel_rfl) ?_; simp only [List.take_succ_cons, List.take_zero, List.drop_succ_cons, List.drop_zero]; (iterate 15 (first | ((with_reducible refine still_plain ?_ rfl ?_ ?_); rotate_left; (next => (go_simp; (try with_reducible rfl))); simp only [Act.put, List.setIfInBounds_toArray, List.set_cons_zero, List.set_cons_succ]) | ((with_reducible refine still_skip ?_ ?_); (next => (go_simp; done)); simp only [Act.put, List.setIfInBounds_toArray, List.set_cons_zero, List.set_cons_succ]) | ((with_reducible refine still_val ?_ ?_ ?_ ?_); rotate_left; (next => (go_simp; done)); (next => (go_simp; (try with_reducible rfl))); simp only [Act.put, List.setIfInBounds_toArray, List.set_cons_zero, List.set_cons_succ]))); (with_reducible refine wpStill_nil ?_))
          (repeat' (first | (go_big_may; fail) | go_values | go_skip | go_guarded | go_step | go_upon | go_back | dsimp only))
          go_roundw
          case rel => exact ⟨k + 1, by simp, by omega, by omega, by rw [H.out.1, HS.out, if_pos HQ.out]; omega, H.out.2.drew⟩
          case measure => simp [intOf] <;> omega
      · have hq2 : ((a[k].toNat : Int) == (b[k].toNat : Int)) = false := by
          rw [beq_eq_false_iff_ne]
          intro e
          exact hq (UInt8.toNat_inj.1 (by omega))
        have HQ := Lib.hid hq
        clear hq
        rcases hsp with hm | hm
        all_goals
          (repeat' (first | (go_big_may; fail) | go_values | go_skip | go_guarded | go_step | go_upon | go_back | dsimp only))
          (refine region_still_tail 15 (by kernel_rfl) (by kernel_rfl) ?_; simp only [List.take_succ_cons, List.take_zero, List.drop_succ_cons, List.drop_zero]; (iterate 15 (first | ((with_reducible refine still_plain ?_ rfl ?_ ?_); rotate_left; (next => (go_simp; (try with_reducible rfl))); simp only [Act.put, List.setIfInBounds_toArray, List.set_cons_zero, List.set_cons_succ]) | ((with_reducible refine still_skip ?_ ?_); (next => (go_simp; done)); simp only [Act.put, List.setIfInBounds_toArray, List.set_cons_zero, List.set_cons_succ]) | ((with_reducible refine still_val ?_ ?_ ?_ ?_); rotate_left; (next => (go_simp; done)); (next => (go_simp; (try with_reducible rfl))); simp only [Act.put, List.setIfInBounds_toArray, List.set_cons_zero, List.set_cons_succ]))); (with_reducible refine wpStill_nil ?_))
          (repeat' (first | (go_big_may; fail) | go_values | go_skip | go_guarded | go_step | go_upon | go_back | dsimp only))
          go_ret
          exact ⟨by rw [H.out.1, HS.out, if_neg HQ.out]; rfl, H.out.2.drew⟩
    · have HE := Lib.hid (commonL_end (a := a.data.toList) (b := b.data.toList) (k := k) (by simpa using hin))
      rcases hsp with hm | hm
      · have j3 : ¬ (k : Int) < (b.size : Int) := by omega
        clear hin
        (repeat' (first | (go_big_may; fail) | go_values | go_skip | go_guarded | go_step | go_upon | go_back | dsimp only))
        (refine region_still_tail 15 (by kernel_rfl) (by kernel_rfl) ?_; simp only [List.take_succ_cons, List.take_zero, List.drop_succ_cons, List.drop_zero]; (iterate 15 (first | ((with_reducible refine still_plain ?_ rfl ?_ ?_); rotate_left; (next => (go_simp; (try with_reducible rfl))); simp only [Act.put, List.setIfInBounds_toArray, List.set_cons_zero, List.set_cons_succ]) | ((with_reducible refine still_skip ?_ ?_); (next => (go_simp; done)); simp only [Act.put, List.setIfInBounds_toArray, List.set_cons_zero, List.set_cons_succ]) | ((with_reducible refine still_val ?_ ?_ ?_ ?_); rotate_left; (next => (go_simp; done)); (next => (go_simp; (try with_reducible rfl))); simp only [Act.put, List.setIfInBounds_toArray, List.set_cons_zero, List.set_cons_succ]))); (with_reducible refine wpStill_nil ?_))
        (repeat' (first | (go_big_may; fail) | go_values | go_skip | go_guarded | go_step | go_upon | go_back | dsimp only))
        go_ret
        exact ⟨by rw [H.out.1, HE.out]; rfl, H.out.2.drew⟩
      · have j3 : ¬ (k : Int) < (a.size : Int) := by omega
        clear hin
        (repeat' (first | (go_big_may; fail) | go_values | go_skip | go_guarded | go_step | go_upon | go_back | dsimp only))
        (refine region_still_tail 15 (by kernel_rfl) (by kernel_rfl) ?_; simp only [List.take_succ_cons, List.take_zero, List.drop_succ_cons, List.drop_zero]; (iterate 15 (first | ((with_reducible refine still_plain ?_ rfl ?_ ?_); rotate_left; (next => (go_simp; (try with_reducible rfl))); simp only [Act.put, List.setIfInBounds_toArray, List.set_cons_zero, List.set_cons_succ]) | ((with_reducible refine still_skip ?_ ?_); (next => (go_simp; done)); simp only [Act.put, List.setIfInBounds_toArray, List.set_cons_zero, List.set_cons_succ]) | ((with_reducible refine still_val ?_ ?_ ?_ ?_); rotate_left; (next => (go_simp; done)); (next => (go_simp; (try with_reducible rfl))); simp only [Act.put, List.setIfInBounds_toArray, List.set_cons_zero, List.set_cons_succ]))); (with_reducible refine wpStill_nil ?_))
        (repeat' (first | (go_big_may; fail) | go_values | go_skip | go_guarded | go_step | go_upon | go_back | dsimp only))
        go_ret
        exact ⟨by rw [H.out.1, HE.out]; rfl, H.out.2.drew⟩
end Go.Proofs.Ytcbdncjknpdnbaa

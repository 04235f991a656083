/- The search by halves and walk.step walked. -/
import Derived.Test.YthjkfiniafblbaaWkStep
namespace Go.Proofs.Ythjkfiniafblbaa
open Go.RowKit

set_option maxRecDepth 100000 in
set_option maxHeartbeats 1600000 in
theorem cmp_calls (w : World) (e : Ed) (x : UInt8) :
    Calls Try.prog 56 #[.agg #[bv e.1, .int .i64 e.2], bv x] w fun r w' => r = .returned (.int .i64 ((e.1.toNat : Int) - (x.toNat : Int))) ∧ Below w.heap.size w w' := by
  have h1 : e.1.toNat < 256 := e.1.toNat_lt
  have h2 : x.toNat < 256 := x.toNat_lt
  have hw : IntKind.i64.wrap ((e.1.toNat : Int) - (x.toNat : Int)) = (e.1.toNat : Int) - (x.toNat : Int) := by rw [IntKind.wrap_i64] <;> omega
  have hw1 : IntKind.i64.wrap (e.1.toNat : Int) = (e.1.toNat : Int) := by rw [IntKind.wrap_i64] <;> omega
  have hw2 : IntKind.i64.wrap (x.toNat : Int) = (x.toNat : Int) := by rw [IntKind.wrap_i64] <;> omega
  go_enter Try.func56, Try.ntmps56
  (repeat' (first | (go_big_may; fail) | go_values | go_skip | go_guarded | go_step | go_upon | go_back | dsimp only))
  go_ret
  exact ⟨rfl, (Below.refl _ _).alloc (Nat.le_refl _) _⟩

/-- Where the byte stands among the edges. -/
def Found (es : List Ed) (x : UInt8) (i : Nat) (b : Bool) : Prop :=
  if b = true then ∃ e, es[i]? = some e ∧ e.1 = x else ∀ e ∈ es, e.1 ≠ x
set_option maxRecDepth 100000 in
set_option maxHeartbeats 3200000 in
theorem search_calls {w : World} {es : List Ed} {v : Value} (hE : RdEds w v es) (hl : es.length ≤ 1048576) (hr : ∀ (i j : Nat) (a b : Ed), i < j → es[i]? = some a → es[j]? = some b → a.1.toNat < b.1.toNat) (x : UInt8) :
    Calls Try.prog 55 #[v, bv x, .func (.func 56) #[] #[]] w fun e w' => ∃ i b, e = .returned (.tuple #[.int .i64 (i : Nat), .bool b]) ∧ Found es x i b ∧ Below w.heap.size w w' := by
  obtain ⟨a0, c0, rfl, _, hc0⟩ := hE.shape
  unfold maxLen at hc0
  have HE := Lib.hid hE
  have HR := Lib.hid hr
  clear hE hr
  go_enter Try.func55, Try.ntmps55
  (repeat' (first | (go_big_may; fail) | go_values | go_skip | go_guarded | go_step | go_upon | go_back | dsimp only))
  go_loopw [9, 10] (fun vi vj wr => ∃ i j : Nat, vi = .int .i64 i ∧ vj = .int .i64 j ∧ i ≤ j ∧ j ≤ es.length ∧ (∀ q e, q < i → es[q]? = some e → e.1.toNat < x.toNat) ∧ (∀ q e, j ≤ q → es[q]? = some e → x.toNat ≤ e.1.toNat) ∧ Below w.heap.size w wr) (fun vi vj _ => (intOf vj).toNat - (intOf vi).toNat)
  case atStart => exact ⟨0, es.length, rfl, rfl, Nat.zero_le _, Nat.le_refl _, fun q _ hq => absurd hq (Nat.not_lt_zero q), fun q e hq he => by have := (List.getElem?_eq_some_iff.1 he).1; omega, Below.refl _ _⟩
  case round =>
    obtain ⟨i, j, rfl, rfl, hij, hj, hlo, hhi, hb⟩ := hrel
    have HLO := Lib.hid hlo
    have HHI := Lib.hid hhi
    have HB := Lib.hid hb
    by_cases hlt : i < j
    · have h1 : i ≤ (i + j) / 2 := by omega
      have h2 : (i + j) / 2 < j := by omega
      have hw : IntKind.i64.wrap ((i : Int) + (j : Int)) = ((i + j : Nat) : Int) := by rw [IntKind.wrap_i64] <;> omega
      obtain ⟨e, he⟩ : ∃ e, es[(i + j) / 2]? = some e := ⟨_, List.getElem?_eq_getElem (by omega)⟩
      obtain ⟨be, oe, ce, hse, e0, e1⟩ := RdEds.at (HE.out.below hb) he
      cases hse
      have HED := Lib.hid he
      have HC := Lib.hid (fun wz => cmp_calls wz e x)
      have hltI : (i : Int) < (j : Int) := by omega
      clear hlo hhi hb he
      (repeat' (first | (go_big_may; fail) | go_values | go_skip | go_guarded | go_step | go_upon | go_back | dsimp only))
      refine (HC.out _).mono ?_
      rintro r w5 ⟨rfl, hb5⟩
      have HB5 := Lib.hid (HB.out.trans (hb5.mono HB.out.size))
      have hwn : IntKind.i64.wrap (((i : Int) + (j : Int)) / 2 + 1) = ((i : Int) + (j : Int)) / 2 + 1 := by rw [IntKind.wrap_i64] <;> omega
      clear hb5 e0 e1 HC
      by_cases hc : e.1.toNat < x.toNat
      · have hcI : (e.1.toNat : Int) - (x.toNat : Int) < 0 := by omega
        (repeat' (first | (go_big_may; fail) | go_values | go_skip | go_guarded | go_step | go_upon | go_back | dsimp only))
        go_roundw
        case rel =>
          refine ⟨(i + j) / 2 + 1, j, by simp <;> omega, rfl, by omega, hj, fun q e' hq he' => ?_, HHI.out, HB5.out⟩
          rcases Nat.lt_or_ge q ((i + j) / 2) with h | h
          · have := HR.out q _ e' e h he' HED.out
            omega
          · have hqe : q = (i + j) / 2 := by omega
            subst hqe
            rw [HED.out] at he'
            cases he'
            exact hc
        case measure => simp [intOf] <;> omega
      · have hcI : ¬ (e.1.toNat : Int) - (x.toNat : Int) < 0 := by omega
        (repeat' (first | (go_big_may; fail) | go_values | go_skip | go_guarded | go_step | go_upon | go_back | dsimp only))
        go_roundw
        case rel =>
          refine ⟨i, (i + j) / 2, rfl, by simp <;> omega, h1, by omega, HLO.out, fun q e' hq he' => ?_, HB5.out⟩
          rcases Nat.lt_or_ge ((i + j) / 2) q with h | h
          · have := HR.out _ q e e' h HED.out he'
            omega
          · have hqe : q = (i + j) / 2 := by omega
            subst hqe
            rw [HED.out] at he'
            cases he'
            omega
        case measure => simp [intOf] <;> omega
    · obtain rfl : i = j := by omega
      have HF := Lib.hid (fun hno : ∀ e, es[i]? = some e → e.1 ≠ x => show Found es x i false from fun e he => by
        obtain ⟨q, hq, rfl⟩ := List.getElem_of_mem he
        have hq' := List.getElem?_eq_getElem hq
        intro hx
        rcases Nat.lt_trichotomy q i with h | h | h
        · have := HLO.out q _ h hq'; rw [hx] at this; omega
        · subst h; exact hno _ hq' hx
        · have h3 : i < es.length := by omega
          have h4 := List.getElem?_eq_getElem h3
          have h5 := HHI.out i _ (Nat.le_refl _) h4
          have h6 := HR.out i q _ _ h h4 hq'
          rw [hx] at h6
          omega)
      clear hlo hhi hij hlt
      by_cases hin : i < es.length
      · obtain ⟨e, he⟩ : ∃ e, es[i]? = some e := ⟨_, List.getElem?_eq_getElem hin⟩
        obtain ⟨be, oe, ce, hse, e0, e1⟩ := RdEds.at (HE.out.below hb) he
        cases hse
        have HC := Lib.hid (fun wz => cmp_calls wz e x)
        have hinI : (i : Int) < (es.length : Int) := by omega
        have HED := Lib.hid he
        clear he hb
        (repeat' (first | (go_big_may; fail) | go_values | go_skip | go_guarded | go_step | go_upon | go_back | dsimp only))
        refine (HC.out _).mono ?_
        rintro r w5 ⟨rfl, hb5⟩
        have HB5 := Lib.hid (HB.out.trans (hb5.mono HB.out.size))
        clear hb5 e0 e1 HC
        by_cases hc : e.1 = x
        · have hcI : (e.1.toNat : Int) - (x.toNat : Int) = 0 := by rw [hc]; omega
          have HCC := Lib.hid hc
          clear hc
          (repeat' (first | (go_big_may; fail) | go_values | go_skip | go_guarded | go_step | go_upon | go_back | dsimp only))
          go_ret2
          exact ⟨i, true, rfl, ⟨e, HED.out, HCC.out⟩, HB5.out⟩
        · have hcI : ((e.1.toNat : Int) - (x.toNat : Int) == 0) = false := by
            rw [beq_eq_false_iff_ne]
            intro h
            exact hc (UInt8.toNat_inj.1 (by omega))
          have HCC := Lib.hid hc
          clear hc
          (repeat' (first | (go_big_may; fail) | go_values | go_skip | go_guarded | go_step | go_upon | go_back | dsimp only))
          go_ret2
          exact ⟨i, false, rfl, HF.out (fun e' he' => by rw [HED.out] at he'; cases he'; exact HCC.out), HB5.out⟩
      · have hinI : ¬ (i : Int) < (es.length : Int) := by omega
        clear hb
        (repeat' (first | (go_big_may; fail) | go_values | go_skip | go_guarded | go_step | go_upon | go_back | dsimp only))
        go_ret2
        exact ⟨i, false, rfl, HF.out (fun e' he' => absurd (List.getElem?_eq_some_iff.1 he').1 hin), HB.out⟩
end Go.Proofs.Ythjkfiniafblbaa

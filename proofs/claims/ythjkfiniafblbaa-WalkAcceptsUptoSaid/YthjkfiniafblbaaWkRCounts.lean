/- The document's heights and Counts walked. -/
import Derived.Test.YthjkfiniafblbaaWkHeight
import Derived.Deep.RegionLaw
namespace Go.Proofs.Ythjkfiniafblbaa
open Go.RowKit

/-- A table of all the heights. -/
def HtL (A : List Sta) (hs : List Int) : Prop := hs.length = A.length ∧ ∀ i t, Unf A i t → hs[i]? = some (htI t)
theorem htL_of {A : List Sta} (hs : Shaped A) {cs : List Int} (h : CInv A htI (-1) cs) (hg : ∀ j, Gets A 0 j → GoodC A htI cs j) : HtL A cs :=
  ⟨h.len, fun _ _ hu => (hg _ (hs.reach _ hu.lt)).val hu⟩

set_option maxRecDepth 100000 in
set_option maxHeartbeats 1600000 in
theorem heights_calls {w : World} {A : List Sta} {va : Value} (hA : RdAut w va A) (hl : A.length + edgesN A ≤ 1048576) (hs : Shaped A) :
    Calls Try.prog 38 #[va] w fun e w' => ∃ cs g, e = .returned (.slice (some ⟨g, 0, none⟩) A.length A.length) ∧ HtL A cs ∧ At w w' (Both (RowG tInt 1 (.slice (some ⟨g, 0, none⟩) A.length A.length) A.length (intsI cs)) Nought) := by
  obtain ⟨a0, c0, hv, _, hc0⟩ := hA.shape
  unfold maxLen at hc0
  obtain ⟨t, ht, _, _⟩ := hs.tr 0 hs.pos
  have hn : A.length ≤ 1048576 := by omega
  have HVIS := Lib.hid (fun g w2 (h2 : At w w2 (Both (RowG tInt 1 (.slice (some ⟨g, 0, none⟩) A.length A.length) A.length (intsI (List.replicate A.length (-1)))) Nought)) => rheight_at hA hl g (htT t + 1) w2 (List.replicate A.length (-1)) 0 t Nought h2 Stable.nought (cinv_start A htI (-1)) ht (by omega))
  have HSH := Lib.hid hs
  have HNW := Lib.hid (At.nought (Below.refl w.heap.size w))
  clear hs ht hA
  subst hv
  go_enter Try.func38, Try.ntmps38
  (repeat' (first | (go_big_may; ((at_make; go_must (refine wpList_make_at rfl _ _ 23 rfl tInt Try.underlying23 info_Int rfl rfl rfl rfl rfl (by omega) (by unfold maxLen; omega) HNW.out Stable.nought ?_)); intro w2 h2 _; have H2 := Lib.hid h2; clear h2)) | go_values | go_skip | go_guarded | go_step | go_upon | go_back | dsimp only))
  go_loopw [4] (fun vi wr => ∃ (i : Nat) (cs : List Int), vi = .int .i64 i ∧ i ≤ A.length ∧ cs.length = A.length ∧ (∀ q, q < i → cs[q]? = some (-1)) ∧ At w wr (Both (RowG tInt 1 (.slice (some ⟨w.heap.size, 0, none⟩) A.length A.length) A.length (intsI cs)) Nought)) (fun vi _ => A.length - (intOf vi).toNat)
  case atStart => exact ⟨0, List.replicate A.length 0, rfl, Nat.zero_le _, by simp, fun q hq => absurd hq (Nat.not_lt_zero _), by have := H2.out; rw [show List.replicate A.length (Value.int .i64 0) = intsI (List.replicate A.length 0) from by simp [intsI]] at this; exact this⟩
  case round =>
    obtain ⟨i, cs, rfl, hi, hcl, hq, h3⟩ := hrel
    by_cases hlt : i < A.length
    · have hiI : (i : Int) < (A.length : Int) := by omega
      obtain ⟨v', hv'⟩ : ∃ v', cs[i]? = some v' := ⟨_, List.getElem?_eq_getElem (by omega)⟩
      obtain ⟨g1, g2, g3⟩ := h3.rowCell (intsI_get hv')
      have h4 := h3.storeG Stable.nought i (.int .i64 (-1))
      rw [intsI_set] at h4
      have H4 := Lib.hid h4
      have HQ := Lib.hid hq
      clear h3 h4 hq hv'
      (repeat' (first | (go_big_may; fail) | go_values | go_skip | go_guarded | go_step | go_upon | go_back | dsimp only))
      go_roundw
      case rel =>
        refine ⟨i + 1, cs.set i (-1), by simp, by omega, by simpa using hcl, fun q hq => ?_, H4.out⟩
        by_cases he : i = q
        · subst he; rw [List.getElem?_set_self (by omega)]
        · rw [List.getElem?_set_ne he]; exact HQ.out q (by omega)
      case measure => simp [intOf] <;> omega
    · obtain rfl : i = A.length := by omega
      have hce : cs = List.replicate A.length (-1) := by
        refine List.ext_getElem? fun q => ?_
        by_cases h : q < A.length
        · rw [hq q h, List.getElem?_replicate, if_pos h]
        · rw [List.getElem?_eq_none (by omega), List.getElem?_eq_none (by simp; omega)]
      subst hce
      have HC := Lib.hid (HVIS.out _ _ h3)
      clear h3 hq
      (repeat' (first | (go_big_may; fail) | go_values | go_skip | go_guarded | go_step | go_upon | go_back | dsimp only))
      refine HC.out.mono ?_
      rintro e5 w5 ⟨rfl, cs5, hi5, _, hg5, h7⟩
      have HCL := Lib.hid (htL_of HSH.out hi5 hg5)
      have H7 := Lib.hid h7
      clear h7 hi5 hg5
      (repeat' (first | (go_big_may; fail) | go_values | go_skip | go_guarded | go_step | go_upon | go_back | dsimp only))
      go_ret
      exact ⟨cs5, _, rfl, HCL.out, H7.out⟩
end Go.Proofs.Ythjkfiniafblbaa

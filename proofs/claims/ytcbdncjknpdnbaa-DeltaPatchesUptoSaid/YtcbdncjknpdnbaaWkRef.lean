/- walk's laws: ref and twin walked: an automaton, copied. -/
import Derived.Test.YtcbdncjknpdnbaaAutG
import Derived.Deep.RegionHeld3
import Derived.Deep.QuietTactic
import Derived.BigQuiet
import Derived.BigRegion
import Derived.Deep.RegionLaw
namespace Go.Proofs.Ytcbdncjknpdnbaa
open Go.RowKit

abbrev tPS : TypeId := 58
abbrev tPE : TypeId := 63
abbrev tRS : TypeId := 61
abbrev tRE : TypeId := 64
theorem info_PS : (Try.prog.info? tPS).map (fun i => (i.zero, i.size, i.bytes)) = some (some (.agg #[.bool false, .slice none 0 0]), 2, 32) := by kernel_rfl
theorem info_RS : (Try.prog.info? tRS).map (fun i => (i.zero, i.size, i.bytes)) = some (some (.agg #[.bool false, .slice none 0 0]), 2, 32) := by kernel_rfl
theorem info_PE : (Try.prog.info? tPE).map (fun i => (i.zero, i.size, i.bytes)) = some (some (.agg #[.int .u8 0, .int .i64 0]), 2, 16) := by kernel_rfl
theorem info_RE : (Try.prog.info? tRE).map (fun i => (i.zero, i.size, i.bytes)) = some (some (.agg #[.int .u8 0, .int .i64 0]), 2, 16) := by kernel_rfl

set_option maxRecDepth 100000 in
set_option maxHeartbeats 3200000 in
theorem ref_big {w : World} {A : List Sta} {v : Value} (h : RdAut w v A) (hn : A.length ≤ 1099511627776 ∧ edgesN A ≤ 1099511627776) :
    Calls Try.prog 8 #[v] w fun e w' => ∃ v', e = .returned v' ∧ At w w' (Both (AutG tRS tRE v' A) Nought) := by
  obtain ⟨a0, c0, hv, _, _⟩ := h.shape
  have H := Lib.hid h
  have H0 := Lib.hid ((At.nought (Below.refl w.heap.size w)).noAut Stable.nought tRS tRE)
  have hAl : A.length ≤ 1099511627776 := by omega
  subst hv
  clear h
  go_enter Try.func8, Try.ntmps8
  (repeat' (first | (go_big_may; fail) | go_values | go_skip | go_guarded | go_step | go_upon | go_back | dsimp only))
  go_loopw [3, 11] (fun vo vi wr => ∃ (k : Nat) (xs : List (Sta × Value)), vi = .int .i64 k ∧ k ≤ A.length ∧ xs.map Prod.fst = A.take k ∧ At w wr (Both (RowG tRS 2 vo xs.length (xs.flatMap stc)) (Both (EdsG tRE xs) Nought))) (fun _ vi _ => A.length - (intOf vi).toNat)
  case atStart => exact ⟨0, [], rfl, Nat.zero_le _, rfl, H0.out⟩
  case round =>
    obtain ⟨k, xs, rfl, hk, hxs, h1⟩ := hrel
    have H1 := Lib.hid h1
    have HXS := Lib.hid hxs
    clear h1 hxs
    by_cases hlt : k < A.length
    · obtain ⟨x, hx⟩ : ∃ x, A[k]? = some x := ⟨_, List.getElem?_eq_getElem hlt⟩
      obtain ⟨b, off, cap, u, hsl, d0, d1, hu⟩ := H.out.at hx
      cases hsl
      replace d0 := (H1.out.below.cell (World.block_lt_of_cell? _ _ d0)).trans d0
      replace d1 := (H1.out.below.cell (World.block_lt_of_cell? _ _ d1)).trans d1
      obtain ⟨ua, uc, hus, _, _⟩ := hu.shape
      subst hus
      have hel := edgesN_le hx
      have HX := Lib.hid hx
      have HU := Lib.hid (show RdEds w (.slice ua x.edges.length uc) x.edges from hu)
      clear hx hu
      (repeat' (first | (go_big_may; fail) | go_values | go_skip | go_guarded | go_step | go_upon | go_back | dsimp only))
      have hst0 : Stable (Both (RowG tRS 2 u3 xs.length (xs.flatMap stc)) (Both (EdsG tRE xs) Nought)) := (RowG.stable _ _ _ _ _).both ((AllRows.stable _ _ _ _ _ _).both Stable.nought)
      have h2 := ((H1.out.alloc hst0 (.cells #[.bool x.final, .slice ua x.edges.length uc] tPS)).newCell hst0 #[.bool x.final, .slice none 0 0] tRS).noRowG ((CellT.stable _ _ _).both hst0) tRE 2
      rw [alloc_size] at h2
      have HST0 := Lib.hid hst0
      have HST2 := Lib.hid (fun ve => (CellT.stable (wr.heap.size + 1) #[.bool x.final, ve] tRS).both hst0)
      have H2 := Lib.hid h2
      have hpx : wr.heap.size + 1 < (((wr.alloc (.cells #[.bool x.final, .slice ua x.edges.length uc] tPS)).alloc (.cells #[.bool x.final, .slice none 0 0] tRS))).heap.size := by simp
      clear h2 hst0 H1 d0 d1
      generalize wr.heap.size + 1 = px at *
      go_loopw [21] (fun vj wi => ∃ (j : Nat) (ve : Value), vj = .int .i64 j ∧ j ≤ x.edges.length ∧ At w wi (Both (RowG tRE 2 ve j ((x.edges.take j).flatMap edc)) (Both (CellT px #[.bool x.final, ve] tRS) (Both (RowG tRS 2 u3 xs.length (xs.flatMap stc)) (Both (EdsG tRE xs) Nought))))) (fun vj _ => x.edges.length - (intOf vj).toNat)
      case atStart => exact ⟨0, _, rfl, Nat.zero_le _, H2.out⟩
      case round =>
        obtain ⟨j, ve, rfl, hj, h3⟩ := hrel
        by_cases hlj : j < x.edges.length
        · obtain ⟨e, he⟩ : ∃ e, x.edges[j]? = some e := ⟨_, List.getElem?_eq_getElem hlj⟩
          obtain ⟨be, oe, ce, hse, e0, e1⟩ := RdEds.at (HU.out.below h3.below) he
          cases hse
          have h4 := h3.alloc ((RowG.stable _ _ _ _ _).both (HST2.out _)) (.cells (edc e).toArray tPE)
          obtain ⟨p1, p2, p3⟩ := h4.drop.cellF (o := 1) rfl
          have hlx : (((x.edges.take j).flatMap edc)).length = j * 2 := by rw [flatMap_len edc_len, List.length_take]; omega
          have htk : (x.edges.take j).flatMap edc ++ edc e = (x.edges.take (j + 1)).flatMap edc := by
            rw [List.take_add_one, he]; simp
          have H4 := Lib.hid h4
          have HTK := Lib.hid htk
          clear h3 h4 he htk
          (repeat' (first | (go_big_may; ((at_builtin; go_must (refine wpList_append_to rfl _ _ 59 tRE rfl Try.underlying59 info_RE rfl (by decide) rfl (H4.out) (HST2.out _) rfl (by first | rfl | simp) rfl (two_one _ _ rfl rfl) (by unfold maxLen; omega) (by omega) ?_); intro a2 c2 w2 h5 _); have H5 := Lib.hid h5; obtain ⟨q1, q2, q3⟩ := h5.drop.cellF (o := 1) rfl; clear h5 p1 p2 p3)) | go_values | go_skip | go_guarded | go_step | go_upon | go_back | dsimp only))
          go_roundw
          case rel => exact ⟨j + 1, .slice a2 (j + 1) c2, by simp, by omega, by have h6 := (H5.out.swap.setCell ((RowG.stable _ _ _ _ _).both HST0.out) 1 (.slice a2 (j + 1) c2)).swap; rw [← HTK.out]; exact h6⟩
          case measure => simp [intOf] <;> omega
        · obtain rfl : j = x.edges.length := by omega
          rw [List.take_length] at h3
          have hst1 := (RowG.stable tRE 2 ve x.edges.length (x.edges.flatMap edc)).both ((CellT.stable px #[.bool x.final, ve] tRS).both ((AllRows.stable tRE 2 (fun x : Sta × Value => x.2) (fun x => x.1.edges.flatMap edc) (fun x => x.1.edges.length) xs).both Stable.nought))
          have h4 := h3.pull3
          obtain ⟨p1, p2, p3⟩ := h3.drop.cellF (o := 0) rfl
          obtain ⟨p4, p5, _⟩ := h3.drop.cellF (o := 1) rfl
          have hxl : xs.length = k := by have := congrArg List.length HXS.out; simp at this; omega
          have HXL := Lib.hid hxl
          have hxm : xs.length ≤ 1099511627776 := by omega
          obtain ⟨ea, ec, hve, _, _⟩ := own_shape h3.rowG
          subst hve
          have H4 := Lib.hid h4
          have HST1 := Lib.hid hst1
          clear h3 h4 hst1 hxl
          (repeat' (first | (go_big_may; ((at_builtin; go_must (refine wpList_append_to rfl _ _ 23 tRS rfl Try.underlying23 info_RS rfl (by decide) rfl (H4.out) (HST1.out) rfl (by first | rfl | simp) rfl (two_one _ _ rfl rfl) (by unfold maxLen; omega) (by omega) ?_); intro a2 c2 w2 h5 _); have H5 := Lib.hid h5; clear h5 p1 p2 p4 p5)) | go_values | go_skip | go_guarded | go_step | go_upon | go_back | dsimp only))
          go_roundw
          case rel =>
            have h6 := H5.out.pull3.drop.swap.swap2
            have h7 := (At.pushRow (val := fun x : Sta × Value => x.2) (cells := fun x => x.1.edges.flatMap edc) (n := fun x => x.1.edges.length) (x, .slice ea x.edges.length ec) h6).swap
            refine ⟨k + 1, xs ++ [(x, .slice ea x.edges.length ec)], by simp, by omega, ?_, ?_⟩
            · rw [List.map_append, HXS.out, List.take_add_one, HX.out]; rfl
            · rw [List.length_append, List.flatMap_append]; exact h7
          case measure => simp [intOf] <;> omega
    · obtain rfl : k = A.length := by omega
      have h2 := H1.out.autG
      rw [HXS.out, List.take_length] at h2
      have H2 := Lib.hid h2
      clear h2 H1
      (repeat' (first | (go_big_may; fail) | go_values | go_skip | go_guarded | go_step | go_upon | go_back | dsimp only))
      go_ret
      exact ⟨_, rfl, H2.out⟩

theorem ref_calls {w : World} {A : List Sta} {v : Value} (h : RdAut w v A) (hn : A.length ≤ 1048576 ∧ edgesN A ≤ 1048576) :
    Calls Try.prog 8 #[v] w fun e w' => ∃ v', e = .returned v' ∧ At w w' (Both (AutG tRS tRE v' A) Nought) := ref_big h (by omega)
end Go.Proofs.Ytcbdncjknpdnbaa

/- walk.counts, counted and Count walked. -/
import Derived.Test.YthjkfiniafblbaaWkCounts
import Derived.Test.YthjkfiniafblbaaWkNthP
import Derived.Test.YthjkfiniafblbaaWkShape
namespace Go.Proofs.Ythjkfiniafblbaa
open Go.RowKit

theorem info_Int : (Try.prog.info? tInt).map (fun i => (i.zero, i.size, i.bytes)) = some (some (.int .i64 0), 1, 8) := by kernel_rfl
theorem cinv_start (A : List Sta) (F : Trie → Int) (z : Int) : CInv A F z (List.replicate A.length z) := ⟨by simp, fun i v hv hz => by
  rw [List.getElem?_replicate] at hv
  split at hv
  · simp only [Option.some.injEq] at hv
    exact absurd hv.symm hz
  · cases hv⟩
theorem cntL_of {A : List Sta} (hs : Shaped A) {cs : List Int} (h : CInv A cntI 0 cs) (hg : ∀ j, Gets A 0 j → GoodC A cntI cs j) : CntL A cs :=
  ⟨h.len, fun i _ hu => (hg i (hs.reach i hu.lt)).val hu⟩

set_option maxRecDepth 100000 in
set_option maxHeartbeats 1600000 in
theorem counts_calls {w : World} {A : List Sta} {va : Value} (hA : RdAut w va A) (hl : A.length + edgesN A ≤ 1048576) (hs : Shaped A) :
    Calls Try.prog 54 #[va] w fun e w' => ∃ cs g, e = .returned (.slice (some ⟨g, 0, none⟩) A.length A.length) ∧ CntL A cs ∧ At w w' (Both (RowG tInt 1 (.slice (some ⟨g, 0, none⟩) A.length A.length) A.length (intsI cs)) Nought) := by
  obtain ⟨a0, c0, hv, _, hc0⟩ := hA.shape
  obtain ⟨t, ht, _, _⟩ := hs.tr 0 hs.pos
  have hn : A.length ≤ 1048576 := by omega
  have hvis := fun ko ka kv g w2 (h2 : At w w2 (CntT ko ka kv g A.length va (List.replicate A.length 0) Nought)) => cvis_at hA hl ko ka kv g (htT t + 1) w2 (List.replicate A.length 0) 0 t Nought h2 Stable.nought (cinv_start A cntI 0) ht (by omega)
  have hnw := (At.nought (Below.refl w.heap.size w)).newCell Stable.nought #[va] tSl
  have HVIS := Lib.hid hvis
  have HNW := Lib.hid hnw
  have HSH := Lib.hid hs
  have hsf := st_fn
  clear hvis hnw hs ht hA
  subst hv
  go_enter Try.func54, Try.ntmps54
  (repeat' (first | (go_big_may; ((at_make; go_must (refine wpList_make_at rfl _ _ 23 rfl tInt Try.underlying23 info_Int rfl rfl rfl rfl rfl (by omega) (by unfold maxLen; omega) HNW.out ((CellT.stable _ _ _).both Stable.nought) ?_)); intro w2 h2 _)) | go_values | go_skip | go_guarded | go_step | go_upon | go_back | dsimp only))

  have z1 : (w.alloc (.cells #[.slice a0 A.length c0] tSl)).heap.size = w.heap.size + 1 := by simp
  rw [z1] at h2
  have hs2 := (RowG.stable tInt 1 (.slice (some ⟨w.heap.size + 1, 0, none⟩) A.length A.length) A.length (List.replicate A.length (.int .i64 0))).both ((CellT.stable w.heap.size #[.slice a0 A.length c0] tSl).both Stable.nought)
  have h3 := h2.newCell hs2 #[.slice (some ⟨w.heap.size + 1, 0, none⟩) A.length A.length] tIs
  have hs3 := (CellT.stable w2.heap.size #[.slice (some ⟨w.heap.size + 1, 0, none⟩) A.length A.length] tIs).both hs2
  have h4 := h3.newCell hs3 #[.func (.func 67) #[] #[ptrN w2.heap.size, ptrN w.heap.size, ptrN (w2.heap.size + 1)]] tFc
  have z2 : (w2.alloc (.cells #[.slice (some ⟨w.heap.size + 1, 0, none⟩) A.length A.length] tIs)).heap.size = w2.heap.size + 1 := by simp
  rw [z2] at h4
  have h5 := h4.pull4.pull3
  rw [show List.replicate A.length (Value.int .i64 0) = intsI (List.replicate A.length 0) from by simp [intsI]] at h5
  have HC := Lib.hid (HVIS.out _ _ _ _ _ h5)
  clear h2 h3 h4 h5 hs2 hs3 z1 z2
  refine HC.out.mono ?_
  rintro e5 w5 ⟨rfl, cs5, hi5, _, hg5, h7⟩
  have HCL := Lib.hid (cntL_of HSH.out hi5 hg5)
  obtain ⟨c0, _, _⟩ := h7.cellF (o := 0) (u := .slice (some ⟨w.heap.size + 1, 0, none⟩) A.length A.length) rfl
  have H8 := Lib.hid h7.drop.drop.drop
  clear h7 hi5 hg5
  (repeat' (first | (go_big_may; fail) | go_values | go_skip | go_guarded | go_step | go_upon | go_back | dsimp only))
  go_ret
  exact ⟨cs5, _, rfl, HCL.out, H8.out⟩
end Go.Proofs.Ythjkfiniafblbaa

/- streams: what From, Minus and Common make. -/
import Derived.Test.YtbmfaffnbjmipaaStSift
namespace Go.Proofs.Ytbmfaffnbjmipaa
open Go.RowKit

theorem sift_minus (M L : List (List UInt8)) : siftL M false L = minusL L M := by
  unfold siftL minusL
  congr 1
  funext x
  by_cases h : x ∈ M <;> simp [h]
theorem sift_common (M L : List (List UInt8)) : siftL M true L = commonW L M := by
  unfold siftL commonW
  congr 1
  funext x
  by_cases h : x ∈ M <;> simp [h]
section
variable {W w : World} {Φ R : Thing}
/-- What a call that makes a stream leaves. -/
def MkStr (W : World) (Φ R : Thing) (L : List (List UInt8)) (e : Ending) (w' : World) : Prop := ∃ N u, Stable N ∧ e = .returned (.agg #[u]) ∧ IsStr W (Both N Φ) u L ∧ At W w' (Both (Both N Φ) R)
set_option maxRecDepth 100000 in
set_option maxHeartbeats 2000000 in
theorem SFrom_at {v : Value} {L : List (List UInt8)} (hs : IsStr W Φ v L) (hΦ : Stable Φ) (hR : Stable R) (h : At W w (Both Φ R)) (z : List UInt8) :
    Calls Try.prog 17 #[.agg #[v], .string ⟨z.toArray⟩] w (MkStr W Φ R (notBelow z L)) := by
  have hs0 := hΦ.both hR
  have h1 := h.newCell hs0 #[.string ⟨z.toArray⟩] tTx
  have h0 := h.newCell hs0 #[v] tStr
  have h1 := h0.newCell ((CellT.stable _ _ _).both hs0) #[.string ⟨z.toArray⟩] tTx
  rw [show (w.alloc (.cells #[v] tStr)).heap.size = w.heap.size + 1 from by simp] at h1
  have hst1 := (CellT.stable (w.heap.size + 1) #[.string ⟨z.toArray⟩] tTx).both ((CellT.stable w.heap.size #[v] tStr).both hs0)
  have h2 := h1.newCell hst1 #[.func (.func 30) #[] #[.pointer (some ⟨w.heap.size, 0, none⟩), .pointer (some ⟨w.heap.size + 1, 0, none⟩)]] tStr
  rw [show ((w.alloc (.cells #[v] tStr)).alloc (.cells #[.string ⟨z.toArray⟩] tTx)).heap.size = w.heap.size + 1 + 1 from by simp] at h2
  have HS := Lib.hid hs
  have H2 := Lib.hid h2
  clear h0 h1 h h2 hs
  go_enter Try.func17, Try.ntmps17
  (repeat' (first | (go_big_may; fail) | go_values | go_skip | go_guarded | go_step | go_upon | go_back | dsimp only))
  (try simp only [Exit.inBlock, Exit.then])
  refine bodyPost_ret (results_cell_row rfl _ _ (w.heap.size + 1 + 1) tStr #[.func (.func 30) #[] #[.pointer (some ⟨w.heap.size, 0, none⟩), .pointer (some ⟨w.heap.size + 1, 0, none⟩)]] (0, 0) _ rfl H2.out.cell.1 Try.underlying28 rfl (by kernel_rfl)) rfl ?_
  refine ⟨Both (CellT w.heap.size #[v] tStr) (CellT (w.heap.size + 1) #[.string ⟨z.toArray⟩] tTx), _, (CellT.stable _ _ _).both (CellT.stable _ _ _), rfl, ?_, ?_⟩
  · exact .inr ⟨_, _, rfl, enters_of Try.func30 (by kernel_rfl) rfl, (from1_seqs HS.out hΦ w.heap.size (w.heap.size + 1) z).impl (fun _ _ q => Both.toL q) (fun _ _ q => Both.toR q)⟩
  · exact (H2.out.drop.impl fun _ q => Both.toL (Both.toL q.assoc))
set_option maxRecDepth 100000 in
set_option maxHeartbeats 2000000 in
theorem sift_at {vs vt : Value} {L M : List (List UInt8)} (hs : IsStr W Φ vs L) (ht : IsStr W Φ vt M) (hΦ : Stable Φ) (hR : Stable R) (h : At W w (Both Φ R)) (hL : RisesL L) (hM : RisesL M) (hn : M.length ≤ 1099511627776) (b : Bool) :
    Calls Try.prog 31 #[.agg #[vs], .agg #[vt], .bool b] w (MkStr W Φ R (siftL M b L)) := by
  have hs0 := hΦ.both hR
  have h0 := h.newCell hs0 #[vs] tStr
  have h1 := h0.newCell ((CellT.stable _ _ _).both hs0) #[vt] tStr
  rw [show (w.alloc (.cells #[vs] tStr)).heap.size = w.heap.size + 1 from by simp] at h1
  have hst1 := (CellT.stable (w.heap.size + 1) #[vt] tStr).both ((CellT.stable w.heap.size #[vs] tStr).both hs0)
  have h2 := h1.newCell hst1 #[.bool b] tBo
  rw [show ((w.alloc (.cells #[vs] tStr)).alloc (.cells #[vt] tStr)).heap.size = w.heap.size + 1 + 1 from by simp] at h2
  have hst2 := (CellT.stable (w.heap.size + 1 + 1) #[.bool b] tBo).both hst1
  have h3 := h2.newCell hst2 #[.func (.func 46) #[] #[.pointer (some ⟨w.heap.size + 1, 0, none⟩), .pointer (some ⟨w.heap.size, 0, none⟩), .pointer (some ⟨w.heap.size + 1 + 1, 0, none⟩)]] tStr
  rw [show (((w.alloc (.cells #[vs] tStr)).alloc (.cells #[vt] tStr)).alloc (.cells #[.bool b] tBo)).heap.size = w.heap.size + 1 + 1 + 1 from by simp] at h3
  have HS := Lib.hid hs
  have HT := Lib.hid ht
  have H3 := Lib.hid h3
  clear h0 h1 h h2 h3 hs ht
  go_enter Try.func31, Try.ntmps31
  (repeat' (first | (go_big_may; fail) | go_values | go_skip | go_guarded | go_step | go_upon | go_back | dsimp only))
  (try simp only [Exit.inBlock, Exit.then])
  refine bodyPost_ret (results_cell_row rfl _ _ (w.heap.size + 1 + 1 + 1) tStr #[.func (.func 46) #[] #[.pointer (some ⟨w.heap.size + 1, 0, none⟩), .pointer (some ⟨w.heap.size, 0, none⟩), .pointer (some ⟨w.heap.size + 1 + 1, 0, none⟩)]] (0, 0) _ rfl H3.out.cell.1 Try.underlying28 rfl (by kernel_rfl)) rfl ?_
  refine ⟨Both (CellT (w.heap.size + 1) #[vt] tStr) (Both (CellT w.heap.size #[vs] tStr) (CellT (w.heap.size + 1 + 1) #[.bool b] tBo)), _, (CellT.stable _ _ _).both ((CellT.stable _ _ _).both (CellT.stable _ _ _)), rfl, ?_, ?_⟩
  · exact .inr ⟨_, _, rfl, enters_of Try.func46 (by kernel_rfl) rfl,
      (sift1_seqs HS.out HT.out hΦ hL hM hn (w.heap.size + 1) w.heap.size (w.heap.size + 1 + 1) b).impl (fun _ _ q => Both.toL (Both.mono (fun _ _ q => Both.toL q) q)) (fun _ _ q => Both.mono (fun _ _ q => Both.toR q) (Both.toR q))⟩
  · exact (H3.out.drop.push3.impl fun _ q => Both.toL (Both.toL (Both.mono (fun _ _ q => Both.toL q) q)))
set_option maxRecDepth 100000 in
set_option maxHeartbeats 2000000 in
theorem Minus_at {vs vt : Value} {L M : List (List UInt8)} (hs : IsStr W Φ vs L) (ht : IsStr W Φ vt M) (hΦ : Stable Φ) (hR : Stable R) (h : At W w (Both Φ R)) (hL : RisesL L) (hM : RisesL M) (hn : M.length ≤ 1099511627776) :
    Calls Try.prog 18 #[.agg #[vs], .agg #[vt]] w (MkStr W Φ R (minusL L M)) := by
  have hs0 := hΦ.both hR
  have h0 := (h.alloc hs0 (.cells #[vs] tStr)).alloc hs0 (.cells #[vt] tStr)
  have h1 := (h0.newCell hs0 #[.nilFunc] tStr).swap
  rw [show ((w.alloc (.cells #[vs] tStr)).alloc (.cells #[vt] tStr)).heap.size = w.heap.size + 1 + 1 from by simp] at h1
  have hR1 := (CellT.stable (w.heap.size + 1 + 1) #[.nilFunc] tStr).both hR
  have HC := Lib.hid (sift_at hs ht hΦ hR1 h1 hL hM hn false)
  clear h0 h1 h hs ht
  go_enter Try.func18, Try.ntmps18
  (repeat' (first | (go_big_may; fail) | go_values | go_skip | go_guarded | go_step | go_upon | go_back | dsimp only))
  refine HC.out.mono ?_
  rintro e w2 ⟨N, u, hN, rfl, hq, h2⟩
  have h3 := h2.swap
  have c3 := h3.cellF (o := 0) (u := .nilFunc) rfl
  have hst := store_one (P := Try.prog) hq.one c3.1 c3.2.1
  have h4 := h3.setCell ((hN.both hΦ).both hR) 0 u
  have HQ := Lib.hid hq
  have H4 := Lib.hid h4
  clear h2 h3 c3 h4 hq HC
  generalize w.heap.size + 1 + 1 = kr at *
  (repeat' (first | (go_big_may; fail) | go_values | go_skip | go_guarded | go_step | go_upon | go_back | dsimp only))
  (try simp only [Exit.inBlock, Exit.then])
  refine bodyPost_ret (results_cell_row rfl _ _ kr tStr #[u] (0, 0) _ rfl H4.out.cell.1 Try.underlying28 rfl (by kernel_rfl)) rfl ?_
  have hq2 := HQ.out
  rw [sift_minus] at hq2
  exact ⟨N, u, hN, rfl, hq2, H4.out.drop⟩
set_option maxRecDepth 100000 in
set_option maxHeartbeats 2000000 in
theorem Common_at {vs vt : Value} {L M : List (List UInt8)} (hs : IsStr W Φ vs L) (ht : IsStr W Φ vt M) (hΦ : Stable Φ) (hR : Stable R) (h : At W w (Both Φ R)) (hL : RisesL L) (hM : RisesL M) (hn : M.length ≤ 1099511627776) :
    Calls Try.prog 24 #[.agg #[vs], .agg #[vt]] w (MkStr W Φ R (commonW L M)) := by
  have hs0 := hΦ.both hR
  have h0 := (h.alloc hs0 (.cells #[vs] tStr)).alloc hs0 (.cells #[vt] tStr)
  have h1 := (h0.newCell hs0 #[.nilFunc] tStr).swap
  rw [show ((w.alloc (.cells #[vs] tStr)).alloc (.cells #[vt] tStr)).heap.size = w.heap.size + 1 + 1 from by simp] at h1
  have hR1 := (CellT.stable (w.heap.size + 1 + 1) #[.nilFunc] tStr).both hR
  have HC := Lib.hid (sift_at hs ht hΦ hR1 h1 hL hM hn true)
  clear h0 h1 h hs ht
  go_enter Try.func24, Try.ntmps24
  (repeat' (first | (go_big_may; fail) | go_values | go_skip | go_guarded | go_step | go_upon | go_back | dsimp only))
  refine HC.out.mono ?_
  rintro e w2 ⟨N, u, hN, rfl, hq, h2⟩
  have h3 := h2.swap
  have c3 := h3.cellF (o := 0) (u := .nilFunc) rfl
  have hst := store_one (P := Try.prog) hq.one c3.1 c3.2.1
  have h4 := h3.setCell ((hN.both hΦ).both hR) 0 u
  have HQ := Lib.hid hq
  have H4 := Lib.hid h4
  clear h2 h3 c3 h4 hq HC
  generalize w.heap.size + 1 + 1 = kr at *
  (repeat' (first | (go_big_may; fail) | go_values | go_skip | go_guarded | go_step | go_upon | go_back | dsimp only))
  (try simp only [Exit.inBlock, Exit.then])
  refine bodyPost_ret (results_cell_row rfl _ _ kr tStr #[u] (0, 0) _ rfl H4.out.cell.1 Try.underlying28 rfl (by kernel_rfl)) rfl ?_
  have hq2 := HQ.out
  rw [sift_common] at hq2
  exact ⟨N, u, hN, rfl, hq2, H4.out.drop⟩
end
end Go.Proofs.Ytbmfaffnbjmipaa

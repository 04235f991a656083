/- streams: Of, From, Minus, Common walked as far as they make streams. -/
import Derived.Test.YtgeabmmicofanaaGreatDoorBuSpLaw06
import Derived.Test.YtgeabmmicofanaaGreatDoorBuSpLaw25
import Derived.Test.YtgeabmmicofanaaGreatDoorBuSpLaw26
import Derived.Laws.EntriesVeiled
set_option linter.unusedSimpArgs false
set_option linter.unusedVariables false
namespace Go.Proofs.YtgeabmmicofanaaGreatDoor
open Go.RowKit

theorem Values_calls (w : World) (ao : Option Addr) (n cap : Nat) :
    Calls Tryz.prog 31 #[.slice ao n cap] w fun e w' => e = .returned (.func (.func 59) #[] #[.pointer (some ⟨w.heap.size, 0, none⟩)]) ∧ w' = w.alloc (.cells #[.slice ao n cap] tTxs) := by
  go_enter Tryz.func31, Tryz.ntmps31
  (repeat' (first | (go_big_may; fail) | go_values | go_skip | go_guarded | go_step | go_upon | go_back | dsimp only))
  go_ret
  exact ⟨rfl, rfl⟩
set_option maxRecDepth 100000 in
set_option maxHeartbeats 2000000 in
theorem SOf_at {W w : World} {R : Thing} {v : Value} {L : List (List UInt8)} (h : At W w R) (hR : Stable R) (hrd : RdRow w v L.length 1 (strs L)) (hn : L.length ≤ 1099511627776) :
    Calls Tryz.prog 8 #[v] w fun e w' => ∃ Φ u, Stable Φ ∧ e = .returned (.agg #[u]) ∧ IsStr W Φ u (ofL L) ∧ At W w' (Both Φ R) := by
  have h1 := h.newCell hR #[.nilFunc] tStr
  have hb0 : Below w.heap.size w (w.alloc (.cells #[.nilFunc] tStr)) := (Below.refl _ _).alloc (Nat.le_refl _) _
  have hcl := Clone_strs (hrd.below hb0) (by omega)
  have hs1 := (CellT.stable w.heap.size #[.nilFunc] tStr).both hR
  have HCL := Lib.hid hcl
  have H1 := Lib.hid h1
  clear hcl h1 hrd h
  go_enter Tryz.func8, Tryz.ntmps8
  (repeat' (first | (go_big_may; fail) | go_values | go_skip | go_guarded | go_step | go_upon | go_back | dsimp only))
  refine HCL.out.mono ?_
  rintro e w1 ⟨v1, rfl, ho, hb1⟩
  have h2 := H1.out.newRowG hs1 hb1 ho
  have HS := Lib.hid (Sort_at h2 hs1 (by omega))
  clear h2 ho hb1 HCL
  (repeat' (first | (go_big_may; fail) | go_values | go_skip | go_guarded | go_step | go_upon | go_back | dsimp only))
  refine HS.out.mono ?_
  rintro e w2 ⟨rfl, h3⟩
  rw [show L.length = (L.mergeSort fun x y => decide (x ≤ y)).length by simp] at h3
  have hc := Compact_at h3 hs1 (by simp; omega)
  rw [compact_sort] at hc
  have HC := Lib.hid hc
  clear hc h3 HS
  (repeat' (first | (go_big_may; fail) | go_values | go_skip | go_guarded | go_step | go_upon | go_back | dsimp only))
  refine HC.out.mono ?_
  rintro e w3 ⟨v3, rfl, h4⟩
  obtain ⟨ao, cap, rfl, _, _⟩ := own_shape h4.rowG
  have HV := Lib.hid (Values_calls w3 ao (ofL L).length cap)
  have H4 := Lib.hid h4
  clear h4 HC
  (repeat' (first | (go_big_may; fail) | go_values | go_skip | go_guarded | go_step | go_upon | go_back | dsimp only))
  refine HV.out.mono ?_
  rintro e w4 ⟨rfl, hw4⟩
  have h5 := H4.out.newCell ((RowG.stable _ _ _ _ _).both hs1) #[.slice ao (ofL L).length cap] tTxs
  rw [← hw4] at h5
  have h6 := h5.toL.swap
  have c6 := h6.cellF (o := 0) (u := .nilFunc) rfl
  have g6 := c6.1
  have f6 := c6.2.1
  have h7 := h6.setCell ((ValT.stable _ _ _).both hR) 0 (.func (.func 59) #[] #[.pointer (some ⟨w3.heap.size, 0, none⟩)])
  have H7 := Lib.hid h7
  clear h5 h6 c6 h7 HV H4 hw4
  generalize w3.heap.size = kb at *
  generalize w.heap.size = kr at *
  (repeat' (first | (go_big_may; fail) | go_values | go_skip | go_guarded | go_step | go_upon | go_back | dsimp only))
  (try simp only [Exit.inBlock, Exit.then])
  refine bodyPost_ret (results_cell_row rfl _ _ kr tStr #[.func (.func 59) #[] #[.pointer (some ⟨kb, 0, none⟩)]] (0, 0) _ rfl H7.out.cell.1 Tryz.underlying40 rfl (by kernel_rfl)) rfl ?_
  exact ⟨_, _, ValT.stable _ _ _, rfl, .inr ⟨_, _, rfl, enters_of Tryz.func59 (by kernel_rfl) rfl, values1_seqs W kb (.slice ao (ofL L).length cap) (ofL L) (Nat.le_trans (ofL_len L) hn)⟩, H7.out.drop⟩
end Go.Proofs.YtgeabmmicofanaaGreatDoor

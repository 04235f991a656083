/- streams: Union walked. -/
import Derived.Test.YtbmfaffnbjmipaaStUni
namespace Go.Proofs.Ytbmfaffnbjmipaa
open Go.RowKit

theorem info_St : (Try.prog.info? tStr).map (fun i => (i.zero, i.size, i.bytes)) = some (some (.agg #[.nilFunc]), 1, 8) := by kernel_rfl
theorem IsStrs.oneCell {W : World} {Φ : Thing} {vs : List Value} {Ls : List (List (List UInt8))} (h : IsStrs W Φ vs Ls) : ∀ u ∈ vs, u.oneCell' = true := fun u hu => by
  obtain ⟨i, hi, rfl⟩ := List.mem_iff_getElem.1 hu
  have hi2 : i < Ls.length := by rw [← h.1]; exact hi
  exact (h.2 i _ _ (List.getElem?_eq_getElem hi) (List.getElem?_eq_getElem hi2)).one
set_option maxHeartbeats 800000 in
theorem CloneS_calls (vs : List Value) (v : Value) (w : World) (hv : RdRow w v vs.length 1 vs) (hone : ∀ u ∈ vs, u.oneCell' = true) (hlen : vs.length ≤ 1099511627776) :
    Calls Try.prog 32 #[v] w fun e w' => ∃ v', e = .returned v' ∧ w'.ownsRow w.heap.size tStr 1 v' vs.length vs ∧ Below w.heap.size w w' := by
  obtain ⟨a, cap, rfl, hc1, hc2⟩ := hv.shape
  cases a with
  | none =>
    have hz : vs = [] := by
      cases vs with
      | nil => rfl
      | cons x vs =>
        obtain ⟨_, a, cp, e, _, _, hc⟩ := hv
        obtain ⟨b, off, e1, _⟩ := hc 0 x rfl
        cases e
        cases e1
    subst hz
    clear hv
    have heq : ∀ wz : World, (binOp .eql 44 (.slice none 0 cap) (.slice none 0 0)).run Try.prog wz = .ok (.bool true) wz := fun wz => by kernel_rfl
    simp only [List.length_nil]
    go_enter Try.func32, Try.ntmps32
    (repeat' (first | (go_big_may; fail) | go_values | go_skip | go_guarded | go_step | go_upon | go_back | dsimp only))
    go_ret
    exact ⟨_, rfl, World.ownsRow_nil _ _ _ _, Below.refl _ _⟩
  | some a =>
    have heq : ∀ wz : World, (binOp .eql 44 (.slice (some a) vs.length cap) (.slice none 0 0)).run Try.prog wz = .ok (.bool false) wz := fun wz => by kernel_rfl
    have hba : Below w.heap.size w (w.alloc (.cells #[] tStr)) := (Below.refl _ _).alloc (Nat.le_refl _) _
    have HV := Lib.hid (hv.below hba)
    have h0 : (w.alloc (.cells #[] tStr)).ownsRow w.heap.size tStr 1 (.slice (some ⟨w.heap.size, 0, none⟩) 0 0) 0 [] := by
      refine ⟨rfl, .inr ⟨w.heap.size, 0, #[], rfl, Nat.le_refl _, heap_alloc_new w _, Nat.le_refl _, by simp [maxLen], rfl, rfl⟩⟩
    clear hv
    go_enter Try.func32, Try.ntmps32
    (repeat' (first | (go_big_may; (at_builtin; go_must (refine wpList_append_rd rfl _ _ 44 tStr rfl Try.underlying44 info_St rfl (by decide) rfl h0 rfl HV.out hone (by simp) (by unfold maxLen; omega) (by omega) ?_); intro v1 w1 hown1 hgrow1 _)) | go_values | go_skip | go_guarded | go_step | go_upon | go_back | dsimp only))
    go_ret
    exact ⟨_, rfl, by simpa using hown1, grownOwn hba (by simp) h0 hgrow1⟩
set_option maxRecDepth 100000 in
set_option maxHeartbeats 2000000 in
theorem SUnion_at {W w : World} {Φ R : Thing} {v : Value} {vs : List Value} {Ls : List (List (List UInt8))} (hs : IsStrs W Φ vs Ls) (hΦ : Stable Φ) (hR : Stable R) (h : At W w (Both Φ R)) (hrd : RdRow w v vs.length 1 vs) (hLs : ∀ L ∈ Ls, RisesL L) (hn : Ls.length ≤ 274877906944) (ht : Ls.flatten.length ≤ 274877906944) :
    Calls Try.prog 20 #[v] w (MkStr W Φ R (cu.unionL Ls)) := by
  have hs0 := hΦ.both hR
  have hvl : vs.length ≤ 1099511627776 := by rw [hs.1]; omega
  have h1 := h.newCell hs0 #[.nilFunc] tStr
  have hs1 := (CellT.stable w.heap.size #[.nilFunc] tStr).both hs0
  have HCL := Lib.hid (CloneS_calls vs v _ (hrd.below ((Below.refl _ _).alloc (Nat.le_refl _) (.cells #[.nilFunc] tStr))) hs.oneCell hvl)
  have HS := Lib.hid hs
  have H1 := Lib.hid h1
  clear h h1 hrd hs
  go_enter Try.func20, Try.ntmps20
  (repeat' (first | (go_big_may; fail) | go_values | go_skip | go_guarded | go_step | go_upon | go_back | dsimp only))
  refine HCL.out.mono ?_
  rintro e w1 ⟨v1, rfl, ho, hb1⟩
  obtain ⟨ao, cap, rfl, _, _⟩ := own_shape ho
  have h2 := H1.out.newRowG hs1 hb1 ho
  have h3 := h2.newCell ((RowG.stable _ _ _ _ _).both hs1) #[.slice ao vs.length cap] tStrs
  have h4 := h3.pull3
  have c4 := h4.cellF (o := 0) (u := .nilFunc) rfl
  have g4 := c4.1
  have f4 := c4.2.1
  have h5 := h4.setCell ((CellT.stable w1.heap.size #[.slice ao vs.length cap] tStrs).both ((RowG.stable tStr 1 (.slice ao vs.length cap) vs.length vs).both hs0)) 0 (.func (.func 33) #[] #[.pointer (some ⟨w1.heap.size, 0, none⟩)])
  have H5 := Lib.hid h5
  clear h2 h3 h4 c4 h5 HCL ho hb1 H1
  generalize w.heap.size = kr at *
  (repeat' (first | (go_big_may; fail) | go_values | go_skip | go_guarded | go_step | go_upon | go_back | dsimp only))
  (try simp only [Exit.inBlock, Exit.then])
  refine bodyPost_ret (results_cell_row rfl _ _ kr tStr #[.func (.func 33) #[] #[.pointer (some ⟨w1.heap.size, 0, none⟩)]] (0, 0) _ rfl H5.out.cell.1 Try.underlying28 rfl (by kernel_rfl)) rfl ?_
  refine ⟨Both (CellT w1.heap.size #[.slice ao vs.length cap] tStrs) (RowG tStr 1 (.slice ao vs.length cap) vs.length vs), _, (CellT.stable _ _ _).both (RowG.stable _ _ _ _ _), rfl, ?_, ?_⟩
  · exact .inr ⟨_, _, rfl, enters_of Try.func33 (by kernel_rfl) rfl, (union1_seqs HS.out hΦ hLs hn ht w1.heap.size (.slice ao vs.length cap)).impl (fun _ _ q => Both.toL q) (fun _ _ q => Both.toR q)⟩
  · exact H5.out.drop.impl fun _ q => Both.toL (Both.toL (Both.mono (fun _ _ q => q) q))
end Go.Proofs.Ytbmfaffnbjmipaa

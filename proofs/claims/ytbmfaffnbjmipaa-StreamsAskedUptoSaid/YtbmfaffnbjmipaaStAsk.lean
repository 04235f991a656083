/- streams: List and Has walked. -/
import Derived.Test.YtbmfaffnbjmipaaStAll
import Derived.Test.YtbmfaffnbjmipaaOrdL
namespace Go.Proofs.Ytbmfaffnbjmipaa
open Go.RowKit
attribute [local go_sem] Oper.semAt_some

set_option maxRecDepth 100000 in
set_option maxHeartbeats 2000000 in
theorem List_at {W w : World} {Φ R : Thing} {v : Value} {L : List (List UInt8)} (hs : IsStr W Φ v L) (hΦ : Stable Φ) (hR : Stable R) (h : At W w (Both Φ R)) (hn : L.length ≤ 1099511627776) {m : Int} (hm1 : 1 ≤ m) (hm2 : m ≤ 9223372036854775807) :
    Calls Try.prog 14 #[.agg #[v], .int .i64 m] w fun e w' => ∃ u, e = .returned u ∧ At W w' (Both (RowG tTx 1 u (L.take m.toNat).length (strs (L.take m.toNat))) (Both Φ R)) := by
  have hs0 := hΦ.both hR
  have hlt : ¬ m < 1 := by omega
  have h1 := (((h.alloc hs0 (.cells #[v] tStr)).newCell hs0 #[.int .i64 m] tNum).noRowG ((CellT.stable _ _ _).both hs0) tTx 1).newCell ((RowG.stable _ _ _ _ _).both ((CellT.stable _ _ _).both hs0)) #[.slice none 0 0] tTxs
  rw [show (w.alloc (.cells #[v] tStr)).heap.size = w.heap.size + 1 from by simp, show ((w.alloc (.cells #[v] tStr)).alloc (.cells #[.int .i64 m] tNum)).heap.size = w.heap.size + 1 + 1 from by simp] at h1
  have g1 := (h1.pull3.cellF (o := 0) (u := .int .i64 m) rfl).1
  (refine (callsIn_wide (n := 0)).1 (callsIn_of_wp_marks Try.func14 rfl trivial (wpIn_wide.2 ?_) rfl); simp only [Try.ntmps14, List.size_toArray, List.length_cons, List.length_nil, Nat.reduceAdd, Nat.reduceSub, Array.replicate_succ, Array.replicate_zero, List.push_toArray, List.append_toArray, List.nil_append, List.cons_append])
  (repeat' (first | (go_big_may; (go_at_call 22; refine (All_calls hs _).mono ?_; rintro e w1 ⟨gf, lb, rfl, heg, hq, hb1⟩)) | go_values | go_skip | go_guarded | go_step | go_upon | go_back | dsimp only))
  have hst1 := (CellT.stable (w.heap.size + 1 + 1) #[.slice none 0 0] tTxs).both ((RowG.stable tTx 1 (.slice none 0 0) 0 []).both ((CellT.stable (w.heap.size + 1) #[.int .i64 m] tNum).both hs0))
  have hw1 := ((At.intoEx (Φ := fun v => Both (CellT (w.heap.size + 1 + 1) #[v] tTxs) (RowG tTx 1 v ([] : List (List UInt8)).length (strs []))) _ (h1.mono hst1 hb1).toL).toL).withW (show (([] : List (List UInt8)).length : Int) < m by simp; omega)
  clear h1 hb1 hst1
  generalize w.heap.size + 1 + 1 = ko at *
  generalize w.heap.size + 1 = km at *
  generalize ha0 : Act.mk _ _ = a0
  have hIs : ∀ p q, Stable (WithT (Both (OutT ko p) (CellT km #[.int .i64 m] tNum)) q) := fun p q => WithT.stable ((OutT.stable _ _).both (CellT.stable _ _ _)) _
  refine range_at (L := L) hq (by rw [← ha0]; rfl) heg (fun _ => rfl) hΦ hR (fun p => WithT (Both (OutT ko p) (CellT km #[.int .i64 m] tNum)) ((p.length : Int) < m)) (fun _ => hIs _ _)
    (fun c p => WithT (OutT ko p) (c = Code.exit 0 ∧ (p.length : Int) = m)) (fun _ _ => WithT.stable (OutT.stable _ _) _)
    (fun p x a X => a = { tmps := (foldTmps #[11] (encS x) a0.tmps).setIfInBounds 6 (.string ⟨x.toArray⟩), defers := [] } ∧ X = WithT (Both (OutT ko p) (CellT km #[.int .i64 m] tNum)) ((p.length : Int) < m)) hw1 ?assign ?body ?done ?stop
  case assign =>
    intro l pre x w2 Ψ hp hΨ h2
    (subst ha0; simp only [fold_one, encS, List.setIfInBounds_toArray, List.set_cons_zero, List.set_cons_succ])
    (repeat' (first | (gi_big_may; fail) | go_values | gi_guarded | gi_step | gi_upon | gi_back | dsimp only))
    exact ⟨_, hIs _ _, ⟨trivial, rfl⟩, h2⟩
  case body =>
    rintro l pre x w2 R2 a2 X hp hR2 hX ⟨rfl, rfl⟩ h2
    have hlen := hp.length_le
    rw [List.length_append, List.length_singleton] at hlen
    obtain ⟨hlm, h2⟩ := h2.word
    obtain ⟨u, h3⟩ := At.ex h2.toR
    have h3 := h3.toR
    have g0 := (h3.cellF (o := 0) (u := u) rfl).1
    have g1 := (h3.pull3.cellF (o := 0) (u := .int .i64 m) rfl).1
    have HH := Lib.hid h3.swap
    have hRR := (CellT.stable ko #[u] tTxs).both ((CellT.stable km #[.int .i64 m] tNum).both (hΦ.both hR2))
    have HR := Lib.hid hRR
    (subst ha0; simp only [fold_one, encS, List.setIfInBounds_toArray, List.set_cons_zero, List.set_cons_succ])
    by_cases hm : (pre.length : Int) + 1 = m
    · have hmb : ((pre.length : Int) + 1 == m) = true := by simpa using hm
      (repeat' (first | (gi_big_may; ((gi_at_builtin; go_must (refine wpListIn_append_to rfl _ _ 22 9 rfl Try.underlying22 info_Tx rfl (by decide) rfl (HH.out) (HR.out) rfl (by first | rfl | simp) rfl ((by simp [Value.oneCell'])) (by unfold maxLen; omega) (by omega) ?_); intro ao cap w4 h5 _); have c5 := h5.drop.cellF (o := 0) (u := u) rfl; have c6 := c5.1; have c7 := c5.2.1; have c8 := (h5.drop.drop.cellF (o := 0) (u := .int .i64 m) rfl).1; have hne := h5.drop.cellNe.symm)) | go_values | gi_guarded | gi_step | gi_upon | gi_back | dsimp only))
      have h6 := h5.swap.setCell ((RowG.stable _ _ _ _ _).both ((CellT.stable _ _ _).both (hΦ.both hR2))) 0 (.slice ao (pre.length + 1) cap)
      show At W _ (Both (WithT (OutT ko (pre ++ [x])) (Code.exit 0 = Code.exit 0 ∧ ((pre ++ [x]).length : Int) = m)) _)
      refine At.withW (At.intoEx (.slice ao (pre.length + 1) cap) ((?_ : At W _ (Both (CellT ko #[.slice ao (pre.length + 1) cap] tTxs) (Both (RowG tTx 1 (.slice ao (pre.length + 1) cap) (pre ++ [x]).length (strs (pre ++ [x]))) (Both Φ R2))))).toL) ⟨rfl, by simpa using hm⟩
      simpa [strs] using h6.pull3.drop
    · have hmb : ((pre.length : Int) + 1 == m) = false := by simpa using hm
      (repeat' (first | (gi_big_may; ((gi_at_builtin; go_must (refine wpListIn_append_to rfl _ _ 22 9 rfl Try.underlying22 info_Tx rfl (by decide) rfl (HH.out) (HR.out) rfl (by first | rfl | simp) rfl ((by simp [Value.oneCell'])) (by unfold maxLen; omega) (by omega) ?_); intro ao cap w4 h5 _); have c5 := h5.drop.cellF (o := 0) (u := u) rfl; have c6 := c5.1; have c7 := c5.2.1; have c8 := (h5.drop.drop.cellF (o := 0) (u := .int .i64 m) rfl).1; have hne := h5.drop.cellNe.symm)) | go_values | gi_guarded | gi_step | gi_upon | gi_back | dsimp only))
      have h6 := h5.swap.setCell ((RowG.stable _ _ _ _ _).both ((CellT.stable _ _ _).both (hΦ.both hR2))) 0 (.slice ao (pre.length + 1) cap)
      show At W _ (Both (WithT (Both (OutT ko (pre ++ [x])) (CellT km #[.int .i64 m] tNum)) (((pre ++ [x]).length : Int) < m)) _)
      refine At.withW (At.intoEx (.slice ao (pre.length + 1) cap) ((?_ : At W _ (Both (CellT ko #[.slice ao (pre.length + 1) cap] tTxs) (Both (RowG tTx 1 (.slice ao (pre.length + 1) cap) (pre ++ [x]).length (strs (pre ++ [x]))) (Both (CellT km #[.int .i64 m] tNum) (Both Φ R2)))))).toL).toL (by simp; omega)
      simpa [strs] using h6
  case done =>
    intro D w2 h2
    obtain ⟨hlm, h2⟩ := h2.word
    obtain ⟨u, h3⟩ := At.ex h2.toR
    have h3 := h3.toR
    have c0 := (h3.cellF (o := 0) (u := u) rfl).1
    have eM : L.take m.toNat = L := List.take_of_length_le (by omega)
    subst ha0
    (repeat' (first | (go_big_may; fail) | go_values | go_skip | go_guarded | go_step | go_upon | go_back | dsimp only))
    show LeavesInM _ _ _ _ _ _ _ _ _
    exact leaveM h3.pull5 ((CellT.stable _ _ _).both ((RowG.stable _ _ _ _ _).both ((CellT.stable _ _ _).both hs0))) fun w3 h3 _ => leave0 (v := u) (results_tmp (t := 4) rfl _ _ _) ⟨u, rfl, by rw [eM]; exact h3.drop.swap.drop⟩
  case stop =>
    intro D c pre w2 hp h2
    obtain ⟨⟨hc, hlm⟩, h2'⟩ := h2.word
    subst hc
    obtain ⟨u, h3⟩ := At.ex h2'
    have h3 := h3.toR
    have c0 := (h3.cellF (o := 0) (u := u) rfl).1
    have ep : L.take m.toNat = pre := by
      obtain ⟨t, rfl⟩ := hp
      rw [show m.toNat = pre.length by omega, List.take_left' rfl]
    subst ha0
    (repeat' (first | (go_big_may; fail) | go_values | go_skip | go_guarded | go_step | go_upon | go_back | dsimp only))
    show LeavesInM _ _ _ _ _ _ _ _ _
    exact leaveM h3.pull4 ((CellT.stable _ _ _).both ((RowG.stable _ _ _ _ _).both hs0)) fun w3 h3 _ => leave0 (v := u) (results_tmp (t := 4) rfl _ _ _) ⟨u, rfl, by rw [ep]; exact h3.drop⟩
/-- The first text that is not below w tells whether w is among them. -/
theorem has_first {L pre : List (List UInt8)} {x w : List UInt8} (hL : RisesL L) (hp : pre ++ [x] <+: L) (hb : ∀ y ∈ pre, LtW y w) (hx : Op.bytesLess x w = false) : (x == w) = decide (w ∈ L) := by
  obtain ⟨t, rfl⟩ := hp
  by_cases e : x = w
  · subst e; simp
  · have hxw : LtW w x := bl_total hx e
    rw [beq_eq_false_iff_ne.2 e]
    symm
    rw [decide_eq_false_iff_not]
    intro hm
    have h1 := List.pairwise_append.1 hL
    rcases List.mem_append.1 hm with h2 | h2
    · rcases List.mem_append.1 h2 with h3 | h3
      · exact absurd rfl (LtW.ne (hb w h3))
      · simp at h3; exact e h3.symm
    · exact absurd rfl (LtW.ne (bl_trans hxw (h1.2.2 x (by simp) w h2)))
theorem has_none {L : List (List UInt8)} {w : List UInt8} (hb : ∀ y ∈ L, LtW y w) : decide (w ∈ L) = false := by
  rw [decide_eq_false_iff_not]
  exact fun h => absurd rfl (LtW.ne (hb w h))
abbrev tBo : TypeId := 4
set_option maxRecDepth 100000 in
set_option maxHeartbeats 2000000 in
theorem Has_at {W w : World} {Φ R : Thing} {v : Value} {L : List (List UInt8)} (hs : IsStr W Φ v L) (hΦ : Stable Φ) (hR : Stable R) (h : At W w (Both Φ R)) (hL : RisesL L) (z : List UInt8) :
    Calls Try.prog 16 #[.agg #[v], .string ⟨z.toArray⟩] w fun e w' => e = .returned (.bool (decide (z ∈ L))) ∧ At W w' (Both Φ R) := by
  have hs0 := hΦ.both hR
  have h1 := ((h.alloc hs0 (.cells #[v] tStr)).newCell hs0 #[.string ⟨z.toArray⟩] tTx).newCell ((CellT.stable _ _ _).both hs0) #[.bool false] tBo
  rw [show (w.alloc (.cells #[v] tStr)).heap.size = w.heap.size + 1 from by simp, show ((w.alloc (.cells #[v] tStr)).alloc (.cells #[.string ⟨z.toArray⟩] tTx)).heap.size = w.heap.size + 1 + 1 from by simp] at h1
  (refine (callsIn_wide (n := 0)).1 (callsIn_of_wp_marks Try.func16 rfl trivial (wpIn_wide.2 ?_) rfl); simp only [Try.ntmps16, List.size_toArray, List.length_cons, List.length_nil, Nat.reduceAdd, Nat.reduceSub, Array.replicate_succ, Array.replicate_zero, List.push_toArray, List.append_toArray, List.nil_append, List.cons_append])
  (repeat' (first | (go_big_may; (go_at_call 22; refine (All_calls hs _).mono ?_; rintro e w1 ⟨gf, lb, rfl, heg, hq, hb1⟩)) | go_values | go_skip | go_guarded | go_step | go_upon | go_back | dsimp only))
  have hst1 := (CellT.stable (w.heap.size + 1 + 1) #[.bool false] tBo).both ((CellT.stable (w.heap.size + 1) #[.string ⟨z.toArray⟩] tTx).both hs0)
  have hw1 := ((h1.mono hst1 hb1).toL).withW (show ∀ y ∈ ([] : List (List UInt8)), LtW y z by simp)
  clear h1 hb1 hst1
  generalize w.heap.size + 1 + 1 = kr at *
  generalize w.heap.size + 1 = kz at *
  generalize ha0 : Act.mk _ _ = a0
  have hIs : ∀ p, Stable (WithT (Both (CellT kr #[.bool false] tBo) (CellT kz #[.string ⟨z.toArray⟩] tTx)) p) := fun p => WithT.stable ((CellT.stable _ _ _).both (CellT.stable _ _ _)) _
  refine range_at (L := L) hq (by rw [← ha0]; rfl) heg (fun _ => rfl) hΦ hR (fun p => WithT (Both (CellT kr #[.bool false] tBo) (CellT kz #[.string ⟨z.toArray⟩] tTx)) (∀ y ∈ p, LtW y z)) (fun _ => hIs _)
    (fun c p => WithT (CellT kr #[.bool (decide (z ∈ L))] tBo) (c = Code.ret)) (fun _ _ => WithT.stable (CellT.stable _ _ _) _)
    (fun p x a X => a = { tmps := (foldTmps #[8] (encS x) a0.tmps).setIfInBounds 5 (.string ⟨x.toArray⟩), defers := [] } ∧ X = WithT (Both (CellT kr #[.bool false] tBo) (CellT kz #[.string ⟨z.toArray⟩] tTx)) (∀ y ∈ p, LtW y z)) hw1 ?assign ?body ?done ?stop
  case assign =>
    intro l pre x w2 Ψ hp hΨ h2
    (subst ha0; simp only [fold_one, encS, List.setIfInBounds_toArray, List.set_cons_zero, List.set_cons_succ])
    (repeat' (first | (gi_big_may; fail) | go_values | gi_guarded | gi_step | gi_upon | gi_back | dsimp only))
    exact ⟨_, hIs _, ⟨trivial, rfl⟩, h2⟩
  case body =>
    rintro l pre x w2 R2 a2 X hp hR2 hX ⟨rfl, rfl⟩ h2
    obtain ⟨hlm, h2⟩ := h2.word
    have h3 := h2.toR
    have c0 := h3.cellF (o := 0) (u := .bool false) rfl
    have f0 := c0.2.1
    have g0 := c0.1
    clear c0
    have g1 := (h3.drop.cellF (o := 0) (u := .string ⟨z.toArray⟩) rfl).1
    (subst ha0; simp only [fold_one, encS, List.setIfInBounds_toArray, List.set_cons_zero, List.set_cons_succ])
    cases hlt : Op.bytesLess x z with
    | true =>
      (repeat' (first | (gi_big_may; fail) | go_values | gi_guarded | gi_step | gi_upon | gi_back | dsimp only))
      show At W _ (Both (WithT _ _) _)
      exact At.withW h2 fun y hy => (List.mem_append.1 hy).elim (hlm y) (fun e => by simp at e; subst e; exact hlt)
    | false =>
      have hf := has_first hL hp hlm hlt
      (repeat' (first | (gi_big_may; fail) | go_values | gi_guarded | gi_step | gi_upon | gi_back | dsimp only))
      show At W _ (Both (WithT (CellT kr #[.bool (decide (z ∈ L))] tBo) _) _)
      refine At.withW ?_ rfl
      rw [← hf]
      exact (h3.setCell ((CellT.stable _ _ _).both (hΦ.both hR2)) 0 (.bool (x == z))).swap.drop
  case done =>
    intro D w2 h2
    obtain ⟨hlm, h2⟩ := h2.word
    have h3 := h2.toR
    have c0 := h3.cellF (o := 0) (u := .bool false) rfl
    have f0 := c0.2.1
    have g0 := c0.1
    have h4 := h3.setCell ((CellT.stable _ _ _).both (hΦ.both ((ObjT.stable _ _).both hR))) 0 (.bool (decide (z ∈ L)))
    rw [has_none hlm] at h4
    subst ha0
    (repeat' (first | (go_big_may; fail) | go_values | go_skip | go_guarded | go_step | go_upon | go_back | dsimp only))
    show LeavesInM _ _ _ _ _ _ _ _ _
    refine leaveM h4.pull4 ((CellT.stable _ _ _).both ((CellT.stable _ _ _).both hs0)) fun w3 h5 _ => ?_
    have c5 := (h5.cellF (o := 0) (u := .bool false) rfl).1
    exact leave0 (v := .bool false) (by simp [results, Try.f16, go_sem, c5]) ⟨by rw [has_none hlm], h5.drop.drop⟩
  case stop =>
    intro D c pre w2 hp h2
    obtain ⟨hc, h2'⟩ := h2.word
    subst hc
    subst ha0
    (repeat' (first | (go_big_may; fail) | go_values | go_skip | go_guarded | go_step | go_upon | go_back | dsimp only))
    show LeavesInM _ _ _ _ _ _ _ _ _
    refine leaveM h2'.pull3 ((CellT.stable _ _ _).both hs0) fun w3 h5 _ => ?_
    have c5 := (h5.cellF (o := 0) (u := .bool (decide (z ∈ L))) rfl).1
    exact leave0 (v := .bool (decide (z ∈ L))) (by simp [results, Try.f16, go_sem, c5]) ⟨rfl, h5.drop⟩
end Go.Proofs.Ytbmfaffnbjmipaa

/- slices.Values of texts: its iterator gives the slice's texts. · streams: what a stream is; All, laid, Count, List, Has walked. · streams: List and Has walked. -/
import Derived.Test.YtgeabmmicofanaaGreatDoorBuSpLaw05
import Derived.Test.YtgeabmmicofanaaGreatDoorBuSpLaw01
import Derived.Test.YtgeabmmicofanaaGreatDoorProg
import Derived.Shelf.Abstract
import Derived.WalkKit
import Derived.TacticsInMore
import Derived.LoopNIn
import Derived.LoopIn
set_option linter.unusedSimpArgs false
set_option linter.unusedVariables false
namespace Go.Proofs.YtgeabmmicofanaaGreatDoor
open Go.RowKit
attribute [local go_sem] Oper.semAt_some

abbrev encS (x : List UInt8) : Array Value := #[.string ⟨x.toArray⟩]
theorem strs_at {L : List (List UInt8)} {k : Nat} (h : k < L.length) : (strs L)[k]? = some (.string ⟨(L[k]).toArray⟩) := by simp [strs, h]
theorem take_one {α : Type} {L : List α} {k : Nat} (h : k < L.length) : L.take k ++ [L[k]] = L.take (k + 1) := by rw [List.take_add_one, List.getElem?_eq_getElem h]; rfl
/-- The memory of slices.Values: the boxed slice, and its texts. -/
abbrev ValT (b : Nat) (v : Value) (L : List (List UInt8)) : Thing := Both (CellT b #[v] tTxs) (RowG tTx 1 v L.length (strs L))
theorem ValT.stable (b : Nat) (v : Value) (L : List (List UInt8)) : Stable (ValT b v L) := (CellT.stable _ _ _).both (RowG.stable _ _ _ _ _)
set_option maxRecDepth 100000 in
set_option maxHeartbeats 2000000 in
theorem values1_seqs (W : World) (b : Nat) (v : Value) (L : List (List UInt8)) (hn : L.length ≤ 1099511627776) :
    Seqs Tryz.prog encS 59 #[.pointer (some ⟨b, 0, none⟩)] L W (ValT b v L) := by
  intro l J Jx hJ hJx hY w R hR h0
  have hS : ∀ p, Stable (Both (J p) (Both (ValT b v L) R)) := fun p => (hJ p).both ((ValT.stable b v L).both hR)
  have h1 : At W w (Both (CellT b #[v] tTxs) (Both (RowG tTx 1 v L.length (strs L)) (Both (J []) R))) := h0.swap.impl fun _ q => Both.toR q
  have c0 := (h1.cellF (o := 0) (u := v) rfl).1
  rcases Nat.eq_zero_or_pos L.length with hz | hz
  · obtain rfl : L = [] := List.eq_nil_of_length_eq_zero hz
    obtain ⟨ao, cap, rfl, _, _⟩ := own_shape h1.drop.rowG
    (refine (callsIn_wide (n := 0)).1 (callsIn_of_wp Tryz.func59 rfl trivial ?_ rfl); simp only [Tryz.ntmps59, List.size_toArray, List.length_cons, List.length_nil, Nat.reduceAdd, Nat.reduceSub, Array.replicate_succ, Array.replicate_zero, List.push_toArray, List.append_toArray, List.nil_append, List.cons_append])
    (repeat' (first | (gi_big_may; fail) | go_values | gi_guarded | gi_step | gi_upon | gi_back | dsimp only))
    gi_loopw [7] (fun i wr => i = .int .i64 0 ∧ At W wr (Both (J []) (Both (ValT b (.slice ao 0 cap) []) R))) (fun _ _ => 0)
    case atStart => exact ⟨rfl, h0⟩
    case round =>
      obtain ⟨rfl, hJs⟩ := hrel
      (repeat' (first | (gi_big_may; fail) | go_values | gi_guarded | gi_step | gi_upon | gi_back | dsimp only))
      go_end0
      exact ⟨⟨_, rfl⟩, .inl hJs⟩
  · obtain ⟨g, cap, rfl, _, _, _⟩ := own_cut h1.drop.rowG hz
    (refine (callsIn_wide (n := 0)).1 (callsIn_of_wp Tryz.func59 rfl trivial ?_ rfl); simp only [Tryz.ntmps59, List.size_toArray, List.length_cons, List.length_nil, Nat.reduceAdd, Nat.reduceSub, Array.replicate_succ, Array.replicate_zero, List.push_toArray, List.append_toArray, List.nil_append, List.cons_append])
    (repeat' (first | (gi_big_may; fail) | go_values | gi_guarded | gi_step | gi_upon | gi_back | dsimp only))
    gi_loopw [7] (fun i wr => ∃ k : Nat, k ≤ L.length ∧ i = .int .i64 k ∧ At W wr (Both (J (L.take k)) (Both (ValT b (.slice (some ⟨g, 0, none⟩) L.length cap) L) R))) (fun i _ => L.length - (intOf i).toNat)
    case atStart => exact ⟨0, Nat.zero_le _, rfl, h0⟩
    case round =>
      obtain ⟨k, hk, rfl, hJs⟩ := hrel
      by_cases hlt : k < L.length
      · obtain ⟨fn, tmps, assign, body, hy, hRd⟩ := hY (L.take k) (L[k]) (by rw [take_one hlt]; exact List.take_prefix _ _) wr R hR hJs
        have h2 : At W wr (Both (RowG tTx 1 (.slice (some ⟨g, 0, none⟩) L.length cap) L.length (strs L)) (Both (CellT b #[.slice (some ⟨g, 0, none⟩) L.length cap] tTxs) (Both (J (L.take k)) R))) := (hJs.swap.impl fun _ q => Both.toR q).swap
        have hcx := (h2.rowCell (strs_at hlt)).1
        unfold encS at hy
        rw [take_one hlt] at hRd
        generalize L[k] = x at *
        (repeat' (first | (gi_big_may; fail) | go_values | gi_guarded | gi_step | gi_upon | gi_back | dsimp only))
        refine ⟨rfl, hRd.mono ?_⟩
        rintro e W3 (⟨rfl, hJ3⟩ | ⟨rfl, hJx3⟩)
        · (repeat' (first | (gi_big_may; fail) | go_values | gi_guarded | gi_step | gi_upon | gi_back | dsimp only))
          go_roundw
          case rel => exact ⟨k + 1, by omega, by simp, hJ3⟩
          case measure => simp [intOf]; omega
        · (repeat' (first | (gi_big_may; fail) | go_values | gi_guarded | gi_step | gi_upon | gi_back | dsimp only))
          refine bodyPost_ret (results_none rfl _ _ _) rfl ?_
          exact ⟨⟨_, rfl⟩, .inr ⟨_, List.take_prefix _ _, hJx3⟩⟩
      · obtain rfl : k = L.length := by omega
        (repeat' (first | (gi_big_may; fail) | go_values | gi_guarded | gi_step | gi_upon | gi_back | dsimp only))
        go_end0
        rw [List.take_of_length_le (Nat.le_refl _)] at hJs
        exact ⟨⟨_, rfl⟩, .inl hJs⟩
end Go.Proofs.YtgeabmmicofanaaGreatDoor
namespace Go.Proofs.YtgeabmmicofanaaGreatDoor
open Go.RowKit
attribute [local go_sem] Oper.semAt_some

theorem yield_mono {F : Fence} {m : Nat} {P : Program} {l : Nat} {args : Array Value} {W : World} {R R' : Ending → World → Prop} (h : YieldAt F m P l args W R) (hr : ∀ e w, R e w → R' e w) : YieldAt F m P l args W R' := by
  obtain ⟨fn, tmps, assign, body, hy, hR⟩ := h
  exact ⟨fn, tmps, assign, body, hy, hR.mono hr⟩
/-- Memory more, that the iterator leaves alone. -/
theorem Seqs.frame {P : Program} {α : Type} {enc : α → Array Value} {gf : Nat} {lb : Array Value} {L : List α} {W : World} {Φ N : Thing} (h : Seqs P enc gf lb L W Φ) (_ : Stable Φ) (hN : Stable N) : Seqs P enc gf lb L W (Both N Φ) := by
  intro l J Jx hJ hJx hY w R hR h0
  have out : ∀ {X : Thing} {w : World} {R : Thing}, At W w (Both X (Both (Both N Φ) R)) → At W w (Both (Both X N) (Both Φ R)) := fun q => q.impl fun _ q => Both.toL (Both.mono (fun _ _ q => Both.toR q) q)
  have into : ∀ {X : Thing} {w : World} {R : Thing}, At W w (Both (Both X N) (Both Φ R)) → At W w (Both X (Both (Both N Φ) R)) := fun q => q.impl fun _ q => Both.mono (fun _ _ q => Both.toL q) (Both.toR q)
  refine (h l (fun p => Both (J p) N) (fun p => Both (Jx p) N) (fun p => (hJ p).both hN) (fun p => (hJx p).both hN) ?_ w R hR (out h0)).mono ?_
  · intro pre x hp w R hR q
    refine yield_mono (hY pre x hp w R hR (into q)) fun e w' hq => ?_
    rcases hq with ⟨he, hq⟩ | ⟨he, hq⟩
    · exact .inl ⟨he, out hq⟩
    · exact .inr ⟨he, out hq⟩
  · rintro e w' ⟨he, hq | ⟨pre, hp, hq⟩⟩
    · exact ⟨he, .inl (into hq)⟩
    · exact ⟨he, .inr ⟨pre, hp, into hq⟩⟩
theorem Seqs.impl {P : Program} {α : Type} {enc : α → Array Value} {gf : Nat} {lb : Array Value} {L : List α} {W : World} {Φ Φ' : Thing} (h : Seqs P enc gf lb L W Φ) (h1 : ∀ w fp, Φ w fp → Φ' w fp) (h2 : ∀ w fp, Φ' w fp → Φ w fp) : Seqs P enc gf lb L W Φ' := by
  have e : Φ' = Φ := by funext w fp; exact propext ⟨h2 w fp, h1 w fp⟩
  rw [e]; exact h

abbrev entersG (gf : Nat) : Prop := ∀ args w, (callFunc gf args).run Tryz.prog w = .ok (.enter gf args) w
/-- A stream's function: nil, or an iterator that gives L. -/
def IsStr (W : World) (Φ : Thing) (v : Value) (L : List (List UInt8)) : Prop :=
  (v = .nilFunc ∧ L = []) ∨ ∃ gf lb, v = .func (.func gf) #[] lb ∧ entersG gf ∧ Seqs Tryz.prog encS gf lb L W Φ
theorem IsStr.frame {W : World} {Φ N : Thing} {v : Value} {L : List (List UInt8)} (h : IsStr W Φ v L) (hΦ : Stable Φ) (hN : Stable N) : IsStr W (Both N Φ) v L := by
  rcases h with h | ⟨gf, lb, h1, h2, h3⟩
  · exact .inl h
  · exact .inr ⟨gf, lb, h1, h2, h3.frame hΦ hN⟩
theorem IsStr.impl {W : World} {Φ Φ' : Thing} {v : Value} {L : List (List UInt8)} (h : IsStr W Φ v L) (h1 : ∀ w fp, Φ w fp → Φ' w fp) (h2 : ∀ w fp, Φ' w fp → Φ w fp) : IsStr W Φ' v L := by
  rcases h with h | ⟨gf, lb, h3, h4, h5⟩
  · exact .inl h
  · exact .inr ⟨gf, lb, h3, h4, h5.impl h1 h2⟩
theorem none_seqs (W : World) (Φ : Thing) : Seqs Tryz.prog encS 67 #[] [] W Φ := by
  intro l J Jx hJ hJx hY w R hR h0
  (refine (callsIn_wide (n := 0)).1 (callsIn_of_wp Tryz.func67 rfl trivial ?_ rfl); simp only [Tryz.ntmps67, List.size_toArray, List.length_cons, List.length_nil, Nat.reduceAdd, Nat.reduceSub, Array.replicate_succ, Array.replicate_zero, List.push_toArray, List.append_toArray, List.nil_append, List.cons_append])
  (repeat' (first | (gi_big_may; fail) | go_values | gi_guarded | gi_step | gi_upon | gi_back | dsimp only))
  first
    | (go_end0; exact ⟨⟨_, rfl⟩, .inl h0⟩)
    | (refine bodyPost_ret (results_none rfl _ _ _) rfl ?_; exact ⟨⟨_, rfl⟩, .inl h0⟩)
abbrev tStr : TypeId := 40
set_option maxRecDepth 100000 in
set_option maxHeartbeats 2000000 in
theorem All_calls {W : World} {Φ : Thing} {v : Value} {L : List (List UInt8)} (hs : IsStr W Φ v L) (w : World) :
    Calls Tryz.prog 46 #[.agg #[v]] w fun e w' => ∃ gf lb, e = .returned (.func (.func gf) #[] lb) ∧ entersG gf ∧ Seqs Tryz.prog encS gf lb L W Φ ∧ Below w.heap.size w w' := by
  rcases hs with ⟨rfl, rfl⟩ | ⟨gf, lb, rfl, heg, hq⟩
  · have eqn : ∀ wz : World, (binOp .eql 38 .nilFunc .nilFunc).run Tryz.prog wz = .ok (.bool true) wz := fun wz => by kernel_rfl
    go_enter Tryz.func46, Tryz.ntmps46
    (repeat' (first | (go_big_may; fail) | go_values | go_skip | go_guarded | go_step | go_upon | go_back | dsimp only))
    go_ret
    exact ⟨_, _, rfl, enters_of Tryz.func67 (by kernel_rfl) rfl, none_seqs W Φ, (Below.refl _ _).alloc (Nat.le_refl _) _⟩
  · have eqn : ∀ wz : World, (binOp .eql 38 (.func (.func gf) #[] lb) .nilFunc).run Tryz.prog wz = .ok (.bool false) wz := fun wz => by kernel_rfl
    have HQ := Lib.hid hq
    clear hq
    go_enter Tryz.func46, Tryz.ntmps46
    (repeat' (first | (go_big_may; fail) | go_values | go_skip | go_guarded | go_step | go_upon | go_back | dsimp only))
    go_ret
    exact ⟨_, _, rfl, heg, HQ.out, (Below.refl _ _).alloc (Nat.le_refl _) _⟩
abbrev tNum : TypeId := 3
set_option maxRecDepth 100000 in
set_option maxHeartbeats 2000000 in
theorem Count_at {W w : World} {Φ R : Thing} {v : Value} {L : List (List UInt8)} (hs : IsStr W Φ v L) (hΦ : Stable Φ) (hR : Stable R) (h : At W w (Both Φ R)) (hn : L.length ≤ 1099511627776) :
    Calls Tryz.prog 26 #[.agg #[v]] w fun e w' => e = .returned (.int .i64 L.length) ∧ At W w' (Both Φ R) := by
  (refine (callsIn_wide (n := 0)).1 (callsIn_of_wp_marks Tryz.func26 rfl trivial (wpIn_wide.2 ?_) rfl); simp only [Tryz.ntmps26, List.size_toArray, List.length_cons, List.length_nil, Nat.reduceAdd, Nat.reduceSub, Array.replicate_succ, Array.replicate_zero, List.push_toArray, List.append_toArray, List.nil_append, List.cons_append])
  (repeat' (first | (go_big_may; (go_at_call 46; refine (All_calls hs _).mono ?_; rintro e w1 ⟨gf, lb, rfl, heg, hq, hb1⟩)) | go_values | go_skip | go_guarded | go_step | go_upon | go_back | dsimp only))
  have hs0 := hΦ.both hR
  have h1 := ((h.alloc hs0 (.cells #[v] tStr)).newCell hs0 #[.int .i64 0] tNum)
  rw [show (w.alloc (.cells #[v] tStr)).heap.size = w.heap.size + 1 from by simp] at h1
  have hw1 := h1.mono ((CellT.stable _ _ _).both hs0) hb1
  clear h1 hb1
  generalize w.heap.size + 1 = kn at *
  generalize ha0 : Act.mk _ _ = a0
  refine range_at (L := L) hq (by rw [← ha0]; rfl) heg (fun _ => rfl) hΦ hR (fun p => CellT kn #[.int .i64 p.length] tNum) (fun _ => CellT.stable _ _ _) (fun _ _ => NeverT) (fun _ _ => NeverT.stable)
    (fun p x a X => a = { tmps := foldTmps #[6] (encS x) a0.tmps, defers := [] } ∧ X = CellT kn #[.int .i64 p.length] tNum) hw1 ?assign ?body ?done ?stop
  case assign =>
    intro l pre x w2 Ψ hp hΨ h2
    (repeat' (first | (gi_big_may; fail) | go_values | gi_guarded | gi_step | gi_upon | gi_back | dsimp only))
    exact ⟨_, CellT.stable _ _ _, ⟨trivial, rfl⟩, h2⟩
  case body =>
    rintro l pre x w2 R2 a2 X hp hR2 hX ⟨rfl, rfl⟩ h2
    have hlen := hp.length_le
    rw [List.length_append, List.length_singleton] at hlen
    have c0 := (h2.cellF (o := 0) (u := .int .i64 pre.length) rfl)
    have hwr : IntKind.i64.wrap ((pre.length : Int) + 1) = ((pre.length + 1 : Nat) : Int) := by rw [IntKind.wrap_i64]; omega
    have f0 := c0.2.1
    have g0 := c0.1
    have h3 := h2.setCell (hΦ.both hR2) 0 (.int .i64 ((pre.length : Int) + 1))
    have e1 : (((pre ++ [x]).length : Nat) : Int) = (pre.length : Int) + 1 := by simp
    (subst ha0; simp only [fold_one, encS, List.setIfInBounds_toArray, List.set_cons_zero, List.set_cons_succ])
    (repeat' (first | (gi_big_may; fail) | go_values | gi_guarded | gi_step | gi_upon | gi_back | dsimp only))
    show At W _ (Both (CellT kn #[.int .i64 (((pre ++ [x]).length : Nat) : Int)] tNum) _)
    rw [e1]
    exact h3
  case done =>
    intro D w2 h2
    have c0 := (h2.cellF (o := 0) (u := .int .i64 L.length) rfl).1
    subst ha0
    (repeat' (first | (go_big_may; fail) | go_values | go_skip | go_guarded | go_step | go_upon | go_back | dsimp only))
    show LeavesInM _ _ _ _ _ _ _ _ _
    exact leaveM h2.pull3 ((CellT.stable _ _ _).both hs0) fun w3 h3 _ => leave0 (results_tmp rfl _ _ _) ⟨rfl, h3.drop⟩
  case stop =>
    intro D c pre w2 hp h2
    exact h2.never.elim
set_option maxRecDepth 100000 in
set_option maxHeartbeats 2000000 in
theorem laid_at {W w : World} {Φ R : Thing} {v : Value} {L : List (List UInt8)} (hs : IsStr W Φ v L) (hΦ : Stable Φ) (hR : Stable R) (h : At W w (Both Φ R)) (hn : L.length ≤ 1099511627776) :
    Calls Tryz.prog 38 #[.agg #[v]] w fun e w' => ∃ u, e = .returned u ∧ At W w' (Both (RowG tTx 1 u L.length (strs L)) (Both Φ R)) := by
  (refine (callsIn_wide (n := 0)).1 (callsIn_of_wp_marks Tryz.func38 rfl trivial (wpIn_wide.2 ?_) rfl); simp only [Tryz.ntmps38, List.size_toArray, List.length_cons, List.length_nil, Nat.reduceAdd, Nat.reduceSub, Array.replicate_succ, Array.replicate_zero, List.push_toArray, List.append_toArray, List.nil_append, List.cons_append])
  (repeat' (first | (go_big_may; (go_at_call 46; refine (All_calls hs _).mono ?_; rintro e w1 ⟨gf, lb, rfl, heg, hq, hb1⟩)) | go_values | go_skip | go_guarded | go_step | go_upon | go_back | dsimp only))
  have hs0 := hΦ.both hR
  have h1 := ((h.alloc hs0 (.cells #[v] tStr)).noRowG hs0 tTx 1).newCell ((RowG.stable _ _ _ _ _).both hs0) #[.slice none 0 0] tTxs
  rw [show (w.alloc (.cells #[v] tStr)).heap.size = w.heap.size + 1 from by simp] at h1
  have hw1 : At W w1 (Both (OutT (w.heap.size + 1) []) (Both Φ R)) := At.intoEx _ ((h1.mono ((CellT.stable _ _ _).both ((RowG.stable _ _ _ _ _).both hs0)) hb1).impl fun _ q => Both.toL q)
  clear h1 hb1
  generalize w.heap.size + 1 = kn at *
  generalize ha0 : Act.mk _ _ = a0
  refine range_at (L := L) hq (by rw [← ha0]; rfl) heg (fun _ => rfl) hΦ hR (fun p => OutT kn p) (fun _ => OutT.stable _ _) (fun _ _ => NeverT) (fun _ _ => NeverT.stable)
    (fun p x a X => a = { tmps := (foldTmps #[7] (encS x) a0.tmps).setIfInBounds 4 (.string ⟨x.toArray⟩), defers := [] } ∧ X = OutT kn p) hw1 ?assign ?body ?done ?stop
  case assign =>
    intro l pre x w2 Ψ hp hΨ h2
    (subst ha0; simp only [fold_one, encS, List.setIfInBounds_toArray, List.set_cons_zero, List.set_cons_succ])
    (repeat' (first | (gi_big_may; fail) | go_values | gi_guarded | gi_step | gi_upon | gi_back | dsimp only))
    exact ⟨_, OutT.stable _ _, ⟨trivial, rfl⟩, h2⟩
  case body =>
    rintro l pre x w2 R2 a2 X hp hR2 hX ⟨rfl, rfl⟩ h2
    have hlen := hp.length_le
    rw [List.length_append, List.length_singleton] at hlen
    obtain ⟨u, h3⟩ := At.ex h2
    have h3 := h3.impl fun _ q => Both.toR q
    have c0 := h3.cellF (o := 0) (u := u) rfl
    have g0 := c0.1
    clear c0
    have h4 := h3.swap
    have HH := Lib.hid h4
    have HR := Lib.hid ((CellT.stable kn #[u] tTxs).both (hΦ.both hR2))
    (subst ha0; simp only [fold_one, encS, List.setIfInBounds_toArray, List.set_cons_zero, List.set_cons_succ])
    (repeat' (first | (gi_big_may; ((gi_at_builtin; go_must (refine wpListIn_append_to rfl _ _ 32 9 rfl Tryz.underlying32 info_Tx rfl (by decide) rfl (HH.out) (HR.out) rfl (by first | rfl | simp) rfl ((by simp [Value.oneCell'])) (by unfold maxLen; omega) (by omega) ?_); intro ao cap w4 h5 _); have c5 := h5.drop.cellF (o := 0) (u := u) rfl; have c6 := c5.1; have c7 := c5.2.1)) | go_values | gi_guarded | gi_step | gi_upon | gi_back | dsimp only))
    have h6 := h5.swap.setCell ((RowG.stable _ _ _ _ _).both (hΦ.both hR2)) 0 (.slice ao (pre.length + 1) cap)
    show At W _ (Both (OutT kn (pre ++ [x])) _)
    refine At.intoEx (.slice ao (pre.length + 1) cap) ((?_ : At W _ (Both (CellT kn #[.slice ao (pre.length + 1) cap] tTxs) (Both (RowG tTx 1 (.slice ao (pre.length + 1) cap) (pre ++ [x]).length (strs (pre ++ [x]))) (Both Φ R2)))).impl fun _ q => Both.toL q)
    simpa [strs] using h6
  case done =>
    intro D w2 h2
    obtain ⟨u, h3⟩ := At.ex h2
    have h3 := h3.impl fun _ q => Both.toR q
    have c0 := (h3.cellF (o := 0) (u := u) rfl).1
    subst ha0
    (repeat' (first | (go_big_may; fail) | go_values | go_skip | go_guarded | go_step | go_upon | go_back | dsimp only))
    show LeavesInM _ _ _ _ _ _ _ _ _
    exact leaveM h3.pull4 ((CellT.stable _ _ _).both ((RowG.stable _ _ _ _ _).both hs0)) fun w3 h3 _ => leave0 (v := u) (results_tmp (t := 2) rfl _ _ _) ⟨_, rfl, h3.drop⟩
  case stop =>
    intro D c pre w2 hp h2
    exact h2.never.elim
end Go.Proofs.YtgeabmmicofanaaGreatDoor
namespace Go.Proofs.YtgeabmmicofanaaGreatDoor
open Go.RowKit
attribute [local go_sem] Oper.semAt_some

set_option maxRecDepth 100000 in
set_option maxHeartbeats 2000000 in
theorem List_at {W w : World} {Φ R : Thing} {v : Value} {L : List (List UInt8)} (hs : IsStr W Φ v L) (hΦ : Stable Φ) (hR : Stable R) (h : At W w (Both Φ R)) (hn : L.length ≤ 1099511627776) {m : Int} (hm1 : 1 ≤ m) (hm2 : m ≤ 9223372036854775807) :
    Calls Tryz.prog 28 #[.agg #[v], .int .i64 m] w fun e w' => ∃ u, e = .returned u ∧ At W w' (Both (RowG tTx 1 u (L.take m.toNat).length (strs (L.take m.toNat))) (Both Φ R)) := by
  have hs0 := hΦ.both hR
  have hlt : ¬ m < 1 := by omega
  have h1 := (((h.alloc hs0 (.cells #[v] tStr)).newCell hs0 #[.int .i64 m] tNum).noRowG ((CellT.stable _ _ _).both hs0) tTx 1).newCell ((RowG.stable _ _ _ _ _).both ((CellT.stable _ _ _).both hs0)) #[.slice none 0 0] tTxs
  rw [show (w.alloc (.cells #[v] tStr)).heap.size = w.heap.size + 1 from by simp, show ((w.alloc (.cells #[v] tStr)).alloc (.cells #[.int .i64 m] tNum)).heap.size = w.heap.size + 1 + 1 from by simp] at h1
  have g1 := (h1.pull3.cellF (o := 0) (u := .int .i64 m) rfl).1
  (refine (callsIn_wide (n := 0)).1 (callsIn_of_wp_marks Tryz.func28 rfl trivial (wpIn_wide.2 ?_) rfl); simp only [Tryz.ntmps28, List.size_toArray, List.length_cons, List.length_nil, Nat.reduceAdd, Nat.reduceSub, Array.replicate_succ, Array.replicate_zero, List.push_toArray, List.append_toArray, List.nil_append, List.cons_append])
  (repeat' (first | (go_big_may; (go_at_call 46; refine (All_calls hs _).mono ?_; rintro e w1 ⟨gf, lb, rfl, heg, hq, hb1⟩)) | go_values | go_skip | go_guarded | go_step | go_upon | go_back | dsimp only))
  have hst1 := (CellT.stable (w.heap.size + 1 + 1) #[.slice none 0 0] tTxs).both ((RowG.stable tTx 1 (.slice none 0 0) 0 []).both ((CellT.stable (w.heap.size + 1) #[.int .i64 m] tNum).both hs0))
  have hw1 := ((At.intoEx (Φ := fun v => Both (CellT (w.heap.size + 1 + 1) #[v] tTxs) (RowG tTx 1 v ([] : List (List UInt8)).length (strs []))) _ (h1.mono hst1 hb1).toL).toL).withW (show (([] : List (List UInt8)).length : Int) < m by simp; omega)
  clear h1 hb1 hst1
  generalize w.heap.size + 1 + 1 = ko at *
  generalize w.heap.size + 1 = km at *
  generalize ha0 : Act.mk _ _ = a0
  have hIs : ∀ p q, Stable (WithT (Both (OutT ko p) (CellT km #[.int .i64 m] tNum)) q) := fun p q => WithT.stable ((OutT.stable _ _).both (CellT.stable _ _ _)) _
  refine range_at (L := L) hq (by rw [← ha0]; rfl) heg (fun _ => rfl) hΦ hR (fun p => WithT (Both (OutT ko p) (CellT km #[.int .i64 m] tNum)) ((p.length : Int) < m)) (fun _ => hIs _ _)
    (fun c p => WithT (OutT ko p) (c = Code.exit 0 ∧ (p.length : Int) = m)) (fun _ _ => WithT.stable (OutT.stable _ _) _)
    (fun p x a X => a = { tmps := (foldTmps #[11] (encS x) a0.tmps).setIfInBounds 6 (.string ⟨x.toArray⟩), defers := [] } ∧ X = WithT (Both (OutT ko p) (CellT km #[.int .i64 m] tNum)) ((p.length : Int) < m)) hw1 ?assign ?body ?done ?stop
  case assign =>
    intro l pre x w2 Ψ hp hΨ h2
    (subst ha0; simp only [fold_one, encS, List.setIfInBounds_toArray, List.set_cons_zero, List.set_cons_succ])
    (repeat' (first | (gi_big_may; fail) | go_values | gi_guarded | gi_step | gi_upon | gi_back | dsimp only))
    exact ⟨_, hIs _ _, ⟨trivial, rfl⟩, h2⟩
  case body =>
    rintro l pre x w2 R2 a2 X hp hR2 hX ⟨rfl, rfl⟩ h2
    have hlen := hp.length_le
    rw [List.length_append, List.length_singleton] at hlen
    obtain ⟨hlm, h2⟩ := h2.word
    obtain ⟨u, h3⟩ := At.ex h2.toR
    have h3 := h3.toR
    have g0 := (h3.cellF (o := 0) (u := u) rfl).1
    have g1 := (h3.pull3.cellF (o := 0) (u := .int .i64 m) rfl).1
    have HH := Lib.hid h3.swap
    have hRR := (CellT.stable ko #[u] tTxs).both ((CellT.stable km #[.int .i64 m] tNum).both (hΦ.both hR2))
    have HR := Lib.hid hRR
    (subst ha0; simp only [fold_one, encS, List.setIfInBounds_toArray, List.set_cons_zero, List.set_cons_succ])
    by_cases hm : (pre.length : Int) + 1 = m
    · have hmb : ((pre.length : Int) + 1 == m) = true := by simpa using hm
      (repeat' (first | (gi_big_may; ((gi_at_builtin; go_must (refine wpListIn_append_to rfl _ _ 32 9 rfl Tryz.underlying32 info_Tx rfl (by decide) rfl (HH.out) (HR.out) rfl (by first | rfl | simp) rfl ((by simp [Value.oneCell'])) (by unfold maxLen; omega) (by omega) ?_); intro ao cap w4 h5 _); have c5 := h5.drop.cellF (o := 0) (u := u) rfl; have c6 := c5.1; have c7 := c5.2.1; have c8 := (h5.drop.drop.cellF (o := 0) (u := .int .i64 m) rfl).1; have hne := h5.drop.cellNe.symm)) | go_values | gi_guarded | gi_step | gi_upon | gi_back | dsimp only))
      have h6 := h5.swap.setCell ((RowG.stable _ _ _ _ _).both ((CellT.stable _ _ _).both (hΦ.both hR2))) 0 (.slice ao (pre.length + 1) cap)
      show At W _ (Both (WithT (OutT ko (pre ++ [x])) (Code.exit 0 = Code.exit 0 ∧ ((pre ++ [x]).length : Int) = m)) _)
      refine At.withW (At.intoEx (.slice ao (pre.length + 1) cap) ((?_ : At W _ (Both (CellT ko #[.slice ao (pre.length + 1) cap] tTxs) (Both (RowG tTx 1 (.slice ao (pre.length + 1) cap) (pre ++ [x]).length (strs (pre ++ [x]))) (Both Φ R2))))).toL) ⟨rfl, by simpa using hm⟩
      simpa [strs] using h6.pull3.drop
    · have hmb : ((pre.length : Int) + 1 == m) = false := by simpa using hm
      (repeat' (first | (gi_big_may; ((gi_at_builtin; go_must (refine wpListIn_append_to rfl _ _ 32 9 rfl Tryz.underlying32 info_Tx rfl (by decide) rfl (HH.out) (HR.out) rfl (by first | rfl | simp) rfl ((by simp [Value.oneCell'])) (by unfold maxLen; omega) (by omega) ?_); intro ao cap w4 h5 _); have c5 := h5.drop.cellF (o := 0) (u := u) rfl; have c6 := c5.1; have c7 := c5.2.1; have c8 := (h5.drop.drop.cellF (o := 0) (u := .int .i64 m) rfl).1; have hne := h5.drop.cellNe.symm)) | go_values | gi_guarded | gi_step | gi_upon | gi_back | dsimp only))
      have h6 := h5.swap.setCell ((RowG.stable _ _ _ _ _).both ((CellT.stable _ _ _).both (hΦ.both hR2))) 0 (.slice ao (pre.length + 1) cap)
      show At W _ (Both (WithT (Both (OutT ko (pre ++ [x])) (CellT km #[.int .i64 m] tNum)) (((pre ++ [x]).length : Int) < m)) _)
      refine At.withW (At.intoEx (.slice ao (pre.length + 1) cap) ((?_ : At W _ (Both (CellT ko #[.slice ao (pre.length + 1) cap] tTxs) (Both (RowG tTx 1 (.slice ao (pre.length + 1) cap) (pre ++ [x]).length (strs (pre ++ [x]))) (Both (CellT km #[.int .i64 m] tNum) (Both Φ R2)))))).toL).toL (by simp; omega)
      simpa [strs] using h6
  case done =>
    intro D w2 h2
    obtain ⟨hlm, h2⟩ := h2.word
    obtain ⟨u, h3⟩ := At.ex h2.toR
    have h3 := h3.toR
    have c0 := (h3.cellF (o := 0) (u := u) rfl).1
    have eM : L.take m.toNat = L := List.take_of_length_le (by omega)
    subst ha0
    (repeat' (first | (go_big_may; fail) | go_values | go_skip | go_guarded | go_step | go_upon | go_back | dsimp only))
    show LeavesInM _ _ _ _ _ _ _ _ _
    exact leaveM h3.pull5 ((CellT.stable _ _ _).both ((RowG.stable _ _ _ _ _).both ((CellT.stable _ _ _).both hs0))) fun w3 h3 _ => leave0 (v := u) (results_tmp (t := 4) rfl _ _ _) ⟨u, rfl, by rw [eM]; exact h3.drop.swap.drop⟩
  case stop =>
    intro D c pre w2 hp h2
    obtain ⟨⟨hc, hlm⟩, h2'⟩ := h2.word
    subst hc
    obtain ⟨u, h3⟩ := At.ex h2'
    have h3 := h3.toR
    have c0 := (h3.cellF (o := 0) (u := u) rfl).1
    have ep : L.take m.toNat = pre := by
      obtain ⟨t, rfl⟩ := hp
      rw [show m.toNat = pre.length by omega, List.take_left' rfl]
    subst ha0
    (repeat' (first | (go_big_may; fail) | go_values | go_skip | go_guarded | go_step | go_upon | go_back | dsimp only))
    show LeavesInM _ _ _ _ _ _ _ _ _
    exact leaveM h3.pull4 ((CellT.stable _ _ _).both ((RowG.stable _ _ _ _ _).both hs0)) fun w3 h3 _ => leave0 (v := u) (results_tmp (t := 4) rfl _ _ _) ⟨u, rfl, by rw [ep]; exact h3.drop⟩
abbrev tBo : TypeId := 4
end Go.Proofs.YtgeabmmicofanaaGreatDoor

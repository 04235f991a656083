/- slices.Values of texts: its iterator gives the slice's texts. · streams: what a stream is; All, laid, Count, List, Has walked. · streams: List and Has walked. -/
import Derived.Test.YtadokkffmekndaaGreatDoorBuMgPlLaw23
import Derived.Test.YtadokkffmekndaaGreatDoorBuMgPlLaw01
import Derived.Test.YtadokkffmekndaaGreatDoorProg
import Derived.Shelf.Abstract
import Derived.WalkKit
import Derived.TacticsInMore
import Derived.LoopNIn
import Derived.LoopIn
set_option linter.unusedSimpArgs false
set_option linter.unusedVariables false
namespace Go.Proofs.YtadokkffmekndaaGreatDoor
open Go.RowKit
attribute [local go_sem] Oper.semAt_some
abbrev encS (x : List UInt8) : Array Value := #[.string ⟨x.toArray⟩]
abbrev ValT (b : Nat) (v : Value) (L : List (List UInt8)) : Thing := Both (CellT b #[v] tTxs) (RowG tTx 1 v L.length (strs L))
theorem ValT.stable (b : Nat) (v : Value) (L : List (List UInt8)) : Stable (ValT b v L) := (CellT.stable _ _ _).both (RowG.stable _ _ _ _ _)
attribute [local go_sem] Oper.semAt_some
theorem yield_mono {F : Fence} {m : Nat} {P : Program} {l : Nat} {args : Array Value} {W : World} {R R' : Ending → World → Prop} (h : YieldAt F m P l args W R) (hr : ∀ e w, R e w → R' e w) : YieldAt F m P l args W R' := by
  obtain ⟨fn, tmps, assign, body, hy, hR⟩ := h
  exact ⟨fn, tmps, assign, body, hy, hR.mono hr⟩
theorem Seqs.frame {P : Program} {α : Type} {enc : α → Array Value} {gf : Nat} {lb : Array Value} {L : List α} {W : World} {Φ N : Thing} (h : Seqs P enc gf lb L W Φ) (_ : Stable Φ) (hN : Stable N) : Seqs P enc gf lb L W (Both N Φ) := by
  intro l J Jx hJ hJx hY w R hR h0
  have out : ∀ {X : Thing} {w : World} {R : Thing}, At W w (Both X (Both (Both N Φ) R)) → At W w (Both (Both X N) (Both Φ R)) := fun q => q.impl fun _ q => Both.toL (Both.mono (fun _ _ q => Both.toR q) q)
  have into : ∀ {X : Thing} {w : World} {R : Thing}, At W w (Both (Both X N) (Both Φ R)) → At W w (Both X (Both (Both N Φ) R)) := fun q => q.impl fun _ q => Both.mono (fun _ _ q => Both.toL q) (Both.toR q)
  refine (h l (fun p => Both (J p) N) (fun p => Both (Jx p) N) (fun p => (hJ p).both hN) (fun p => (hJx p).both hN) ?_ w R hR (out h0)).mono ?_
  · intro pre x hp w R hR q
    refine yield_mono (hY pre x hp w R hR (into q)) fun e w' hq => ?_
    rcases hq with ⟨he, hq⟩ | ⟨he, hq⟩
    · exact .inl ⟨he, out hq⟩
    · exact .inr ⟨he, out hq⟩
  · rintro e w' ⟨he, hq | ⟨pre, hp, hq⟩⟩
    · exact ⟨he, .inl (into hq)⟩
    · exact ⟨he, .inr ⟨pre, hp, into hq⟩⟩
theorem Seqs.impl {P : Program} {α : Type} {enc : α → Array Value} {gf : Nat} {lb : Array Value} {L : List α} {W : World} {Φ Φ' : Thing} (h : Seqs P enc gf lb L W Φ) (h1 : ∀ w fp, Φ w fp → Φ' w fp) (h2 : ∀ w fp, Φ' w fp → Φ w fp) : Seqs P enc gf lb L W Φ' := by
  have e : Φ' = Φ := by funext w fp; exact propext ⟨h2 w fp, h1 w fp⟩
  rw [e]; exact h
abbrev entersG (gf : Nat) : Prop := ∀ args w, (callFunc gf args).run Tryz.prog w = .ok (.enter gf args) w
def IsStr (W : World) (Φ : Thing) (v : Value) (L : List (List UInt8)) : Prop :=
  (v = .nilFunc ∧ L = []) ∨ ∃ gf lb, v = .func (.func gf) #[] lb ∧ entersG gf ∧ Seqs Tryz.prog encS gf lb L W Φ
theorem IsStr.frame {W : World} {Φ N : Thing} {v : Value} {L : List (List UInt8)} (h : IsStr W Φ v L) (hΦ : Stable Φ) (hN : Stable N) : IsStr W (Both N Φ) v L := by
  rcases h with h | ⟨gf, lb, h1, h2, h3⟩
  · exact .inl h
  · exact .inr ⟨gf, lb, h1, h2, h3.frame hΦ hN⟩
theorem IsStr.impl {W : World} {Φ Φ' : Thing} {v : Value} {L : List (List UInt8)} (h : IsStr W Φ v L) (h1 : ∀ w fp, Φ w fp → Φ' w fp) (h2 : ∀ w fp, Φ' w fp → Φ w fp) : IsStr W Φ' v L := by
  rcases h with h | ⟨gf, lb, h3, h4, h5⟩
  · exact .inl h
  · exact .inr ⟨gf, lb, h3, h4, h5.impl h1 h2⟩
theorem none_seqs (W : World) (Φ : Thing) : Seqs Tryz.prog encS 136 #[] [] W Φ := by
  intro l J Jx hJ hJx hY w R hR h0
  (refine (callsIn_wide (n := 0)).1 (callsIn_of_wp Tryz.func136 rfl trivial ?_ rfl); simp only [Tryz.ntmps136, List.size_toArray, List.length_cons, List.length_nil, Nat.reduceAdd, Nat.reduceSub, Array.replicate_succ, Array.replicate_zero, List.push_toArray, List.append_toArray, List.nil_append, List.cons_append])
  (repeat' (first | go_values | gi_guarded | gi_step | gi_upon | gi_back | dsimp only))
  first
    | (go_end0; exact ⟨⟨_, rfl⟩, .inl h0⟩)
    | (refine bodyPost_ret (results_none rfl _ _ _) rfl ?_; exact ⟨⟨_, rfl⟩, .inl h0⟩)
abbrev tStr : TypeId := 156
set_option maxRecDepth 100000 in
set_option maxHeartbeats 2000000 in
theorem All_calls {W : World} {Φ : Thing} {v : Value} {L : List (List UInt8)} (hs : IsStr W Φ v L) (w : World) :
    Calls Tryz.prog 99 #[.agg #[v]] w fun e w' => ∃ gf lb, e = .returned (.func (.func gf) #[] lb) ∧ entersG gf ∧ Seqs Tryz.prog encS gf lb L W Φ ∧ Below w.heap.size w w' := by
  rcases hs with ⟨rfl, rfl⟩ | ⟨gf, lb, rfl, heg, hq⟩
  · have eqn : ∀ wz : World, (binOp .eql 154 .nilFunc .nilFunc).run Tryz.prog wz = .ok (.bool true) wz := fun wz => by kernel_rfl
    go_enter Tryz.func99, Tryz.ntmps99
    (repeat' (first | go_values | go_skip | go_guarded | go_step | go_upon | go_back | dsimp only))
    go_ret
    exact ⟨_, _, rfl, enters_of Tryz.func136 (by kernel_rfl) rfl, none_seqs W Φ, (Below.refl _ _).alloc (Nat.le_refl _) _⟩
  · have eqn : ∀ wz : World, (binOp .eql 154 (.func (.func gf) #[] lb) .nilFunc).run Tryz.prog wz = .ok (.bool false) wz := fun wz => by kernel_rfl
    have HQ := Lib.hid hq
    clear hq
    go_enter Tryz.func99, Tryz.ntmps99
    (repeat' (first | go_values | go_skip | go_guarded | go_step | go_upon | go_back | dsimp only))
    go_ret
    exact ⟨_, _, rfl, heg, HQ.out, (Below.refl _ _).alloc (Nat.le_refl _) _⟩
abbrev tNum : TypeId := 3
set_option maxRecDepth 100000 in
set_option maxHeartbeats 2000000 in
theorem laid_at {W w : World} {Φ R : Thing} {v : Value} {L : List (List UInt8)} (hs : IsStr W Φ v L) (hΦ : Stable Φ) (hR : Stable R) (h : At W w (Both Φ R)) (hn : L.length ≤ 1099511627776) :
    Calls Tryz.prog 131 #[.agg #[v]] w fun e w' => ∃ u, e = .returned u ∧ At W w' (Both (RowG tTx 1 u L.length (strs L)) (Both Φ R)) := by
  (refine (callsIn_wide (n := 0)).1 (callsIn_of_wp_marks Tryz.func131 rfl trivial (wpIn_wide.2 ?_) rfl); simp only [Tryz.ntmps131, List.size_toArray, List.length_cons, List.length_nil, Nat.reduceAdd, Nat.reduceSub, Array.replicate_succ, Array.replicate_zero, List.push_toArray, List.append_toArray, List.nil_append, List.cons_append])
  (repeat' (first | (go_big_may; (go_at_call 99; refine (All_calls hs _).mono ?_; rintro e w1 ⟨gf, lb, rfl, heg, hq, hb1⟩)) | go_values | go_skip | go_guarded | go_step | go_upon | go_back | dsimp only))
  have hs0 := hΦ.both hR
  have h1 := ((h.alloc hs0 (.cells #[v] tStr)).noRowG hs0 tTx 1).newCell ((RowG.stable _ _ _ _ _).both hs0) #[.slice none 0 0] tTxs
  rw [show (w.alloc (.cells #[v] tStr)).heap.size = w.heap.size + 1 from by simp] at h1
  have hw1 : At W w1 (Both (OutT (w.heap.size + 1) []) (Both Φ R)) := At.intoEx _ ((h1.mono ((CellT.stable _ _ _).both ((RowG.stable _ _ _ _ _).both hs0)) hb1).impl fun _ q => Both.toL q)
  clear h1 hb1
  generalize w.heap.size + 1 = kn at *
  generalize ha0 : Act.mk _ _ = a0
  refine range_at (L := L) hq (by rw [← ha0]; rfl) heg (fun _ => rfl) hΦ hR (fun p => OutT kn p) (fun _ => OutT.stable _ _) (fun _ _ => NeverT) (fun _ _ => NeverT.stable)
    (fun p x a X => a = { tmps := (foldTmps #[7] (encS x) a0.tmps).setIfInBounds 4 (.string ⟨x.toArray⟩), defers := [] } ∧ X = OutT kn p) hw1 ?assign ?body ?done ?stop
  case assign =>
    intro l pre x w2 Ψ hp hΨ h2
    (subst ha0; simp only [fold_one, encS, List.setIfInBounds_toArray, List.set_cons_zero, List.set_cons_succ])
    (repeat' (first | go_values | gi_guarded | gi_step | gi_upon | gi_back | dsimp only))
    exact ⟨_, OutT.stable _ _, ⟨trivial, rfl⟩, h2⟩
  case body =>
    rintro l pre x w2 R2 a2 X hp hR2 hX ⟨rfl, rfl⟩ h2
    have hlen := hp.length_le
    rw [List.length_append, List.length_singleton] at hlen
    obtain ⟨u, h3⟩ := At.ex h2
    have h3 := h3.impl fun _ q => Both.toR q
    have c0 := h3.cellF (o := 0) (u := u) rfl
    have g0 := c0.1
    clear c0
    have h4 := h3.swap
    have HH := Lib.hid h4
    have HR := Lib.hid ((CellT.stable kn #[u] tTxs).both (hΦ.both hR2))
    (subst ha0; simp only [fold_one, encS, List.setIfInBounds_toArray, List.set_cons_zero, List.set_cons_succ])
    (repeat' (first | (gi_big_may; ((gi_at_builtin; go_must (refine wpListIn_append_to rfl _ _ 22 9 rfl Tryz.underlying22 info_Tx rfl (by decide) rfl (HH.out) (HR.out) rfl (by first | rfl | simp) rfl ((by simp [Value.oneCell'])) (by unfold maxLen; omega) (by omega) ?_); intro ao cap w4 h5 _); have c5 := h5.drop.cellF (o := 0) (u := u) rfl; have c6 := c5.1; have c7 := c5.2.1)) | go_values | gi_guarded | gi_step | gi_upon | gi_back | dsimp only))
    have h6 := h5.swap.setCell ((RowG.stable _ _ _ _ _).both (hΦ.both hR2)) 0 (.slice ao (pre.length + 1) cap)
    show At W _ (Both (OutT kn (pre ++ [x])) _)
    refine At.intoEx (.slice ao (pre.length + 1) cap) ((?_ : At W _ (Both (CellT kn #[.slice ao (pre.length + 1) cap] tTxs) (Both (RowG tTx 1 (.slice ao (pre.length + 1) cap) (pre ++ [x]).length (strs (pre ++ [x]))) (Both Φ R2)))).impl fun _ q => Both.toL q)
    simpa [strs] using h6
  case done =>
    intro D w2 h2
    obtain ⟨u, h3⟩ := At.ex h2
    have h3 := h3.impl fun _ q => Both.toR q
    have c0 := (h3.cellF (o := 0) (u := u) rfl).1
    subst ha0
    (repeat' (first | go_values | go_skip | go_guarded | go_step | go_upon | go_back | dsimp only))
    show LeavesInM _ _ _ _ _ _ _ _ _
    exact leaveM h3.pull4 ((CellT.stable _ _ _).both ((RowG.stable _ _ _ _ _).both hs0)) fun w3 h3 _ => leave0 (v := u) (results_tmp (t := 2) rfl _ _ _) ⟨_, rfl, h3.drop⟩
  case stop =>
    intro D c pre w2 hp h2
    exact h2.never.elim
attribute [local go_sem] Oper.semAt_some
abbrev tBo : TypeId := 4
end Go.Proofs.YtadokkffmekndaaGreatDoor

/- streams: From walked: its iterator, and what it makes. -/
import Derived.Test.YtbmfaffnbjmipaaStLaw
namespace Go.Proofs.Ytbmfaffnbjmipaa
open Go.RowKit
attribute [local go_sem] Oper.semAt_some

abbrev tYd : TypeId := 34
/-- The texts that are not below z. -/
def notBelow (z : List UInt8) (L : List (List UInt8)) : List (List UInt8) := L.filter fun x => !Op.bytesLess x z
theorem nb_yes {z x : List UInt8} (h : Op.bytesLess x z = false) (p : List (List UInt8)) : notBelow z (p ++ [x]) = notBelow z p ++ [x] := by simp [notBelow, h]
theorem nb_no {z x : List UInt8} (h : Op.bytesLess x z = true) (p : List (List UInt8)) : notBelow z (p ++ [x]) = notBelow z p := by simp [notBelow, h]
theorem nb_pre {z : List UInt8} {p L : List (List UInt8)} (h : p <+: L) : notBelow z p <+: notBelow z L := by
  obtain ⟨t, rfl⟩ := h
  exact ⟨notBelow z t, by simp [notBelow]⟩
abbrev FromT (bs bz : Nat) (v : Value) (z : List UInt8) (Φ : Thing) : Thing := Both (CellT bs #[v] tStr) (Both (CellT bz #[.string ⟨z.toArray⟩] tTx) Φ)
theorem FromT.stable (bs bz : Nat) (v : Value) (z : List UInt8) {Φ : Thing} (h : Stable Φ) : Stable (FromT bs bz v z Φ) := (CellT.stable _ _ _).both ((CellT.stable _ _ _).both h)
set_option maxRecDepth 100000 in
set_option maxHeartbeats 2000000 in
theorem from1_seqs {W : World} {Φ : Thing} {v : Value} {L : List (List UInt8)} (hs : IsStr W Φ v L) (hΦ : Stable Φ) (bs bz : Nat) (z : List UInt8) :
    Seqs Try.prog encS 30 #[.pointer (some ⟨bs, 0, none⟩), .pointer (some ⟨bz, 0, none⟩)] (notBelow z L) W (FromT bs bz v z Φ) := by
  intro l J Jx hJ hJx hY w R hR h0
  have hF := FromT.stable bs bz v z hΦ
  have hs1 : IsStr W (FromT bs bz v z Φ) v L := (hs.frame hΦ (CellT.stable bz #[.string ⟨z.toArray⟩] tTx)).frame ((CellT.stable _ _ _).both hΦ) (CellT.stable bs #[v] tStr)
  have hst := (hJ []).both (hF.both hR)
  have h1 := h0.newCell hst #[.func (.yield l) #[] #[]] tYd
  have c1 := (h1.pull3.toR.cellF (o := 0) (u := v) rfl).1
  (refine (callsIn_wide (n := 0)).1 (callsIn_of_wp_marks Try.func30 rfl trivial (wpIn_wide.2 ?_) rfl); simp only [Try.ntmps30, List.size_toArray, List.length_cons, List.length_nil, Nat.reduceAdd, Nat.reduceSub, Array.replicate_succ, Array.replicate_zero, List.push_toArray, List.append_toArray, List.nil_append, List.cons_append])
  (repeat' (first | (go_big_may; (go_at_call 22; refine (All_calls hs1 _).mono ?_; rintro e w1 ⟨gf, lb, rfl, heg, hq, hb1⟩)) | go_values | go_skip | go_guarded | go_step | go_upon | go_back | dsimp only))
  have hw1 := (h1.mono ((CellT.stable _ _ _).both hst) hb1).toL
  generalize w.heap.size = ky at *
  generalize ha0 : Act.mk _ _ = a0
  refine range_at (L := L) hq (by rw [← ha0]; rfl) heg (fun _ => rfl) hF hR (fun p => Both (CellT ky #[.func (.yield l) #[] #[]] tYd) (J (notBelow z p))) (fun p => (CellT.stable _ _ _).both (hJ _)) (fun c p => WithT (Jx (notBelow z p)) (c = Code.ret)) (fun _ _ => WithT.stable (hJx _) _)
    (fun p x a X => a = { tmps := (foldTmps #[7] (encS x) a0.tmps).setIfInBounds 4 (.string ⟨x.toArray⟩), defers := [] } ∧ X = Both (CellT ky #[.func (.yield l) #[] #[]] tYd) (J (notBelow z p))) hw1 ?assign ?body ?done ?stop
  case assign =>
    intro l pre x w2 Ψ hp hΨ h2
    (subst ha0; simp only [fold_one, encS, List.setIfInBounds_toArray, List.set_cons_zero, List.set_cons_succ])
    (repeat' (first | (gi_big_may; fail) | go_values | gi_guarded | gi_step | gi_upon | gi_back | dsimp only))
    exact ⟨_, (CellT.stable _ _ _).both (hJ _), ⟨trivial, rfl⟩, h2⟩
  case body =>
    rintro l2 pre x w2 R2 a2 X hp hR2 hX ⟨rfl, rfl⟩ h2
    have c2 := (h2.toR.cellF (o := 0) (u := .func (.yield l) #[] #[]) rfl).1
    have c3 := (h2.drop.toR.drop.toR.cellF (o := 0) (u := .string ⟨z.toArray⟩) rfl).1
    cases hlt : Op.bytesLess x z with
    | true =>
      (subst ha0; simp only [fold_one, encS, List.setIfInBounds_toArray, List.set_cons_zero, List.set_cons_succ])
      (repeat' (first | (gi_big_may; fail) | go_values | gi_guarded | gi_step | gi_upon | gi_back | dsimp only))
      refine ⟨fun _ _ => trivial, ?_⟩
      (repeat' (first | (gi_big_may; fail) | go_values | gi_guarded | gi_step | gi_upon | gi_back | dsimp only))
      show At W _ (Both (Both (CellT ky #[.func (.yield l) #[] #[]] tYd) (J (notBelow z (pre ++ [x])))) _)
      rw [nb_no hlt]
      exact h2
    | false =>
      have hp2 := nb_pre (z := z) hp
      rw [nb_yes hlt] at hp2
      obtain ⟨fn, tmps, assign, body, hy, hRd⟩ := hY (notBelow z pre) x hp2 w2 (Both (CellT ky #[.func (.yield l) #[] #[]] tYd) R2) ((CellT.stable _ _ _).both hR2) h2.toR.swap.swap2
      unfold encS at hy
      (subst ha0; simp only [fold_one, encS, List.setIfInBounds_toArray, List.set_cons_zero, List.set_cons_succ])
      (repeat' (first | (gi_big_may; fail) | go_values | gi_guarded | gi_step | gi_upon | gi_back | dsimp only))
      refine ⟨rfl, hRd.mono ?_⟩
      rintro e w3 (⟨rfl, h3⟩ | ⟨rfl, h3⟩)
      · (repeat' (first | (gi_big_may; fail) | go_values | gi_guarded | gi_step | gi_upon | gi_back | dsimp only))
        show At W _ (Both (Both (CellT ky #[.func (.yield l) #[] #[]] tYd) (J (notBelow z (pre ++ [x])))) _)
        rw [nb_yes hlt]
        exact (h3.pull3.impl fun _ q => Both.toL q)
      · (repeat' (first | (gi_big_may; fail) | go_values | gi_guarded | gi_step | gi_upon | gi_back | dsimp only))
        show At W _ (Both (WithT (Jx (notBelow z (pre ++ [x]))) (Code.ret = Code.ret)) _)
        rw [nb_yes hlt]
        exact (h3.pull3.drop).withW rfl
  case done =>
    intro D w2 h2
    subst ha0
    (repeat' (first | (go_big_may; fail) | go_values | go_skip | go_guarded | go_step | go_upon | go_back | dsimp only))
    show LeavesInM _ _ _ _ _ _ _ _ _
    refine leaveM h2.pull3 (((CellT.stable _ _ _).both (hJ _)).both (hF.both hR)) fun w3 h3 _ => leave0 (results_none rfl _ _ _) ⟨⟨_, rfl⟩, .inl h3.toR.drop⟩
  case stop =>
    intro D c pre w2 hp h2
    obtain ⟨hc, h3⟩ := h2.word
    subst hc
    subst ha0
    (repeat' (first | (go_big_may; fail) | go_values | go_skip | go_guarded | go_step | go_upon | go_back | dsimp only))
    show LeavesInM _ _ _ _ _ _ _ _ _
    refine leaveM h3.pull3 ((hJx _).both (hF.both hR)) fun w3 h3 _ => leave0 (results_none rfl _ _ _) ⟨⟨_, rfl⟩, .inr ⟨_, nb_pre hp, h3⟩⟩
end Go.Proofs.Ytbmfaffnbjmipaa

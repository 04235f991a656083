/- delta: Diff walked. -/
import Derived.Test.YtcbdncjknpdnbaaDlWords
import Derived.Test.YtcbdncjknpdnbaaDlP
import Derived.Test.YtcbdncjknpdnbaaStillIn
namespace Go.Proofs.Ytcbdncjknpdnbaa
open Go.RowKit
attribute [local go_sem] Oper.semAt_some

abbrev tCh : TypeId := 41
abbrev tChs : TypeId := 25
abbrev chc (c : Chg) : List Value := [.string ⟨c.1.toArray⟩, .bool c.2]
theorem chc_len : ∀ c, (chc c).length = 2 := fun _ => rfl
theorem info_Ch : (Try.prog.info? tCh).map (fun i => (i.zero, i.size, i.bytes)) = some (some (.agg #[.string ⟨#[]⟩, .bool false]), 2, 24) := by kernel_rfl
/-- Changes of the call's own. -/
abbrev ChG (v : Value) (D : List Chg) : Thing := RowG tCh 2 v D.length (D.flatMap chc)
theorem chc_one (c : Chg) : ∀ u ∈ (#[.string ⟨c.1.toArray⟩, .bool c.2] : Array Value).toList, u.oneCell' = true := by
  intro u hu
  simp at hu
  rcases hu with rfl | rfl <;> rfl
/-- Between two rounds of the second range. -/
def DiffI (ko kl : Nat) (v1 : Value) (xs ys p : List (List UInt8)) : Thing := fun w fp =>
  ∃ (x : Value × Value × List Chg × Nat), WithT (Both (CellT ko #[x.1] tChs) (Both (ChG x.1 x.2.2.1) (Both (CellT kl #[x.2.1] tTxs) (RowG tTx 1 v1 ys.length (strs ys))))) (LeftV x.2.1 v1 ys x.2.2.2 ∧ DInv xs ys p x.2.2.1 x.2.2.2) w fp
theorem DiffI.stable (ko kl : Nat) (v1 : Value) (xs ys p : List (List UInt8)) : Stable (DiffI ko kl v1 xs ys p) :=
  Stable.ex fun _ => WithT.stable ((CellT.stable _ _ _).both ((RowG.stable _ _ _ _ _).both ((CellT.stable _ _ _).both (RowG.stable _ _ _ _ _)))) _
theorem At.diffOut {W w : World} {R : Thing} {ko kl : Nat} {v1 : Value} {xs ys p : List (List UInt8)} (h : At W w (Both (DiffI ko kl v1 xs ys p) R)) :
    ∃ vo u D i, LeftV u v1 ys i ∧ DInv xs ys p D i ∧ At W w (Both (CellT ko #[vo] tChs) (Both (ChG vo D) (Both (CellT kl #[u] tTxs) (Both (RowG tTx 1 v1 ys.length (strs ys)) R)))) := by
  obtain ⟨x, h1⟩ := At.ex h
  obtain ⟨⟨h2, h3⟩, h4⟩ := h1.word
  exact ⟨_, _, _, _, h2, h3, h4.impl fun _ q => Both.mono (fun _ _ q => Both.mono (fun _ _ q => Both.toR q) (Both.toR q)) (Both.toR q)⟩
theorem At.diffIn {W w : World} {R : Thing} {ko kl : Nat} {v1 vo u : Value} {xs ys p : List (List UInt8)} {D : List Chg} {i : Nat} (h2 : LeftV u v1 ys i) (h3 : DInv xs ys p D i)
    (h : At W w (Both (CellT ko #[vo] tChs) (Both (ChG vo D) (Both (CellT kl #[u] tTxs) (Both (RowG tTx 1 v1 ys.length (strs ys)) R))))) : At W w (Both (DiffI ko kl v1 xs ys p) R) := by
  have h1 : At W w (Both (Both (CellT ko #[vo] tChs) (Both (ChG vo D) (Both (CellT kl #[u] tTxs) (RowG tTx 1 v1 ys.length (strs ys))))) R) :=
    h.impl fun _ q => Both.toL (Both.mono (fun _ _ q => Both.toL (Both.mono (fun _ _ q => Both.toL q) q)) q)
  exact At.intoEx (vo, u, D, i) (h1.withW ⟨h2, h3⟩)
theorem At.marks2 {W w : World} {A B X : Thing} (h : At W w (Both A (Both B X))) : At W w (Both (Both A (Both B Nought)) X) :=
  h.toL.impl fun _ q => Both.comm (Both.mono (fun _ _ q => Both.mono (fun _ _ q => (Both.nought q).comm) q) (Both.comm q))
theorem At.chSnoc {W w : World} {K X : Thing} {v : Value} {D : List Chg} {c : Chg} (h : At W w (Both K (Both (RowG tCh 2 v (D.length + 1) (D.flatMap chc ++ (#[.string ⟨c.1.toArray⟩, .bool c.2] : Array Value).toList)) X))) : At W w (Both K (Both (ChG v (D ++ [c])) X)) := by
  have e1 : (D ++ [c]).length = D.length + 1 := by simp
  have e2 : (D ++ [c]).flatMap chc = D.flatMap chc ++ (#[.string ⟨c.1.toArray⟩, .bool c.2] : Array Value).toList := by simp
  unfold ChG
  rw [e1, e2]
  exact h
set_option maxRecDepth 100000 in
set_option maxHeartbeats 2000000 in
theorem Diff_bad {w : World} {A B : List Sta} {va vb : Value} (hA : RdAut w va A) (hB : RdAut w vb B) (hlA : A.length ≤ 1048576 ∧ edgesN A ≤ 1048576) (hlB : B.length ≤ 1048576 ∧ edgesN B ≤ 1048576) {E : Int} (hE : FitR [A, B] E) (h0 : E ≠ 0) :
    Calls Try.prog 9 #[va, vb] w fun e w' => e = .returned (.tuple #[.slice none 0 0, .int .i64 E]) ∧ Below w.heap.size w w' := by
  have hb0 : Below w.heap.size w (w.alloc (.cells #[va, vb] 22)) := (Below.refl _ _).alloc (Nat.le_refl _) _
  have hf := fit_calls (w := w.alloc (.cells #[va, vb] 22)) (As := [A, B]) (lit_rd #[va, vb] 2 1 rfl (by simp [maxLen])) (fun i C hC => by
    match i with
    | 0 => simp at hC; subst hC; exact ⟨va, rfl, hA.below hb0⟩
    | 1 => simp at hC; subst hC; exact ⟨vb, rfl, hB.below hb0⟩
    | i + 2 => simp at hC) (fun C hC => by simp at hC; rcases hC with rfl | rfl <;> assumption) hE
  obtain ⟨aa, ac, rfl, _, _⟩ := hA.shape
  obtain ⟨ba, bc, rfl, _, _⟩ := hB.shape
  have hne : (E != 0) = true := by simpa using h0
  have HF := Lib.hid hf
  clear hf hA hB hE h0 hb0
  (refine (callsIn_wide (n := 0)).1 (callsIn_of_wp_marks Try.func9 rfl trivial (wpIn_wide.2 ?_) rfl); simp only [Try.ntmps9, List.size_toArray, List.length_cons, List.length_nil, Nat.reduceAdd, Nat.reduceSub, Array.replicate_succ, Array.replicate_zero, List.push_toArray, List.append_toArray, List.nil_append, List.cons_append])
  (repeat' (first | (go_big_may; fail) | go_values | go_skip | go_guarded | go_step | go_upon | go_back | dsimp only))
  refine HF.out.mono ?_
  rintro e1 w1 ⟨rfl, hb1⟩
  have HB := Lib.hid (((Below.refl w.heap.size w).alloc (Nat.le_refl _) (.cells #[.slice aa A.length ac, .slice ba B.length bc] 22)).trans (hb1.mono (by simp)))
  clear hb1 HF
  (repeat' (first | (go_big_may; fail) | go_values | go_skip | go_guarded | go_step | go_upon | go_back | dsimp only))
  show LeavesInM _ _ _ _ _ _ _ _ _
  exact leave0 (v := .tuple #[.slice none 0 0, .int .i64 E]) (by simp [results, Try.results9, go_sem]) ⟨rfl, HB.out⟩
set_option linter.unusedSimpArgs false in
set_option maxRecDepth 100000 in
set_option maxHeartbeats 6400000 in
theorem Diff_ok {w : World} {A B : List Sta} {va vb : Value} (hA : RdAut w va A) (hB : RdAut w vb B) (hlA : A.length ≤ 1048576 ∧ edgesN A ≤ 1048576) (hlB : B.length ≤ 1048576 ∧ edgesN B ≤ 1048576) (hE : FitR [A, B] 0) {ta tb : Trie} (hta : Unf A 0 ta) (htb : Unf B 0 tb) (hca : (wT ta []).length ≤ 65536) (hcb : (wT tb []).length ≤ 65536) :
    Calls Try.prog 9 #[va, vb] w fun e w' => ∃ vo, e = .returned (.tuple #[vo, .int .i64 0]) ∧ At w w' (Both (ChG vo (diffL (wT ta []) (wT tb []))) Nought) := by
  have hb0 : Below w.heap.size w (w.alloc (.cells #[va, vb] 22)) := (Below.refl _ _).alloc (Nat.le_refl _) _
  have hf := fit_calls (w := w.alloc (.cells #[va, vb] 22)) (As := [A, B]) (lit_rd #[va, vb] 2 1 rfl (by simp [maxLen])) (fun i C hC => by
    match i with
    | 0 => simp at hC; subst hC; exact ⟨va, rfl, hA.below hb0⟩
    | 1 => simp at hC; subst hC; exact ⟨vb, rfl, hB.below hb0⟩
    | i + 2 => simp at hC) (fun C hC => by simp at hC; rcases hC with rfl | rfl <;> assumption) hE
  obtain ⟨aa, ac, rfl, _, _⟩ := hA.shape
  obtain ⟨ba, bc, rfl, _, _⟩ := hB.shape
  have HF := Lib.hid hf
  have HWA := Lib.hid (fun ka => words1_seqs (W := w) hA hlA hta ka)
  have HWB := Lib.hid (fun ka => words1_seqs (W := w) hB hlB htb ka)
  generalize wT ta [] = xs at *
  generalize wT tb [] = ys at *
  clear hf hA hB hE hta htb
  (refine (callsIn_wide (n := 0)).1 (callsIn_of_wp_marks Try.func9 rfl trivial (wpIn_wide.2 ?_) rfl); simp only [Try.ntmps9, List.size_toArray, List.length_cons, List.length_nil, Nat.reduceAdd, Nat.reduceSub, Array.replicate_succ, Array.replicate_zero, List.push_toArray, List.append_toArray, List.nil_append, List.cons_append])
  (repeat' (first | (go_big_may; fail) | go_values | go_skip | go_guarded | go_step | go_upon | go_back | dsimp only))
  refine HF.out.mono ?_
  rintro e1 w1 ⟨rfl, hb1⟩
  have hbw1 := ((Below.refl w.heap.size w).alloc (Nat.le_refl _) (.cells #[.slice aa A.length ac, .slice ba B.length bc] 22)).trans (hb1.mono (by simp))
  have h1 := ((At.nought hbw1).noRowG Stable.nought tCh 2).newCell ((RowG.stable _ _ _ _ _).both Stable.nought) #[.slice none 0 0] tChs
  have hst1 := (CellT.stable w1.heap.size #[.slice none 0 0] tChs).both ((RowG.stable tCh 2 (.slice none 0 0) 0 []).both Stable.nought)
  have h2 := (h1.noRowG hst1 tTx 1).newCell ((RowG.stable _ _ _ _ _).both hst1) #[.slice none 0 0] tTxs
  rw [alloc_size] at h2
  have h3 := h2.newCell ((CellT.stable _ _ _).both ((RowG.stable _ _ _ _ _).both hst1)) #[.slice ba B.length bc] tAuts
  have HV := Lib.hid (words_calls ((w1.alloc (.cells #[.slice none 0 0] tChs)).alloc (.cells #[.slice none 0 0] tTxs)) ba B.length bc)
  have H3 := Lib.hid h3
  clear h1 h2 h3 hst1 HF hb1 hbw1
  (repeat' (first | (go_big_may; fail) | go_values | go_skip | go_guarded | go_step | go_upon | go_back | dsimp only))
  refine HV.out.mono ?_
  rintro e2 w2 ⟨rfl, hw2⟩
  have H4 := H3.out
  rw [← hw2] at H4
  simp only [alloc_size] at H4 ⊢
  clear hw2 HV H3
  have h5 : At w w2 (Both (OutT (w1.heap.size + 1) []) (Both (CellT (w1.heap.size + 1 + 1) #[.slice ba B.length bc] tAuts) (Both (CellT w1.heap.size #[.slice none 0 0] tChs) (Both (RowG tCh 2 (.slice none 0 0) 0 []) Nought)))) :=
    At.intoEx _ (H4.swap.impl fun _ q => Both.toL (Both.mono (fun _ _ q => q.assoc) q))
  generalize w1.heap.size + 1 + 1 = kb at *
  generalize w1.heap.size + 1 = kl at *
  generalize w1.heap.size = ko at *
  have hR1 := (CellT.stable ko #[.slice none 0 0] tChs).both ((RowG.stable tCh 2 (.slice none 0 0) 0 []).both Stable.nought)
  clear H4
  (repeat' (first | (go_big_may; fail) | go_values | go_skip | go_guarded | go_step | go_upon | go_back | dsimp only))
  generalize ha0 : Act.mk _ _ = a0
  refine range_at (L := ys) (HWB.out kb) (by rw [← ha0]; rfl) (enters_of Try.func43 (by kernel_rfl) rfl) (fun _ => rfl) (CellT.stable _ _ _) hR1 (fun p => OutT kl p) (fun _ => OutT.stable _ _) (fun _ _ => NeverT) (fun _ _ => NeverT.stable)
    (fun p x a X => a = { tmps := (foldTmps #[22] (encW x) a0.tmps).setIfInBounds 9 (.string ⟨x.toArray⟩), defers := [] } ∧ X = OutT kl p) h5 ?assign ?body ?done ?stop
  case assign =>
    intro l pre x w2 Ψ hp hΨ h2
    subst ha0
    simp only [fold_one, encW, List.setIfInBounds_toArray, List.set_cons_zero, List.set_cons_succ]
    (repeat' (first | (gi_big_may; fail) | go_values | gi_guarded | gi_step | gi_upon | gi_back | dsimp only))
    exact ⟨_, OutT.stable _ _, ⟨trivial, rfl⟩, h2⟩
  case body =>
    rintro l pre x w2 R2 a2 X hp hR2 hX ⟨rfl, rfl⟩ h2
    have hlen := hp.length_le
    rw [List.length_append, List.length_singleton] at hlen
    obtain ⟨v, h3⟩ := At.ex h2
    have h4 := h3.toR.swap
    have hst4 := (CellT.stable kl #[v] tTxs).both ((CellT.stable kb #[.slice ba B.length bc] tAuts).both hR2)
    obtain ⟨oa, oc, rfl, _, hoc⟩ := own_shape h4.rowG
    unfold maxLen at hoc
    obtain ⟨g1, gf1, _⟩ := h4.drop.cellF (o := 0) rfl
    have H4 := Lib.hid h4
    have HST4 := Lib.hid hst4
    clear h2 h3 h4 hst4
    subst ha0
    simp only [fold_one, encW, List.setIfInBounds_toArray, List.set_cons_zero, List.set_cons_succ]
    (repeat' (first | (gi_big_may; ((gi_at_builtin; go_must (refine wpListIn_append_to rfl _ _ 66 tTx rfl Try.underlying66 info_Tx rfl (by decide) rfl (H4.out) (HST4.out) rfl (by first | rfl | simp) rfl (one_str _) (by unfold maxLen; omega) (by omega) ?_); intro a2 c2 w2 h6 _); obtain ⟨q1, qf1, _⟩ := h6.drop.cellF (o := 0) rfl; have H6 := Lib.hid h6; clear h6 g1 gf1)) | go_values | gi_guarded | gi_step | gi_upon | gi_back | dsimp only))
    have h6 := H6.out.swap.setCell ((RowG.stable _ _ _ _ _).both ((CellT.stable kb #[.slice ba B.length bc] tAuts).both hR2)) 0 (.slice a2 (pre.length + 1) c2)
    show At w _ (Both (OutT kl (pre ++ [x])) _)
    refine At.intoEx (.slice a2 (pre.length + 1) c2) ((?_ : At w _ (Both (CellT kl #[.slice a2 (pre.length + 1) c2] tTxs) (Both (RowG tTx 1 (.slice a2 (pre.length + 1) c2) (pre ++ [x]).length (strs (pre ++ [x]))) (Both (CellT kb #[.slice ba B.length bc] tAuts) R2)))).impl fun _ q => Both.toL q)
    simpa [strs] using h6
  case done =>
    intro D1 w3 h6
    obtain ⟨v1, h7⟩ := At.ex h6
    have h8 := h7.toR.pull3.drop.pull5.pull5
    obtain ⟨ao1, cap1, hsh1, hcp1, hcp2⟩ := own_shape h8.drop.drop.drop.rowG
    subst hsh1
    have hv1 : LeftV (.slice ao1 ys.length cap1) (.slice ao1 ys.length cap1) ys 0 := ⟨ao1, ys.length, cap1, rfl, by omega, hcp1, hcp2, fun h => by
      obtain ⟨g, cp, he, _⟩ := own_cut h8.drop.drop.drop.rowG h
      cases he
      exact ⟨g, cap1, rfl, rfl⟩⟩
    have hst8 := (CellT.stable ko #[.slice none 0 0] tChs).both ((RowG.stable tCh 2 (.slice none 0 0) 0 []).both ((CellT.stable kl #[.slice ao1 ys.length cap1] tTxs).both ((RowG.stable tTx 1 (.slice ao1 ys.length cap1) ys.length (strs ys)).both ((ObjT.stable D1 (.deferred (some []))).both Stable.nought))))
    have h9 := (h8.newCell hst8 #[.slice aa A.length ac] tAuts).pull5.pull5.pull5.pull5
    have H9 := Lib.hid (At.diffIn (D := []) hv1 (DInv.start xs ys) h9)
    have HV := Lib.hid (words_calls w3 aa A.length ac)
    generalize Value.slice ao1 ys.length cap1 = v1 at *
    clear h5 h6 h7 h8 h9 hst8 hv1
    subst ha0
    (repeat' (first | (go_big_may; fail) | go_values | go_skip | go_guarded | go_step | go_upon | go_back | dsimp only))
    refine HV.out.mono ?_
    rintro e4 w4 ⟨rfl, hw4⟩
    have h10 := H9.out
    rw [← hw4] at h10
    clear H9 HV hw4
    generalize w3.heap.size = ka at *
    (repeat' (first | (go_big_may; fail) | go_values | go_skip | go_guarded | go_step | go_upon | go_back | dsimp only))
    generalize ha1 : Act.mk _ _ = a1
    refine range_at (L := xs) (HWA.out ka) (by rw [← ha1]; rfl) (enters_of Try.func43 (by kernel_rfl) rfl) (fun _ => rfl) (CellT.stable _ _ _) ((ObjT.stable D1 (.deferred (some []))).both Stable.nought) (fun p => DiffI ko kl v1 xs ys p) (fun _ => DiffI.stable _ _ _ _ _ _) (fun _ _ => NeverT) (fun _ _ => NeverT.stable)
      (fun p x a X => a = { tmps := (foldTmps #[29] (encW x) a1.tmps).setIfInBounds 10 (.string ⟨x.toArray⟩), defers := [] } ∧ X = DiffI ko kl v1 xs ys p) h10 ?assign2 ?body2 ?done2 ?stop2
    case assign2 =>
      intro l pre x w2 Ψ hp hΨ h2
      subst ha1
      simp only [fold_one, encW, List.setIfInBounds_toArray, List.set_cons_zero, List.set_cons_succ]
      (repeat' (first | (gi_big_may; fail) | go_values | gi_guarded | gi_step | gi_upon | gi_back | dsimp only))
      exact ⟨_, DiffI.stable _ _ _ _ _ _, ⟨trivial, rfl⟩, h2⟩
    case body2 =>
      rintro l pre x w5 R2 a2 X hp hR2 hX ⟨rfl, rfl⟩ h2
      have hlen := hp.length_le
      rw [List.length_append, List.length_singleton] at hlen
      obtain ⟨vo0, u0, D0, i0, hv0, hi0, h3⟩ := h2.diffOut
      have HP := Lib.hid hp
      clear h2 hp h10
      subst ha1
      simp only [fold_one, encW, List.setIfInBounds_toArray, List.set_cons_zero, List.set_cons_succ]
      (repeat' (first | (gi_big_may; fail) | go_values | gi_guarded | gi_step | gi_upon | gi_back | dsimp only))
      gi_loopw [] (fun wr => ∃ (vo u : Value) (D : List Chg) (i : Nat), LeftV u v1 ys i ∧ DInv xs ys pre D i ∧ At w wr (Both (CellT ko #[vo] tChs) (Both (ChG vo D) (Both (CellT kl #[u] tTxs) (Both (RowG tTx 1 v1 ys.length (strs ys)) (Both (CellT ka #[.slice aa A.length ac] tAuts) R2)))))) (fun wr => leftLen wr kl)
      case atStart => exact ⟨vo0, u0, D0, i0, hv0, hi0, h3⟩
      case round =>
        obtain ⟨vo, u, D, i, hv, hi, h4⟩ := hrel
        have hDl := hi.len
        have hil := hi.le
        have hlp := HP.out.length_le
        obtain ⟨oa, oc, rfl, _, hoc⟩ := own_shape h4.drop.rowG
        unfold maxLen at hoc
        have hstX : ∀ (vo u : Value) (D : List Chg), Stable (Both (CellT ko #[vo] tChs) (Both (ChG vo D) (Both (CellT kl #[u] tTxs) (Both (RowG tTx 1 v1 ys.length (strs ys)) (Both (CellT ka #[.slice aa A.length ac] tAuts) R2))))) := fun _ _ _ => (CellT.stable _ _ _).both ((RowG.stable _ _ _ _ _).both ((CellT.stable _ _ _).both ((RowG.stable _ _ _ _ _).both ((CellT.stable _ _ _).both hR2))))
        have hstY : ∀ (vo u : Value), Stable (Both (CellT ko #[vo] tChs) (Both (CellT kl #[u] tTxs) (Both (RowG tTx 1 v1 ys.length (strs ys)) (Both (CellT ka #[.slice aa A.length ac] tAuts) R2)))) := fun _ _ => (CellT.stable _ _ _).both ((CellT.stable _ _ _).both ((RowG.stable _ _ _ _ _).both ((CellT.stable _ _ _).both hR2)))
        have hv0 := hv
        obtain ⟨ao, c, cap, rfl, hic, hcc, hcm, hg⟩ := hv
        unfold maxLen at hcm
        obtain ⟨go, _, _⟩ := h4.cellF (o := 0) rfl
        obtain ⟨gl, fl, _⟩ := h4.drop.drop.cellF (o := 0) rfl
        have H4 := Lib.hid h4
        have HI := Lib.hid hi
        have HSX := Lib.hid hstX
        have HSY := Lib.hid hstY
        have HV0 := Lib.hid hv0
        clear h3 hi hstX hstY hv0
        rcases Nat.eq_zero_or_pos c with hc0 | hc0
        · subst hc0
          have HIL := Lib.hid (show i = ys.length by omega)
          clear hg h4
          have H5 := Lib.hid H4.out.swap
          (repeat' (first | (gi_big_may; ((gi_at_builtin; go_must (refine wpListIn_append_to rfl _ _ 25 tCh rfl Try.underlying25 info_Ch rfl (by decide) rfl (H5.out) (HSY.out _ _) rfl (by first | rfl | simp) rfl (chc_one (x, true)) (by unfold maxLen; omega) (by omega) ?_); intro a2 c2 w6 h6 _); obtain ⟨q1, qf1, _⟩ := h6.drop.cellF (o := 0) rfl; have H6 := Lib.hid h6; clear h6 go gl)) | go_values | gi_guarded | gi_step | gi_upon | gi_back | dsimp only))
          have h7 := (H6.out.swap.setCell ((RowG.stable _ _ _ _ _).both ((CellT.stable kl #[_] tTxs).both ((RowG.stable tTx 1 v1 ys.length (strs ys)).both ((CellT.stable ka #[.slice aa A.length ac] tAuts).both hR2)))) 0 (.slice a2 (D.length + 1) c2)).chSnoc (c := (x, true))
          show At w _ (Both (DiffI ko kl v1 xs ys (pre ++ [x])) _)
          exact At.diffIn HV0.out (HI.out.none HP.out HIL.out) h7
        · obtain ⟨g, cap0, rfl, hv1e⟩ := hg hc0
          obtain ⟨y, hy0⟩ : ∃ y, ys[i]? = some y := ⟨_, List.getElem?_eq_getElem (by omega)⟩
          subst hv1e
          have cc := (h4.drop.drop.drop.rowCell (strs_getS hy0)).1
          have hcI : (0 : Int) < c := by omega
          have hcI1 : (1 : Int) ≤ c := by omega
          have hcI2 : (c : Int) ≤ cap := by omega
          have hcI3 : (1 : Int) ≤ cap := by omega
          have HY := Lib.hid hy0
          have hnext : LeftV (.slice (if cap = 1 then some ⟨g, i, none⟩ else some ⟨g, i + 1, none⟩) (c - 1) (cap - 1)) (.slice (some ⟨g, 0, none⟩) ys.length cap0) ys (i + 1) := ⟨_, c - 1, cap - 1, rfl, by omega, by omega, by unfold maxLen; omega, fun h => ⟨g, cap0, by rw [if_neg (by omega)], rfl⟩⟩
          have HNX := Lib.hid hnext
          clear h4 hy0 hnext hg
          cases hyx : Op.bytesLess y x with
          | true =>
            have HYX := Lib.hid hyx
            have H5 := Lib.hid H4.out.swap
            have HK1 := Lib.hid (fun (wx : World) (h : At w wx (Both (CellT ko #[.slice oa D.length oc] tChs) (Both (ChG (.slice oa D.length oc) D) (Both (CellT kl #[.slice (some ⟨g, i, none⟩) c cap] tTxs) (Both (RowG tTx 1 (.slice (some ⟨g, 0, none⟩) ys.length cap0) ys.length (strs ys)) (Both (CellT ka #[.slice aa A.length ac] tAuts) R2)))))) => (show wx.cell? ⟨ko, 0, none⟩ = some (.slice oa D.length oc) ∧ wx.cell? ⟨kl, 0, none⟩ = some (.slice (some ⟨g, i, none⟩) c cap) ∧ wx.cell? ⟨g, i, none⟩ = some (.string ⟨y.toArray⟩) from ⟨(h.cellF (o := 0) rfl).1, (h.drop.drop.cellF (o := 0) rfl).1, (h.drop.drop.drop.rowCell (strs_getS HY.out)).1⟩))
            have HK2 := HK1
            have ha := (H4.out.alloc (HSX.out _ _ _) (.cells #[.string ⟨y.toArray⟩, .bool false] tCh)).drew (HSX.out _ _ _)
            (repeat' (first | (gi_big_may; fail) | go_values | gi_guarded | gi_step | gi_upon | gi_back | dsimp only))
            (refine wpIn_region_head 6 (S := (fun wx => wx.cell? ⟨ko, 0, none⟩ = some (.slice oa D.length oc) ∧ wx.cell? ⟨kl, 0, none⟩ = some (.slice (some ⟨g, i, none⟩) c cap) ∧ wx.cell? ⟨g, i, none⟩ = some (.string ⟨y.toArray⟩))) (by kernel_rfl) (by kernel_rfl) (by kernel_rfl) ?_ (fun hHeld => ?_); (next => (exact HK1.out _ (H4.out.drew (HSX.out _ _ _)))); simp only [List.replicate_succ, List.replicate_zero, List.take_succ_cons, List.take_zero, List.drop_succ_cons, List.drop_zero])
            (refine wpAnyH_take (i := 0) (v := ?_) rfl (by kernel_rfl) (by kernel_rfl) (by kernel_rfl) (fun _ _ _ h => h) (Or.inl ⟨by rfl, ?_⟩) (by assumption) ?_; rotate_left; (next => (intro w hSw; (try dsimp only at hSw); go_simp; (try with_reducible rfl))); (try simp only [List.getElem_toArray, List.getElem_cons_zero, List.getElem_cons_succ, Act.put, List.setIfInBounds_toArray, List.set_cons_zero, List.set_cons_succ]))
            (refine wpAnyH_take (i := 1) (v := ?_) rfl (by kernel_rfl) (by kernel_rfl) (by kernel_rfl) (fun _ _ _ h => h) (Or.inl ⟨by rfl, ?_⟩) (by assumption) ?_; rotate_left; (next => (intro w hSw; (try dsimp only at hSw); go_simp; (try with_reducible rfl))); (try simp only [List.getElem_toArray, List.getElem_cons_zero, List.getElem_cons_succ, Act.put, List.setIfInBounds_toArray, List.set_cons_zero, List.set_cons_succ]))
            (refine wpAnyH_take (i := 2) (v := ?_) rfl (by kernel_rfl) (by kernel_rfl) (by kernel_rfl) (fun _ _ _ h => h) (Or.inl ⟨by rfl, ?_⟩) (by assumption) ?_; rotate_left; (next => (intro w hSw; (try dsimp only at hSw); go_simp; (try with_reducible rfl))); (try simp only [List.getElem_toArray, List.getElem_cons_zero, List.getElem_cons_succ, Act.put, List.setIfInBounds_toArray, List.set_cons_zero, List.set_cons_succ]))
            (refine wpAnyH_take (i := 3) (v := ?_) rfl (by kernel_rfl) (by kernel_rfl) (by kernel_rfl) (fun _ _ _ h => h) (Or.inl ⟨by rfl, ?_⟩) (by assumption) ?_; rotate_left; (next => (intro w hSw; (try dsimp only at hSw); go_simp; (try with_reducible rfl))); (try simp only [List.getElem_toArray, List.getElem_cons_zero, List.getElem_cons_succ, Act.put, List.setIfInBounds_toArray, List.set_cons_zero, List.set_cons_succ]))
            (refine wpAnyH_take (i := 4) (v := ?_) rfl (by kernel_rfl) (by kernel_rfl) (by kernel_rfl) (fun _ _ _ h => h) (Or.inl ⟨by rfl, ?_⟩) (by assumption) ?_; rotate_left; (next => (intro w hSw; (try dsimp only at hSw); go_simp; (try with_reducible rfl))); (try simp only [List.getElem_toArray, List.getElem_cons_zero, List.getElem_cons_succ, Act.put, List.setIfInBounds_toArray, List.set_cons_zero, List.set_cons_succ]))
            (refine wpAnyH_ready (rs := [5]) (by kernel_rfl) (by simp) ?_; refine AllReadyH.cons rfl (fun K hK => ?_) AllReadyH.nil; go_simp; (try dsimp only); refine hK.out _ _ ?_ (fun hHeld => ?_); (next => ((try dsimp only); first | assumption | exact HK1.out _ (by assumption) | exact HK2.out _ (by assumption))); clear hK K; (try simp only [List.getElem_toArray, List.getElem_cons_zero, List.getElem_cons_succ, Act.put, List.setIfInBounds_toArray, List.set_cons_zero, List.set_cons_succ]))
            (refine wpAnyH_done (by kernel_rfl) ?_ _; dsimp only [onlyN])
            clear HK1 HK2 ha
            (repeat' (first | (gi_big_may; ((gi_at_builtin; go_must (refine wpListIn_append_to_drew rfl _ _ 25 tCh rfl Try.underlying25 info_Ch rfl (by decide) rfl (H5.out) (HSY.out _ _) rfl (by first | rfl | simp) rfl (chc_one (y, false)) (by unfold maxLen; omega) (by omega) ?_); intro a2 c2 w6 h6 _); obtain ⟨q1, qf1, _⟩ := h6.drop.cellF (o := 0) rfl; obtain ⟨q2, qf2, _⟩ := h6.drop.drop.cellF (o := 0) rfl; have nk := At.cellNe h6.drop; have H6 := Lib.hid h6; clear h6 go gl cc fl)) | go_values | gi_guarded | gi_step | gi_upon | gi_back | dsimp only))
            have h7 := (H6.out.swap.setCell ((RowG.stable _ _ _ _ _).both ((CellT.stable kl #[.slice (some ⟨g, i, none⟩) c cap] tTxs).both ((RowG.stable tTx 1 (.slice (some ⟨g, 0, none⟩) ys.length cap0) ys.length (strs ys)).both ((CellT.stable ka #[.slice aa A.length ac] tAuts).both hR2)))) 0 (.slice a2 (D.length + 1) c2)).chSnoc (c := (y, false))
            have h8 := ((h7.pull3.setCell ((CellT.stable ko #[.slice a2 (D.length + 1) c2] tChs).both ((RowG.stable tCh 2 (.slice a2 (D.length + 1) c2) (D ++ [(y, false)]).length ((D ++ [(y, false)]).flatMap chc)).both ((RowG.stable tTx 1 (.slice (some ⟨g, 0, none⟩) ys.length cap0) ys.length (strs ys)).both ((CellT.stable ka #[.slice aa A.length ac] tAuts).both hR2)))) 0 (.slice (if cap = 1 then some ⟨g, i, none⟩ else some ⟨g, i + 1, none⟩) (c - 1) (cap - 1)))).pull3.pull3
            have HLL := Lib.hid (show leftLen wr kl = c by unfold leftLen; rw [(H4.out.drop.drop.cellF (o := 0) rfl).1]; rfl)
            go_roundw
            case rel => exact ⟨_, _, D ++ [(y, false)], i + 1, HNX.out, HI.out.low HP.out HY.out HYX.out, h8⟩
            case measure =>
              have h9 := (h8.drop.drop.cellF (o := 0) rfl).1
              rw [HLL.out]
              unfold leftLen
              rw [h9]
              show c - 1 < c
              omega
          | false =>
            have HYX := Lib.hid hyx
            by_cases hxy : y = x
            · have he : (y == x) = true := by simp [hxy]
              have HXY := Lib.hid hxy
              have h6 := ((H4.out.pull3.setCell ((CellT.stable ko #[.slice oa D.length oc] tChs).both ((RowG.stable tCh 2 (.slice oa D.length oc) D.length (D.flatMap chc)).both ((RowG.stable tTx 1 (.slice (some ⟨g, 0, none⟩) ys.length cap0) ys.length (strs ys)).both ((CellT.stable ka #[.slice aa A.length ac] tAuts).both hR2)))) 0 (.slice (if cap = 1 then some ⟨g, i, none⟩ else some ⟨g, i + 1, none⟩) (c - 1) (cap - 1)))).pull3.pull3
              clear hxy
              (repeat' (first | (gi_big_may; fail) | go_values | gi_guarded | gi_step | gi_upon | gi_back | dsimp only))
              show At w _ (Both (DiffI ko kl _ xs ys (pre ++ [x])) _)
              exact At.diffIn HNX.out (HI.out.same HP.out HY.out HXY.out) h6
            · have he : (y == x) = false := by simp [hxy]
              have HXY := Lib.hid hxy
              have H5 := Lib.hid H4.out.swap
              clear hxy
              (repeat' (first | (gi_big_may; ((gi_at_builtin; go_must (refine wpListIn_append_to rfl _ _ 25 tCh rfl Try.underlying25 info_Ch rfl (by decide) rfl (H5.out) (HSY.out _ _) rfl (by first | rfl | simp) rfl (chc_one (x, true)) (by unfold maxLen; omega) (by omega) ?_); intro a2 c2 w6 h6 _); obtain ⟨q1, qf1, _⟩ := h6.drop.cellF (o := 0) rfl; have H6 := Lib.hid h6; clear h6 go gl)) | go_values | gi_guarded | gi_step | gi_upon | gi_back | dsimp only))
              have h7 := (H6.out.swap.setCell ((RowG.stable _ _ _ _ _).both ((CellT.stable kl #[_] tTxs).both ((RowG.stable tTx 1 (.slice (some ⟨g, 0, none⟩) ys.length cap0) ys.length (strs ys)).both ((CellT.stable ka #[.slice aa A.length ac] tAuts).both hR2)))) 0 (.slice a2 (D.length + 1) c2)).chSnoc (c := (x, true))
              show At w _ (Both (DiffI ko kl _ xs ys (pre ++ [x])) _)
              exact At.diffIn HV0.out (HI.out.high HP.out HY.out HYX.out HXY.out) h7
    case done2 =>
      intro D2 w5 h11
      obtain ⟨vo, u, D, i, hv, hi, h12⟩ := h11.diffOut
      have hi2 := hi
      subst ha1
      obtain ⟨ao, c, cap, rfl, hic, hcc, hcm, hg⟩ := hv
      unfold maxLen at hcm
      have hDl := hi.len
      obtain ⟨oa, oc, rfl, _, hoc⟩ := own_shape h12.drop.rowG
      unfold maxLen at hoc
      obtain ⟨go, _, _⟩ := h12.cellF (o := 0) rfl
      obtain ⟨gl, _, _⟩ := h12.drop.drop.cellF (o := 0) rfl
      have H12 := Lib.hid h12
      have HI2 := Lib.hid hi2
      have HG := Lib.hid hg
      clear h11 h12 hi hi2 hg h10
      (repeat' (first | (go_big_may; fail) | go_values | go_skip | go_guarded | go_step | go_upon | go_back | dsimp only))
      clear go gl
      go_loopw [68] (fun vk wr => ∃ (k : Nat) (vo : Value) (D : List Chg), vk = .int .i64 k ∧ k ≤ c ∧ DInv xs ys xs D (i + k) ∧ At w wr (Both (CellT ko #[vo] tChs) (Both (ChG vo D) (Both (CellT kl #[.slice ao c cap] tTxs) (Both (RowG tTx 1 v1 ys.length (strs ys)) (Both (CellT ka #[.slice aa A.length ac] tAuts) (Both (ObjT D2 (.deferred (some []))) (Both (ObjT D1 (.deferred (some []))) Nought)))))))) (fun vk _ => c - (intOf vk).toNat)
      case atStart => exact ⟨0, _, D, rfl, Nat.zero_le _, HI2.out, H12.out⟩
      case round =>
        obtain ⟨k, vo, E, rfl, hk, hi, h13⟩ := hrel
        have hEl := hi.len
        have hstX : Stable (Both (CellT kl #[.slice ao c cap] tTxs) (Both (RowG tTx 1 v1 ys.length (strs ys)) (Both (CellT ka #[.slice aa A.length ac] tAuts) (Both (ObjT D2 (.deferred (some []))) (Both (ObjT D1 (.deferred (some []))) Nought))))) := (CellT.stable _ _ _).both ((RowG.stable _ _ _ _ _).both ((CellT.stable _ _ _).both ((ObjT.stable _ _).both ((ObjT.stable _ _).both Stable.nought))))
        obtain ⟨oa, oc, rfl, _, hoc⟩ := own_shape h13.drop.rowG
        unfold maxLen at hoc
        obtain ⟨go, fo, _⟩ := h13.cellF (o := 0) rfl
        have H13 := Lib.hid h13
        have HI := Lib.hid hi
        have HSX := Lib.hid hstX
        clear hi hstX
        by_cases hlt : k < c
        · obtain ⟨g, cap0, rfl, rfl⟩ := HG.out (by omega)
          obtain ⟨y, hy0⟩ : ∃ y, ys[i + k]? = some y := ⟨_, List.getElem?_eq_getElem (by omega)⟩
          have cc := (h13.drop.drop.drop.rowCell (strs_getS hy0)).1
          have hkI : (k : Int) < (c : Int) := by omega
          have HY := Lib.hid hy0
          have H5 := Lib.hid h13.swap
          have HST5 := Lib.hid (HSX.out.both Stable.nought)
          clear h13 hy0
          (repeat' (first | (go_big_may; ((at_builtin; go_must (refine wpList_append_to rfl _ _ 25 tCh rfl Try.underlying25 info_Ch rfl (by decide) rfl (H5.out) ((CellT.stable _ _ _).both HSX.out) rfl (by first | rfl | simp) rfl (chc_one (y, false)) (by unfold maxLen; omega) (by omega) ?_); intro a2 c2 w6 h6 _); obtain ⟨q1, qf1, _⟩ := h6.drop.cellF (o := 0) rfl; have H6 := Lib.hid h6; clear h6 go fo cc)) | go_values | go_skip | go_guarded | go_step | go_upon | go_back | dsimp only))
          have h7 := (H6.out.swap.setCell ((RowG.stable _ _ _ _ _).both HSX.out) 0 (.slice a2 (E.length + 1) c2)).chSnoc (c := (y, false))
          go_roundw
          case rel => exact ⟨k + 1, _, E ++ [(y, false)], by simp, by omega, by have := HI.out.put HY.out; rw [Nat.add_assoc] at this; exact this, h7⟩
          case measure => simp [intOf] <;> omega
        · obtain rfl : k = c := by omega
          have hkI : ¬ (k : Int) < (k : Int) := by omega
          have hdn := HI.out
          rw [hic] at hdn
          have HDN := Lib.hid hdn.done
          have H14 := Lib.hid (At.marks2 (h13.drop.pull5.pull6.swap.pull4.drop.pull4.drop.pull4.drop))
          clear h13 hdn
          (repeat' (first | (go_big_may; fail) | go_values | go_skip | go_guarded | go_step | go_upon | go_back | dsimp only))
          show LeavesInM _ _ _ _ _ _ _ _ _
          rw [← HDN.out]
          exact leaveMs ((RowG.stable _ _ _ _ _).both Stable.nought) [D2, D1] H14.out fun w' h' => leave0 (v := .tuple #[.slice oa E.length oc, .int .i64 0]) (by simp [results, Try.results9, go_sem]) ⟨_, rfl, h'⟩
    case stop2 =>
      intro D c pre w2 hp h2
      exact h2.never.elim
  case stop =>
    intro D c pre w2 hp h2
    exact h2.never.elim
end Go.Proofs.Ytcbdncjknpdnbaa

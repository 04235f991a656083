/- streams: sift's iterator walked. · streams: what From, Minus and Common make. -/
import Derived.Test.YtgeabmmicofanaaGreatDoorBuSpLaw28
import Derived.Test.YtgeabmmicofanaaGreatDoorBuSpLaw31
set_option linter.unusedSimpArgs false
set_option linter.unusedVariables false
namespace Go.Proofs.YtgeabmmicofanaaGreatDoor
open Go.RowKit
attribute [local go_sem] Oper.semAt_some

/-- What of L is, or is not, in M. -/
def siftL (M : List (List UInt8)) (b : Bool) (L : List (List UInt8)) : List (List UInt8) := L.filter fun x => decide (x ∈ M) == b
theorem sift_yes {M : List (List UInt8)} {b : Bool} {x : List UInt8} (h : decide (x ∈ M) = b) (p : List (List UInt8)) : siftL M b (p ++ [x]) = siftL M b p ++ [x] := by simp [siftL, h]
theorem sift_no {M : List (List UInt8)} {b : Bool} {x : List UInt8} (h : decide (x ∈ M) = !b) (p : List (List UInt8)) : siftL M b (p ++ [x]) = siftL M b p := by cases b <;> simp_all [siftL]
theorem sift_pre {M : List (List UInt8)} {b : Bool} {p L : List (List UInt8)} (h : p <+: L) : siftL M b p <+: siftL M b L := by
  obtain ⟨t, rfl⟩ := h
  exact ⟨siftL M b t, by simp [siftL]⟩
abbrev SiftT (bt bs bw : Nat) (vt vs : Value) (b : Bool) (Φ : Thing) : Thing := Both (CellT bt #[vt] tStr) (Both (CellT bs #[vs] tStr) (Both (CellT bw #[.bool b] tBo) Φ))
theorem SiftT.stable (bt bs bw : Nat) (vt vs : Value) (b : Bool) {Φ : Thing} (h : Stable Φ) : Stable (SiftT bt bs bw vt vs b Φ) := (CellT.stable _ _ _).both ((CellT.stable _ _ _).both ((CellT.stable _ _ _).both h))
/-- Between two rounds. -/
def SifI (kl ky : Nat) (v1 : Value) (M : List (List UInt8)) (b : Bool) (yv : Value) (J : List (List UInt8) → Thing) (p : List (List UInt8)) : Thing := fun w fp =>
  ∃ u, WithT (Both (CellT kl #[u] tTxs) (Both (RowG tTx 1 v1 M.length (strs M)) (Both (CellT ky #[yv] tYd) (J (siftL M b p))))) (∃ i, LeftV u v1 M i ∧ ∀ z ∈ M.take i, ∃ q ∈ p, LtW z q) w fp
theorem SifI.stable (kl ky : Nat) (v1 : Value) (M : List (List UInt8)) (b : Bool) (yv : Value) {J : List (List UInt8) → Thing} (hJ : ∀ p, Stable (J p)) (p : List (List UInt8)) : Stable (SifI kl ky v1 M b yv J p) :=
  Stable.ex fun _ => WithT.stable ((CellT.stable _ _ _).both ((RowG.stable _ _ _ _ _).both ((CellT.stable _ _ _).both (hJ _)))) _
section
variable {W w : World} {A B C D E F : Thing}
theorem At.outF (h : At W w (Both (Both A (Both B (Both C D))) E)) : At W w (Both A (Both B (Both C (Both D E)))) :=
  h.impl fun _ q => Both.mono (fun _ _ q => Both.mono (fun _ _ q => Both.toR q) (Both.toR q)) (Both.toR q)
theorem At.toF (h : At W w (Both A (Both B (Both C (Both D E))))) : At W w (Both (Both A (Both B (Both C D))) E) :=
  h.impl fun _ q => Both.toL (Both.mono (fun _ _ q => Both.toL (Both.mono (fun _ _ q => Both.toL q) q)) q)
theorem At.ordS (h : At W w (Both A (Both B (Both E (Both C (Both D F)))))) : At W w (Both (Both A (Both B (Both C D))) (Both E F)) :=
  (h.impl fun _ q => Both.mono (fun _ _ q => Both.mono (fun _ _ q => Both.mono (fun _ _ q => q.assoc) q.assoc) q) q).toF
theorem At.rotS (h : At W w (Both A (Both B (Both C (Both D (Both E F)))))) : At W w (Both D (Both E (Both A (Both B (Both C F))))) :=
  (h.pull5.pull5).impl fun _ q => q
theorem At.rotB (h : At W w (Both D (Both E (Both A (Both B (Both C F)))))) : At W w (Both (Both A (Both B (Both C D))) (Both E F)) :=
  (h.pull5.pull5.pull5).toF
end
set_option maxRecDepth 100000 in
set_option maxHeartbeats 4000000 in
theorem sift1_seqs {W : World} {Φ : Thing} {vs vt : Value} {L M : List (List UInt8)} (hs : IsStr W Φ vs L) (ht : IsStr W Φ vt M) (hΦ : Stable Φ) (hL : RisesL L) (hM : RisesL M) (hn : M.length ≤ 1099511627776) (bt bs bw : Nat) (b : Bool) :
    Seqs Tryz.prog encS 66 #[.pointer (some ⟨bt, 0, none⟩), .pointer (some ⟨bs, 0, none⟩), .pointer (some ⟨bw, 0, none⟩)] (siftL M b L) W (SiftT bt bs bw vt vs b Φ) := by
  intro l J Jx hJ hJx hY w R hR h0
  have hF := SiftT.stable bt bs bw vt vs b hΦ
  have up : ∀ {v : Value} {X : List (List UInt8)}, IsStr W Φ v X → IsStr W (SiftT bt bs bw vt vs b Φ) v X := fun h =>
    ((h.frame hΦ (CellT.stable bw #[.bool b] tBo)).frame ((CellT.stable _ _ _).both hΦ) (CellT.stable bs #[vs] tStr)).frame ((CellT.stable _ _ _).both ((CellT.stable _ _ _).both hΦ)) (CellT.stable bt #[vt] tStr)
  have hs1 := up hs
  have ht1 := up ht
  have hst := (hJ []).both (hF.both hR)
  have h1 := h0.newCell hst #[.func (.yield l) #[] #[]] tYd
  have hRA := (CellT.stable w.heap.size #[.func (.yield l) #[] #[]] tYd).both ((hJ []).both hR)
  have h1a := h1.pull3
  have c1 := (h1a.toR.cellF (o := 0) (u := vt) rfl).1
  have hla := laid_at ht1 hF hRA h1a hn
  (refine (callsIn_wide (n := 0)).1 (callsIn_of_wp_marks Tryz.func66 rfl trivial (wpIn_wide.2 ?_) rfl); simp only [Tryz.ntmps66, List.size_toArray, List.length_cons, List.length_nil, Nat.reduceAdd, Nat.reduceSub, Array.replicate_succ, Array.replicate_zero, List.push_toArray, List.append_toArray, List.nil_append, List.cons_append])
  (repeat' (first | (go_big_may; fail) | go_values | go_skip | go_guarded | go_step | go_upon | go_back | dsimp only))
  refine hla.mono ?_
  rintro e w1 ⟨v1, rfl, h2⟩
  obtain ⟨ao1, cap1, hsh1, hcp1, hcp2⟩ := own_shape h2.rowG
  subst hsh1
  have hst2 := (RowG.stable tTx 1 (.slice ao1 M.length cap1) M.length (strs M)).both (hF.both hRA)
  have h3 := h2.newCell hst2 #[.slice ao1 M.length cap1] tTxs
  have c2 := (h3.pull3.toR.swap.toR.cellF (o := 0) (u := vs) rfl).1
  have hv1 : LeftV (.slice ao1 M.length cap1) (.slice ao1 M.length cap1) M 0 := ⟨ao1, M.length, cap1, rfl, by omega, hcp1, hcp2, fun h => by
    obtain ⟨g, cp, he, _⟩ := own_cut h2.rowG h
    cases he
    exact ⟨g, cap1, rfl, rfl⟩⟩
  (repeat' (first | (go_big_may; (go_at_call 46; refine (All_calls hs1 _).mono ?_; rintro e w4 ⟨gf, lb, rfl, heg, hq, hb4⟩)) | go_values | go_skip | go_guarded | go_step | go_upon | go_back | dsimp only))
  have h4 := h3.mono ((CellT.stable _ _ _).both hst2) hb4
  generalize w.heap.size = ky at *
  generalize w1.heap.size = kl at *
  have hw4 : At W w4 (Both (SifI kl ky (.slice ao1 M.length cap1) M b (.func (.yield l) #[] #[]) J []) (Both (SiftT bt bs bw vt vs b Φ) R)) :=
    At.intoEx _ (At.withW h4.ordS ⟨0, hv1, fun z hz => by simp at hz⟩)
  generalize (Value.slice ao1 M.length cap1) = v1 at *
  generalize ha0 : Act.mk _ _ = a0
  refine range_at (L := L) hq (by rw [← ha0]; rfl) heg (fun _ => rfl) hF hR (SifI kl ky v1 M b (.func (.yield l) #[] #[]) J) (fun p => SifI.stable _ _ _ _ _ _ hJ p) (fun c p => WithT (Jx (siftL M b p)) (c = Code.ret)) (fun _ _ => WithT.stable (hJx _) _)
    (fun p x a X => a = { tmps := (foldTmps #[11] (encS x) a0.tmps).setIfInBounds 6 (.string ⟨x.toArray⟩), defers := [] } ∧ X = SifI kl ky v1 M b (.func (.yield l) #[] #[]) J p) hw4 ?assign ?body ?done ?stop
  case assign =>
    intro l pre x w2 Ψ hp hΨ h2
    (subst ha0; simp only [fold_one, encS, List.setIfInBounds_toArray, List.set_cons_zero, List.set_cons_succ])
    (repeat' (first | (gi_big_may; fail) | go_values | gi_guarded | gi_step | gi_upon | gi_back | dsimp only))
    exact ⟨_, SifI.stable _ _ _ _ _ _ hJ _, ⟨trivial, rfl⟩, h2⟩
  case body =>
    rintro l2 pre x w2 R2 a2 X hp hR2 hX ⟨rfl, rfl⟩ h2
    obtain ⟨u2, h2⟩ := At.ex h2
    obtain ⟨⟨i2, hv2, hbl⟩, h2⟩ := h2.word
    have hbx : ∀ z ∈ M.take i2, LtW z x := fun z hz => by
      obtain ⟨p, hp1, hzp⟩ := hbl z hz
      exact bl_trans hzp (prefix_lt hL hp p hp1)
    have h3 := h2.outF
    have cu2 := (h3.cellF (o := 0) (u := u2) rfl).1
    clear hbl
    (subst ha0; simp only [fold_one, encS, List.setIfInBounds_toArray, List.set_cons_zero, List.set_cons_succ])
    (repeat' (first | (gi_big_may; fail) | go_values | gi_guarded | gi_step | gi_upon | gi_back | dsimp only))
    gi_loopw [] (fun wr => ∃ (u : Value) (i : Nat), LeftV u v1 M i ∧ (∀ z ∈ M.take i, LtW z x) ∧ At W wr (Both (CellT kl #[u] tTxs) (Both (RowG tTx 1 v1 M.length (strs M)) (Both (CellT ky #[.func (.yield l) #[] #[]] tYd) (Both (J (siftL M b pre)) (Both (SiftT bt bs bw vt vs b Φ) R2)))))) (fun wr => leftLen wr kl)
    case atStart => exact ⟨u2, i2, hv2, hbx, h3⟩
    case round =>
      obtain ⟨u, i, hv, hbz, h4⟩ := hrel
      have hv0 := hv
      have hSS := (CellT.stable kl #[u] tTxs).both ((RowG.stable tTx 1 v1 M.length (strs M)).both ((CellT.stable ky #[.func (.yield l) #[] #[]] tYd).both ((hJ (siftL M b pre)).both (hF.both hR2))))
      have cu := h4.cellF (o := 0) (u := u) rfl
      have cy := (h4.pull3.cellF (o := 0) (u := .func (.yield l) #[] #[]) rfl).1
      have cw := (h4.pull5.toR.drop.toR.drop.toR.cellF (o := 0) (u := .bool b) rfl).1
      have hbx2 : ∀ z ∈ M.take i, ∃ p ∈ pre ++ [x], LtW z p := fun z hz => ⟨x, by simp, hbz z hz⟩
      have HH := Lib.hid h4
      obtain ⟨ao, c, cap, rfl, hic, hcc, hcm, hg⟩ := hv
      unfold maxLen at hcm
      have g0 := cu.1
      have f0 := cu.2.1
      have h4r := h4.swap
      clear cu h4
      rcases Nat.eq_zero_or_pos c with hc0 | hc0
      · subst hc0
        have hmem : decide (x ∈ M) = false := mem_end fun z hz => hbz z (by rw [List.take_of_length_le (by omega)]; exact hz)
        clear hbz hg h4r
        cases b with
        | true =>
          (repeat' (first | (gi_big_may; fail) | go_values | gi_guarded | gi_step | gi_upon | gi_back | dsimp only))
          (refine region_still_tailIn 15 (by kernel_rfl) (by kernel_rfl) (by kernel_rfl) ?_; simp only [List.take_succ_cons, List.take_zero, List.drop_succ_cons, List.drop_zero]; (iterate 15 (first | ((with_reducible refine still_plain ?_ rfl ?_ ?_); rotate_left; (next => (go_simp; (try with_reducible rfl))); simp only [Act.put, List.setIfInBounds_toArray, List.set_cons_zero, List.set_cons_succ]) | ((with_reducible refine still_skip ?_ ?_); (next => (first | (go_simp; done) | (go_simp; simp [undef]; done))); simp only [Act.put, List.setIfInBounds_toArray, List.set_cons_zero, List.set_cons_succ]) | ((with_reducible refine still_val ?_ ?_ ?_ ?_); rotate_left; (next => (go_simp; done)); (next => (go_simp; (try with_reducible rfl))); simp only [Act.put, List.setIfInBounds_toArray, List.set_cons_zero, List.set_cons_succ]))); (with_reducible refine wpStill_nil ?_))
          (repeat' (first | (gi_big_may; fail) | go_values | gi_guarded | gi_step | gi_upon | gi_back | dsimp only))
          refine ⟨fun _ _ => trivial, ?_⟩
          (repeat' (first | (gi_big_may; fail) | go_values | gi_guarded | gi_step | gi_upon | gi_back | dsimp only))
          show At W _ (Both (SifI kl ky _ M true (.func (.yield l) #[] #[]) J (pre ++ [x])) _)
          unfold SifI
          rw [sift_no hmem]
          exact At.intoEx _ (At.withW (HH.out.drew hSS).toF ⟨i, hv0, hbx2⟩)
        | false =>
          have hp2 := sift_pre (M := M) (b := false) hp
          rw [sift_yes hmem] at hp2
          obtain ⟨fn, tmps, assign, body, hy, hRd⟩ := hY (siftL M false pre) x hp2 wr.drew _ ((CellT.stable kl #[_] tTxs).both ((RowG.stable tTx 1 _ M.length (strs M)).both ((CellT.stable ky #[.func (.yield l) #[] #[]] tYd).both hR2))) ((HH.out.drew hSS).rotS)
          unfold encS at hy
          (repeat' (first | (gi_big_may; fail) | go_values | gi_guarded | gi_step | gi_upon | gi_back | dsimp only))
          (refine region_still_tailIn 15 (by kernel_rfl) (by kernel_rfl) (by kernel_rfl) ?_; simp only [List.take_succ_cons, List.take_zero, List.drop_succ_cons, List.drop_zero]; (iterate 15 (first | ((with_reducible refine still_plain ?_ rfl ?_ ?_); rotate_left; (next => (go_simp; (try with_reducible rfl))); simp only [Act.put, List.setIfInBounds_toArray, List.set_cons_zero, List.set_cons_succ]) | ((with_reducible refine still_skip ?_ ?_); (next => (first | (go_simp; done) | (go_simp; simp [undef]; done))); simp only [Act.put, List.setIfInBounds_toArray, List.set_cons_zero, List.set_cons_succ]) | ((with_reducible refine still_val ?_ ?_ ?_ ?_); rotate_left; (next => (go_simp; done)); (next => (go_simp; (try with_reducible rfl))); simp only [Act.put, List.setIfInBounds_toArray, List.set_cons_zero, List.set_cons_succ]))); (with_reducible refine wpStill_nil ?_))
          (repeat' (first | (gi_big_may; fail) | go_values | gi_guarded | gi_step | gi_upon | gi_back | dsimp only))
          refine ⟨rfl, hRd.mono ?_⟩
          rintro e w3 (⟨rfl, h3⟩ | ⟨rfl, h3⟩)
          · (repeat' (first | (gi_big_may; fail) | go_values | gi_guarded | gi_step | gi_upon | gi_back | dsimp only))
            show At W _ (Both (SifI kl ky _ M false (.func (.yield l) #[] #[]) J (pre ++ [x])) _)
            unfold SifI
            rw [sift_yes hmem]
            exact At.intoEx _ (At.withW h3.rotB ⟨i, hv0, hbx2⟩)
          · (repeat' (first | (gi_big_may; fail) | go_values | gi_guarded | gi_step | gi_upon | gi_back | dsimp only))
            show At W _ (Both (WithT (Jx (siftL M false (pre ++ [x]))) (Code.ret = Code.ret)) _)
            rw [sift_yes hmem]
            exact (h3.rotB.toR.drop.toR.drop.toR.drop).withW rfl
      · obtain ⟨g, cap0, rfl, rfl⟩ := hg hc0
        obtain ⟨y, hy0⟩ : ∃ y, M[i]? = some y := ⟨_, List.getElem?_eq_getElem (by omega)⟩
        have cc := (h4r.rowCell (strs_getS hy0)).1
        have hcI : (0 : Int) < c := by omega
        have hcI1 : (1 : Int) ≤ c := by omega
        have hcI2 : (c : Int) ≤ cap := by omega
        have hcI3 : (1 : Int) ≤ cap := by omega
        cases hyx : Op.bytesLess y x with
        | true =>
          have h5 := HH.out
          have hS5 := (RowG.stable tTx 1 (.slice (some ⟨g, 0, none⟩) M.length cap0) M.length (strs M)).both ((CellT.stable ky #[.func (.yield l) #[] #[]] tYd).both ((hJ (siftL M b pre)).both (hF.both hR2)))
          have HY := Lib.hid hy0
          clear hy0 h4r
          (repeat' (first | (gi_big_may; fail) | go_values | gi_guarded | gi_step | gi_upon | gi_back | dsimp only))
          go_roundw
          case rel =>
            refine ⟨_, i + 1, ⟨_, c - 1, cap - 1, rfl, by omega, by omega, by unfold maxLen; omega, fun h => ⟨g, cap0, by rw [if_neg (by omega)], rfl⟩⟩, fun z hz => ?_, h5.setCell hS5 0 _⟩
            rw [List.take_add_one, HY.out] at hz
            rcases List.mem_append.1 hz with hz | hz
            · exact hbz z hz
            · simp at hz; subst hz; exact hyx
          case measure =>
            have h6 := (h5.setCell hS5 0 (.slice (if cap = 1 then some ⟨g, i, none⟩ else some ⟨g, i + 1, none⟩) (c - 1) (cap - 1))).cellF (o := 0) (u := .slice (if cap = 1 then some ⟨g, i, none⟩ else some ⟨g, i + 1, none⟩) (c - 1) (cap - 1)) rfl
            simp only [leftLen, h6.1, g0]
            omega
        | false =>
          have hm0 := mem_at hM hbz hy0 hyx
          by_cases hxy : y = x
          · have he : (y == x) = true := by simp [hxy]
            have hmem : decide (x ∈ M) = true := by rw [hm0, he]
            clear hbz h4r hy0 hm0 hxy
            cases b with
            | true =>
              have hp2 := sift_pre (M := M) (b := true) hp
              rw [sift_yes hmem] at hp2
              obtain ⟨fn, tmps, assign, body, hy, hRd⟩ := hY (siftL M true pre) x hp2 wr.drew _ ((CellT.stable kl #[_] tTxs).both ((RowG.stable tTx 1 _ M.length (strs M)).both ((CellT.stable ky #[.func (.yield l) #[] #[]] tYd).both hR2))) ((HH.out.drew hSS).rotS)
              unfold encS at hy
              (repeat' (first | (gi_big_may; fail) | go_values | gi_guarded | gi_step | gi_upon | gi_back | dsimp only))
              (refine region_still_tailIn 15 (by kernel_rfl) (by kernel_rfl) (by kernel_rfl) ?_; simp only [List.take_succ_cons, List.take_zero, List.drop_succ_cons, List.drop_zero]; (iterate 15 (first | ((with_reducible refine still_plain ?_ rfl ?_ ?_); rotate_left; (next => (go_simp; (try with_reducible rfl))); simp only [Act.put, List.setIfInBounds_toArray, List.set_cons_zero, List.set_cons_succ]) | ((with_reducible refine still_skip ?_ ?_); (next => (first | (go_simp; done) | (go_simp; simp [undef]; done))); simp only [Act.put, List.setIfInBounds_toArray, List.set_cons_zero, List.set_cons_succ]) | ((with_reducible refine still_val ?_ ?_ ?_ ?_); rotate_left; (next => (go_simp; done)); (next => (go_simp; (try with_reducible rfl))); simp only [Act.put, List.setIfInBounds_toArray, List.set_cons_zero, List.set_cons_succ]))); (with_reducible refine wpStill_nil ?_))
              (repeat' (first | (gi_big_may; fail) | go_values | gi_guarded | gi_step | gi_upon | gi_back | dsimp only))
              refine ⟨rfl, hRd.mono ?_⟩
              rintro e w3 (⟨rfl, h3⟩ | ⟨rfl, h3⟩)
              · (repeat' (first | (gi_big_may; fail) | go_values | gi_guarded | gi_step | gi_upon | gi_back | dsimp only))
                show At W _ (Both (SifI kl ky _ M true (.func (.yield l) #[] #[]) J (pre ++ [x])) _)
                unfold SifI
                rw [sift_yes hmem]
                exact At.intoEx _ (At.withW h3.rotB ⟨i, hv0, hbx2⟩)
              · (repeat' (first | (gi_big_may; fail) | go_values | gi_guarded | gi_step | gi_upon | gi_back | dsimp only))
                show At W _ (Both (WithT (Jx (siftL M true (pre ++ [x]))) (Code.ret = Code.ret)) _)
                rw [sift_yes hmem]
                exact (h3.rotB.toR.drop.toR.drop.toR.drop).withW rfl
            | false =>
              (repeat' (first | (gi_big_may; fail) | go_values | gi_guarded | gi_step | gi_upon | gi_back | dsimp only))
              (refine region_still_tailIn 15 (by kernel_rfl) (by kernel_rfl) (by kernel_rfl) ?_; simp only [List.take_succ_cons, List.take_zero, List.drop_succ_cons, List.drop_zero]; (iterate 15 (first | ((with_reducible refine still_plain ?_ rfl ?_ ?_); rotate_left; (next => (go_simp; (try with_reducible rfl))); simp only [Act.put, List.setIfInBounds_toArray, List.set_cons_zero, List.set_cons_succ]) | ((with_reducible refine still_skip ?_ ?_); (next => (first | (go_simp; done) | (go_simp; simp [undef]; done))); simp only [Act.put, List.setIfInBounds_toArray, List.set_cons_zero, List.set_cons_succ]) | ((with_reducible refine still_val ?_ ?_ ?_ ?_); rotate_left; (next => (go_simp; done)); (next => (go_simp; (try with_reducible rfl))); simp only [Act.put, List.setIfInBounds_toArray, List.set_cons_zero, List.set_cons_succ]))); (with_reducible refine wpStill_nil ?_))
              (repeat' (first | (gi_big_may; fail) | go_values | gi_guarded | gi_step | gi_upon | gi_back | dsimp only))
              refine ⟨fun _ _ => trivial, ?_⟩
              (repeat' (first | (gi_big_may; fail) | go_values | gi_guarded | gi_step | gi_upon | gi_back | dsimp only))
              show At W _ (Both (SifI kl ky _ M false (.func (.yield l) #[] #[]) J (pre ++ [x])) _)
              unfold SifI
              rw [sift_no hmem]
              exact At.intoEx _ (At.withW (HH.out.drew hSS).toF ⟨i, hv0, hbx2⟩)
          · have he : (y == x) = false := by simp [hxy]
            have hmem : decide (x ∈ M) = false := by rw [hm0, he]
            clear hbz h4r hy0 hm0 hxy
            cases b with
            | true =>
              (repeat' (first | (gi_big_may; fail) | go_values | gi_guarded | gi_step | gi_upon | gi_back | dsimp only))
              (refine region_still_tailIn 15 (by kernel_rfl) (by kernel_rfl) (by kernel_rfl) ?_; simp only [List.take_succ_cons, List.take_zero, List.drop_succ_cons, List.drop_zero]; (iterate 15 (first | ((with_reducible refine still_plain ?_ rfl ?_ ?_); rotate_left; (next => (go_simp; (try with_reducible rfl))); simp only [Act.put, List.setIfInBounds_toArray, List.set_cons_zero, List.set_cons_succ]) | ((with_reducible refine still_skip ?_ ?_); (next => (first | (go_simp; done) | (go_simp; simp [undef]; done))); simp only [Act.put, List.setIfInBounds_toArray, List.set_cons_zero, List.set_cons_succ]) | ((with_reducible refine still_val ?_ ?_ ?_ ?_); rotate_left; (next => (go_simp; done)); (next => (go_simp; (try with_reducible rfl))); simp only [Act.put, List.setIfInBounds_toArray, List.set_cons_zero, List.set_cons_succ]))); (with_reducible refine wpStill_nil ?_))
              (repeat' (first | (gi_big_may; fail) | go_values | gi_guarded | gi_step | gi_upon | gi_back | dsimp only))
              refine ⟨fun _ _ => trivial, ?_⟩
              (repeat' (first | (gi_big_may; fail) | go_values | gi_guarded | gi_step | gi_upon | gi_back | dsimp only))
              show At W _ (Both (SifI kl ky _ M true (.func (.yield l) #[] #[]) J (pre ++ [x])) _)
              unfold SifI
              rw [sift_no hmem]
              exact At.intoEx _ (At.withW (HH.out.drew hSS).toF ⟨i, hv0, hbx2⟩)
            | false =>
              have hp2 := sift_pre (M := M) (b := false) hp
              rw [sift_yes hmem] at hp2
              obtain ⟨fn, tmps, assign, body, hy, hRd⟩ := hY (siftL M false pre) x hp2 wr.drew _ ((CellT.stable kl #[_] tTxs).both ((RowG.stable tTx 1 _ M.length (strs M)).both ((CellT.stable ky #[.func (.yield l) #[] #[]] tYd).both hR2))) ((HH.out.drew hSS).rotS)
              unfold encS at hy
              (repeat' (first | (gi_big_may; fail) | go_values | gi_guarded | gi_step | gi_upon | gi_back | dsimp only))
              (refine region_still_tailIn 15 (by kernel_rfl) (by kernel_rfl) (by kernel_rfl) ?_; simp only [List.take_succ_cons, List.take_zero, List.drop_succ_cons, List.drop_zero]; (iterate 15 (first | ((with_reducible refine still_plain ?_ rfl ?_ ?_); rotate_left; (next => (go_simp; (try with_reducible rfl))); simp only [Act.put, List.setIfInBounds_toArray, List.set_cons_zero, List.set_cons_succ]) | ((with_reducible refine still_skip ?_ ?_); (next => (first | (go_simp; done) | (go_simp; simp [undef]; done))); simp only [Act.put, List.setIfInBounds_toArray, List.set_cons_zero, List.set_cons_succ]) | ((with_reducible refine still_val ?_ ?_ ?_ ?_); rotate_left; (next => (go_simp; done)); (next => (go_simp; (try with_reducible rfl))); simp only [Act.put, List.setIfInBounds_toArray, List.set_cons_zero, List.set_cons_succ]))); (with_reducible refine wpStill_nil ?_))
              (repeat' (first | (gi_big_may; fail) | go_values | gi_guarded | gi_step | gi_upon | gi_back | dsimp only))
              refine ⟨rfl, hRd.mono ?_⟩
              rintro e w3 (⟨rfl, h3⟩ | ⟨rfl, h3⟩)
              · (repeat' (first | (gi_big_may; fail) | go_values | gi_guarded | gi_step | gi_upon | gi_back | dsimp only))
                show At W _ (Both (SifI kl ky _ M false (.func (.yield l) #[] #[]) J (pre ++ [x])) _)
                unfold SifI
                rw [sift_yes hmem]
                exact At.intoEx _ (At.withW h3.rotB ⟨i, hv0, hbx2⟩)
              · (repeat' (first | (gi_big_may; fail) | go_values | gi_guarded | gi_step | gi_upon | gi_back | dsimp only))
                show At W _ (Both (WithT (Jx (siftL M false (pre ++ [x]))) (Code.ret = Code.ret)) _)
                rw [sift_yes hmem]
                exact (h3.rotB.toR.drop.toR.drop.toR.drop).withW rfl
  case done =>
    intro D w2 h2
    obtain ⟨u2, h2⟩ := At.ex h2
    obtain ⟨_, h2⟩ := h2.word
    subst ha0
    (repeat' (first | (go_big_may; fail) | go_values | go_skip | go_guarded | go_step | go_upon | go_back | dsimp only))
    show LeavesInM _ _ _ _ _ _ _ _ _
    refine leaveM h2.pull3 (((CellT.stable _ _ _).both ((RowG.stable _ _ _ _ _).both ((CellT.stable _ _ _).both (hJ _)))).both (hF.both hR)) fun w3 h3 _ => leave0 (results_none rfl _ _ _) ⟨⟨_, rfl⟩, .inl h3.outF.drop.drop.drop⟩
  case stop =>
    intro D c pre w2 hp h2
    obtain ⟨hc, h3⟩ := h2.word
    subst hc
    subst ha0
    (repeat' (first | (go_big_may; fail) | go_values | go_skip | go_guarded | go_step | go_upon | go_back | dsimp only))
    show LeavesInM _ _ _ _ _ _ _ _ _
    refine leaveM h3.pull3 ((hJx _).both (hF.both hR)) fun w3 h3 _ => leave0 (results_none rfl _ _ _) ⟨⟨_, rfl⟩, .inr ⟨_, sift_pre hp, h3⟩⟩
end Go.Proofs.YtgeabmmicofanaaGreatDoor
namespace Go.Proofs.YtgeabmmicofanaaGreatDoor
open Go.RowKit

theorem sift_minus (M L : List (List UInt8)) : siftL M false L = minusL L M := by
  unfold siftL minusL
  congr 1
  funext x
  by_cases h : x ∈ M <;> simp [h]
theorem sift_common (M L : List (List UInt8)) : siftL M true L = commonW L M := by
  unfold siftL commonW
  congr 1
  funext x
  by_cases h : x ∈ M <;> simp [h]
section
variable {W w : World} {Φ R : Thing}
/-- What a call that makes a stream leaves. -/
def MkStr (W : World) (Φ R : Thing) (L : List (List UInt8)) (e : Ending) (w' : World) : Prop := ∃ N u, Stable N ∧ e = .returned (.agg #[u]) ∧ IsStr W (Both N Φ) u L ∧ At W w' (Both (Both N Φ) R)
end
end Go.Proofs.YtgeabmmicofanaaGreatDoor

/- delta: Patch walked. -/
import Derived.Test.YtcbdncjknpdnbaaDlSet
import Derived.Test.YtcbdncjknpdnbaaStLays
import Derived.Test.YtcbdncjknpdnbaaDlTurn
namespace Go.Proofs.Ytcbdncjknpdnbaa
open Go.RowKit
attribute [local go_sem] Oper.semAt_some

/-- Is a change's word too long? -/
def longC (D : List Chg) : Bool := D.any fun c => decide (255 < c.1.length)
def longW (L : List (List UInt8)) : Bool := L.any fun w => decide (255 < w.length)
theorem patch1_calls (w : World) (c : Chg) :
    Calls Try.prog 37 #[.agg #[.string ⟨c.1.toArray⟩, .bool c.2]] w fun e w' => e = .returned (.bool (decide (255 < c.1.length))) ∧ Below w.heap.size w w' := by
  by_cases h : 255 < c.1.length
  · have hI : (255 : Int) < (c.1.length : Int) := by omega
    rw [decide_eq_true h]
    go_enter Try.func37, Try.ntmps37
    (repeat' (first | (go_big_may; fail) | go_values | go_skip | go_guarded | go_step | go_upon | go_back | dsimp only))
    go_ret
    exact ⟨rfl, (Below.refl _ _).alloc (Nat.le_refl _) _⟩
  · have hI : ¬ (255 : Int) < (c.1.length : Int) := by omega
    rw [decide_eq_false h]
    go_enter Try.func37, Try.ntmps37
    (repeat' (first | (go_big_may; fail) | go_values | go_skip | go_guarded | go_step | go_upon | go_back | dsimp only))
    go_ret
    exact ⟨rfl, (Below.refl _ _).alloc (Nat.le_refl _) _⟩
theorem enters_patch1 : ∀ args w, (callFunc 37 args).run Try.prog w = .ok (.enter 37 args) w := enters_of Try.func37 (by kernel_rfl) rfl
set_option maxRecDepth 100000 in
set_option maxHeartbeats 1600000 in
theorem Index_calls {w : World} {v : Value} {D : List Chg} (hrd : RdRow w v D.length 2 (D.flatMap chc)) :
    Calls Try.prog 58 #[v, .func (.func 37) #[] #[]] w fun e w' => ∃ i : Int, e = .returned (.int .i64 i) ∧ decide (0 ≤ i) = longC D ∧ Below w.heap.size w w' := by
  obtain ⟨ao, cap, rfl, _, hcm⟩ := hrd.shape
  unfold maxLen at hcm
  have HRD := Lib.hid hrd
  clear hrd
  go_enter Try.func58, Try.ntmps58
  (repeat' (first | (go_big_may; fail) | go_values | go_skip | go_guarded | go_step | go_upon | go_back | dsimp only))
  go_loopw [8] (fun vk wr => ∃ k : Nat, vk = .int .i64 k ∧ k ≤ D.length ∧ longC (D.take k) = false ∧ Below w.heap.size w wr) (fun vk _ => D.length - (intOf vk).toNat)
  case atStart => exact ⟨0, rfl, Nat.zero_le _, rfl, Below.refl _ _⟩
  case round =>
    obtain ⟨k, rfl, hk, hlg, hb⟩ := hrel
    by_cases hlt : k < D.length
    · obtain ⟨c, hc⟩ : ∃ c, D[k]? = some c := ⟨_, List.getElem?_eq_getElem hlt⟩
      obtain ⟨b, off, cp, hsl, hx0, hx1⟩ := chg_at (fun _ => rfl) (HRD.out.below hb) hc
      cases hsl
      have hkI : (k : Int) < (D.length : Int) := by omega
      have hp := patch1_calls wr c
      have htk : longC (D.take (k + 1)) = decide (255 < c.1.length) := by
        rw [List.take_add_one, hc]
        unfold longC at hlg ⊢
        rw [List.any_append, hlg]
        simp
      have hm := List.mem_of_getElem? hc
      have hall : 255 < c.1.length → longC D = true := fun h => List.any_eq_true.2 ⟨c, hm, decide_eq_true h⟩
      have HB := Lib.hid hb
      have HTK := Lib.hid htk
      have HALL := Lib.hid hall
      have HPE := Lib.hid enters_patch1
      clear hc hb hlg htk hm hall
      by_cases hl : 255 < c.1.length
      · rw [decide_eq_true hl] at hp
        have HP := Lib.hid hp
        have HL := Lib.hid hl
        clear hp hl
        (repeat' (first | (go_big_may; fail) | go_values | go_skip | go_guarded | go_step | go_upon | go_back | dsimp only))
        refine HP.out.mono ?_
        rintro e1 w1 ⟨rfl, hb1⟩
        have HB1 := Lib.hid (HB.out.trans (hb1.mono HB.out.size))
        clear hb1 HP
        (repeat' (first | (go_big_may; fail) | go_values | go_skip | go_guarded | go_step | go_upon | go_back | dsimp only))
        go_ret
        exact ⟨_, rfl, by rw [HALL.out HL.out]; exact decide_eq_true (by omega), HB1.out⟩
      · rw [decide_eq_false hl] at hp
        have HP := Lib.hid hp
        have HL := Lib.hid hl
        clear hp hl
        (repeat' (first | (go_big_may; fail) | go_values | go_skip | go_guarded | go_step | go_upon | go_back | dsimp only))
        refine HP.out.mono ?_
        rintro e1 w1 ⟨rfl, hb1⟩
        have HB1 := Lib.hid (HB.out.trans (hb1.mono HB.out.size))
        clear hb1 HP
        (repeat' (first | (go_big_may; fail) | go_values | go_skip | go_guarded | go_step | go_upon | go_back | dsimp only))
        go_roundw
        case rel => exact ⟨k + 1, by simp, by omega, by rw [HTK.out]; exact decide_eq_false HL.out, HB1.out⟩
        case measure => simp [intOf] <;> omega
    · obtain rfl : k = D.length := by omega
      have hkI : ¬ (D.length : Int) < (D.length : Int) := by omega
      rw [List.take_length] at hlg
      have HB := Lib.hid hb
      have HLG := Lib.hid hlg
      clear hb hlg
      (repeat' (first | (go_big_may; fail) | go_values | go_skip | go_guarded | go_step | go_upon | go_back | dsimp only))
      go_ret
      exact ⟨_, rfl, by rw [HLG.out]; decide, HB.out⟩
theorem Contains_calls {w : World} {v : Value} {D : List Chg} (hrd : RdRow w v D.length 2 (D.flatMap chc)) :
    Calls Try.prog 36 #[v, .func (.func 37) #[] #[]] w fun e w' => e = .returned (.bool (longC D)) ∧ Below w.heap.size w w' := by
  have HI := Lib.hid (Index_calls hrd)
  obtain ⟨ao, cap, rfl, _, _⟩ := hrd.shape
  clear hrd
  generalize longC D = b at *
  go_enter Try.func36, Try.ntmps36
  (repeat' (first | (go_big_may; fail) | go_values | go_skip | go_guarded | go_step | go_upon | go_back | dsimp only))
  refine HI.out.mono ?_
  rintro e1 w1 ⟨i, rfl, hi, hb1⟩
  subst hi
  have HB1 := Lib.hid hb1
  clear hb1 HI
  (repeat' (first | (go_big_may; fail) | go_values | go_skip | go_guarded | go_step | go_upon | go_back | dsimp only))
  go_ret
  exact ⟨by simp, HB1.out⟩
abbrev tBoo : TypeId := 4
theorem longW_snoc (p : List (List UInt8)) (x : List UInt8) : longW (p ++ [x]) = (longW p || decide (255 < x.length)) := by
  unfold longW; rw [List.any_append]; simp
theorem sum_255 {S : List (List UInt8)} (h : ∀ r ∈ S, r.length ≤ 255) : sumL S ≤ 255 * S.length := by
  induction S with
  | nil => exact Nat.le_refl _
  | cons r S ih =>
    have h1 := h r (by simp)
    have h2 := ih fun x hx => h x (by simp [hx])
    have e : sumL (r :: S) = r.length + sumL S := by simp [sumL]
    rw [e, List.length_cons]; omega
theorem strs_more {W w : World} {v : Value} {zs : List (List UInt8)} {x : ByteArray} {R : Thing} (h : At W w (Both (RowG tTx 1 v (zs.length + 1) (strs zs ++ (#[.string x] : Array Value).toList)) R)) : At W w (Both (RowG tTx 1 v (zs ++ [x.data.toList]).length (strs (zs ++ [x.data.toList]))) R) := by
  have e1 : (zs ++ [x.data.toList]).length = zs.length + 1 := by simp
  have e2 : strs (zs ++ [x.data.toList]) = strs zs ++ (#[.string x] : Array Value).toList := by simp [strs]
  rw [e1, e2]
  exact h
theorem short_of {xs S : List (List UInt8)} {D : List Chg} (hl : (longC D || longW xs) = false) (h : PatOk xs D S) : ∀ r ∈ S, r.length ≤ 255 := fun r hr => by
  rw [Bool.or_eq_false_iff] at hl
  rcases h.words r hr with h1 | ⟨d, hd, rfl⟩
  · have := hl.2
    unfold longW at this
    rw [List.any_eq_false] at this
    have := this r h1
    simp at this; omega
  · have := hl.1
    unfold longC at this
    rw [List.any_eq_false] at this
    have := this d hd
    simp at this; omega
theorem build_set {S : List (List UInt8)} (hr : RisesL S) (h255 : ∀ r ∈ S, r.length ≤ 255) (hn : S.length ≤ 2097152) {w : World} {v : Value} (hv : RdRow w v S.length 1 (strs S)) :
    Calls Try.prog 31 #[v] w fun e w' => ∃ ov, e = .returned (.tuple #[ov, .int .i64 0]) ∧ At w w' (Both (AutG tAS tAE ov (minT (setT S))) Nought) := by
  have hsz := sum_255 h255
  obtain ⟨hz1, _⟩ := minT_sz (setT S)
  have hz2 := szT_setT S
  exact Build_at hv h255 (by omega) (rises_r hr) (build_tree h255 (by omega) hr) (by omega)
/-- How Patch ends. -/
def PatP (W : World) (xs : List (List UInt8)) (D : List Chg) (e : Ending) (w' : World) : Prop :=
  ((longC D || longW xs) = true ∧ e = .returned (.tuple #[.slice none 0 0, .int .i64 22]) ∧ Below W.heap.size W w') ∨
  ((longC D || longW xs) = false ∧ patchS xs D = none ∧ e = .returned (.tuple #[.slice none 0 0, .int .i64 270]) ∧ Below W.heap.size W w') ∨
  ((longC D || longW xs) = false ∧ ∃ S, patchS xs D = some S ∧ ∃ vo, e = .returned (.tuple #[vo, .int .i64 0]) ∧ At W w' (Both (AutG tAS tAE vo (minT (setT S))) Nought))
/-- Between two rounds over the words. -/
abbrev PatI (km kl mb : Nat) (lc : Bool) (p : List (List UInt8)) : Thing := Both (CellT km #[.map (some mb)] tMS) (Both (SetT mb p.length p) (CellT kl #[.bool (lc || longW p)] tBoo))
theorem PatI.stable (km kl mb : Nat) (lc : Bool) (p : List (List UInt8)) : Stable (PatI km kl mb lc p) := (CellT.stable _ _ _).both ((SetT.stable _ _ _).both (CellT.stable _ _ _))
theorem At.patOut {W w : World} {A B C R : Thing} (h : At W w (Both (Both A (Both B C)) R)) : At W w (Both A (Both B (Both C R))) := h.toR.impl fun _ q => Both.mono (fun _ _ q => Both.toR q) q
theorem At.patIn {W w : World} {A B C R : Thing} (h : At W w (Both A (Both B (Both C R)))) : At W w (Both (Both A (Both B C)) R) := (h.impl fun _ q => Both.mono (fun _ _ q => Both.toL q) q).toL
set_option maxRecDepth 100000 in
set_option maxHeartbeats 2000000 in
theorem Patch_bad {w : World} {A : List Sta} {va : Value} (hA : RdAut w va A) (hlA : A.length ≤ 1048576 ∧ edgesN A ≤ 1048576) {vd : Value} {D : List Chg} (hD : RdRow w vd D.length 2 (D.flatMap chc)) {E : Int} (hE : FitR [A] E) (h0 : E ≠ 0) :
    Calls Try.prog 21 #[va, vd] w fun e w' => e = .returned (.tuple #[.slice none 0 0, .int .i64 E]) ∧ Below w.heap.size w w' := by
  have hb0 : Below w.heap.size w (w.alloc (.cells #[va] 22)) := (Below.refl _ _).alloc (Nat.le_refl _) _
  have hf := fit_calls (w := w.alloc (.cells #[va] 22)) (As := [A]) (lit_rd #[va] 1 1 rfl (by simp [maxLen])) (fun i C hC => by
    match i with
    | 0 => simp at hC; subst hC; exact ⟨va, rfl, hA.below hb0⟩
    | i + 1 => simp at hC) (fun C hC => by simp at hC; subst hC; exact hlA) hE
  obtain ⟨aa, ac, rfl, _, _⟩ := hA.shape
  obtain ⟨da, dc, rfl, _, _⟩ := hD.shape
  have hne : (E != 0) = true := by simpa using h0
  have HF := Lib.hid hf
  clear hf hA hE h0 hb0 hD
  (refine (callsIn_wide (n := 0)).1 (callsIn_of_wp_marks Try.func21 rfl trivial (wpIn_wide.2 ?_) rfl); simp only [Try.ntmps21, List.size_toArray, List.length_cons, List.length_nil, Nat.reduceAdd, Nat.reduceSub, Array.replicate_succ, Array.replicate_zero, List.push_toArray, List.append_toArray, List.nil_append, List.cons_append])
  (repeat' (first | (go_big_may; fail) | go_values | go_skip | go_guarded | go_step | go_upon | go_back | dsimp only))
  refine HF.out.mono ?_
  rintro e1 w1 ⟨rfl, hb1⟩
  have HB := Lib.hid (((Below.refl w.heap.size w).alloc (Nat.le_refl _) (.cells #[.slice aa A.length ac] 22)).trans (hb1.mono (by simp)))
  clear hb1 HF
  (repeat' (first | (go_big_may; fail) | go_values | go_skip | go_guarded | go_step | go_upon | go_back | dsimp only))
  show LeavesInM _ _ _ _ _ _ _ _ _
  exact leave0 (v := .tuple #[.slice none 0 0, .int .i64 E]) (by simp [results, Try.results21, go_sem]) ⟨rfl, HB.out⟩
theorem fit_one {A : List Sta} {t : Trie} (hs : shapeB A = true) (ht : Unf A 0 t) (hc : cntT t ≤ 65536) : FitR [A] 0 :=
  .inr ⟨fun C hC => by simp at hC; subst hC; exact hs, .inr ⟨rfl, fun C hC => by simp at hC; subst hC; exact ⟨t, ht, hc⟩⟩⟩
set_option linter.unusedSimpArgs false in
set_option maxRecDepth 100000 in
set_option maxHeartbeats 1600000 in
theorem Patch_ok {w : World} {A : List Sta} {va : Value} (hA : RdAut w va A) (hlA : A.length ≤ 1048576 ∧ edgesN A ≤ 1048576) {vd : Value} {D : List Chg} (hD : RdRow w vd D.length 2 (D.flatMap chc)) (hn : D.length ≤ 1048576) (hdw : ∀ c ∈ D, c.1.length ≤ 1048576) (hs : shapeB A = true) {t : Trie} (ht : Unf A 0 t) (hc : cntT t ≤ 65536) :
    Calls Try.prog 21 #[va, vd] w (PatP w (wT t []) D) := by
  have hb0 : Below w.heap.size w (w.alloc (.cells #[va] 22)) := (Below.refl _ _).alloc (Nat.le_refl _) _
  have hf := fit_calls (w := w.alloc (.cells #[va] 22)) (As := [A]) (lit_rd #[va] 1 1 rfl (by simp [maxLen])) (fun i C hC => by
    match i with
    | 0 => simp at hC; subst hC; exact ⟨va, rfl, hA.below hb0⟩
    | i + 1 => simp at hC) (fun C hC => by simp at hC; subst hC; exact hlA) (fit_one hs ht hc)
  obtain ⟨aa, ac, rfl, _, _⟩ := hA.shape
  obtain ⟨da, dc, rfl, _, hdcm⟩ := hD.shape
  unfold maxLen at hdcm
  have hgd := good_root hs ht
  have hxl : (wT t []).length ≤ 65536 := by rw [← cnt_words hgd]; exact hc
  have HXW := Lib.hid (fun w (h : w ∈ wT t []) => show w.length ≤ 1048576 by have := word_len hgd h; have := htT_lt ht; omega)
  have HXR := Lib.hid (words_rise hgd)
  have HQ := Lib.hid (fun ka => words1_seqs (W := w) hA hlA ht ka)
  have HF := Lib.hid hf
  have HD := Lib.hid hD
  have HDW := Lib.hid hdw
  have HMM := Lib.hid mk_ms
  generalize wT t [] = xs at *
  clear hf hA hb0 hD hdw hs ht hgd hc
  (refine (callsIn_wide (n := 0)).1 (callsIn_of_wp_marks Try.func21 rfl trivial (wpIn_wide.2 ?_) rfl); simp only [Try.ntmps21, List.size_toArray, List.length_cons, List.length_nil, Nat.reduceAdd, Nat.reduceSub, Array.replicate_succ, Array.replicate_zero, List.push_toArray, List.append_toArray, List.nil_append, List.cons_append])
  (repeat' (first | (go_big_may; fail) | go_values | go_skip | go_guarded | go_step | go_upon | go_back | dsimp only))
  refine HF.out.mono ?_
  rintro e1 w1 ⟨rfl, hb1⟩
  have hbw := ((Below.refl w.heap.size w).alloc (Nat.le_refl _) (.cells #[.slice aa A.length ac] 22)).trans (hb1.mono (by simp))
  have h1 := (At.nought hbw).newSet Stable.nought
  have h2 := h1.newCell ((SetT.stable _ _ _).both Stable.nought) #[.map (some w1.heap.size)] tMS
  rw [show (w1.alloc (.map #[] 0)).heap.size = w1.heap.size + 1 by simp] at h2
  have hcf := Contains_calls (HD.out.below h2.below)
  have hmm := HMM.out w1
  have HCF := Lib.hid hcf
  have H2 := Lib.hid h2
  clear h1 h2 hcf hb1 HF hbw
  (repeat' (first | (go_big_may; fail) | go_values | go_skip | go_guarded | go_step | go_upon | go_back | dsimp only))
  refine HCF.out.mono ?_
  rintro e2 w2 ⟨rfl, hb2⟩
  clear hmm HMM
  have hst2 := (CellT.stable (w1.heap.size + 1) #[.map (some w1.heap.size)] tMS).both ((SetT.stable w1.heap.size 0 []).both Stable.nought)
  have h3 := (H2.out.mono hst2 hb2).newCell hst2 #[.bool (longC D)] tBoo
  have h4 := h3.newCell ((CellT.stable _ _ _).both hst2) #[.slice aa A.length ac] tAuts
  rw [alloc_size] at h4
  have HV := Lib.hid (words_calls (w2.alloc (.cells #[.bool (longC D)] tBoo)) aa A.length ac)
  have H4 := Lib.hid h4
  clear h3 h4 hst2 hb2 HCF H2
  generalize hlc : longC D = lc at *
  have HLC := Lib.hid hlc
  clear hlc
  (repeat' (first | (go_big_may; fail) | go_values | go_skip | go_guarded | go_step | go_upon | go_back | dsimp only))
  refine HV.out.mono ?_
  rintro e3 w3 ⟨rfl, hw3⟩
  have h5 := H4.out
  rw [← hw3] at h5
  simp only [alloc_size] at h5 ⊢
  have h6 : At w w3 (Both (PatI (w1.heap.size + 1) w2.heap.size w1.heap.size lc []) (Both (CellT (w2.heap.size + 1) #[.slice aa A.length ac] tAuts) Nought)) := by
    have e : (lc || longW []) = lc := by simp [longW]
    show At w w3 (Both (Both _ (Both _ (CellT _ #[.bool (lc || longW [])] tBoo))) _)
    rw [e]
    exact At.patIn h5.swap.pull4.pull4
  generalize w2.heap.size + 1 = kb at *
  generalize w2.heap.size = kl at *
  generalize w1.heap.size + 1 = km at *
  generalize w1.heap.size = mb at *
  clear h5 hw3 HV H4
  (repeat' (first | (go_big_may; fail) | go_values | go_skip | go_guarded | go_step | go_upon | go_back | dsimp only))
  generalize ha0 : Act.mk _ _ = a0
  refine range_at (L := xs) (HQ.out kb) (by rw [← ha0]; rfl) (enters_of Try.func43 (by kernel_rfl) rfl) (fun _ => rfl) (CellT.stable _ _ _) Stable.nought (fun p => PatI km kl mb lc p) (fun _ => PatI.stable _ _ _ _ _) (fun _ _ => NeverT) (fun _ _ => NeverT.stable)
    (fun p x a X => a = { tmps := (foldTmps #[25] (encW x) a0.tmps).setIfInBounds 9 (.string ⟨x.toArray⟩), defers := [] } ∧ X = PatI km kl mb lc p) h6 ?assign ?body ?done ?stop
  case assign =>
    intro l pre x w2 Ψ hp hΨ h2
    subst ha0
    simp only [fold_one, encW, List.setIfInBounds_toArray, List.set_cons_zero, List.set_cons_succ]
    (repeat' (first | (gi_big_may; fail) | go_values | gi_guarded | gi_step | gi_upon | gi_back | dsimp only))
    exact ⟨_, PatI.stable _ _ _ _ _, ⟨trivial, rfl⟩, h2⟩
  case body =>
    rintro l pre x w4 R2 a2 X hp hR2 hX ⟨rfl, rfl⟩ h2
    have hlen := hp.length_le
    rw [List.length_append, List.length_singleton] at hlen
    have hxm : x ∈ xs := by obtain ⟨t, rfl⟩ := hp; simp
    have hxx := HXW.out x hxm
    have h3 := h2.patOut
    have hls : (lc || longW (pre ++ [x])) = ((lc || longW pre) || decide (255 < x.length)) := by rw [longW_snoc, Bool.or_assoc]
    obtain ⟨lb, hlb⟩ : ∃ lb, (lc || longW pre) = lb := ⟨_, rfl⟩
    rw [hlb] at h3 hls
    have hst3 : Stable (Both (CellT kl #[.bool lb] tBoo) (Both (CellT kb #[.slice aa A.length ac] tAuts) R2)) := (CellT.stable _ _ _).both ((CellT.stable _ _ _).both hR2)
    obtain ⟨w5, hrun, h5⟩ := h3.swap.setPut (T := pre ++ [x]) ((CellT.stable km #[.map (some mb)] tMS).both hst3) (by unfold maxLen; omega) (s := ⟨x.toArray⟩) (by unfold maxLen; show x.length ≤ _; omega) (fun y => by
      rw [List.mem_append, List.mem_singleton]; exact Or.comm)
    obtain ⟨g1, _, _⟩ := h3.cellF (o := 0) rfl
    obtain ⟨q1, qf1, _⟩ := h5.drop.drop.cellF (o := 0) rfl
    have hfin : At w (w5.setCell ⟨kl, 0, none⟩ (.bool (lb || decide (255 < x.length)))) (Both (PatI km kl mb lc (pre ++ [x])) (Both (CellT kb #[.slice aa A.length ac] tAuts) R2)) := by
      have h6 := h5.pull3.setCell ((SetT.stable _ _ _).both ((CellT.stable _ _ _).both ((CellT.stable _ _ _).both hR2))) 0 (.bool (lb || decide (255 < x.length)))
      have h7 := h6.swap.pull3
      show At w _ (Both (Both _ (Both (SetT mb (pre ++ [x]).length (pre ++ [x])) (CellT kl #[.bool (lc || longW (pre ++ [x]))] tBoo))) _)
      rw [hls, List.length_append, List.length_singleton]
      exact At.patIn h7
    have HFI := Lib.hid hfin
    clear h2 h3 h5 hp hst3 hxm h6 hls hlb hfin
    have hxs : (x.length : Int) ≤ 1048576 := by omega
    subst ha0
    simp only [fold_one, encW, List.setIfInBounds_toArray, List.set_cons_zero, List.set_cons_succ]
    cases lb with
    | true =>
      rw [Bool.true_or] at HFI
      (repeat' (first | (gi_big_may; (gi_at_mapUpdate; refine wpListIn_upd rfl _ _ _ tMS rfl rfl rfl rfl hrun ?_)) | go_values | gi_guarded | gi_step | gi_upon | gi_back | dsimp only))
      exact HFI.out
    | false =>
      rw [Bool.false_or] at HFI
      by_cases hl : 255 < x.length
      · rw [decide_eq_true hl] at HFI
        have hlI : (255 : Int) < (x.length : Int) := by omega
        clear hl
        (repeat' (first | (gi_big_may; (gi_at_mapUpdate; refine wpListIn_upd rfl _ _ _ tMS rfl rfl rfl rfl hrun ?_)) | go_values | gi_guarded | gi_step | gi_upon | gi_back | dsimp only))
        exact HFI.out
      · rw [decide_eq_false hl] at HFI
        have hlI : ¬ (255 : Int) < (x.length : Int) := by omega
        clear hl
        (repeat' (first | (gi_big_may; (gi_at_mapUpdate; refine wpListIn_upd rfl _ _ _ tMS rfl rfl rfl rfl hrun ?_)) | go_values | gi_guarded | gi_step | gi_upon | gi_back | dsimp only))
        exact HFI.out
  case done =>
    intro D1 w4 h7
    have h8 := h7.patOut
    obtain ⟨g1, _, _⟩ := h8.drop.drop.cellF (o := 0) rfl
    subst ha0
    have hmst : ∀ (S : List (List UInt8)) (n : Nat), Stable (Both (CellT km #[.map (some mb)] tMS) (Both (SetT mb n S) (Both (CellT kl #[.bool (lc || longW xs)] tBoo) (Both (CellT kb #[.slice aa A.length ac] tAuts) (Both (ObjT D1 (.deferred (some []))) Nought))))) := fun _ _ => (CellT.stable _ _ _).both ((SetT.stable _ _ _).both ((CellT.stable _ _ _).both ((CellT.stable _ _ _).both ((ObjT.stable _ _).both Stable.nought))))
    have HMS := Lib.hid hmst
    have H8 := Lib.hid h8
    clear h7 h8 hmst h6
    cases hlo : (lc || longW xs) with
    | true =>
      have HLO := Lib.hid (show (longC D || longW xs) = true by rw [HLC.out]; exact hlo)
      rw [hlo] at g1 H8
      clear hlo
      (repeat' (first | (go_big_may; fail) | go_values | go_skip | go_guarded | go_step | go_upon | go_back | dsimp only))
      show LeavesInM _ _ _ _ _ _ _ _ _
      exact leaveM H8.out.pull5 ((CellT.stable _ _ _).both ((SetT.stable _ _ _).both ((CellT.stable _ _ _).both ((CellT.stable _ _ _).both Stable.nought)))) fun w' h' _ => leave0 (v := .tuple #[.slice none 0 0, .int .i64 22]) (by simp [results, Try.results21, go_sem]) (.inl ⟨HLO.out, rfl, h'.below⟩)
    | false =>
      have HLO := Lib.hid (show (longC D || longW xs) = false by rw [HLC.out]; exact hlo)
      rw [hlo] at g1 H8 HMS
      clear hlo
      (repeat' (first | (go_big_may; fail) | go_values | go_skip | go_guarded | go_step | go_upon | go_back | dsimp only))
      clear g1
      go_loopw [37] (fun vk wr => ∃ (k : Nat) (S : List (List UInt8)), vk = .int .i64 k ∧ k ≤ D.length ∧ patchS xs (D.take k) = some S ∧ At w wr (Both (CellT km #[.map (some mb)] tMS) (Both (SetT mb (xs.length + k) S) (Both (CellT kl #[.bool false] tBoo) (Both (CellT kb #[.slice aa A.length ac] tAuts) (Both (ObjT D1 (.deferred (some []))) Nought)))))) (fun vk _ => D.length - (intOf vk).toNat)
      case atStart => exact ⟨0, xs, rfl, Nat.zero_le _, rfl, H8.out⟩
      case round =>
        obtain ⟨k, S, rfl, hk, hpk, h9⟩ := hrel
        by_cases hlt : k < D.length
        · obtain ⟨c, hc⟩ : ∃ c, D[k]? = some c := ⟨_, List.getElem?_eq_getElem hlt⟩
          obtain ⟨b, off, cp, hsl, hx0, hx1⟩ := chg_at (fun _ => rfl) (HD.out.below h9.below) hc
          cases hsl
          have hkI : (k : Int) < (D.length : Int) := by omega
          have hcl := HDW.out c (List.mem_of_getElem? hc)
          have h10 := h9.newCell (HMS.out S (xs.length + k)) #[.string ⟨c.1.toArray⟩, .bool c.2] tCh
          obtain ⟨m0, _, _⟩ := h10.drop.cellF (o := 0) rfl
          have hget := h10.pull3.setGet (s := ⟨c.1.toArray⟩) (by unfold maxLen; show c.1.length ≤ _; omega)
          rw [show (⟨c.1.toArray⟩ : ByteArray).data.toList = c.1 from rfl] at hget
          have hps : patchS xs (D.take (k + 1)) = stepS S c := by rw [List.take_add_one, hc, Option.toList_some, patch_snoc, hpk]
          obtain ⟨cw, co⟩ := c
          dsimp only at hx0 hx1 hcl hget h10 m0
          have hst11 : ∀ S n, Stable (Both (CellT wr.heap.size #[.string ⟨cw.toArray⟩, .bool co] tCh) (Both (CellT km #[.map (some mb)] tMS) (Both (SetT mb n S) (Both (CellT kl #[.bool false] tBoo) (Both (CellT kb #[.slice aa A.length ac] tAuts) (Both (ObjT D1 (.deferred (some []))) Nought)))))) := fun S n => (CellT.stable _ _ _).both (HMS.out S n)
          have H10 := Lib.hid h10
          have HPS := Lib.hid hps
          by_cases hm : cw ∈ S
          · rw [if_pos hm] at hget
            cases co with
            | true =>
              have hso := step_ok (S := S) (c := (cw, true)) (by simp [hm])
              rw [hso] at hps
              obtain ⟨w5, hrun, h11⟩ := h10.pull3.setDel (T := minusL S [cw]) ((CellT.stable _ _ _).both ((CellT.stable _ _ _).both ((CellT.stable _ _ _).both ((CellT.stable _ _ _).both ((ObjT.stable _ _).both Stable.nought))))) (s := ⟨cw.toArray⟩) (by unfold maxLen; show cw.length ≤ _; omega) 0 (fun y => minus_mem)
              have HP2 := Lib.hid hps
              have H11 := Lib.hid (h11.swap.drop.swap)
              clear h9 h10 hc hps hpk hso hm h11 hst11 HPS
              (repeat' (first | (go_big_may; (at_delete; refine wpList_del rfl _ _ tMS tTx rfl rfl rfl hrun ?_)) | go_values | go_skip | go_guarded | go_step | go_upon | go_back | dsimp only))
              go_roundw
              case rel => exact ⟨k + 1, _, by simp, by omega, HP2.out, (H11.out.swap.setMono (by omega)).swap⟩
              case measure => simp [intOf] <;> omega
            | false =>
              have hno := step_no (S := S) (c := (cw, false)) (by simp [hm])
              have HNO := Lib.hid (patch_none (hps.trans hno))
              have HST := Lib.hid (hst11 S (xs.length + k))
              clear h9 h10 hc hps hpk hno hm hst11
              (repeat' (first | (go_big_may; fail) | go_values | go_skip | go_guarded | go_step | go_upon | go_back | dsimp only))
              show LeavesInM _ _ _ _ _ _ _ _ _
              exact leaveM H10.out.pull6 ((CellT.stable _ _ _).both ((CellT.stable _ _ _).both ((SetT.stable _ _ _).both ((CellT.stable _ _ _).both ((CellT.stable _ _ _).both Stable.nought))))) fun w' h' _ => leave0 (v := .tuple #[.slice none 0 0, .int .i64 270]) (by simp [results, Try.results21, go_sem]) (.inr (.inl ⟨HLO.out, HNO.out, rfl, h'.below⟩))
          · rw [if_neg hm] at hget
            cases co with
            | true =>
              have hno := step_no (S := S) (c := (cw, true)) (by simp [hm])
              have HNO := Lib.hid (patch_none (hps.trans hno))
              clear h9 h10 hc hps hpk hno hm hst11
              (repeat' (first | (go_big_may; fail) | go_values | go_skip | go_guarded | go_step | go_upon | go_back | dsimp only))
              show LeavesInM _ _ _ _ _ _ _ _ _
              exact leaveM H10.out.pull6 ((CellT.stable _ _ _).both ((CellT.stable _ _ _).both ((SetT.stable _ _ _).both ((CellT.stable _ _ _).both ((CellT.stable _ _ _).both Stable.nought))))) fun w' h' _ => leave0 (v := .tuple #[.slice none 0 0, .int .i64 270]) (by simp [results, Try.results21, go_sem]) (.inr (.inl ⟨HLO.out, HNO.out, rfl, h'.below⟩))
            | false =>
              have hso := step_ok (S := S) (c := (cw, false)) (by simp [hm])
              rw [hso] at hps
              obtain ⟨w5, hrun, h11⟩ := h10.pull3.setPut (T := mergeL S [cw]) ((CellT.stable _ _ _).both ((CellT.stable _ _ _).both ((CellT.stable _ _ _).both ((CellT.stable _ _ _).both ((ObjT.stable _ _).both Stable.nought))))) (by unfold maxLen; omega) (s := ⟨cw.toArray⟩) (by unfold maxLen; show cw.length ≤ _; omega) (fun y => by rw [mergeL_mem]; simp; exact Or.comm)
              have HP2 := Lib.hid hps
              have H11 := Lib.hid (h11.swap.drop.swap)
              clear h9 h10 hc hps hpk hso hm h11 hst11 HPS
              (repeat' (first | (go_big_may; (at_mapUpdate; refine wpList_upd rfl _ _ _ tMS rfl rfl rfl rfl hrun ?_)) | go_values | go_skip | go_guarded | go_step | go_upon | go_back | dsimp only))
              go_roundw
              case rel => exact ⟨k + 1, _, by simp, by omega, HP2.out, by rw [← Nat.add_assoc]; exact H11.out⟩
              case measure => simp [intOf] <;> omega
        · obtain rfl : k = D.length := by omega
          have hkI : ¬ (D.length : Int) < (D.length : Int) := by omega
          rw [List.take_length] at hpk
          have hok := patch_ok HXR.out hpk
          have hSl := hok.len
          have hSl2 : S.length ≤ 2097152 := by omega
          have h10 := h9.swap
          obtain ⟨D0, hown, hD0⟩ := h10.set
          obtain ⟨m0, _, _⟩ := h9.cellF (o := 0) rfl
          have hstR : Stable (Both (CellT km #[.map (some mb)] tMS) (Both (CellT kl #[.bool false] tBoo) (Both (CellT kb #[.slice aa A.length ac] tAuts) (Both (ObjT D1 (.deferred (some []))) Nought)))) := (CellT.stable _ _ _).both ((CellT.stable _ _ _).both ((CellT.stable _ _ _).both ((ObjT.stable _ _).both Stable.nought)))
          have H10 := Lib.hid h10
          have HO := Lib.hid hown
          have HD0 := Lib.hid hD0
          have HPK := Lib.hid hpk
          have HOK := Lib.hid hok
          have HSR := Lib.hid hstR
          clear h9 h10 hown hD0 hpk hok hstR
          (repeat' (first | (go_big_may; (at_range; refine wpList_range_own _ rfl _ tMS rfl tTx tInS strKey Try.underlying89 (plainElem Try.prog tInS) mb (xs.length + D.length) D0 rfl HO.out ?_; intro w0 hrg0 hg0 hs0)) | go_values | go_skip | go_guarded | go_step | go_upon | go_back | dsimp only))
          go_frame
          have H11 := Lib.hid ((H10.out.rngStart HSR.out hg0 hrg0).noRowG ((RngT.stable _ _ _ _ _ _).both HSR.out) tTx 1)
          clear hrg0 hg0 H10
          generalize wr.heap.size = rb at *
          clear m0
          go_loopw [12] (fun x wi => ∃ (left : Lit → Bool) (cnt : Nat) (zs : List (List UInt8)), MetS D0 left zs ∧ At w wi (Both (RowG tTx 1 x zs.length (strs zs)) (Both (RngT mb rb (xs.length + D.length) D0 left cnt) (Both (CellT km #[.map (some mb)] tMS) (Both (CellT kl #[.bool false] tBoo) (Both (CellT kb #[.slice aa A.length ac] tAuts) (Both (ObjT D1 (.deferred (some []))) Nought))))))) (fun _ wi => wi.rangeLeft mb rb)
          case atStart => exact ⟨_, _, [], MetS.start D0, H11.out⟩
          case round =>
            obtain ⟨left, cnt, zs, hmet, h12⟩ := hrel
            obtain ⟨oa, oc, rfl, _, hoc⟩ := own_shape h12.rowG
            unfold maxLen at hoc
            have hzl := hmet.len HD0.out
            have hrg := h12.drop.rng
            have HRG := Lib.hid hrg
            have HMET := Lib.hid hmet
            have H12 := Lib.hid h12
            clear hmet h12 hrg
            (repeat' (first | (go_big_may; (at_next; refine wpList_next_ranges _ rfl _ rfl tTx strKey (plainElem Try.prog tInS) Value.string (Value.int .i64) strK_inv intR_inv mb rb (xs.length + D.length) D0 left cnt rfl HRG.out ?_ ?_)) | go_values | go_skip | go_guarded | go_step | go_upon | go_back | dsimp only))
            · intro hc0 hl0
              have hperm := HMET.out.perm hl0 HD0.out HOK.out.rises
              have hsort := sort_rises HOK.out.rises hperm
              have hst := (RngT.stable mb rb (xs.length + D.length) D0 left cnt).both HSR.out
              have hso := Sort_at H12.out hst (by omega)
              rw [hsort] at hso
              have HZS := Lib.hid (show zs.length = S.length from hperm.length_eq)
              have HSO := Lib.hid hso
              have HST := Lib.hid hst
              clear hl0 hc0 hperm hsort hso hst
              (repeat' (first | (go_big_may; fail) | go_values | go_skip | go_guarded | go_step | go_upon | go_back | dsimp only))
              refine HSO.out.mono ?_
              rintro e5 w5 ⟨rfl, h13⟩
              have hbd := build_set HOK.out.rises (short_of HLO.out HOK.out) hSl2 (Eq.subst (motive := fun n => RdRow w5 (.slice oa zs.length oc) n 1 (strs S)) HZS.out (RdRow.of_own h13.rowG))
              have HBD := Lib.hid hbd
              have H13 := Lib.hid h13
              clear hbd h13 HSO
              (repeat' (first | (go_big_may; fail) | go_values | go_skip | go_guarded | go_step | go_upon | go_back | dsimp only))
              refine HBD.out.mono ?_
              rintro e6 w6 ⟨vo, rfl, h14⟩
              have h15 := H13.out.glue ((RowG.stable _ _ _ _ _).both HST.out) h14
              have H16 := Lib.hid (h15.swap.drop.swap.drop.swap.drop.swap.drop.swap.drop.swap)
              clear h14 h15 HBD H13
              (repeat' (first | (go_big_may; fail) | go_values | go_skip | go_guarded | go_step | go_upon | go_back | dsimp only))
              show LeavesInM _ _ _ _ _ _ _ _ _
              exact leaveM H16.out ((AutG.stable _ _ _ _).both Stable.nought) fun w' h' _ => leave0 (v := .tuple #[vo, .int .i64 0]) (by simp [results, Try.results21, go_sem]) (.inr (.inr ⟨HLO.out, S, HPK.out, vo, rfl, h'⟩))
            · intro x c kl' y w1 cnt1 hkey hlk hv hat hrg1 hlt hg1 hs1 hen
              obtain ⟨x', ex, rfl, hxs⟩ := Go.WideMaps.string_of_keyOf Try.underlying9 hkey
              cases ex
              have hmet1 := HMET.out.step (x := x.data.toList) hlk hat
              have hzl1 := hmet1.len HD0.out
              rw [List.length_append, List.length_singleton] at hzl1
              have h13 := (H12.out.swap.rngStep ((RowG.stable _ _ _ _ _).both HSR.out) hg1 hrg1).swap
              have H13 := Lib.hid h13
              have HM1 := Lib.hid hmet1
              have HLT := Lib.hid hlt
              have HRG1 := Lib.hid hrg1
              have hst := (RngT.stable mb rb (xs.length + D.length) D0 (fun z => left z && !z.sameKey (.string x.data.toList)) cnt1).both HSR.out
              have HST := Lib.hid hst
              clear hkey hlk hv hat hrg1 hg1 hlt hmet1 h13 hst hs1 hxs
              (repeat' (first | (go_big_may; ((at_builtin; go_must (refine wpList_append_to rfl _ _ 66 tTx rfl Try.underlying66 info_Tx rfl (by decide) rfl (H13.out) (HST.out) rfl (by first | rfl | simp) rfl (one_str _) (by unfold maxLen; omega) (by omega) ?_); intro a2 c2 w6 h14 _); have H14 := Lib.hid h14; clear h14)) | go_values | go_skip | go_guarded | go_step | go_upon | go_back | dsimp only))
              go_roundw
              case rel => exact ⟨_, _, zs ++ [x.data.toList], HM1.out, strs_more H14.out⟩
              case measure => rw [H14.out.drop.rng.left_eq, HRG.out.left_eq]; exact HLT.out
  case stop =>
    intro D c pre w2 hp h2
    exact h2.never.elim
end Go.Proofs.Ytcbdncjknpdnbaa

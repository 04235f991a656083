/- The laws of layer 8: twin, same, is, wakes walked. · streams: From walked: its iterator, and what it makes. -/
import Derived.Test.YtgeabmmicofanaaGreatDoorBuSpLaw27
import Derived.Deep.QuietTactic
import Derived.BigQuiet
set_option linter.unusedSimpArgs false
set_option linter.unusedVariables false
namespace Go.Proofs.YtgeabmmicofanaaGreatDoor
open Go.RowKit

set_option maxHeartbeats 400000 in
theorem twin8_calls (ss : List (List UInt8)) (v : Value) (w : World) (hv : RdRow w v ss.length 1 (strs ss)) (hlen : ss.length ≤ 8796093022208) :
    Calls Tryz.prog 10 #[v] w fun e w' => ∃ v', e = .returned v' ∧ w'.ownsRow w.heap.size 9 1 v' ss.length (strs ss) ∧ Below w.heap.size w w' := by
  obtain ⟨a, cap, rfl, hc1, hc2⟩ := hv.shape
  have HV := Lib.hid hv
  clear hv
  have h0 := World.ownsRow_nil w w.heap.size 9 1
  go_enter Tryz.func10, Tryz.ntmps10
  (repeat' (first | (go_big_may; (at_builtin; go_must (refine wpList_append_rd rfl _ _ 32 9 rfl Tryz.underlying32 info_Tx rfl (by decide) rfl h0 rfl HV.out (strs_oneCell _) (Nat.le_refl _) (by unfold maxLen; omega) (by omega) ?_); intro v1 w1 hown1 hgrow1 _)) | go_values | go_skip | go_guarded | go_step | go_upon | go_back | dsimp only))
  go_ret
  exact ⟨_, rfl, by simpa using hown1, grownOwn (Below.refl _ _) (Nat.le_refl _) h0 hgrow1⟩

theorem lists8_eq {la lb : List (List UInt8)} (hl : la.length = lb.length) (h : ∀ j, j < la.length → la[j]? = lb[j]?) : la = lb := by
  apply List.ext_getElem? 
  intro j
  by_cases hj : j < la.length
  · exact h j hj
  · rw [List.getElem?_eq_none (by omega), List.getElem?_eq_none (by omega)]

set_option maxHeartbeats 400000 in
theorem same8_calls (la lb : List (List UInt8)) (va vb : Value) (w : World) (ha : RdRow w va la.length 1 (strs la)) (hb : RdRow w vb lb.length 1 (strs lb)) :
    Calls Tryz.prog 27 #[va, vb] w fun e w' => e = .returned (.bool (decide (la = lb))) ∧ Below w.heap.size w w' := by
  obtain ⟨a, cap, rfl, hc1, hc2⟩ := ha.shape
  obtain ⟨a', cap', rfl, hc1', hc2'⟩ := hb.shape
  unfold maxLen at hc2 hc2'
  have HA := Lib.hid ha
  have HB := Lib.hid hb
  clear ha hb
  by_cases hl : la.length = lb.length
  · have hlb : ((la.length : Int) != lb.length) = false := by simp [hl]
    have HL := Lib.hid hl
    clear hl
    go_enter Tryz.func27, Tryz.ntmps27
    (repeat' (first | (go_big_may; fail) | go_values | go_skip | go_guarded | go_step | go_upon | go_back | dsimp only))
    go_loopw [13] (fun i wr => ∃ k : Nat, i = .int .i64 k ∧ k ≤ la.length ∧ (∀ j, j < k → la[j]? = lb[j]?) ∧ Below w.heap.size w wr) (fun i _ => la.length - (intOf i).toNat)
    case atStart => exact ⟨0, rfl, Nat.zero_le _, fun j hj => absurd hj (Nat.not_lt_zero _), Below.refl _ _⟩
    case round =>
      obtain ⟨k, rfl, hk, hpre, hbel⟩ := hrel
      have HP := Lib.hid hpre
      clear hpre
      by_cases hlt : k < la.length
      · obtain ⟨x, hx⟩ : ∃ x, la[k]? = some x := ⟨_, List.getElem?_eq_getElem hlt⟩
        have hlt2 : k < lb.length := by have := HL.out; omega
        obtain ⟨y, hy⟩ : ∃ y, lb[k]? = some y := ⟨_, List.getElem?_eq_getElem hlt2⟩
        obtain ⟨b, off, cp, hsl, hcell⟩ := (HA.out.below hbel).str hx
        cases hsl
        obtain ⟨b', off', cp', hsl, hcell'⟩ := (HB.out.below hbel).str hy
        cases hsl
        have HX := Lib.hid hx
        have HY := Lib.hid hy
        have hi0 : (0 : Int) ≤ k := by omega
        have hi1 : (k : Int) < la.length := by omega
        have hi2 : (k : Int) < lb.length := by omega
        clear hx hy
        by_cases hxy : x = y
        · have hs : (x == y) = true := by simp [hxy]
          have HE := Lib.hid hxy
          clear hxy
          (repeat' (first | (go_big_may; fail) | go_values | go_skip | go_guarded | go_step | go_upon | go_back | dsimp only))
          go_quiet (fail)
          (repeat' (first | (go_big_may; fail) | go_values | go_skip | go_guarded | go_step | go_upon | go_back | dsimp only))
          go_roundw
          case rel =>
            refine ⟨k + 1, by go_num, by omega, fun j hj => ?_, below_drewN hbel _⟩
            by_cases hjk : j = k
            · rw [hjk, HX.out, HY.out, HE.out]
            · exact HP.out j (by omega)
          case measure => simp [intOf] <;> omega
        · have hs : (x == y) = false := by simp [hxy]
          (repeat' (first | (go_big_may; fail) | go_values | go_skip | go_guarded | go_step | go_upon | go_back | dsimp only))
          go_quiet (fail)
          (repeat' (first | (go_big_may; fail) | go_values | go_skip | go_guarded | go_step | go_upon | go_back | dsimp only))
          go_ret
          have hne : decide (la = lb) = false := by
            rw [decide_eq_false_iff_not]
            intro h
            have h1 := HX.out
            rw [h, HY.out] at h1
            cases h1
            exact hxy rfl
          exact ⟨by rw [hne]; rfl, below_drewN hbel _⟩
      · (repeat' (first | (go_big_may; fail) | go_values | go_skip | go_guarded | go_step | go_upon | go_back | dsimp only))
        go_ret
        have : la = lb := lists8_eq HL.out (fun j hj => HP.out j (by omega))
        exact ⟨by rw [decide_eq_true this]; rfl, hbel⟩
  · have hlb : ((la.length : Int) != lb.length) = true := by simp; omega
    have hd : decide (la = lb) = false := by
      rw [decide_eq_false_iff_not]
      intro h; exact hl (by rw [h])
    go_enter Tryz.func27, Tryz.ntmps27
    (repeat' (first | (go_big_may; fail) | go_values | go_skip | go_guarded | go_step | go_upon | go_back | dsimp only))
    go_ret
    exact ⟨by rw [hd]; rfl, Below.refl _ _⟩

set_option maxRecDepth 100000 in
set_option maxHeartbeats 2000000 in
theorem List0_at {W w : World} {Φ R : Thing} {v : Value} (hΦ : Stable Φ) (hR : Stable R) (h : At W w (Both Φ R)) {m : Int} (hm1 : m < 1) :
    Calls Tryz.prog 28 #[.agg #[v], .int .i64 m] w fun e w' => e = .returned (.slice none 0 0) ∧ At W w' (Both Φ R) := by
  have hs0 := hΦ.both hR
  have h1 := ((h.alloc hs0 (.cells #[v] tStr)).newCell hs0 #[.int .i64 m] tNum).newCell ((CellT.stable _ _ _).both hs0) #[.slice none 0 0] tTxs
  rw [show (w.alloc (.cells #[v] tStr)).heap.size = w.heap.size + 1 from by simp, show ((w.alloc (.cells #[v] tStr)).alloc (.cells #[.int .i64 m] tNum)).heap.size = w.heap.size + 1 + 1 from by simp] at h1
  have g1 := (h1.swap.cellF (o := 0) (u := .int .i64 m) rfl).1
  have H1 := Lib.hid h1
  clear h1 h
  go_enter Tryz.func28, Tryz.ntmps28
  (repeat' (first | (go_big_may; fail) | go_values | go_skip | go_guarded | go_step | go_upon | go_back | dsimp only))
  go_ret
  exact ⟨rfl, H1.out.drop.drop⟩
theorem List_all {W w : World} {Φ R : Thing} {v : Value} {L : List (List UInt8)} (hs : IsStr W Φ v L) (hΦ : Stable Φ) (hR : Stable R) (h : At W w (Both Φ R)) (hn : L.length ≤ 1099511627776) {m : Int} (hm1 : (L.length : Int) ≤ m) (hm2 : m ≤ 9223372036854775807) :
    Calls Tryz.prog 28 #[.agg #[v], .int .i64 m] w fun e w' => ∃ u, e = .returned u ∧ At W w' (Both (RowG tTx 1 u L.length (strs L)) (Both Φ R)) := by
  by_cases hm : 1 ≤ m
  · have := List_at hs hΦ hR h hn hm hm2
    rw [List.take_of_length_le (by omega)] at this
    exact this
  · have hz : L = [] := List.eq_nil_of_length_eq_zero (by omega)
    subst hz
    refine (List0_at hΦ hR h (by omega)).mono ?_
    rintro e w' ⟨rfl, h1⟩
    exact ⟨_, rfl, h1.noRowG (hΦ.both hR) tTx 1⟩
set_option maxRecDepth 100000 in
set_option maxHeartbeats 2000000 in
/-- A stream that gives what is wanted. -/
theorem is_at {W w : World} {Φ R : Thing} {v vw : Value} {L : List (List UInt8)} (hs : IsStr W Φ v L) (hΦ : Stable Φ) (hR : Stable R) (h : At W w (Both Φ R)) (hn : L.length ≤ 1099511627776) (hk : ∀ w', At W w' (Both Φ R) → RdRow w' vw L.length 1 (strs L)) :
    Calls Tryz.prog 7 #[.agg #[v], vw] w fun e w' => e = .returned (.bool true) ∧ At W w' (Both Φ R) := by
  obtain ⟨aw, cw, rfl, _, _⟩ := (hk w h).shape
  have hR1 := (CellT.stable w.heap.size #[v] tStr).both hR
  have h0 := (h.newCell (hΦ.both hR) #[v] tStr).swap
  have HC := Lib.hid (Count_at hs hΦ hR1 h0 hn)
  have HK := Lib.hid hk
  clear hk h h0
  have e0 : ((L.length : Int) == L.length) = true := by simp
  go_enter Tryz.func7, Tryz.ntmps7
  (repeat' (first | (go_big_may; fail) | go_values | go_skip | go_guarded | go_step | go_upon | go_back | dsimp only))
  refine HC.out.mono ?_
  rintro e w1 ⟨rfl, h1⟩
  generalize w.heap.size = kb at *
  have c1 := (h1.drop.cellF (o := 0) (u := v) rfl).1
  have HL := Lib.hid (List_all hs hΦ hR1 h1 hn (m := (L.length : Int)) (Int.le_refl _) (by omega))
  clear h1 HC
  (repeat' (first | (go_big_may; fail) | go_values | go_skip | go_guarded | go_step | go_upon | go_back | dsimp only))
  refine HL.out.mono ?_
  rintro e w2 ⟨u, rfl, h2⟩
  have hs2 := same8_calls L L u (.slice aw L.length cw) w2 (RdRow.of_own h2.rowG) (HK.out w2 (h2.drop.swap.drop))
  have HS := Lib.hid hs2
  have H2 := Lib.hid h2.drop
  clear hs2 h2 HL c1
  (repeat' (first | (go_big_may; fail) | go_values | go_skip | go_guarded | go_step | go_upon | go_back | dsimp only))
  refine HS.out.mono ?_
  rintro e w3 ⟨rfl, hb3⟩
  have h3 := H2.out.mono (hΦ.both hR1) hb3
  have c3 := (h3.drop.cellF (o := 0) (u := v) rfl).1
  have HL := Lib.hid (List_all hs hΦ hR1 h3 hn (m := 1099511627776) (by omega) (by omega))
  have e1 : decide (L = L) = true := by simp
  clear h3 hb3 H2 HS
  (repeat' (first | (go_big_may; fail) | go_values | go_skip | go_guarded | go_step | go_upon | go_back | dsimp only))
  refine HL.out.mono ?_
  rintro e w4 ⟨u4, rfl, h4⟩
  have hs4 := same8_calls L L u4 (.slice aw L.length cw) w4 (RdRow.of_own h4.rowG) (HK.out w4 (h4.drop.swap.drop))
  have HS := Lib.hid hs4
  have H4 := Lib.hid h4.drop
  clear hs4 h4 HL c3
  (repeat' (first | (go_big_may; fail) | go_values | go_skip | go_guarded | go_step | go_upon | go_back | dsimp only))
  refine HS.out.mono ?_
  rintro e w5 ⟨rfl, hb5⟩
  have H5 := Lib.hid (H4.out.mono (hΦ.both hR1) hb5)
  clear hb5 HS H4
  (repeat' (first | (go_big_may; fail) | go_values | go_skip | go_guarded | go_step | go_upon | go_back | dsimp only))
  go_ret
  exact ⟨by simp, H5.out.swap.drop⟩
theorem of_bab : ofL [[98], [97], [98]] = [[97], [98]] := by
  refine RisesL.ext (ofL_rises _) (by simp [RisesL, LtW, Op.bytesLess]) fun x => ?_
  rw [ofL_mem]
  simp
  intro e
  exact .inr e
theorem At.lits {W w : World} {Φ : Thing} (h : At W w Φ) (hs : Stable Φ) (e : TypeId) (n : Nat) (C : Array Value) (hC : C.size = n) (hn : n ≤ maxLen) : At W (w.alloc (.cells C e)) (Both (RowG e 1 (.slice (some ⟨w.heap.size, 0, none⟩) n n) n C.toList) Φ) :=
  h.newRowG hs ((Below.refl _ _).alloc (Nat.le_refl _) _) ⟨by simpa using hC, .inr ⟨w.heap.size, n, C, rfl, Nat.le_refl _, heap_alloc_new _ _, Nat.le_refl _, hn, by simpa using hC, by rw [List.take_of_length_le (by simp [hC])]⟩⟩
set_option maxRecDepth 100000 in
set_option maxHeartbeats 2000000 in
theorem wakes8_calls (w : World) :
    Calls Tryz.prog 5 #[] w fun e w' => e = .returned (.bool true) ∧ Below w.heap.size w w' := by
  have h0 := (At.nought (Below.refl w.heap.size w)).lits Stable.nought tTx 3 #[.string ⟨#[98]⟩, .string ⟨#[97]⟩, .string ⟨#[98]⟩] rfl (by simp [maxLen])
  have hR0 := (RowG.stable tTx 1 (.slice (some ⟨w.heap.size, 0, none⟩) 3 3) 3 (#[.string ⟨#[98]⟩, .string ⟨#[97]⟩, .string ⟨#[98]⟩] : Array Value).toList).both Stable.nought
  have ho := SOf_at (L := [[98], [97], [98]]) h0 hR0 (RdRow.of_own h0.rowG) (by simp)
  rw [of_bab] at ho
  have HO := Lib.hid ho
  clear ho h0
  go_enter Tryz.func5, Tryz.ntmps5
  (repeat' (first | (go_big_may; fail) | go_values | go_skip | go_guarded | go_step | go_upon | go_back | dsimp only))
  refine HO.out.mono ?_
  rintro e w2 ⟨Φ, u, hΦ, rfl, hs, h2⟩
  have h3 := (h2.lits (hΦ.both hR0) tTx 2 #[.string ⟨#[97]⟩, .string ⟨#[98]⟩] rfl (by simp [maxLen])).swap
  have hi := is_at (L := [[97], [98]]) (vw := .slice (some ⟨w2.heap.size, 0, none⟩) 2 2) hs hΦ ((RowG.stable _ _ _ _ _).both hR0) h3 (by simp) (fun w' h' => RdRow.of_own h'.drop.rowG)
  have HI := Lib.hid hi
  clear hi h3 h2 HO
  (repeat' (first | (go_big_may; fail) | go_values | go_skip | go_guarded | go_step | go_upon | go_back | dsimp only))
  refine HI.out.mono ?_
  rintro e w3 ⟨rfl, h4⟩
  have HB := Lib.hid h4.below
  clear h4 HI
  (repeat' (first | (go_big_may; fail) | go_values | go_skip | go_guarded | go_step | go_upon | go_back | dsimp only))
  go_ret
  exact ⟨rfl, HB.out⟩
theorem IsStr.one {W : World} {Φ : Thing} {v : Value} {L : List (List UInt8)} (h : IsStr W Φ v L) : v.oneCell' = true := by
  rcases h with ⟨rfl, _⟩ | ⟨gf, lb, rfl, _⟩ <;> rfl
theorem store_one {P : Program} {w : World} {a : Addr} {v u : Value} (hv : v.oneCell' = true) (hc : w.cell? a = some u) (hf : w.frozen? a = false) : (store a v).run P w = .ok () (w.setCell a v) := by
  rw [run_store _ _ _ _ _ hv]; simp [hc, hf]
/-- A variable that holds a stream is laid. -/
theorem At.keepStr {W w : World} {Φ R : Thing} {u : Value} (h : At W w (Both Φ R)) (hΦ : Stable Φ) (hR : Stable R) (hu : u.oneCell' = true) :
    (store ⟨w.heap.size, 0, none⟩ u).run Tryz.prog (w.alloc (.cells #[.nilFunc] tStr)) = .ok () ((w.alloc (.cells #[.nilFunc] tStr)).setCell ⟨w.heap.size, 0, none⟩ u) ∧
    At W (w.alloc (.cells #[u] tStr)) (Both Φ (Both (CellT w.heap.size #[u] tStr) R)) := by
  have h1 := h.newCell (hΦ.both hR) #[.nilFunc] tStr
  have c := h1.cellF (o := 0) (u := .nilFunc) rfl
  exact ⟨store_one hu c.1 c.2.1, (h.newCell (hΦ.both hR) #[u] tStr).swap⟩
end Go.Proofs.YtgeabmmicofanaaGreatDoor
namespace Go.Proofs.YtgeabmmicofanaaGreatDoor
open Go.RowKit
attribute [local go_sem] Oper.semAt_some

abbrev tYd : TypeId := 71
/-- The texts that are not below z. -/
def notBelow (z : List UInt8) (L : List (List UInt8)) : List (List UInt8) := L.filter fun x => !Op.bytesLess x z
theorem nb_yes {z x : List UInt8} (h : Op.bytesLess x z = false) (p : List (List UInt8)) : notBelow z (p ++ [x]) = notBelow z p ++ [x] := by simp [notBelow, h]
theorem nb_no {z x : List UInt8} (h : Op.bytesLess x z = true) (p : List (List UInt8)) : notBelow z (p ++ [x]) = notBelow z p := by simp [notBelow, h]
theorem nb_pre {z : List UInt8} {p L : List (List UInt8)} (h : p <+: L) : notBelow z p <+: notBelow z L := by
  obtain ⟨t, rfl⟩ := h
  exact ⟨notBelow z t, by simp [notBelow]⟩
abbrev FromT (bs bz : Nat) (v : Value) (z : List UInt8) (Φ : Thing) : Thing := Both (CellT bs #[v] tStr) (Both (CellT bz #[.string ⟨z.toArray⟩] tTx) Φ)
theorem FromT.stable (bs bz : Nat) (v : Value) (z : List UInt8) {Φ : Thing} (h : Stable Φ) : Stable (FromT bs bz v z Φ) := (CellT.stable _ _ _).both ((CellT.stable _ _ _).both h)
set_option maxRecDepth 100000 in
set_option maxHeartbeats 2000000 in
theorem from1_seqs {W : World} {Φ : Thing} {v : Value} {L : List (List UInt8)} (hs : IsStr W Φ v L) (hΦ : Stable Φ) (bs bz : Nat) (z : List UInt8) :
    Seqs Tryz.prog encS 45 #[.pointer (some ⟨bs, 0, none⟩), .pointer (some ⟨bz, 0, none⟩)] (notBelow z L) W (FromT bs bz v z Φ) := by
  intro l J Jx hJ hJx hY w R hR h0
  have hF := FromT.stable bs bz v z hΦ
  have hs1 : IsStr W (FromT bs bz v z Φ) v L := (hs.frame hΦ (CellT.stable bz #[.string ⟨z.toArray⟩] tTx)).frame ((CellT.stable _ _ _).both hΦ) (CellT.stable bs #[v] tStr)
  have hst := (hJ []).both (hF.both hR)
  have h1 := h0.newCell hst #[.func (.yield l) #[] #[]] tYd
  have c1 := (h1.pull3.toR.cellF (o := 0) (u := v) rfl).1
  (refine (callsIn_wide (n := 0)).1 (callsIn_of_wp_marks Tryz.func45 rfl trivial (wpIn_wide.2 ?_) rfl); simp only [Tryz.ntmps45, List.size_toArray, List.length_cons, List.length_nil, Nat.reduceAdd, Nat.reduceSub, Array.replicate_succ, Array.replicate_zero, List.push_toArray, List.append_toArray, List.nil_append, List.cons_append])
  (repeat' (first | (go_big_may; (go_at_call 46; refine (All_calls hs1 _).mono ?_; rintro e w1 ⟨gf, lb, rfl, heg, hq, hb1⟩)) | go_values | go_skip | go_guarded | go_step | go_upon | go_back | dsimp only))
  have hw1 := (h1.mono ((CellT.stable _ _ _).both hst) hb1).toL
  generalize w.heap.size = ky at *
  generalize ha0 : Act.mk _ _ = a0
  refine range_at (L := L) hq (by rw [← ha0]; rfl) heg (fun _ => rfl) hF hR (fun p => Both (CellT ky #[.func (.yield l) #[] #[]] tYd) (J (notBelow z p))) (fun p => (CellT.stable _ _ _).both (hJ _)) (fun c p => WithT (Jx (notBelow z p)) (c = Code.ret)) (fun _ _ => WithT.stable (hJx _) _)
    (fun p x a X => a = { tmps := (foldTmps #[7] (encS x) a0.tmps).setIfInBounds 4 (.string ⟨x.toArray⟩), defers := [] } ∧ X = Both (CellT ky #[.func (.yield l) #[] #[]] tYd) (J (notBelow z p))) hw1 ?assign ?body ?done ?stop
  case assign =>
    intro l pre x w2 Ψ hp hΨ h2
    (subst ha0; simp only [fold_one, encS, List.setIfInBounds_toArray, List.set_cons_zero, List.set_cons_succ])
    (repeat' (first | (gi_big_may; fail) | go_values | gi_guarded | gi_step | gi_upon | gi_back | dsimp only))
    exact ⟨_, (CellT.stable _ _ _).both (hJ _), ⟨trivial, rfl⟩, h2⟩
  case body =>
    rintro l2 pre x w2 R2 a2 X hp hR2 hX ⟨rfl, rfl⟩ h2
    have c2 := (h2.toR.cellF (o := 0) (u := .func (.yield l) #[] #[]) rfl).1
    have c3 := (h2.drop.toR.drop.toR.cellF (o := 0) (u := .string ⟨z.toArray⟩) rfl).1
    cases hlt : Op.bytesLess x z with
    | true =>
      (subst ha0; simp only [fold_one, encS, List.setIfInBounds_toArray, List.set_cons_zero, List.set_cons_succ])
      (repeat' (first | (gi_big_may; fail) | go_values | gi_guarded | gi_step | gi_upon | gi_back | dsimp only))
      refine ⟨fun _ _ => trivial, ?_⟩
      (repeat' (first | (gi_big_may; fail) | go_values | gi_guarded | gi_step | gi_upon | gi_back | dsimp only))
      show At W _ (Both (Both (CellT ky #[.func (.yield l) #[] #[]] tYd) (J (notBelow z (pre ++ [x])))) _)
      rw [nb_no hlt]
      exact h2
    | false =>
      have hp2 := nb_pre (z := z) hp
      rw [nb_yes hlt] at hp2
      obtain ⟨fn, tmps, assign, body, hy, hRd⟩ := hY (notBelow z pre) x hp2 w2 (Both (CellT ky #[.func (.yield l) #[] #[]] tYd) R2) ((CellT.stable _ _ _).both hR2) h2.toR.swap.swap2
      unfold encS at hy
      (subst ha0; simp only [fold_one, encS, List.setIfInBounds_toArray, List.set_cons_zero, List.set_cons_succ])
      (repeat' (first | (gi_big_may; fail) | go_values | gi_guarded | gi_step | gi_upon | gi_back | dsimp only))
      refine ⟨rfl, hRd.mono ?_⟩
      rintro e w3 (⟨rfl, h3⟩ | ⟨rfl, h3⟩)
      · (repeat' (first | (gi_big_may; fail) | go_values | gi_guarded | gi_step | gi_upon | gi_back | dsimp only))
        show At W _ (Both (Both (CellT ky #[.func (.yield l) #[] #[]] tYd) (J (notBelow z (pre ++ [x])))) _)
        rw [nb_yes hlt]
        exact (h3.pull3.impl fun _ q => Both.toL q)
      · (repeat' (first | (gi_big_may; fail) | go_values | gi_guarded | gi_step | gi_upon | gi_back | dsimp only))
        show At W _ (Both (WithT (Jx (notBelow z (pre ++ [x]))) (Code.ret = Code.ret)) _)
        rw [nb_yes hlt]
        exact (h3.pull3.drop).withW rfl
  case done =>
    intro D w2 h2
    subst ha0
    (repeat' (first | (go_big_may; fail) | go_values | go_skip | go_guarded | go_step | go_upon | go_back | dsimp only))
    show LeavesInM _ _ _ _ _ _ _ _ _
    refine leaveM h2.pull3 (((CellT.stable _ _ _).both (hJ _)).both (hF.both hR)) fun w3 h3 _ => leave0 (results_none rfl _ _ _) ⟨⟨_, rfl⟩, .inl h3.toR.drop⟩
  case stop =>
    intro D c pre w2 hp h2
    obtain ⟨hc, h3⟩ := h2.word
    subst hc
    subst ha0
    (repeat' (first | (go_big_may; fail) | go_values | go_skip | go_guarded | go_step | go_upon | go_back | dsimp only))
    show LeavesInM _ _ _ _ _ _ _ _ _
    refine leaveM h3.pull3 ((hJx _).both (hF.both hR)) fun w3 h3 _ => leave0 (results_none rfl _ _ _) ⟨⟨_, rfl⟩, .inr ⟨_, nb_pre hp, h3⟩⟩
end Go.Proofs.YtgeabmmicofanaaGreatDoor

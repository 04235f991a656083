/- List walked; the law's same walked. -/
import Derived.Test.YthjkfiniafblbaaWkGather
import Derived.Test.YthjkfiniafblbaaWkShape
import Derived.Deep.QuietTactic
namespace Go.Proofs.Ythjkfiniafblbaa
open Go.RowKit

/-- The first words that are not below f. -/
def listT (t : Trie) (f : List UInt8) (most : Int) : List (List UInt8) := if most < 1 then [] else (wT t f).take (min most 4096).toNat
theorem listT_none {t : Trie} {f : List UInt8} {most : Int} (h : most < 1) : listT t f most = [] := if_pos h
theorem listT_some {t : Trie} {f : List UInt8} {most : Int} (h : ¬ most < 1) : listT t f most = (wT t f).take (min most 4096).toNat := if_neg h
theorem listT_len (t : Trie) (f : List UInt8) (most : Int) : (listT t f most).length ≤ 4096 := by
  unfold listT
  split
  · simp
  · rw [List.length_take]; omega

set_option maxRecDepth 100000 in
set_option maxHeartbeats 1600000 in
theorem List_calls {w : World} {A : List Sta} {va : Value} (hA : RdAut w va A) (hl : A.length ≤ 1048576 ∧ edgesN A ≤ 1048576) (hsh : shapeB A = true) {t : Trie} (ht : Unf A 0 t) (fs : ByteArray) (most : Int) :
    Calls Try.prog 27 #[va, .string fs, .int .i64 most] w fun e w' => ∃ vo, e = .returned (.tuple #[vo, .int .i64 0]) ∧ At w w' (Both (RowG tStr 1 vo (listT t fs.data.toList most).length (strs (listT t fs.data.toList most))) Nought) := by
  have HS := Lib.hid (Shape_calls hA hl)
  rw [shapeV_ok hsh] at HS
  have hht := htT_lt ht
  have HA := Lib.hid hA
  have HT := Lib.hid ht
  obtain ⟨a0, c0, hv, _, hc0⟩ := hA.shape
  clear hsh hA ht
  subst hv
  go_enter Try.func27, Try.ntmps27
  (repeat' (first | (go_big_may; fail) | go_values | go_skip | go_guarded | go_step | go_upon | go_back | dsimp only))
  refine HS.out.mono ?_
  rintro e1 w1 ⟨rfl, hb1⟩
  have HB1 := Lib.hid hb1
  clear hb1 HS
  by_cases hm : most < 1
  · have HLT := Lib.hid (listT_none (t := t) (f := fs.data.toList) hm)
    (repeat' (first | (go_big_may; fail) | go_values | go_skip | go_guarded | go_step | go_upon | go_back | dsimp only))
    go_ret2
    rw [HLT.out]
    exact ⟨.slice none 0 0, rfl, (At.nought HB1.out).noRowG Stable.nought _ _⟩
  · obtain ⟨M, hM⟩ : ∃ M : Nat, min most 4096 = (M : Int) := ⟨(min most 4096).toNat, by omega⟩
    have hM1 : 0 < M := by omega
    have hM2 : M ≤ 4096 := by omega
    have hlt : listT t fs.data.toList most = (wT t fs.data.toList).take M := by rw [listT_some hm, hM, Int.toNat_natCast]
    have HLT := Lib.hid hlt
    have h2 := ((At.nought HB1.out).noRowG Stable.nought tStr 1).noRowG ((RowG.stable _ _ _ _ _).both Stable.nought) 5 1
    have hst2 := (RowG.stable 5 1 (.slice none 0 0) 0 []).both ((RowG.stable tStr 1 (.slice none 0 0) 0 []).both Stable.nought)
    have h3 := h2.newCell hst2 #[.slice a0 A.length c0, .slice none 0 0, .slice none 0 0, .int .i64 (M : Nat)] tLs
    have HG := Lib.hid (gather_at (W := w) HA.out hl w1.heap.size M hM2 (htT t + 1) _ 0 t fs (.slice none 0 0) (.slice none 0 0) [] [] Nought h3 Stable.nought HT.out (by omega) (by simp; omega) (by simpa using hM1))
    rw [List.nil_append, pwT_nil] at HG
    clear h2 h3 hst2 hlt
    (repeat' (first | (go_big_may; fail) | go_values | go_skip | go_guarded | go_step | go_upon | go_back | dsimp only))
    refine HG.out.mono ?_
    rintro e2 w2 ⟨vw2, vo2, pre2, rfl, _, h4⟩
    obtain ⟨k2, _, _⟩ := h4.cellF (o := 2) rfl
    have H4 := Lib.hid h4.drop.drop
    clear h4 HG
    (repeat' (first | (go_big_may; fail) | go_values | go_skip | go_guarded | go_step | go_upon | go_back | dsimp only))
    go_ret2
    rw [HLT.out]
    exact ⟨vo2, rfl, H4.out⟩

set_option maxRecDepth 100000 in
set_option maxHeartbeats 1600000 in
theorem List_bad {w : World} {A : List Sta} {va : Value} (hA : RdAut w va A) (hl : A.length ≤ 1048576 ∧ edgesN A ≤ 1048576) (hs : shapeB A = false) (fs : ByteArray) (most : Int) :
    Calls Try.prog 27 #[va, .string fs, .int .i64 most] w fun e w' => e = .returned (.tuple #[.slice none 0 0, .int .i64 190]) ∧ Below w.heap.size w w' := by
  have HS := Lib.hid (Shape_calls hA hl)
  rw [shapeV_bad hs] at HS
  clear hs hA
  go_enter Try.func27, Try.ntmps27
  (repeat' (first | (go_big_may; fail) | go_values | go_skip | go_guarded | go_step | go_upon | go_back | dsimp only))
  refine HS.out.mono ?_
  rintro e1 w1 ⟨rfl, hb1⟩
  have HB1 := Lib.hid hb1
  clear hb1
  (repeat' (first | (go_big_may; fail) | go_values | go_skip | go_guarded | go_step | go_upon | go_back | dsimp only))
  go_ret2
  exact ⟨rfl, HB1.out⟩

theorem lists_eq {la lb : List (List UInt8)} (hl : la.length = lb.length) (h : ∀ j, j < la.length → la[j]? = lb[j]?) : la = lb := by
  apply List.ext_getElem?
  intro j
  by_cases hj : j < la.length
  · exact h j hj
  · rw [List.getElem?_eq_none (by omega), List.getElem?_eq_none (by omega)]
set_option maxHeartbeats 400000 in
theorem same_calls (la lb : List (List UInt8)) (va vb : Value) (w : World) (ha : RdRow w va la.length 1 (strs la)) (hb : RdRow w vb lb.length 1 (strs lb)) :
    Calls Try.prog 28 #[va, vb] w fun e w' => e = .returned (.bool (decide (la = lb))) ∧ Below w.heap.size w w' := by
  obtain ⟨a, cap, rfl, hc1, hc2⟩ := ha.shape
  obtain ⟨a', cap', rfl, hc1', hc2'⟩ := hb.shape
  unfold maxLen at hc2 hc2'
  have HA := Lib.hid ha
  have HB := Lib.hid hb
  clear ha hb
  by_cases hl : la.length = lb.length
  · have hlb : ((la.length : Int) != lb.length) = false := by simp [hl]
    have HL := Lib.hid hl
    clear hl
    go_enter Try.func28, Try.ntmps28
    (repeat' (first | (go_big_may; fail) | go_values | go_skip | go_guarded | go_step | go_upon | go_back | dsimp only))
    go_loopw [13] (fun i wr => ∃ k : Nat, i = .int .i64 k ∧ k ≤ la.length ∧ (∀ j, j < k → la[j]? = lb[j]?) ∧ Below w.heap.size w wr) (fun i _ => la.length - (intOf i).toNat)
    case atStart => exact ⟨0, rfl, Nat.zero_le _, fun j hj => absurd hj (Nat.not_lt_zero _), Below.refl _ _⟩
    case round =>
      obtain ⟨k, rfl, hk, hpre, hbel⟩ := hrel
      have HP := Lib.hid hpre
      clear hpre
      by_cases hlt : k < la.length
      · obtain ⟨x, hx⟩ : ∃ x, la[k]? = some x := ⟨_, List.getElem?_eq_getElem hlt⟩
        have hlt2 : k < lb.length := by have := HL.out; omega
        obtain ⟨y, hy⟩ : ∃ y, lb[k]? = some y := ⟨_, List.getElem?_eq_getElem hlt2⟩
        obtain ⟨b, off, cp, hsl, hcell⟩ := (HA.out.below hbel).str hx
        cases hsl
        obtain ⟨b', off', cp', hsl, hcell'⟩ := (HB.out.below hbel).str hy
        cases hsl
        have HX := Lib.hid hx
        have HY := Lib.hid hy
        have hi0 : (0 : Int) ≤ k := by omega
        have hi1 : (k : Int) < la.length := by omega
        have hi2 : (k : Int) < lb.length := by omega
        clear hx hy
        by_cases hxy : x = y
        · have hs : (x == y) = true := by simp [hxy]
          have HE := Lib.hid hxy
          clear hxy
          (repeat' (first | (go_big_may; fail) | go_values | go_skip | go_guarded | go_step | go_upon | go_back | dsimp only))
          go_quiet (fail)
          (repeat' (first | (go_big_may; fail) | go_values | go_skip | go_guarded | go_step | go_upon | go_back | dsimp only))
          go_roundw
          case rel =>
            refine ⟨k + 1, by go_num, by omega, fun j hj => ?_, below_drewN hbel _⟩
            by_cases hjk : j = k
            · rw [hjk, HX.out, HY.out, HE.out]
            · exact HP.out j (by omega)
          case measure => simp [intOf] <;> omega
        · have hs : (x == y) = false := by simp [hxy]
          (repeat' (first | (go_big_may; fail) | go_values | go_skip | go_guarded | go_step | go_upon | go_back | dsimp only))
          go_quiet (fail)
          (repeat' (first | (go_big_may; fail) | go_values | go_skip | go_guarded | go_step | go_upon | go_back | dsimp only))
          go_ret
          have hne : decide (la = lb) = false := by
            rw [decide_eq_false_iff_not]
            intro h
            have h1 := HX.out
            rw [h, HY.out] at h1
            cases h1
            exact hxy rfl
          exact ⟨by rw [hne]; rfl, below_drewN hbel _⟩
      · (repeat' (first | (go_big_may; fail) | go_values | go_skip | go_guarded | go_step | go_upon | go_back | dsimp only))
        go_ret
        have : la = lb := lists_eq HL.out (fun j hj => HP.out j (by omega))
        exact ⟨by rw [decide_eq_true this]; rfl, hbel⟩
  · have hlb : ((la.length : Int) != lb.length) = true := by simp; omega
    have hd : decide (la = lb) = false := by
      rw [decide_eq_false_iff_not]
      intro h; exact hl (by rw [h])
    go_enter Try.func28, Try.ntmps28
    (repeat' (first | (go_big_may; fail) | go_values | go_skip | go_guarded | go_step | go_upon | go_back | dsimp only))
    go_ret
    exact ⟨by rw [hd]; rfl, Below.refl _ _⟩
end Go.Proofs.Ythjkfiniafblbaa

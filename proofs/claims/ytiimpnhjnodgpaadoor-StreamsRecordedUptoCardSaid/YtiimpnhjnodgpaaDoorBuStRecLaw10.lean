/- The laws of layer 8: twin, same, is, wakes walked. -/
import Derived.Test.YtiimpnhjnodgpaaDoorBuStRecLaw09
import Derived.Deep.QuietTactic
import Derived.BigQuiet
namespace Go.Proofs.YtiimpnhjnodgpaaDoor
open Go.RowKit

theorem lists8_eq {la lb : List (List UInt8)} (hl : la.length = lb.length) (h : ∀ j, j < la.length → la[j]? = lb[j]?) : la = lb := by
  apply List.ext_getElem? 
  intro j
  by_cases hj : j < la.length
  · exact h j hj
  · rw [List.getElem?_eq_none (by omega), List.getElem?_eq_none (by omega)]

set_option maxHeartbeats 400000 in
theorem same8_calls (la lb : List (List UInt8)) (va vb : Value) (w : World) (ha : RdRow w va la.length 1 (strs la)) (hb : RdRow w vb lb.length 1 (strs lb)) :
    Calls Tryd.prog 27 #[va, vb] w fun e w' => e = .returned (.bool (decide (la = lb))) ∧ Below w.heap.size w w' := by
  obtain ⟨a, cap, rfl, hc1, hc2⟩ := ha.shape
  obtain ⟨a', cap', rfl, hc1', hc2'⟩ := hb.shape
  unfold maxLen at hc2 hc2'
  have HA := Lib.hid ha
  have HB := Lib.hid hb
  clear ha hb
  by_cases hl : la.length = lb.length
  · have hlb : ((la.length : Int) != lb.length) = false := by simp [hl]
    have HL := Lib.hid hl
    clear hl
    go_enter Tryd.func27, Tryd.ntmps27
    (repeat' (first | (go_big_may; fail) | go_values | go_skip | go_guarded | go_step | go_upon | go_back | dsimp only))
    go_loopw [13] (fun i wr => ∃ k : Nat, i = .int .i64 k ∧ k ≤ la.length ∧ (∀ j, j < k → la[j]? = lb[j]?) ∧ Below w.heap.size w wr) (fun i _ => la.length - (intOf i).toNat)
    case atStart => exact ⟨0, rfl, Nat.zero_le _, fun j hj => absurd hj (Nat.not_lt_zero _), Below.refl _ _⟩
    case round =>
      obtain ⟨k, rfl, hk, hpre, hbel⟩ := hrel
      have HP := Lib.hid hpre
      clear hpre
      by_cases hlt : k < la.length
      · obtain ⟨x, hx⟩ : ∃ x, la[k]? = some x := ⟨_, List.getElem?_eq_getElem hlt⟩
        have hlt2 : k < lb.length := by have := HL.out; omega
        obtain ⟨y, hy⟩ : ∃ y, lb[k]? = some y := ⟨_, List.getElem?_eq_getElem hlt2⟩
        obtain ⟨b, off, cp, hsl, hcell⟩ := (HA.out.below hbel).str hx
        cases hsl
        obtain ⟨b', off', cp', hsl, hcell'⟩ := (HB.out.below hbel).str hy
        cases hsl
        have HX := Lib.hid hx
        have HY := Lib.hid hy
        have hi0 : (0 : Int) ≤ k := by omega
        have hi1 : (k : Int) < la.length := by omega
        have hi2 : (k : Int) < lb.length := by omega
        clear hx hy
        by_cases hxy : x = y
        · have hs : (x == y) = true := by simp [hxy]
          have HE := Lib.hid hxy
          clear hxy
          (repeat' (first | (go_big_may; fail) | go_values | go_skip | go_guarded | go_step | go_upon | go_back | dsimp only))
          go_quiet (fail)
          (repeat' (first | (go_big_may; fail) | go_values | go_skip | go_guarded | go_step | go_upon | go_back | dsimp only))
          go_roundw
          case rel =>
            refine ⟨k + 1, by go_num, by omega, fun j hj => ?_, below_drewN hbel _⟩
            by_cases hjk : j = k
            · rw [hjk, HX.out, HY.out, HE.out]
            · exact HP.out j (by omega)
          case measure => simp [intOf] <;> omega
        · have hs : (x == y) = false := by simp [hxy]
          (repeat' (first | (go_big_may; fail) | go_values | go_skip | go_guarded | go_step | go_upon | go_back | dsimp only))
          go_quiet (fail)
          (repeat' (first | (go_big_may; fail) | go_values | go_skip | go_guarded | go_step | go_upon | go_back | dsimp only))
          go_ret
          have hne : decide (la = lb) = false := by
            rw [decide_eq_false_iff_not]
            intro h
            have h1 := HX.out
            rw [h, HY.out] at h1
            cases h1
            exact hxy rfl
          exact ⟨by rw [hne]; rfl, below_drewN hbel _⟩
      · (repeat' (first | (go_big_may; fail) | go_values | go_skip | go_guarded | go_step | go_upon | go_back | dsimp only))
        go_ret
        have : la = lb := lists8_eq HL.out (fun j hj => HP.out j (by omega))
        exact ⟨by rw [decide_eq_true this]; rfl, hbel⟩
  · have hlb : ((la.length : Int) != lb.length) = true := by simp; omega
    have hd : decide (la = lb) = false := by
      rw [decide_eq_false_iff_not]
      intro h; exact hl (by rw [h])
    go_enter Tryd.func27, Tryd.ntmps27
    (repeat' (first | (go_big_may; fail) | go_values | go_skip | go_guarded | go_step | go_upon | go_back | dsimp only))
    go_ret
    exact ⟨by rw [hd]; rfl, Below.refl _ _⟩

set_option maxRecDepth 100000 in
set_option maxHeartbeats 2000000 in
theorem List0_at {W w : World} {Φ R : Thing} {v : Value} (hΦ : Stable Φ) (hR : Stable R) (h : At W w (Both Φ R)) {m : Int} (hm1 : m < 1) :
    Calls Tryd.prog 28 #[.agg #[v], .int .i64 m] w fun e w' => e = .returned (.slice none 0 0) ∧ At W w' (Both Φ R) := by
  have hs0 := hΦ.both hR
  have h1 := ((h.alloc hs0 (.cells #[v] tStr)).newCell hs0 #[.int .i64 m] tNum).newCell ((CellT.stable _ _ _).both hs0) #[.slice none 0 0] tTxs
  rw [show (w.alloc (.cells #[v] tStr)).heap.size = w.heap.size + 1 from by simp, show ((w.alloc (.cells #[v] tStr)).alloc (.cells #[.int .i64 m] tNum)).heap.size = w.heap.size + 1 + 1 from by simp] at h1
  have g1 := (h1.swap.cellF (o := 0) (u := .int .i64 m) rfl).1
  have H1 := Lib.hid h1
  clear h1 h
  go_enter Tryd.func28, Tryd.ntmps28
  (repeat' (first | (go_big_may; fail) | go_values | go_skip | go_guarded | go_step | go_upon | go_back | dsimp only))
  go_ret
  exact ⟨rfl, H1.out.drop.drop⟩
theorem List_all {W w : World} {Φ R : Thing} {v : Value} {L : List (List UInt8)} (hs : IsStr W Φ v L) (hΦ : Stable Φ) (hR : Stable R) (h : At W w (Both Φ R)) (hn : L.length ≤ 1099511627776) {m : Int} (hm1 : (L.length : Int) ≤ m) (hm2 : m ≤ 9223372036854775807) :
    Calls Tryd.prog 28 #[.agg #[v], .int .i64 m] w fun e w' => ∃ u, e = .returned u ∧ At W w' (Both (RowG tTx 1 u L.length (strs L)) (Both Φ R)) := by
  by_cases hm : 1 ≤ m
  · have := List_at hs hΦ hR h hn hm hm2
    rw [List.take_of_length_le (by omega)] at this
    exact this
  · have hz : L = [] := List.eq_nil_of_length_eq_zero (by omega)
    subst hz
    refine (List0_at hΦ hR h (by omega)).mono ?_
    rintro e w' ⟨rfl, h1⟩
    exact ⟨_, rfl, h1.noRowG (hΦ.both hR) tTx 1⟩
set_option maxRecDepth 100000 in
set_option maxHeartbeats 2000000 in
/-- A stream that gives what is wanted. -/
theorem is_at {W w : World} {Φ R : Thing} {v vw : Value} {L : List (List UInt8)} (hs : IsStr W Φ v L) (hΦ : Stable Φ) (hR : Stable R) (h : At W w (Both Φ R)) (hn : L.length ≤ 1099511627776) (hk : ∀ w', At W w' (Both Φ R) → RdRow w' vw L.length 1 (strs L)) :
    Calls Tryd.prog 12 #[.agg #[v], vw] w fun e w' => e = .returned (.bool true) ∧ At W w' (Both Φ R) := by
  obtain ⟨aw, cw, rfl, _, _⟩ := (hk w h).shape
  have hR1 := (CellT.stable w.heap.size #[v] tStr).both hR
  have h0 := (h.newCell (hΦ.both hR) #[v] tStr).swap
  have HC := Lib.hid (Count_at hs hΦ hR1 h0 hn)
  have HK := Lib.hid hk
  clear hk h h0
  have e0 : ((L.length : Int) == L.length) = true := by simp
  go_enter Tryd.func12, Tryd.ntmps12
  (repeat' (first | (go_big_may; fail) | go_values | go_skip | go_guarded | go_step | go_upon | go_back | dsimp only))
  refine HC.out.mono ?_
  rintro e w1 ⟨rfl, h1⟩
  generalize w.heap.size = kb at *
  have c1 := (h1.drop.cellF (o := 0) (u := v) rfl).1
  have HL := Lib.hid (List_all hs hΦ hR1 h1 hn (m := (L.length : Int)) (Int.le_refl _) (by omega))
  clear h1 HC
  (repeat' (first | (go_big_may; fail) | go_values | go_skip | go_guarded | go_step | go_upon | go_back | dsimp only))
  refine HL.out.mono ?_
  rintro e w2 ⟨u, rfl, h2⟩
  have hs2 := same8_calls L L u (.slice aw L.length cw) w2 (RdRow.of_own h2.rowG) (HK.out w2 (h2.drop.swap.drop))
  have HS := Lib.hid hs2
  have H2 := Lib.hid h2.drop
  clear hs2 h2 HL c1
  (repeat' (first | (go_big_may; fail) | go_values | go_skip | go_guarded | go_step | go_upon | go_back | dsimp only))
  refine HS.out.mono ?_
  rintro e w3 ⟨rfl, hb3⟩
  have h3 := H2.out.mono (hΦ.both hR1) hb3
  have c3 := (h3.drop.cellF (o := 0) (u := v) rfl).1
  have HL := Lib.hid (List_all hs hΦ hR1 h3 hn (m := 1099511627776) (by omega) (by omega))
  have e1 : decide (L = L) = true := by simp
  clear h3 hb3 H2 HS
  (repeat' (first | (go_big_may; fail) | go_values | go_skip | go_guarded | go_step | go_upon | go_back | dsimp only))
  refine HL.out.mono ?_
  rintro e w4 ⟨u4, rfl, h4⟩
  have hs4 := same8_calls L L u4 (.slice aw L.length cw) w4 (RdRow.of_own h4.rowG) (HK.out w4 (h4.drop.swap.drop))
  have HS := Lib.hid hs4
  have H4 := Lib.hid h4.drop
  clear hs4 h4 HL c3
  (repeat' (first | (go_big_may; fail) | go_values | go_skip | go_guarded | go_step | go_upon | go_back | dsimp only))
  refine HS.out.mono ?_
  rintro e w5 ⟨rfl, hb5⟩
  have H5 := Lib.hid (H4.out.mono (hΦ.both hR1) hb5)
  clear hb5 HS H4
  (repeat' (first | (go_big_may; fail) | go_values | go_skip | go_guarded | go_step | go_upon | go_back | dsimp only))
  go_ret
  exact ⟨by simp, H5.out.swap.drop⟩
theorem IsStr.one {W : World} {Φ : Thing} {v : Value} {L : List (List UInt8)} (h : IsStr W Φ v L) : v.oneCell' = true := by
  rcases h with ⟨rfl, _⟩ | ⟨gf, lb, rfl, _⟩ <;> rfl
theorem store_one {P : Program} {w : World} {a : Addr} {v u : Value} (hv : v.oneCell' = true) (hc : w.cell? a = some u) (hf : w.frozen? a = false) : (store a v).run P w = .ok () (w.setCell a v) := by
  rw [run_store _ _ _ _ _ hv]; simp [hc, hf]
/-- A variable that holds a stream is laid. -/
theorem At.keepStr {W w : World} {Φ R : Thing} {u : Value} (h : At W w (Both Φ R)) (hΦ : Stable Φ) (hR : Stable R) (hu : u.oneCell' = true) :
    (store ⟨w.heap.size, 0, none⟩ u).run Tryd.prog (w.alloc (.cells #[.nilFunc] tStr)) = .ok () ((w.alloc (.cells #[.nilFunc] tStr)).setCell ⟨w.heap.size, 0, none⟩ u) ∧
    At W (w.alloc (.cells #[u] tStr)) (Both Φ (Both (CellT w.heap.size #[u] tStr) R)) := by
  have h1 := h.newCell (hΦ.both hR) #[.nilFunc] tStr
  have c := h1.cellF (o := 0) (u := .nilFunc) rfl
  exact ⟨store_one hu c.1 c.2.1, (h.newCell (hΦ.both hR) #[u] tStr).swap⟩
end Go.Proofs.YtiimpnhjnodgpaaDoor

/- The laws of layer 6: twin, list, wakes walked. -/
import Derived.Test.YtbgjgbgemblcnaaRef6c
import Derived.Deep.QuietTactic
import Derived.BigQuiet
namespace Go.Proofs.Ytbgjgbgemblcnaa
open Go.RowKit

set_option maxHeartbeats 400000 in
theorem twin_calls (ss : List (List UInt8)) (v : Value) (w : World) (hv : RdRow w v ss.length 1 (strs ss)) (hlen : ss.length ≤ 8796093022208) :
    Calls Try.prog 13 #[v] w fun e w' => ∃ v', e = .returned v' ∧ w'.ownsRow w.heap.size 9 1 v' ss.length (strs ss) ∧ Below w.heap.size w w' := by
  obtain ⟨a, cap, rfl, hc1, hc2⟩ := hv.shape
  have HV := Lib.hid hv
  clear hv
  have h0 := World.ownsRow_nil w w.heap.size 9 1
  go_enter Try.func13, Try.ntmps13
  (repeat' (first | (go_big_may; (at_builtin; go_must (refine wpList_append_rd rfl _ _ 26 9 rfl Try.underlying26 info_str rfl (by decide) rfl h0 rfl HV.out (strs_oneCell _) (Nat.le_refl _) (by unfold maxLen; omega) (by omega) ?_); intro v1 w1 hown1 hgrow1 _)) | go_values | go_skip | go_guarded | go_step | go_upon | go_back | dsimp only))
  go_ret
  exact ⟨_, rfl, by simpa using hown1, grownOwn (Below.refl _ _) (Nat.le_refl _) h0 hgrow1⟩

theorem lists_eq {la lb : List (List UInt8)} (hl : la.length = lb.length) (h : ∀ j, j < la.length → la[j]? = lb[j]?) : la = lb := by
  apply List.ext_getElem? 
  intro j
  by_cases hj : j < la.length
  · exact h j hj
  · rw [List.getElem?_eq_none (by omega), List.getElem?_eq_none (by omega)]

set_option maxHeartbeats 400000 in
theorem list_calls (la lb : List (List UInt8)) (va vb : Value) (w : World) (ha : RdRow w va la.length 1 (strs la)) (hb : RdRow w vb lb.length 1 (strs lb)) :
    Calls Try.prog 19 #[va, vb] w fun e w' => e = .returned (.bool (decide (la = lb))) ∧ Below w.heap.size w w' := by
  obtain ⟨a, cap, rfl, hc1, hc2⟩ := ha.shape
  obtain ⟨a', cap', rfl, hc1', hc2'⟩ := hb.shape
  unfold maxLen at hc2 hc2'
  have HA := Lib.hid ha
  have HB := Lib.hid hb
  clear ha hb
  by_cases hl : la.length = lb.length
  · have hlb : ((la.length : Int) != lb.length) = false := by simp [hl]
    have HL := Lib.hid hl
    clear hl
    go_enter Try.func19, Try.ntmps19
    (repeat' (first | (go_big_may; fail) | go_values | go_skip | go_guarded | go_step | go_upon | go_back | dsimp only))
    go_loopw [13] (fun i wr => ∃ k : Nat, i = .int .i64 k ∧ k ≤ la.length ∧ (∀ j, j < k → la[j]? = lb[j]?) ∧ Below w.heap.size w wr) (fun i _ => la.length - (intOf i).toNat)
    case atStart => exact ⟨0, rfl, Nat.zero_le _, fun j hj => absurd hj (Nat.not_lt_zero _), Below.refl _ _⟩
    case round =>
      obtain ⟨k, rfl, hk, hpre, hbel⟩ := hrel
      have HP := Lib.hid hpre
      clear hpre
      by_cases hlt : k < la.length
      · obtain ⟨x, hx⟩ : ∃ x, la[k]? = some x := ⟨_, List.getElem?_eq_getElem hlt⟩
        have hlt2 : k < lb.length := by have := HL.out; omega
        obtain ⟨y, hy⟩ : ∃ y, lb[k]? = some y := ⟨_, List.getElem?_eq_getElem hlt2⟩
        obtain ⟨b, off, cp, hsl, hcell⟩ := (HA.out.below hbel).str hx
        cases hsl
        obtain ⟨b', off', cp', hsl, hcell'⟩ := (HB.out.below hbel).str hy
        cases hsl
        have HX := Lib.hid hx
        have HY := Lib.hid hy
        have hi0 : (0 : Int) ≤ k := by omega
        have hi1 : (k : Int) < la.length := by omega
        have hi2 : (k : Int) < lb.length := by omega
        clear hx hy
        by_cases hxy : x = y
        · have hs : (x == y) = true := by simp [hxy]
          have HE := Lib.hid hxy
          clear hxy
          (repeat' (first | (go_big_may; fail) | go_values | go_skip | go_guarded | go_step | go_upon | go_back | dsimp only))
          go_quiet (fail)
          (repeat' (first | (go_big_may; fail) | go_values | go_skip | go_guarded | go_step | go_upon | go_back | dsimp only))
          go_roundw
          case rel =>
            refine ⟨k + 1, by go_num, by omega, fun j hj => ?_, below_drewN hbel _⟩
            by_cases hjk : j = k
            · rw [hjk, HX.out, HY.out, HE.out]
            · exact HP.out j (by omega)
          case measure => simp [intOf] <;> omega
        · have hs : (x == y) = false := by simp [hxy]
          (repeat' (first | (go_big_may; fail) | go_values | go_skip | go_guarded | go_step | go_upon | go_back | dsimp only))
          go_quiet (fail)
          (repeat' (first | (go_big_may; fail) | go_values | go_skip | go_guarded | go_step | go_upon | go_back | dsimp only))
          go_ret
          have hne : decide (la = lb) = false := by
            rw [decide_eq_false_iff_not]
            intro h
            have h1 := HX.out
            rw [h, HY.out] at h1
            cases h1
            exact hxy rfl
          exact ⟨by rw [hne]; rfl, below_drewN hbel _⟩
      · (repeat' (first | (go_big_may; fail) | go_values | go_skip | go_guarded | go_step | go_upon | go_back | dsimp only))
        go_ret
        have : la = lb := lists_eq HL.out (fun j hj => HP.out j (by omega))
        exact ⟨by rw [decide_eq_true this]; rfl, hbel⟩
  · have hlb : ((la.length : Int) != lb.length) = true := by simp; omega
    have hd : decide (la = lb) = false := by
      rw [decide_eq_false_iff_not]
      intro h; exact hl (by rw [h])
    go_enter Try.func19, Try.ntmps19
    (repeat' (first | (go_big_may; fail) | go_values | go_skip | go_guarded | go_step | go_upon | go_back | dsimp only))
    go_ret
    exact ⟨by rw [hd]; rfl, Below.refl _ _⟩

theorem RdRow_new {w : World} {T : TypeId} (C : Array Value) (n size : Nat) (h : C.size = n * size) (hn : n ≤ maxLen) : RdRow (w.alloc (.cells C T)) (.slice (some ⟨w.heap.size, 0, none⟩) n n) n size C.toList := by
  refine ⟨by simpa using h, _, n, rfl, Nat.le_refl _, hn, fun j u hu => ⟨w.heap.size, 0, rfl, ?_⟩⟩
  rw [World.cell?_alloc_at _ _ _ _ rfl]
  simpa using hu

theorem uintL_300 : uintL 300 = [172, 2] := by
  rw [uintL_ge (by decide), uintL_lt (by decide)]; decide
theorem uintL_2 : uintL 2 = [2] := by rw [uintL_lt (by decide)]; decide
theorem uintL_0 : uintL 0 = [0] := by rw [uintL_lt (by decide)]; decide
theorem frameR_wakes : frameR [[97, 98], []] = ([2, 97, 98, 0], 0) := by
  have h : frameL [[97, 98], []] = [2, 97, 98, 0] := by simp [frameL, uintL_2, uintL_0]
  unfold frameR
  rw [h]; rfl

set_option maxHeartbeats 400000 in
theorem wakes_calls (w : World) : Calls Try.prog 9 #[] w fun e w' => e = .returned (.bool true) ∧ Below w.heap.size w w' := by
  have hrd := RdRow_new (w := w) (T := 9) #[.string ⟨#[97, 98]⟩, .string ⟨#[]⟩] 2 1 rfl (by simp [maxLen])
  have hF := Frame_calls [[97, 98], []] _ _ hrd (by have := frameR_wakes; simp [frameL, uintL_2, uintL_0])
  rw [frameR_wakes] at hF
  have HF := Lib.hid hF
  have hU := fun w => Uint_calls 300 (by decide) w
  rw [uintL_300] at hU
  have HU := Lib.hid hU
  clear hF hU hrd
  go_enter Try.func9, Try.ntmps9
  (repeat' (first | (go_big_may; fail) | go_values | go_skip | go_guarded | go_step | go_upon | go_back | dsimp only))
  refine HF.out.mono ?_
  rintro e w1 ⟨rfl, hb1⟩
  (repeat' (first | (go_big_may; fail) | go_values | go_skip | go_guarded | go_step | go_upon | go_back | dsimp only))
  refine (HU.out _).mono ?_
  rintro e w2 ⟨rfl, hb2⟩
  (repeat' (first | (go_big_may; fail) | go_values | go_skip | go_guarded | go_step | go_upon | go_back | dsimp only))
  go_ret
  exact ⟨rfl, (((Below.refl _ _).alloc (Nat.le_refl _) _).trans (hb1.mono (by simp))).trans (hb2.mono (by have := hb1.size; simp at this; omega))⟩

end Go.Proofs.Ytbgjgbgemblcnaa

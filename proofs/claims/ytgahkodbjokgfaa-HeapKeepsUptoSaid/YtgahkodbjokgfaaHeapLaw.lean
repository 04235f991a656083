/- heap: the laws' ref, like, alike. -/
import Derived.Test.YtgahkodbjokgfaaHeapRf2
namespace Go.Proofs.Ytgahkodbjokgfaa
open Go.RowKit

set_option maxHeartbeats 800000 in
theorem ref_calls {w : World} {xs : List It} {vx : Value} (hx : RdRow w vx xs.length 2 (cellsI xs)) (hn : xs.length ≤ 1099511627776) :
    Calls Try.prog 21 #[vx] w fun e w' => ∃ v', e = .returned v' ∧ w'.ownsRow w.heap.size tRI 2 v' xs.length (cellsI xs) ∧ Below w.heap.size w w' := by
  obtain ⟨ao, cap, hv, hc1, hc2⟩ := hx.shape
  subst hv
  unfold maxLen at hc2
  have HX := Lib.hid hx
  clear hx
  go_enter Try.func21, Try.ntmps21
  (repeat' (first | (go_big_may; fail) | go_values | go_skip | go_guarded | go_step | go_upon | go_back | dsimp only))
  go_loopw [3, 8] (fun vo x wr => ∃ k : Nat, x = .int .i64 k ∧ k ≤ xs.length ∧ wr.ownsRow w.heap.size tRI 2 vo k (cellsI (xs.take k)) ∧ Below w.heap.size w wr) (fun _ x _ => xs.length - (intOf x).toNat)
  case atStart => exact ⟨0, rfl, Nat.zero_le _, by simpa [cellsI] using World.ownsRow_nil _ _ _ _, Below.refl _ _⟩
  case round =>
    obtain ⟨k, rfl, hk, hown, hb⟩ := hrel
    by_cases hlt : k < xs.length
    · obtain ⟨bx, off, cp, hsl, x0, x1⟩ := (HX.out.below hb).item hlt
      cases hsl
      have hbx : bx < wr.heap.size := World.block_lt_of_cell? _ _ x0
      have hts := take_snoc hlt
      generalize xs.getD k default = y at *
      have HTS := Lib.hid hts
      have hba : Below wr.heap.size wr (wr.alloc (.cells #[.int .i64 y.key, .int .i64 y.tag] 25)) := (Below.refl _ _).alloc (Nat.le_refl _) _
      have hown2 := ownsRow_below hown hba
      have HB := Lib.hid (hb.trans (hba.mono hb.size))
      have hB : w.heap.size ≤ (wr.alloc (.cells #[.int .i64 y.key, .int .i64 y.tag] 25)).heap.size := HB.out.size
      have hk1 : (0 : Int) ≤ k := by omega
      have hk2 : (k : Int) < xs.length := by omega
      clear hts hown hb hba
      (repeat' (first | (go_big_may; (at_builtin; go_must (refine wpList_append_new2 rfl _ _ 33 tRI rfl Try.underlying33 info_RI rfl (by decide) rfl hown2 (by exact (show Value.slice (some ⟨wr.heap.size + 1, 0, none⟩) 1 1 = Value.slice (some ⟨(wr.alloc (.cells #[.int .i64 y.key, .int .i64 y.tag] 25)).heap.size, 0, none⟩) 1 1 from by simp)) rfl (two_oneCell _ _) hB (by unfold maxLen; omega) (by omega) ?_); intro vo1 w2 hown3 hg3 _; have HB3 := Lib.hid (grownOwn HB.out hB hown2 hg3); have HO3 := Lib.hid hown3; clear hown3 hg3)) | go_values | go_skip | go_guarded | go_step | go_upon | go_back | dsimp only))
      go_roundw
      case rel =>
        refine ⟨k + 1, by simp, hlt, ?_, HB3.out⟩
        rw [HTS.out]
        simpa [cellsI] using HO3.out
      case measure => simp [intOf] <;> omega
    · obtain rfl : k = xs.length := by omega
      have HO := Lib.hid hown
      have HB := Lib.hid hb
      clear hown hb
      (repeat' (first | (go_big_may; fail) | go_values | go_skip | go_guarded | go_step | go_upon | go_back | dsimp only))
      go_ret
      exact ⟨_, rfl, by simpa using HO.out, HB.out⟩

set_option maxHeartbeats 800000 in
theorem like_calls (x y : It) (w : World) : Calls Try.prog 40 #[x.v, y.v] w fun e w' => e = .returned (.bool (decide (x = y))) ∧ Below w.heap.size w w' := by
  have hb : Below w.heap.size w ((w.alloc (.cells #[.int .i64 x.key, .int .i64 x.tag] 25)).alloc (.cells #[.int .i64 y.key, .int .i64 y.tag] tRI)) := ((Below.refl _ _).alloc (Nat.le_refl _) _).alloc (by simp) _
  obtain ⟨a, b⟩ := x
  obtain ⟨c, d⟩ := y
  by_cases h1 : a = c
  · subst h1
    by_cases h2 : b = d
    · subst h2
      rw [decide_eq_true rfl]
      have h3 : ((a : Int) == a) = true := by simp
      have h4 : ((b : Int) == b) = true := by simp
      go_enter Try.func40, Try.ntmps40
      (repeat' (first | (go_big_may; fail) | go_values | go_skip | go_guarded | go_step | go_upon | go_back | dsimp only))
      go_ret
      exact ⟨rfl, hb⟩
    · rw [decide_eq_false (by simp [h2])]
      have h3 : ((a : Int) == a) = true := by simp
      have h4 : ((b : Int) == d) = false := by simp [h2]
      go_enter Try.func40, Try.ntmps40
      (repeat' (first | (go_big_may; fail) | go_values | go_skip | go_guarded | go_step | go_upon | go_back | dsimp only))
      go_ret
      exact ⟨rfl, hb⟩
  · rw [decide_eq_false (by simp [h1])]
    have h3 : ((a : Int) == c) = false := by simp [h1]
    go_enter Try.func40, Try.ntmps40
    (repeat' (first | (go_big_may; fail) | go_values | go_skip | go_guarded | go_step | go_upon | go_back | dsimp only))
    go_ret
    exact ⟨rfl, hb⟩

theorem like_same (x : It) (w : World) : Calls Try.prog 40 #[x.v, x.v] w fun e w' => e = .returned (.bool true) ∧ Below w.heap.size w w' := by
  have := like_calls x x w
  rwa [decide_eq_true rfl] at this

theorem c4_below {w W W' : World} {a b c d : Addr} {x y z t : Value} (h : W.cell? a = some x ∧ W.cell? b = some y ∧ W.cell? c = some z ∧ W.cell? d = some t ∧ Below w.heap.size w W) (hb : Below W.heap.size W W') :
    W'.cell? a = some x ∧ W'.cell? b = some y ∧ W'.cell? c = some z ∧ W'.cell? d = some t ∧ Below w.heap.size w W' := by
  obtain ⟨h0, h1, h2, h3, h4⟩ := h
  have key : ∀ {a : Addr} {v : Value}, W.cell? a = some v → W'.cell? a = some v := fun {a v} e => by
    rw [hb.cell (World.block_lt_of_cell? W a e)]; exact e
  exact ⟨key h0, key h1, key h2, key h3, h4.trans (hb.mono h4.size)⟩
theorem c4_bel {w W : World} {a b c d : Addr} {x y z t : Value} (h : W.cell? a = some x ∧ W.cell? b = some y ∧ W.cell? c = some z ∧ W.cell? d = some t ∧ Below w.heap.size w W) : Below w.heap.size w W := h.2.2.2.2
theorem c4_drew {w W : World} {a b c d : Addr} {x y z t : Value} (h : W.cell? a = some x ∧ W.cell? b = some y ∧ W.cell? c = some z ∧ W.cell? d = some t ∧ Below w.heap.size w W) :
    W.drew.cell? a = some x ∧ W.drew.cell? b = some y ∧ W.drew.cell? c = some z ∧ W.drew.cell? d = some t ∧ Below w.heap.size w W.drew :=
  ⟨h.1, h.2.1, h.2.2.1, h.2.2.2.1, h.2.2.2.2.drew⟩

set_option maxHeartbeats 800000 in
/-- Two rows of alike items are alike. -/
theorem alike_calls {w : World} {xs : List It} {vx vy : Value} (hx : RdRow w vx xs.length 2 (cellsI xs)) (hy : RdRow w vy xs.length 2 (cellsI xs)) :
    Calls Try.prog 23 #[vx, vy] w fun e w' => e = .returned (.bool true) ∧ Below w.heap.size w w' := by
  obtain ⟨ax, cx, hv, hc1, hc2⟩ := hx.shape
  subst hv
  obtain ⟨ay, cy, hv, hd1, hd2⟩ := hy.shape
  subst hv
  unfold maxLen at hc2 hd2
  have HX := Lib.hid hx
  have HY := Lib.hid hy
  have hne : ((xs.length : Int) != xs.length) = false := by simp
  clear hx hy
  go_enter Try.func23, Try.ntmps23
  (repeat' (first | (go_big_may; fail) | go_values | go_skip | go_guarded | go_step | go_upon | go_back | dsimp only))
  go_loopw [13] (fun x wr => ∃ k : Nat, x = .int .i64 k ∧ k ≤ xs.length ∧ Below w.heap.size w wr) (fun x _ => xs.length - (intOf x).toNat)
  case atStart => exact ⟨0, rfl, Nat.zero_le _, Below.refl _ _⟩
  case round =>
    obtain ⟨k, rfl, hk, hb⟩ := hrel
    by_cases hlt : k < xs.length
    · obtain ⟨bx, ox, cp, hsl, x0, x1⟩ := (HX.out.below hb).item hlt
      cases hsl
      obtain ⟨by_, oy, cq, hsl, y0, y1⟩ := (HY.out.below hb).item hlt
      cases hsl
      generalize xs.getD k default = y at *
      have hk1 : (0 : Int) ≤ k := by omega
      have hk2 : (k : Int) < xs.length := by omega
      (repeat' (first | (go_big_may; fail) | go_values | go_skip | go_guarded | go_step | go_upon | go_back | dsimp only))
      have hS := And.intro x0 (And.intro x1 (And.intro y0 (And.intro y1 hb)))
      clear hb
      go_region_held3 (fun wx => wx.cell? ⟨bx, ox + k * 2, none⟩ = some (.int .i64 y.key) ∧ wx.cell? ⟨bx, ox + k * 2 + 1, none⟩ = some (.int .i64 y.tag) ∧ wx.cell? ⟨by_, oy + k * 2, none⟩ = some (.int .i64 y.key) ∧ wx.cell? ⟨by_, oy + k * 2 + 1, none⟩ = some (.int .i64 y.tag) ∧ Below w.heap.size w wx) (first | assumption | exact c4_drew (by assumption) | exact c4_below (by assumption) hb5) (((go_at_call 40); refine (like_same y _).mono ?_; rintro e w5 ⟨rfl, hb5⟩))
      all_goals
        (repeat' (first | (go_big_may; fail) | go_values | go_skip | go_guarded | go_step | go_upon | go_back | dsimp only))
        go_roundw
        case rel => exact ⟨k + 1, by simp, hlt, c4_bel (by assumption)⟩
        case measure => simp [intOf] <;> omega
    · (repeat' (first | (go_big_may; fail) | go_values | go_skip | go_guarded | go_step | go_upon | go_back | dsimp only))
      go_ret
      exact ⟨rfl, hb⟩
end Go.Proofs.Ytgahkodbjokgfaa

/- heap: the laws' own small functions. -/
import Derived.Test.YtgahkodbjokgfaaHeapSpec
namespace Go.Proofs.Ytgahkodbjokgfaa
open Go.RowKit

theorem RdRow.fresh (w : World) (cs : Array Value) (T : TypeId) (n size : Nat) (h : cs.size = n * size) (hn : n ≤ maxLen) : RdRow (w.alloc (.cells cs T)) (.slice (some ⟨w.heap.size, 0, none⟩) n n) n size cs.toList := by
  refine ⟨by simpa using h, _, _, rfl, Nat.le_refl _, hn, fun j u hu => ⟨_, _, rfl, ?_⟩⟩
  rw [World.cell?_alloc_at _ _ _ _ (by simp)]
  simpa using hu
theorem Items.rd {w w' : World} {D : List It} {v : Value} (h : Items w D v w') : RdRow w' v D.length 2 (cellsI D) := by
  obtain ⟨g, cap, cur, ⟨rfl, rfl⟩ | ⟨rfl, _, h2, h3, h4, h5, h6⟩⟩ := h
  · exact ⟨rfl, _, _, rfl, Nat.le_refl _, by unfold maxLen; omega, fun j u hu => by simp [cellsI] at hu⟩
  · refine ⟨by simp [cellsI_length], _, _, rfl, h3, h4, fun j u hu => ⟨_, _, rfl, ?_⟩⟩
    have hj : j < D.length * 2 := by
      have := (List.getElem?_eq_some_iff.1 hu).1
      simpa [cellsI_length] using this
    rw [← h6, List.getElem?_take_of_lt hj] at hu
    simp only [World.cell?, h2]
    simpa using hu

set_option maxHeartbeats 1600000 in
theorem wakes_calls (w : World) : Calls Try.prog 11 #[] w fun e w' => e = .returned (.bool true) ∧ Below w.heap.size w w' := by
  go_enter Try.func11, Try.ntmps11
  (repeat' (first | (go_big_may; fail) | go_values | go_skip | go_guarded | go_step | go_upon | go_back | dsimp only))
  have hba : Below w.heap.size w (w.alloc (.cells #[.int .i64 3, .int .i64 1, .int .i64 1, .int .i64 2] 25)) := (Below.refl _ _).alloc (Nat.le_refl _) _
  have hrd := RdRow.fresh w #[.int .i64 3, .int .i64 1, .int .i64 1, .int .i64 2] 25 2 2 rfl (by unfold maxLen; omega)
  generalize w.alloc (.cells #[.int .i64 3, .int .i64 1, .int .i64 1, .int .i64 2] 25) = w1 at *
  refine (Items_holds (xs := [⟨3, 1⟩, ⟨1, 2⟩]) hrd (by decide)).mono ?_
  rintro e w2 ⟨b, v, rfl, hh, hu, hg⟩
  have hu2 := (Upd.of_below hba []).trans hu (Grow.nil _ _)
  have hg2 := (Grow.refl w []).trans hg hba.size
  have H := Lib.hid hh
  have HG := Lib.hid hg2
  have HU := Lib.hid hu2
  clear hh hrd hg hu hu2 hg2 hba
  (repeat' (first | (go_big_may; fail) | go_values | go_skip | go_guarded | go_step | go_upon | go_back | dsimp only))
  refine (Drain_holds lessK H.out (by decide)).mono ?_
  rintro e w3 ⟨vr, rfl, hi, v', _, hu3, _⟩
  have hi : Items w2 [⟨1, 2⟩, ⟨3, 1⟩] vr w3 := hi
  have hb : Below w.heap.size w w3 := (HU.out.trans hu3 HG.out).below (Nat.le_refl _) (by simp)
  obtain ⟨bx, off, cap, rfl, hx0, hx1⟩ := hi.rd.item (i := 0) (by decide)
  obtain ⟨bx', off', cap', e', hy0, hy1⟩ := hi.rd.item (i := 1) (by decide)
  cases e'
  simp only [List.getD_cons_zero, List.getD_cons_succ, Nat.zero_mul, Nat.one_mul, Nat.add_zero, Nat.add_assoc] at hx0 hx1 hy0 hy1
  have HB := Lib.hid hb
  clear hi hu3 H HG HU hb
  (repeat' (first | (go_big_may; fail) | go_values | go_skip | go_guarded | go_step | go_upon | go_back | dsimp only))
  go_ret
  exact ⟨rfl, HB.out⟩
end Go.Proofs.Ytgahkodbjokgfaa

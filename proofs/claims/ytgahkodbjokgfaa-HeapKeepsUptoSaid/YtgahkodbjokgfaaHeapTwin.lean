/- heap: the laws' twin. -/
import Derived.Test.YtgahkodbjokgfaaHeapWakes
namespace Go.Proofs.Ytgahkodbjokgfaa
open Go.RowKit

theorem cellsI_oneCell (l : List It) : ∀ u ∈ cellsI l, u.oneCell' = true := by
  intro u hu
  simp only [cellsI, List.mem_flatMap] at hu
  obtain ⟨x, _, hx⟩ := hu
  simp at hx
  rcases hx with rfl | rfl <;> rfl

set_option maxHeartbeats 800000 in
theorem twin_calls {w : World} {xs : List It} {vx : Value} (hx : RdRow w vx xs.length 2 (cellsI xs)) (hn : xs.length ≤ 1099511627776) :
    Calls Try.prog 15 #[vx] w fun e w' => ∃ v', e = .returned v' ∧ w'.ownsRow w.heap.size 25 2 v' xs.length (cellsI xs) ∧ Below w.heap.size w w' := by
  have HX := Lib.hid hx
  have h0 := Lib.hid (World.ownsRow_nil w w.heap.size 25 2)
  have hbr := Lib.hid (show Below w.heap.size w w from Below.refl _ _)
  clear hx
  go_enter Try.func15, Try.ntmps15
  (repeat' (first | (go_big_may; (at_builtin; go_must (refine wpList_append_rd rfl _ _ 22 25 rfl Try.underlying22 info_It rfl (by decide) rfl h0.out rfl HX.out (cellsI_oneCell _) (Nat.le_refl _) (by unfold maxLen; omega) (by omega) ?_); intro v' w' hown hg _; have HO := Lib.hid hown; have HB := Lib.hid (grownOwn hbr.out (Nat.le_refl _) h0.out hg); clear hown hg)) | go_values | go_skip | go_guarded | go_step | go_upon | go_back | dsimp only))
  go_ret
  exact ⟨_, rfl, by simpa using HO.out, HB.out⟩
end Go.Proofs.Ytgahkodbjokgfaa

/- The laws of layer 6: wakes walked. -/
import Derived.Test.YtkffeaeacfhobaaDoorFrame
import Derived.Test.YtkffeaeacfhobaaDoorRef6
namespace Go.Proofs.YtkffeaeacfhobaaDoor
open Go.RowKit

theorem RdRow_new {w : World} {T : TypeId} (C : Array Value) (n size : Nat) (h : C.size = n * size) (hn : n ≤ maxLen) : RdRow (w.alloc (.cells C T)) (.slice (some ⟨w.heap.size, 0, none⟩) n n) n size C.toList := by
  refine ⟨by simpa using h, _, n, rfl, Nat.le_refl _, hn, fun j u hu => ⟨w.heap.size, 0, rfl, ?_⟩⟩
  rw [World.cell?_alloc_at _ _ _ _ rfl]
  simpa using hu

theorem uintL_300 : uintL 300 = [172, 2] := by
  rw [uintL_ge (by decide), uintL_lt (by decide)]; decide
theorem uintL_2 : uintL 2 = [2] := by rw [uintL_lt (by decide)]; decide
theorem uintL_0 : uintL 0 = [0] := by rw [uintL_lt (by decide)]; decide
theorem frameR_wakes : frameR [[97, 98], []] = ([2, 97, 98, 0], 0) := by
  have h : frameL [[97, 98], []] = [2, 97, 98, 0] := by simp [frameL, uintL_2, uintL_0]
  unfold frameR
  rw [h]; rfl

set_option maxHeartbeats 400000 in
theorem wakes_calls (w : World) : Calls Tryd.prog 15 #[] w fun e w' => e = .returned (.bool true) ∧ Below w.heap.size w w' := by
  have hrd := RdRow_new (w := w) (T := 9) #[.string ⟨#[97, 98]⟩, .string ⟨#[]⟩] 2 1 rfl (by simp [maxLen])
  have hF := Frame_calls [[97, 98], []] _ _ hrd (by have := frameR_wakes; simp [frameL, uintL_2, uintL_0])
  rw [frameR_wakes] at hF
  have HF := Lib.hid hF
  have hU := fun w => Uint_calls 300 (by decide) w
  rw [uintL_300] at hU
  have HU := Lib.hid hU
  clear hF hU hrd
  go_enter Tryd.func15, Tryd.ntmps15
  (repeat' (first | (go_big_may; fail) | go_values | go_skip | go_guarded | go_step | go_upon | go_back | dsimp only))
  refine HF.out.mono ?_
  rintro e w1 ⟨rfl, hb1⟩
  (repeat' (first | (go_big_may; fail) | go_values | go_skip | go_guarded | go_step | go_upon | go_back | dsimp only))
  refine (HU.out _).mono ?_
  rintro e w2 ⟨rfl, hb2⟩
  (repeat' (first | (go_big_may; fail) | go_values | go_skip | go_guarded | go_step | go_upon | go_back | dsimp only))
  go_ret
  exact ⟨rfl, (((Below.refl _ _).alloc (Nat.le_refl _) _).trans (hb1.mono (by simp))).trans (hb2.mono (by have := hb1.size; simp at this; omega))⟩

end Go.Proofs.YtkffeaeacfhobaaDoor

/- strings.Builder's grow (the shelf's contract at this seat's numbers) and Grow, walked. -/
import Derived.Shelf.Strings.Builder2
import Derived.Test.YtkffeaeacfhobaaDoorBuilder
import Derived.Test.YtkffeaeacfhobaaDoorShelf
import Derived.Test.YtkffeaeacfhobaaDoorField
import Derived.Deep.QuietTactic
import Derived.BigQuiet
namespace Go.Proofs.YtkffeaeacfhobaaDoor
open Go.Shelf Go.RowKit

def ren241 : Go.Shelf.Ren := ⟨fun | 241 => 88 | 277 => 90 | n => n, fun | 70 => 90 | 9 => 9 | 0 => 0 | 72 => 93 | 37 => 91 | 127 => 128 | 3 => 3 | 5 => 5 | n => n, fun | n => n⟩
theorem lays241 : Go.Proofs.Lays.n241 Tryd.prog ren241 := {
  mixed := by kernel_rfl
  f241 := Tryd.func88.trans (congrArg some (by kernel_rfl))
  f277 := Tryd.func90.trans (congrArg some (by kernel_rfl))
  t0 := Tryd.underlying0
  a0 := Tryd.isAgg0
  z0 := Tryd.sizeOf0
  v0 := Tryd.zeroValue0
  t3 := Tryd.underlying3
  a3 := Tryd.isAgg3
  z3 := Tryd.sizeOf3
  v3 := Tryd.zeroValue3
  t37 := Tryd.underlying91
  a37 := Tryd.isAgg91
  z37 := Tryd.sizeOf91
  v37 := Tryd.zeroValue91
  t70 := Tryd.underlying90
  a70 := Tryd.isAgg90
  z70 := Tryd.sizeOf90
  v70 := Tryd.zeroValue90
  t72 := Tryd.underlying93
  a72 := Tryd.isAgg93
  z72 := Tryd.sizeOf93
  v72 := Tryd.zeroValue93 }
theorem extra241 : Builder.Extra Tryd.prog ren241 := {
  sizeBuilder := by kernel_rfl
  liesBuilder := by kernel_rfl
  t5 := Tryd.underlying5
  a5 := Tryd.isAgg5
  z5 := Tryd.sizeOf5
  v5 := Tryd.zeroValue5
  infoByte := by kernel_rfl
  cellsByte := by kernel_rfl
  sizeByte := by kernel_rfl
  neB5 := by decide }
theorem grow_fresh (B b n : Nat) (w : World) (hB : B ≤ b) (hbk : w.heap[b]? = some (.cells #[.pointer (some ⟨b, 0, none⟩), .slice none 0 0] tB (0, 0))) (hBw : B ≤ w.heap.size) (hn : n ≤ 281474976710656) :
    Calls Tryd.prog 88 #[.pointer (some ⟨b, 0, none⟩), .int .i64 n] w fun e w' => e = .returned (.tuple #[]) ∧ (Lib.BuilderAt tB tU8 B b (.pointer (some ⟨b, 0, none⟩)) [] w' ∧ Below B w w') := Any.Builder_grow_fresh lays241 extra241 B b n w hB hbk hBw hn

set_option maxRecDepth 100000 in
set_option maxHeartbeats 1000000 in
theorem Grow_fresh (B b n : Nat) (w : World) (hB : B ≤ b) (hbk : w.heap[b]? = some (.cells #[.pointer none, .slice none 0 0] tB (0, 0))) (hBw : B ≤ w.heap.size) (hn : n ≤ 281474976710656) :
    Calls Tryd.prog 81 #[.pointer (some ⟨b, 0, none⟩), .int .i64 n] w fun e w' => e = .returned (.tuple #[]) ∧ Lib.IsBuilder tB tU8 B b [] w' ∧ Below B w w' := by
  have h0 : w.cell? ⟨b, 0, none⟩ = some (.pointer none) := by rw [Lib.cell_of_heap hbk]; rfl
  have hsh : w.shape? b = some (tB, 2) := by simp [World.shape?, hbk]
  have hfz : w.frozen? ⟨b, 0, none⟩ = false := Lib.frozen_of_heap hbk 0
  have hcc := copyCheck_fresh b w h0 hsh hfz
  have hbk1 : (w.setCell ⟨b, 0, none⟩ (.pointer (some ⟨b, 0, none⟩))).heap[b]? = some (.cells #[.pointer (some ⟨b, 0, none⟩), .slice none 0 0] tB (0, 0)) := by
    simp [World.setCell, Array.getElem?_modify, hbk]
  have hb1 : Below B w (w.setCell ⟨b, 0, none⟩ (.pointer (some ⟨b, 0, none⟩))) := (Below.refl B w).setCell (p := ⟨b, 0, none⟩) hB _
  obtain ⟨w1, hw1⟩ : ∃ w1, w1 = w.setCell ⟨b, 0, none⟩ (.pointer (some ⟨b, 0, none⟩)) := ⟨_, rfl⟩
  rw [← hw1] at hcc hbk1 hb1
  have c1 : w1.cell? ⟨b, 1, none⟩ = some (.slice none 0 0) := by rw [Lib.cell_of_heap hbk1]; rfl
  have hg : ∀ k, Calls Tryd.prog 88 #[.pointer (some ⟨b, 0, none⟩), .int .i64 n] (w1.drewN k) fun e w' => e = .returned (.tuple #[]) ∧ (Lib.BuilderAt tB tU8 B b (.pointer (some ⟨b, 0, none⟩)) [] w' ∧ Below B (w1.drewN k) w') :=
    fun k => grow_fresh B b n _ hB hbk1 (by have := hb1.size; show B ≤ w1.heap.size; omega) hn
  have hb1n : ∀ k, Below B w (w1.drewN k) := fun k => ⟨hb1.os, hb1.tape, hb1.output, hb1.size, hb1.block⟩
  have hbd : ∀ k, Lib.IsBuilder tB tU8 B b [] (w1.drewN k) := fun k => .inr ⟨hB, .slice none 0 0, hbk1, World.ownsRow_nil _ _ _ _, by simp [Value.ownBlock]⟩
  have HB1N := Lib.hid hb1n
  have HBD := Lib.hid hbd
  have HCC := Lib.hid hcc
  have HG := Lib.hid hg
  have HB1 := Lib.hid hb1
  clear hb1n hbd hcc hg hb1 hw1 hbk1 hfz hsh h0 hbk
  go_enter Tryd.func81, Tryd.ntmps81
  (repeat' (first | (go_big_may; fail) | go_values | go_skip | go_guarded | go_step | go_upon | go_back | dsimp only))
  refine HCC.out.mono ?_
  rintro e w2 ⟨rfl, rfl⟩
  (repeat' (first | (go_big_may; fail) | go_values | go_skip | go_guarded | go_step | go_upon | go_back | dsimp only))
  go_quiet (fail)
  (repeat' (first | (go_big_may; fail) | go_values | go_skip | go_guarded | go_step | go_upon | go_back | dsimp only))
  · refine (HG.out _).mono ?_
    rintro e w3 ⟨rfl, hb3, hw3⟩
    have HR := Lib.hid (And.intro hb3 ((HB1N.out _).trans hw3))
    clear hb3 hw3 HG HCC HB1
    (repeat' (first | (go_big_may; fail) | go_values | go_skip | go_guarded | go_step | go_upon | go_back | dsimp only))
    go_end0
    exact ⟨rfl, .inr HR.out.1, HR.out.2⟩
  · go_end0
    exact ⟨rfl, HBD.out _, HB1N.out _⟩
end Go.Proofs.YtkffeaeacfhobaaDoor

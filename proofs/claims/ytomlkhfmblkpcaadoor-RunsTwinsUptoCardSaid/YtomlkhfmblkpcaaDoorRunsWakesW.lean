/- runs: the law's own 'wakes', walked. -/
import Derived.Test.YtomlkhfmblkpcaaDoorRunsEql
import Derived.Deep.RegionWith
namespace Go.Proofs.YtomlkhfmblkpcaaDoor
open Go.RowKit

theorem HoldS.le {W w : World} {b : Nat} {S : St} (h : HoldS W w b S) : W.heap.size ≤ b ∧ b < w.heap.size := by
  obtain ⟨mb, blk, val, h1, h2⟩ := h.store
  exact ⟨h2 b (by simp [fpS]), lt_of_heap h1.cells⟩
theorem HoldS.drewN {W w : World} {b : Nat} {S : St} (h : HoldS W w b S) (n : Nat) : HoldS W (w.drewN n) b S := h.mono (below_dW _ _)
theorem HoldS.alloc {W w : World} {b : Nat} {S : St} (h : HoldS W w b S) (o : Obj) : HoldS W (w.alloc o) b S := h.mono ((Below.refl _ _).alloc (Nat.le_refl _) _)

set_option maxRecDepth 100000 in
set_option maxHeartbeats 3200000 in
theorem wakes_calls {W w : World} (hb : Below W.heap.size W w) {ef : Nat → Nat × Nat} {fl : List (Nat × Nat)} (hF : Fails W ef fl) (hx8 : (8, 1) ∈ fl) (hx : (9, 4) ∈ fl ∧ (3, 5) ∈ fl ∧ (4, 6) ∈ fl ∧ (7, 0) ∈ fl) :
    Calls Tryd.prog 12 #[] w fun e w' => e = .returned (.bool true) ∧ Below W.heap.size W w' := by
  have HB := Lib.hid hb
  have HF := Lib.hid hF
  have HX := Lib.hid hx
  have HX8 := Lib.hid hx8
  clear hb hF hx hx8
  go_enter Tryd.func12, Tryd.ntmps12
  (repeat' (first | (go_big_may; fail) | go_values | go_skip | go_guarded | go_step | go_upon | go_back | dsimp only))
  refine (New_s HB.out (by decide)).mono ?_
  rintro e w1 ⟨rfl, h1⟩
  have H1 := Lib.hid h1
  clear h1
  generalize w.heap.size + 1 = b at *
  (repeat' (first | (go_big_may; fail) | go_values | go_skip | go_guarded | go_step | go_upon | go_back | dsimp only))
  have hc := Create_s H1.out HF.out HX.out.1 HX8.out
  rw [wk_create] at hc
  dsimp only at hc
  rw [errV_zero] at hc
  refine hc.mono ?_
  rintro e w2 ⟨rfl, h2⟩
  have H2 := Lib.hid h2
  have hbl := h2.le
  have heq := eql_nil
  clear h2 hc H1
  (repeat' (first | (go_big_may; fail) | go_values | go_skip | go_guarded | go_step | go_upon | go_back | dsimp only))
  have ha1 : Calls Tryd.prog 14 #[.pointer (some ⟨b, 0, none⟩), .int .i64 1, .slice (some ⟨w2.heap.size, 0, none⟩) 2 2] (w2.alloc (.cells #[.string ⟨#[97, 98]⟩, .string ⟨#[99]⟩] 9)).drew fun e w' => e = .returned .nilIface ∧ HoldS W w' b wkS2 := by
    have h := Append_lit (S := wkS1) (ss := [[97, 98], [99]]) (z := 1) (n := 2) ((H2.out.alloc (.cells #[.string ⟨#[97, 98]⟩, .string ⟨#[99]⟩] 9)).drewN 1) HF.out HX.out (by decide) (fun p hp => by simp [wkS1, St.find] at hp; subst hp; simp) rfl (by decide) (g := w2.heap.size) (heap_alloc_new _ _) rfl (by omega) (by decide)
    rw [wk_append1] at h
    exact h
  have ha2 : ∀ w3, HoldS W w3 b wkS2 → Calls Tryd.prog 14 #[.pointer (some ⟨b, 0, none⟩), .int .i64 1, .slice (some ⟨w3.heap.size, 0, none⟩) 1 1] (w3.alloc (.cells #[.string ⟨#[100, 101, 102]⟩] 9)) fun e w' => e = .returned (.iface tES (.pointer (some ⟨(ef 7).1, (ef 7).2, none⟩))) ∧ HoldS W w' b wkS2 := fun w3 h3 => by
    have h := Append_lit (S := wkS2) (ss := [[100, 101, 102]]) (z := 1) (n := 1) (h3.alloc (.cells #[.string ⟨#[100, 101, 102]⟩] 9)) HF.out HX.out (by decide) (fun p hp => by simp [wkS2, St.find] at hp; subst hp; simp [wkS2]) rfl (by decide) (g := w3.heap.size) (heap_alloc_new _ _) rfl (by have := h3.le.2; omega) (by decide)
    rw [wk_append2] at h
    dsimp only at h
    rw [errV_pos ef (by decide)] at h
    exact h
  have hg0 : ∀ w3, HoldS W w3 b wkS2 → w3.cell? ⟨0, 0, none⟩ = some (.iface tES (.pointer (some ⟨(ef 7).1, (ef 7).2, none⟩))) := fun w3 h3 => (HF.out.below h3.below).cell _ HX.out.2.2.2
  have HA1 := Lib.hid ha1
  have HA2 := Lib.hid ha2
  have HG0 := Lib.hid hg0
  clear ha1 ha2 hg0
  have hsame : ∀ wz : World, (binOp .eql tErr (.iface tES (.pointer (some ⟨(ef 7).1, (ef 7).2, none⟩))) (.iface tES (.pointer (some ⟨(ef 7).1, (ef 7).2, none⟩)))).run Tryd.prog wz = .ok (.bool true) wz := fun wz => eql_same _ wz
  go_region_with (first | ((with_reducible (show Calls _ 17 _ _ _)); refine (Used_s H3.out).mono ?_; rintro e w4 ⟨rfl, rfl⟩) | ((with_reducible refine Calls.mono HA1.out ?_); rintro e w3 ⟨rfl, h3⟩; have cg3 := HG0.out _ h3; have hl3 := World.block_lt_of_cell? _ _ cg3; have H3 := Lib.hid h3; clear h3) | ((with_reducible refine Calls.mono (HA2.out _ H3.out) ?_); rintro e w5 ⟨rfl, h5⟩; have cg5 := HG0.out _ h5; have H5 := Lib.hid h5; clear h5))
  all_goals
    (repeat' (first | (go_big_may; fail) | go_values | go_skip | go_guarded | go_step | go_upon | go_back | dsimp only))
    go_ret
    exact ⟨rfl, H5.out.below⟩
end Go.Proofs.YtomlkhfmblkpcaaDoor

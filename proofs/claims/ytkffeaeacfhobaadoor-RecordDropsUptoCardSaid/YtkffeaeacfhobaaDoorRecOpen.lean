/- record.Open walked. -/
import Derived.Test.YtkffeaeacfhobaaDoorRecClose
namespace Go.Proofs.YtkffeaeacfhobaaDoor
open Go.RowKit

section
variable {W w : World} {R : Thing} {b : Nat} {ef : Nat → Nat × Nat} {S : St}
set_option maxRecDepth 100000 in
set_option maxHeartbeats 1600000 in
theorem Open_limits (h : At W w (Both (StoreT b S) R)) (hR : Stable R) (hF : Fails W ef fails11) {z : Int} (hz : z < 1 ∨ 4096 < z) :
    Calls Tryd.prog 6 #[.pointer (some ⟨b, 0, none⟩), .int .i64 z] w fun e w' => e = .returned (.tuple #[.pointer none, .iface tES (.pointer (some ⟨(ef 2).1, (ef 2).2, none⟩))]) ∧ At W w' (Both (StoreT b S) R) := by
  have cg := (hF.below h.below).cell (2, 0) (by decide)
  have HA := Lib.hid (fun n => h.mono ((StoreT.stable b S).both hR) (below_dW w n))
  clear h hF hR
  by_cases h1 : z < 1
  · go_enter Tryd.func6, Tryd.ntmps6
    (repeat' (first | (go_big_may; fail) | go_values | go_skip | go_guarded | go_step | go_upon | go_back | dsimp only))
    go_quiet (fail)
    (repeat' (first | (go_big_may; fail) | go_values | go_skip | go_guarded | go_step | go_upon | go_back | dsimp only))
    go_ret2
    exact ⟨rfl, HA.out _⟩
  · have h2 : 4096 < z := by omega
    clear hz
    go_enter Tryd.func6, Tryd.ntmps6
    (repeat' (first | (go_big_may; fail) | go_values | go_skip | go_guarded | go_step | go_upon | go_back | dsimp only))
    go_quiet (fail)
    (repeat' (first | (go_big_may; fail) | go_values | go_skip | go_guarded | go_step | go_upon | go_back | dsimp only))
    go_ret2
    exact ⟨rfl, HA.out _⟩
set_option maxRecDepth 100000 in
set_option maxHeartbeats 1600000 in
theorem Open_ok (h : At W w (Both (StoreT b S) R)) (hR : Stable R) (hF : Fails W ef fails11) {n : Nat} (hn : 1 ≤ n ∧ n ≤ 4096) (hc : (createP S).2.2 = 0) :
    Calls Tryd.prog 6 #[.pointer (some ⟨b, 0, none⟩), .int .i64 n] w fun e w' => ∃ k, e = .returned (.tuple #[.pointer (some ⟨k, 0, none⟩), .nilIface]) ∧ At W w' (Both (WrT k b ef ⟨(createP S).2.1, n, [], 0⟩) (Both (StoreT b (createP S).1) R)) := by
  have hcr := Create_7 h hR (fails11_7 hF)
  rw [hc, errV_zero] at hcr
  have HCR := Lib.hid hcr
  have neqn : ∀ wz : World, (binOp .neq tErr .nilIface .nilIface).run Tryd.prog wz = .ok (.bool false) wz := fun wz => neq_nil wz
  have h1 : ¬ (n : Int) < 1 := by omega
  have h2 : ¬ 4096 < (n : Int) := by omega
  generalize (createP S).2.1 = r at *
  have HST := Lib.hid ((StoreT.stable b (createP S).1).both hR)
  clear h hR hF hc hcr hn
  go_enter Tryd.func6, Tryd.ntmps6
  (repeat' (first | (go_big_may; fail) | go_values | go_skip | go_guarded | go_step | go_upon | go_back | dsimp only))
  refine HCR.out.mono ?_
  rintro e w1 ⟨rfl, h1⟩
  have hnew := h1.newCell HST.out (wrCells b ef ⟨r, n, [], 0⟩) tWr
  simp only [wrCells] at hnew
  rw [errV_zero] at hnew
  have HN := Lib.hid hnew
  clear h1 hnew
  (repeat' (first | (go_big_may; fail) | go_values | go_skip | go_guarded | go_step | go_upon | go_back | dsimp only))
  go_ret2
  exact ⟨_, rfl, HN.out⟩
end
end Go.Proofs.YtkffeaeacfhobaaDoor

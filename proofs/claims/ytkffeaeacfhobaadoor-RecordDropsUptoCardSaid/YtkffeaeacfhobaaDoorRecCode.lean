/- hornbooklaw06.code walked: the number of a failure. -/
import Derived.Test.YtkffeaeacfhobaaDoorRunsCode0
import Derived.Test.YtkffeaeacfhobaaDoorRecSent
namespace Go.Proofs.YtkffeaeacfhobaaDoor
open Go.RowKit

set_option maxRecDepth 100000 in
set_option maxHeartbeats 3200000 in
theorem code6_calls {w : World} {ef : Nat → Nat × Nat} (hF : Fails w ef fails11) {c : Nat} (hc : c = 0 ∨ ∃ g, (c, g) ∈ fails11) :
    Calls Tryd.prog 20 #[errV ef c] w fun e w' => e = .returned (.int .i64 c) ∧ w = w' := by
  have heq := eql_nil
  rcases hc with rfl | ⟨g, hg⟩
  · clear hF
    rw [errV_zero]
    go_enter Tryd.func20, Tryd.ntmps20
    (repeat' (first | (go_big_may; fail) | go_values | go_skip | go_guarded | go_step | go_upon | go_back | dsimp only))
    go_ret
    exact ⟨rfl, rfl⟩
  · have hnz : c ≠ 0 := by
      simp only [fails11, List.mem_cons, Prod.mk.injEq, List.not_mem_nil, or_false] at hg
      omega
    have hne : ∀ wz : World, (binOp .eql tErr (.iface tES (.pointer (some ⟨(ef c).1, (ef c).2, none⟩))) .nilIface).run Tryd.prog wz = .ok (.bool false) wz := fun wz => by
      have := eql_errV ef hnz wz
      rwa [errV_pos ef hnz] at this
    rw [errV_pos ef hnz]
    have q1 := eql_errs hF hg (y := (1, 2)) (by decide)
    have q2 := eql_errs hF hg (y := (2, 0)) (by decide)
    have q3 := eql_errs hF hg (y := (3, 5)) (by decide)
    have q4 := eql_errs hF hg (y := (4, 8)) (by decide)
    have q5 := eql_errs hF hg (y := (5, 6)) (by decide)
    have q7 := eql_errs hF hg (y := (7, 9)) (by decide)
    have q8 := eql_errs hF hg (y := (8, 10)) (by decide)
    have q9 := eql_errs hF hg (y := (9, 11)) (by decide)
    have q10 := eql_errs hF hg (y := (10, 3)) (by decide)
    have q11 := eql_errs hF hg (y := (11, 4)) (by decide)
    have q13 := eql_errs hF hg (y := (13, 1)) (by decide)
    have c1 := hF.cell (1, 2) (by decide)
    have c2 := hF.cell (2, 0) (by decide)
    have c3 := hF.cell (3, 5) (by decide)
    have c4 := hF.cell (4, 8) (by decide)
    have c5 := hF.cell (5, 6) (by decide)
    have c7 := hF.cell (7, 9) (by decide)
    have c8 := hF.cell (8, 10) (by decide)
    have c9 := hF.cell (9, 11) (by decide)
    have c10 := hF.cell (10, 3) (by decide)
    have c11 := hF.cell (11, 4) (by decide)
    have c13 := hF.cell (13, 1) (by decide)
    clear hF
    simp only [fails11, List.mem_cons, Prod.mk.injEq, List.not_mem_nil, or_false] at hg
    generalize (ef c) = ec at *
    rcases hg with ⟨rfl, rfl⟩ | ⟨rfl, rfl⟩ | ⟨rfl, rfl⟩ | ⟨rfl, rfl⟩ | ⟨rfl, rfl⟩ | ⟨rfl, rfl⟩ | ⟨rfl, rfl⟩ | ⟨rfl, rfl⟩ | ⟨rfl, rfl⟩ | ⟨rfl, rfl⟩ | ⟨rfl, rfl⟩
    all_goals
      clear hnz
      simp only [Nat.reduceEqDiff, decide_true, decide_false] at q1 q2 q3 q4 q5 q7 q8 q9 q10 q11 q13
      go_enter Tryd.func20, Tryd.ntmps20
      (repeat' (first | (go_big_may; fail) | go_values | go_skip | go_guarded | go_step | go_upon | go_back | dsimp only))
      go_ret
      exact ⟨rfl, rfl⟩
end Go.Proofs.YtkffeaeacfhobaaDoor

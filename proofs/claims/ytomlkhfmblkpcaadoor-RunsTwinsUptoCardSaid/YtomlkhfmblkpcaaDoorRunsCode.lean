/- runs: the law's own 'code', walked. -/
import Derived.Test.YtomlkhfmblkpcaaDoorRunsEql
namespace Go.Proofs.YtomlkhfmblkpcaaDoor
open Go.RowKit

theorem eql_errs {w : World} {ef : Nat → Nat × Nat} {fl : List (Nat × Nat)} (hF : Fails w ef fl) {x y : Nat × Nat} (hx : x ∈ fl) (hy : y ∈ fl) :
    (binOp .eql tErr (.iface tES (.pointer (some ⟨(ef x.1).1, (ef x.1).2, none⟩))) (.iface tES (.pointer (some ⟨(ef y.1).1, (ef y.1).2, none⟩)))).run Tryd.prog w = .ok (.bool (decide (x.1 = y.1))) w := by
  by_cases h : x.1 = y.1
  · rw [h, eql_same]; simp
  · obtain ⟨i, hi, hc⟩ := Option.map_eq_some_iff.1 tES_comp
    obtain ⟨j, hj, hj1⟩ := Option.map_eq_some_iff.1 tE_size
    obtain ⟨ca, ta, ha⟩ := hF.block x hx
    obtain ⟨cb, tb, hb⟩ := hF.block y hy
    have hne := hF.ne x hx y hy h
    rw [run_eql_iface_ptr_other w Tryd.underlying26 Tryd.underlying122 hi hc hj (by rw [hj1]; decide) (fun e => hne (by simp only [Addr.mk.injEq] at e; exact Prod.ext e.1 e.2.1)) ha hb]
    simp [h]

set_option maxHeartbeats 1600000 in
theorem code_calls {w : World} {ef : Nat → Nat × Nat} (hF : Fails w ef failsAll) {c : Nat} (hc : c = 0 ∨ ∃ g, (c, g) ∈ failsAll) :
    Calls Tryd.prog 34 #[errV ef c] w fun e w' => e = .returned (.int .i64 c) ∧ w = w' := by
  have heq := eql_nil
  rcases hc with rfl | ⟨g, hg⟩
  · clear hF
    rw [errV_zero]
    go_enter Tryd.func34, Tryd.ntmps34
    (repeat' (first | (go_big_may; fail) | go_values | go_skip | go_guarded | go_step | go_upon | go_back | dsimp only))
    go_ret
    exact ⟨rfl, rfl⟩
  · have hnz : c ≠ 0 := by
      simp only [failsAll, List.mem_cons, Prod.mk.injEq, List.not_mem_nil, or_false] at hg
      omega
    have hne : ∀ wz : World, (binOp .eql tErr (.iface tES (.pointer (some ⟨(ef c).1, (ef c).2, none⟩))) .nilIface).run Tryd.prog wz = .ok (.bool false) wz := fun wz => by
      have := eql_errV ef hnz wz
      rwa [errV_pos ef hnz] at this
    rw [errV_pos ef hnz]
    have q1 := eql_errs hF hg (y := (1, 3)) (by decide)
    have q3 := eql_errs hF hg (y := (3, 5)) (by decide)
    have q4 := eql_errs hF hg (y := (4, 6)) (by decide)
    have q5 := eql_errs hF hg (y := (5, 2)) (by decide)
    have q6 := eql_errs hF hg (y := (6, 7)) (by decide)
    have q7 := eql_errs hF hg (y := (7, 0)) (by decide)
    have q8 := eql_errs hF hg (y := (8, 1)) (by decide)
    have q9 := eql_errs hF hg (y := (9, 4)) (by decide)
    have c1 := hF.cell (1, 3) (by decide)
    have c3 := hF.cell (3, 5) (by decide)
    have c4 := hF.cell (4, 6) (by decide)
    have c5 := hF.cell (5, 2) (by decide)
    have c6 := hF.cell (6, 7) (by decide)
    have c7 := hF.cell (7, 0) (by decide)
    have c8 := hF.cell (8, 1) (by decide)
    have c9 := hF.cell (9, 4) (by decide)
    clear hF
    simp only [failsAll, List.mem_cons, Prod.mk.injEq, List.not_mem_nil, or_false] at hg
    generalize (ef c) = ec at *
    rcases hg with ⟨rfl, rfl⟩ | ⟨rfl, rfl⟩ | ⟨rfl, rfl⟩ | ⟨rfl, rfl⟩ | ⟨rfl, rfl⟩ | ⟨rfl, rfl⟩ | ⟨rfl, rfl⟩ | ⟨rfl, rfl⟩
    all_goals
      clear hnz
      simp only [Nat.reduceEqDiff, decide_true, decide_false] at q1 q3 q4 q5 q6 q7 q8 q9
      go_enter Tryd.func34, Tryd.ntmps34
      (repeat' (first | (go_big_may; fail) | go_values | go_skip | go_guarded | go_step | go_upon | go_back | dsimp only))
      go_ret
      exact ⟨rfl, rfl⟩
theorem code_zero {w : World} {ef : Nat → Nat × Nat} (hF : Fails w ef failsAll) : Calls Tryd.prog 34 #[.nilIface] w fun e w' => e = .returned (.int .i64 0) ∧ w = w' := by
  have h := code_calls hF (c := 0) (.inl rfl)
  rwa [errV_zero] at h
end Go.Proofs.YtomlkhfmblkpcaaDoor

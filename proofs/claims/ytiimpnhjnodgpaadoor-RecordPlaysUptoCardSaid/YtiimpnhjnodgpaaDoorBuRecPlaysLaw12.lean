/- runs: the contracts to use: a store of the call's own. · a failure is itself. · Two failures compared. · hornbooklaw06.code walked: the number of a failure. -/
import Derived.Test.YtiimpnhjnodgpaaDoorBuRecPlaysLaw07
import Derived.Test.YtiimpnhjnodgpaaDoorBuRecPlaysLaw11
import Derived.Test.YtiimpnhjnodgpaaDoorBuRecPlaysLaw03
import Derived.LaidEql
set_option linter.unusedSimpArgs false
set_option linter.unusedVariables false
namespace Go.Proofs.YtiimpnhjnodgpaaDoor
open Go.RowKit

/-- In w a store that holds S lies in block b, all of it made since W. -/
structure HoldS (W w : World) (b : Nat) (S : St) : Prop where
  below : Below W.heap.size W w
  store : ∃ mb blk val, StoreI w b mb blk val S ∧ ∀ k ∈ fpS b mb blk val S, W.heap.size ≤ k

theorem HoldS.mono {W w w' : World} {b : Nat} {S : St} (h : HoldS W w b S) (hb : Below w.heap.size w w') : HoldS W w' b S := by
  obtain ⟨mb, blk, val, h1, h2⟩ := h.store
  exact ⟨h.below.trans (hb.mono h.below.size), mb, blk, val, h1.below hb, h2⟩
theorem HoldS.post {W w w' : World} {b mb : Nat} {blk : Nat → Nat} {val : Nat → Value} {S S' : St} (hb : Below W.heap.size W w) (h2 : ∀ k ∈ fpS b mb blk val S, W.heap.size ≤ k)
    (hp : StPost w b mb blk val S S' w') : HoldS W w' b S' := by
  obtain ⟨blk', val', h1, hu, hg⟩ := hp
  refine ⟨hb.trans (hu.below hb.size h2), mb, blk', val', h1, fun k hk => ?_⟩
  rcases hg k hk with h | h
  · exact h2 k h
  · exact Nat.le_trans hb.size h
theorem fails_upd {W w : World} {ef : Nat → Nat × Nat} {fl : List (Nat × Nat)} (hF : Fails W ef fl) (hb : Below W.heap.size W w) {b : Nat} (hB : W.heap.size ≤ b) : ∀ w', Upd [b] w w' → Fails w' ef fl := fun w' hu =>
  hF.below (hb.trans (hu.below hb.size (by simpa using hB)))

section
variable {W w : World} {b : Nat} {S : St} {ef : Nat → Nat × Nat} {fl : List (Nat × Nat)}
end
end Go.Proofs.YtiimpnhjnodgpaaDoor
namespace Go.Proofs.YtiimpnhjnodgpaaDoor
open Go.RowKit
theorem tES_comp : (Tryd.prog.info? tES).map (fun i => i.comparable) = some true := by kernel_rfl
theorem tE_size : (Tryd.prog.info? 193).map (fun i => i.size) = some 1 := by kernel_rfl
theorem eql_same (a : Addr) (wz : World) : (binOp .eql tErr (.iface tES (.pointer (some a))) (.iface tES (.pointer (some a)))).run Tryd.prog wz = .ok (.bool true) wz := by
  obtain ⟨i, hi, hc⟩ := Option.map_eq_some_iff.1 tES_comp
  obtain ⟨j, hj, _⟩ := Option.map_eq_some_iff.1 tE_size
  exact run_eql_iface_ptr_same wz a Tryd.underlying30 Tryd.underlying179 hi hc hj
end Go.Proofs.YtiimpnhjnodgpaaDoor
namespace Go.Proofs.YtiimpnhjnodgpaaDoor
open Go.RowKit

theorem eql_errs {w : World} {ef : Nat → Nat × Nat} {fl : List (Nat × Nat)} (hF : Fails w ef fl) {x y : Nat × Nat} (hx : x ∈ fl) (hy : y ∈ fl) :
    (binOp .eql tErr (.iface tES (.pointer (some ⟨(ef x.1).1, (ef x.1).2, none⟩))) (.iface tES (.pointer (some ⟨(ef y.1).1, (ef y.1).2, none⟩)))).run Tryd.prog w = .ok (.bool (decide (x.1 = y.1))) w := by
  by_cases h : x.1 = y.1
  · rw [h, eql_same]; simp
  · obtain ⟨i, hi, hc⟩ := Option.map_eq_some_iff.1 tES_comp
    obtain ⟨j, hj, hj1⟩ := Option.map_eq_some_iff.1 tE_size
    obtain ⟨ca, ta, ha⟩ := hF.block x hx
    obtain ⟨cb, tb, hb⟩ := hF.block y hy
    have hne := hF.ne x hx y hy h
    rw [run_eql_iface_ptr_other w Tryd.underlying30 Tryd.underlying179 hi hc hj (by rw [hj1]; decide) (fun e => hne (by simp only [Addr.mk.injEq] at e; exact Prod.ext e.1 e.2.1)) ha hb]
    simp [h]

theorem neq_same (a : Addr) (wz : World) : (binOp .neq tErr (.iface tES (.pointer (some a))) (.iface tES (.pointer (some a)))).run Tryd.prog wz = .ok (.bool false) wz := by
  obtain ⟨i, hi, hc⟩ := Option.map_eq_some_iff.1 tES_comp
  obtain ⟨j, hj, _⟩ := Option.map_eq_some_iff.1 tE_size
  simp only [binOp]
  simp [Op.equal, Op.maxDepth, run_equalIn_iface_ptr_same wz 9998 a Tryd.underlying30 Tryd.underlying179 hi hc hj]
theorem neq_errs {w : World} {ef : Nat → Nat × Nat} {fl : List (Nat × Nat)} (hF : Fails w ef fl) {x y : Nat × Nat} (hx : x ∈ fl) (hy : y ∈ fl) :
    (binOp .neq tErr (.iface tES (.pointer (some ⟨(ef x.1).1, (ef x.1).2, none⟩))) (.iface tES (.pointer (some ⟨(ef y.1).1, (ef y.1).2, none⟩)))).run Tryd.prog w = .ok (.bool (decide (x.1 ≠ y.1))) w := by
  by_cases h : x.1 = y.1
  · rw [h, neq_same]; simp
  · obtain ⟨i, hi, hc⟩ := Option.map_eq_some_iff.1 tES_comp
    obtain ⟨j, hj, hj1⟩ := Option.map_eq_some_iff.1 tE_size
    obtain ⟨ca, ta, ha⟩ := hF.block x hx
    obtain ⟨cb, tb, hb⟩ := hF.block y hy
    have hne := hF.ne x hx y hy h
    have h1 := run_equalIn_iface_ptr_other (a := ⟨(ef x.1).1, (ef x.1).2, none⟩) (b := ⟨(ef y.1).1, (ef y.1).2, none⟩) w 9998 Tryd.underlying30 Tryd.underlying179 hi hc hj (by rw [hj1]; decide) (fun e => hne (by simp only [Addr.mk.injEq] at e; exact Prod.ext e.1 e.2.1)) ha hb
    simp only [binOp]
    simp [Op.equal, Op.maxDepth, h1, h]
end Go.Proofs.YtiimpnhjnodgpaaDoor
namespace Go.Proofs.YtiimpnhjnodgpaaDoor
open Go.RowKit

set_option maxRecDepth 100000 in
set_option maxHeartbeats 3200000 in
theorem code6_calls {w : World} {ef : Nat → Nat × Nat} (hF : Fails w ef fails11) {c : Nat} (hc : c = 0 ∨ ∃ g, (c, g) ∈ fails11) :
    Calls Tryd.prog 33 #[errV ef c] w fun e w' => e = .returned (.int .i64 c) ∧ w = w' := by
  have heq := eql_nil
  rcases hc with rfl | ⟨g, hg⟩
  · clear hF
    rw [errV_zero]
    go_enter Tryd.func33, Tryd.ntmps33
    (repeat' (first | (go_big_may; fail) | go_values | go_skip | go_guarded | go_step | go_upon | go_back | dsimp only))
    go_ret
    exact ⟨rfl, rfl⟩
  · have hnz : c ≠ 0 := by
      simp only [fails11, List.mem_cons, Prod.mk.injEq, List.not_mem_nil, or_false] at hg
      omega
    have hne : ∀ wz : World, (binOp .eql tErr (.iface tES (.pointer (some ⟨(ef c).1, (ef c).2, none⟩))) .nilIface).run Tryd.prog wz = .ok (.bool false) wz := fun wz => by
      have := eql_errV ef hnz wz
      rwa [errV_pos ef hnz] at this
    rw [errV_pos ef hnz]
    have q1 := eql_errs hF hg (y := (1, 0)) (by decide)
    have q2 := eql_errs hF hg (y := (2, 5)) (by decide)
    have q3 := eql_errs hF hg (y := (3, 2)) (by decide)
    have q4 := eql_errs hF hg (y := (4, 8)) (by decide)
    have q5 := eql_errs hF hg (y := (5, 1)) (by decide)
    have q7 := eql_errs hF hg (y := (7, 4)) (by decide)
    have q8 := eql_errs hF hg (y := (8, 3)) (by decide)
    have q9 := eql_errs hF hg (y := (9, 7)) (by decide)
    have q10 := eql_errs hF hg (y := (10, 9)) (by decide)
    have q11 := eql_errs hF hg (y := (11, 6)) (by decide)
    have q13 := eql_errs hF hg (y := (13, 10)) (by decide)
    have c1 := hF.cell (1, 0) (by decide)
    have c2 := hF.cell (2, 5) (by decide)
    have c3 := hF.cell (3, 2) (by decide)
    have c4 := hF.cell (4, 8) (by decide)
    have c5 := hF.cell (5, 1) (by decide)
    have c7 := hF.cell (7, 4) (by decide)
    have c8 := hF.cell (8, 3) (by decide)
    have c9 := hF.cell (9, 7) (by decide)
    have c10 := hF.cell (10, 9) (by decide)
    have c11 := hF.cell (11, 6) (by decide)
    have c13 := hF.cell (13, 10) (by decide)
    clear hF
    simp only [fails11, List.mem_cons, Prod.mk.injEq, List.not_mem_nil, or_false] at hg
    generalize (ef c) = ec at *
    rcases hg with ⟨rfl, rfl⟩ | ⟨rfl, rfl⟩ | ⟨rfl, rfl⟩ | ⟨rfl, rfl⟩ | ⟨rfl, rfl⟩ | ⟨rfl, rfl⟩ | ⟨rfl, rfl⟩ | ⟨rfl, rfl⟩ | ⟨rfl, rfl⟩ | ⟨rfl, rfl⟩ | ⟨rfl, rfl⟩
    all_goals
      clear hnz
      simp only [Nat.reduceEqDiff, decide_true, decide_false] at q1 q2 q3 q4 q5 q7 q8 q9 q10 q11 q13
      go_enter Tryd.func33, Tryd.ntmps33
      (repeat' (first | (go_big_may; fail) | go_values | go_skip | go_guarded | go_step | go_upon | go_back | dsimp only))
      go_ret
      exact ⟨rfl, rfl⟩
end Go.Proofs.YtiimpnhjnodgpaaDoor

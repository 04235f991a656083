/- Two failures compared. -/
import Derived.Test.YtkffeaeacfhobaaDoorRunsEql
namespace Go.Proofs.YtkffeaeacfhobaaDoor
open Go.RowKit

theorem eql_errs {w : World} {ef : Nat → Nat × Nat} {fl : List (Nat × Nat)} (hF : Fails w ef fl) {x y : Nat × Nat} (hx : x ∈ fl) (hy : y ∈ fl) :
    (binOp .eql tErr (.iface tES (.pointer (some ⟨(ef x.1).1, (ef x.1).2, none⟩))) (.iface tES (.pointer (some ⟨(ef y.1).1, (ef y.1).2, none⟩)))).run Tryd.prog w = .ok (.bool (decide (x.1 = y.1))) w := by
  by_cases h : x.1 = y.1
  · rw [h, eql_same]; simp
  · obtain ⟨i, hi, hc⟩ := Option.map_eq_some_iff.1 tES_comp
    obtain ⟨j, hj, hj1⟩ := Option.map_eq_some_iff.1 tE_size
    obtain ⟨ca, ta, ha⟩ := hF.block x hx
    obtain ⟨cb, tb, hb⟩ := hF.block y hy
    have hne := hF.ne x hx y hy h
    rw [run_eql_iface_ptr_other w Tryd.underlying25 Tryd.underlying167 hi hc hj (by rw [hj1]; decide) (fun e => hne (by simp only [Addr.mk.injEq] at e; exact Prod.ext e.1 e.2.1)) ha hb]
    simp [h]

theorem neq_same (a : Addr) (wz : World) : (binOp .neq tErr (.iface tES (.pointer (some a))) (.iface tES (.pointer (some a)))).run Tryd.prog wz = .ok (.bool false) wz := by
  obtain ⟨i, hi, hc⟩ := Option.map_eq_some_iff.1 tES_comp
  obtain ⟨j, hj, _⟩ := Option.map_eq_some_iff.1 tE_size
  simp only [binOp]
  simp [Op.equal, Op.maxDepth, run_equalIn_iface_ptr_same wz 9998 a Tryd.underlying25 Tryd.underlying167 hi hc hj]
theorem neq_errs {w : World} {ef : Nat → Nat × Nat} {fl : List (Nat × Nat)} (hF : Fails w ef fl) {x y : Nat × Nat} (hx : x ∈ fl) (hy : y ∈ fl) :
    (binOp .neq tErr (.iface tES (.pointer (some ⟨(ef x.1).1, (ef x.1).2, none⟩))) (.iface tES (.pointer (some ⟨(ef y.1).1, (ef y.1).2, none⟩)))).run Tryd.prog w = .ok (.bool (decide (x.1 ≠ y.1))) w := by
  by_cases h : x.1 = y.1
  · rw [h, neq_same]; simp
  · obtain ⟨i, hi, hc⟩ := Option.map_eq_some_iff.1 tES_comp
    obtain ⟨j, hj, hj1⟩ := Option.map_eq_some_iff.1 tE_size
    obtain ⟨ca, ta, ha⟩ := hF.block x hx
    obtain ⟨cb, tb, hb⟩ := hF.block y hy
    have hne := hF.ne x hx y hy h
    have h1 := run_equalIn_iface_ptr_other (a := ⟨(ef x.1).1, (ef x.1).2, none⟩) (b := ⟨(ef y.1).1, (ef y.1).2, none⟩) w 9998 Tryd.underlying25 Tryd.underlying167 hi hc hj (by rw [hj1]; decide) (fun e => hne (by simp only [Addr.mk.injEq] at e; exact Prod.ext e.1 e.2.1)) ha hb
    simp only [binOp]
    simp [Op.equal, Op.maxDepth, h1, h]
end Go.Proofs.YtkffeaeacfhobaaDoor

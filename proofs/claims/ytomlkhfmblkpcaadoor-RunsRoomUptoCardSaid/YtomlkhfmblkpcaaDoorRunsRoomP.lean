/- RunsRoom: the stores of a turn, and their calls. -/
import Derived.Test.YtomlkhfmblkpcaaDoorRunsWakesW
namespace Go.Proofs.YtomlkhfmblkpcaaDoor
open Go.RowKit

/-- The store ahead of turn k, with a run, with the text, sealed. -/
def rm0 (L k : Nat) : St := ⟨L, 0, if k = 0 then 0 else L, k, 0, []⟩
def rm1 (L k : Nat) : St := ⟨L, 0, if k = 0 then 0 else L, k + 1, 0, [(k + 1, ⟨[], false⟩)]⟩
def rm2 (t : List UInt8) (k : Nat) : St := ⟨t.length, t.length, t.length, k + 1, 0, [(k + 1, ⟨t, false⟩)]⟩
def rm3 (t : List UInt8) (k : Nat) : St := ⟨t.length, t.length, t.length, k + 1, 0, [(k + 1, ⟨t, true⟩)]⟩
theorem rm_create (L k : Nat) (hk : k < 20) : createP (rm0 L k) = (rm1 L k, k + 1, 0) := by
  have h : ¬ k = 16777216 := by omega
  simp [createP, rm0, rm1, createS, stepS, h]
theorem rm_append (t : List UInt8) (k : Nat) : appendP (rm1 t.length k) ((k + 1 : Nat) : Int) (cat [t]) = (rm2 t k, 0) := by
  simp [appendP, withRun, rm1, rm2, St.find, cat, grownS, St.setRun, stepS]
  split <;> omega
theorem rm_full (t : List UInt8) (k : Nat) : appendP (rm2 t k) ((k + 1 : Nat) : Int) (cat [[120]]) = (rm2 t k, 7) := by
  simp [appendP, withRun, rm2, St.find, cat, stepS]
theorem rm_seal (t : List UInt8) (k : Nat) : sealP (rm2 t k) ((k + 1 : Nat) : Int) = (rm3 t k, 0) := by
  simp [sealP, withRun, rm2, rm3, St.find, St.setRun, stepS]
theorem rm_remove (t : List UInt8) (k : Nat) : removeP (rm3 t k) ((k + 1 : Nat) : Int) = (rm0 t.length (k + 1), 0) := by
  simp [removeP, rm3, rm0, St.find, St.delRun]
theorem rm_new (L : Nat) (h : L ≤ 67108864) : newSt (L : Int) = rm0 L 0 := by
  simp [newSt, rm0]; omega
end Go.Proofs.YtomlkhfmblkpcaaDoor

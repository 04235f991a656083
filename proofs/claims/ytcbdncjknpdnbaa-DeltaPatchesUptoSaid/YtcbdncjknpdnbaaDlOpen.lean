/- delta: an argument '[]Change', opened. -/
import Derived.Test.YtcbdncjknpdnbaaStructRows
import Derived.Test.YtcbdncjknpdnbaaDlDiff
namespace Go.Proofs.Ytcbdncjknpdnbaa
open Go.ChangeShapes Go.WideShapes Go.ChangeAt Go.RowKit

/-- How much the changes hold. -/
def bulkC (D : List Chg) : Nat := (D.map fun c => c.1.length + 2).sum
theorem bulkC_len (D : List Chg) : D.length ≤ bulkC D := by
  induction D with
  | nil => simp [bulkC]
  | cons c D ih => simp only [bulkC, List.map_cons, List.sum_cons, List.length_cons] at ih ⊢; omega
theorem bulkC_mem {D : List Chg} {c : Chg} (h : c ∈ D) : c.1.length ≤ bulkC D := by
  induction D with
  | nil => cases h
  | cons d D ih =>
    simp only [bulkC, List.map_cons, List.sum_cons] at ih ⊢
    rcases List.mem_cons.1 h with rfl | h
    · omega
    · have := ih h; omega
section
variable {H : Type} {enc : TypeId × Value → H}
set_option maxRecDepth 100000 in
theorem chg_of {W : World} (fuel : Nat) (cs : List Value) (y : DataW H × List MemPlace) (hl : cs.length = 2) (h : DataW.trod enc Try.prog W 0 (fun _ => true) true fuel 41 cs = some y) :
    ∃ c : Chg, cs = chc c ∧ True ∧ c.1.length + 2 ≤ Rows.uptoBulk y.1 := by
  obtain ⟨xs, n, rfl, rfl, _, hxl, hf⟩ := DataW.trod_struct Try.underlying41 h
  match xs, hxl, cs, hl with
  | [y0, y1], _, [v0, v1], _ =>
    have c0 : Try.prog.cellsOf 9 = 1 := by kernel_rfl
    have c1 : Try.prog.cellsOf 4 = 1 := by kernel_rfl
    have g0 := hf 0 _ rfl
    have g1 := hf 1 _ rfl
    simp [c0, c1] at g0 g1
    obtain ⟨s, e0, z0, w0⟩ := DataW.trod_string Try.underlying9 g0
    obtain ⟨k1, e1, z1⟩ := DataW.trod_bool Try.underlying4 g1
    simp only [List.cons.injEq, and_true] at e0 e1
    subst e0 e1
    refine ⟨(s.data.toList, k1), by simp [chc], trivial, ?_⟩
    have h0 := congrArg Prod.fst z0
    dsimp only at h0
    have := bulk_string (H := H) s
    simp [Rows.uptoBulk, Rows.uptoBulkAll, h0] at this ⊢
set_option maxRecDepth 100000 in
/-- An argument '[]Change', opened. -/
theorem open_chgs {W : World} {r : Reach} {b0 : Nat} {v : Value} {d : DataW H} {ps : List MemPlace}
    (hval : Value.okWide Try.prog W r b0 25 v) (hd : DataW.Trod enc Try.prog W 0 (fun _ => true) true 25 v d ps) :
    ∃ D : List Chg, RdRow W v D.length 2 (D.flatMap chc) ∧ bulkC D + 1 ≤ Rows.uptoBulk d := by
  obtain ⟨a0, len, cap, rfl⟩ := okWide_slice Try.underlying25 hval
  obtain ⟨fuel, hf⟩ := hd
  obtain ⟨xs, h1, _, h3⟩ := open_rowsG (c := chc) (Q := fun _ => True) (B := fun c => c.1.length + 2) chc_len (by decide) Try.underlying25 (by kernel_rfl) chg_of (by simpa [Value.cells] using hf)
  exact ⟨xs, h1, by unfold bulkC; omega⟩
end
end Go.Proofs.Ytcbdncjknpdnbaa

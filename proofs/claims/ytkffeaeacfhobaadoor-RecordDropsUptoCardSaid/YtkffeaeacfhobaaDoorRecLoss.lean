/- records: an argument Loss, opened. -/
import Derived.Test.YtkffeaeacfhobaaDoorStructRows
import Derived.Test.YtkffeaeacfhobaaDoorRunsThing
namespace Go.Proofs.YtkffeaeacfhobaaDoor
open Go.ChangeShapes Go.WideShapes Go.ChangeAt Go.RowKit

section
variable {H : Type} {enc : TypeId × Value → H}
theorem inI64_lit {n : Int} (w : (Lit.int .i64 n).wf = true) : inI64 n := by
  have := w
  simp [Lit.wf, IntKind.min, IntKind.max, IntKind.signed, IntKind.bits] at this
  unfold inI64
  omega
set_option maxRecDepth 100000 in
theorem open_loss {W : World} {r : Reach} {b0 : Nat} {v : Value} {d : DataW H} {ps : List MemPlace}
    (hval : Value.okWide Tryd.prog W r b0 46 v) (hd : DataW.Trod enc Tryd.prog W 0 (fun _ => true) true 46 v d ps) :
    ∃ (ss : List (List UInt8)) (rv : Value) (bl n c : Int), v = .agg #[rv, .int .i64 bl, .int .i64 n, .int .i64 c] ∧ RdRow W rv ss.length 1 (strs ss) ∧ inI64 bl ∧ inI64 n ∧ inI64 c ∧ ss.length + sumLen ss + 1 ≤ Rows.uptoBulk d := by
  obtain ⟨cs, rfl, hsz⟩ := okWide_struct Tryd.underlying46 hval
  obtain ⟨fuel, hf⟩ := hd
  have h : DataW.trod enc Tryd.prog W 0 (fun _ => true) true fuel 46 cs.toList = some (d, ps) := by simpa [Value.cells] using hf
  have hl : cs.toList.length = 4 := by rw [Array.length_toList, hsz]; kernel_rfl
  obtain ⟨xs, n, rfl, hy, _, hxl, hff⟩ := DataW.trod_struct Tryd.underlying46 h
  obtain ⟨cl, hcl⟩ : ∃ cl, cl = cs.toList := ⟨_, rfl⟩
  have hcs : cs = cl.toArray := by rw [hcl]
  rw [← hcl] at hff hl
  match xs, hxl, cl, hl with
  | [y0, y1, y2, y3], _, [v0, v1, v2, v3], _ =>
    have ci : Tryd.prog.cellsOf 3 = 1 := by kernel_rfl
    have cst : Tryd.prog.cellsOf 22 = 1 := by kernel_rfl
    have g0 := hff 0 _ rfl
    have g1 := hff 1 _ rfl
    have g2 := hff 2 _ rfl
    have g3 := hff 3 _ rfl
    simp [ci, cst] at g0 g1 g2 g3
    obtain ⟨ss, r0, b0⟩ := strs_of Tryd.underlying22 Tryd.underlying9 (by kernel_rfl) (d := y0.1) (ps := y0.2) g0
    obtain ⟨k1, e1, z1, w1⟩ := DataW.trod_int Tryd.underlying3 g1
    obtain ⟨k2, e2, z2, w2⟩ := DataW.trod_int Tryd.underlying3 g2
    obtain ⟨k3, e3, z3, w3⟩ := DataW.trod_int Tryd.underlying3 g3
    simp only [List.cons.injEq, and_true] at e1 e2 e3
    subst e1 e2 e3
    refine ⟨ss, v0, k1, k2, k3, by rw [hcs], r0, inI64_lit w1, inI64_lit w2, inI64_lit w3, ?_⟩
    simp only [Prod.mk.injEq] at hy
    rw [hy.1]
    simp [Rows.uptoBulk, Rows.uptoBulkAll]
    omega
end
end Go.Proofs.YtkffeaeacfhobaaDoor

/- runs: an argument '[]Op', opened. -/
import Derived.Test.YtomlkhfmblkpcaaDoorStructRows
import Derived.Test.YtomlkhfmblkpcaaDoorRunsOp
namespace Go.Proofs.YtomlkhfmblkpcaaDoor
open Go.ChangeShapes Go.WideShapes Go.ChangeAt Go.RowKit

abbrev cellsOp (o : OpD) : List Value := [.int .i64 o.k, .int .i64 o.run, .int .i64 o.pos, .int .i64 o.n, o.v]
theorem cellsOp_len : ∀ o, (cellsOp o).length = 5 := fun _ => rfl
/-- A script, that is read. -/
structure OpsRow (W : World) (v : Value) (ops : List OpD) : Prop where
  row : RdRow W v ops.length 5 (ops.flatMap cellsOp)
  each : ∀ o ∈ ops, OpOk W o
theorem OpOk.below {w w' : World} {o : OpD} (h : OpOk w o) (hb : Below w.heap.size w w') : OpOk w' o := ⟨h.k, h.run, h.pos, h.n, h.row.below hb, h.len⟩
theorem OpsRow.below {w w' : World} {v : Value} {ops : List OpD} (h : OpsRow w v ops) (hb : Below w.heap.size w w') : OpsRow w' v ops := ⟨h.row.below hb, fun o ho => (h.each o ho).below hb⟩
set_option maxRecDepth 100000 in
/-- The i-th call of a script. -/
theorem OpsRow.op {w : World} {v : Value} {ops : List OpD} (h : OpsRow w v ops) {i : Nat} (hi : i < ops.length) :
    ∃ b off cap, v = .slice (some ⟨b, off, none⟩) ops.length cap ∧ (w.cell? ⟨b, off + i * 5, none⟩ = some (.int .i64 (ops.getD i default).k) ∧ w.cell? ⟨b, off + i * 5 + 1, none⟩ = some (.int .i64 (ops.getD i default).run) ∧
      w.cell? ⟨b, off + i * 5 + 2, none⟩ = some (.int .i64 (ops.getD i default).pos) ∧ w.cell? ⟨b, off + i * 5 + 3, none⟩ = some (.int .i64 (ops.getD i default).n) ∧ w.cell? ⟨b, off + i * 5 + 4, none⟩ = some (ops.getD i default).v) ∧
      OpOk w (ops.getD i default) := by
  obtain ⟨b, off, cap, rfl, h0⟩ := h.row.at cellsOp_len hi (by decide)
  refine ⟨b, off, cap, rfl, ⟨h0 0 (by decide), h0 1 (by decide), h0 2 (by decide), h0 3 (by decide), h0 4 (by decide)⟩, h.each _ ?_⟩
  rw [List.getD_eq_getElem?_getD, List.getElem?_eq_getElem hi]
  exact List.getElem_mem hi

section
variable {H : Type} {enc : TypeId × Value → H}
theorem inI64_of {n : Int} (w : (Lit.int .i64 n).wf = true) : inI64 n := by
  have := w
  simp [Lit.wf, IntKind.min, IntKind.max, IntKind.signed, IntKind.bits] at this
  unfold inI64
  omega
set_option maxRecDepth 100000 in
theorem op_of {W : World} (fuel : Nat) (cs : List Value) (y : DataW H × List MemPlace) (hl : cs.length = 5) (h : DataW.trod enc Tryd.prog W 0 (fun _ => true) true fuel 41 cs = some y) :
    ∃ o : OpD, cs = cellsOp o ∧ (inI64 o.k ∧ inI64 o.run ∧ inI64 o.pos ∧ inI64 o.n ∧ RdRow W o.v o.parts.length 1 (strs o.parts)) ∧ 1 + (o.parts.length + sumLen o.parts) ≤ Rows.uptoBulk y.1 := by
  obtain ⟨xs, n, rfl, rfl, _, hxl, hf⟩ := DataW.trod_struct Tryd.underlying41 h
  match xs, hxl, cs, hl with
  | [y0, y1, y2, y3, y4], _, [v0, v1, v2, v3, v4], _ =>
    have ci : Tryd.prog.cellsOf 3 = 1 := by kernel_rfl
    have cs : Tryd.prog.cellsOf 39 = 1 := by kernel_rfl
    have g0 := hf 0 _ rfl
    have g1 := hf 1 _ rfl
    have g2 := hf 2 _ rfl
    have g3 := hf 3 _ rfl
    have g4 := hf 4 _ rfl
    simp [ci, cs] at g0 g1 g2 g3 g4
    obtain ⟨k0, e0, z0, w0⟩ := DataW.trod_int Tryd.underlying3 g0
    obtain ⟨k1, e1, z1, w1⟩ := DataW.trod_int Tryd.underlying3 g1
    obtain ⟨k2, e2, z2, w2⟩ := DataW.trod_int Tryd.underlying3 g2
    obtain ⟨k3, e3, z3, w3⟩ := DataW.trod_int Tryd.underlying3 g3
    obtain ⟨ss, r4, b4⟩ := strs_of Tryd.underlying39 Tryd.underlying9 (by kernel_rfl) (d := y4.1) (ps := y4.2) g4
    simp only [List.cons.injEq, and_true] at e0 e1 e2 e3
    subst e0 e1 e2 e3
    refine ⟨⟨k0, k1, k2, k3, v4, ss⟩, rfl, ⟨inI64_of w0, inI64_of w1, inI64_of w2, inI64_of w3, r4⟩, ?_⟩
    simp [Rows.uptoBulk, Rows.uptoBulkAll, z0, z1, z2, z3]
    omega

set_option maxRecDepth 100000 in
/-- An argument '[]Op', opened. -/
theorem open_ops {W : World} {r : Reach} {b0 : Nat} {v : Value} {d : DataW H} {ps : List MemPlace}
    (hval : Value.okWide Tryd.prog W r b0 36 v) (hd : DataW.Trod enc Tryd.prog W 0 (fun _ => true) true 36 v d ps) (hk : Rows.uptoBulk d ≤ 1048576) :
    ∃ ops : List OpD, OpsRow W v ops ∧ ops.length ≤ 1048576 := by
  obtain ⟨a0, len, cap, rfl⟩ := okWide_slice Tryd.underlying36 hval
  obtain ⟨fuel, hf⟩ := hd
  obtain ⟨ops, h1, h2, h3⟩ := open_rowsG (c := cellsOp) (Q := fun o => inI64 o.k ∧ inI64 o.run ∧ inI64 o.pos ∧ inI64 o.n ∧ RdRow W o.v o.parts.length 1 (strs o.parts)) (B := fun o => 1 + (o.parts.length + sumLen o.parts)) cellsOp_len (by decide) Tryd.underlying36 (by kernel_rfl) op_of (by simpa [Value.cells] using hf)
  have hs : ∀ l : List OpD, l.length ≤ (l.map fun o => 1 + (o.parts.length + sumLen o.parts)).sum ∧ ∀ o ∈ l, o.parts.length + sumLen o.parts ≤ (l.map fun o => 1 + (o.parts.length + sumLen o.parts)).sum := fun l => by
    induction l with
    | nil => simp
    | cons a l ih =>
      simp only [List.length_cons, List.map_cons, List.sum_cons, List.mem_cons]
      refine ⟨by omega, fun o ho => ?_⟩
      rcases ho with rfl | ho
      · omega
      · have := ih.2 o ho; omega
  refine ⟨ops, ⟨h1, fun o ho => ?_⟩, by have := (hs ops).1; omega⟩
  obtain ⟨i0, i1, i2, i3, i4⟩ := h2 o ho
  refine ⟨i0, i1, i2, i3, i4, ?_⟩
  have h4 := (hs ops).2 o ho
  have h5 : (cat o.parts).length = sumLen o.parts := by simp [cat, sumLen, List.length_flatten]
  omega
end
end Go.Proofs.YtomlkhfmblkpcaaDoor

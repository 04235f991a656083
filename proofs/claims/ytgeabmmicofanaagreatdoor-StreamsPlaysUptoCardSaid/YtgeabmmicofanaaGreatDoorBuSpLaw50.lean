/- streams: an argument '[]Node', opened. -/
import Derived.Test.YtgeabmmicofanaaGreatDoorBuSpLaw43
import Derived.Test.YtgeabmmicofanaaGreatDoorBuSpLaw14
import Derived.Test.YtgeabmmicofanaaGreatDoorBuSpLaw16
set_option linter.unusedSimpArgs false
set_option linter.unusedVariables false
namespace Go.Proofs.YtgeabmmicofanaaGreatDoor
open Go.ChangeShapes Go.WideShapes Go.ChangeAt Go.RowKit

structure Op9 where
  k : Int
  at_ : Int
  n : Int
  v : Value
  recs : List (List UInt8)
instance : Inhabited Op9 := ⟨⟨0, 0, 0, .slice none 0 0, []⟩⟩
structure OpOk (W : World) (o : Op9) : Prop where
  k : inI64 o.k
  run : inI64 o.at_
  n : inI64 o.n
  row : RdRow W o.v o.recs.length 1 (strs o.recs)
  len : o.recs.length + sumLen o.recs ≤ 1048576
abbrev cellsO9 (o : Op9) : List Value := [.int .i64 o.k, .int .i64 o.at_, .int .i64 o.n, o.v]
theorem cellsO9_len : ∀ o, (cellsO9 o).length = 4 := fun _ => rfl
/-- A script, that is read. -/
structure OpsRow (W : World) (v : Value) (ops : List Op9) : Prop where
  row : RdRow W v ops.length 4 (ops.flatMap cellsO9)
  each : ∀ o ∈ ops, OpOk W o
theorem OpOk.below {w w' : World} {o : Op9} (h : OpOk w o) (hb : Below w.heap.size w w') : OpOk w' o := ⟨h.k, h.run, h.n, h.row.below hb, h.len⟩
theorem OpsRow.below {w w' : World} {v : Value} {ops : List Op9} (h : OpsRow w v ops) (hb : Below w.heap.size w w') : OpsRow w' v ops := ⟨h.row.below hb, fun o ho => (h.each o ho).below hb⟩
set_option maxRecDepth 100000 in
/-- The i-th call of a script. -/
theorem OpsRow.op {w : World} {v : Value} {ops : List Op9} (h : OpsRow w v ops) {i : Nat} (hi : i < ops.length) :
    ∃ b off cap, v = .slice (some ⟨b, off, none⟩) ops.length cap ∧ (w.cell? ⟨b, off + i * 4, none⟩ = some (.int .i64 (ops.getD i default).k) ∧ w.cell? ⟨b, off + i * 4 + 1, none⟩ = some (.int .i64 (ops.getD i default).at_) ∧
      w.cell? ⟨b, off + i * 4 + 2, none⟩ = some (.int .i64 (ops.getD i default).n) ∧ w.cell? ⟨b, off + i * 4 + 3, none⟩ = some (ops.getD i default).v) ∧
      OpOk w (ops.getD i default) := by
  obtain ⟨b, off, cap, rfl, h0⟩ := h.row.at cellsO9_len hi (by decide)
  refine ⟨b, off, cap, rfl, ⟨h0 0 (by decide), h0 1 (by decide), h0 2 (by decide), h0 3 (by decide)⟩, h.each _ ?_⟩
  rw [List.getD_eq_getElem?_getD, List.getElem?_eq_getElem hi]
  exact List.getElem_mem hi

section
variable {H : Type} {enc : TypeId × Value → H}
theorem inI64_of {n : Int} (w : (Lit.int .i64 n).wf = true) : inI64 n := by
  have := w
  simp [Lit.wf, IntKind.min, IntKind.max, IntKind.signed, IntKind.bits] at this
  unfold inI64
  omega
set_option maxRecDepth 100000 in
theorem op_of {W : World} (fuel : Nat) (cs : List Value) (y : DataW H × List MemPlace) (hl : cs.length = 4) (h : DataW.trod enc Tryz.prog W 0 (fun _ => true) true fuel 34 cs = some y) :
    ∃ o : Op9, cs = cellsO9 o ∧ (inI64 o.k ∧ inI64 o.at_ ∧ inI64 o.n ∧ RdRow W o.v o.recs.length 1 (strs o.recs)) ∧ 1 + (o.recs.length + sumLen o.recs) ≤ Rows.uptoBulk y.1 := by
  obtain ⟨xs, n, rfl, rfl, _, hxl, hf⟩ := DataW.trod_struct Tryz.underlying34 h
  match xs, hxl, cs, hl with
  | [y0, y1, y2, y3], _, [v0, v1, v2, v3], _ =>
    have ci : Tryz.prog.cellsOf 3 = 1 := by kernel_rfl
    have cs : Tryz.prog.cellsOf 32 = 1 := by kernel_rfl
    have g0 := hf 0 _ rfl
    have g1 := hf 1 _ rfl
    have g2 := hf 2 _ rfl
    have g3 := hf 3 _ rfl
    simp [ci, cs] at g0 g1 g2 g3
    obtain ⟨k0, e0, z0, w0⟩ := DataW.trod_int Tryz.underlying3 g0
    obtain ⟨k1, e1, z1, w1⟩ := DataW.trod_int Tryz.underlying3 g1
    obtain ⟨k2, e2, z2, w2⟩ := DataW.trod_int Tryz.underlying3 g2
    obtain ⟨ss, r4, b4⟩ := strs_of Tryz.underlying32 Tryz.underlying9 (by kernel_rfl) (d := y3.1) (ps := y3.2) g3
    simp only [List.cons.injEq, and_true] at e0 e1 e2
    subst e0 e1 e2
    refine ⟨⟨k0, k1, k2, v3, ss⟩, rfl, ⟨inI64_of w0, inI64_of w1, inI64_of w2, r4⟩, ?_⟩
    simp [Rows.uptoBulk, Rows.uptoBulkAll, z0, z1, z2]
    omega

set_option maxRecDepth 100000 in
/-- An argument '[]Node', opened. -/
theorem open_ops {W : World} {r : Reach} {b0 : Nat} {v : Value} {d : DataW H} {ps : List MemPlace}
    (hval : Value.okWide Tryz.prog W r b0 22 v) (hd : DataW.Trod enc Tryz.prog W 0 (fun _ => true) true 22 v d ps) (hk : Rows.uptoBulk d ≤ 1048576) :
    ∃ ops : List Op9, OpsRow W v ops ∧ ops.length ≤ 1048576 := by
  obtain ⟨a0, len, cap, rfl⟩ := okWide_slice Tryz.underlying22 hval
  obtain ⟨fuel, hf⟩ := hd
  obtain ⟨ops, h1, h2, h3⟩ := open_rowsG (c := cellsO9) (Q := fun o => inI64 o.k ∧ inI64 o.at_ ∧ inI64 o.n ∧ RdRow W o.v o.recs.length 1 (strs o.recs)) (B := fun o => 1 + (o.recs.length + sumLen o.recs)) cellsO9_len (by decide) Tryz.underlying22 (by kernel_rfl) op_of (by simpa [Value.cells] using hf)
  have hs : ∀ l : List Op9, l.length ≤ (l.map fun o => 1 + (o.recs.length + sumLen o.recs)).sum ∧ ∀ o ∈ l, o.recs.length + sumLen o.recs ≤ (l.map fun o => 1 + (o.recs.length + sumLen o.recs)).sum := fun l => by
    induction l with
    | nil => simp
    | cons a l ih =>
      simp only [List.length_cons, List.map_cons, List.sum_cons, List.mem_cons]
      refine ⟨by omega, fun o ho => ?_⟩
      rcases ho with rfl | ho
      · omega
      · have := ih.2 o ho; omega
  refine ⟨ops, ⟨h1, fun o ho => ?_⟩, by have := (hs ops).1; omega⟩
  obtain ⟨i0, i1, i2, i3⟩ := h2 o ho
  refine ⟨i0, i1, i2, i3, ?_⟩
  have h4 := (hs ops).2 o ho
  omega
end
end Go.Proofs.YtgeabmmicofanaaGreatDoor

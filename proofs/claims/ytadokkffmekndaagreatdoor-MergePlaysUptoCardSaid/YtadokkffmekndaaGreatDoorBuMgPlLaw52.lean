/- merge: arguments Two and Loss, opened. · merge: an argument '[]Op', opened. -/
import Derived.Test.YtadokkffmekndaaGreatDoorBuMgPlLaw18
import Derived.Test.YtadokkffmekndaaGreatDoorBuMgPlLaw17
import Derived.ChangeSlices
set_option linter.unusedSimpArgs false
set_option linter.unusedVariables false
namespace Go.Proofs.YtadokkffmekndaaGreatDoor
open Go.ChangeShapes Go.WideShapes Go.ChangeAt Go.RowKit
section
variable {H : Type} {enc : TypeId × Value → H} {P : Program}
theorem litM_64 {n : Int} (w : (Lit.int .i64 n).wf = true) : inI64 n := by
  have := w
  simp [Lit.wf, IntKind.min, IntKind.max, IntKind.signed, IntKind.bits] at this
  unfold inI64
  omega
theorem bulkM_lits (k : IntKind) (l : List Int) : Rows.uptoBulkAll (H := H) (Go.ChangeShapes.lits k l) = l.length := by
  induction l with
  | nil => rfl
  | cons s l ih =>
    have e : Rows.uptoBulkAll (H := H) (Go.ChangeShapes.lits k (s :: l)) = 1 + Rows.uptoBulkAll (H := H) (Go.ChangeShapes.lits k l) := by
      simp [Go.ChangeShapes.lits, Rows.uptoBulkAll, Rows.uptoBulk]
    rw [e, ih, List.length_cons]; omega
theorem ints_ofM {t e : TypeId} (ht : P.underlying t = some (.slice e)) (he : P.underlying e = some (.int .i64)) (hc : P.cellsOf e = 1) {W : World} {fuel : Nat} {v : Value} {d : DataW H} {ps : List MemPlace}
    (hf : DataW.trod enc P W 0 (fun _ => true) true fuel t [v] = some (d, ps)) :
    ∃ ks : List Int, RdRow W v ks.length 1 (intsV ks) ∧ (∀ z ∈ ks, inI64 z) ∧ ks.length + 1 ≤ Rows.uptoBulk d := by
  rcases open_ints ht he hc hf with ⟨hcs, hx⟩ | ⟨a, len, cap, ss, hcs, _, hl, hm, hz, hx, hcell, hws⟩
  · simp only [List.cons.injEq, and_true] at hcs
    subst hcs
    simp only [Prod.mk.injEq] at hx
    obtain ⟨rfl, rfl⟩ := hx
    exact ⟨[], ⟨rfl, none, 0, rfl, Nat.le_refl _, by simp [maxLen], fun j u hu => by simp at hu⟩, by simp, by simp [Rows.uptoBulk]⟩
  · simp only [List.cons.injEq, and_true] at hcs
    subst hcs
    simp only [Prod.mk.injEq] at hx
    obtain ⟨rfl, rfl⟩ := hx
    simp only [if_true] at hz
    refine ⟨ss.take len, ⟨by simp, some a, cap, by simp [hz]; omega, by simp [hz]; omega, hm, ?_⟩, fun z hz => litM_64 (hws z (List.mem_of_mem_take hz)), ?_⟩
    · intro j u hu
      simp only [List.getElem?_map, Option.map_eq_some_iff] at hu
      obtain ⟨s, hs, rfl⟩ := hu
      have hj : j < len := by
        have := (List.getElem?_eq_some_iff.1 hs).1
        simp at this
        omega
      have hs' : ss[j]? = some s := by rwa [List.getElem?_take_of_lt hj] at hs
      have hc := hcell j (by omega)
      obtain ⟨b, off, spot⟩ := a
      have hspot : spot = none := by simpa [Addr.add] using World.cell?_spot (hcell 0 (by omega))
      subst hspot
      refine ⟨b, off, rfl, ?_⟩
      rw [show (⟨b, off, none⟩ : Addr).add j = ⟨b, off + j, none⟩ from by unfold Addr.add; split <;> simp_all] at hc
      rw [hc]
      simp [List.getD, hs']
    · have h1 := bulkM_lits (H := H) .i64 (ss.take len)
      simp only [Rows.uptoBulk]
      rw [h1]
      simp <;> omega
end
section
variable {H : Type} {enc : TypeId × Value → H}
end
end Go.Proofs.YtadokkffmekndaaGreatDoor
namespace Go.Proofs.YtadokkffmekndaaGreatDoor
open Go.ChangeShapes Go.WideShapes Go.ChangeAt Go.RowKit
structure Op10 where
  k : Int
  n : Int
  m : Int
  l : Value
  v : Value
  zs : List Int
  recs : List (List UInt8)
instance : Inhabited Op10 := ⟨⟨0, 0, 0, .slice none 0 0, .slice none 0 0, [], []⟩⟩
structure OpOkM (W : World) (o : Op10) : Prop where
  k : inI64 o.k
  n : inI64 o.n
  m : inI64 o.m
  ints : RdRow W o.l o.zs.length 1 (intsV o.zs)
  each : ∀ z ∈ o.zs, inI64 z
  row : RdRow W o.v o.recs.length 1 (strs o.recs)
  len : o.recs.length + sumLen o.recs + o.zs.length + 1 ≤ 1048576
abbrev cellsM (o : Op10) : List Value := [.int .i64 o.k, .int .i64 o.n, .int .i64 o.m, o.l, o.v]
theorem cellsM_len : ∀ o, (cellsM o).length = 5 := fun _ => rfl
structure OpsRowM (W : World) (v : Value) (ops : List Op10) : Prop where
  row : RdRow W v ops.length 5 (ops.flatMap cellsM)
  each : ∀ o ∈ ops, OpOkM W o
theorem OpOkM.below {w w' : World} {o : Op10} (h : OpOkM w o) (hb : Below w.heap.size w w') : OpOkM w' o := ⟨h.k, h.n, h.m, h.ints.below hb, h.each, h.row.below hb, h.len⟩
theorem OpsRowM.below {w w' : World} {v : Value} {ops : List Op10} (h : OpsRowM w v ops) (hb : Below w.heap.size w w') : OpsRowM w' v ops := ⟨h.row.below hb, fun o ho => (h.each o ho).below hb⟩
set_option maxRecDepth 100000 in
theorem OpsRowM.op {w : World} {v : Value} {ops : List Op10} (h : OpsRowM w v ops) {i : Nat} (hi : i < ops.length) :
    ∃ b off cap, v = .slice (some ⟨b, off, none⟩) ops.length cap ∧ (w.cell? ⟨b, off + i * 5, none⟩ = some (.int .i64 (ops.getD i default).k) ∧ w.cell? ⟨b, off + i * 5 + 1, none⟩ = some (.int .i64 (ops.getD i default).n) ∧
      w.cell? ⟨b, off + i * 5 + 2, none⟩ = some (.int .i64 (ops.getD i default).m) ∧ w.cell? ⟨b, off + i * 5 + 3, none⟩ = some (ops.getD i default).l ∧ w.cell? ⟨b, off + i * 5 + 4, none⟩ = some (ops.getD i default).v) ∧
      OpOkM w (ops.getD i default) := by
  obtain ⟨b, off, cap, rfl, h0⟩ := h.row.at cellsM_len hi (by decide)
  refine ⟨b, off, cap, rfl, ⟨h0 0 (by decide), h0 1 (by decide), h0 2 (by decide), h0 3 (by decide), h0 4 (by decide)⟩, h.each _ ?_⟩
  rw [List.getD_eq_getElem?_getD, List.getElem?_eq_getElem hi]
  exact List.getElem_mem hi
section
variable {H : Type} {enc : TypeId × Value → H}
set_option maxRecDepth 100000 in
theorem op_ofM {W : World} (fuel : Nat) (cs : List Value) (y : DataW H × List MemPlace) (hl : cs.length = 5) (h : DataW.trod enc Tryz.prog W 0 (fun _ => true) true fuel 51 cs = some y) :
    ∃ o : Op10, cs = cellsM o ∧ (inI64 o.k ∧ inI64 o.n ∧ inI64 o.m ∧ RdRow W o.l o.zs.length 1 (intsV o.zs) ∧ (∀ z ∈ o.zs, inI64 z) ∧ RdRow W o.v o.recs.length 1 (strs o.recs)) ∧ 1 + (o.recs.length + sumLen o.recs + o.zs.length) ≤ Rows.uptoBulk y.1 := by
  obtain ⟨xs, n, rfl, rfl, _, hxl, hf⟩ := DataW.trod_struct Tryz.underlying51 h
  match xs, hxl, cs, hl with
  | [y0, y1, y2, y3, y4], _, [v0, v1, v2, v3, v4], _ =>
    have ci : Tryz.prog.cellsOf 3 = 1 := by kernel_rfl
    have cs : Tryz.prog.cellsOf 22 = 1 := by kernel_rfl
    have cin : Tryz.prog.cellsOf 23 = 1 := by kernel_rfl
    have g0 := hf 0 _ rfl
    have g1 := hf 1 _ rfl
    have g2 := hf 2 _ rfl
    have g3 := hf 3 _ rfl
    have g4 := hf 4 _ rfl
    simp [ci, cs, cin] at g0 g1 g2 g3 g4
    obtain ⟨k0, e0, z0, w0⟩ := DataW.trod_int Tryz.underlying3 g0
    obtain ⟨k1, e1, z1, w1⟩ := DataW.trod_int Tryz.underlying3 g1
    obtain ⟨k2, e2, z2, w2⟩ := DataW.trod_int Tryz.underlying3 g2
    obtain ⟨ks, r3, s3, b3⟩ := ints_ofM Tryz.underlying23 Tryz.underlying3 (by kernel_rfl) (d := y3.1) (ps := y3.2) g3
    obtain ⟨ss, r4, b4⟩ := strs_of Tryz.underlying22 Tryz.underlying9 (by kernel_rfl) (d := y4.1) (ps := y4.2) g4
    simp only [List.cons.injEq, and_true] at e0 e1 e2
    subst e0 e1 e2
    refine ⟨⟨k0, k1, k2, v3, v4, ks, ss⟩, rfl, ⟨litM_64 w0, litM_64 w1, litM_64 w2, r3, s3, r4⟩, ?_⟩
    simp [Rows.uptoBulk, Rows.uptoBulkAll, z0, z1, z2]
    omega
set_option maxRecDepth 100000 in
theorem open_ops {W : World} {r : Reach} {b0 : Nat} {v : Value} {d : DataW H} {ps : List MemPlace}
    (hval : Value.okWide Tryz.prog W r b0 59 v) (hd : DataW.Trod enc Tryz.prog W 0 (fun _ => true) true 59 v d ps) (hk : Rows.uptoBulk d ≤ 1048576) :
    ∃ ops : List Op10, OpsRowM W v ops ∧ ops.length ≤ 1048576 := by
  obtain ⟨a0, len, cap, rfl⟩ := okWide_slice Tryz.underlying59 hval
  obtain ⟨fuel, hf⟩ := hd
  obtain ⟨ops, h1, h2, h3⟩ := open_rowsG (c := cellsM) (Q := fun o => inI64 o.k ∧ inI64 o.n ∧ inI64 o.m ∧ RdRow W o.l o.zs.length 1 (intsV o.zs) ∧ (∀ z ∈ o.zs, inI64 z) ∧ RdRow W o.v o.recs.length 1 (strs o.recs)) (B := fun o => 1 + (o.recs.length + sumLen o.recs + o.zs.length)) cellsM_len (by decide) Tryz.underlying59 (by kernel_rfl) op_ofM (by simpa [Value.cells] using hf)
  have hs : ∀ l : List Op10, l.length ≤ (l.map fun o => 1 + (o.recs.length + sumLen o.recs + o.zs.length)).sum ∧ ∀ o ∈ l, 1 + (o.recs.length + sumLen o.recs + o.zs.length) ≤ (l.map fun o => 1 + (o.recs.length + sumLen o.recs + o.zs.length)).sum := fun l => by
    induction l with
    | nil => simp
    | cons a l ih =>
      simp only [List.length_cons, List.map_cons, List.sum_cons, List.mem_cons]
      refine ⟨by omega, fun o ho => ?_⟩
      rcases ho with rfl | ho
      · omega
      · have := ih.2 o ho; omega
  refine ⟨ops, ⟨h1, fun o ho => ?_⟩, by have := (hs ops).1; omega⟩
  obtain ⟨i0, i1, i2, i3, i4, i5⟩ := h2 o ho
  refine ⟨i0, i1, i2, i3, i4, i5, ?_⟩
  have h4 := (hs ops).2 o ho
  omega
end
end Go.Proofs.YtadokkffmekndaaGreatDoor

/- merge: arguments Two and Loss, opened. · merge: an argument Loss, opened. -/
import Derived.Test.YtadokkffmekndaaGreatDoorBuMgLoLaw18
import Derived.Test.YtadokkffmekndaaGreatDoorBuMgLoLaw17
import Derived.ChangeSlices
set_option linter.unusedSimpArgs false
set_option linter.unusedVariables false
namespace Go.Proofs.YtadokkffmekndaaGreatDoor
open Go.ChangeShapes Go.WideShapes Go.ChangeAt Go.RowKit
section
variable {H : Type} {enc : TypeId × Value → H} {P : Program}
theorem litM_64 {n : Int} (w : (Lit.int .i64 n).wf = true) : inI64 n := by
  have := w
  simp [Lit.wf, IntKind.min, IntKind.max, IntKind.signed, IntKind.bits] at this
  unfold inI64
  omega
end
section
variable {H : Type} {enc : TypeId × Value → H}
end
end Go.Proofs.YtadokkffmekndaaGreatDoor
namespace Go.Proofs.YtadokkffmekndaaGreatDoor
open Go.ChangeShapes Go.WideShapes Go.ChangeAt Go.RowKit
section
variable {H : Type} {enc : TypeId × Value → H}
set_option maxRecDepth 100000 in
theorem open_lossM {W : World} {r : Reach} {b0 : Nat} {v : Value} {d : DataW H} {ps : List MemPlace}
    (hval : Value.okWide Tryz.prog W r b0 47 v) (hd : DataW.Trod enc Tryz.prog W 0 (fun _ => true) true 47 v d ps) :
    ∃ (ss : List (List UInt8)) (rv : Value) (B f n c : Int), v = .agg #[rv, .int .i64 B, .int .i64 f, .int .i64 n, .int .i64 c] ∧ RdRow W rv ss.length 1 (strs ss) ∧ inI64 B ∧ inI64 f ∧ inI64 n ∧ inI64 c ∧ ss.length + sumLen ss + 1 ≤ Rows.uptoBulk d := by
  obtain ⟨cs, rfl, hsz⟩ := okWide_struct Tryz.underlying47 hval
  obtain ⟨fuel, hf⟩ := hd
  have h : DataW.trod enc Tryz.prog W 0 (fun _ => true) true fuel 47 cs.toList = some (d, ps) := by simpa [Value.cells] using hf
  have hl : cs.toList.length = 5 := by rw [Array.length_toList, hsz]; kernel_rfl
  obtain ⟨xs, n, rfl, hy, _, hxl, hff⟩ := DataW.trod_struct Tryz.underlying47 h
  obtain ⟨cl, hcl⟩ : ∃ cl, cl = cs.toList := ⟨_, rfl⟩
  have hcs : cs = cl.toArray := by rw [hcl]
  rw [← hcl] at hff hl
  match xs, hxl, cl, hl with
  | [y0, y1, y2, y3, y4], _, [v0, v1, v2, v3, v4], _ =>
    have ci : Tryz.prog.cellsOf 3 = 1 := by kernel_rfl
    have cst : Tryz.prog.cellsOf 22 = 1 := by kernel_rfl
    have g0 := hff 0 _ rfl
    have g1 := hff 1 _ rfl
    have g2 := hff 2 _ rfl
    have g3 := hff 3 _ rfl
    have g4 := hff 4 _ rfl
    simp [ci, cst] at g0 g1 g2 g3 g4
    obtain ⟨ss, r0, b0⟩ := strs_of Tryz.underlying22 Tryz.underlying9 (by kernel_rfl) (d := y0.1) (ps := y0.2) g0
    obtain ⟨k1, e1, z1, w1⟩ := DataW.trod_int Tryz.underlying3 g1
    obtain ⟨k2, e2, z2, w2⟩ := DataW.trod_int Tryz.underlying3 g2
    obtain ⟨k3, e3, z3, w3⟩ := DataW.trod_int Tryz.underlying3 g3
    obtain ⟨k4, e4, z4, w4⟩ := DataW.trod_int Tryz.underlying3 g4
    simp only [List.cons.injEq, and_true] at e1 e2 e3 e4
    subst e1 e2 e3 e4
    refine ⟨ss, v0, k1, k2, k3, k4, by rw [hcs], r0, litM_64 w1, litM_64 w2, litM_64 w3, litM_64 w4, ?_⟩
    simp only [Prod.mk.injEq] at hy
    rw [hy.1]
    simp [Rows.uptoBulk, Rows.uptoBulkAll]
    omega
end
end Go.Proofs.YtadokkffmekndaaGreatDoor

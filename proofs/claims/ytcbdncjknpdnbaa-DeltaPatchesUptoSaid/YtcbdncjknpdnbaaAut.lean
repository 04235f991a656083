/- An automaton in memory, that is only read; an argument '[]State', opened. -/
import Derived.Test.YtcbdncjknpdnbaaStructRows
import Derived.Test.YtcbdncjknpdnbaaMem
import Derived.Test.YtcbdncjknpdnbaaTrie
namespace Go.Proofs.Ytcbdncjknpdnbaa
open Go.ChangeShapes Go.WideShapes Go.ChangeAt Go.RowKit

abbrev edc (e : Ed) : List Value := [bv e.1, .int .i64 e.2]
abbrev stc (x : Sta × Value) : List Value := [.bool x.1.final, x.2]
theorem edc_len : ∀ e, (edc e).length = 2 := fun _ => rfl
theorem stc_len : ∀ x, (stc x).length = 2 := fun _ => rfl
/-- A state's edges. -/
abbrev RdEds (w : World) (v : Value) (es : List Ed) : Prop := RdRow w v es.length 2 (es.flatMap edc)
/-- An automaton that is read. -/
def RdAut (w : World) (v : Value) (A : List Sta) : Prop :=
  ∃ xs : List (Sta × Value), xs.map Prod.fst = A ∧ RdRow w v xs.length 2 (xs.flatMap stc) ∧ ∀ x ∈ xs, RdEds w x.2 x.1.edges

theorem RdAut.below {w w' : World} {v : Value} {A : List Sta} (h : RdAut w v A) (hb : Below w.heap.size w w') : RdAut w' v A := by
  obtain ⟨xs, h1, h2, h3⟩ := h
  exact ⟨xs, h1, h2.below hb, fun x hx => (h3 x hx).below hb⟩
theorem RdAut.shape {w : World} {v : Value} {A : List Sta} (h : RdAut w v A) : ∃ a cap, v = .slice a A.length cap ∧ A.length ≤ cap ∧ cap ≤ maxLen := by
  obtain ⟨xs, rfl, h2, _⟩ := h
  have := h2.shape
  simpa using this
/-- The state i. -/
theorem RdAut.at {w : World} {v : Value} {A : List Sta} (h : RdAut w v A) {i : Nat} {x : Sta} (hx : A[i]? = some x) :
    ∃ b off cap u, v = .slice (some ⟨b, off, none⟩) A.length cap ∧ w.cell? ⟨b, off + i * 2, none⟩ = some (.bool x.final) ∧ w.cell? ⟨b, off + i * 2 + 1, none⟩ = some u ∧ RdEds w u x.edges := by
  obtain ⟨xs, rfl, h2, h3⟩ := h
  have hi : i < xs.length := by have := (List.getElem?_eq_some_iff.1 hx).1; simpa using this
  obtain ⟨b, off, cap, hv, hc⟩ := h2.at stc_len hi (by decide)
  have e : xs.getD i default = xs[i] := by rw [List.getD_eq_getElem?_getD, List.getElem?_eq_getElem hi]; rfl
  have e2 : xs[i].1 = x := by
    rw [List.getElem?_map, List.getElem?_eq_getElem hi] at hx
    simpa using hx
  rw [e] at hc
  refine ⟨b, off, cap, xs[i].2, by simpa using hv, ?_, hc 1 (by decide), by rw [← e2]; exact h3 _ (List.getElem_mem hi)⟩
  have := hc 0 (by decide)
  rw [← e2]; exact this
/-- The edge j. -/
theorem RdEds.at {w : World} {v : Value} {es : List Ed} (h : RdEds w v es) {j : Nat} {e : Ed} (he : es[j]? = some e) :
    ∃ b off cap, v = .slice (some ⟨b, off, none⟩) es.length cap ∧ w.cell? ⟨b, off + j * 2, none⟩ = some (bv e.1) ∧ w.cell? ⟨b, off + j * 2 + 1, none⟩ = some (.int .i64 e.2) := by
  have hj : j < es.length := (List.getElem?_eq_some_iff.1 he).1
  obtain ⟨b, off, cap, hv, hc⟩ := RdRow.at edc_len h hj (by decide)
  have e : es.getD j default = e := by rw [List.getD_eq_getElem?_getD, he]; rfl
  rw [e] at hc
  exact ⟨b, off, cap, hv, hc 0 (by decide), hc 1 (by decide)⟩
/-- How many edges there are. -/
def edgesN (A : List Sta) : Nat := (A.map fun x => x.edges.length).sum
theorem edgesN_le {A : List Sta} {i : Nat} {x : Sta} (h : A[i]? = some x) : x.edges.length ≤ edgesN A := by
  induction A generalizing i with
  | nil => simp at h
  | cons y A ih =>
    simp only [edgesN, List.map_cons, List.sum_cons]
    cases i with
    | zero => simp at h; subst h; omega
    | succ i => have := ih (i := i) (by simpa using h); unfold edgesN at this; omega

section
variable {H : Type} {enc : TypeId × Value → H}
set_option maxRecDepth 100000 in
theorem edge_of {W : World} (fuel : Nat) (cs : List Value) (y : DataW H × List MemPlace) (hl : cs.length = 2) (h : DataW.trod enc Try.prog W 0 (fun _ => true) true fuel 63 cs = some y) :
    ∃ e : Ed, cs = edc e ∧ True ∧ 1 ≤ Rows.uptoBulk y.1 := by
  obtain ⟨xs, n, rfl, rfl, _, hxl, hf⟩ := DataW.trod_struct Try.underlying63 h
  match xs, hxl, cs, hl with
  | [y0, y1], _, [v0, v1], _ =>
    have c0 : Try.prog.cellsOf 5 = 1 := by kernel_rfl
    have c1 : Try.prog.cellsOf 3 = 1 := by kernel_rfl
    have g0 := hf 0 _ rfl
    have g1 := hf 1 _ rfl
    simp [c0, c1] at g0 g1
    obtain ⟨k0, e0, z0, w0⟩ := DataW.trod_int Try.underlying5 g0
    obtain ⟨k1, e1, z1, w1⟩ := DataW.trod_int Try.underlying3 g1
    simp only [List.cons.injEq, and_true] at e0 e1
    subst e0 e1
    have hb : 0 ≤ k0 ∧ k0 ≤ 255 := by simpa [Lit.wf, IntKind.min, IntKind.max, IntKind.signed, IntKind.bits] using w0
    obtain ⟨k, rfl⟩ := Int.eq_ofNat_of_zero_le hb.1
    refine ⟨(UInt8.ofNat k, k1), ?_, trivial, by simp [Rows.uptoBulk]⟩
    have : (UInt8.ofNat k).toNat = k := by simp; omega
    simp [edc, bv]
    omega
set_option maxRecDepth 100000 in
theorem state_of {W : World} (fuel : Nat) (cs : List Value) (y : DataW H × List MemPlace) (hl : cs.length = 2) (h : DataW.trod enc Try.prog W 0 (fun _ => true) true fuel 58 cs = some y) :
    ∃ x : Sta × Value, cs = stc x ∧ RdEds W x.2 x.1.edges ∧ 1 + x.1.edges.length ≤ Rows.uptoBulk y.1 := by
  obtain ⟨xs, n, rfl, rfl, _, hxl, hf⟩ := DataW.trod_struct Try.underlying58 h
  match xs, hxl, cs, hl with
  | [y0, y1], _, [v0, v1], _ =>
    have c0 : Try.prog.cellsOf 4 = 1 := by kernel_rfl
    have c1 : Try.prog.cellsOf 56 = 1 := by kernel_rfl
    have g0 := hf 0 _ rfl
    have g1 := hf 1 _ rfl
    simp [c0, c1] at g0 g1
    obtain ⟨k0, e0, z0⟩ := DataW.trod_bool Try.underlying4 g0
    simp only [List.cons.injEq, and_true] at e0
    subst e0
    obtain ⟨es, h1, _, h3⟩ := open_rowsG (c := edc) (Q := fun _ => True) (B := fun _ => 1) edc_len (by decide) Try.underlying56 (by kernel_rfl) edge_of (d := y1.1) (ps := y1.2) g1
    have hs : ∀ l : List Ed, (l.map fun _ => 1).sum = l.length := fun l => by
      induction l with
      | nil => rfl
      | cons a l ih => simp only [List.map_cons, List.sum_cons, List.length_cons, ih]; omega
    rw [hs] at h3
    refine ⟨(⟨k0, es⟩, v1), rfl, h1, ?_⟩
    simp [Rows.uptoBulk, Rows.uptoBulkAll]
    omega
set_option maxRecDepth 100000 in
/-- An argument '[]State', opened. -/
theorem open_aut {W : World} {r : Reach} {b0 : Nat} {v : Value} {d : DataW H} {ps : List MemPlace}
    (hval : Value.okWide Try.prog W r b0 22 v) (hd : DataW.Trod enc Try.prog W 0 (fun _ => true) true 22 v d ps) :
    ∃ A : List Sta, RdAut W v A ∧ A.length + edgesN A + 1 ≤ Rows.uptoBulk d := by
  obtain ⟨a0, len, cap, rfl⟩ := okWide_slice Try.underlying22 hval
  obtain ⟨fuel, hf⟩ := hd
  obtain ⟨xs, h1, h2, h3⟩ := open_rowsG (c := stc) (Q := fun x => RdEds W x.2 x.1.edges) (B := fun x => 1 + x.1.edges.length) stc_len (by decide) Try.underlying22 (by kernel_rfl) state_of (by simpa [Value.cells] using hf)
  have hs : ∀ l : List (Sta × Value), (l.map fun x => 1 + x.1.edges.length).sum = l.length + edgesN (l.map Prod.fst) := fun l => by
    induction l with
    | nil => rfl
    | cons a l ih =>
      simp only [List.map_cons, List.sum_cons, List.length_cons, ih, edgesN]; omega
  rw [hs] at h3
  exact ⟨xs.map Prod.fst, ⟨xs, rfl, h1, h2⟩, by simpa using h3⟩
end
end Go.Proofs.Ytcbdncjknpdnbaa

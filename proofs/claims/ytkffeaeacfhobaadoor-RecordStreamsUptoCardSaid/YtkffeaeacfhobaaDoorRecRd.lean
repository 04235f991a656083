/- record.Reader: From, more walked. -/
import Derived.Test.YtkffeaeacfhobaaDoorRecOpen
namespace Go.Proofs.YtkffeaeacfhobaaDoor
open Go.RowKit

/-- A reader. -/
structure RdD where
  run : Nat
  block : Nat
  pos : Nat
  fin : Nat
  buf : List UInt8
  dead : Nat
abbrev tRd : TypeId := 87
abbrev rdCells (b : Nat) (ef : Nat → Nat × Nat) (x : RdD) : Array Value := #[.pointer (some ⟨b, 0, none⟩), .int .i64 x.run, .int .i64 x.block, .int .i64 x.pos, .int .i64 x.fin, .string ⟨x.buf.toArray⟩, errV ef x.dead]
def RdT (k b : Nat) (ef : Nat → Nat × Nat) (x : RdD) : Thing := CellT k (rdCells b ef x) tRd
theorem RdT.stable (k b : Nat) (ef : Nat → Nat × Nat) (x : RdD) : Stable (RdT k b ef x) := CellT.stable _ _ _
structure RdFacts (w : World) (k b : Nat) (ef : Nat → Nat × Nat) (x : RdD) : Prop where
  c0 : w.cell? ⟨k, 0, none⟩ = some (.pointer (some ⟨b, 0, none⟩))
  c1 : w.cell? ⟨k, 1, none⟩ = some (.int .i64 x.run)
  c2 : w.cell? ⟨k, 2, none⟩ = some (.int .i64 x.block)
  c3 : w.cell? ⟨k, 3, none⟩ = some (.int .i64 x.pos)
  c4 : w.cell? ⟨k, 4, none⟩ = some (.int .i64 x.fin)
  c5 : w.cell? ⟨k, 5, none⟩ = some (.string ⟨x.buf.toArray⟩)
  c6 : w.cell? ⟨k, 6, none⟩ = some (errV ef x.dead)
  fz : ∀ j, w.frozen? ⟨k, j, none⟩ = false
  lt : k < w.heap.size
theorem At.rd {W w : World} {R : Thing} {k b : Nat} {ef : Nat → Nat × Nat} {x : RdD} (h : At W w (Both (RdT k b ef x) R)) : RdFacts w k b ef x := by
  have h1 := (show At W w (Both (CellT k (rdCells b ef x) tRd) R) from h).cell.1
  exact ⟨cell_at h1 0, cell_at h1 1, cell_at h1 2, cell_at h1 3, cell_at h1 4, cell_at h1 5, cell_at h1 6, thaw_at h1, lt_of_heap h1⟩
theorem At.rdBuf {W w : World} {R : Thing} {k b : Nat} {ef : Nat → Nat × Nat} {x : RdD} (h : At W w (Both (RdT k b ef x) R)) (hR : Stable R) (t : List UInt8) : At W (w.setCell ⟨k, 5, none⟩ (.string ⟨t.toArray⟩)) (Both (RdT k b ef { x with buf := t }) R) :=
  (show At W w (Both (CellT k (rdCells b ef x) tRd) R) from h).setCell hR 5 (.string ⟨t.toArray⟩)
theorem At.rdPos {W w : World} {R : Thing} {k b : Nat} {ef : Nat → Nat × Nat} {x : RdD} (h : At W w (Both (RdT k b ef x) R)) (hR : Stable R) (n : Nat) : At W (w.setCell ⟨k, 3, none⟩ (.int .i64 (n : Int))) (Both (RdT k b ef { x with pos := n }) R) :=
  (show At W w (Both (CellT k (rdCells b ef x) tRd) R) from h).setCell hR 3 (.int .i64 (n : Int))
theorem At.rdDead {W w : World} {R : Thing} {k b : Nat} {ef : Nat → Nat × Nat} {x : RdD} (h : At W w (Both (RdT k b ef x) R)) (hR : Stable R) (c : Nat) : At W (w.setCell ⟨k, 6, none⟩ (errV ef c)) (Both (RdT k b ef { x with dead := c }) R) :=
  (show At W w (Both (CellT k (rdCells b ef x) tRd) R) from h).setCell hR 6 (errV ef c)

section
variable {W w : World} {R : Thing} {k b : Nat} {ef : Nat → Nat × Nat} {S : St}
set_option maxRecDepth 100000 in
set_option maxHeartbeats 1600000 in
theorem From_ok (h : At W w (Both (StoreT b S) R)) (hR : Stable R) (hF : Fails W ef fails12) {n r : Nat} (hn : 1 ≤ n ∧ n ≤ 4096) (hr : inI64 r) (hc : readC S r 0 0 = 0) (hz : sizeC S r = 0) :
    Calls Tryd.prog 10 #[.pointer (some ⟨b, 0, none⟩), .int .i64 r, .int .i64 n] w fun e w' => ∃ k, e = .returned (.tuple #[.pointer (some ⟨k, 0, none⟩), .nilIface]) ∧ At W w' (Both (RdT k b ef ⟨r, n, 0, sizeN S r, [], 0⟩) (Both (StoreT b S) R)) := by
  have hrd := Read_at h hR (fails12_all hF) hr (a := 0) (n := 0) (by unfold inI64; omega) (by unfold inI64; omega)
  rw [hc, errV_zero] at hrd
  have hsz := fun (w' : World) (h' : At W w' (Both (StoreT b S) R)) => Size_at h' hR (fails12_all hF) hr
  rw [hz, errV_zero] at hsz
  have HRD := Lib.hid hrd
  have HSZ := Lib.hid hsz
  have neqn : ∀ wz : World, (binOp .neq tErr .nilIface .nilIface).run Tryd.prog wz = .ok (.bool false) wz := fun wz => neq_nil wz
  have h1 : ¬ (n : Int) < 1 := by omega
  have h2 : ¬ 4096 < (n : Int) := by omega
  generalize sizeN S r = sz at *
  have HST := Lib.hid ((StoreT.stable b S).both hR)
  clear h hR hF hc hrd hsz hn hz
  go_enter Tryd.func10, Tryd.ntmps10
  (repeat' (first | (go_big_may; fail) | go_values | go_skip | go_guarded | go_step | go_upon | go_back | dsimp only))
  refine HRD.out.mono ?_
  rintro e w1 ⟨rfl, h1⟩
  have H1 := Lib.hid h1
  clear h1
  (repeat' (first | (go_big_may; fail) | go_values | go_skip | go_guarded | go_step | go_upon | go_back | dsimp only))
  refine (HSZ.out _ H1.out).mono ?_
  rintro e w2 ⟨rfl, h2⟩
  have hnew := h2.newCell HST.out (rdCells b ef ⟨r, n, 0, sz, [], 0⟩) tRd
  simp only [rdCells] at hnew
  rw [errV_zero] at hnew
  have HN := Lib.hid hnew
  clear h2 hnew
  (repeat' (first | (go_big_may; fail) | go_values | go_skip | go_guarded | go_step | go_upon | go_back | dsimp only))
  go_ret2
  exact ⟨_, rfl, HN.out⟩

/-- A block more. -/
def moreP (S : St) (x : RdD) : RdD × Bool :=
  if min x.block (x.fin - x.pos) = 0 ∨ readC S x.run x.pos (min x.block (x.fin - x.pos) : Nat) ≠ 0 then (x, false)
  else ({ x with buf := x.buf ++ readT S x.run x.pos (min x.block (x.fin - x.pos) : Nat), pos := x.pos + min x.block (x.fin - x.pos) }, true)
set_option maxRecDepth 100000 in
set_option maxHeartbeats 3200000 in
theorem more_at {x : RdD} (h : At W w (Both (RdT k b ef x) (Both (StoreT b S) R))) (hR : Stable R) (hF : Fails W ef fails12) (hr : inI64 x.run) (hp : x.pos ≤ x.fin) (hf : x.fin ≤ 1099511627776) (hl : x.buf.length ≤ 1099511627776)
    (ht : (readT S x.run x.pos (min x.block (x.fin - x.pos) : Nat)).length ≤ 1099511627776) :
    Calls Tryd.prog 32 #[.pointer (some ⟨k, 0, none⟩)] w fun e w' => e = .returned (.bool (moreP S x).2) ∧ At W w' (Both (RdT k b ef (moreP S x).1) (Both (StoreT b S) R)) := by
  obtain ⟨c0, c1, c2, c3, c4, c5, _, fz, hlt⟩ := h.rd
  have hst : Stable (Both (RdT k b ef x) (Both (StoreT b S) R)) := (RdT.stable _ _ _ _).both ((StoreT.stable _ _).both hR)
  obtain ⟨m, hm⟩ : ∃ m : Nat, m = min x.block (x.fin - x.pos) := ⟨_, rfl⟩
  have hmi : min (x.block : Int) ((x.fin : Int) - x.pos) = (m : Int) := by rw [hm]; omega
  have hws : IntKind.i64.wrap ((x.fin : Int) - x.pos) = (x.fin : Int) - x.pos := by rw [IntKind.wrap_i64] <;> omega
  have HST := Lib.hid hst
  have H := Lib.hid h
  have HMI := Lib.hid hmi
  have HR := Lib.hid hR
  have hml : m ≤ x.fin - x.pos := by rw [hm]; omega
  obtain ⟨res, hres⟩ : ∃ res, res = moreP S x := ⟨_, rfl⟩
  rw [← hres]
  unfold moreP at hres
  rw [← hm] at hres ht
  have hrd := fun (w1 : World) (h1 : At W w1 (Both (RdT k b ef x) (Both (StoreT b S) R))) => Read_at h1.swap ((RdT.stable _ _ _ _).both hR) (fails12_all hF) hr (a := (x.pos : Int)) (n := (m : Int)) (by unfold inI64; omega) (by unfold inI64; omega)
  have HRD := Lib.hid hrd
  have HHM := Lib.hid hm
  clear h hst hmi hrd hm hF
  go_enter Tryd.func32, Tryd.ntmps32
  (repeat' (first | (go_big_may; fail) | go_values | go_skip | go_guarded | go_step | go_upon | go_back | dsimp only))
  go_quiet (fail)
  (repeat' (first | (go_big_may; fail) | go_values | go_skip | go_guarded | go_step | go_upon | go_back | dsimp only))
  rw [HMI.out]
  have HA := Lib.hid (fun n => H.out.mono HST.out (below_dW w n))
  generalize hw1 : w.drewN _ = w1
  have h1 : At W w1 (Both (RdT k b ef x) (Both (StoreT b S) R)) := by rw [← hw1]; exact HA.out _
  have H1 := Lib.hid h1
  clear c0 c1 c2 c3 c4 c5 fz hlt HA hw1 HMI
  obtain ⟨c0, c1, _, c3, _, _, _, _, hlt⟩ := H1.out.rd
  have hcg := And.intro c0 (And.intro c1 c3)
  have hrd := HRD.out _ (H1.out.mono HST.out ((Below.refl _ _).drew))
  have HX := Lib.hid hrd
  clear hrd h1
  by_cases hc : readC S x.run x.pos m = 0
  · have hx := HX.out
    rw [hc, errV_zero] at hx
    have HX2 := Lib.hid hx
    have neqn : ∀ wz : World, (binOp .neq tErr .nilIface .nilIface).run Tryd.prog wz = .ok (.bool false) wz := fun wz => neq_nil wz
    clear hx HX
    go_region_held3 (fun wx => wx.cell? ⟨k, 0, none⟩ = some (.pointer (some ⟨b, 0, none⟩)) ∧ wx.cell? ⟨k, 1, none⟩ = some (.int .i64 x.run) ∧ wx.cell? ⟨k, 3, none⟩ = some (.int .i64 x.pos)) (first | assumption | go_keep) (((with_reducible refine Calls.mono HX2.out ?_); rintro e w3 ⟨rfl, h4⟩; have H4 := Lib.hid h4.swap; have cg4 := And.intro h4.swap.rd.c0 (And.intro h4.swap.rd.c1 h4.swap.rd.c3); have hl4 := h4.swap.rd.lt; clear h4))
    all_goals
      clear hcg cg4 c0 c1 c3
      by_cases hm0 : m = 0
      · rw [if_pos (.inl hm0)] at hres
        have HRES := Lib.hid hres
        have hmb : ((m : Int) == 0) = true := by rw [hm0]; rfl
        clear hres hm0
        (repeat' (first | (go_big_may; fail) | go_values | go_skip | go_guarded | go_step | go_upon | go_back | dsimp only))
        go_ret
        rw [HRES.out]
        exact ⟨rfl, H4.out⟩
      · rw [if_neg (by simp [hm0, hc])] at hres
        have HRES := Lib.hid hres
        have hmb : ((m : Int) == 0) = false := by
          have : ¬ (m : Int) = 0 := by omega
          simpa using this
        generalize readT S x.run x.pos m = t at *
        obtain ⟨_, _, _, d3, _, d5, _, dz, dl⟩ := H4.out.rd
        have hcat : (⟨x.buf.toArray⟩ : ByteArray) ++ ⟨t.toArray⟩ = ⟨(x.buf ++ t).toArray⟩ := by
          apply ByteArray.ext
          simp [ByteArray.data_append]
        have hsum : ¬ 9223372036854775807 < x.buf.length + t.length := by omega
        have hwp : IntKind.i64.wrap ((x.pos : Int) + m) = (x.pos : Int) + m := by rw [IntKind.wrap_i64] <;> omega
        have hend := (H4.out.rdBuf ((StoreT.stable _ _).both HR.out) (x.buf ++ t)).rdPos ((StoreT.stable _ _).both HR.out) (x.pos + m)
        have e1 : ((x.pos + m : Nat) : Int) = (x.pos : Int) + m := by omega
        rw [e1] at hend
        have HEND := Lib.hid hend
        clear hres hm0 hend H4 e1
        (repeat' (first | (go_big_may; fail) | go_values | go_skip | go_guarded | go_step | go_upon | go_back | dsimp only))
        go_ret
        rw [HRES.out]
        exact ⟨rfl, HEND.out⟩
  · have hx := HX.out
    rw [errV_pos ef hc] at hx
    rw [if_pos (.inr hc)] at hres
    have neqi := run_neq_iface_nil2 ⟨(ef (readC S x.run x.pos m)).1, (ef (readC S x.run x.pos m)).2, none⟩
    generalize readC S x.run x.pos m = c at *
    have HX2 := Lib.hid hx
    have HRES := Lib.hid hres
    clear hx HX hc hres
    go_region_held3 (fun wx => wx.cell? ⟨k, 0, none⟩ = some (.pointer (some ⟨b, 0, none⟩)) ∧ wx.cell? ⟨k, 1, none⟩ = some (.int .i64 x.run) ∧ wx.cell? ⟨k, 3, none⟩ = some (.int .i64 x.pos)) (first | assumption | go_keep) (((with_reducible refine Calls.mono HX2.out ?_); rintro e w3 ⟨rfl, h4⟩; have H4 := Lib.hid h4.swap; have cg4 := And.intro h4.swap.rd.c0 (And.intro h4.swap.rd.c1 h4.swap.rd.c3); have hl4 := h4.swap.rd.lt; clear h4))
    all_goals
      clear hcg cg4 c0 c1 c3
      by_cases hm0 : m = 0
      · have hmb : ((m : Int) == 0) = true := by rw [hm0]; rfl
        clear hm0
        (repeat' (first | (go_big_may; fail) | go_values | go_skip | go_guarded | go_step | go_upon | go_back | dsimp only))
        go_ret
        rw [HRES.out]
        exact ⟨rfl, H4.out⟩
      · have hmb : ((m : Int) == 0) = false := by
          have : ¬ (m : Int) = 0 := by omega
          simpa using this
        clear hm0
        (repeat' (first | (go_big_may; fail) | go_values | go_skip | go_guarded | go_step | go_upon | go_back | dsimp only))
        go_ret
        rw [HRES.out]
        exact ⟨rfl, H4.out⟩
end
end Go.Proofs.YtkffeaeacfhobaaDoor

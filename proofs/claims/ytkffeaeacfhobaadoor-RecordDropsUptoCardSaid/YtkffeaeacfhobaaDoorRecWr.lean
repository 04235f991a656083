/- record.Writer: what its calls do, walked. -/
import Derived.Test.YtkffeaeacfhobaaDoorRunsThing
import Derived.Test.YtkffeaeacfhobaaDoorRunsThing7
import Derived.Test.YtkffeaeacfhobaaDoorRecSent
import Derived.Test.YtkffeaeacfhobaaDoorAppendAt
import Derived.Test.YtkffeaeacfhobaaDoorFrame
import Derived.Deep.RegionHeld3
namespace Go.Proofs.YtkffeaeacfhobaaDoor
open Go.RowKit

/-- A writer. -/
structure WrD where
  run : Nat
  block : Nat
  buf : List UInt8
  dead : Nat
abbrev tWr : TypeId := 80
abbrev wrCells (b : Nat) (ef : Nat → Nat × Nat) (x : WrD) : Array Value := #[.pointer (some ⟨b, 0, none⟩), .int .i64 x.run, .int .i64 x.block, .string ⟨x.buf.toArray⟩, errV ef x.dead]
def WrT (k b : Nat) (ef : Nat → Nat × Nat) (x : WrD) : Thing := CellT k (wrCells b ef x) tWr
theorem WrT.stable (k b : Nat) (ef : Nat → Nat × Nat) (x : WrD) : Stable (WrT k b ef x) := CellT.stable _ _ _
theorem cell_at {w : World} {k : Nat} {cs : Array Value} {T : TypeId} (h : w.heap[k]? = some (.cells cs T (0, 0))) (i : Nat) : w.cell? ⟨k, i, none⟩ = cs[i]? := by simp [World.cell?, h]
theorem thaw_at {w : World} {k : Nat} {cs : Array Value} {T : TypeId} (h : w.heap[k]? = some (.cells cs T (0, 0))) (i : Nat) : w.frozen? ⟨k, i, none⟩ = false := by simp [World.frozen?, h]
structure WrFacts (w : World) (k b : Nat) (ef : Nat → Nat × Nat) (x : WrD) : Prop where
  c0 : w.cell? ⟨k, 0, none⟩ = some (.pointer (some ⟨b, 0, none⟩))
  c1 : w.cell? ⟨k, 1, none⟩ = some (.int .i64 x.run)
  c2 : w.cell? ⟨k, 2, none⟩ = some (.int .i64 x.block)
  c3 : w.cell? ⟨k, 3, none⟩ = some (.string ⟨x.buf.toArray⟩)
  c4 : w.cell? ⟨k, 4, none⟩ = some (errV ef x.dead)
  fz : ∀ j, w.frozen? ⟨k, j, none⟩ = false
  lt : k < w.heap.size
theorem At.wr {W w : World} {R : Thing} {k b : Nat} {ef : Nat → Nat × Nat} {x : WrD} (h : At W w (Both (WrT k b ef x) R)) : WrFacts w k b ef x := by
  have h1 := (show At W w (Both (CellT k (wrCells b ef x) tWr) R) from h).cell.1
  exact ⟨cell_at h1 0, cell_at h1 1, cell_at h1 2, cell_at h1 3, cell_at h1 4, thaw_at h1, lt_of_heap h1⟩
theorem At.setBuf {W w : World} {R : Thing} {k b : Nat} {ef : Nat → Nat × Nat} {x : WrD} (h : At W w (Both (WrT k b ef x) R)) (hR : Stable R) (t : List UInt8) : At W (w.setCell ⟨k, 3, none⟩ (.string ⟨t.toArray⟩)) (Both (WrT k b ef { x with buf := t }) R) :=
  (show At W w (Both (CellT k (wrCells b ef x) tWr) R) from h).setCell hR 3 (.string ⟨t.toArray⟩)
theorem At.setDead {W w : World} {R : Thing} {k b : Nat} {ef : Nat → Nat × Nat} {x : WrD} (h : At W w (Both (WrT k b ef x) R)) (hR : Stable R) (c : Nat) : At W (w.setCell ⟨k, 4, none⟩ (errV ef c)) (Both (WrT k b ef { x with dead := c }) R) :=
  (show At W w (Both (CellT k (wrCells b ef x) tWr) R) from h).setCell hR 4 (errV ef c)
theorem fails12_all {W : World} {ef : Nat → Nat × Nat} (h : Fails W ef fails12) : Fails W ef failsAll := h.less (by decide)
theorem fails12_11 {W : World} {ef : Nat → Nat × Nat} (h : Fails W ef fails12) : Fails W ef fails11 := h.less (by decide)
theorem fails11_7 {W : World} {ef : Nat → Nat × Nat} (h : Fails W ef fails11) : Fails W ef fails7 := h.less (by decide)

/-- What flush does. -/
def flushP (S : St) (x : WrD) (n : Nat) : St × WrD × Nat :=
  if (appendP S x.run (x.buf.take n)).2 = 0 then ((appendP S x.run (x.buf.take n)).1, { x with buf := x.buf.drop n }, 0)
  else ((appendP S x.run (x.buf.take n)).1, { x with dead := (appendP S x.run (x.buf.take n)).2 }, (appendP S x.run (x.buf.take n)).2)
theorem run_neq_iface_nil2 (a : Addr) (wz : World) : (binOp .neq tErr (.iface tES (.pointer (some a))) .nilIface).run Tryd.prog wz = .ok (.bool true) wz := run_neq_iface_nil wz _ _ Tryd.underlying25
theorem cat_one (t : List UInt8) : cat [t] = t := by simp [cat]
theorem ex_take (t : List UInt8) (n : Nat) : (⟨t.toArray⟩ : ByteArray).extract 0 n = ⟨(t.take n).toArray⟩ := by rw [Lib.extract_eq]; simp
theorem ex_drop (t : List UInt8) (n : Nat) : (⟨t.toArray⟩ : ByteArray).extract n t.length = ⟨(t.drop n).toArray⟩ := by
  rw [Lib.extract_eq]
  congr 2
  rw [List.take_of_length_le]
  simp

set_option maxRecDepth 100000 in
set_option maxHeartbeats 3200000 in
theorem flush_at {W w : World} {R : Thing} {k b : Nat} {ef : Nat → Nat × Nat} {S : St} {x : WrD} (h : At W w (Both (WrT k b ef x) (Both (StoreT b S) R))) (hR : Stable R) (hF : Fails W ef fails11)
    (hle : ∀ p, S.find x.run = some p → p.2.text.length ≤ S.used) {n : Nat} (hn : n ≤ x.buf.length) (hbl : x.buf.length ≤ 1099511627776) (hrun : inI64 x.run) :
    Calls Tryd.prog 30 #[.pointer (some ⟨k, 0, none⟩), .int .i64 n] w fun e w' => e = .returned (errV ef (flushP S x n).2.2) ∧ At W w' (Both (WrT k b ef (flushP S x n).2.1) (Both (StoreT b (flushP S x n).1) R)) := by
  obtain ⟨c0, c1, c2, c3, c4, fz, hlt⟩ := h.wr
  have hst : Stable (Both (WrT k b ef x) (Both (StoreT b S) R)) := (WrT.stable _ _ _ _).both ((StoreT.stable _ _).both hR)
  have h2 := (h.alloc hst (.cells #[.string ⟨(x.buf.take n).toArray⟩] 9)).mono hst ((Below.refl _ _).drew)
  have hbs : b < w.heap.size := by
    obtain ⟨mb, blk, val, h1, _⟩ := h.swap.store
    exact h1.lt b (by simp [fpS])
  have hv : ∀ w', Upd [b] (w.alloc (.cells #[.string ⟨(x.buf.take n).toArray⟩] 9)).drew w' → RdRow w' (.slice (some ⟨w.heap.size, 0, none⟩) 1 1) [x.buf.take n].length 1 (strs [x.buf.take n]) := fun w' hu => by
    refine ⟨rfl, _, 1, rfl, Nat.le_refl _, by simp [maxLen], fun j u hj => ?_⟩
    have hb := hu.block w.heap.size (by simp) (by simp; omega)
    match j with
    | 0 =>
      simp at hj
      subst hj
      refine ⟨_, _, rfl, ?_⟩
      exact cell_at (hb.trans (heap_alloc_new w (.cells #[.string ⟨(x.buf.take n).toArray⟩] 9))) 0
    | j + 1 => simp at hj
  have happ := Append_7 h2.swap ((WrT.stable _ _ _ _).both hR) (fails11_7 hF) hrun hle hv (by rw [cat_one, List.length_take]; omega)
  rw [cat_one] at happ
  have HA := Lib.hid happ
  have HST := Lib.hid ((WrT.stable k b ef x).both hR)
  have HR := Lib.hid hR
  have het := ex_take x.buf n
  have hed := ex_drop x.buf n
  have hnl : (n : Int) ≤ (x.buf.length : Int) := by omega
  have hn0 : (0 : Int) ≤ n := by omega
  have hcg := And.intro c0 (And.intro c1 c3)
  clear h2 hv happ hst h c2 c4 hF hle
  unfold flushP
  by_cases hz : (appendP S x.run (x.buf.take n)).2 = 0
  · rw [if_pos hz]
    rw [hz, errV_zero] at HA
    generalize (appendP S x.run (x.buf.take n)).1 = S2 at *
    clear hz
    dsimp only
    rw [errV_zero]
    go_enter Tryd.func30, Tryd.ntmps30
    go_upto_region 1 with (fail)
    go_region_held3 (fun wx => wx.cell? ⟨k, 0, none⟩ = some (.pointer (some ⟨b, 0, none⟩)) ∧ wx.cell? ⟨k, 1, none⟩ = some (.int .i64 x.run) ∧ wx.cell? ⟨k, 3, none⟩ = some (.string ⟨x.buf.toArray⟩)) (first | assumption | go_keep) (((with_reducible refine Calls.mono HA.out ?_); rintro e w3 ⟨rfl, h4⟩; have H4 := Lib.hid h4.swap; have cg4 := And.intro h4.swap.wr.c0 (And.intro h4.swap.wr.c1 h4.swap.wr.c3); have hl4 := h4.swap.wr.lt; clear h4))
    all_goals
      clear cg4 hcg
      have neqn : ∀ wz : World, (binOp .neq tErr .nilIface .nilIface).run Tryd.prog wz = .ok (.bool false) wz := fun wz => neq_nil wz
      obtain ⟨_, _, _, c3, _, fz, _⟩ := H4.out.wr
      have HEND := Lib.hid (H4.out.setBuf ((StoreT.stable _ _).both HR.out) (x.buf.drop n))
      clear H4 HA
      (repeat' (first | (go_big_may; fail) | go_values | go_skip | go_guarded | go_step | go_upon | go_back | dsimp only))
      go_ret
      exact ⟨rfl, HEND.out⟩
  · rw [if_neg hz]
    dsimp only
    rw [errV_pos ef hz] at HA ⊢
    have hep := errV_pos ef hz
    generalize hc : (appendP S x.run (x.buf.take n)).2 = c at *
    generalize (appendP S x.run (x.buf.take n)).1 = S2 at *
    have HEP := Lib.hid hep
    clear hz hc hep
    go_enter Tryd.func30, Tryd.ntmps30
    go_upto_region 1 with (fail)
    go_region_held3 (fun wx => wx.cell? ⟨k, 0, none⟩ = some (.pointer (some ⟨b, 0, none⟩)) ∧ wx.cell? ⟨k, 1, none⟩ = some (.int .i64 x.run) ∧ wx.cell? ⟨k, 3, none⟩ = some (.string ⟨x.buf.toArray⟩)) (first | assumption | go_keep) (((with_reducible refine Calls.mono HA.out ?_); rintro e w3 ⟨rfl, h4⟩; have H4 := Lib.hid h4.swap; have cg4 := And.intro h4.swap.wr.c0 (And.intro h4.swap.wr.c1 h4.swap.wr.c3); have hl4 := h4.swap.wr.lt; clear h4))
    all_goals
      clear cg4 hcg
      have neqn := run_neq_iface_nil2 ⟨(ef c).1, (ef c).2, none⟩
      obtain ⟨_, _, _, _, c4, fz, _⟩ := H4.out.wr
      have hend := H4.out.setDead ((StoreT.stable _ _).both HR.out) c
      rw [HEP.out] at hend
      have HEND := Lib.hid hend
      have hcx : ∃ vd, w3.cell? ⟨k, 4, none⟩ = some vd := ⟨_, c4⟩
      obtain ⟨vd, c4⟩ := hcx
      clear H4 HA hend
      (repeat' (first | (go_big_may; fail) | go_values | go_skip | go_guarded | go_step | go_upon | go_back | dsimp only))
      go_ret
      exact ⟨rfl, HEND.out⟩
end Go.Proofs.YtkffeaeacfhobaaDoor

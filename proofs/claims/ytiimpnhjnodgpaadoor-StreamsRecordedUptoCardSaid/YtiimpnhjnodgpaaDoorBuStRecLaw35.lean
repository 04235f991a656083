/- hornbookref06: the document's writer walked: Open, Drop, Put, Close. · record.From refused; the document's Open at a bad block. -/
import Derived.Test.YtiimpnhjnodgpaaDoorBuStRecLaw31
import Derived.Test.YtiimpnhjnodgpaaDoorBuStRecLaw34
import Derived.Test.YtiimpnhjnodgpaaDoorBuStRecLaw27
import Derived.Test.YtiimpnhjnodgpaaDoorBuStRecLaw30
namespace Go.Proofs.YtiimpnhjnodgpaaDoor
open Go.RowKit

abbrev tRw : TypeId := 137
abbrev rwCells (x : WrD) : Array Value := #[.int .i64 x.run, .int .i64 x.block, .int .i64 x.dead, .string ⟨x.buf.toArray⟩]
/-- The document's writer. -/
def RwT (k : Nat) (x : WrD) : Thing := CellT k (rwCells x) tRw
theorem RwT.stable (k : Nat) (x : WrD) : Stable (RwT k x) := CellT.stable _ _ _
structure RwFacts (w : World) (k : Nat) (x : WrD) : Prop where
  c0 : w.cell? ⟨k, 0, none⟩ = some (.int .i64 x.run)
  c1 : w.cell? ⟨k, 1, none⟩ = some (.int .i64 x.block)
  c2 : w.cell? ⟨k, 2, none⟩ = some (.int .i64 x.dead)
  c3 : w.cell? ⟨k, 3, none⟩ = some (.string ⟨x.buf.toArray⟩)
  fz : ∀ j, w.frozen? ⟨k, j, none⟩ = false
  lt : k < w.heap.size
section
variable {W w : World} {R : Thing} {rb k : Nat} {S : St} {x : WrD}
/-- The same run, the same block, dead of the same; what is held is alike while alive. -/
structure WSim (x y : WrD) : Prop where
  run : y.run = x.run
  block : y.block = x.block
  dead : y.dead = x.dead
  buf : x.dead = 0 → y.buf = x.buf
theorem WSim.refl (x : WrD) : WSim x x := ⟨rfl, rfl, rfl, fun _ => rfl⟩
end

section
variable {W w : World} {R : Thing} {rb k : Nat} {S : St} {x : WrD}
end

section
variable {W w : World} {R : Thing} {rb k : Nat} {S : St} {x : WrD}
end
end Go.Proofs.YtiimpnhjnodgpaaDoor
namespace Go.Proofs.YtiimpnhjnodgpaaDoor
open Go.RowKit

section
variable {W w : World} {R : Thing} {b rb : Nat} {ef : Nat → Nat × Nat} {S : St}
set_option maxRecDepth 100000 in
set_option maxHeartbeats 1600000 in
theorem From_fail (h : At W w (Both (StoreT b S) R)) (hR : Stable R) (hF : Fails W ef fails10) {n : Nat} {r : Int} (hn : 1 ≤ n ∧ n ≤ 4096) (hr : inI64 r) (hc : readC S r 0 0 ≠ 0) :
    Calls Tryd.prog 17 #[.pointer (some ⟨b, 0, none⟩), .int .i64 r, .int .i64 n] w fun e w' => e = .returned (.tuple #[.pointer none, errV ef (readC S r 0 0)]) ∧ At W w' (Both (StoreT b S) R) := by
  have hrd := Read_at h hR (fails10_all hF) hr (a := 0) (n := 0) (by unfold inI64; omega) (by unfold inI64; omega)
  rw [errV_pos ef hc] at hrd ⊢
  generalize readC S r 0 0 = c at *
  generalize readT S r 0 0 = t at *
  have neqi := run_neq_iface_nil2 ⟨(ef c).1, (ef c).2, none⟩
  have h1 : ¬ (n : Int) < 1 := by omega
  have h2 : ¬ 4096 < (n : Int) := by omega
  have HRD := Lib.hid hrd
  clear h hR hF hc hn hrd
  go_enter Tryd.func17, Tryd.ntmps17
  (repeat' (first | (go_big_may; fail) | go_values | go_skip | go_guarded | go_step | go_upon | go_back | dsimp only))
  refine HRD.out.mono ?_
  rintro e w1 ⟨rfl, h1⟩
  have H1 := Lib.hid h1
  clear h1
  (repeat' (first | (go_big_may; fail) | go_values | go_skip | go_guarded | go_step | go_upon | go_back | dsimp only))
  go_ret2
  exact ⟨rfl, H1.out⟩
end
end Go.Proofs.YtiimpnhjnodgpaaDoor

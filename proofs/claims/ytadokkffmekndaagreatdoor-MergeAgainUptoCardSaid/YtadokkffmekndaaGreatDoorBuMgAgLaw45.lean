/- hornbookref06: the document's writer walked: Open, Drop, Put, Close. · RecordDrops: what a writer does to a store that holds its run alone. · record.From refused; the document's Open at a bad block. -/
import Derived.Test.YtadokkffmekndaaGreatDoorBuMgAgLaw35
import Derived.Test.YtadokkffmekndaaGreatDoorBuMgAgLaw44
import Derived.Test.YtadokkffmekndaaGreatDoorBuMgAgLaw33
import Derived.Test.YtadokkffmekndaaGreatDoorBuMgAgLaw11
set_option linter.unusedSimpArgs false
set_option linter.unusedVariables false
namespace Go.Proofs.YtadokkffmekndaaGreatDoor
open Go.RowKit

abbrev tRw : TypeId := 207
abbrev rwCells (x : WrD) : Array Value := #[.int .i64 x.run, .int .i64 x.block, .int .i64 x.dead, .string ⟨x.buf.toArray⟩]
/-- The document's writer. -/
def RwT (k : Nat) (x : WrD) : Thing := CellT k (rwCells x) tRw
theorem RwT.stable (k : Nat) (x : WrD) : Stable (RwT k x) := CellT.stable _ _ _
structure RwFacts (w : World) (k : Nat) (x : WrD) : Prop where
  c0 : w.cell? ⟨k, 0, none⟩ = some (.int .i64 x.run)
  c1 : w.cell? ⟨k, 1, none⟩ = some (.int .i64 x.block)
  c2 : w.cell? ⟨k, 2, none⟩ = some (.int .i64 x.dead)
  c3 : w.cell? ⟨k, 3, none⟩ = some (.string ⟨x.buf.toArray⟩)
  fz : ∀ j, w.frozen? ⟨k, j, none⟩ = false
  lt : k < w.heap.size
section
variable {W w : World} {R : Thing} {rb k : Nat} {S : St} {x : WrD}
/-- The same run, the same block, dead of the same; what is held is alike while alive. -/
structure WSim (x y : WrD) : Prop where
  run : y.run = x.run
  block : y.block = x.block
  dead : y.dead = x.dead
  buf : x.dead = 0 → y.buf = x.buf
theorem WSim.refl (x : WrD) : WSim x x := ⟨rfl, rfl, rfl, fun _ => rfl⟩
end

section
variable {W w : World} {R : Thing} {rb k : Nat} {S : St} {x : WrD}
end

section
variable {W w : World} {R : Thing} {rb k : Nat} {S : St} {x : WrD}
end
end Go.Proofs.YtadokkffmekndaaGreatDoor
namespace Go.Proofs.YtadokkffmekndaaGreatDoor
open Go.RowKit

/-- The store holds the run 1 alone. -/
def One (S : St) : Prop := GoodS S ∧ ∃ r, S.runs = [(1, r)]
theorem One.find {S : St} (h : One S) : ∃ r, S.runs = [(1, r)] ∧ S.find ((1 : Nat) : Int) = some (1, r) := by
  obtain ⟨_, r, hr⟩ := h
  exact ⟨r, hr, by simp [St.find, hr]⟩
/-- A call at the run 1: the store still holds it alone. -/
theorem One.with {S : St} (h : One S) {f : Nat × RunD → St × Nat} (hf : ∀ r, S.runs = [(1, r)] → ∃ r', (f (1, r)).1.runs = [(1, r')]) : ∃ r', (withRun S ((1 : Nat) : Int) f).1.runs = [(1, r')] := by
  obtain ⟨r, hr, hfd⟩ := h.find
  unfold withRun
  rw [hfd]
  split
  · exact ⟨r, hr⟩
  · dsimp only
    split
    · exact ⟨r, hr⟩
    · exact hf r hr
theorem One.append {S : St} (h : One S) (t : List UInt8) : One (appendP S ((1 : Nat) : Int) t).1 := by
  refine ⟨h.1.append _ t, h.with fun r hr => ?_⟩
  split
  · exact ⟨r, hr⟩
  · exact ⟨_, by simp [grownS, stepS, St.setRun, hr]; rfl⟩
theorem One.seal {S : St} (h : One S) : One (sealP S ((1 : Nat) : Int)).1 := by
  refine ⟨h.1.seal _, h.with fun r hr => ?_⟩
  exact ⟨_, by simp [stepS, St.setRun, hr]; rfl⟩
/-- A writer at work at the run 1. -/
structure OkW (B : Nat) (x : WrD) : Prop where
  run : x.run = 1
  block : x.block = B
  code : okC x.dead
  open_ : x.dead ≠ 13
  alive : x.dead = 0 → x.buf.length < B
  small : x.buf.length ≤ 100000
theorem WSim.trans {x y z : WrD} (h : WSim x y) (k : WSim y z) : WSim x z :=
  ⟨k.run.trans h.run, k.block.trans h.block, k.dead.trans h.dead, fun e => (k.buf (by rw [h.dead]; exact e)).trans (h.buf e)⟩
end Go.Proofs.YtadokkffmekndaaGreatDoor
namespace Go.Proofs.YtadokkffmekndaaGreatDoor
open Go.RowKit

section
variable {W w : World} {R : Thing} {b rb : Nat} {ef : Nat → Nat × Nat} {S : St}
end
end Go.Proofs.YtadokkffmekndaaGreatDoor

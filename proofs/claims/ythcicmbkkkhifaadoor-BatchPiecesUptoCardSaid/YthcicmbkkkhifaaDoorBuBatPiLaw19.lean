/- record.next, Unframe walked. -/
import Derived.Test.YthcicmbkkkhifaaDoorBuBatPiLaw18
import Derived.Lib.Strings
set_option linter.unusedSimpArgs false
set_option linter.unusedVariables false
namespace Go.Proofs.YthcicmbkkkhifaaDoor
open Go.RowKit

/-- What Unframe answers. -/
def unfL (l : List UInt8) : List (List UInt8) × Nat := if (headsL l).2 = 0 then headsL l else ([], (headsL l).2)

/-- A result of strings and an error. -/
def StrsErr (w : World) (l : List (List UInt8) × Nat) (e : Ending) (w' : World) : Prop :=
  ∃ v, e = .returned (.tuple #[v, .int .i64 l.2]) ∧ w'.ownsRow w.heap.size 9 1 v l.1.length (strs l.1) ∧ Below w.heap.size w w'

theorem StrsErr.mk {w w' : World} {l l' : List (List UInt8)} {er : Nat} {x : List (List UInt8) × Nat} {v : Value} (hx : x = (l, er)) (hl : l = l') (ho : w'.ownsRow w.heap.size 9 1 v l'.length (strs l')) (hb : Below w.heap.size w w') :
    StrsErr w x (.returned (.tuple #[v, .int .i64 er])) w' := by
  subst hx; subst hl; exact ⟨v, rfl, ho, hb⟩
end Go.Proofs.YthcicmbkkkhifaaDoor

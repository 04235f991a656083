/-
  DERIVED. GIVEN WITH THE SEED: THE CARDS: each row of YthcicmbkkkhifaaGreatDoorRows.lean that lists a variable, with what it lists TIED to the program's text (the seventh form; the later family's looks); each row that meets fmt, with fmt's text TOLD by the authors' own Lean function (tested against real Go, not proved from fmt's source: count such statements apart). THE CARD IS WHAT COUNTS. Prove the row's statement (the work); the ties are given (YthcicmbkkkhifaaGreatDoorTie.lean); close each card by the builder's one call (the guide's Derived/Test/ToyasCard.lean, 'card_holds'). Laid BY PROGRAM, IN A SANDBOX (cutbox-door.mjs). By AI agents, Wed Nov 11 2026. No macro, syntax, notation, axiom, sorry.
-/
import Derived.Test.YthcicmbkkkhifaaGreatDoorRows
import GoSem.ClaimSeven
namespace Go.Proofs.YthcicmbkkkhifaaGreatDoor
namespace Rows

/-- THE TIED CARD OF 'hornbooklaw09.BatchLost'. -/
def batchLostCard : Claim7 := { stood := { row := batchLostRow, standIns := [], harness := (true, "c048a571ece52847d72df2f3e9fc80ee4e37b16203c59027f19099a37f410831"), looks := true }, kinds := [], alts := [], laidByText := true, laidKinds := [.sentinel, .sentinel, .sentinel, .sentinel, .sentinel, .sentinel, .sentinel, .sentinel, .sentinel, .sentinel, .sentinel, .sentinel], laidTests := true, laidLooks := .later }
def BatchLostCardSaid : Prop := Claim7.holds Tryz.pinned (.plain (OpenSpec.ofChange batchLostSpec)) batchLostCard

/-- THE TIED CARD OF 'hornbooklaw09.BatchPlays'. -/
def batchPlaysCard : Claim7 := { stood := { row := batchPlaysRow, standIns := [], harness := (true, "c048a571ece52847d72df2f3e9fc80ee4e37b16203c59027f19099a37f410831"), looks := true }, kinds := [], alts := [], laidByText := true, laidKinds := [.sentinel, .sentinel, .sentinel, .sentinel, .sentinel, .sentinel, .sentinel, .sentinel, .sentinel, .sentinel, .sentinel, .sentinel], laidTests := true, laidLooks := .later }
def BatchPlaysCardSaid : Prop := Claim7.holds Tryz.pinned (.plain (OpenSpec.ofChange batchPlaysSpec)) batchPlaysCard

/-- THE SECOND FORM's CARD OF 'hornbooklaw09.BatchLost'. -/
def batchLostUptoCard : Claim7 := { stood := { row := batchLostUptoRow, standIns := [], harness := (true, "c048a571ece52847d72df2f3e9fc80ee4e37b16203c59027f19099a37f410831"), looks := true }, kinds := [], alts := [], laidByText := true, laidKinds := [.sentinel, .sentinel, .sentinel, .sentinel, .sentinel, .sentinel, .sentinel, .sentinel, .sentinel, .sentinel, .sentinel, .sentinel], laidTests := true, laidLooks := .later }
def BatchLostUptoCardSaid : Prop := Claim7.holds Tryz.pinned (.plain (OpenSpec.upto batchLostSpec)) batchLostUptoCard

/-- THE SECOND FORM's CARD OF 'hornbooklaw09.BatchPlays'. -/
def batchPlaysUptoCard : Claim7 := { stood := { row := batchPlaysUptoRow, standIns := [], harness := (true, "c048a571ece52847d72df2f3e9fc80ee4e37b16203c59027f19099a37f410831"), looks := true }, kinds := [], alts := [], laidByText := true, laidKinds := [.sentinel, .sentinel, .sentinel, .sentinel, .sentinel, .sentinel, .sentinel, .sentinel, .sentinel, .sentinel, .sentinel, .sentinel], laidTests := true, laidLooks := .later }
def BatchPlaysUptoCardSaid : Prop := Claim7.holds Tryz.pinned (.plain (OpenSpec.upto batchPlaysSpec)) batchPlaysUptoCard
end Rows
end Go.Proofs.YthcicmbkkkhifaaGreatDoor

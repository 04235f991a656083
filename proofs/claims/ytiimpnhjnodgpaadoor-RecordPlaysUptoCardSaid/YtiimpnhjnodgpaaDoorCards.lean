/-
  DERIVED. GIVEN WITH THE SEED: THE CARDS: each row of YtiimpnhjnodgpaaDoorRows.lean that lists a variable, with what it lists TIED to the program's text (the seventh form; the later family's looks); each row that meets fmt, with fmt's text TOLD by the authors' own Lean function (tested against real Go, not proved from fmt's source: count such statements apart). THE CARD IS WHAT COUNTS. Prove the row's statement (the work); the ties are given (YtiimpnhjnodgpaaDoorTie.lean); close each card by the builder's one call (the guide's Derived/Test/ToyasCard.lean, 'card_holds'). Laid BY PROGRAM, IN A SANDBOX (cutbox-door.mjs). By AI agents, Wed Nov 11 2026. No macro, syntax, notation, axiom, sorry.
-/
import Derived.Test.YtiimpnhjnodgpaaDoorRows
import GoSem.ClaimSeven
namespace Go.Proofs.YtiimpnhjnodgpaaDoor
namespace Rows

/-- THE TIED CARD OF 'hornbooklaw08.StreamsRecorded'. -/
def streamsRecordedCard : Claim7 := { stood := { row := streamsRecordedRow, standIns := [], harness := (true, "344ee2ca6d3cac19c40759326ac0e51ca7394c4c3e129fbd2c6d8771f8cf07c3"), looks := true }, kinds := [], alts := [], laidByText := true, laidKinds := [.sentinel, .sentinel, .sentinel, .sentinel, .sentinel, .sentinel, .sentinel, .sentinel, .sentinel, .sentinel], laidTests := true, laidLooks := .later }
def StreamsRecordedCardSaid : Prop := Claim7.holds Tryd.pinned (.plain (OpenSpec.ofChange streamsRecordedSpec)) streamsRecordedCard

/-- THE TIED CARD OF 'hornbooklaw06.RecordPlays'. -/
def recordPlaysCard : Claim7 := { stood := { row := recordPlaysRow, standIns := [], harness := (true, "344ee2ca6d3cac19c40759326ac0e51ca7394c4c3e129fbd2c6d8771f8cf07c3"), looks := true }, kinds := [], alts := [], laidByText := true, laidKinds := [.sentinel, .sentinel, .sentinel, .sentinel, .sentinel, .sentinel, .sentinel, .sentinel, .sentinel, .sentinel, .sentinel, .sentinel], laidTests := true, laidLooks := .later }
def RecordPlaysCardSaid : Prop := Claim7.holds Tryd.pinned (.plain (OpenSpec.ofChange recordPlaysSpec)) recordPlaysCard

/-- THE SECOND FORM's CARD OF 'hornbooklaw08.StreamsRecorded'. -/
def streamsRecordedUptoCard : Claim7 := { stood := { row := streamsRecordedUptoRow, standIns := [], harness := (true, "344ee2ca6d3cac19c40759326ac0e51ca7394c4c3e129fbd2c6d8771f8cf07c3"), looks := true }, kinds := [], alts := [], laidByText := true, laidKinds := [.sentinel, .sentinel, .sentinel, .sentinel, .sentinel, .sentinel, .sentinel, .sentinel, .sentinel, .sentinel], laidTests := true, laidLooks := .later }
def StreamsRecordedUptoCardSaid : Prop := Claim7.holds Tryd.pinned (.plain (OpenSpec.upto streamsRecordedSpec)) streamsRecordedUptoCard

/-- THE SECOND FORM's CARD OF 'hornbooklaw06.RecordPlays'. -/
def recordPlaysUptoCard : Claim7 := { stood := { row := recordPlaysUptoRow, standIns := [], harness := (true, "344ee2ca6d3cac19c40759326ac0e51ca7394c4c3e129fbd2c6d8771f8cf07c3"), looks := true }, kinds := [], alts := [], laidByText := true, laidKinds := [.sentinel, .sentinel, .sentinel, .sentinel, .sentinel, .sentinel, .sentinel, .sentinel, .sentinel, .sentinel, .sentinel, .sentinel], laidTests := true, laidLooks := .later }
def RecordPlaysUptoCardSaid : Prop := Claim7.holds Tryd.pinned (.plain (OpenSpec.upto recordPlaysSpec)) recordPlaysUptoCard
end Rows
end Go.Proofs.YtiimpnhjnodgpaaDoor

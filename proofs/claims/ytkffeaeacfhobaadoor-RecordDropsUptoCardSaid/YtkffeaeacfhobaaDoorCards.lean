/-
  DERIVED. GIVEN WITH THE SEED: THE CARDS: each row of YtkffeaeacfhobaaDoorRows.lean that lists a variable, with what it lists TIED to the program's text (the seventh form; the later family's looks); each row that meets fmt, with fmt's text TOLD by the authors' own Lean function (tested against real Go, not proved from fmt's source: count such statements apart). THE CARD IS WHAT COUNTS. Prove the row's statement (the work); the ties are given (YtkffeaeacfhobaaDoorTie.lean); close each card by the builder's one call (the guide's Derived/Test/ToyasCard.lean, 'card_holds'). Laid BY PROGRAM, IN A SANDBOX (cutbox-door.mjs). By AI agents, Wed Nov 11 2026. No macro, syntax, notation, axiom, sorry.
-/
import Derived.Test.YtkffeaeacfhobaaDoorRows
import GoSem.ClaimSeven
namespace Go.Proofs.YtkffeaeacfhobaaDoor
namespace Rows

/-- THE TIED CARD OF 'hornbooklaw06.RecordStreams'. -/
def recordStreamsCard : Claim7 := { stood := { row := recordStreamsRow, standIns := [], harness := (true, "7875b73a97dfae54674da2271fa8b8260e8fce82917ac6553cc930fe8a720027"), looks := true }, kinds := [], alts := [], laidByText := true, laidKinds := [.sentinel, .sentinel, .sentinel, .sentinel, .sentinel, .sentinel, .sentinel, .sentinel, .sentinel, .sentinel, .sentinel, .sentinel], laidTests := true, laidLooks := .later }
def RecordStreamsCardSaid : Prop := Claim7.holds Tryd.pinned (.plain (OpenSpec.ofChange recordStreamsSpec)) recordStreamsCard

/-- THE TIED CARD OF 'hornbooklaw06.RecordDrops'. -/
def recordDropsCard : Claim7 := { stood := { row := recordDropsRow, standIns := [], harness := (true, "7875b73a97dfae54674da2271fa8b8260e8fce82917ac6553cc930fe8a720027"), looks := true }, kinds := [], alts := [], laidByText := true, laidKinds := [.sentinel, .sentinel, .sentinel, .sentinel, .sentinel, .sentinel, .sentinel, .sentinel, .sentinel, .sentinel, .sentinel], laidTests := true, laidLooks := .later }
def RecordDropsCardSaid : Prop := Claim7.holds Tryd.pinned (.plain (OpenSpec.ofChange recordDropsSpec)) recordDropsCard

/-- THE TIED CARD OF 'hornbooklaw06.RecordPlays'. -/
def recordPlaysCard : Claim7 := { stood := { row := recordPlaysRow, standIns := [], harness := (true, "7875b73a97dfae54674da2271fa8b8260e8fce82917ac6553cc930fe8a720027"), looks := true }, kinds := [], alts := [], laidByText := true, laidKinds := [.sentinel, .sentinel, .sentinel, .sentinel, .sentinel, .sentinel, .sentinel, .sentinel, .sentinel, .sentinel, .sentinel, .sentinel], laidTests := true, laidLooks := .later }
def RecordPlaysCardSaid : Prop := Claim7.holds Tryd.pinned (.plain (OpenSpec.ofChange recordPlaysSpec)) recordPlaysCard

/-- THE SECOND FORM's CARD OF 'hornbooklaw06.RecordStreams'. -/
def recordStreamsUptoCard : Claim7 := { stood := { row := recordStreamsUptoRow, standIns := [], harness := (true, "7875b73a97dfae54674da2271fa8b8260e8fce82917ac6553cc930fe8a720027"), looks := true }, kinds := [], alts := [], laidByText := true, laidKinds := [.sentinel, .sentinel, .sentinel, .sentinel, .sentinel, .sentinel, .sentinel, .sentinel, .sentinel, .sentinel, .sentinel, .sentinel], laidTests := true, laidLooks := .later }
def RecordStreamsUptoCardSaid : Prop := Claim7.holds Tryd.pinned (.plain (OpenSpec.upto recordStreamsSpec)) recordStreamsUptoCard

/-- THE SECOND FORM's CARD OF 'hornbooklaw06.RecordDrops'. -/
def recordDropsUptoCard : Claim7 := { stood := { row := recordDropsUptoRow, standIns := [], harness := (true, "7875b73a97dfae54674da2271fa8b8260e8fce82917ac6553cc930fe8a720027"), looks := true }, kinds := [], alts := [], laidByText := true, laidKinds := [.sentinel, .sentinel, .sentinel, .sentinel, .sentinel, .sentinel, .sentinel, .sentinel, .sentinel, .sentinel, .sentinel], laidTests := true, laidLooks := .later }
def RecordDropsUptoCardSaid : Prop := Claim7.holds Tryd.pinned (.plain (OpenSpec.upto recordDropsSpec)) recordDropsUptoCard

/-- THE SECOND FORM's CARD OF 'hornbooklaw06.RecordPlays'. -/
def recordPlaysUptoCard : Claim7 := { stood := { row := recordPlaysUptoRow, standIns := [], harness := (true, "7875b73a97dfae54674da2271fa8b8260e8fce82917ac6553cc930fe8a720027"), looks := true }, kinds := [], alts := [], laidByText := true, laidKinds := [.sentinel, .sentinel, .sentinel, .sentinel, .sentinel, .sentinel, .sentinel, .sentinel, .sentinel, .sentinel, .sentinel, .sentinel], laidTests := true, laidLooks := .later }
def RecordPlaysUptoCardSaid : Prop := Claim7.holds Tryd.pinned (.plain (OpenSpec.upto recordPlaysSpec)) recordPlaysUptoCard
end Rows
end Go.Proofs.YtkffeaeacfhobaaDoor

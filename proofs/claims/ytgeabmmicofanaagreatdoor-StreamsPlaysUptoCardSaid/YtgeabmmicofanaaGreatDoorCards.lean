/-
  DERIVED. GIVEN WITH THE SEED: THE CARDS: each row of YtgeabmmicofanaaGreatDoorRows.lean that lists a variable, with what it lists TIED to the program's text (the seventh form; the later family's looks); each row that meets fmt, with fmt's text TOLD by the authors' own Lean function (tested against real Go, not proved from fmt's source: count such statements apart). THE CARD IS WHAT COUNTS. Prove the row's statement (the work); the ties are given (YtgeabmmicofanaaGreatDoorTie.lean); close each card by the builder's one call (the guide's Derived/Test/ToyasCard.lean, 'card_holds'). Laid BY PROGRAM, IN A SANDBOX (cutbox-door.mjs). By AI agents, Wed Nov 11 2026. No macro, syntax, notation, axiom, sorry.
-/
import Derived.Test.YtgeabmmicofanaaGreatDoorRows
import GoSem.ClaimSeven
namespace Go.Proofs.YtgeabmmicofanaaGreatDoor
namespace Rows

/-- THE TIED CARD OF 'hornbooklaw08.StreamsPlays'. -/
def streamsPlaysCard : Claim7 := { stood := { row := streamsPlaysRow, standIns := [], harness := (true, "87b366a33857a778696d3d1d0474557faa0904b5093c27f28dcf863c3fa2874e"), looks := false }, kinds := [], alts := [], laidByText := true, laidKinds := [.sentinel, .sentinel, .sentinel, .sentinel, .sentinel, .sentinel, .sentinel, .sentinel, .sentinel, .sentinel], laidTests := true, laidLooks := .later }
def StreamsPlaysCardSaid : Prop := Claim7.holds Tryz.pinned (.plain (OpenSpec.ofChange streamsPlaysSpec)) streamsPlaysCard

/-- THE SECOND FORM's CARD OF 'hornbooklaw08.StreamsPlays'. -/
def streamsPlaysUptoCard : Claim7 := { stood := { row := streamsPlaysUptoRow, standIns := [], harness := (true, "87b366a33857a778696d3d1d0474557faa0904b5093c27f28dcf863c3fa2874e"), looks := false }, kinds := [], alts := [], laidByText := true, laidKinds := [.sentinel, .sentinel, .sentinel, .sentinel, .sentinel, .sentinel, .sentinel, .sentinel, .sentinel, .sentinel], laidTests := true, laidLooks := .later }
def StreamsPlaysUptoCardSaid : Prop := Claim7.holds Tryz.pinned (.plain (OpenSpec.upto streamsPlaysSpec)) streamsPlaysUptoCard
end Rows
end Go.Proofs.YtgeabmmicofanaaGreatDoor

/-
  DERIVED. GIVEN WITH THE SEED: THE CARDS: each row of YthcicmbkkkhifaaDoorRows.lean that lists a variable, with what it lists TIED to the program's text (the seventh form; the later family's looks); each row that meets fmt, with fmt's text TOLD by the authors' own Lean function (tested against real Go, not proved from fmt's source: count such statements apart). THE CARD IS WHAT COUNTS. Prove the row's statement (the work); the ties are given (YthcicmbkkkhifaaDoorTie.lean); close each card by the builder's one call (the guide's Derived/Test/ToyasCard.lean, 'card_holds'). Laid BY PROGRAM, IN A SANDBOX (cutbox-door.mjs). By AI agents, Wed Nov 11 2026. No macro, syntax, notation, axiom, sorry.
-/
import Derived.Test.YthcicmbkkkhifaaDoorRows
import GoSem.ClaimSeven
namespace Go.Proofs.YthcicmbkkkhifaaDoor
namespace Rows

/-- THE TIED CARD OF 'hornbooklaw09.BatchKeeps'. -/
def batchKeepsCard : Claim7 := { stood := { row := batchKeepsRow, standIns := [], harness := (true, "3a21045423db82a17e08bad67b27619796dde713d2101265b545d820f718b7f6"), looks := true }, kinds := [], alts := [], laidByText := true, laidKinds := [.sentinel, .sentinel, .sentinel, .sentinel, .sentinel, .sentinel, .sentinel, .sentinel, .sentinel, .sentinel, .sentinel], laidTests := true, laidLooks := .later }
def BatchKeepsCardSaid : Prop := Claim7.holds Tryd.pinned (.plain (OpenSpec.ofChange batchKeepsSpec)) batchKeepsCard

/-- THE TIED CARD OF 'hornbooklaw09.BatchPieces'. -/
def batchPiecesCard : Claim7 := { stood := { row := batchPiecesRow, standIns := [], harness := (true, "3a21045423db82a17e08bad67b27619796dde713d2101265b545d820f718b7f6"), looks := true }, kinds := [], alts := [], laidByText := true, laidKinds := [.sentinel, .sentinel, .sentinel, .sentinel, .sentinel, .sentinel, .sentinel, .sentinel, .sentinel, .sentinel, .sentinel], laidTests := true, laidLooks := .later }
def BatchPiecesCardSaid : Prop := Claim7.holds Tryd.pinned (.plain (OpenSpec.ofChange batchPiecesSpec)) batchPiecesCard

/-- THE TIED CARD OF 'hornbooklaw09.BatchSorts'. -/
def batchSortsCard : Claim7 := { stood := { row := batchSortsRow, standIns := [], harness := (true, "3a21045423db82a17e08bad67b27619796dde713d2101265b545d820f718b7f6"), looks := true }, kinds := [], alts := [], laidByText := true, laidKinds := [.sentinel, .sentinel, .sentinel, .sentinel, .sentinel, .sentinel, .sentinel, .sentinel, .sentinel, .sentinel, .sentinel], laidTests := true, laidLooks := .later }
def BatchSortsCardSaid : Prop := Claim7.holds Tryd.pinned (.plain (OpenSpec.ofChange batchSortsSpec)) batchSortsCard

/-- THE SECOND FORM's CARD OF 'hornbooklaw09.BatchKeeps'. -/
def batchKeepsUptoCard : Claim7 := { stood := { row := batchKeepsUptoRow, standIns := [], harness := (true, "3a21045423db82a17e08bad67b27619796dde713d2101265b545d820f718b7f6"), looks := true }, kinds := [], alts := [], laidByText := true, laidKinds := [.sentinel, .sentinel, .sentinel, .sentinel, .sentinel, .sentinel, .sentinel, .sentinel, .sentinel, .sentinel, .sentinel], laidTests := true, laidLooks := .later }
def BatchKeepsUptoCardSaid : Prop := Claim7.holds Tryd.pinned (.plain (OpenSpec.upto batchKeepsSpec)) batchKeepsUptoCard

/-- THE SECOND FORM's CARD OF 'hornbooklaw09.BatchPieces'. -/
def batchPiecesUptoCard : Claim7 := { stood := { row := batchPiecesUptoRow, standIns := [], harness := (true, "3a21045423db82a17e08bad67b27619796dde713d2101265b545d820f718b7f6"), looks := true }, kinds := [], alts := [], laidByText := true, laidKinds := [.sentinel, .sentinel, .sentinel, .sentinel, .sentinel, .sentinel, .sentinel, .sentinel, .sentinel, .sentinel, .sentinel], laidTests := true, laidLooks := .later }
def BatchPiecesUptoCardSaid : Prop := Claim7.holds Tryd.pinned (.plain (OpenSpec.upto batchPiecesSpec)) batchPiecesUptoCard

/-- THE SECOND FORM's CARD OF 'hornbooklaw09.BatchSorts'. -/
def batchSortsUptoCard : Claim7 := { stood := { row := batchSortsUptoRow, standIns := [], harness := (true, "3a21045423db82a17e08bad67b27619796dde713d2101265b545d820f718b7f6"), looks := true }, kinds := [], alts := [], laidByText := true, laidKinds := [.sentinel, .sentinel, .sentinel, .sentinel, .sentinel, .sentinel, .sentinel, .sentinel, .sentinel, .sentinel, .sentinel], laidTests := true, laidLooks := .later }
def BatchSortsUptoCardSaid : Prop := Claim7.holds Tryd.pinned (.plain (OpenSpec.upto batchSortsSpec)) batchSortsUptoCard
end Rows
end Go.Proofs.YthcicmbkkkhifaaDoor

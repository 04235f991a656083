/-
  DERIVED. GIVEN WITH THE SEED: THE CARDS: each row of YtadokkffmekndaaGreatDoorRows.lean that lists a variable, with what it lists TIED to the program's text (the seventh form; the later family's looks); each row that meets fmt, with fmt's text TOLD by the authors' own Lean function (tested against real Go, not proved from fmt's source: count such statements apart). THE CARD IS WHAT COUNTS. Prove the row's statement (the work); the ties are given (YtadokkffmekndaaGreatDoorTie.lean); close each card by the builder's one call (the guide's Derived/Test/ToyasCard.lean, 'card_holds'). Laid BY PROGRAM, IN A SANDBOX (cutbox-door.mjs). By AI agents, Wed Nov 11 2026. No macro, syntax, notation, axiom, sorry.
-/
import Derived.Test.YtadokkffmekndaaGreatDoorRows
import GoSem.ClaimSeven
namespace Go.Proofs.YtadokkffmekndaaGreatDoor
namespace Rows

/-- THE TIED CARD OF 'hornbooklaw10.MergeSame'. -/
def mergeSameCard : Claim7 := { stood := { row := mergeSameRow, standIns := [], harness := (true, "13183b11976365e6c57415e43136782a1e1379c84ec5c6bdeb511187f6cf308c"), looks := true }, kinds := [], alts := [], laidByText := true, laidKinds := [.sentinel, .sentinel, .sentinel, .sentinel, .sentinel, .sentinel, .sentinel, .sentinel, .sentinel, .sentinel, .sentinel, .sentinel, .sentinel], laidTests := true, laidLooks := .later }
def MergeSameCardSaid : Prop := Claim7.holds Tryz.pinned (.plain (OpenSpec.ofChange mergeSameSpec)) mergeSameCard

/-- THE TIED CARD OF 'hornbooklaw10.MergeAgain'. -/
def mergeAgainCard : Claim7 := { stood := { row := mergeAgainRow, standIns := [], harness := (true, "13183b11976365e6c57415e43136782a1e1379c84ec5c6bdeb511187f6cf308c"), looks := true }, kinds := [], alts := [], laidByText := true, laidKinds := [.sentinel, .sentinel, .sentinel, .sentinel, .sentinel, .sentinel, .sentinel, .sentinel, .sentinel, .sentinel, .sentinel, .sentinel, .sentinel], laidTests := true, laidLooks := .later }
def MergeAgainCardSaid : Prop := Claim7.holds Tryz.pinned (.plain (OpenSpec.ofChange mergeAgainSpec)) mergeAgainCard

/-- THE TIED CARD OF 'hornbooklaw10.MergeRefuses'. -/
def mergeRefusesCard : Claim7 := { stood := { row := mergeRefusesRow, standIns := [], harness := (true, "13183b11976365e6c57415e43136782a1e1379c84ec5c6bdeb511187f6cf308c"), looks := true }, kinds := [], alts := [], laidByText := true, laidKinds := [.sentinel, .sentinel, .sentinel, .sentinel, .sentinel, .sentinel, .sentinel, .sentinel, .sentinel, .sentinel, .sentinel, .sentinel, .sentinel], laidTests := true, laidLooks := .later }
def MergeRefusesCardSaid : Prop := Claim7.holds Tryz.pinned (.plain (OpenSpec.ofChange mergeRefusesSpec)) mergeRefusesCard

/-- THE TIED CARD OF 'hornbooklaw10.MergeLost'. -/
def mergeLostCard : Claim7 := { stood := { row := mergeLostRow, standIns := [], harness := (true, "13183b11976365e6c57415e43136782a1e1379c84ec5c6bdeb511187f6cf308c"), looks := true }, kinds := [], alts := [], laidByText := true, laidKinds := [.sentinel, .sentinel, .sentinel, .sentinel, .sentinel, .sentinel, .sentinel, .sentinel, .sentinel, .sentinel, .sentinel, .sentinel, .sentinel], laidTests := true, laidLooks := .later }
def MergeLostCardSaid : Prop := Claim7.holds Tryz.pinned (.plain (OpenSpec.ofChange mergeLostSpec)) mergeLostCard

/-- THE TIED CARD OF 'hornbooklaw10.MergePlays'. -/
def mergePlaysCard : Claim7 := { stood := { row := mergePlaysRow, standIns := [], harness := (true, "13183b11976365e6c57415e43136782a1e1379c84ec5c6bdeb511187f6cf308c"), looks := true }, kinds := [], alts := [], laidByText := true, laidKinds := [.sentinel, .sentinel, .sentinel, .sentinel, .sentinel, .sentinel, .sentinel, .sentinel, .sentinel, .sentinel, .sentinel, .sentinel, .sentinel], laidTests := true, laidLooks := .later }
def MergePlaysCardSaid : Prop := Claim7.holds Tryz.pinned (.plain (OpenSpec.ofChange mergePlaysSpec)) mergePlaysCard

/-- THE TIED CARD OF 'hornbooklaw10.MergeSorts'. -/
def mergeSortsCard : Claim7 := { stood := { row := mergeSortsRow, standIns := [], harness := (true, "13183b11976365e6c57415e43136782a1e1379c84ec5c6bdeb511187f6cf308c"), looks := true }, kinds := [], alts := [], laidByText := true, laidKinds := [.sentinel, .sentinel, .sentinel, .sentinel, .sentinel, .sentinel, .sentinel, .sentinel, .sentinel, .sentinel, .sentinel, .sentinel, .sentinel], laidTests := true, laidLooks := .later }
def MergeSortsCardSaid : Prop := Claim7.holds Tryz.pinned (.plain (OpenSpec.ofChange mergeSortsSpec)) mergeSortsCard

/-- THE SECOND FORM's CARD OF 'hornbooklaw10.MergeSame'. -/
def mergeSameUptoCard : Claim7 := { stood := { row := mergeSameUptoRow, standIns := [], harness := (true, "13183b11976365e6c57415e43136782a1e1379c84ec5c6bdeb511187f6cf308c"), looks := true }, kinds := [], alts := [], laidByText := true, laidKinds := [.sentinel, .sentinel, .sentinel, .sentinel, .sentinel, .sentinel, .sentinel, .sentinel, .sentinel, .sentinel, .sentinel, .sentinel, .sentinel], laidTests := true, laidLooks := .later }
def MergeSameUptoCardSaid : Prop := Claim7.holds Tryz.pinned (.plain (OpenSpec.upto mergeSameSpec)) mergeSameUptoCard

/-- THE SECOND FORM's CARD OF 'hornbooklaw10.MergeAgain'. -/
def mergeAgainUptoCard : Claim7 := { stood := { row := mergeAgainUptoRow, standIns := [], harness := (true, "13183b11976365e6c57415e43136782a1e1379c84ec5c6bdeb511187f6cf308c"), looks := true }, kinds := [], alts := [], laidByText := true, laidKinds := [.sentinel, .sentinel, .sentinel, .sentinel, .sentinel, .sentinel, .sentinel, .sentinel, .sentinel, .sentinel, .sentinel, .sentinel, .sentinel], laidTests := true, laidLooks := .later }
def MergeAgainUptoCardSaid : Prop := Claim7.holds Tryz.pinned (.plain (OpenSpec.upto mergeAgainSpec)) mergeAgainUptoCard

/-- THE SECOND FORM's CARD OF 'hornbooklaw10.MergeRefuses'. -/
def mergeRefusesUptoCard : Claim7 := { stood := { row := mergeRefusesUptoRow, standIns := [], harness := (true, "13183b11976365e6c57415e43136782a1e1379c84ec5c6bdeb511187f6cf308c"), looks := true }, kinds := [], alts := [], laidByText := true, laidKinds := [.sentinel, .sentinel, .sentinel, .sentinel, .sentinel, .sentinel, .sentinel, .sentinel, .sentinel, .sentinel, .sentinel, .sentinel, .sentinel], laidTests := true, laidLooks := .later }
def MergeRefusesUptoCardSaid : Prop := Claim7.holds Tryz.pinned (.plain (OpenSpec.upto mergeRefusesSpec)) mergeRefusesUptoCard

/-- THE SECOND FORM's CARD OF 'hornbooklaw10.MergeLost'. -/
def mergeLostUptoCard : Claim7 := { stood := { row := mergeLostUptoRow, standIns := [], harness := (true, "13183b11976365e6c57415e43136782a1e1379c84ec5c6bdeb511187f6cf308c"), looks := true }, kinds := [], alts := [], laidByText := true, laidKinds := [.sentinel, .sentinel, .sentinel, .sentinel, .sentinel, .sentinel, .sentinel, .sentinel, .sentinel, .sentinel, .sentinel, .sentinel, .sentinel], laidTests := true, laidLooks := .later }
def MergeLostUptoCardSaid : Prop := Claim7.holds Tryz.pinned (.plain (OpenSpec.upto mergeLostSpec)) mergeLostUptoCard

/-- THE SECOND FORM's CARD OF 'hornbooklaw10.MergePlays'. -/
def mergePlaysUptoCard : Claim7 := { stood := { row := mergePlaysUptoRow, standIns := [], harness := (true, "13183b11976365e6c57415e43136782a1e1379c84ec5c6bdeb511187f6cf308c"), looks := true }, kinds := [], alts := [], laidByText := true, laidKinds := [.sentinel, .sentinel, .sentinel, .sentinel, .sentinel, .sentinel, .sentinel, .sentinel, .sentinel, .sentinel, .sentinel, .sentinel, .sentinel], laidTests := true, laidLooks := .later }
def MergePlaysUptoCardSaid : Prop := Claim7.holds Tryz.pinned (.plain (OpenSpec.upto mergePlaysSpec)) mergePlaysUptoCard

/-- THE SECOND FORM's CARD OF 'hornbooklaw10.MergeSorts'. -/
def mergeSortsUptoCard : Claim7 := { stood := { row := mergeSortsUptoRow, standIns := [], harness := (true, "13183b11976365e6c57415e43136782a1e1379c84ec5c6bdeb511187f6cf308c"), looks := true }, kinds := [], alts := [], laidByText := true, laidKinds := [.sentinel, .sentinel, .sentinel, .sentinel, .sentinel, .sentinel, .sentinel, .sentinel, .sentinel, .sentinel, .sentinel, .sentinel, .sentinel], laidTests := true, laidLooks := .later }
def MergeSortsUptoCardSaid : Prop := Claim7.holds Tryz.pinned (.plain (OpenSpec.upto mergeSortsSpec)) mergeSortsUptoCard
end Rows
end Go.Proofs.YtadokkffmekndaaGreatDoor

/-
  DERIVED. GIVEN WITH THE SEED: THE CARDS: each row of YtomlkhfmblkpcaaDoorRows.lean that lists a variable, with what it lists TIED to the program's text (the seventh form; the later family's looks); each row that meets fmt, with fmt's text TOLD by the authors' own Lean function (tested against real Go, not proved from fmt's source: count such statements apart). THE CARD IS WHAT COUNTS. Prove the row's statement (the work); the ties are given (YtomlkhfmblkpcaaDoorTie.lean); close each card by the builder's one call (the guide's Derived/Test/ToyasCard.lean, 'card_holds'). Laid BY PROGRAM, IN A SANDBOX (cutbox-door.mjs). By AI agents, Wed Nov 11 2026. No macro, syntax, notation, axiom, sorry.
-/
import Derived.Test.YtomlkhfmblkpcaaDoorRows
import GoSem.ClaimSeven
namespace Go.Proofs.YtomlkhfmblkpcaaDoor
namespace Rows

/-- THE TIED CARD OF 'hornbooklaw05.RunsRoom'. -/
def runsRoomCard : Claim7 := { stood := { row := runsRoomRow, standIns := [], harness := (true, "4ead8b4c03a5b77bdc6704e89e69c281eb8370a058cc3fe606bfe15b9a80227f"), looks := true }, kinds := [], alts := [], laidByText := true, laidKinds := [.sentinel, .sentinel, .sentinel, .sentinel, .sentinel, .sentinel], laidTests := true, laidLooks := .later }
def RunsRoomCardSaid : Prop := Claim7.holds Tryd.pinned (.plain (OpenSpec.ofChange runsRoomSpec)) runsRoomCard

/-- THE TIED CARD OF 'hornbooklaw05.RunsKeeps'. -/
def runsKeepsCard : Claim7 := { stood := { row := runsKeepsRow, standIns := [], harness := (true, "4ead8b4c03a5b77bdc6704e89e69c281eb8370a058cc3fe606bfe15b9a80227f"), looks := true }, kinds := [], alts := [], laidByText := true, laidKinds := [.sentinel, .sentinel, .sentinel, .sentinel, .sentinel, .sentinel], laidTests := true, laidLooks := .later }
def RunsKeepsCardSaid : Prop := Claim7.holds Tryd.pinned (.plain (OpenSpec.ofChange runsKeepsSpec)) runsKeepsCard

/-- THE TIED CARD OF 'hornbooklaw05.RunsPlays'. -/
def runsPlaysCard : Claim7 := { stood := { row := runsPlaysRow, standIns := [], harness := (true, "4ead8b4c03a5b77bdc6704e89e69c281eb8370a058cc3fe606bfe15b9a80227f"), looks := true }, kinds := [], alts := [], laidByText := true, laidKinds := [.sentinel, .sentinel, .sentinel, .sentinel, .sentinel, .sentinel, .sentinel, .sentinel], laidTests := true, laidLooks := .later }
def RunsPlaysCardSaid : Prop := Claim7.holds Tryd.pinned (.plain (OpenSpec.ofChange runsPlaysSpec)) runsPlaysCard

/-- THE TIED CARD OF 'hornbooklaw05.RunsTwins'. -/
def runsTwinsCard : Claim7 := { stood := { row := runsTwinsRow, standIns := [], harness := (true, "4ead8b4c03a5b77bdc6704e89e69c281eb8370a058cc3fe606bfe15b9a80227f"), looks := true }, kinds := [], alts := [], laidByText := true, laidKinds := [.sentinel, .sentinel, .sentinel, .sentinel, .sentinel, .sentinel, .sentinel, .sentinel], laidTests := true, laidLooks := .later }
def RunsTwinsCardSaid : Prop := Claim7.holds Tryd.pinned (.plain (OpenSpec.ofChange runsTwinsSpec)) runsTwinsCard

/-- THE TIED CARD OF 'hornbooklaw05.RunsNone'. -/
def runsNoneCard : Claim7 := { stood := { row := runsNoneRow, standIns := [], harness := (true, "4ead8b4c03a5b77bdc6704e89e69c281eb8370a058cc3fe606bfe15b9a80227f"), looks := true }, kinds := [], alts := [], laidByText := true, laidKinds := [.sentinel, .sentinel, .sentinel, .sentinel, .sentinel, .sentinel, .sentinel, .sentinel], laidTests := true, laidLooks := .later }
def RunsNoneCardSaid : Prop := Claim7.holds Tryd.pinned (.plain (OpenSpec.ofChange runsNoneSpec)) runsNoneCard

/-- THE TIED CARD OF 'hornbooklaw05.RunsHolds'. -/
def runsHoldsCard : Claim7 := { stood := { row := runsHoldsRow, standIns := [], harness := (true, "4ead8b4c03a5b77bdc6704e89e69c281eb8370a058cc3fe606bfe15b9a80227f"), looks := true }, kinds := [], alts := [], laidByText := true, laidKinds := [.sentinel, .sentinel, .sentinel, .sentinel, .sentinel, .sentinel, .sentinel, .sentinel], laidTests := true, laidLooks := .later }
def RunsHoldsCardSaid : Prop := Claim7.holds Tryd.pinned (.plain (OpenSpec.ofChange runsHoldsSpec)) runsHoldsCard

/-- THE TIED CARD OF 'hornbooklaw05.RunsRefuses'. -/
def runsRefusesCard : Claim7 := { stood := { row := runsRefusesRow, standIns := [], harness := (true, "4ead8b4c03a5b77bdc6704e89e69c281eb8370a058cc3fe606bfe15b9a80227f"), looks := true }, kinds := [], alts := [], laidByText := true, laidKinds := [.sentinel, .sentinel, .sentinel, .sentinel, .sentinel, .sentinel, .sentinel, .sentinel], laidTests := true, laidLooks := .later }
def RunsRefusesCardSaid : Prop := Claim7.holds Tryd.pinned (.plain (OpenSpec.ofChange runsRefusesSpec)) runsRefusesCard

/-- THE TIED CARD OF 'hornbooklaw05.RunsBreaks'. -/
def runsBreaksCard : Claim7 := { stood := { row := runsBreaksRow, standIns := [], harness := (true, "4ead8b4c03a5b77bdc6704e89e69c281eb8370a058cc3fe606bfe15b9a80227f"), looks := true }, kinds := [], alts := [], laidByText := true, laidKinds := [.sentinel, .sentinel, .sentinel, .sentinel, .sentinel, .sentinel, .sentinel, .sentinel], laidTests := true, laidLooks := .later }
def RunsBreaksCardSaid : Prop := Claim7.holds Tryd.pinned (.plain (OpenSpec.ofChange runsBreaksSpec)) runsBreaksCard

/-- THE SECOND FORM's CARD OF 'hornbooklaw05.RunsRoom'. -/
def runsRoomUptoCard : Claim7 := { stood := { row := runsRoomUptoRow, standIns := [], harness := (true, "4ead8b4c03a5b77bdc6704e89e69c281eb8370a058cc3fe606bfe15b9a80227f"), looks := true }, kinds := [], alts := [], laidByText := true, laidKinds := [.sentinel, .sentinel, .sentinel, .sentinel, .sentinel, .sentinel], laidTests := true, laidLooks := .later }
def RunsRoomUptoCardSaid : Prop := Claim7.holds Tryd.pinned (.plain (OpenSpec.upto runsRoomSpec)) runsRoomUptoCard

/-- THE SECOND FORM's CARD OF 'hornbooklaw05.RunsKeeps'. -/
def runsKeepsUptoCard : Claim7 := { stood := { row := runsKeepsUptoRow, standIns := [], harness := (true, "4ead8b4c03a5b77bdc6704e89e69c281eb8370a058cc3fe606bfe15b9a80227f"), looks := true }, kinds := [], alts := [], laidByText := true, laidKinds := [.sentinel, .sentinel, .sentinel, .sentinel, .sentinel, .sentinel], laidTests := true, laidLooks := .later }
def RunsKeepsUptoCardSaid : Prop := Claim7.holds Tryd.pinned (.plain (OpenSpec.upto runsKeepsSpec)) runsKeepsUptoCard

/-- THE SECOND FORM's CARD OF 'hornbooklaw05.RunsPlays'. -/
def runsPlaysUptoCard : Claim7 := { stood := { row := runsPlaysUptoRow, standIns := [], harness := (true, "4ead8b4c03a5b77bdc6704e89e69c281eb8370a058cc3fe606bfe15b9a80227f"), looks := true }, kinds := [], alts := [], laidByText := true, laidKinds := [.sentinel, .sentinel, .sentinel, .sentinel, .sentinel, .sentinel, .sentinel, .sentinel], laidTests := true, laidLooks := .later }
def RunsPlaysUptoCardSaid : Prop := Claim7.holds Tryd.pinned (.plain (OpenSpec.upto runsPlaysSpec)) runsPlaysUptoCard

/-- THE SECOND FORM's CARD OF 'hornbooklaw05.RunsTwins'. -/
def runsTwinsUptoCard : Claim7 := { stood := { row := runsTwinsUptoRow, standIns := [], harness := (true, "4ead8b4c03a5b77bdc6704e89e69c281eb8370a058cc3fe606bfe15b9a80227f"), looks := true }, kinds := [], alts := [], laidByText := true, laidKinds := [.sentinel, .sentinel, .sentinel, .sentinel, .sentinel, .sentinel, .sentinel, .sentinel], laidTests := true, laidLooks := .later }
def RunsTwinsUptoCardSaid : Prop := Claim7.holds Tryd.pinned (.plain (OpenSpec.upto runsTwinsSpec)) runsTwinsUptoCard

/-- THE SECOND FORM's CARD OF 'hornbooklaw05.RunsNone'. -/
def runsNoneUptoCard : Claim7 := { stood := { row := runsNoneUptoRow, standIns := [], harness := (true, "4ead8b4c03a5b77bdc6704e89e69c281eb8370a058cc3fe606bfe15b9a80227f"), looks := true }, kinds := [], alts := [], laidByText := true, laidKinds := [.sentinel, .sentinel, .sentinel, .sentinel, .sentinel, .sentinel, .sentinel, .sentinel], laidTests := true, laidLooks := .later }
def RunsNoneUptoCardSaid : Prop := Claim7.holds Tryd.pinned (.plain (OpenSpec.upto runsNoneSpec)) runsNoneUptoCard

/-- THE SECOND FORM's CARD OF 'hornbooklaw05.RunsHolds'. -/
def runsHoldsUptoCard : Claim7 := { stood := { row := runsHoldsUptoRow, standIns := [], harness := (true, "4ead8b4c03a5b77bdc6704e89e69c281eb8370a058cc3fe606bfe15b9a80227f"), looks := true }, kinds := [], alts := [], laidByText := true, laidKinds := [.sentinel, .sentinel, .sentinel, .sentinel, .sentinel, .sentinel, .sentinel, .sentinel], laidTests := true, laidLooks := .later }
def RunsHoldsUptoCardSaid : Prop := Claim7.holds Tryd.pinned (.plain (OpenSpec.upto runsHoldsSpec)) runsHoldsUptoCard

/-- THE SECOND FORM's CARD OF 'hornbooklaw05.RunsRefuses'. -/
def runsRefusesUptoCard : Claim7 := { stood := { row := runsRefusesUptoRow, standIns := [], harness := (true, "4ead8b4c03a5b77bdc6704e89e69c281eb8370a058cc3fe606bfe15b9a80227f"), looks := true }, kinds := [], alts := [], laidByText := true, laidKinds := [.sentinel, .sentinel, .sentinel, .sentinel, .sentinel, .sentinel, .sentinel, .sentinel], laidTests := true, laidLooks := .later }
def RunsRefusesUptoCardSaid : Prop := Claim7.holds Tryd.pinned (.plain (OpenSpec.upto runsRefusesSpec)) runsRefusesUptoCard

/-- THE SECOND FORM's CARD OF 'hornbooklaw05.RunsBreaks'. -/
def runsBreaksUptoCard : Claim7 := { stood := { row := runsBreaksUptoRow, standIns := [], harness := (true, "4ead8b4c03a5b77bdc6704e89e69c281eb8370a058cc3fe606bfe15b9a80227f"), looks := true }, kinds := [], alts := [], laidByText := true, laidKinds := [.sentinel, .sentinel, .sentinel, .sentinel, .sentinel, .sentinel, .sentinel, .sentinel], laidTests := true, laidLooks := .later }
def RunsBreaksUptoCardSaid : Prop := Claim7.holds Tryd.pinned (.plain (OpenSpec.upto runsBreaksSpec)) runsBreaksUptoCard
end Rows
end Go.Proofs.YtomlkhfmblkpcaaDoor

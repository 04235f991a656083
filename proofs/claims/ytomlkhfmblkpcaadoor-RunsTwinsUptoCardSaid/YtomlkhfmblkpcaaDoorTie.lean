/-
  DERIVED. GIVEN WITH THE SEED: THE PROGRAM's TIES (one call each: nine closed facts by the kernel) AND EACH ROW's TIE, after the 31st guide's Derived/Test/Toyas{Tie, Card}.lean. No idea stands in it: it is a product of the set-up. Laid BY PROGRAM, IN A SANDBOX (cutbox-door.mjs). By AI agents, Wed Nov 11 2026. No macro, syntax, notation, axiom, sorry.
-/
import Derived.Test.YtomlkhfmblkpcaaDoorRows
import Derived.LaidByTextLater
import Derived.SevenTiedAt
import Derived.LaidSub
import Derived.LaidOnce
namespace Go.Proofs.YtomlkhfmblkpcaaDoor
open Go
set_option maxRecDepth 100000
theorem seatTie1 : Tryd.prog.laidByTextLater [("hornbook/api.FailNil", Rows.laid_hornbook_api_FailNil), ("hornbook/api.FailNoRun", Rows.laid_hornbook_api_FailNoRun), ("hornbook/api.FailSealed", Rows.laid_hornbook_api_FailSealed), ("hornbook/api.FailOpen", Rows.laid_hornbook_api_FailOpen), ("hornbook/api.FailRange", Rows.laid_hornbook_api_FailRange), ("hornbook/api.FailFull", Rows.laid_hornbook_api_FailFull), ("hornbook/api.FailSpent", Rows.laid_hornbook_api_FailSpent), ("hornbook/api.FailBroken", Rows.laid_hornbook_api_FailBroken)] [.sentinel, .sentinel, .sentinel, .sentinel, .sentinel, .sentinel, .sentinel, .sentinel] true :=
  Program.laidByTextLater_by_one 161 8 2 (by kernel_rfl) (by kernel_rfl) (by kernel_rfl) (by kernel_rfl) (by kernel_rfl) (by kernel_rfl) (fun _ _ => by kernel_rfl)
theorem noOwnUnsafe : Tryd.pinned.checked.prog.headLifts.contains "ownunsafe" = false := by kernel_rfl
theorem tie : Tryd.prog.laidByTextLater [("hornbook/api.FailNil", Rows.laid_hornbook_api_FailNil), ("hornbook/api.FailNoRun", Rows.laid_hornbook_api_FailNoRun), ("hornbook/api.FailSealed", Rows.laid_hornbook_api_FailSealed), ("hornbook/api.FailFull", Rows.laid_hornbook_api_FailFull), ("hornbook/api.FailSpent", Rows.laid_hornbook_api_FailSpent), ("hornbook/api.FailBroken", Rows.laid_hornbook_api_FailBroken)] [.sentinel, .sentinel, .sentinel, .sentinel, .sentinel, .sentinel] true :=
  Program.laidByTextLater.sub seatTie1 ["hornbook/api.FailNil", "hornbook/api.FailNoRun", "hornbook/api.FailSealed", "hornbook/api.FailFull", "hornbook/api.FailSpent", "hornbook/api.FailBroken"] (by kernel_rfl) (by kernel_rfl)
theorem runsRoom_row_tie : Rows.runsRoomRow.laidByTextAt .later Tryd.pinned [.sentinel, .sentinel, .sentinel, .sentinel, .sentinel, .sentinel] true :=
  OpenClaim.laidByTextAt_later rfl rfl tie noOwnUnsafe
theorem runsKeeps_row_tie : Rows.runsKeepsRow.laidByTextAt .later Tryd.pinned [.sentinel, .sentinel, .sentinel, .sentinel, .sentinel, .sentinel] true :=
  OpenClaim.laidByTextAt_later rfl rfl tie noOwnUnsafe
theorem tie2 : Tryd.prog.laidByTextLater [("hornbook/api.FailNil", Rows.laid_hornbook_api_FailNil), ("hornbook/api.FailNoRun", Rows.laid_hornbook_api_FailNoRun), ("hornbook/api.FailSealed", Rows.laid_hornbook_api_FailSealed), ("hornbook/api.FailOpen", Rows.laid_hornbook_api_FailOpen), ("hornbook/api.FailRange", Rows.laid_hornbook_api_FailRange), ("hornbook/api.FailFull", Rows.laid_hornbook_api_FailFull), ("hornbook/api.FailSpent", Rows.laid_hornbook_api_FailSpent), ("hornbook/api.FailBroken", Rows.laid_hornbook_api_FailBroken)] [.sentinel, .sentinel, .sentinel, .sentinel, .sentinel, .sentinel, .sentinel, .sentinel] true :=
  Program.laidByTextLater.sub seatTie1 ["hornbook/api.FailNil", "hornbook/api.FailNoRun", "hornbook/api.FailSealed", "hornbook/api.FailOpen", "hornbook/api.FailRange", "hornbook/api.FailFull", "hornbook/api.FailSpent", "hornbook/api.FailBroken"] (by kernel_rfl) (by kernel_rfl)
theorem runsPlays_row_tie : Rows.runsPlaysRow.laidByTextAt .later Tryd.pinned [.sentinel, .sentinel, .sentinel, .sentinel, .sentinel, .sentinel, .sentinel, .sentinel] true :=
  OpenClaim.laidByTextAt_later rfl rfl tie2 noOwnUnsafe
theorem runsTwins_row_tie : Rows.runsTwinsRow.laidByTextAt .later Tryd.pinned [.sentinel, .sentinel, .sentinel, .sentinel, .sentinel, .sentinel, .sentinel, .sentinel] true :=
  OpenClaim.laidByTextAt_later rfl rfl tie2 noOwnUnsafe
theorem runsNone_row_tie : Rows.runsNoneRow.laidByTextAt .later Tryd.pinned [.sentinel, .sentinel, .sentinel, .sentinel, .sentinel, .sentinel, .sentinel, .sentinel] true :=
  OpenClaim.laidByTextAt_later rfl rfl tie2 noOwnUnsafe
theorem runsHolds_row_tie : Rows.runsHoldsRow.laidByTextAt .later Tryd.pinned [.sentinel, .sentinel, .sentinel, .sentinel, .sentinel, .sentinel, .sentinel, .sentinel] true :=
  OpenClaim.laidByTextAt_later rfl rfl tie2 noOwnUnsafe
theorem runsRefuses_row_tie : Rows.runsRefusesRow.laidByTextAt .later Tryd.pinned [.sentinel, .sentinel, .sentinel, .sentinel, .sentinel, .sentinel, .sentinel, .sentinel] true :=
  OpenClaim.laidByTextAt_later rfl rfl tie2 noOwnUnsafe
theorem runsBreaks_row_tie : Rows.runsBreaksRow.laidByTextAt .later Tryd.pinned [.sentinel, .sentinel, .sentinel, .sentinel, .sentinel, .sentinel, .sentinel, .sentinel] true :=
  OpenClaim.laidByTextAt_later rfl rfl tie2 noOwnUnsafe
theorem runsRoomUpto_row_tie : Rows.runsRoomUptoRow.laidByTextAt .later Tryd.pinned [.sentinel, .sentinel, .sentinel, .sentinel, .sentinel, .sentinel] true :=
  OpenClaim.laidByTextAt_later rfl rfl tie noOwnUnsafe
theorem runsKeepsUpto_row_tie : Rows.runsKeepsUptoRow.laidByTextAt .later Tryd.pinned [.sentinel, .sentinel, .sentinel, .sentinel, .sentinel, .sentinel] true :=
  OpenClaim.laidByTextAt_later rfl rfl tie noOwnUnsafe
theorem runsPlaysUpto_row_tie : Rows.runsPlaysUptoRow.laidByTextAt .later Tryd.pinned [.sentinel, .sentinel, .sentinel, .sentinel, .sentinel, .sentinel, .sentinel, .sentinel] true :=
  OpenClaim.laidByTextAt_later rfl rfl tie2 noOwnUnsafe
theorem runsTwinsUpto_row_tie : Rows.runsTwinsUptoRow.laidByTextAt .later Tryd.pinned [.sentinel, .sentinel, .sentinel, .sentinel, .sentinel, .sentinel, .sentinel, .sentinel] true :=
  OpenClaim.laidByTextAt_later rfl rfl tie2 noOwnUnsafe
theorem runsNoneUpto_row_tie : Rows.runsNoneUptoRow.laidByTextAt .later Tryd.pinned [.sentinel, .sentinel, .sentinel, .sentinel, .sentinel, .sentinel, .sentinel, .sentinel] true :=
  OpenClaim.laidByTextAt_later rfl rfl tie2 noOwnUnsafe
theorem runsHoldsUpto_row_tie : Rows.runsHoldsUptoRow.laidByTextAt .later Tryd.pinned [.sentinel, .sentinel, .sentinel, .sentinel, .sentinel, .sentinel, .sentinel, .sentinel] true :=
  OpenClaim.laidByTextAt_later rfl rfl tie2 noOwnUnsafe
theorem runsRefusesUpto_row_tie : Rows.runsRefusesUptoRow.laidByTextAt .later Tryd.pinned [.sentinel, .sentinel, .sentinel, .sentinel, .sentinel, .sentinel, .sentinel, .sentinel] true :=
  OpenClaim.laidByTextAt_later rfl rfl tie2 noOwnUnsafe
theorem runsBreaksUpto_row_tie : Rows.runsBreaksUptoRow.laidByTextAt .later Tryd.pinned [.sentinel, .sentinel, .sentinel, .sentinel, .sentinel, .sentinel, .sentinel, .sentinel] true :=
  OpenClaim.laidByTextAt_later rfl rfl tie2 noOwnUnsafe
end Go.Proofs.YtomlkhfmblkpcaaDoor

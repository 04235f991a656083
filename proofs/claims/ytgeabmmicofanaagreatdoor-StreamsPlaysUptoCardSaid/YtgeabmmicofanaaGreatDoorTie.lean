/-
  DERIVED. GIVEN WITH THE SEED: THE PROGRAM's TIES (one call each: nine closed facts by the kernel) AND EACH ROW's TIE, after the 31st guide's Derived/Test/Toyas{Tie, Card}.lean. No idea stands in it: it is a product of the set-up. Laid BY PROGRAM, IN A SANDBOX (cutbox-door.mjs). By AI agents, Wed Nov 11 2026. No macro, syntax, notation, axiom, sorry.
-/
import Derived.Test.YtgeabmmicofanaaGreatDoorRows
import Derived.LaidByTextLater
import Derived.SevenTiedAt
import Derived.LaidSub
import Derived.LaidOnce
namespace Go.Proofs.YtgeabmmicofanaaGreatDoor
open Go
set_option maxRecDepth 100000
theorem seatTie1 : Tryz.prog.laidByTextLater [("hornbook/api.FailNil", Rows.laid_hornbook_api_FailNil), ("hornbook/api.FailLimits", Rows.laid_hornbook_api_FailLimits), ("hornbook/api.FailNoRun", Rows.laid_hornbook_api_FailNoRun), ("hornbook/api.FailSealed", Rows.laid_hornbook_api_FailSealed), ("hornbook/api.FailOpen", Rows.laid_hornbook_api_FailOpen), ("hornbook/api.FailRange", Rows.laid_hornbook_api_FailRange), ("hornbook/api.FailFull", Rows.laid_hornbook_api_FailFull), ("hornbook/api.FailSpent", Rows.laid_hornbook_api_FailSpent), ("hornbook/api.FailBroken", Rows.laid_hornbook_api_FailBroken), ("hornbook/api.FailTorn", Rows.laid_hornbook_api_FailTorn)] [.sentinel, .sentinel, .sentinel, .sentinel, .sentinel, .sentinel, .sentinel, .sentinel, .sentinel, .sentinel] true :=
  Program.laidByTextLater_by_one 199 8 2 (by kernel_rfl) (by kernel_rfl) (by kernel_rfl) (by kernel_rfl) (by kernel_rfl) (by kernel_rfl) (fun _ _ => by kernel_rfl)
theorem noOwnUnsafe : Tryz.pinned.checked.prog.headLifts.contains "ownunsafe" = false := by kernel_rfl
theorem tie : Tryz.prog.laidByTextLater [("hornbook/api.FailNil", Rows.laid_hornbook_api_FailNil), ("hornbook/api.FailLimits", Rows.laid_hornbook_api_FailLimits), ("hornbook/api.FailNoRun", Rows.laid_hornbook_api_FailNoRun), ("hornbook/api.FailSealed", Rows.laid_hornbook_api_FailSealed), ("hornbook/api.FailOpen", Rows.laid_hornbook_api_FailOpen), ("hornbook/api.FailRange", Rows.laid_hornbook_api_FailRange), ("hornbook/api.FailFull", Rows.laid_hornbook_api_FailFull), ("hornbook/api.FailSpent", Rows.laid_hornbook_api_FailSpent), ("hornbook/api.FailBroken", Rows.laid_hornbook_api_FailBroken), ("hornbook/api.FailTorn", Rows.laid_hornbook_api_FailTorn)] [.sentinel, .sentinel, .sentinel, .sentinel, .sentinel, .sentinel, .sentinel, .sentinel, .sentinel, .sentinel] true :=
  Program.laidByTextLater.sub seatTie1 ["hornbook/api.FailNil", "hornbook/api.FailLimits", "hornbook/api.FailNoRun", "hornbook/api.FailSealed", "hornbook/api.FailOpen", "hornbook/api.FailRange", "hornbook/api.FailFull", "hornbook/api.FailSpent", "hornbook/api.FailBroken", "hornbook/api.FailTorn"] (by kernel_rfl) (by kernel_rfl)
theorem streamsPlays_row_tie : Rows.streamsPlaysRow.laidByTextAt .later Tryz.pinned [.sentinel, .sentinel, .sentinel, .sentinel, .sentinel, .sentinel, .sentinel, .sentinel, .sentinel, .sentinel] true :=
  OpenClaim.laidByTextAt_later rfl rfl tie noOwnUnsafe
theorem streamsPlaysUpto_row_tie : Rows.streamsPlaysUptoRow.laidByTextAt .later Tryz.pinned [.sentinel, .sentinel, .sentinel, .sentinel, .sentinel, .sentinel, .sentinel, .sentinel, .sentinel, .sentinel] true :=
  OpenClaim.laidByTextAt_later rfl rfl tie noOwnUnsafe
end Go.Proofs.YtgeabmmicofanaaGreatDoor

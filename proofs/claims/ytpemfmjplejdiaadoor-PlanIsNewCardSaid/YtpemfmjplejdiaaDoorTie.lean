/-
  DERIVED. GIVEN WITH THE SEED: THE PROGRAM's TIES (one call each: nine closed facts by the kernel) AND EACH ROW's TIE, after the 31st guide's Derived/Test/Toyas{Tie, Card}.lean. No idea stands in it: it is a product of the set-up. Laid BY PROGRAM, IN A SANDBOX (cutbox-door.mjs). By AI agents, Wed Nov 11 2026. No macro, syntax, notation, axiom, sorry.
-/
import Derived.Test.YtpemfmjplejdiaaDoorRows
import Derived.LaidByTextLater
import Derived.SevenTiedAt
import Derived.LaidSub
import Derived.LaidOnce
namespace Go.Proofs.YtpemfmjplejdiaaDoor
open Go
set_option maxRecDepth 100000
theorem seatTie1 : Tryd.prog.laidByTextLater [("pintle/api.ErrArg", Rows.laid_pintle_api_ErrArg), ("pintle/api.ErrLong", Rows.laid_pintle_api_ErrLong), ("pintle/api.ErrText", Rows.laid_pintle_api_ErrText), ("pintle/api.ErrInvalid", Rows.laid_pintle_api_ErrInvalid), ("pintle/api.ErrTwice", Rows.laid_pintle_api_ErrTwice), ("pintle/api.ErrLacks", Rows.laid_pintle_api_ErrLacks), ("pintle/api.ErrUnsafe", Rows.laid_pintle_api_ErrUnsafe), ("pintle/api.ErrName", Rows.laid_pintle_api_ErrName)] [.sentinel, .sentinel, .sentinel, .sentinel, .sentinel, .sentinel, .sentinel, .sentinel] true :=
  Program.laidByTextLater_by_one 161 8 2 (by kernel_rfl) (by kernel_rfl) (by kernel_rfl) (by kernel_rfl) (by kernel_rfl) (by kernel_rfl) (fun _ _ => by kernel_rfl)
theorem noOwnUnsafe : Tryd.pinned.checked.prog.headLifts.contains "ownunsafe" = false := by kernel_rfl
theorem tie : Tryd.prog.laidByTextLater [("pintle/api.ErrArg", Rows.laid_pintle_api_ErrArg), ("pintle/api.ErrLong", Rows.laid_pintle_api_ErrLong), ("pintle/api.ErrText", Rows.laid_pintle_api_ErrText), ("pintle/api.ErrInvalid", Rows.laid_pintle_api_ErrInvalid), ("pintle/api.ErrTwice", Rows.laid_pintle_api_ErrTwice), ("pintle/api.ErrLacks", Rows.laid_pintle_api_ErrLacks), ("pintle/api.ErrUnsafe", Rows.laid_pintle_api_ErrUnsafe), ("pintle/api.ErrName", Rows.laid_pintle_api_ErrName)] [.sentinel, .sentinel, .sentinel, .sentinel, .sentinel, .sentinel, .sentinel, .sentinel] true :=
  Program.laidByTextLater.sub seatTie1 ["pintle/api.ErrArg", "pintle/api.ErrLong", "pintle/api.ErrText", "pintle/api.ErrInvalid", "pintle/api.ErrTwice", "pintle/api.ErrLacks", "pintle/api.ErrUnsafe", "pintle/api.ErrName"] (by kernel_rfl) (by kernel_rfl)
theorem planUnrolls_row_tie : Rows.planUnrollsRow.laidByTextAt .later Tryd.pinned [.sentinel, .sentinel, .sentinel, .sentinel, .sentinel, .sentinel, .sentinel, .sentinel] true :=
  OpenClaim.laidByTextAt_later rfl rfl tie noOwnUnsafe
theorem planRolls_row_tie : Rows.planRollsRow.laidByTextAt .later Tryd.pinned [.sentinel, .sentinel, .sentinel, .sentinel, .sentinel, .sentinel, .sentinel, .sentinel] true :=
  OpenClaim.laidByTextAt_later rfl rfl tie noOwnUnsafe
theorem planIsNew_row_tie : Rows.planIsNewRow.laidByTextAt .later Tryd.pinned [.sentinel, .sentinel, .sentinel, .sentinel, .sentinel, .sentinel, .sentinel, .sentinel] true :=
  OpenClaim.laidByTextAt_later rfl rfl tie noOwnUnsafe
theorem tie2 : Tryd.prog.laidByTextLater [("pintle/api.ErrInvalid", Rows.laid_pintle_api_ErrInvalid), ("pintle/api.ErrTwice", Rows.laid_pintle_api_ErrTwice), ("pintle/api.ErrLacks", Rows.laid_pintle_api_ErrLacks), ("pintle/api.ErrUnsafe", Rows.laid_pintle_api_ErrUnsafe)] [.sentinel, .sentinel, .sentinel, .sentinel] true :=
  Program.laidByTextLater.sub seatTie1 ["pintle/api.ErrInvalid", "pintle/api.ErrTwice", "pintle/api.ErrLacks", "pintle/api.ErrUnsafe"] (by kernel_rfl) (by kernel_rfl)
theorem planMirrors_row_tie : Rows.planMirrorsRow.laidByTextAt .later Tryd.pinned [.sentinel, .sentinel, .sentinel, .sentinel] true :=
  OpenClaim.laidByTextAt_later rfl rfl tie2 noOwnUnsafe
theorem planUnlike_row_tie : Rows.planUnlikeRow.laidByTextAt .later Tryd.pinned [.sentinel, .sentinel, .sentinel, .sentinel] true :=
  OpenClaim.laidByTextAt_later rfl rfl tie2 noOwnUnsafe
theorem planBack_row_tie : Rows.planBackRow.laidByTextAt .later Tryd.pinned [.sentinel, .sentinel, .sentinel, .sentinel] true :=
  OpenClaim.laidByTextAt_later rfl rfl tie2 noOwnUnsafe
theorem planUnrollsUpto_row_tie : Rows.planUnrollsUptoRow.laidByTextAt .later Tryd.pinned [.sentinel, .sentinel, .sentinel, .sentinel, .sentinel, .sentinel, .sentinel, .sentinel] true :=
  OpenClaim.laidByTextAt_later rfl rfl tie noOwnUnsafe
theorem planMirrorsUpto_row_tie : Rows.planMirrorsUptoRow.laidByTextAt .later Tryd.pinned [.sentinel, .sentinel, .sentinel, .sentinel] true :=
  OpenClaim.laidByTextAt_later rfl rfl tie2 noOwnUnsafe
theorem planUnlikeUpto_row_tie : Rows.planUnlikeUptoRow.laidByTextAt .later Tryd.pinned [.sentinel, .sentinel, .sentinel, .sentinel] true :=
  OpenClaim.laidByTextAt_later rfl rfl tie2 noOwnUnsafe
theorem planRollsUpto_row_tie : Rows.planRollsUptoRow.laidByTextAt .later Tryd.pinned [.sentinel, .sentinel, .sentinel, .sentinel, .sentinel, .sentinel, .sentinel, .sentinel] true :=
  OpenClaim.laidByTextAt_later rfl rfl tie noOwnUnsafe
theorem planBackUpto_row_tie : Rows.planBackUptoRow.laidByTextAt .later Tryd.pinned [.sentinel, .sentinel, .sentinel, .sentinel] true :=
  OpenClaim.laidByTextAt_later rfl rfl tie2 noOwnUnsafe
theorem planIsNewUpto_row_tie : Rows.planIsNewUptoRow.laidByTextAt .later Tryd.pinned [.sentinel, .sentinel, .sentinel, .sentinel, .sentinel, .sentinel, .sentinel, .sentinel] true :=
  OpenClaim.laidByTextAt_later rfl rfl tie noOwnUnsafe
end Go.Proofs.YtpemfmjplejdiaaDoor

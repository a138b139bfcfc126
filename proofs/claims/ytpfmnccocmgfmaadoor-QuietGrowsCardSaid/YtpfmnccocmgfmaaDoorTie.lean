/-
  DERIVED. GIVEN WITH THE SEED: THE PROGRAM's TIES (one call each: nine closed facts by the kernel) AND EACH ROW's TIE, after the 31st guide's Derived/Test/Toyas{Tie, Card}.lean. No idea stands in it: it is a product of the set-up. Laid BY PROGRAM, IN A SANDBOX (cutbox-door.mjs). By AI agents, Wed Nov 11 2026. No macro, syntax, notation, axiom, sorry.
-/
import Derived.Test.YtpfmnccocmgfmaaDoorRows
import Derived.LaidByTextLater
import Derived.SevenTiedAt
import Derived.LaidSub
import Derived.LaidOnce
namespace Go.Proofs.YtpfmnccocmgfmaaDoor
open Go
set_option maxRecDepth 100000
theorem seatTie1 : Tryd.prog.laidByTextLater [("paternoster/api.ErrEnd", Rows.laid_paternoster_api_ErrEnd), ("paternoster/api.ErrShape", Rows.laid_paternoster_api_ErrShape), ("paternoster/api.ErrRange", Rows.laid_paternoster_api_ErrRange), ("paternoster/api.ErrMany", Rows.laid_paternoster_api_ErrMany), ("paternoster/api.ErrPower", Rows.laid_paternoster_api_ErrPower), ("paternoster/api.ErrNone", Rows.laid_paternoster_api_ErrNone), ("paternoster/api.ErrKind", Rows.laid_paternoster_api_ErrKind), ("paternoster/api.ErrOrder", Rows.laid_paternoster_api_ErrOrder), ("paternoster/api.ErrDoor", Rows.laid_paternoster_api_ErrDoor), ("paternoster/api.ErrFloor", Rows.laid_paternoster_api_ErrFloor), ("paternoster/api.ErrTwice", Rows.laid_paternoster_api_ErrTwice), ("paternoster/api.ErrWord", Rows.laid_paternoster_api_ErrWord), ("paternoster/api.ErrNumber", Rows.laid_paternoster_api_ErrNumber)] [.sentinel, .sentinel, .sentinel, .sentinel, .sentinel, .sentinel, .sentinel, .sentinel, .sentinel, .sentinel, .sentinel, .sentinel, .sentinel] true :=
  Program.laidByTextLater_by_one 256 8 2 (by kernel_rfl) (by kernel_rfl) (by kernel_rfl) (by kernel_rfl) (by kernel_rfl) (by kernel_rfl) (fun _ _ => by kernel_rfl)
theorem noOwnUnsafe : Tryd.pinned.checked.prog.headLifts.contains "ownunsafe" = false := by kernel_rfl
theorem tie : Tryd.prog.laidByTextLater [("paternoster/api.ErrEnd", Rows.laid_paternoster_api_ErrEnd), ("paternoster/api.ErrShape", Rows.laid_paternoster_api_ErrShape), ("paternoster/api.ErrRange", Rows.laid_paternoster_api_ErrRange), ("paternoster/api.ErrMany", Rows.laid_paternoster_api_ErrMany), ("paternoster/api.ErrPower", Rows.laid_paternoster_api_ErrPower), ("paternoster/api.ErrNone", Rows.laid_paternoster_api_ErrNone), ("paternoster/api.ErrKind", Rows.laid_paternoster_api_ErrKind), ("paternoster/api.ErrOrder", Rows.laid_paternoster_api_ErrOrder), ("paternoster/api.ErrDoor", Rows.laid_paternoster_api_ErrDoor), ("paternoster/api.ErrFloor", Rows.laid_paternoster_api_ErrFloor), ("paternoster/api.ErrTwice", Rows.laid_paternoster_api_ErrTwice), ("paternoster/api.ErrWord", Rows.laid_paternoster_api_ErrWord), ("paternoster/api.ErrNumber", Rows.laid_paternoster_api_ErrNumber)] [.sentinel, .sentinel, .sentinel, .sentinel, .sentinel, .sentinel, .sentinel, .sentinel, .sentinel, .sentinel, .sentinel, .sentinel, .sentinel] true :=
  Program.laidByTextLater.sub seatTie1 ["paternoster/api.ErrEnd", "paternoster/api.ErrShape", "paternoster/api.ErrRange", "paternoster/api.ErrMany", "paternoster/api.ErrPower", "paternoster/api.ErrNone", "paternoster/api.ErrKind", "paternoster/api.ErrOrder", "paternoster/api.ErrDoor", "paternoster/api.ErrFloor", "paternoster/api.ErrTwice", "paternoster/api.ErrWord", "paternoster/api.ErrNumber"] (by kernel_rfl) (by kernel_rfl)
theorem traceKinds_row_tie : Rows.traceKindsRow.laidByTextAt .later Tryd.pinned [.sentinel, .sentinel, .sentinel, .sentinel, .sentinel, .sentinel, .sentinel, .sentinel, .sentinel, .sentinel, .sentinel, .sentinel, .sentinel] true :=
  OpenClaim.laidByTextAt_later rfl rfl tie noOwnUnsafe
theorem traceGoes_row_tie : Rows.traceGoesRow.laidByTextAt .later Tryd.pinned [.sentinel, .sentinel, .sentinel, .sentinel, .sentinel, .sentinel, .sentinel, .sentinel, .sentinel, .sentinel, .sentinel, .sentinel, .sentinel] true :=
  OpenClaim.laidByTextAt_later rfl rfl tie noOwnUnsafe
theorem traceTwice_row_tie : Rows.traceTwiceRow.laidByTextAt .later Tryd.pinned [.sentinel, .sentinel, .sentinel, .sentinel, .sentinel, .sentinel, .sentinel, .sentinel, .sentinel, .sentinel, .sentinel, .sentinel, .sentinel] true :=
  OpenClaim.laidByTextAt_later rfl rfl tie noOwnUnsafe
theorem traceBoots_row_tie : Rows.traceBootsRow.laidByTextAt .later Tryd.pinned [.sentinel, .sentinel, .sentinel, .sentinel, .sentinel, .sentinel, .sentinel, .sentinel, .sentinel, .sentinel, .sentinel, .sentinel, .sentinel] true :=
  OpenClaim.laidByTextAt_later rfl rfl tie noOwnUnsafe
theorem tie2 : Tryd.prog.laidByTextLater [("paternoster/api.ErrRange", Rows.laid_paternoster_api_ErrRange), ("paternoster/api.ErrPower", Rows.laid_paternoster_api_ErrPower), ("paternoster/api.ErrNone", Rows.laid_paternoster_api_ErrNone), ("paternoster/api.ErrOrder", Rows.laid_paternoster_api_ErrOrder)] [.sentinel, .sentinel, .sentinel, .sentinel] true :=
  Program.laidByTextLater.sub seatTie1 ["paternoster/api.ErrRange", "paternoster/api.ErrPower", "paternoster/api.ErrNone", "paternoster/api.ErrOrder"] (by kernel_rfl) (by kernel_rfl)
theorem quietSays_row_tie : Rows.quietSaysRow.laidByTextAt .later Tryd.pinned [.sentinel, .sentinel, .sentinel, .sentinel] true :=
  OpenClaim.laidByTextAt_later rfl rfl tie2 noOwnUnsafe
theorem quietGrows_row_tie : Rows.quietGrowsRow.laidByTextAt .later Tryd.pinned [.sentinel, .sentinel, .sentinel, .sentinel] true :=
  OpenClaim.laidByTextAt_later rfl rfl tie2 noOwnUnsafe
theorem traceKindsUpto_row_tie : Rows.traceKindsUptoRow.laidByTextAt .later Tryd.pinned [.sentinel, .sentinel, .sentinel, .sentinel, .sentinel, .sentinel, .sentinel, .sentinel, .sentinel, .sentinel, .sentinel, .sentinel, .sentinel] true :=
  OpenClaim.laidByTextAt_later rfl rfl tie noOwnUnsafe
theorem traceGoesUpto_row_tie : Rows.traceGoesUptoRow.laidByTextAt .later Tryd.pinned [.sentinel, .sentinel, .sentinel, .sentinel, .sentinel, .sentinel, .sentinel, .sentinel, .sentinel, .sentinel, .sentinel, .sentinel, .sentinel] true :=
  OpenClaim.laidByTextAt_later rfl rfl tie noOwnUnsafe
theorem traceTwiceUpto_row_tie : Rows.traceTwiceUptoRow.laidByTextAt .later Tryd.pinned [.sentinel, .sentinel, .sentinel, .sentinel, .sentinel, .sentinel, .sentinel, .sentinel, .sentinel, .sentinel, .sentinel, .sentinel, .sentinel] true :=
  OpenClaim.laidByTextAt_later rfl rfl tie noOwnUnsafe
theorem traceBootsUpto_row_tie : Rows.traceBootsUptoRow.laidByTextAt .later Tryd.pinned [.sentinel, .sentinel, .sentinel, .sentinel, .sentinel, .sentinel, .sentinel, .sentinel, .sentinel, .sentinel, .sentinel, .sentinel, .sentinel] true :=
  OpenClaim.laidByTextAt_later rfl rfl tie noOwnUnsafe
theorem quietSaysUpto_row_tie : Rows.quietSaysUptoRow.laidByTextAt .later Tryd.pinned [.sentinel, .sentinel, .sentinel, .sentinel] true :=
  OpenClaim.laidByTextAt_later rfl rfl tie2 noOwnUnsafe
theorem quietGrowsUpto_row_tie : Rows.quietGrowsUptoRow.laidByTextAt .later Tryd.pinned [.sentinel, .sentinel, .sentinel, .sentinel] true :=
  OpenClaim.laidByTextAt_later rfl rfl tie2 noOwnUnsafe
end Go.Proofs.YtpfmnccocmgfmaaDoor

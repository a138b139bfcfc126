/-
  DERIVED. GIVEN WITH THE SEED: THE PROGRAM's TIES (one call each: nine closed facts by the kernel) AND EACH ROW's TIE, after the 31st guide's Derived/Test/Toyas{Tie, Card}.lean. No idea stands in it: it is a product of the set-up. Laid BY PROGRAM, IN A SANDBOX (cutbox-door.mjs). By AI agents, Wed Nov 11 2026. No macro, syntax, notation, axiom, sorry.
-/
import Derived.Test.YtgadgajhahfabaaDoorRows
import Derived.LaidByTextLater
import Derived.SevenTiedAt
import Derived.LaidSub
import Derived.LaidOnce
namespace Go.Proofs.YtgadgajhahfabaaDoor
open Go
set_option maxRecDepth 100000
theorem seatTie1 : Tryd.prog.laidByTextLater [("paternoster/api.ErrEnd", Rows.laid_paternoster_api_ErrEnd), ("paternoster/api.ErrShape", Rows.laid_paternoster_api_ErrShape), ("paternoster/api.ErrRange", Rows.laid_paternoster_api_ErrRange), ("paternoster/api.ErrMany", Rows.laid_paternoster_api_ErrMany), ("paternoster/api.ErrPower", Rows.laid_paternoster_api_ErrPower), ("paternoster/api.ErrNone", Rows.laid_paternoster_api_ErrNone), ("paternoster/api.ErrKind", Rows.laid_paternoster_api_ErrKind), ("paternoster/api.ErrOrder", Rows.laid_paternoster_api_ErrOrder), ("paternoster/api.ErrDoor", Rows.laid_paternoster_api_ErrDoor), ("paternoster/api.ErrFloor", Rows.laid_paternoster_api_ErrFloor), ("paternoster/api.ErrTwice", Rows.laid_paternoster_api_ErrTwice), ("paternoster/api.ErrWord", Rows.laid_paternoster_api_ErrWord), ("paternoster/api.ErrNumber", Rows.laid_paternoster_api_ErrNumber)] [.sentinel, .sentinel, .sentinel, .sentinel, .sentinel, .sentinel, .sentinel, .sentinel, .sentinel, .sentinel, .sentinel, .sentinel, .sentinel] true :=
  Program.laidByTextLater_by_one 256 8 2 (by kernel_rfl) (by kernel_rfl) (by kernel_rfl) (by kernel_rfl) (by kernel_rfl) (by kernel_rfl) (fun _ _ => by kernel_rfl)
theorem noOwnUnsafe : Tryd.pinned.checked.prog.headLifts.contains "ownunsafe" = false := by kernel_rfl
theorem tie : Tryd.prog.laidByTextLater [("paternoster/api.ErrEnd", Rows.laid_paternoster_api_ErrEnd), ("paternoster/api.ErrShape", Rows.laid_paternoster_api_ErrShape), ("paternoster/api.ErrRange", Rows.laid_paternoster_api_ErrRange), ("paternoster/api.ErrMany", Rows.laid_paternoster_api_ErrMany), ("paternoster/api.ErrPower", Rows.laid_paternoster_api_ErrPower), ("paternoster/api.ErrNone", Rows.laid_paternoster_api_ErrNone), ("paternoster/api.ErrKind", Rows.laid_paternoster_api_ErrKind), ("paternoster/api.ErrOrder", Rows.laid_paternoster_api_ErrOrder), ("paternoster/api.ErrDoor", Rows.laid_paternoster_api_ErrDoor), ("paternoster/api.ErrFloor", Rows.laid_paternoster_api_ErrFloor), ("paternoster/api.ErrTwice", Rows.laid_paternoster_api_ErrTwice), ("paternoster/api.ErrWord", Rows.laid_paternoster_api_ErrWord), ("paternoster/api.ErrNumber", Rows.laid_paternoster_api_ErrNumber)] [.sentinel, .sentinel, .sentinel, .sentinel, .sentinel, .sentinel, .sentinel, .sentinel, .sentinel, .sentinel, .sentinel, .sentinel, .sentinel] true :=
  Program.laidByTextLater.sub seatTie1 ["paternoster/api.ErrEnd", "paternoster/api.ErrShape", "paternoster/api.ErrRange", "paternoster/api.ErrMany", "paternoster/api.ErrPower", "paternoster/api.ErrNone", "paternoster/api.ErrKind", "paternoster/api.ErrOrder", "paternoster/api.ErrDoor", "paternoster/api.ErrFloor", "paternoster/api.ErrTwice", "paternoster/api.ErrWord", "paternoster/api.ErrNumber"] (by kernel_rfl) (by kernel_rfl)
theorem traceLooks_row_tie : Rows.traceLooksRow.laidByTextAt .later Tryd.pinned [.sentinel, .sentinel, .sentinel, .sentinel, .sentinel, .sentinel, .sentinel, .sentinel, .sentinel, .sentinel, .sentinel, .sentinel, .sentinel] true :=
  OpenClaim.laidByTextAt_later rfl rfl tie noOwnUnsafe
theorem traceLooksUpto_row_tie : Rows.traceLooksUptoRow.laidByTextAt .later Tryd.pinned [.sentinel, .sentinel, .sentinel, .sentinel, .sentinel, .sentinel, .sentinel, .sentinel, .sentinel, .sentinel, .sentinel, .sentinel, .sentinel] true :=
  OpenClaim.laidByTextAt_later rfl rfl tie noOwnUnsafe
end Go.Proofs.YtgadgajhahfabaaDoor

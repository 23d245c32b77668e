/-
  DERIVED. GIVEN WITH THE SEED: THE PROGRAM's TIES (one call each: nine closed facts by the kernel) AND EACH ROW's TIE, after the 31st guide's Derived/Test/Toyas{Tie, Card}.lean. No idea stands in it: it is a product of the set-up. Laid BY PROGRAM, IN A SANDBOX (cutbox-door.mjs). By AI agents, Wed Nov 11 2026. No macro, syntax, notation, axiom, sorry.
-/
import Derived.Test.YtihhflajkohibaaDoorRows
import Derived.LaidByTextLater
import Derived.SevenTiedAt
import Derived.LaidSub
import Derived.LaidOnce
namespace Go.Proofs.YtihhflajkohibaaDoor
open Go
set_option maxRecDepth 100000
theorem seatTie1 : Tryd.prog.laidByTextLater [("narthex/crc.steps", Rows.laid_narthex_crc_steps), ("errors.errorType", Rows.laid_errors_errorType)] [.data, .handle] true :=
  Program.laidByTextLater_by_one 21 8 17 (by kernel_rfl) (by kernel_rfl) (by kernel_rfl) (by kernel_rfl) (by kernel_rfl) (by kernel_rfl) (fun _ _ => by kernel_rfl)
theorem noOwnUnsafe : Tryd.pinned.checked.prog.headLifts.contains "ownunsafe" = false := by kernel_rfl
theorem tie : Tryd.prog.laidByTextLater [("narthex/crc.steps", Rows.laid_narthex_crc_steps), ("errors.errorType", Rows.laid_errors_errorType)] [.data, .handle] true :=
  Program.laidByTextLater.sub seatTie1 ["narthex/crc.steps", "errors.errorType"] (by kernel_rfl) (by kernel_rfl)
theorem pipeOnce_row_tie : Rows.pipeOnceRow.laidByTextAt .later Tryd.pinned [.data, .handle] true :=
  OpenClaim.laidByTextAt_later rfl rfl tie noOwnUnsafe
theorem pipeAll_row_tie : Rows.pipeAllRow.laidByTextAt .later Tryd.pinned [.data, .handle] true :=
  OpenClaim.laidByTextAt_later rfl rfl tie noOwnUnsafe
theorem pipeTurned_row_tie : Rows.pipeTurnedRow.laidByTextAt .later Tryd.pinned [.data, .handle] true :=
  OpenClaim.laidByTextAt_later rfl rfl tie noOwnUnsafe
theorem pipeSides_row_tie : Rows.pipeSidesRow.laidByTextAt .later Tryd.pinned [.data, .handle] true :=
  OpenClaim.laidByTextAt_later rfl rfl tie noOwnUnsafe
theorem pipeGoes_row_tie : Rows.pipeGoesRow.laidByTextAt .later Tryd.pinned [.data, .handle] true :=
  OpenClaim.laidByTextAt_later rfl rfl tie noOwnUnsafe
theorem pipeOnceUpto_row_tie : Rows.pipeOnceUptoRow.laidByTextAt .later Tryd.pinned [.data, .handle] true :=
  OpenClaim.laidByTextAt_later rfl rfl tie noOwnUnsafe
theorem pipeAllUpto_row_tie : Rows.pipeAllUptoRow.laidByTextAt .later Tryd.pinned [.data, .handle] true :=
  OpenClaim.laidByTextAt_later rfl rfl tie noOwnUnsafe
theorem pipeTurnedUpto_row_tie : Rows.pipeTurnedUptoRow.laidByTextAt .later Tryd.pinned [.data, .handle] true :=
  OpenClaim.laidByTextAt_later rfl rfl tie noOwnUnsafe
theorem pipeSidesUpto_row_tie : Rows.pipeSidesUptoRow.laidByTextAt .later Tryd.pinned [.data, .handle] true :=
  OpenClaim.laidByTextAt_later rfl rfl tie noOwnUnsafe
theorem pipeGoesUpto_row_tie : Rows.pipeGoesUptoRow.laidByTextAt .later Tryd.pinned [.data, .handle] true :=
  OpenClaim.laidByTextAt_later rfl rfl tie noOwnUnsafe
end Go.Proofs.YtihhflajkohibaaDoor

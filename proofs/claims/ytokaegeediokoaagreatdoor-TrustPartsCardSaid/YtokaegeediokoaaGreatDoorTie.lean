/-
  DERIVED. GIVEN WITH THE SEED: THE PROGRAM's TIES (one call each: nine closed facts by the kernel) AND EACH ROW's TIE, after the 31st guide's Derived/Test/Toyas{Tie, Card}.lean. No idea stands in it: it is a product of the set-up. Laid BY PROGRAM, IN A SANDBOX (cutbox-door.mjs). By AI agents, Wed Nov 11 2026. No macro, syntax, notation, axiom, sorry.
-/
import Derived.Test.YtokaegeediokoaaGreatDoorRows
import Derived.LaidByTextLater
import Derived.SevenTiedAt
import Derived.LaidSub
import Derived.LaidOnce
namespace Go.Proofs.YtokaegeediokoaaGreatDoor
open Go
set_option maxRecDepth 100000
theorem seatTie1 : Tryz.prog.laidByTextLater [("inlay/hash.initial", Rows.laid_inlay_hash_initial), ("inlay/hash.rounds", Rows.laid_inlay_hash_rounds), ("bytes.ErrTooLarge", Rows.laid_bytes_ErrTooLarge)] [.data, .data, .sentinel] true :=
  Program.laidByTextLater_by_one 38 8 65 (by kernel_rfl) (by kernel_rfl) (by kernel_rfl) (by kernel_rfl) (by kernel_rfl) (by kernel_rfl) (fun _ _ => by kernel_rfl)
theorem noOwnUnsafe : Tryz.pinned.checked.prog.headLifts.contains "ownunsafe" = false := by kernel_rfl
theorem tie : Tryz.prog.laidByTextLater [("inlay/hash.initial", Rows.laid_inlay_hash_initial), ("inlay/hash.rounds", Rows.laid_inlay_hash_rounds), ("bytes.ErrTooLarge", Rows.laid_bytes_ErrTooLarge)] [.data, .data, .sentinel] true :=
  Program.laidByTextLater.sub seatTie1 ["inlay/hash.initial", "inlay/hash.rounds", "bytes.ErrTooLarge"] (by kernel_rfl) (by kernel_rfl)
theorem trustMatchesReference_row_tie : Rows.trustMatchesReferenceRow.laidByTextAt .later Tryz.pinned [.data, .data, .sentinel] true :=
  OpenClaim.laidByTextAt_later rfl rfl tie noOwnUnsafe
theorem trustThreshold_row_tie : Rows.trustThresholdRow.laidByTextAt .later Tryz.pinned [.data, .data, .sentinel] true :=
  OpenClaim.laidByTextAt_later rfl rfl tie noOwnUnsafe
theorem trustRepeats_row_tie : Rows.trustRepeatsRow.laidByTextAt .later Tryz.pinned [.data, .data, .sentinel] true :=
  OpenClaim.laidByTextAt_later rfl rfl tie noOwnUnsafe
theorem trustRotates_row_tie : Rows.trustRotatesRow.laidByTextAt .later Tryz.pinned [.data, .data, .sentinel] true :=
  OpenClaim.laidByTextAt_later rfl rfl tie noOwnUnsafe
theorem trustFloors_row_tie : Rows.trustFloorsRow.laidByTextAt .later Tryz.pinned [.data, .data, .sentinel] true :=
  OpenClaim.laidByTextAt_later rfl rfl tie noOwnUnsafe
theorem trustErrors_row_tie : Rows.trustErrorsRow.laidByTextAt .later Tryz.pinned [.data, .data, .sentinel] true :=
  OpenClaim.laidByTextAt_later rfl rfl tie noOwnUnsafe
theorem trustParts_row_tie : Rows.trustPartsRow.laidByTextAt .later Tryz.pinned [.data, .data, .sentinel] true :=
  OpenClaim.laidByTextAt_later rfl rfl tie noOwnUnsafe
theorem trustMatchesReferenceUpto_row_tie : Rows.trustMatchesReferenceUptoRow.laidByTextAt .later Tryz.pinned [.data, .data, .sentinel] true :=
  OpenClaim.laidByTextAt_later rfl rfl tie noOwnUnsafe
theorem trustThresholdUpto_row_tie : Rows.trustThresholdUptoRow.laidByTextAt .later Tryz.pinned [.data, .data, .sentinel] true :=
  OpenClaim.laidByTextAt_later rfl rfl tie noOwnUnsafe
theorem trustRepeatsUpto_row_tie : Rows.trustRepeatsUptoRow.laidByTextAt .later Tryz.pinned [.data, .data, .sentinel] true :=
  OpenClaim.laidByTextAt_later rfl rfl tie noOwnUnsafe
theorem trustRotatesUpto_row_tie : Rows.trustRotatesUptoRow.laidByTextAt .later Tryz.pinned [.data, .data, .sentinel] true :=
  OpenClaim.laidByTextAt_later rfl rfl tie noOwnUnsafe
theorem trustFloorsUpto_row_tie : Rows.trustFloorsUptoRow.laidByTextAt .later Tryz.pinned [.data, .data, .sentinel] true :=
  OpenClaim.laidByTextAt_later rfl rfl tie noOwnUnsafe
theorem trustErrorsUpto_row_tie : Rows.trustErrorsUptoRow.laidByTextAt .later Tryz.pinned [.data, .data, .sentinel] true :=
  OpenClaim.laidByTextAt_later rfl rfl tie noOwnUnsafe
theorem trustPartsUpto_row_tie : Rows.trustPartsUptoRow.laidByTextAt .later Tryz.pinned [.data, .data, .sentinel] true :=
  OpenClaim.laidByTextAt_later rfl rfl tie noOwnUnsafe
end Go.Proofs.YtokaegeediokoaaGreatDoor

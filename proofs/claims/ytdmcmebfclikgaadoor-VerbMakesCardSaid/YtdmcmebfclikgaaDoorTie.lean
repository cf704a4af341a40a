/-
  DERIVED. GIVEN WITH THE SEED: THE PROGRAM's TIES (one call each: nine closed facts by the kernel) AND EACH ROW's TIE, after the 31st guide's Derived/Test/Toyas{Tie, Card}.lean. No idea stands in it: it is a product of the set-up. Laid BY PROGRAM, IN A SANDBOX (cutbox-door.mjs). By AI agents, Wed Nov 11 2026. No macro, syntax, notation, axiom, sorry.
-/
import Derived.Test.YtdmcmebfclikgaaDoorRows
import Derived.LaidByTextLater
import Derived.SevenTiedAt
import Derived.LaidSub
import Derived.LaidOnce
namespace Go.Proofs.YtdmcmebfclikgaaDoor
open Go
set_option maxRecDepth 100000
theorem seatTie1 : Tryd.prog.laidByTextLater [("tiltyard/verb.requests", Rows.laid_tiltyard_verb_requests), ("tiltyard/verb.replies", Rows.laid_tiltyard_verb_replies), ("tiltyard/verb.events", Rows.laid_tiltyard_verb_events), ("tiltyard/verb.orders", Rows.laid_tiltyard_verb_orders), ("tiltyard/verb.reports", Rows.laid_tiltyard_verb_reports)] [.data, .data, .data, .data, .data] true :=
  Program.laidByTextLater_by_one 34 8 28 (by kernel_rfl) (by kernel_rfl) (by kernel_rfl) (by kernel_rfl) (by kernel_rfl) (by kernel_rfl) (fun _ _ => by kernel_rfl)
theorem noOwnUnsafe : Tryd.pinned.checked.prog.headLifts.contains "ownunsafe" = false := by kernel_rfl
theorem tie : Tryd.prog.laidByTextLater [("tiltyard/verb.requests", Rows.laid_tiltyard_verb_requests), ("tiltyard/verb.replies", Rows.laid_tiltyard_verb_replies), ("tiltyard/verb.events", Rows.laid_tiltyard_verb_events), ("tiltyard/verb.orders", Rows.laid_tiltyard_verb_orders), ("tiltyard/verb.reports", Rows.laid_tiltyard_verb_reports)] [.data, .data, .data, .data, .data] true :=
  Program.laidByTextLater.sub seatTie1 ["tiltyard/verb.requests", "tiltyard/verb.replies", "tiltyard/verb.events", "tiltyard/verb.orders", "tiltyard/verb.reports"] (by kernel_rfl) (by kernel_rfl)
theorem verbEncodes_row_tie : Rows.verbEncodesRow.laidByTextAt .later Tryd.pinned [.data, .data, .data, .data, .data] true :=
  OpenClaim.laidByTextAt_later rfl rfl tie noOwnUnsafe
theorem verbDecodes_row_tie : Rows.verbDecodesRow.laidByTextAt .later Tryd.pinned [.data, .data, .data, .data, .data] true :=
  OpenClaim.laidByTextAt_later rfl rfl tie noOwnUnsafe
theorem verbBack_row_tie : Rows.verbBackRow.laidByTextAt .later Tryd.pinned [.data, .data, .data, .data, .data] true :=
  OpenClaim.laidByTextAt_later rfl rfl tie noOwnUnsafe
theorem verbOnly_row_tie : Rows.verbOnlyRow.laidByTextAt .later Tryd.pinned [.data, .data, .data, .data, .data] true :=
  OpenClaim.laidByTextAt_later rfl rfl tie noOwnUnsafe
theorem verbMakes_row_tie : Rows.verbMakesRow.laidByTextAt .later Tryd.pinned [.data, .data, .data, .data, .data] true :=
  OpenClaim.laidByTextAt_later rfl rfl tie noOwnUnsafe
theorem verbNames_row_tie : Rows.verbNamesRow.laidByTextAt .later Tryd.pinned [.data, .data, .data, .data, .data] true :=
  OpenClaim.laidByTextAt_later rfl rfl tie noOwnUnsafe
theorem verbKinds_row_tie : Rows.verbKindsRow.laidByTextAt .later Tryd.pinned [.data, .data, .data, .data, .data] true :=
  OpenClaim.laidByTextAt_later rfl rfl tie noOwnUnsafe
theorem verbEncodesUpto_row_tie : Rows.verbEncodesUptoRow.laidByTextAt .later Tryd.pinned [.data, .data, .data, .data, .data] true :=
  OpenClaim.laidByTextAt_later rfl rfl tie noOwnUnsafe
theorem verbDecodesUpto_row_tie : Rows.verbDecodesUptoRow.laidByTextAt .later Tryd.pinned [.data, .data, .data, .data, .data] true :=
  OpenClaim.laidByTextAt_later rfl rfl tie noOwnUnsafe
theorem verbBackUpto_row_tie : Rows.verbBackUptoRow.laidByTextAt .later Tryd.pinned [.data, .data, .data, .data, .data] true :=
  OpenClaim.laidByTextAt_later rfl rfl tie noOwnUnsafe
theorem verbOnlyUpto_row_tie : Rows.verbOnlyUptoRow.laidByTextAt .later Tryd.pinned [.data, .data, .data, .data, .data] true :=
  OpenClaim.laidByTextAt_later rfl rfl tie noOwnUnsafe
theorem verbMakesUpto_row_tie : Rows.verbMakesUptoRow.laidByTextAt .later Tryd.pinned [.data, .data, .data, .data, .data] true :=
  OpenClaim.laidByTextAt_later rfl rfl tie noOwnUnsafe
theorem verbNamesUpto_row_tie : Rows.verbNamesUptoRow.laidByTextAt .later Tryd.pinned [.data, .data, .data, .data, .data] true :=
  OpenClaim.laidByTextAt_later rfl rfl tie noOwnUnsafe
theorem verbKindsUpto_row_tie : Rows.verbKindsUptoRow.laidByTextAt .later Tryd.pinned [.data, .data, .data, .data, .data] true :=
  OpenClaim.laidByTextAt_later rfl rfl tie noOwnUnsafe
end Go.Proofs.YtdmcmebfclikgaaDoor

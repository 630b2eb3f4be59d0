/-
  DERIVED. GIVEN WITH THE SEED: THE PROGRAM's TIES (one call each: nine closed facts by the kernel) AND EACH ROW's TIE, after the 31st guide's Derived/Test/Toyas{Tie, Card}.lean. No idea stands in it: it is a product of the set-up. Laid BY PROGRAM, IN A SANDBOX (cutbox-door.mjs). By AI agents, Wed Nov 11 2026. No macro, syntax, notation, axiom, sorry.
-/
import Derived.Test.YtodkhoclbhdihaaGreatDoorRows
import Derived.LaidByTextLater
import Derived.SevenTiedAt
import Derived.LaidSub
import Derived.LaidOnce
namespace Go.Proofs.YtodkhoclbhdihaaGreatDoor
open Go
set_option maxRecDepth 100000
theorem seatTie1 : Tryz.prog.laidByTextLater [("errors.errorType", Rows.laid_errors_errorType), ("jotter/octet.table", Rows.laid_jotter_octet_table), ("jotter/wire.size", Rows.laid_jotter_wire_size), ("jotter/wire.shapes", Rows.laid_jotter_wire_shapes)] [.handle, .data, .data, .widerDeep] true :=
  Program.laidByTextLater_by_one 37 8 17 (by kernel_rfl) (by kernel_rfl) (by kernel_rfl) (by kernel_rfl) (by kernel_rfl) (by kernel_rfl) (fun _ _ => by kernel_rfl)
theorem noOwnUnsafe : Tryz.pinned.checked.prog.headLifts.contains "ownunsafe" = false := by kernel_rfl
theorem tie : Tryz.prog.laidByTextLater [("errors.errorType", Rows.laid_errors_errorType), ("jotter/octet.table", Rows.laid_jotter_octet_table), ("jotter/wire.size", Rows.laid_jotter_wire_size), ("jotter/wire.shapes", Rows.laid_jotter_wire_shapes)] [.handle, .data, .data, .widerDeep] true :=
  Program.laidByTextLater.sub seatTie1 ["errors.errorType", "jotter/octet.table", "jotter/wire.size", "jotter/wire.shapes"] (by kernel_rfl) (by kernel_rfl)
theorem tapText_row_tie : Rows.tapTextRow.laidByTextAt .later Tryz.pinned [.handle, .data, .data, .widerDeep] true :=
  OpenClaim.laidByTextAt_later rfl rfl tie noOwnUnsafe
theorem tapPlays_row_tie : Rows.tapPlaysRow.laidByTextAt .later Tryz.pinned [.handle, .data, .data, .widerDeep] true :=
  OpenClaim.laidByTextAt_later rfl rfl tie noOwnUnsafe
theorem tapOrders_row_tie : Rows.tapOrdersRow.laidByTextAt .later Tryz.pinned [.handle, .data, .data, .widerDeep] true :=
  OpenClaim.laidByTextAt_later rfl rfl tie noOwnUnsafe
theorem tapAgain_row_tie : Rows.tapAgainRow.laidByTextAt .later Tryz.pinned [.handle, .data, .data, .widerDeep] true :=
  OpenClaim.laidByTextAt_later rfl rfl tie noOwnUnsafe
theorem tapTwo_row_tie : Rows.tapTwoRow.laidByTextAt .later Tryz.pinned [.handle, .data, .data, .widerDeep] true :=
  OpenClaim.laidByTextAt_later rfl rfl tie noOwnUnsafe
theorem tapFresh_row_tie : Rows.tapFreshRow.laidByTextAt .later Tryz.pinned [.handle, .data, .data, .widerDeep] true :=
  OpenClaim.laidByTextAt_later rfl rfl tie noOwnUnsafe
theorem tapFlips_row_tie : Rows.tapFlipsRow.laidByTextAt .later Tryz.pinned [.handle, .data, .data, .widerDeep] true :=
  OpenClaim.laidByTextAt_later rfl rfl tie noOwnUnsafe
theorem tapTextUpto_row_tie : Rows.tapTextUptoRow.laidByTextAt .later Tryz.pinned [.handle, .data, .data, .widerDeep] true :=
  OpenClaim.laidByTextAt_later rfl rfl tie noOwnUnsafe
theorem tapPlaysUpto_row_tie : Rows.tapPlaysUptoRow.laidByTextAt .later Tryz.pinned [.handle, .data, .data, .widerDeep] true :=
  OpenClaim.laidByTextAt_later rfl rfl tie noOwnUnsafe
theorem tapOrdersUpto_row_tie : Rows.tapOrdersUptoRow.laidByTextAt .later Tryz.pinned [.handle, .data, .data, .widerDeep] true :=
  OpenClaim.laidByTextAt_later rfl rfl tie noOwnUnsafe
theorem tapAgainUpto_row_tie : Rows.tapAgainUptoRow.laidByTextAt .later Tryz.pinned [.handle, .data, .data, .widerDeep] true :=
  OpenClaim.laidByTextAt_later rfl rfl tie noOwnUnsafe
theorem tapTwoUpto_row_tie : Rows.tapTwoUptoRow.laidByTextAt .later Tryz.pinned [.handle, .data, .data, .widerDeep] true :=
  OpenClaim.laidByTextAt_later rfl rfl tie noOwnUnsafe
theorem tapFreshUpto_row_tie : Rows.tapFreshUptoRow.laidByTextAt .later Tryz.pinned [.handle, .data, .data, .widerDeep] true :=
  OpenClaim.laidByTextAt_later rfl rfl tie noOwnUnsafe
theorem tapFlipsUpto_row_tie : Rows.tapFlipsUptoRow.laidByTextAt .later Tryz.pinned [.handle, .data, .data, .widerDeep] true :=
  OpenClaim.laidByTextAt_later rfl rfl tie noOwnUnsafe
end Go.Proofs.YtodkhoclbhdihaaGreatDoor

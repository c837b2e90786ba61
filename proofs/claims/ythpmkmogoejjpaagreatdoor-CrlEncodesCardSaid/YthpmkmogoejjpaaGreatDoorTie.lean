/-
  DERIVED. GIVEN WITH THE SEED: THE PROGRAM's TIES (one call each: nine closed facts by the kernel) AND EACH ROW's TIE, after the 31st guide's Derived/Test/Toyas{Tie, Card}.lean. No idea stands in it: it is a product of the set-up. Laid BY PROGRAM, IN A SANDBOX (cutbox-door.mjs). By AI agents, Wed Nov 11 2026. No macro, syntax, notation, axiom, sorry.
-/
import Derived.Test.YthpmkmogoejjpaaGreatDoorRows
import Derived.LaidByTextLater
import Derived.SevenTiedAt
import Derived.LaidSub
import Derived.LaidOnce
namespace Go.Proofs.YthpmkmogoejjpaaGreatDoor
open Go
set_option maxRecDepth 100000
theorem seatTie1 : Tryz.prog.laidByTextLater [("errors.errorType", Rows.laid_errors_errorType), ("escutcheon/field.prime", Rows.laid_escutcheon_field_prime), ("escutcheon/order.group", Rows.laid_escutcheon_order_group), ("escutcheon/proj.prime", Rows.laid_escutcheon_proj_prime), ("escutcheon/proj.curveB", Rows.laid_escutcheon_proj_curveB), ("escutcheon/proj.one", Rows.laid_escutcheon_proj_one), ("escutcheon/curve.base", Rows.laid_escutcheon_curve_base)] [.handle, .data, .data, .data, .data, .data, .data] true :=
  Program.laidByTextLater_by_one 54 8 14 (by kernel_rfl) (by kernel_rfl) (by kernel_rfl) (by kernel_rfl) (by kernel_rfl) (by kernel_rfl) (fun _ _ => by kernel_rfl)
theorem noOwnUnsafe : Tryz.pinned.checked.prog.headLifts.contains "ownunsafe" = false := by kernel_rfl
theorem tie : Tryz.prog.laidByTextLater [("escutcheon/order.group", Rows.laid_escutcheon_order_group)] [.data] true :=
  Program.laidByTextLater.sub seatTie1 ["escutcheon/order.group"] (by kernel_rfl) (by kernel_rfl)
theorem crlBack_row_tie : Rows.crlBackRow.laidByTextAt .later Tryz.pinned [.data] true :=
  OpenClaim.laidByTextAt_later rfl rfl tie noOwnUnsafe
theorem tie2 : Tryz.prog.laidByTextLater [("errors.errorType", Rows.laid_errors_errorType), ("escutcheon/order.group", Rows.laid_escutcheon_order_group)] [.handle, .data] true :=
  Program.laidByTextLater.sub seatTie1 ["errors.errorType", "escutcheon/order.group"] (by kernel_rfl) (by kernel_rfl)
theorem crlDecodes_row_tie : Rows.crlDecodesRow.laidByTextAt .later Tryz.pinned [.handle, .data] true :=
  OpenClaim.laidByTextAt_later rfl rfl tie2 noOwnUnsafe
theorem crlEncodes_row_tie : Rows.crlEncodesRow.laidByTextAt .later Tryz.pinned [.handle, .data] true :=
  OpenClaim.laidByTextAt_later rfl rfl tie2 noOwnUnsafe
theorem tie3 : Tryz.prog.laidByTextLater [("escutcheon/field.prime", Rows.laid_escutcheon_field_prime), ("escutcheon/order.group", Rows.laid_escutcheon_order_group), ("escutcheon/proj.prime", Rows.laid_escutcheon_proj_prime), ("escutcheon/proj.curveB", Rows.laid_escutcheon_proj_curveB)] [.data, .data, .data, .data] true :=
  Program.laidByTextLater.sub seatTie1 ["escutcheon/field.prime", "escutcheon/order.group", "escutcheon/proj.prime", "escutcheon/proj.curveB"] (by kernel_rfl) (by kernel_rfl)
theorem certBodies_row_tie : Rows.certBodiesRow.laidByTextAt .later Tryz.pinned [.data, .data, .data, .data] true :=
  OpenClaim.laidByTextAt_later rfl rfl tie3 noOwnUnsafe
theorem tie4 : Tryz.prog.laidByTextLater [("escutcheon/field.prime", Rows.laid_escutcheon_field_prime), ("escutcheon/order.group", Rows.laid_escutcheon_order_group), ("escutcheon/proj.prime", Rows.laid_escutcheon_proj_prime), ("escutcheon/proj.curveB", Rows.laid_escutcheon_proj_curveB), ("escutcheon/proj.one", Rows.laid_escutcheon_proj_one), ("escutcheon/curve.base", Rows.laid_escutcheon_curve_base)] [.data, .data, .data, .data, .data, .data] true :=
  Program.laidByTextLater.sub seatTie1 ["escutcheon/field.prime", "escutcheon/order.group", "escutcheon/proj.prime", "escutcheon/proj.curveB", "escutcheon/proj.one", "escutcheon/curve.base"] (by kernel_rfl) (by kernel_rfl)
theorem certBack_row_tie : Rows.certBackRow.laidByTextAt .later Tryz.pinned [.data, .data, .data, .data, .data, .data] true :=
  OpenClaim.laidByTextAt_later rfl rfl tie4 noOwnUnsafe
theorem tie5 : Tryz.prog.laidByTextLater [("errors.errorType", Rows.laid_errors_errorType), ("escutcheon/field.prime", Rows.laid_escutcheon_field_prime), ("escutcheon/order.group", Rows.laid_escutcheon_order_group), ("escutcheon/proj.prime", Rows.laid_escutcheon_proj_prime), ("escutcheon/proj.curveB", Rows.laid_escutcheon_proj_curveB)] [.handle, .data, .data, .data, .data] true :=
  Program.laidByTextLater.sub seatTie1 ["errors.errorType", "escutcheon/field.prime", "escutcheon/order.group", "escutcheon/proj.prime", "escutcheon/proj.curveB"] (by kernel_rfl) (by kernel_rfl)
theorem certDecodes_row_tie : Rows.certDecodesRow.laidByTextAt .later Tryz.pinned [.handle, .data, .data, .data, .data] true :=
  OpenClaim.laidByTextAt_later rfl rfl tie5 noOwnUnsafe
theorem certStays_row_tie : Rows.certStaysRow.laidByTextAt .later Tryz.pinned [.handle, .data, .data, .data, .data] true :=
  OpenClaim.laidByTextAt_later rfl rfl tie5 noOwnUnsafe
theorem certEncodes_row_tie : Rows.certEncodesRow.laidByTextAt .later Tryz.pinned [.handle, .data, .data, .data, .data] true :=
  OpenClaim.laidByTextAt_later rfl rfl tie5 noOwnUnsafe
theorem crlBackUpto_row_tie : Rows.crlBackUptoRow.laidByTextAt .later Tryz.pinned [.data] true :=
  OpenClaim.laidByTextAt_later rfl rfl tie noOwnUnsafe
theorem crlDecodesUpto_row_tie : Rows.crlDecodesUptoRow.laidByTextAt .later Tryz.pinned [.handle, .data] true :=
  OpenClaim.laidByTextAt_later rfl rfl tie2 noOwnUnsafe
theorem crlEncodesUpto_row_tie : Rows.crlEncodesUptoRow.laidByTextAt .later Tryz.pinned [.handle, .data] true :=
  OpenClaim.laidByTextAt_later rfl rfl tie2 noOwnUnsafe
theorem certBodiesUpto_row_tie : Rows.certBodiesUptoRow.laidByTextAt .later Tryz.pinned [.data, .data, .data, .data] true :=
  OpenClaim.laidByTextAt_later rfl rfl tie3 noOwnUnsafe
theorem certBackUpto_row_tie : Rows.certBackUptoRow.laidByTextAt .later Tryz.pinned [.data, .data, .data, .data, .data, .data] true :=
  OpenClaim.laidByTextAt_later rfl rfl tie4 noOwnUnsafe
theorem certDecodesUpto_row_tie : Rows.certDecodesUptoRow.laidByTextAt .later Tryz.pinned [.handle, .data, .data, .data, .data] true :=
  OpenClaim.laidByTextAt_later rfl rfl tie5 noOwnUnsafe
theorem certStaysUpto_row_tie : Rows.certStaysUptoRow.laidByTextAt .later Tryz.pinned [.handle, .data, .data, .data, .data] true :=
  OpenClaim.laidByTextAt_later rfl rfl tie5 noOwnUnsafe
theorem certEncodesUpto_row_tie : Rows.certEncodesUptoRow.laidByTextAt .later Tryz.pinned [.handle, .data, .data, .data, .data] true :=
  OpenClaim.laidByTextAt_later rfl rfl tie5 noOwnUnsafe
end Go.Proofs.YthpmkmogoejjpaaGreatDoor

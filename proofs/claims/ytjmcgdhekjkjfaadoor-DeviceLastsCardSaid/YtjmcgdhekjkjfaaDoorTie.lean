/-
  DERIVED. GIVEN WITH THE SEED: THE PROGRAM's TIES (one call each: nine closed facts by the kernel) AND EACH ROW's TIE, after the 31st guide's Derived/Test/Toyas{Tie, Card}.lean. No idea stands in it: it is a product of the set-up. Laid BY PROGRAM, IN A SANDBOX (cutbox-door.mjs). By AI agents, Wed Nov 11 2026. No macro, syntax, notation, axiom, sorry.
-/
import Derived.Test.YtjmcgdhekjkjfaaDoorRows
import Derived.LaidByTextLater
import Derived.SevenTiedAt
import Derived.LaidSub
import Derived.LaidOnce
namespace Go.Proofs.YtjmcgdhekjkjfaaDoor
open Go
set_option maxRecDepth 100000
theorem seatTie1 : Tryd.prog.laidByTextLater [("math/bits.deBruijn64tab", Rows.laid_math_bits_deBruijn64tab), ("errors.errorType", Rows.laid_errors_errorType), ("escutcheon/field.prime", Rows.laid_escutcheon_field_prime), ("escutcheon/order.group", Rows.laid_escutcheon_order_group), ("escutcheon/proj.prime", Rows.laid_escutcheon_proj_prime), ("escutcheon/proj.curveB", Rows.laid_escutcheon_proj_curveB), ("escutcheon/proj.one", Rows.laid_escutcheon_proj_one), ("escutcheon/curve.base", Rows.laid_escutcheon_curve_base)] [.data, .handle, .data, .data, .data, .data, .data, .data] true :=
  Program.laidByTextLater_by_one 59 8 65 (by kernel_rfl) (by kernel_rfl) (by kernel_rfl) (by kernel_rfl) (by kernel_rfl) (by kernel_rfl) (fun _ _ => by kernel_rfl)
theorem noOwnUnsafe : Tryd.pinned.checked.prog.headLifts.contains "ownunsafe" = false := by kernel_rfl
theorem tie : Tryd.prog.laidByTextLater [("errors.errorType", Rows.laid_errors_errorType)] [.handle] true :=
  Program.laidByTextLater.sub seatTie1 ["errors.errorType"] (by kernel_rfl) (by kernel_rfl)
theorem derParses_row_tie : Rows.derParsesRow.laidByTextAt .later Tryd.pinned [.handle] true :=
  OpenClaim.laidByTextAt_later rfl rfl tie noOwnUnsafe
theorem derOnce_row_tie : Rows.derOnceRow.laidByTextAt .later Tryd.pinned [.handle] true :=
  OpenClaim.laidByTextAt_later rfl rfl tie noOwnUnsafe
theorem manifestDecodes_row_tie : Rows.manifestDecodesRow.laidByTextAt .later Tryd.pinned [.handle] true :=
  OpenClaim.laidByTextAt_later rfl rfl tie noOwnUnsafe
theorem tie2 : Tryd.prog.laidByTextLater [("math/bits.deBruijn64tab", Rows.laid_math_bits_deBruijn64tab)] [.data] true :=
  Program.laidByTextLater.sub seatTie1 ["math/bits.deBruijn64tab"] (by kernel_rfl) (by kernel_rfl)
theorem deviceLasts_row_tie : Rows.deviceLastsRow.laidByTextAt .later Tryd.pinned [.data] true :=
  OpenClaim.laidByTextAt_later rfl rfl tie2 noOwnUnsafe
theorem deviceArgs_row_tie : Rows.deviceArgsRow.laidByTextAt .later Tryd.pinned [.data] true :=
  OpenClaim.laidByTextAt_later rfl rfl tie2 noOwnUnsafe
theorem tie3 : Tryd.prog.laidByTextLater [("escutcheon/field.prime", Rows.laid_escutcheon_field_prime), ("escutcheon/order.group", Rows.laid_escutcheon_order_group), ("escutcheon/proj.prime", Rows.laid_escutcheon_proj_prime), ("escutcheon/proj.curveB", Rows.laid_escutcheon_proj_curveB), ("escutcheon/proj.one", Rows.laid_escutcheon_proj_one), ("escutcheon/curve.base", Rows.laid_escutcheon_curve_base)] [.data, .data, .data, .data, .data, .data] true :=
  Program.laidByTextLater.sub seatTie1 ["escutcheon/field.prime", "escutcheon/order.group", "escutcheon/proj.prime", "escutcheon/proj.curveB", "escutcheon/proj.one", "escutcheon/curve.base"] (by kernel_rfl) (by kernel_rfl)
theorem ecdsaEncodes_row_tie : Rows.ecdsaEncodesRow.laidByTextAt .later Tryd.pinned [.data, .data, .data, .data, .data, .data] true :=
  OpenClaim.laidByTextAt_later rfl rfl tie3 noOwnUnsafe
theorem tie4 : Tryd.prog.laidByTextLater [("errors.errorType", Rows.laid_errors_errorType), ("escutcheon/field.prime", Rows.laid_escutcheon_field_prime), ("escutcheon/order.group", Rows.laid_escutcheon_order_group), ("escutcheon/proj.prime", Rows.laid_escutcheon_proj_prime), ("escutcheon/proj.curveB", Rows.laid_escutcheon_proj_curveB), ("escutcheon/proj.one", Rows.laid_escutcheon_proj_one), ("escutcheon/curve.base", Rows.laid_escutcheon_curve_base)] [.handle, .data, .data, .data, .data, .data, .data] true :=
  Program.laidByTextLater.sub seatTie1 ["errors.errorType", "escutcheon/field.prime", "escutcheon/order.group", "escutcheon/proj.prime", "escutcheon/proj.curveB", "escutcheon/proj.one", "escutcheon/curve.base"] (by kernel_rfl) (by kernel_rfl)
theorem ecdsaDecodes_row_tie : Rows.ecdsaDecodesRow.laidByTextAt .later Tryd.pinned [.handle, .data, .data, .data, .data, .data, .data] true :=
  OpenClaim.laidByTextAt_later rfl rfl tie4 noOwnUnsafe
theorem ecdsaSigns_row_tie : Rows.ecdsaSignsRow.laidByTextAt .later Tryd.pinned [.handle, .data, .data, .data, .data, .data, .data] true :=
  OpenClaim.laidByTextAt_later rfl rfl tie4 noOwnUnsafe
theorem derParsesUpto_row_tie : Rows.derParsesUptoRow.laidByTextAt .later Tryd.pinned [.handle] true :=
  OpenClaim.laidByTextAt_later rfl rfl tie noOwnUnsafe
theorem derOnceUpto_row_tie : Rows.derOnceUptoRow.laidByTextAt .later Tryd.pinned [.handle] true :=
  OpenClaim.laidByTextAt_later rfl rfl tie noOwnUnsafe
theorem manifestDecodesUpto_row_tie : Rows.manifestDecodesUptoRow.laidByTextAt .later Tryd.pinned [.handle] true :=
  OpenClaim.laidByTextAt_later rfl rfl tie noOwnUnsafe
theorem deviceLastsUpto_row_tie : Rows.deviceLastsUptoRow.laidByTextAt .later Tryd.pinned [.data] true :=
  OpenClaim.laidByTextAt_later rfl rfl tie2 noOwnUnsafe
theorem deviceArgsUpto_row_tie : Rows.deviceArgsUptoRow.laidByTextAt .later Tryd.pinned [.data] true :=
  OpenClaim.laidByTextAt_later rfl rfl tie2 noOwnUnsafe
theorem ecdsaEncodesUpto_row_tie : Rows.ecdsaEncodesUptoRow.laidByTextAt .later Tryd.pinned [.data, .data, .data, .data, .data, .data] true :=
  OpenClaim.laidByTextAt_later rfl rfl tie3 noOwnUnsafe
theorem ecdsaDecodesUpto_row_tie : Rows.ecdsaDecodesUptoRow.laidByTextAt .later Tryd.pinned [.handle, .data, .data, .data, .data, .data, .data] true :=
  OpenClaim.laidByTextAt_later rfl rfl tie4 noOwnUnsafe
theorem ecdsaSignsUpto_row_tie : Rows.ecdsaSignsUptoRow.laidByTextAt .later Tryd.pinned [.handle, .data, .data, .data, .data, .data, .data] true :=
  OpenClaim.laidByTextAt_later rfl rfl tie4 noOwnUnsafe
end Go.Proofs.YtjmcgdhekjkjfaaDoor

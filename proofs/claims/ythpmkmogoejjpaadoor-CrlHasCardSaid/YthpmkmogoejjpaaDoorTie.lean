/-
  DERIVED. GIVEN WITH THE SEED: THE PROGRAM's TIES (one call each: nine closed facts by the kernel) AND EACH ROW's TIE, after the 31st guide's Derived/Test/Toyas{Tie, Card}.lean. No idea stands in it: it is a product of the set-up. Laid BY PROGRAM, IN A SANDBOX (cutbox-door.mjs). By AI agents, Wed Nov 11 2026. No macro, syntax, notation, axiom, sorry.
-/
import Derived.Test.YthpmkmogoejjpaaDoorRows
import Derived.LaidByTextLater
import Derived.SevenTiedAt
import Derived.LaidSub
import Derived.LaidOnce
namespace Go.Proofs.YthpmkmogoejjpaaDoor
open Go
set_option maxRecDepth 100000
theorem seatTie1 : Tryd.prog.laidByTextLater [("escutcheon/field.prime", Rows.laid_escutcheon_field_prime), ("escutcheon/order.group", Rows.laid_escutcheon_order_group), ("escutcheon/proj.prime", Rows.laid_escutcheon_proj_prime), ("escutcheon/proj.curveB", Rows.laid_escutcheon_proj_curveB), ("escutcheon/proj.one", Rows.laid_escutcheon_proj_one), ("escutcheon/curve.base", Rows.laid_escutcheon_curve_base), ("escutcheon/sha.first", Rows.laid_escutcheon_sha_first), ("escutcheon/sha.rest", Rows.laid_escutcheon_sha_rest), ("escutcheon/sha.begin", Rows.laid_escutcheon_sha_begin)] [.data, .data, .data, .data, .data, .data, .data, .data, .data] true :=
  Program.laidByTextLater_by_one 62 8 41 (by kernel_rfl) (by kernel_rfl) (by kernel_rfl) (by kernel_rfl) (by kernel_rfl) (by kernel_rfl) (fun _ _ => by kernel_rfl)
theorem noOwnUnsafe : Tryd.pinned.checked.prog.headLifts.contains "ownunsafe" = false := by kernel_rfl
theorem tie : Tryd.prog.laidByTextLater [("escutcheon/order.group", Rows.laid_escutcheon_order_group)] [.data] true :=
  Program.laidByTextLater.sub seatTie1 ["escutcheon/order.group"] (by kernel_rfl) (by kernel_rfl)
theorem crlBodies_row_tie : Rows.crlBodiesRow.laidByTextAt .later Tryd.pinned [.data] true :=
  OpenClaim.laidByTextAt_later rfl rfl tie noOwnUnsafe
theorem crlHas_row_tie : Rows.crlHasRow.laidByTextAt .later Tryd.pinned [.data] true :=
  OpenClaim.laidByTextAt_later rfl rfl tie noOwnUnsafe
theorem tie2 : Tryd.prog.laidByTextLater [("escutcheon/field.prime", Rows.laid_escutcheon_field_prime), ("escutcheon/order.group", Rows.laid_escutcheon_order_group), ("escutcheon/proj.prime", Rows.laid_escutcheon_proj_prime), ("escutcheon/proj.curveB", Rows.laid_escutcheon_proj_curveB), ("escutcheon/proj.one", Rows.laid_escutcheon_proj_one), ("escutcheon/curve.base", Rows.laid_escutcheon_curve_base), ("escutcheon/sha.first", Rows.laid_escutcheon_sha_first), ("escutcheon/sha.rest", Rows.laid_escutcheon_sha_rest), ("escutcheon/sha.begin", Rows.laid_escutcheon_sha_begin)] [.data, .data, .data, .data, .data, .data, .data, .data, .data] true :=
  Program.laidByTextLater.sub seatTie1 ["escutcheon/field.prime", "escutcheon/order.group", "escutcheon/proj.prime", "escutcheon/proj.curveB", "escutcheon/proj.one", "escutcheon/curve.base", "escutcheon/sha.first", "escutcheon/sha.rest", "escutcheon/sha.begin"] (by kernel_rfl) (by kernel_rfl)
theorem eciesWraps_row_tie : Rows.eciesWrapsRow.laidByTextAt .later Tryd.pinned [.data, .data, .data, .data, .data, .data, .data, .data, .data] true :=
  OpenClaim.laidByTextAt_later rfl rfl tie2 noOwnUnsafe
theorem eciesBack_row_tie : Rows.eciesBackRow.laidByTextAt .later Tryd.pinned [.data, .data, .data, .data, .data, .data, .data, .data, .data] true :=
  OpenClaim.laidByTextAt_later rfl rfl tie2 noOwnUnsafe
theorem crlBodiesUpto_row_tie : Rows.crlBodiesUptoRow.laidByTextAt .later Tryd.pinned [.data] true :=
  OpenClaim.laidByTextAt_later rfl rfl tie noOwnUnsafe
theorem crlHasUpto_row_tie : Rows.crlHasUptoRow.laidByTextAt .later Tryd.pinned [.data] true :=
  OpenClaim.laidByTextAt_later rfl rfl tie noOwnUnsafe
theorem eciesWrapsUpto_row_tie : Rows.eciesWrapsUptoRow.laidByTextAt .later Tryd.pinned [.data, .data, .data, .data, .data, .data, .data, .data, .data] true :=
  OpenClaim.laidByTextAt_later rfl rfl tie2 noOwnUnsafe
theorem eciesBackUpto_row_tie : Rows.eciesBackUptoRow.laidByTextAt .later Tryd.pinned [.data, .data, .data, .data, .data, .data, .data, .data, .data] true :=
  OpenClaim.laidByTextAt_later rfl rfl tie2 noOwnUnsafe
end Go.Proofs.YthpmkmogoejjpaaDoor

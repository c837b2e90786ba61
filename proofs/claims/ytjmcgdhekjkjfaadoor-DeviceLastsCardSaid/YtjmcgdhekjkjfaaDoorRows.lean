/-
  NARROWER THAN 'FOR EVERY INPUT', by the rows' own cells (each row's printed sentence says how): DerParses: laid · DerOnce: laid · ManifestDecodes: laid · DeviceLasts: laid · DeviceArgs: laid · EcdsaEncodes: laid · EcdsaDecodes: laid · EcdsaSigns: laid.
  DERIVED. THE GIVEN ROWS OF THIS SEAT. 8 by the template 'for every input the law returns true; each argument reads behind the call as it read before'; 0 by the template 'total and deterministic' (their statements: YtjmcgdhekjkjfaaDoorTotals.lean).
  GIVEN WITH THE SEED: the statements are not yours to turn. If you find one false, say at which input.
  Laid BY PROGRAM, IN A SANDBOX (cutbox-rows.mjs): the forced cells as the released guide's own fill.sh prints them over the translation c009733ed49c67b7… (all of the seat's roots in one cut). By AI agents, Wed Nov 11 2026. No macro, syntax, notation, axiom, sorry.
-/
import Derived.Test.YtjmcgdhekjkjfaaDoorChecked
import GoSem.Claim
import GoSem.ClaimJoined
import GoSem.ClaimMapViews
import Derived.JoinedTies
import Derived.KernelRfl
namespace Go.Proofs.YtjmcgdhekjkjfaaDoor
/- THE CELL 'sum', in the pinned program and in every row, IS THE sha256 OF THE DUMP (.gsa) THAT YtjmcgdhekjkjfaaDoorProg.lean LOADS. Nothing in Lean hashes anything: it is a label: what it is worth is what the hold of that sum in a sandbox is worth. -/
noncomputable def Tryd.pinned : Pinned := { name := "ytjmcgdhekjkjfaadoor", sum := "c009733ed49c67b76af380ab27f40cb01900edfc36667fd70fb272e3f67e23af", checked := Tryd.checked }
namespace Rows
def none {H : Type} : Left H := { results := [], args := [] }

/- WHAT THE LISTED PACKAGE-LEVEL VARIABLES READ AS WHEN THE CALL BEGINS. Each datum BY PROGRAM (the guide's laid-datum.mjs) off the statement by which the dump's own 'gosem.cut.vars' lays the variable. In a bare row this is a premise. The card (YtjmcgdhekjkjfaaDoorCards.lean) ties it to the program's text. -/
def laid_errors_errorType {H : Type} : DataW H := .iface "internal/reflectlite.rtype" (.agg [.ptr (.lit (.string [101, 114, 114, 111, 114]))])
def laid_math_bits_deBruijn64tab {H : Type} : DataW H := .agg [.lit (.int .u8 0), .lit (.int .u8 1), .lit (.int .u8 56), .lit (.int .u8 2), .lit (.int .u8 57), .lit (.int .u8 49), .lit (.int .u8 28), .lit (.int .u8 3), .lit (.int .u8 61), .lit (.int .u8 58), .lit (.int .u8 42), .lit (.int .u8 50), .lit (.int .u8 38), .lit (.int .u8 29), .lit (.int .u8 17), .lit (.int .u8 4), .lit (.int .u8 62), .lit (.int .u8 47), .lit (.int .u8 59), .lit (.int .u8 36), .lit (.int .u8 45), .lit (.int .u8 43), .lit (.int .u8 51), .lit (.int .u8 22), .lit (.int .u8 53), .lit (.int .u8 39), .lit (.int .u8 33), .lit (.int .u8 30), .lit (.int .u8 24), .lit (.int .u8 18), .lit (.int .u8 12), .lit (.int .u8 5), .lit (.int .u8 63), .lit (.int .u8 55), .lit (.int .u8 48), .lit (.int .u8 27), .lit (.int .u8 60), .lit (.int .u8 41), .lit (.int .u8 37), .lit (.int .u8 16), .lit (.int .u8 46), .lit (.int .u8 35), .lit (.int .u8 44), .lit (.int .u8 21), .lit (.int .u8 52), .lit (.int .u8 32), .lit (.int .u8 23), .lit (.int .u8 11), .lit (.int .u8 54), .lit (.int .u8 26), .lit (.int .u8 40), .lit (.int .u8 15), .lit (.int .u8 34), .lit (.int .u8 20), .lit (.int .u8 31), .lit (.int .u8 10), .lit (.int .u8 25), .lit (.int .u8 14), .lit (.int .u8 19), .lit (.int .u8 9), .lit (.int .u8 13), .lit (.int .u8 8), .lit (.int .u8 7), .lit (.int .u8 6)]
def laid_escutcheon_field_prime {H : Type} : DataW H := .agg [.agg [.lit (.int .u64 4294967295), .lit (.int .u64 18446744069414584320), .lit (.int .u64 18446744073709551614), .lit (.int .u64 18446744073709551615), .lit (.int .u64 18446744073709551615), .lit (.int .u64 18446744073709551615)], .lit (.int .u64 4294967297), .agg [.lit (.int .u64 18446744065119617025), .lit (.int .u64 8589934592), .lit (.int .u64 18446744065119617024), .lit (.int .u64 8589934592), .lit (.int .u64 1), .lit (.int .u64 0)]]
def laid_escutcheon_order_group {H : Type} : DataW H := .agg [.agg [.lit (.int .u64 17072048233947408755), .lit (.int .u64 6348401684107011962), .lit (.int .u64 14367412456785391071), .lit (.int .u64 18446744073709551615), .lit (.int .u64 18446744073709551615), .lit (.int .u64 18446744073709551615)], .lit (.int .u64 7986114184663260229), .agg [.lit (.int .u64 3256554584917936553), .lit (.int .u64 18391999277541532697), .lit (.int .u64 13564358545871743303), .lit (.int .u64 15279949475123764421), .lit (.int .u64 4589268600508278933), .lit (.int .u64 902107514168524577)]]
def laid_escutcheon_proj_prime {H : Type} : DataW H := .agg [.agg [.lit (.int .u64 4294967295), .lit (.int .u64 18446744069414584320), .lit (.int .u64 18446744073709551614), .lit (.int .u64 18446744073709551615), .lit (.int .u64 18446744073709551615), .lit (.int .u64 18446744073709551615)], .lit (.int .u64 4294967297), .agg [.lit (.int .u64 18446744065119617025), .lit (.int .u64 8589934592), .lit (.int .u64 18446744065119617024), .lit (.int .u64 8589934592), .lit (.int .u64 1), .lit (.int .u64 0)]]
def laid_escutcheon_proj_curveB {H : Type} : DataW H := .agg [.lit (.int .u64 581395848458481100), .lit (.int .u64 17809957346689692396), .lit (.int .u64 8643006485390950958), .lit (.int .u64 16372638458395724514), .lit (.int .u64 13126622871277412500), .lit (.int .u64 14774077593024970745)]
def laid_escutcheon_proj_one {H : Type} : DataW H := .agg [.lit (.int .u64 18446744069414584321), .lit (.int .u64 4294967295), .lit (.int .u64 1), .lit (.int .u64 0), .lit (.int .u64 0), .lit (.int .u64 0)]
def laid_escutcheon_curve_base {H : Type} : DataW H := .agg [.agg [.lit (.int .u64 4203087948775033527), .lit (.int .u64 6125724927633205612), .lit (.int .u64 6482722621138151992), .lit (.int .u64 7934563412932533144), .lit (.int .u64 10282218360005504372), .lit (.int .u64 12288012358878168375)], .agg [.lit (.int .u64 8809917716911230559), .lit (.int .u64 747793036959711645), .lit (.int .u64 16850834916486723776), .lit (.int .u64 17938995913990739068), .lit (.int .u64 6745997240412855337), .lit (.int .u64 3897828414440483951)], .lit (.bool false)]

/-- 'escutcheonlaw12.DerParses': WHATEVER THE INPUT: true; the input reads as it did. -/
def derParsesSpec : ChangeSpec := { name := "derParses", fn := fun _ => fun
  | [d] => { results := [.lit (.bool true)], args := [d] }
  | _ => none }
def derParsesRow : OpenClaim := { program := "ytjmcgdhekjkjfaadoor", sum := "c009733ed49c67b76af380ab27f40cb01900edfc36667fd70fb272e3f67e23af", func := "escutcheon/escutcheonlaw12.DerParses", spec := "derParses", inPlace := ["internal/reflectlite.ValueOf", "(internal/reflectlite.Value).Type", "(internal/reflectlite.Value).IsNil", "internal/reflectlite.TypeOf", "(internal/reflectlite.Value).Elem", "(internal/reflectlite.Value).Set"], unfollowed := true, recurses := true, named := ["errors.errorType"], apart := false, laid := [("errors.errorType", laid_errors_errorType)] }
def DerParsesSaid : Prop := derParsesRow.holds Tryd.pinned (OpenSpec.ofChange derParsesSpec)

/-- ITS FALSE NEIGHBOUR: 'it returns false'. Refute it at one input. -/
def derParsesWrong : ChangeSpec := { name := "derParses", fn := fun _ => fun
  | [d] => { results := [.lit (.bool false)], args := [d] }
  | _ => none }
def DerParsesWrongFalsely : Prop := derParsesRow.holds Tryd.pinned (OpenSpec.ofChange derParsesWrong)

/-- 'escutcheonlaw12.DerOnce': WHATEVER THE INPUT: true; the input reads as it did. -/
def derOnceSpec : ChangeSpec := { name := "derOnce", fn := fun _ => fun
  | [d] => { results := [.lit (.bool true)], args := [d] }
  | _ => none }
def derOnceRow : OpenClaim := { program := "ytjmcgdhekjkjfaadoor", sum := "c009733ed49c67b76af380ab27f40cb01900edfc36667fd70fb272e3f67e23af", func := "escutcheon/escutcheonlaw12.DerOnce", spec := "derOnce", inPlace := ["internal/reflectlite.ValueOf", "(internal/reflectlite.Value).Type", "(internal/reflectlite.Value).IsNil", "internal/reflectlite.TypeOf", "(internal/reflectlite.Value).Elem", "(internal/reflectlite.Value).Set"], unfollowed := true, recurses := true, named := ["errors.errorType"], apart := false, laid := [("errors.errorType", laid_errors_errorType)] }
def DerOnceSaid : Prop := derOnceRow.holds Tryd.pinned (OpenSpec.ofChange derOnceSpec)

/-- ITS FALSE NEIGHBOUR: 'it returns false'. Refute it at one input. -/
def derOnceWrong : ChangeSpec := { name := "derOnce", fn := fun _ => fun
  | [d] => { results := [.lit (.bool false)], args := [d] }
  | _ => none }
def DerOnceWrongFalsely : Prop := derOnceRow.holds Tryd.pinned (OpenSpec.ofChange derOnceWrong)

/-- 'escutcheonlaw20.ManifestDecodes': WHATEVER THE INPUT: true; the input reads as it did. -/
def manifestDecodesSpec : ChangeSpec := { name := "manifestDecodes", fn := fun _ => fun
  | [d] => { results := [.lit (.bool true)], args := [d] }
  | _ => none }
def manifestDecodesRow : OpenClaim := { program := "ytjmcgdhekjkjfaadoor", sum := "c009733ed49c67b76af380ab27f40cb01900edfc36667fd70fb272e3f67e23af", func := "escutcheon/escutcheonlaw20.ManifestDecodes", spec := "manifestDecodes", inPlace := ["internal/reflectlite.ValueOf", "(internal/reflectlite.Value).Type", "(internal/reflectlite.Value).IsNil", "internal/reflectlite.TypeOf", "(internal/reflectlite.Value).Elem", "(internal/reflectlite.Value).Set"], unfollowed := true, recurses := true, named := ["errors.errorType"], apart := false, laid := [("errors.errorType", laid_errors_errorType)] }
def ManifestDecodesSaid : Prop := manifestDecodesRow.holds Tryd.pinned (OpenSpec.ofChange manifestDecodesSpec)

/-- ITS FALSE NEIGHBOUR: 'it returns false'. Refute it at one input. -/
def manifestDecodesWrong : ChangeSpec := { name := "manifestDecodes", fn := fun _ => fun
  | [d] => { results := [.lit (.bool false)], args := [d] }
  | _ => none }
def ManifestDecodesWrongFalsely : Prop := manifestDecodesRow.holds Tryd.pinned (OpenSpec.ofChange manifestDecodesWrong)

/-- 'escutcheonlaw21.DeviceLasts': WHATEVER THE INPUT: true; the input reads as it did. -/
def deviceLastsSpec : ChangeSpec := { name := "deviceLasts", fn := fun _ => fun
  | [d1, d2] => { results := [.lit (.bool true)], args := [d1, d2] }
  | _ => none }
def deviceLastsRow : OpenClaim := { program := "ytjmcgdhekjkjfaadoor", sum := "c009733ed49c67b76af380ab27f40cb01900edfc36667fd70fb272e3f67e23af", func := "escutcheon/escutcheonlaw21.DeviceLasts", spec := "deviceLasts", named := ["math/bits.deBruijn64tab"], apart := false, laid := [("math/bits.deBruijn64tab", laid_math_bits_deBruijn64tab)] }
def DeviceLastsSaid : Prop := deviceLastsRow.holds Tryd.pinned (OpenSpec.ofChange deviceLastsSpec)

/-- ITS FALSE NEIGHBOUR: 'it returns false'. Refute it at one input. -/
def deviceLastsWrong : ChangeSpec := { name := "deviceLasts", fn := fun _ => fun
  | [d1, d2] => { results := [.lit (.bool false)], args := [d1, d2] }
  | _ => none }
def DeviceLastsWrongFalsely : Prop := deviceLastsRow.holds Tryd.pinned (OpenSpec.ofChange deviceLastsWrong)

/-- 'escutcheonlaw21.DeviceArgs': WHATEVER THE INPUT: true; the input reads as it did. -/
def deviceArgsSpec : ChangeSpec := { name := "deviceArgs", fn := fun _ => fun
  | [d1, d2, d3] => { results := [.lit (.bool true)], args := [d1, d2, d3] }
  | _ => none }
def deviceArgsRow : OpenClaim := { program := "ytjmcgdhekjkjfaadoor", sum := "c009733ed49c67b76af380ab27f40cb01900edfc36667fd70fb272e3f67e23af", func := "escutcheon/escutcheonlaw21.DeviceArgs", spec := "deviceArgs", named := ["math/bits.deBruijn64tab"], apart := false, laid := [("math/bits.deBruijn64tab", laid_math_bits_deBruijn64tab)] }
def DeviceArgsSaid : Prop := deviceArgsRow.holds Tryd.pinned (OpenSpec.ofChange deviceArgsSpec)

/-- ITS FALSE NEIGHBOUR: 'it returns false'. Refute it at one input. -/
def deviceArgsWrong : ChangeSpec := { name := "deviceArgs", fn := fun _ => fun
  | [d1, d2, d3] => { results := [.lit (.bool false)], args := [d1, d2, d3] }
  | _ => none }
def DeviceArgsWrongFalsely : Prop := deviceArgsRow.holds Tryd.pinned (OpenSpec.ofChange deviceArgsWrong)

/-- 'escutcheonlaw14.EcdsaEncodes': WHATEVER THE INPUT: true; the input reads as it did. -/
def ecdsaEncodesSpec : ChangeSpec := { name := "ecdsaEncodes", fn := fun _ => fun
  | [d] => { results := [.lit (.bool true)], args := [d] }
  | _ => none }
def ecdsaEncodesRow : OpenClaim := { program := "ytjmcgdhekjkjfaadoor", sum := "c009733ed49c67b76af380ab27f40cb01900edfc36667fd70fb272e3f67e23af", func := "escutcheon/escutcheonlaw14.EcdsaEncodes", spec := "ecdsaEncodes", inPlace := ["math/bits.Sub64", "math/bits.Add64"], unfollowed := true, recurses := true, named := ["escutcheon/curve.base", "escutcheon/field.prime", "escutcheon/proj.curveB", "escutcheon/proj.prime", "escutcheon/order.group", "escutcheon/proj.one"], apart := false, laid := [("escutcheon/field.prime", laid_escutcheon_field_prime), ("escutcheon/order.group", laid_escutcheon_order_group), ("escutcheon/proj.prime", laid_escutcheon_proj_prime), ("escutcheon/proj.curveB", laid_escutcheon_proj_curveB), ("escutcheon/proj.one", laid_escutcheon_proj_one), ("escutcheon/curve.base", laid_escutcheon_curve_base)] }
def EcdsaEncodesSaid : Prop := ecdsaEncodesRow.holds Tryd.pinned (OpenSpec.ofChange ecdsaEncodesSpec)

/-- ITS FALSE NEIGHBOUR: 'it returns false'. Refute it at one input. -/
def ecdsaEncodesWrong : ChangeSpec := { name := "ecdsaEncodes", fn := fun _ => fun
  | [d] => { results := [.lit (.bool false)], args := [d] }
  | _ => none }
def EcdsaEncodesWrongFalsely : Prop := ecdsaEncodesRow.holds Tryd.pinned (OpenSpec.ofChange ecdsaEncodesWrong)

/-- 'escutcheonlaw14.EcdsaDecodes': WHATEVER THE INPUT: true; the input reads as it did. -/
def ecdsaDecodesSpec : ChangeSpec := { name := "ecdsaDecodes", fn := fun _ => fun
  | [d] => { results := [.lit (.bool true)], args := [d] }
  | _ => none }
def ecdsaDecodesRow : OpenClaim := { program := "ytjmcgdhekjkjfaadoor", sum := "c009733ed49c67b76af380ab27f40cb01900edfc36667fd70fb272e3f67e23af", func := "escutcheon/escutcheonlaw14.EcdsaDecodes", spec := "ecdsaDecodes", inPlace := ["math/bits.Sub64", "math/bits.Add64", "internal/reflectlite.ValueOf", "(internal/reflectlite.Value).Type", "(internal/reflectlite.Value).IsNil", "internal/reflectlite.TypeOf", "(internal/reflectlite.Value).Elem", "(internal/reflectlite.Value).Set"], unfollowed := true, recurses := true, named := ["escutcheon/curve.base", "escutcheon/field.prime", "escutcheon/proj.curveB", "escutcheon/proj.prime", "escutcheon/order.group", "escutcheon/proj.one", "errors.errorType"], apart := false, laid := [("errors.errorType", laid_errors_errorType), ("escutcheon/field.prime", laid_escutcheon_field_prime), ("escutcheon/order.group", laid_escutcheon_order_group), ("escutcheon/proj.prime", laid_escutcheon_proj_prime), ("escutcheon/proj.curveB", laid_escutcheon_proj_curveB), ("escutcheon/proj.one", laid_escutcheon_proj_one), ("escutcheon/curve.base", laid_escutcheon_curve_base)] }
def EcdsaDecodesSaid : Prop := ecdsaDecodesRow.holds Tryd.pinned (OpenSpec.ofChange ecdsaDecodesSpec)

/-- ITS FALSE NEIGHBOUR: 'it returns false'. Refute it at one input. -/
def ecdsaDecodesWrong : ChangeSpec := { name := "ecdsaDecodes", fn := fun _ => fun
  | [d] => { results := [.lit (.bool false)], args := [d] }
  | _ => none }
def EcdsaDecodesWrongFalsely : Prop := ecdsaDecodesRow.holds Tryd.pinned (OpenSpec.ofChange ecdsaDecodesWrong)

/-- 'escutcheonlaw14.EcdsaSigns': WHATEVER THE INPUT: true; the input reads as it did. -/
def ecdsaSignsSpec : ChangeSpec := { name := "ecdsaSigns", fn := fun _ => fun
  | [d1, d2, d3] => { results := [.lit (.bool true)], args := [d1, d2, d3] }
  | _ => none }
def ecdsaSignsRow : OpenClaim := { program := "ytjmcgdhekjkjfaadoor", sum := "c009733ed49c67b76af380ab27f40cb01900edfc36667fd70fb272e3f67e23af", func := "escutcheon/escutcheonlaw14.EcdsaSigns", spec := "ecdsaSigns", inPlace := ["math/bits.Sub64", "math/bits.Add64", "internal/reflectlite.ValueOf", "(internal/reflectlite.Value).Type", "(internal/reflectlite.Value).IsNil", "internal/reflectlite.TypeOf", "(internal/reflectlite.Value).Elem", "(internal/reflectlite.Value).Set"], unfollowed := true, recurses := true, named := ["escutcheon/curve.base", "escutcheon/field.prime", "escutcheon/proj.curveB", "escutcheon/proj.prime", "escutcheon/order.group", "escutcheon/proj.one", "errors.errorType"], apart := false, laid := [("errors.errorType", laid_errors_errorType), ("escutcheon/field.prime", laid_escutcheon_field_prime), ("escutcheon/order.group", laid_escutcheon_order_group), ("escutcheon/proj.prime", laid_escutcheon_proj_prime), ("escutcheon/proj.curveB", laid_escutcheon_proj_curveB), ("escutcheon/proj.one", laid_escutcheon_proj_one), ("escutcheon/curve.base", laid_escutcheon_curve_base)] }
def EcdsaSignsSaid : Prop := ecdsaSignsRow.holds Tryd.pinned (OpenSpec.ofChange ecdsaSignsSpec)

/-- ITS FALSE NEIGHBOUR: 'it returns false'. Refute it at one input. -/
def ecdsaSignsWrong : ChangeSpec := { name := "ecdsaSigns", fn := fun _ => fun
  | [d1, d2, d3] => { results := [.lit (.bool false)], args := [d1, d2, d3] }
  | _ => none }
def EcdsaSignsWrongFalsely : Prop := ecdsaSignsRow.holds Tryd.pinned (OpenSpec.ofChange ecdsaSignsWrong)

/- THE SECOND FORM. 'bulk': how many values and letters a reading holds, each counted each time it is reached (what is shared counts as often as it is met; a slice's spare places count too). A statement '..UptoSaid' is the law's where the arguments, and the package variables that the reading takes, are together of bulk at most 1048576: NARROWER than '..Said'. Prove '..Said' where nothing that the law and all that it calls make is longer than what came in: it says more and counts as full. Else prove '..UptoSaid'. A law counts once. -/
mutual
def uptoBulk {H : Type} : DataW H → Nat
  | .lit (.string bytes) => bytes.length + 1
  | .lit _ => 1
  | .nil => 1
  | .ptr d => uptoBulk d + 1
  | .slice elems spare => uptoBulkAll elems + uptoBulkAll spare + 1
  | .agg parts => uptoBulkAll parts + 1
  | .iface _ d => uptoBulk d + 1
  | .map entries => uptoBulkEntries entries + 1
  | .held _ => 1
def uptoBulkAll {H : Type} : List (DataW H) → Nat
  | [] => 0
  | d :: r => uptoBulk d + uptoBulkAll r
def uptoBulkEntries {H : Type} : List (Lit × DataW H) → Nat
  | [] => 0
  | x :: r => uptoBulkEntry x + uptoBulkEntries r
def uptoBulkEntry {H : Type} : Lit × DataW H → Nat
  | (.string bytes, d) => bytes.length + uptoBulk d + 1
  | (_, d) => uptoBulk d + 1
 end
def uptoSmall : (H : Type) → List (DataW H) → Bool := fun _ ds => decide (uptoBulkAll ds ≤ 1048576)
def OpenSpec.upto (s : _root_.Go.ChangeSpec) : _root_.Go.OpenSpec := { _root_.Go.OpenSpec.ofChange s with cond := some uptoSmall }

/-- 'escutcheonlaw12.DerParses', WHERE WHAT IT READS IS OF BULK AT MOST 1048576: true; the input reads as it did. -/
def derParsesUptoRow : OpenClaim := { program := "ytjmcgdhekjkjfaadoor", sum := "c009733ed49c67b76af380ab27f40cb01900edfc36667fd70fb272e3f67e23af", func := "escutcheon/escutcheonlaw12.DerParses", spec := "derParses", inPlace := ["internal/reflectlite.ValueOf", "(internal/reflectlite.Value).Type", "(internal/reflectlite.Value).IsNil", "internal/reflectlite.TypeOf", "(internal/reflectlite.Value).Elem", "(internal/reflectlite.Value).Set"], unfollowed := true, recurses := true, named := ["errors.errorType"], apart := false, laid := [("errors.errorType", laid_errors_errorType)], narrowed := true }
def DerParsesUptoSaid : Prop := derParsesUptoRow.holds Tryd.pinned (OpenSpec.upto derParsesSpec)

/-- 'escutcheonlaw12.DerOnce', WHERE WHAT IT READS IS OF BULK AT MOST 1048576: true; the input reads as it did. -/
def derOnceUptoRow : OpenClaim := { program := "ytjmcgdhekjkjfaadoor", sum := "c009733ed49c67b76af380ab27f40cb01900edfc36667fd70fb272e3f67e23af", func := "escutcheon/escutcheonlaw12.DerOnce", spec := "derOnce", inPlace := ["internal/reflectlite.ValueOf", "(internal/reflectlite.Value).Type", "(internal/reflectlite.Value).IsNil", "internal/reflectlite.TypeOf", "(internal/reflectlite.Value).Elem", "(internal/reflectlite.Value).Set"], unfollowed := true, recurses := true, named := ["errors.errorType"], apart := false, laid := [("errors.errorType", laid_errors_errorType)], narrowed := true }
def DerOnceUptoSaid : Prop := derOnceUptoRow.holds Tryd.pinned (OpenSpec.upto derOnceSpec)

/-- 'escutcheonlaw20.ManifestDecodes', WHERE WHAT IT READS IS OF BULK AT MOST 1048576: true; the input reads as it did. -/
def manifestDecodesUptoRow : OpenClaim := { program := "ytjmcgdhekjkjfaadoor", sum := "c009733ed49c67b76af380ab27f40cb01900edfc36667fd70fb272e3f67e23af", func := "escutcheon/escutcheonlaw20.ManifestDecodes", spec := "manifestDecodes", inPlace := ["internal/reflectlite.ValueOf", "(internal/reflectlite.Value).Type", "(internal/reflectlite.Value).IsNil", "internal/reflectlite.TypeOf", "(internal/reflectlite.Value).Elem", "(internal/reflectlite.Value).Set"], unfollowed := true, recurses := true, named := ["errors.errorType"], apart := false, laid := [("errors.errorType", laid_errors_errorType)], narrowed := true }
def ManifestDecodesUptoSaid : Prop := manifestDecodesUptoRow.holds Tryd.pinned (OpenSpec.upto manifestDecodesSpec)

/-- 'escutcheonlaw21.DeviceLasts', WHERE WHAT IT READS IS OF BULK AT MOST 1048576: true; the input reads as it did. -/
def deviceLastsUptoRow : OpenClaim := { program := "ytjmcgdhekjkjfaadoor", sum := "c009733ed49c67b76af380ab27f40cb01900edfc36667fd70fb272e3f67e23af", func := "escutcheon/escutcheonlaw21.DeviceLasts", spec := "deviceLasts", named := ["math/bits.deBruijn64tab"], apart := false, laid := [("math/bits.deBruijn64tab", laid_math_bits_deBruijn64tab)], narrowed := true }
def DeviceLastsUptoSaid : Prop := deviceLastsUptoRow.holds Tryd.pinned (OpenSpec.upto deviceLastsSpec)

/-- 'escutcheonlaw21.DeviceArgs', WHERE WHAT IT READS IS OF BULK AT MOST 1048576: true; the input reads as it did. -/
def deviceArgsUptoRow : OpenClaim := { program := "ytjmcgdhekjkjfaadoor", sum := "c009733ed49c67b76af380ab27f40cb01900edfc36667fd70fb272e3f67e23af", func := "escutcheon/escutcheonlaw21.DeviceArgs", spec := "deviceArgs", named := ["math/bits.deBruijn64tab"], apart := false, laid := [("math/bits.deBruijn64tab", laid_math_bits_deBruijn64tab)], narrowed := true }
def DeviceArgsUptoSaid : Prop := deviceArgsUptoRow.holds Tryd.pinned (OpenSpec.upto deviceArgsSpec)

/-- 'escutcheonlaw14.EcdsaEncodes', WHERE WHAT IT READS IS OF BULK AT MOST 1048576: true; the input reads as it did. -/
def ecdsaEncodesUptoRow : OpenClaim := { program := "ytjmcgdhekjkjfaadoor", sum := "c009733ed49c67b76af380ab27f40cb01900edfc36667fd70fb272e3f67e23af", func := "escutcheon/escutcheonlaw14.EcdsaEncodes", spec := "ecdsaEncodes", inPlace := ["math/bits.Sub64", "math/bits.Add64"], unfollowed := true, recurses := true, named := ["escutcheon/curve.base", "escutcheon/field.prime", "escutcheon/proj.curveB", "escutcheon/proj.prime", "escutcheon/order.group", "escutcheon/proj.one"], apart := false, laid := [("escutcheon/field.prime", laid_escutcheon_field_prime), ("escutcheon/order.group", laid_escutcheon_order_group), ("escutcheon/proj.prime", laid_escutcheon_proj_prime), ("escutcheon/proj.curveB", laid_escutcheon_proj_curveB), ("escutcheon/proj.one", laid_escutcheon_proj_one), ("escutcheon/curve.base", laid_escutcheon_curve_base)], narrowed := true }
def EcdsaEncodesUptoSaid : Prop := ecdsaEncodesUptoRow.holds Tryd.pinned (OpenSpec.upto ecdsaEncodesSpec)

/-- 'escutcheonlaw14.EcdsaDecodes', WHERE WHAT IT READS IS OF BULK AT MOST 1048576: true; the input reads as it did. -/
def ecdsaDecodesUptoRow : OpenClaim := { program := "ytjmcgdhekjkjfaadoor", sum := "c009733ed49c67b76af380ab27f40cb01900edfc36667fd70fb272e3f67e23af", func := "escutcheon/escutcheonlaw14.EcdsaDecodes", spec := "ecdsaDecodes", inPlace := ["math/bits.Sub64", "math/bits.Add64", "internal/reflectlite.ValueOf", "(internal/reflectlite.Value).Type", "(internal/reflectlite.Value).IsNil", "internal/reflectlite.TypeOf", "(internal/reflectlite.Value).Elem", "(internal/reflectlite.Value).Set"], unfollowed := true, recurses := true, named := ["escutcheon/curve.base", "escutcheon/field.prime", "escutcheon/proj.curveB", "escutcheon/proj.prime", "escutcheon/order.group", "escutcheon/proj.one", "errors.errorType"], apart := false, laid := [("errors.errorType", laid_errors_errorType), ("escutcheon/field.prime", laid_escutcheon_field_prime), ("escutcheon/order.group", laid_escutcheon_order_group), ("escutcheon/proj.prime", laid_escutcheon_proj_prime), ("escutcheon/proj.curveB", laid_escutcheon_proj_curveB), ("escutcheon/proj.one", laid_escutcheon_proj_one), ("escutcheon/curve.base", laid_escutcheon_curve_base)], narrowed := true }
def EcdsaDecodesUptoSaid : Prop := ecdsaDecodesUptoRow.holds Tryd.pinned (OpenSpec.upto ecdsaDecodesSpec)

/-- 'escutcheonlaw14.EcdsaSigns', WHERE WHAT IT READS IS OF BULK AT MOST 1048576: true; the input reads as it did. -/
def ecdsaSignsUptoRow : OpenClaim := { program := "ytjmcgdhekjkjfaadoor", sum := "c009733ed49c67b76af380ab27f40cb01900edfc36667fd70fb272e3f67e23af", func := "escutcheon/escutcheonlaw14.EcdsaSigns", spec := "ecdsaSigns", inPlace := ["math/bits.Sub64", "math/bits.Add64", "internal/reflectlite.ValueOf", "(internal/reflectlite.Value).Type", "(internal/reflectlite.Value).IsNil", "internal/reflectlite.TypeOf", "(internal/reflectlite.Value).Elem", "(internal/reflectlite.Value).Set"], unfollowed := true, recurses := true, named := ["escutcheon/curve.base", "escutcheon/field.prime", "escutcheon/proj.curveB", "escutcheon/proj.prime", "escutcheon/order.group", "escutcheon/proj.one", "errors.errorType"], apart := false, laid := [("errors.errorType", laid_errors_errorType), ("escutcheon/field.prime", laid_escutcheon_field_prime), ("escutcheon/order.group", laid_escutcheon_order_group), ("escutcheon/proj.prime", laid_escutcheon_proj_prime), ("escutcheon/proj.curveB", laid_escutcheon_proj_curveB), ("escutcheon/proj.one", laid_escutcheon_proj_one), ("escutcheon/curve.base", laid_escutcheon_curve_base)], narrowed := true }
def EcdsaSignsUptoSaid : Prop := ecdsaSignsUptoRow.holds Tryd.pinned (OpenSpec.upto ecdsaSignsSpec)

end Rows
end Go.Proofs.YtjmcgdhekjkjfaaDoor

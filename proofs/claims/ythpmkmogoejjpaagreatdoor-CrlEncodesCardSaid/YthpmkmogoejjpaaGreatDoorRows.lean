/-
  NARROWER THAN 'FOR EVERY INPUT', by the rows' own cells (each row's printed sentence says how): CrlBack: laid · CrlDecodes: laid · CrlEncodes: laid · CertBodies: laid · CertBack: laid · CertDecodes: laid · CertStays: laid · CertEncodes: laid.
  DERIVED. THE GIVEN ROWS OF THIS SEAT. 8 by the template 'for every input the law returns true; each argument reads behind the call as it read before'; 0 by the template 'total and deterministic' (their statements: YthpmkmogoejjpaaGreatDoorTotals.lean).
  GIVEN WITH THE SEED: the statements are not yours to turn. If you find one false, say at which input.
  Laid BY PROGRAM, IN A SANDBOX (cutbox-rows.mjs): the forced cells as the released guide's own fill.sh prints them over the translation bb020af852c34e0b… (all of the seat's roots in one cut). By AI agents, Wed Nov 11 2026. No macro, syntax, notation, axiom, sorry.
-/
import Derived.Test.YthpmkmogoejjpaaGreatDoorChecked
import GoSem.Claim
import GoSem.ClaimJoined
import GoSem.ClaimMapViews
import Derived.JoinedTies
import Derived.KernelRfl
namespace Go.Proofs.YthpmkmogoejjpaaGreatDoor
/- THE CELL 'sum', in the pinned program and in every row, IS THE sha256 OF THE DUMP (.gsa) THAT YthpmkmogoejjpaaGreatDoorProg.lean LOADS. Nothing in Lean hashes anything: it is a label: what it is worth is what the hold of that sum in a sandbox is worth. -/
noncomputable def Tryz.pinned : Pinned := { name := "ythpmkmogoejjpaagreatdoor", sum := "bb020af852c34e0baabb06efc19766fac4fc056666e3c3851f87c6cc5bd360c9", checked := Tryz.checked }
namespace Rows
def none {H : Type} : Left H := { results := [], args := [] }

/- WHAT THE LISTED PACKAGE-LEVEL VARIABLES READ AS WHEN THE CALL BEGINS. Each datum BY PROGRAM (the guide's laid-datum.mjs) off the statement by which the dump's own 'gosem.cut.vars' lays the variable. In a bare row this is a premise. The card (YthpmkmogoejjpaaGreatDoorCards.lean) ties it to the program's text. -/
def laid_escutcheon_order_group {H : Type} : DataW H := .agg [.agg [.lit (.int .u64 17072048233947408755), .lit (.int .u64 6348401684107011962), .lit (.int .u64 14367412456785391071), .lit (.int .u64 18446744073709551615), .lit (.int .u64 18446744073709551615), .lit (.int .u64 18446744073709551615)], .lit (.int .u64 7986114184663260229), .agg [.lit (.int .u64 3256554584917936553), .lit (.int .u64 18391999277541532697), .lit (.int .u64 13564358545871743303), .lit (.int .u64 15279949475123764421), .lit (.int .u64 4589268600508278933), .lit (.int .u64 902107514168524577)]]
def laid_errors_errorType {H : Type} : DataW H := .iface "internal/reflectlite.rtype" (.agg [.ptr (.lit (.string [101, 114, 114, 111, 114]))])
def laid_escutcheon_field_prime {H : Type} : DataW H := .agg [.agg [.lit (.int .u64 4294967295), .lit (.int .u64 18446744069414584320), .lit (.int .u64 18446744073709551614), .lit (.int .u64 18446744073709551615), .lit (.int .u64 18446744073709551615), .lit (.int .u64 18446744073709551615)], .lit (.int .u64 4294967297), .agg [.lit (.int .u64 18446744065119617025), .lit (.int .u64 8589934592), .lit (.int .u64 18446744065119617024), .lit (.int .u64 8589934592), .lit (.int .u64 1), .lit (.int .u64 0)]]
def laid_escutcheon_proj_prime {H : Type} : DataW H := .agg [.agg [.lit (.int .u64 4294967295), .lit (.int .u64 18446744069414584320), .lit (.int .u64 18446744073709551614), .lit (.int .u64 18446744073709551615), .lit (.int .u64 18446744073709551615), .lit (.int .u64 18446744073709551615)], .lit (.int .u64 4294967297), .agg [.lit (.int .u64 18446744065119617025), .lit (.int .u64 8589934592), .lit (.int .u64 18446744065119617024), .lit (.int .u64 8589934592), .lit (.int .u64 1), .lit (.int .u64 0)]]
def laid_escutcheon_proj_curveB {H : Type} : DataW H := .agg [.lit (.int .u64 581395848458481100), .lit (.int .u64 17809957346689692396), .lit (.int .u64 8643006485390950958), .lit (.int .u64 16372638458395724514), .lit (.int .u64 13126622871277412500), .lit (.int .u64 14774077593024970745)]
def laid_escutcheon_proj_one {H : Type} : DataW H := .agg [.lit (.int .u64 18446744069414584321), .lit (.int .u64 4294967295), .lit (.int .u64 1), .lit (.int .u64 0), .lit (.int .u64 0), .lit (.int .u64 0)]
def laid_escutcheon_curve_base {H : Type} : DataW H := .agg [.agg [.lit (.int .u64 4203087948775033527), .lit (.int .u64 6125724927633205612), .lit (.int .u64 6482722621138151992), .lit (.int .u64 7934563412932533144), .lit (.int .u64 10282218360005504372), .lit (.int .u64 12288012358878168375)], .agg [.lit (.int .u64 8809917716911230559), .lit (.int .u64 747793036959711645), .lit (.int .u64 16850834916486723776), .lit (.int .u64 17938995913990739068), .lit (.int .u64 6745997240412855337), .lit (.int .u64 3897828414440483951)], .lit (.bool false)]

/-- 'escutcheonlaw18.CrlBack': WHATEVER THE INPUT: true; the input reads as it did. -/
def crlBackSpec : ChangeSpec := { name := "crlBack", fn := fun _ => fun
  | [d1, d2] => { results := [.lit (.bool true)], args := [d1, d2] }
  | _ => none }
def crlBackRow : OpenClaim := { program := "ythpmkmogoejjpaagreatdoor", sum := "bb020af852c34e0baabb06efc19766fac4fc056666e3c3851f87c6cc5bd360c9", func := "escutcheon/escutcheonlaw18.CrlBack", spec := "crlBack", inPlace := ["math/bits.Sub64"], unfollowed := true, recurses := true, named := ["escutcheon/order.group"], apart := false, laid := [("escutcheon/order.group", laid_escutcheon_order_group)] }
def CrlBackSaid : Prop := crlBackRow.holds Tryz.pinned (OpenSpec.ofChange crlBackSpec)

/-- ITS FALSE NEIGHBOUR: 'it returns false'. Refute it at one input. -/
def crlBackWrong : ChangeSpec := { name := "crlBack", fn := fun _ => fun
  | [d1, d2] => { results := [.lit (.bool false)], args := [d1, d2] }
  | _ => none }
def CrlBackWrongFalsely : Prop := crlBackRow.holds Tryz.pinned (OpenSpec.ofChange crlBackWrong)

/-- 'escutcheonlaw18.CrlDecodes': WHATEVER THE INPUT: true; the input reads as it did. -/
def crlDecodesSpec : ChangeSpec := { name := "crlDecodes", fn := fun _ => fun
  | [d] => { results := [.lit (.bool true)], args := [d] }
  | _ => none }
def crlDecodesRow : OpenClaim := { program := "ythpmkmogoejjpaagreatdoor", sum := "bb020af852c34e0baabb06efc19766fac4fc056666e3c3851f87c6cc5bd360c9", func := "escutcheon/escutcheonlaw18.CrlDecodes", spec := "crlDecodes", inPlace := ["math/bits.Sub64", "internal/reflectlite.ValueOf", "(internal/reflectlite.Value).Type", "(internal/reflectlite.Value).IsNil", "internal/reflectlite.TypeOf", "(internal/reflectlite.Value).Elem", "(internal/reflectlite.Value).Set"], unfollowed := true, recurses := true, named := ["escutcheon/order.group", "errors.errorType"], apart := false, laid := [("errors.errorType", laid_errors_errorType), ("escutcheon/order.group", laid_escutcheon_order_group)] }
def CrlDecodesSaid : Prop := crlDecodesRow.holds Tryz.pinned (OpenSpec.ofChange crlDecodesSpec)

/-- ITS FALSE NEIGHBOUR: 'it returns false'. Refute it at one input. -/
def crlDecodesWrong : ChangeSpec := { name := "crlDecodes", fn := fun _ => fun
  | [d] => { results := [.lit (.bool false)], args := [d] }
  | _ => none }
def CrlDecodesWrongFalsely : Prop := crlDecodesRow.holds Tryz.pinned (OpenSpec.ofChange crlDecodesWrong)

/-- 'escutcheonlaw18.CrlEncodes': WHATEVER THE INPUT: true; the input reads as it did. -/
def crlEncodesSpec : ChangeSpec := { name := "crlEncodes", fn := fun _ => fun
  | [d1, d2] => { results := [.lit (.bool true)], args := [d1, d2] }
  | _ => none }
def crlEncodesRow : OpenClaim := { program := "ythpmkmogoejjpaagreatdoor", sum := "bb020af852c34e0baabb06efc19766fac4fc056666e3c3851f87c6cc5bd360c9", func := "escutcheon/escutcheonlaw18.CrlEncodes", spec := "crlEncodes", inPlace := ["math/bits.Sub64", "internal/reflectlite.ValueOf", "(internal/reflectlite.Value).Type", "(internal/reflectlite.Value).IsNil", "internal/reflectlite.TypeOf", "(internal/reflectlite.Value).Elem", "(internal/reflectlite.Value).Set"], unfollowed := true, recurses := true, named := ["escutcheon/order.group", "errors.errorType"], apart := false, laid := [("errors.errorType", laid_errors_errorType), ("escutcheon/order.group", laid_escutcheon_order_group)] }
def CrlEncodesSaid : Prop := crlEncodesRow.holds Tryz.pinned (OpenSpec.ofChange crlEncodesSpec)

/-- ITS FALSE NEIGHBOUR: 'it returns false'. Refute it at one input. -/
def crlEncodesWrong : ChangeSpec := { name := "crlEncodes", fn := fun _ => fun
  | [d1, d2] => { results := [.lit (.bool false)], args := [d1, d2] }
  | _ => none }
def CrlEncodesWrongFalsely : Prop := crlEncodesRow.holds Tryz.pinned (OpenSpec.ofChange crlEncodesWrong)

/-- 'escutcheonlaw17.CertBodies': WHATEVER THE INPUT: true; the input reads as it did. -/
def certBodiesSpec : ChangeSpec := { name := "certBodies", fn := fun _ => fun
  | [d] => { results := [.lit (.bool true)], args := [d] }
  | _ => none }
def certBodiesRow : OpenClaim := { program := "ythpmkmogoejjpaagreatdoor", sum := "bb020af852c34e0baabb06efc19766fac4fc056666e3c3851f87c6cc5bd360c9", func := "escutcheon/escutcheonlaw17.CertBodies", spec := "certBodies", inPlace := ["math/bits.Sub64", "math/bits.Add64"], unfollowed := true, recurses := true, named := ["escutcheon/order.group", "escutcheon/field.prime", "escutcheon/proj.curveB", "escutcheon/proj.prime"], apart := false, laid := [("escutcheon/field.prime", laid_escutcheon_field_prime), ("escutcheon/order.group", laid_escutcheon_order_group), ("escutcheon/proj.prime", laid_escutcheon_proj_prime), ("escutcheon/proj.curveB", laid_escutcheon_proj_curveB)] }
def CertBodiesSaid : Prop := certBodiesRow.holds Tryz.pinned (OpenSpec.ofChange certBodiesSpec)

/-- ITS FALSE NEIGHBOUR: 'it returns false'. Refute it at one input. -/
def certBodiesWrong : ChangeSpec := { name := "certBodies", fn := fun _ => fun
  | [d] => { results := [.lit (.bool false)], args := [d] }
  | _ => none }
def CertBodiesWrongFalsely : Prop := certBodiesRow.holds Tryz.pinned (OpenSpec.ofChange certBodiesWrong)

/-- 'escutcheonlaw17.CertBack': WHATEVER THE INPUT: true; the input reads as it did. -/
def certBackSpec : ChangeSpec := { name := "certBack", fn := fun _ => fun
  | [d1, d2, d3] => { results := [.lit (.bool true)], args := [d1, d2, d3] }
  | _ => none }
def certBackRow : OpenClaim := { program := "ythpmkmogoejjpaagreatdoor", sum := "bb020af852c34e0baabb06efc19766fac4fc056666e3c3851f87c6cc5bd360c9", func := "escutcheon/escutcheonlaw17.CertBack", spec := "certBack", inPlace := ["math/bits.Sub64", "math/bits.Add64"], unfollowed := true, recurses := true, named := ["escutcheon/order.group", "escutcheon/field.prime", "escutcheon/proj.curveB", "escutcheon/proj.prime", "escutcheon/curve.base", "escutcheon/proj.one"], apart := false, laid := [("escutcheon/field.prime", laid_escutcheon_field_prime), ("escutcheon/order.group", laid_escutcheon_order_group), ("escutcheon/proj.prime", laid_escutcheon_proj_prime), ("escutcheon/proj.curveB", laid_escutcheon_proj_curveB), ("escutcheon/proj.one", laid_escutcheon_proj_one), ("escutcheon/curve.base", laid_escutcheon_curve_base)] }
def CertBackSaid : Prop := certBackRow.holds Tryz.pinned (OpenSpec.ofChange certBackSpec)

/-- ITS FALSE NEIGHBOUR: 'it returns false'. Refute it at one input. -/
def certBackWrong : ChangeSpec := { name := "certBack", fn := fun _ => fun
  | [d1, d2, d3] => { results := [.lit (.bool false)], args := [d1, d2, d3] }
  | _ => none }
def CertBackWrongFalsely : Prop := certBackRow.holds Tryz.pinned (OpenSpec.ofChange certBackWrong)

/-- 'escutcheonlaw17.CertDecodes': WHATEVER THE INPUT: true; the input reads as it did. -/
def certDecodesSpec : ChangeSpec := { name := "certDecodes", fn := fun _ => fun
  | [d] => { results := [.lit (.bool true)], args := [d] }
  | _ => none }
def certDecodesRow : OpenClaim := { program := "ythpmkmogoejjpaagreatdoor", sum := "bb020af852c34e0baabb06efc19766fac4fc056666e3c3851f87c6cc5bd360c9", func := "escutcheon/escutcheonlaw17.CertDecodes", spec := "certDecodes", inPlace := ["math/bits.Sub64", "math/bits.Add64", "internal/reflectlite.ValueOf", "(internal/reflectlite.Value).Type", "(internal/reflectlite.Value).IsNil", "internal/reflectlite.TypeOf", "(internal/reflectlite.Value).Elem", "(internal/reflectlite.Value).Set"], unfollowed := true, recurses := true, named := ["escutcheon/order.group", "escutcheon/field.prime", "escutcheon/proj.curveB", "escutcheon/proj.prime", "errors.errorType"], apart := false, laid := [("errors.errorType", laid_errors_errorType), ("escutcheon/field.prime", laid_escutcheon_field_prime), ("escutcheon/order.group", laid_escutcheon_order_group), ("escutcheon/proj.prime", laid_escutcheon_proj_prime), ("escutcheon/proj.curveB", laid_escutcheon_proj_curveB)] }
def CertDecodesSaid : Prop := certDecodesRow.holds Tryz.pinned (OpenSpec.ofChange certDecodesSpec)

/-- ITS FALSE NEIGHBOUR: 'it returns false'. Refute it at one input. -/
def certDecodesWrong : ChangeSpec := { name := "certDecodes", fn := fun _ => fun
  | [d] => { results := [.lit (.bool false)], args := [d] }
  | _ => none }
def CertDecodesWrongFalsely : Prop := certDecodesRow.holds Tryz.pinned (OpenSpec.ofChange certDecodesWrong)

/-- 'escutcheonlaw17.CertStays': WHATEVER THE INPUT: true; the input reads as it did. -/
def certStaysSpec : ChangeSpec := { name := "certStays", fn := fun _ => fun
  | [d1, d2] => { results := [.lit (.bool true)], args := [d1, d2] }
  | _ => none }
def certStaysRow : OpenClaim := { program := "ythpmkmogoejjpaagreatdoor", sum := "bb020af852c34e0baabb06efc19766fac4fc056666e3c3851f87c6cc5bd360c9", func := "escutcheon/escutcheonlaw17.CertStays", spec := "certStays", inPlace := ["math/bits.Sub64", "math/bits.Add64", "internal/reflectlite.ValueOf", "(internal/reflectlite.Value).Type", "(internal/reflectlite.Value).IsNil", "internal/reflectlite.TypeOf", "(internal/reflectlite.Value).Elem", "(internal/reflectlite.Value).Set"], unfollowed := true, recurses := true, named := ["escutcheon/order.group", "escutcheon/field.prime", "escutcheon/proj.curveB", "escutcheon/proj.prime", "errors.errorType"], apart := false, laid := [("errors.errorType", laid_errors_errorType), ("escutcheon/field.prime", laid_escutcheon_field_prime), ("escutcheon/order.group", laid_escutcheon_order_group), ("escutcheon/proj.prime", laid_escutcheon_proj_prime), ("escutcheon/proj.curveB", laid_escutcheon_proj_curveB)] }
def CertStaysSaid : Prop := certStaysRow.holds Tryz.pinned (OpenSpec.ofChange certStaysSpec)

/-- ITS FALSE NEIGHBOUR: 'it returns false'. Refute it at one input. -/
def certStaysWrong : ChangeSpec := { name := "certStays", fn := fun _ => fun
  | [d1, d2] => { results := [.lit (.bool false)], args := [d1, d2] }
  | _ => none }
def CertStaysWrongFalsely : Prop := certStaysRow.holds Tryz.pinned (OpenSpec.ofChange certStaysWrong)

/-- 'escutcheonlaw17.CertEncodes': WHATEVER THE INPUT: true; the input reads as it did. -/
def certEncodesSpec : ChangeSpec := { name := "certEncodes", fn := fun _ => fun
  | [d1, d2] => { results := [.lit (.bool true)], args := [d1, d2] }
  | _ => none }
def certEncodesRow : OpenClaim := { program := "ythpmkmogoejjpaagreatdoor", sum := "bb020af852c34e0baabb06efc19766fac4fc056666e3c3851f87c6cc5bd360c9", func := "escutcheon/escutcheonlaw17.CertEncodes", spec := "certEncodes", inPlace := ["math/bits.Sub64", "math/bits.Add64", "internal/reflectlite.ValueOf", "(internal/reflectlite.Value).Type", "(internal/reflectlite.Value).IsNil", "internal/reflectlite.TypeOf", "(internal/reflectlite.Value).Elem", "(internal/reflectlite.Value).Set"], unfollowed := true, recurses := true, named := ["escutcheon/order.group", "escutcheon/field.prime", "escutcheon/proj.curveB", "escutcheon/proj.prime", "errors.errorType"], apart := false, laid := [("errors.errorType", laid_errors_errorType), ("escutcheon/field.prime", laid_escutcheon_field_prime), ("escutcheon/order.group", laid_escutcheon_order_group), ("escutcheon/proj.prime", laid_escutcheon_proj_prime), ("escutcheon/proj.curveB", laid_escutcheon_proj_curveB)] }
def CertEncodesSaid : Prop := certEncodesRow.holds Tryz.pinned (OpenSpec.ofChange certEncodesSpec)

/-- ITS FALSE NEIGHBOUR: 'it returns false'. Refute it at one input. -/
def certEncodesWrong : ChangeSpec := { name := "certEncodes", fn := fun _ => fun
  | [d1, d2] => { results := [.lit (.bool false)], args := [d1, d2] }
  | _ => none }
def CertEncodesWrongFalsely : Prop := certEncodesRow.holds Tryz.pinned (OpenSpec.ofChange certEncodesWrong)

/- THE SECOND FORM. 'bulk': how many values and letters a reading holds, each counted each time it is reached (what is shared counts as often as it is met; a slice's spare places count too). A statement '..UptoSaid' is the law's where the arguments, and the package variables that the reading takes, are together of bulk at most 1048576: NARROWER than '..Said'. Prove '..Said' where nothing that the law and all that it calls make is longer than what came in: it says more and counts as full. Else prove '..UptoSaid'. A law counts once. -/
mutual
def uptoBulk {H : Type} : DataW H → Nat
  | .lit (.string bytes) => bytes.length + 1
  | .lit _ => 1
  | .nil => 1
  | .ptr d => uptoBulk d + 1
  | .slice elems spare => uptoBulkAll elems + uptoBulkAll spare + 1
  | .agg parts => uptoBulkAll parts + 1
  | .iface _ d => uptoBulk d + 1
  | .map entries => uptoBulkEntries entries + 1
  | .held _ => 1
def uptoBulkAll {H : Type} : List (DataW H) → Nat
  | [] => 0
  | d :: r => uptoBulk d + uptoBulkAll r
def uptoBulkEntries {H : Type} : List (Lit × DataW H) → Nat
  | [] => 0
  | x :: r => uptoBulkEntry x + uptoBulkEntries r
def uptoBulkEntry {H : Type} : Lit × DataW H → Nat
  | (.string bytes, d) => bytes.length + uptoBulk d + 1
  | (_, d) => uptoBulk d + 1
 end
def uptoSmall : (H : Type) → List (DataW H) → Bool := fun _ ds => decide (uptoBulkAll ds ≤ 1048576)
def OpenSpec.upto (s : _root_.Go.ChangeSpec) : _root_.Go.OpenSpec := { _root_.Go.OpenSpec.ofChange s with cond := some uptoSmall }

/-- 'escutcheonlaw18.CrlBack', WHERE WHAT IT READS IS OF BULK AT MOST 1048576: true; the input reads as it did. -/
def crlBackUptoRow : OpenClaim := { program := "ythpmkmogoejjpaagreatdoor", sum := "bb020af852c34e0baabb06efc19766fac4fc056666e3c3851f87c6cc5bd360c9", func := "escutcheon/escutcheonlaw18.CrlBack", spec := "crlBack", inPlace := ["math/bits.Sub64"], unfollowed := true, recurses := true, named := ["escutcheon/order.group"], apart := false, laid := [("escutcheon/order.group", laid_escutcheon_order_group)], narrowed := true }
def CrlBackUptoSaid : Prop := crlBackUptoRow.holds Tryz.pinned (OpenSpec.upto crlBackSpec)

/-- 'escutcheonlaw18.CrlDecodes', WHERE WHAT IT READS IS OF BULK AT MOST 1048576: true; the input reads as it did. -/
def crlDecodesUptoRow : OpenClaim := { program := "ythpmkmogoejjpaagreatdoor", sum := "bb020af852c34e0baabb06efc19766fac4fc056666e3c3851f87c6cc5bd360c9", func := "escutcheon/escutcheonlaw18.CrlDecodes", spec := "crlDecodes", inPlace := ["math/bits.Sub64", "internal/reflectlite.ValueOf", "(internal/reflectlite.Value).Type", "(internal/reflectlite.Value).IsNil", "internal/reflectlite.TypeOf", "(internal/reflectlite.Value).Elem", "(internal/reflectlite.Value).Set"], unfollowed := true, recurses := true, named := ["escutcheon/order.group", "errors.errorType"], apart := false, laid := [("errors.errorType", laid_errors_errorType), ("escutcheon/order.group", laid_escutcheon_order_group)], narrowed := true }
def CrlDecodesUptoSaid : Prop := crlDecodesUptoRow.holds Tryz.pinned (OpenSpec.upto crlDecodesSpec)

/-- 'escutcheonlaw18.CrlEncodes', WHERE WHAT IT READS IS OF BULK AT MOST 1048576: true; the input reads as it did. -/
def crlEncodesUptoRow : OpenClaim := { program := "ythpmkmogoejjpaagreatdoor", sum := "bb020af852c34e0baabb06efc19766fac4fc056666e3c3851f87c6cc5bd360c9", func := "escutcheon/escutcheonlaw18.CrlEncodes", spec := "crlEncodes", inPlace := ["math/bits.Sub64", "internal/reflectlite.ValueOf", "(internal/reflectlite.Value).Type", "(internal/reflectlite.Value).IsNil", "internal/reflectlite.TypeOf", "(internal/reflectlite.Value).Elem", "(internal/reflectlite.Value).Set"], unfollowed := true, recurses := true, named := ["escutcheon/order.group", "errors.errorType"], apart := false, laid := [("errors.errorType", laid_errors_errorType), ("escutcheon/order.group", laid_escutcheon_order_group)], narrowed := true }
def CrlEncodesUptoSaid : Prop := crlEncodesUptoRow.holds Tryz.pinned (OpenSpec.upto crlEncodesSpec)

/-- 'escutcheonlaw17.CertBodies', WHERE WHAT IT READS IS OF BULK AT MOST 1048576: true; the input reads as it did. -/
def certBodiesUptoRow : OpenClaim := { program := "ythpmkmogoejjpaagreatdoor", sum := "bb020af852c34e0baabb06efc19766fac4fc056666e3c3851f87c6cc5bd360c9", func := "escutcheon/escutcheonlaw17.CertBodies", spec := "certBodies", inPlace := ["math/bits.Sub64", "math/bits.Add64"], unfollowed := true, recurses := true, named := ["escutcheon/order.group", "escutcheon/field.prime", "escutcheon/proj.curveB", "escutcheon/proj.prime"], apart := false, laid := [("escutcheon/field.prime", laid_escutcheon_field_prime), ("escutcheon/order.group", laid_escutcheon_order_group), ("escutcheon/proj.prime", laid_escutcheon_proj_prime), ("escutcheon/proj.curveB", laid_escutcheon_proj_curveB)], narrowed := true }
def CertBodiesUptoSaid : Prop := certBodiesUptoRow.holds Tryz.pinned (OpenSpec.upto certBodiesSpec)

/-- 'escutcheonlaw17.CertBack', WHERE WHAT IT READS IS OF BULK AT MOST 1048576: true; the input reads as it did. -/
def certBackUptoRow : OpenClaim := { program := "ythpmkmogoejjpaagreatdoor", sum := "bb020af852c34e0baabb06efc19766fac4fc056666e3c3851f87c6cc5bd360c9", func := "escutcheon/escutcheonlaw17.CertBack", spec := "certBack", inPlace := ["math/bits.Sub64", "math/bits.Add64"], unfollowed := true, recurses := true, named := ["escutcheon/order.group", "escutcheon/field.prime", "escutcheon/proj.curveB", "escutcheon/proj.prime", "escutcheon/curve.base", "escutcheon/proj.one"], apart := false, laid := [("escutcheon/field.prime", laid_escutcheon_field_prime), ("escutcheon/order.group", laid_escutcheon_order_group), ("escutcheon/proj.prime", laid_escutcheon_proj_prime), ("escutcheon/proj.curveB", laid_escutcheon_proj_curveB), ("escutcheon/proj.one", laid_escutcheon_proj_one), ("escutcheon/curve.base", laid_escutcheon_curve_base)], narrowed := true }
def CertBackUptoSaid : Prop := certBackUptoRow.holds Tryz.pinned (OpenSpec.upto certBackSpec)

/-- 'escutcheonlaw17.CertDecodes', WHERE WHAT IT READS IS OF BULK AT MOST 1048576: true; the input reads as it did. -/
def certDecodesUptoRow : OpenClaim := { program := "ythpmkmogoejjpaagreatdoor", sum := "bb020af852c34e0baabb06efc19766fac4fc056666e3c3851f87c6cc5bd360c9", func := "escutcheon/escutcheonlaw17.CertDecodes", spec := "certDecodes", inPlace := ["math/bits.Sub64", "math/bits.Add64", "internal/reflectlite.ValueOf", "(internal/reflectlite.Value).Type", "(internal/reflectlite.Value).IsNil", "internal/reflectlite.TypeOf", "(internal/reflectlite.Value).Elem", "(internal/reflectlite.Value).Set"], unfollowed := true, recurses := true, named := ["escutcheon/order.group", "escutcheon/field.prime", "escutcheon/proj.curveB", "escutcheon/proj.prime", "errors.errorType"], apart := false, laid := [("errors.errorType", laid_errors_errorType), ("escutcheon/field.prime", laid_escutcheon_field_prime), ("escutcheon/order.group", laid_escutcheon_order_group), ("escutcheon/proj.prime", laid_escutcheon_proj_prime), ("escutcheon/proj.curveB", laid_escutcheon_proj_curveB)], narrowed := true }
def CertDecodesUptoSaid : Prop := certDecodesUptoRow.holds Tryz.pinned (OpenSpec.upto certDecodesSpec)

/-- 'escutcheonlaw17.CertStays', WHERE WHAT IT READS IS OF BULK AT MOST 1048576: true; the input reads as it did. -/
def certStaysUptoRow : OpenClaim := { program := "ythpmkmogoejjpaagreatdoor", sum := "bb020af852c34e0baabb06efc19766fac4fc056666e3c3851f87c6cc5bd360c9", func := "escutcheon/escutcheonlaw17.CertStays", spec := "certStays", inPlace := ["math/bits.Sub64", "math/bits.Add64", "internal/reflectlite.ValueOf", "(internal/reflectlite.Value).Type", "(internal/reflectlite.Value).IsNil", "internal/reflectlite.TypeOf", "(internal/reflectlite.Value).Elem", "(internal/reflectlite.Value).Set"], unfollowed := true, recurses := true, named := ["escutcheon/order.group", "escutcheon/field.prime", "escutcheon/proj.curveB", "escutcheon/proj.prime", "errors.errorType"], apart := false, laid := [("errors.errorType", laid_errors_errorType), ("escutcheon/field.prime", laid_escutcheon_field_prime), ("escutcheon/order.group", laid_escutcheon_order_group), ("escutcheon/proj.prime", laid_escutcheon_proj_prime), ("escutcheon/proj.curveB", laid_escutcheon_proj_curveB)], narrowed := true }
def CertStaysUptoSaid : Prop := certStaysUptoRow.holds Tryz.pinned (OpenSpec.upto certStaysSpec)

/-- 'escutcheonlaw17.CertEncodes', WHERE WHAT IT READS IS OF BULK AT MOST 1048576: true; the input reads as it did. -/
def certEncodesUptoRow : OpenClaim := { program := "ythpmkmogoejjpaagreatdoor", sum := "bb020af852c34e0baabb06efc19766fac4fc056666e3c3851f87c6cc5bd360c9", func := "escutcheon/escutcheonlaw17.CertEncodes", spec := "certEncodes", inPlace := ["math/bits.Sub64", "math/bits.Add64", "internal/reflectlite.ValueOf", "(internal/reflectlite.Value).Type", "(internal/reflectlite.Value).IsNil", "internal/reflectlite.TypeOf", "(internal/reflectlite.Value).Elem", "(internal/reflectlite.Value).Set"], unfollowed := true, recurses := true, named := ["escutcheon/order.group", "escutcheon/field.prime", "escutcheon/proj.curveB", "escutcheon/proj.prime", "errors.errorType"], apart := false, laid := [("errors.errorType", laid_errors_errorType), ("escutcheon/field.prime", laid_escutcheon_field_prime), ("escutcheon/order.group", laid_escutcheon_order_group), ("escutcheon/proj.prime", laid_escutcheon_proj_prime), ("escutcheon/proj.curveB", laid_escutcheon_proj_curveB)], narrowed := true }
def CertEncodesUptoSaid : Prop := certEncodesUptoRow.holds Tryz.pinned (OpenSpec.upto certEncodesSpec)

end Rows
end Go.Proofs.YthpmkmogoejjpaaGreatDoor

/-
  NARROWER THAN 'FOR EVERY INPUT', by the rows' own cells (each row's printed sentence says how): CrlBodies: laid · CrlHas: laid · EciesWraps: laid · EciesBack: laid.
  DERIVED. THE GIVEN ROWS OF THIS SEAT. 4 by the template 'for every input the law returns true; each argument reads behind the call as it read before'; 0 by the template 'total and deterministic' (their statements: YthpmkmogoejjpaaDoorTotals.lean).
  GIVEN WITH THE SEED: the statements are not yours to turn. If you find one false, say at which input.
  Laid BY PROGRAM, IN A SANDBOX (cutbox-rows.mjs): the forced cells as the released guide's own fill.sh prints them over the translation f103937b00af554b… (all of the seat's roots in one cut). By AI agents, Wed Nov 11 2026. No macro, syntax, notation, axiom, sorry.
-/
import Derived.Test.YthpmkmogoejjpaaDoorChecked
import GoSem.Claim
import GoSem.ClaimJoined
import GoSem.ClaimMapViews
import Derived.JoinedTies
import Derived.KernelRfl
namespace Go.Proofs.YthpmkmogoejjpaaDoor
/- THE CELL 'sum', in the pinned program and in every row, IS THE sha256 OF THE DUMP (.gsa) THAT YthpmkmogoejjpaaDoorProg.lean LOADS. Nothing in Lean hashes anything: it is a label: what it is worth is what the hold of that sum in a sandbox is worth. -/
noncomputable def Tryd.pinned : Pinned := { name := "ythpmkmogoejjpaadoor", sum := "f103937b00af554b092213785a87820508f96ad2283fb58985f35c95f2703db4", checked := Tryd.checked }
namespace Rows
def none {H : Type} : Left H := { results := [], args := [] }

/- WHAT THE LISTED PACKAGE-LEVEL VARIABLES READ AS WHEN THE CALL BEGINS. Each datum BY PROGRAM (the guide's laid-datum.mjs) off the statement by which the dump's own 'gosem.cut.vars' lays the variable. In a bare row this is a premise. The card (YthpmkmogoejjpaaDoorCards.lean) ties it to the program's text. -/
def laid_escutcheon_order_group {H : Type} : DataW H := .agg [.agg [.lit (.int .u64 17072048233947408755), .lit (.int .u64 6348401684107011962), .lit (.int .u64 14367412456785391071), .lit (.int .u64 18446744073709551615), .lit (.int .u64 18446744073709551615), .lit (.int .u64 18446744073709551615)], .lit (.int .u64 7986114184663260229), .agg [.lit (.int .u64 3256554584917936553), .lit (.int .u64 18391999277541532697), .lit (.int .u64 13564358545871743303), .lit (.int .u64 15279949475123764421), .lit (.int .u64 4589268600508278933), .lit (.int .u64 902107514168524577)]]
def laid_escutcheon_field_prime {H : Type} : DataW H := .agg [.agg [.lit (.int .u64 4294967295), .lit (.int .u64 18446744069414584320), .lit (.int .u64 18446744073709551614), .lit (.int .u64 18446744073709551615), .lit (.int .u64 18446744073709551615), .lit (.int .u64 18446744073709551615)], .lit (.int .u64 4294967297), .agg [.lit (.int .u64 18446744065119617025), .lit (.int .u64 8589934592), .lit (.int .u64 18446744065119617024), .lit (.int .u64 8589934592), .lit (.int .u64 1), .lit (.int .u64 0)]]
def laid_escutcheon_proj_prime {H : Type} : DataW H := .agg [.agg [.lit (.int .u64 4294967295), .lit (.int .u64 18446744069414584320), .lit (.int .u64 18446744073709551614), .lit (.int .u64 18446744073709551615), .lit (.int .u64 18446744073709551615), .lit (.int .u64 18446744073709551615)], .lit (.int .u64 4294967297), .agg [.lit (.int .u64 18446744065119617025), .lit (.int .u64 8589934592), .lit (.int .u64 18446744065119617024), .lit (.int .u64 8589934592), .lit (.int .u64 1), .lit (.int .u64 0)]]
def laid_escutcheon_proj_curveB {H : Type} : DataW H := .agg [.lit (.int .u64 581395848458481100), .lit (.int .u64 17809957346689692396), .lit (.int .u64 8643006485390950958), .lit (.int .u64 16372638458395724514), .lit (.int .u64 13126622871277412500), .lit (.int .u64 14774077593024970745)]
def laid_escutcheon_proj_one {H : Type} : DataW H := .agg [.lit (.int .u64 18446744069414584321), .lit (.int .u64 4294967295), .lit (.int .u64 1), .lit (.int .u64 0), .lit (.int .u64 0), .lit (.int .u64 0)]
def laid_escutcheon_curve_base {H : Type} : DataW H := .agg [.agg [.lit (.int .u64 4203087948775033527), .lit (.int .u64 6125724927633205612), .lit (.int .u64 6482722621138151992), .lit (.int .u64 7934563412932533144), .lit (.int .u64 10282218360005504372), .lit (.int .u64 12288012358878168375)], .agg [.lit (.int .u64 8809917716911230559), .lit (.int .u64 747793036959711645), .lit (.int .u64 16850834916486723776), .lit (.int .u64 17938995913990739068), .lit (.int .u64 6745997240412855337), .lit (.int .u64 3897828414440483951)], .lit (.bool false)]
def laid_escutcheon_sha_first {H : Type} : DataW H := .agg [.lit (.int .u64 4794697086780616226), .lit (.int .u64 8158064640168781261), .lit (.int .u64 13096744586834688815), .lit (.int .u64 16840607885511220156), .lit (.int .u64 4131703408338449720), .lit (.int .u64 6480981068601479193), .lit (.int .u64 10538285296894168987), .lit (.int .u64 12329834152419229976), .lit (.int .u64 15566598209576043074), .lit (.int .u64 1334009975649890238), .lit (.int .u64 2608012711638119052), .lit (.int .u64 6128411473006802146), .lit (.int .u64 8268148722764581231), .lit (.int .u64 9286055187155687089), .lit (.int .u64 11230858885718282805), .lit (.int .u64 13951009754708518548), .lit (.int .u64 16472876342353939154), .lit (.int .u64 17275323862435702243), .lit (.int .u64 1135362057144423861), .lit (.int .u64 2597628984639134821), .lit (.int .u64 3308224258029322869), .lit (.int .u64 5365058923640841347), .lit (.int .u64 6679025012923562964), .lit (.int .u64 8573033837759648693), .lit (.int .u64 10970295158949994411), .lit (.int .u64 12119686244451234320), .lit (.int .u64 12683024718118986047), .lit (.int .u64 13788192230050041572), .lit (.int .u64 14330467153632333762), .lit (.int .u64 15395433587784984357), .lit (.int .u64 489312712824947311), .lit (.int .u64 1452737877330783856), .lit (.int .u64 2861767655752347644), .lit (.int .u64 3322285676063803686), .lit (.int .u64 5560940570517711597), .lit (.int .u64 5996557281743188959), .lit (.int .u64 7280758554555802590), .lit (.int .u64 8532644243296465576), .lit (.int .u64 9350256976987008742), .lit (.int .u64 10552545826968843579)]
def laid_escutcheon_sha_rest {H : Type} : DataW H := .agg [.lit (.int .u64 11727347734174303076), .lit (.int .u64 12113106623233404929), .lit (.int .u64 14000437183269869457), .lit (.int .u64 14369950271660146224), .lit (.int .u64 15101387698204529176), .lit (.int .u64 15463397548674623760), .lit (.int .u64 17586052441742319658), .lit (.int .u64 1182934255886127544), .lit (.int .u64 1847814050463011016), .lit (.int .u64 2177327727835720531), .lit (.int .u64 2830643537854262169), .lit (.int .u64 3796741975233480872), .lit (.int .u64 4115178125766777443), .lit (.int .u64 5681478168544905931), .lit (.int .u64 6601373596472566643), .lit (.int .u64 7507060721942968483), .lit (.int .u64 8399075790359081724), .lit (.int .u64 8693463985226723168), .lit (.int .u64 9568029438360202098), .lit (.int .u64 10144078919501101548), .lit (.int .u64 10430055236837252648), .lit (.int .u64 11840083180663258601), .lit (.int .u64 13761210420658862357), .lit (.int .u64 14299343276471374635), .lit (.int .u64 14566680578165727644), .lit (.int .u64 15097957966210449927), .lit (.int .u64 16922976911328602910), .lit (.int .u64 17689382322260857208), .lit (.int .u64 500013540394364858), .lit (.int .u64 748580250866718886), .lit (.int .u64 1242879168328830382), .lit (.int .u64 1977374033974150939), .lit (.int .u64 2944078676154940804), .lit (.int .u64 3659926193048069267), .lit (.int .u64 4368137639120453308), .lit (.int .u64 4836135668995329356), .lit (.int .u64 5532061633213252278), .lit (.int .u64 6448918945643986474), .lit (.int .u64 6902733635092675308), .lit (.int .u64 7801388544844847127)]
def laid_escutcheon_sha_begin {H : Type} : DataW H := .agg [.lit (.int .u64 14680500436340154072), .lit (.int .u64 7105036623409894663), .lit (.int .u64 10473403895298186519), .lit (.int .u64 1526699215303891257), .lit (.int .u64 7436329637833083697), .lit (.int .u64 10282925794625328401), .lit (.int .u64 15784041429090275239), .lit (.int .u64 5167115440072839076)]

/-- 'escutcheonlaw18.CrlBodies': WHATEVER THE INPUT: true; the input reads as it did. -/
def crlBodiesSpec : ChangeSpec := { name := "crlBodies", fn := fun _ => fun
  | [d] => { results := [.lit (.bool true)], args := [d] }
  | _ => none }
def crlBodiesRow : OpenClaim := { program := "ythpmkmogoejjpaadoor", sum := "f103937b00af554b092213785a87820508f96ad2283fb58985f35c95f2703db4", func := "escutcheon/escutcheonlaw18.CrlBodies", spec := "crlBodies", inPlace := ["math/bits.Sub64"], unfollowed := true, recurses := true, named := ["escutcheon/order.group"], apart := false, laid := [("escutcheon/order.group", laid_escutcheon_order_group)] }
def CrlBodiesSaid : Prop := crlBodiesRow.holds Tryd.pinned (OpenSpec.ofChange crlBodiesSpec)

/-- ITS FALSE NEIGHBOUR: 'it returns false'. Refute it at one input. -/
def crlBodiesWrong : ChangeSpec := { name := "crlBodies", fn := fun _ => fun
  | [d] => { results := [.lit (.bool false)], args := [d] }
  | _ => none }
def CrlBodiesWrongFalsely : Prop := crlBodiesRow.holds Tryd.pinned (OpenSpec.ofChange crlBodiesWrong)

/-- 'escutcheonlaw18.CrlHas': WHATEVER THE INPUT: true; the input reads as it did. -/
def crlHasSpec : ChangeSpec := { name := "crlHas", fn := fun _ => fun
  | [d1, d2] => { results := [.lit (.bool true)], args := [d1, d2] }
  | _ => none }
def crlHasRow : OpenClaim := { program := "ythpmkmogoejjpaadoor", sum := "f103937b00af554b092213785a87820508f96ad2283fb58985f35c95f2703db4", func := "escutcheon/escutcheonlaw18.CrlHas", spec := "crlHas", inPlace := ["math/bits.Sub64"], unfollowed := true, recurses := true, named := ["escutcheon/order.group"], apart := false, laid := [("escutcheon/order.group", laid_escutcheon_order_group)] }
def CrlHasSaid : Prop := crlHasRow.holds Tryd.pinned (OpenSpec.ofChange crlHasSpec)

/-- ITS FALSE NEIGHBOUR: 'it returns false'. Refute it at one input. -/
def crlHasWrong : ChangeSpec := { name := "crlHas", fn := fun _ => fun
  | [d1, d2] => { results := [.lit (.bool false)], args := [d1, d2] }
  | _ => none }
def CrlHasWrongFalsely : Prop := crlHasRow.holds Tryd.pinned (OpenSpec.ofChange crlHasWrong)

/-- 'escutcheonlaw15.EciesWraps': WHATEVER THE INPUT: true; the input reads as it did. -/
def eciesWrapsSpec : ChangeSpec := { name := "eciesWraps", fn := fun _ => fun
  | [d1, d2, d3] => { results := [.lit (.bool true)], args := [d1, d2, d3] }
  | _ => none }
def eciesWrapsRow : OpenClaim := { program := "ythpmkmogoejjpaadoor", sum := "f103937b00af554b092213785a87820508f96ad2283fb58985f35c95f2703db4", func := "escutcheon/escutcheonlaw15.EciesWraps", spec := "eciesWraps", inPlace := ["math/bits.Sub64", "math/bits.Add64"], unfollowed := true, recurses := true, named := ["escutcheon/order.group", "escutcheon/field.prime", "escutcheon/proj.curveB", "escutcheon/proj.prime", "escutcheon/proj.one", "escutcheon/curve.base", "escutcheon/sha.begin", "escutcheon/sha.first", "escutcheon/sha.rest"], apart := false, laid := [("escutcheon/field.prime", laid_escutcheon_field_prime), ("escutcheon/order.group", laid_escutcheon_order_group), ("escutcheon/proj.prime", laid_escutcheon_proj_prime), ("escutcheon/proj.curveB", laid_escutcheon_proj_curveB), ("escutcheon/proj.one", laid_escutcheon_proj_one), ("escutcheon/curve.base", laid_escutcheon_curve_base), ("escutcheon/sha.first", laid_escutcheon_sha_first), ("escutcheon/sha.rest", laid_escutcheon_sha_rest), ("escutcheon/sha.begin", laid_escutcheon_sha_begin)] }
def EciesWrapsSaid : Prop := eciesWrapsRow.holds Tryd.pinned (OpenSpec.ofChange eciesWrapsSpec)

/-- ITS FALSE NEIGHBOUR: 'it returns false'. Refute it at one input. -/
def eciesWrapsWrong : ChangeSpec := { name := "eciesWraps", fn := fun _ => fun
  | [d1, d2, d3] => { results := [.lit (.bool false)], args := [d1, d2, d3] }
  | _ => none }
def EciesWrapsWrongFalsely : Prop := eciesWrapsRow.holds Tryd.pinned (OpenSpec.ofChange eciesWrapsWrong)

/-- 'escutcheonlaw15.EciesBack': WHATEVER THE INPUT: true; the input reads as it did. -/
def eciesBackSpec : ChangeSpec := { name := "eciesBack", fn := fun _ => fun
  | [d1, d2, d3, d4, d5] => { results := [.lit (.bool true)], args := [d1, d2, d3, d4, d5] }
  | _ => none }
def eciesBackRow : OpenClaim := { program := "ythpmkmogoejjpaadoor", sum := "f103937b00af554b092213785a87820508f96ad2283fb58985f35c95f2703db4", func := "escutcheon/escutcheonlaw15.EciesBack", spec := "eciesBack", inPlace := ["math/bits.Sub64", "math/bits.Add64"], unfollowed := true, recurses := true, named := ["escutcheon/order.group", "escutcheon/field.prime", "escutcheon/proj.curveB", "escutcheon/proj.prime", "escutcheon/proj.one", "escutcheon/curve.base", "escutcheon/sha.begin", "escutcheon/sha.first", "escutcheon/sha.rest"], apart := false, laid := [("escutcheon/field.prime", laid_escutcheon_field_prime), ("escutcheon/order.group", laid_escutcheon_order_group), ("escutcheon/proj.prime", laid_escutcheon_proj_prime), ("escutcheon/proj.curveB", laid_escutcheon_proj_curveB), ("escutcheon/proj.one", laid_escutcheon_proj_one), ("escutcheon/curve.base", laid_escutcheon_curve_base), ("escutcheon/sha.first", laid_escutcheon_sha_first), ("escutcheon/sha.rest", laid_escutcheon_sha_rest), ("escutcheon/sha.begin", laid_escutcheon_sha_begin)] }
def EciesBackSaid : Prop := eciesBackRow.holds Tryd.pinned (OpenSpec.ofChange eciesBackSpec)

/-- ITS FALSE NEIGHBOUR: 'it returns false'. Refute it at one input. -/
def eciesBackWrong : ChangeSpec := { name := "eciesBack", fn := fun _ => fun
  | [d1, d2, d3, d4, d5] => { results := [.lit (.bool false)], args := [d1, d2, d3, d4, d5] }
  | _ => none }
def EciesBackWrongFalsely : Prop := eciesBackRow.holds Tryd.pinned (OpenSpec.ofChange eciesBackWrong)

/- THE SECOND FORM. 'bulk': how many values and letters a reading holds, each counted each time it is reached (what is shared counts as often as it is met; a slice's spare places count too). A statement '..UptoSaid' is the law's where the arguments, and the package variables that the reading takes, are together of bulk at most 1048576: NARROWER than '..Said'. Prove '..Said' where nothing that the law and all that it calls make is longer than what came in: it says more and counts as full. Else prove '..UptoSaid'. A law counts once. -/
mutual
def uptoBulk {H : Type} : DataW H → Nat
  | .lit (.string bytes) => bytes.length + 1
  | .lit _ => 1
  | .nil => 1
  | .ptr d => uptoBulk d + 1
  | .slice elems spare => uptoBulkAll elems + uptoBulkAll spare + 1
  | .agg parts => uptoBulkAll parts + 1
  | .iface _ d => uptoBulk d + 1
  | .map entries => uptoBulkEntries entries + 1
  | .held _ => 1
def uptoBulkAll {H : Type} : List (DataW H) → Nat
  | [] => 0
  | d :: r => uptoBulk d + uptoBulkAll r
def uptoBulkEntries {H : Type} : List (Lit × DataW H) → Nat
  | [] => 0
  | x :: r => uptoBulkEntry x + uptoBulkEntries r
def uptoBulkEntry {H : Type} : Lit × DataW H → Nat
  | (.string bytes, d) => bytes.length + uptoBulk d + 1
  | (_, d) => uptoBulk d + 1
 end
def uptoSmall : (H : Type) → List (DataW H) → Bool := fun _ ds => decide (uptoBulkAll ds ≤ 1048576)
def OpenSpec.upto (s : _root_.Go.ChangeSpec) : _root_.Go.OpenSpec := { _root_.Go.OpenSpec.ofChange s with cond := some uptoSmall }

/-- 'escutcheonlaw18.CrlBodies', WHERE WHAT IT READS IS OF BULK AT MOST 1048576: true; the input reads as it did. -/
def crlBodiesUptoRow : OpenClaim := { program := "ythpmkmogoejjpaadoor", sum := "f103937b00af554b092213785a87820508f96ad2283fb58985f35c95f2703db4", func := "escutcheon/escutcheonlaw18.CrlBodies", spec := "crlBodies", inPlace := ["math/bits.Sub64"], unfollowed := true, recurses := true, named := ["escutcheon/order.group"], apart := false, laid := [("escutcheon/order.group", laid_escutcheon_order_group)], narrowed := true }
def CrlBodiesUptoSaid : Prop := crlBodiesUptoRow.holds Tryd.pinned (OpenSpec.upto crlBodiesSpec)

/-- 'escutcheonlaw18.CrlHas', WHERE WHAT IT READS IS OF BULK AT MOST 1048576: true; the input reads as it did. -/
def crlHasUptoRow : OpenClaim := { program := "ythpmkmogoejjpaadoor", sum := "f103937b00af554b092213785a87820508f96ad2283fb58985f35c95f2703db4", func := "escutcheon/escutcheonlaw18.CrlHas", spec := "crlHas", inPlace := ["math/bits.Sub64"], unfollowed := true, recurses := true, named := ["escutcheon/order.group"], apart := false, laid := [("escutcheon/order.group", laid_escutcheon_order_group)], narrowed := true }
def CrlHasUptoSaid : Prop := crlHasUptoRow.holds Tryd.pinned (OpenSpec.upto crlHasSpec)

/-- 'escutcheonlaw15.EciesWraps', WHERE WHAT IT READS IS OF BULK AT MOST 1048576: true; the input reads as it did. -/
def eciesWrapsUptoRow : OpenClaim := { program := "ythpmkmogoejjpaadoor", sum := "f103937b00af554b092213785a87820508f96ad2283fb58985f35c95f2703db4", func := "escutcheon/escutcheonlaw15.EciesWraps", spec := "eciesWraps", inPlace := ["math/bits.Sub64", "math/bits.Add64"], unfollowed := true, recurses := true, named := ["escutcheon/order.group", "escutcheon/field.prime", "escutcheon/proj.curveB", "escutcheon/proj.prime", "escutcheon/proj.one", "escutcheon/curve.base", "escutcheon/sha.begin", "escutcheon/sha.first", "escutcheon/sha.rest"], apart := false, laid := [("escutcheon/field.prime", laid_escutcheon_field_prime), ("escutcheon/order.group", laid_escutcheon_order_group), ("escutcheon/proj.prime", laid_escutcheon_proj_prime), ("escutcheon/proj.curveB", laid_escutcheon_proj_curveB), ("escutcheon/proj.one", laid_escutcheon_proj_one), ("escutcheon/curve.base", laid_escutcheon_curve_base), ("escutcheon/sha.first", laid_escutcheon_sha_first), ("escutcheon/sha.rest", laid_escutcheon_sha_rest), ("escutcheon/sha.begin", laid_escutcheon_sha_begin)], narrowed := true }
def EciesWrapsUptoSaid : Prop := eciesWrapsUptoRow.holds Tryd.pinned (OpenSpec.upto eciesWrapsSpec)

/-- 'escutcheonlaw15.EciesBack', WHERE WHAT IT READS IS OF BULK AT MOST 1048576: true; the input reads as it did. -/
def eciesBackUptoRow : OpenClaim := { program := "ythpmkmogoejjpaadoor", sum := "f103937b00af554b092213785a87820508f96ad2283fb58985f35c95f2703db4", func := "escutcheon/escutcheonlaw15.EciesBack", spec := "eciesBack", inPlace := ["math/bits.Sub64", "math/bits.Add64"], unfollowed := true, recurses := true, named := ["escutcheon/order.group", "escutcheon/field.prime", "escutcheon/proj.curveB", "escutcheon/proj.prime", "escutcheon/proj.one", "escutcheon/curve.base", "escutcheon/sha.begin", "escutcheon/sha.first", "escutcheon/sha.rest"], apart := false, laid := [("escutcheon/field.prime", laid_escutcheon_field_prime), ("escutcheon/order.group", laid_escutcheon_order_group), ("escutcheon/proj.prime", laid_escutcheon_proj_prime), ("escutcheon/proj.curveB", laid_escutcheon_proj_curveB), ("escutcheon/proj.one", laid_escutcheon_proj_one), ("escutcheon/curve.base", laid_escutcheon_curve_base), ("escutcheon/sha.first", laid_escutcheon_sha_first), ("escutcheon/sha.rest", laid_escutcheon_sha_rest), ("escutcheon/sha.begin", laid_escutcheon_sha_begin)], narrowed := true }
def EciesBackUptoSaid : Prop := eciesBackUptoRow.holds Tryd.pinned (OpenSpec.upto eciesBackSpec)

end Rows
end Go.Proofs.YthpmkmogoejjpaaDoor

/-
  NARROWER THAN 'FOR EVERY INPUT', by the rows' own cells (each row's printed sentence says how): ManifestSigned: laid · ManifestSigns: laid.
  DERIVED. THE GIVEN ROWS OF THIS SEAT. 2 by the template 'for every input the law returns true; each argument reads behind the call as it read before'; 0 by the template 'total and deterministic' (their statements: YtjmcgdhekjkjfaaGreatDoorTotals.lean).
  GIVEN WITH THE SEED: the statements are not yours to turn. If you find one false, say at which input.
  Laid BY PROGRAM, IN A SANDBOX (cutbox-rows.mjs): the forced cells as the released guide's own fill.sh prints them over the translation 42e3978a26d20364… (all of the seat's roots in one cut). By AI agents, Wed Nov 11 2026. No macro, syntax, notation, axiom, sorry.
-/
import Derived.Test.YtjmcgdhekjkjfaaGreatDoorChecked
import GoSem.Claim
import GoSem.ClaimJoined
import GoSem.ClaimMapViews
import Derived.JoinedTies
import Derived.KernelRfl
namespace Go.Proofs.YtjmcgdhekjkjfaaGreatDoor
/- THE CELL 'sum', in the pinned program and in every row, IS THE sha256 OF THE DUMP (.gsa) THAT YtjmcgdhekjkjfaaGreatDoorProg.lean LOADS. Nothing in Lean hashes anything: it is a label: what it is worth is what the hold of that sum in a sandbox is worth. -/
noncomputable def Tryz.pinned : Pinned := { name := "ytjmcgdhekjkjfaagreatdoor", sum := "42e3978a26d20364c3bf56cdbc9cd9a784786b900c2de0cb358faa7228fb4ee2", checked := Tryz.checked }
namespace Rows
def none {H : Type} : Left H := { results := [], args := [] }

/- WHAT THE LISTED PACKAGE-LEVEL VARIABLES READ AS WHEN THE CALL BEGINS. Each datum BY PROGRAM (the guide's laid-datum.mjs) off the statement by which the dump's own 'gosem.cut.vars' lays the variable. In a bare row this is a premise. The card (YtjmcgdhekjkjfaaGreatDoorCards.lean) ties it to the program's text. -/
def laid_errors_errorType {H : Type} : DataW H := .iface "internal/reflectlite.rtype" (.agg [.ptr (.lit (.string [101, 114, 114, 111, 114]))])
def laid_escutcheon_order_group {H : Type} : DataW H := .agg [.agg [.lit (.int .u64 17072048233947408755), .lit (.int .u64 6348401684107011962), .lit (.int .u64 14367412456785391071), .lit (.int .u64 18446744073709551615), .lit (.int .u64 18446744073709551615), .lit (.int .u64 18446744073709551615)], .lit (.int .u64 7986114184663260229), .agg [.lit (.int .u64 3256554584917936553), .lit (.int .u64 18391999277541532697), .lit (.int .u64 13564358545871743303), .lit (.int .u64 15279949475123764421), .lit (.int .u64 4589268600508278933), .lit (.int .u64 902107514168524577)]]

/-- 'escutcheonlaw20.ManifestSigned': WHATEVER THE INPUT: true; the input reads as it did. -/
def manifestSignedSpec : ChangeSpec := { name := "manifestSigned", fn := fun _ => fun
  | [d] => { results := [.lit (.bool true)], args := [d] }
  | _ => none }
def manifestSignedRow : OpenClaim := { program := "ytjmcgdhekjkjfaagreatdoor", sum := "42e3978a26d20364c3bf56cdbc9cd9a784786b900c2de0cb358faa7228fb4ee2", func := "escutcheon/escutcheonlaw20.ManifestSigned", spec := "manifestSigned", inPlace := ["math/bits.Sub64", "internal/reflectlite.ValueOf", "(internal/reflectlite.Value).Type", "(internal/reflectlite.Value).IsNil", "internal/reflectlite.TypeOf", "(internal/reflectlite.Value).Elem", "(internal/reflectlite.Value).Set"], unfollowed := true, recurses := true, named := ["escutcheon/order.group", "errors.errorType"], apart := false, laid := [("errors.errorType", laid_errors_errorType), ("escutcheon/order.group", laid_escutcheon_order_group)] }
def ManifestSignedSaid : Prop := manifestSignedRow.holds Tryz.pinned (OpenSpec.ofChange manifestSignedSpec)

/-- ITS FALSE NEIGHBOUR: 'it returns false'. Refute it at one input. -/
def manifestSignedWrong : ChangeSpec := { name := "manifestSigned", fn := fun _ => fun
  | [d] => { results := [.lit (.bool false)], args := [d] }
  | _ => none }
def ManifestSignedWrongFalsely : Prop := manifestSignedRow.holds Tryz.pinned (OpenSpec.ofChange manifestSignedWrong)

/-- 'escutcheonlaw20.ManifestSigns': WHATEVER THE INPUT: true; the input reads as it did. -/
def manifestSignsSpec : ChangeSpec := { name := "manifestSigns", fn := fun _ => fun
  | [d1, d2] => { results := [.lit (.bool true)], args := [d1, d2] }
  | _ => none }
def manifestSignsRow : OpenClaim := { program := "ytjmcgdhekjkjfaagreatdoor", sum := "42e3978a26d20364c3bf56cdbc9cd9a784786b900c2de0cb358faa7228fb4ee2", func := "escutcheon/escutcheonlaw20.ManifestSigns", spec := "manifestSigns", inPlace := ["math/bits.Sub64", "internal/reflectlite.ValueOf", "(internal/reflectlite.Value).Type", "(internal/reflectlite.Value).IsNil", "internal/reflectlite.TypeOf", "(internal/reflectlite.Value).Elem", "(internal/reflectlite.Value).Set"], unfollowed := true, recurses := true, named := ["escutcheon/order.group", "errors.errorType"], apart := false, laid := [("errors.errorType", laid_errors_errorType), ("escutcheon/order.group", laid_escutcheon_order_group)] }
def ManifestSignsSaid : Prop := manifestSignsRow.holds Tryz.pinned (OpenSpec.ofChange manifestSignsSpec)

/-- ITS FALSE NEIGHBOUR: 'it returns false'. Refute it at one input. -/
def manifestSignsWrong : ChangeSpec := { name := "manifestSigns", fn := fun _ => fun
  | [d1, d2] => { results := [.lit (.bool false)], args := [d1, d2] }
  | _ => none }
def ManifestSignsWrongFalsely : Prop := manifestSignsRow.holds Tryz.pinned (OpenSpec.ofChange manifestSignsWrong)

/- THE SECOND FORM. 'bulk': how many values and letters a reading holds, each counted each time it is reached (what is shared counts as often as it is met; a slice's spare places count too). A statement '..UptoSaid' is the law's where the arguments, and the package variables that the reading takes, are together of bulk at most 1048576: NARROWER than '..Said'. Prove '..Said' where nothing that the law and all that it calls make is longer than what came in: it says more and counts as full. Else prove '..UptoSaid'. A law counts once. -/
mutual
def uptoBulk {H : Type} : DataW H → Nat
  | .lit (.string bytes) => bytes.length + 1
  | .lit _ => 1
  | .nil => 1
  | .ptr d => uptoBulk d + 1
  | .slice elems spare => uptoBulkAll elems + uptoBulkAll spare + 1
  | .agg parts => uptoBulkAll parts + 1
  | .iface _ d => uptoBulk d + 1
  | .map entries => uptoBulkEntries entries + 1
  | .held _ => 1
def uptoBulkAll {H : Type} : List (DataW H) → Nat
  | [] => 0
  | d :: r => uptoBulk d + uptoBulkAll r
def uptoBulkEntries {H : Type} : List (Lit × DataW H) → Nat
  | [] => 0
  | x :: r => uptoBulkEntry x + uptoBulkEntries r
def uptoBulkEntry {H : Type} : Lit × DataW H → Nat
  | (.string bytes, d) => bytes.length + uptoBulk d + 1
  | (_, d) => uptoBulk d + 1
 end
def uptoSmall : (H : Type) → List (DataW H) → Bool := fun _ ds => decide (uptoBulkAll ds ≤ 1048576)
def OpenSpec.upto (s : _root_.Go.ChangeSpec) : _root_.Go.OpenSpec := { _root_.Go.OpenSpec.ofChange s with cond := some uptoSmall }

/-- 'escutcheonlaw20.ManifestSigned', WHERE WHAT IT READS IS OF BULK AT MOST 1048576: true; the input reads as it did. -/
def manifestSignedUptoRow : OpenClaim := { program := "ytjmcgdhekjkjfaagreatdoor", sum := "42e3978a26d20364c3bf56cdbc9cd9a784786b900c2de0cb358faa7228fb4ee2", func := "escutcheon/escutcheonlaw20.ManifestSigned", spec := "manifestSigned", inPlace := ["math/bits.Sub64", "internal/reflectlite.ValueOf", "(internal/reflectlite.Value).Type", "(internal/reflectlite.Value).IsNil", "internal/reflectlite.TypeOf", "(internal/reflectlite.Value).Elem", "(internal/reflectlite.Value).Set"], unfollowed := true, recurses := true, named := ["escutcheon/order.group", "errors.errorType"], apart := false, laid := [("errors.errorType", laid_errors_errorType), ("escutcheon/order.group", laid_escutcheon_order_group)], narrowed := true }
def ManifestSignedUptoSaid : Prop := manifestSignedUptoRow.holds Tryz.pinned (OpenSpec.upto manifestSignedSpec)

/-- 'escutcheonlaw20.ManifestSigns', WHERE WHAT IT READS IS OF BULK AT MOST 1048576: true; the input reads as it did. -/
def manifestSignsUptoRow : OpenClaim := { program := "ytjmcgdhekjkjfaagreatdoor", sum := "42e3978a26d20364c3bf56cdbc9cd9a784786b900c2de0cb358faa7228fb4ee2", func := "escutcheon/escutcheonlaw20.ManifestSigns", spec := "manifestSigns", inPlace := ["math/bits.Sub64", "internal/reflectlite.ValueOf", "(internal/reflectlite.Value).Type", "(internal/reflectlite.Value).IsNil", "internal/reflectlite.TypeOf", "(internal/reflectlite.Value).Elem", "(internal/reflectlite.Value).Set"], unfollowed := true, recurses := true, named := ["escutcheon/order.group", "errors.errorType"], apart := false, laid := [("errors.errorType", laid_errors_errorType), ("escutcheon/order.group", laid_escutcheon_order_group)], narrowed := true }
def ManifestSignsUptoSaid : Prop := manifestSignsUptoRow.holds Tryz.pinned (OpenSpec.upto manifestSignsSpec)

end Rows
end Go.Proofs.YtjmcgdhekjkjfaaGreatDoor

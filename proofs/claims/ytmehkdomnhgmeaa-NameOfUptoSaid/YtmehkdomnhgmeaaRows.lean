/-
  NARROWER THAN 'FOR EVERY INPUT', by the rows' own cells (each row's printed sentence says how): NameOf: loops.
  DERIVED. THE GIVEN ROWS OF THIS SEAT. 12 by the template 'for every input the law returns true; each argument reads behind the call as it read before'; 0 by the template 'total and deterministic' (their statements: YtmehkdomnhgmeaaTotals.lean).
  GIVEN WITH THE SEED: the statements are not yours to turn. If you find one false, say at which input.
  Laid BY PROGRAM, IN A SANDBOX (cutbox-rows.mjs): the forced cells as the released guide's own fill.sh prints them over the translation 6d9c9c92c59f9ec9… (all of the seat's roots in one cut). By AI agents, Wed Nov 11 2026. No macro, syntax, notation, axiom, sorry.
-/
import Derived.Test.YtmehkdomnhgmeaaChecked
import GoSem.Claim
import GoSem.ClaimJoined
import GoSem.ClaimMapViews
import Derived.JoinedTies
import Derived.KernelRfl
namespace Go.Proofs.Ytmehkdomnhgmeaa
/- THE CELL 'sum', in the pinned program and in every row, IS THE sha256 OF THE DUMP (.gsa) THAT YtmehkdomnhgmeaaProg.lean LOADS. Nothing in Lean hashes anything: it is a label: what it is worth is what the hold of that sum in a sandbox is worth. -/
noncomputable def Try.pinned : Pinned := { name := "ytmehkdomnhgmeaa", sum := "6d9c9c92c59f9ec98a5ad284839f63166e6e2d16d22f30716247f17cffe6cb33", checked := Try.checked }
namespace Rows
def none {H : Type} : Left H := { results := [], args := [] }

/-- 'escutcheonlaw13.PrimTruth': WHATEVER THE INPUT: true; the input reads as it did. -/
def primTruthSpec : ChangeSpec := { name := "primTruth", fn := fun _ => fun
  | [d] => { results := [.lit (.bool true)], args := [d] }
  | _ => none }
def primTruthRow : OpenClaim := { program := "ytmehkdomnhgmeaa", sum := "6d9c9c92c59f9ec98a5ad284839f63166e6e2d16d22f30716247f17cffe6cb33", func := "escutcheon/escutcheonlaw13.PrimTruth", spec := "primTruth", apart := false }
def PrimTruthSaid : Prop := primTruthRow.holds Try.pinned (OpenSpec.ofChange primTruthSpec)

/-- ITS FALSE NEIGHBOUR: 'it returns false'. Refute it at one input. -/
def primTruthWrong : ChangeSpec := { name := "primTruth", fn := fun _ => fun
  | [d] => { results := [.lit (.bool false)], args := [d] }
  | _ => none }
def PrimTruthWrongFalsely : Prop := primTruthRow.holds Try.pinned (OpenSpec.ofChange primTruthWrong)

/-- 'escutcheonlaw13.PrimBits': WHATEVER THE INPUT: true; the input reads as it did. -/
def primBitsSpec : ChangeSpec := { name := "primBits", fn := fun _ => fun
  | [d] => { results := [.lit (.bool true)], args := [d] }
  | _ => none }
def primBitsRow : OpenClaim := { program := "ytmehkdomnhgmeaa", sum := "6d9c9c92c59f9ec98a5ad284839f63166e6e2d16d22f30716247f17cffe6cb33", func := "escutcheon/escutcheonlaw13.PrimBits", spec := "primBits", apart := false }
def PrimBitsSaid : Prop := primBitsRow.holds Try.pinned (OpenSpec.ofChange primBitsSpec)

/-- ITS FALSE NEIGHBOUR: 'it returns false'. Refute it at one input. -/
def primBitsWrong : ChangeSpec := { name := "primBits", fn := fun _ => fun
  | [d] => { results := [.lit (.bool false)], args := [d] }
  | _ => none }
def PrimBitsWrongFalsely : Prop := primBitsRow.holds Try.pinned (OpenSpec.ofChange primBitsWrong)

/-- 'escutcheonlaw13.PrimNumbers': WHATEVER THE INPUT: true; the input reads as it did. -/
def primNumbersSpec : ChangeSpec := { name := "primNumbers", fn := fun _ => fun
  | [d] => { results := [.lit (.bool true)], args := [d] }
  | _ => none }
def primNumbersRow : OpenClaim := { program := "ytmehkdomnhgmeaa", sum := "6d9c9c92c59f9ec98a5ad284839f63166e6e2d16d22f30716247f17cffe6cb33", func := "escutcheon/escutcheonlaw13.PrimNumbers", spec := "primNumbers", apart := false }
def PrimNumbersSaid : Prop := primNumbersRow.holds Try.pinned (OpenSpec.ofChange primNumbersSpec)

/-- ITS FALSE NEIGHBOUR: 'it returns false'. Refute it at one input. -/
def primNumbersWrong : ChangeSpec := { name := "primNumbers", fn := fun _ => fun
  | [d] => { results := [.lit (.bool false)], args := [d] }
  | _ => none }
def PrimNumbersWrongFalsely : Prop := primNumbersRow.holds Try.pinned (OpenSpec.ofChange primNumbersWrong)

/-- 'escutcheonlaw13.PrimNumberOf': WHATEVER THE INPUT: true; the input reads as it did. -/
def primNumberOfSpec : ChangeSpec := { name := "primNumberOf", fn := fun _ => fun
  | [d] => { results := [.lit (.bool true)], args := [d] }
  | _ => none }
def primNumberOfRow : OpenClaim := { program := "ytmehkdomnhgmeaa", sum := "6d9c9c92c59f9ec98a5ad284839f63166e6e2d16d22f30716247f17cffe6cb33", func := "escutcheon/escutcheonlaw13.PrimNumberOf", spec := "primNumberOf", apart := false }
def PrimNumberOfSaid : Prop := primNumberOfRow.holds Try.pinned (OpenSpec.ofChange primNumberOfSpec)

/-- ITS FALSE NEIGHBOUR: 'it returns false'. Refute it at one input. -/
def primNumberOfWrong : ChangeSpec := { name := "primNumberOf", fn := fun _ => fun
  | [d] => { results := [.lit (.bool false)], args := [d] }
  | _ => none }
def PrimNumberOfWrongFalsely : Prop := primNumberOfRow.holds Try.pinned (OpenSpec.ofChange primNumberOfWrong)

/-- 'escutcheonlaw13.PrimSmall': WHATEVER THE INPUT: true; the input reads as it did. -/
def primSmallSpec : ChangeSpec := { name := "primSmall", fn := fun _ => fun
  | [d] => { results := [.lit (.bool true)], args := [d] }
  | _ => none }
def primSmallRow : OpenClaim := { program := "ytmehkdomnhgmeaa", sum := "6d9c9c92c59f9ec98a5ad284839f63166e6e2d16d22f30716247f17cffe6cb33", func := "escutcheon/escutcheonlaw13.PrimSmall", spec := "primSmall", apart := false }
def PrimSmallSaid : Prop := primSmallRow.holds Try.pinned (OpenSpec.ofChange primSmallSpec)

/-- ITS FALSE NEIGHBOUR: 'it returns false'. Refute it at one input. -/
def primSmallWrong : ChangeSpec := { name := "primSmall", fn := fun _ => fun
  | [d] => { results := [.lit (.bool false)], args := [d] }
  | _ => none }
def PrimSmallWrongFalsely : Prop := primSmallRow.holds Try.pinned (OpenSpec.ofChange primSmallWrong)

/-- 'escutcheonlaw13.PrimSmallOf': WHATEVER THE INPUT: true; the input reads as it did. -/
def primSmallOfSpec : ChangeSpec := { name := "primSmallOf", fn := fun _ => fun
  | [d] => { results := [.lit (.bool true)], args := [d] }
  | _ => none }
def primSmallOfRow : OpenClaim := { program := "ytmehkdomnhgmeaa", sum := "6d9c9c92c59f9ec98a5ad284839f63166e6e2d16d22f30716247f17cffe6cb33", func := "escutcheon/escutcheonlaw13.PrimSmallOf", spec := "primSmallOf", apart := false }
def PrimSmallOfSaid : Prop := primSmallOfRow.holds Try.pinned (OpenSpec.ofChange primSmallOfSpec)

/-- ITS FALSE NEIGHBOUR: 'it returns false'. Refute it at one input. -/
def primSmallOfWrong : ChangeSpec := { name := "primSmallOf", fn := fun _ => fun
  | [d] => { results := [.lit (.bool false)], args := [d] }
  | _ => none }
def PrimSmallOfWrongFalsely : Prop := primSmallOfRow.holds Try.pinned (OpenSpec.ofChange primSmallOfWrong)

/-- 'escutcheonlaw13.PrimStays': WHATEVER THE INPUT: true; the input reads as it did. -/
def primStaysSpec : ChangeSpec := { name := "primStays", fn := fun _ => fun
  | [d1, d2] => { results := [.lit (.bool true)], args := [d1, d2] }
  | _ => none }
def primStaysRow : OpenClaim := { program := "ytmehkdomnhgmeaa", sum := "6d9c9c92c59f9ec98a5ad284839f63166e6e2d16d22f30716247f17cffe6cb33", func := "escutcheon/escutcheonlaw13.PrimStays", spec := "primStays", unfollowed := true, recurses := true, apart := false }
def PrimStaysSaid : Prop := primStaysRow.holds Try.pinned (OpenSpec.ofChange primStaysSpec)

/-- ITS FALSE NEIGHBOUR: 'it returns false'. Refute it at one input. -/
def primStaysWrong : ChangeSpec := { name := "primStays", fn := fun _ => fun
  | [d1, d2] => { results := [.lit (.bool false)], args := [d1, d2] }
  | _ => none }
def PrimStaysWrongFalsely : Prop := primStaysRow.holds Try.pinned (OpenSpec.ofChange primStaysWrong)

/-- 'escutcheonlaw16.NameWithin': WHATEVER THE INPUT: true; the input reads as it did. -/
def nameWithinSpec : ChangeSpec := { name := "nameWithin", fn := fun _ => fun
  | [d1, d2] => { results := [.lit (.bool true)], args := [d1, d2] }
  | _ => none }
def nameWithinRow : OpenClaim := { program := "ytmehkdomnhgmeaa", sum := "6d9c9c92c59f9ec98a5ad284839f63166e6e2d16d22f30716247f17cffe6cb33", func := "escutcheon/escutcheonlaw16.NameWithin", spec := "nameWithin", unfollowed := true, recurses := true, apart := false }
def NameWithinSaid : Prop := nameWithinRow.holds Try.pinned (OpenSpec.ofChange nameWithinSpec)

/-- ITS FALSE NEIGHBOUR: 'it returns false'. Refute it at one input. -/
def nameWithinWrong : ChangeSpec := { name := "nameWithin", fn := fun _ => fun
  | [d1, d2] => { results := [.lit (.bool false)], args := [d1, d2] }
  | _ => none }
def NameWithinWrongFalsely : Prop := nameWithinRow.holds Try.pinned (OpenSpec.ofChange nameWithinWrong)

/-- 'escutcheonlaw16.NameOn': WHATEVER THE INPUT: true; the input reads as it did. -/
def nameOnSpec : ChangeSpec := { name := "nameOn", fn := fun _ => fun
  | [d1, d2, d3] => { results := [.lit (.bool true)], args := [d1, d2, d3] }
  | _ => none }
def nameOnRow : OpenClaim := { program := "ytmehkdomnhgmeaa", sum := "6d9c9c92c59f9ec98a5ad284839f63166e6e2d16d22f30716247f17cffe6cb33", func := "escutcheon/escutcheonlaw16.NameOn", spec := "nameOn", unfollowed := true, recurses := true, apart := false }
def NameOnSaid : Prop := nameOnRow.holds Try.pinned (OpenSpec.ofChange nameOnSpec)

/-- ITS FALSE NEIGHBOUR: 'it returns false'. Refute it at one input. -/
def nameOnWrong : ChangeSpec := { name := "nameOn", fn := fun _ => fun
  | [d1, d2, d3] => { results := [.lit (.bool false)], args := [d1, d2, d3] }
  | _ => none }
def NameOnWrongFalsely : Prop := nameOnRow.holds Try.pinned (OpenSpec.ofChange nameOnWrong)

/-- 'escutcheonlaw16.NameElements': WHATEVER THE INPUT: true; the input reads as it did. -/
def nameElementsSpec : ChangeSpec := { name := "nameElements", fn := fun _ => fun
  | [d] => { results := [.lit (.bool true)], args := [d] }
  | _ => none }
def nameElementsRow : OpenClaim := { program := "ytmehkdomnhgmeaa", sum := "6d9c9c92c59f9ec98a5ad284839f63166e6e2d16d22f30716247f17cffe6cb33", func := "escutcheon/escutcheonlaw16.NameElements", spec := "nameElements", unfollowed := true, recurses := true, apart := false }
def NameElementsSaid : Prop := nameElementsRow.holds Try.pinned (OpenSpec.ofChange nameElementsSpec)

/-- ITS FALSE NEIGHBOUR: 'it returns false'. Refute it at one input. -/
def nameElementsWrong : ChangeSpec := { name := "nameElements", fn := fun _ => fun
  | [d] => { results := [.lit (.bool false)], args := [d] }
  | _ => none }
def NameElementsWrongFalsely : Prop := nameElementsRow.holds Try.pinned (OpenSpec.ofChange nameElementsWrong)

/-- 'escutcheonlaw16.NameOf': WHATEVER THE INPUT: true; the input reads as it did. -/
def nameOfSpec : ChangeSpec := { name := "nameOf", fn := fun _ => fun
  | [d] => { results := [.lit (.bool true)], args := [d] }
  | _ => none }
def nameOfRow : OpenClaim := { program := "ytmehkdomnhgmeaa", sum := "6d9c9c92c59f9ec98a5ad284839f63166e6e2d16d22f30716247f17cffe6cb33", func := "escutcheon/escutcheonlaw16.NameOf", spec := "nameOf", unfollowed := true, recurses := true, loops := true, apart := false }
def NameOfSaid : Prop := nameOfRow.holds Try.pinned (OpenSpec.ofChange nameOfSpec)

/-- ITS FALSE NEIGHBOUR: 'it returns false'. Refute it at one input. -/
def nameOfWrong : ChangeSpec := { name := "nameOf", fn := fun _ => fun
  | [d] => { results := [.lit (.bool false)], args := [d] }
  | _ => none }
def NameOfWrongFalsely : Prop := nameOfRow.holds Try.pinned (OpenSpec.ofChange nameOfWrong)

/-- 'escutcheonlaw16.NameStays': WHATEVER THE INPUT: true; the input reads as it did. -/
def nameStaysSpec : ChangeSpec := { name := "nameStays", fn := fun _ => fun
  | [d] => { results := [.lit (.bool true)], args := [d] }
  | _ => none }
def nameStaysRow : OpenClaim := { program := "ytmehkdomnhgmeaa", sum := "6d9c9c92c59f9ec98a5ad284839f63166e6e2d16d22f30716247f17cffe6cb33", func := "escutcheon/escutcheonlaw16.NameStays", spec := "nameStays", unfollowed := true, recurses := true, apart := false }
def NameStaysSaid : Prop := nameStaysRow.holds Try.pinned (OpenSpec.ofChange nameStaysSpec)

/-- ITS FALSE NEIGHBOUR: 'it returns false'. Refute it at one input. -/
def nameStaysWrong : ChangeSpec := { name := "nameStays", fn := fun _ => fun
  | [d] => { results := [.lit (.bool false)], args := [d] }
  | _ => none }
def NameStaysWrongFalsely : Prop := nameStaysRow.holds Try.pinned (OpenSpec.ofChange nameStaysWrong)

/- THE SECOND FORM. 'bulk': how many values and letters a reading holds, each counted each time it is reached (what is shared counts as often as it is met; a slice's spare places count too). A statement '..UptoSaid' is the law's where the arguments, and the package variables that the reading takes, are together of bulk at most 1048576: NARROWER than '..Said'. Prove '..Said' where nothing that the law and all that it calls make is longer than what came in: it says more and counts as full. Else prove '..UptoSaid'. A law counts once. -/
mutual
def uptoBulk {H : Type} : DataW H → Nat
  | .lit (.string bytes) => bytes.length + 1
  | .lit _ => 1
  | .nil => 1
  | .ptr d => uptoBulk d + 1
  | .slice elems spare => uptoBulkAll elems + uptoBulkAll spare + 1
  | .agg parts => uptoBulkAll parts + 1
  | .iface _ d => uptoBulk d + 1
  | .map entries => uptoBulkEntries entries + 1
  | .held _ => 1
def uptoBulkAll {H : Type} : List (DataW H) → Nat
  | [] => 0
  | d :: r => uptoBulk d + uptoBulkAll r
def uptoBulkEntries {H : Type} : List (Lit × DataW H) → Nat
  | [] => 0
  | x :: r => uptoBulkEntry x + uptoBulkEntries r
def uptoBulkEntry {H : Type} : Lit × DataW H → Nat
  | (.string bytes, d) => bytes.length + uptoBulk d + 1
  | (_, d) => uptoBulk d + 1
 end
def uptoSmall : (H : Type) → List (DataW H) → Bool := fun _ ds => decide (uptoBulkAll ds ≤ 1048576)
def OpenSpec.upto (s : _root_.Go.ChangeSpec) : _root_.Go.OpenSpec := { _root_.Go.OpenSpec.ofChange s with cond := some uptoSmall }

/-- 'escutcheonlaw13.PrimTruth', WHERE WHAT IT READS IS OF BULK AT MOST 1048576: true; the input reads as it did. -/
def primTruthUptoRow : OpenClaim := { program := "ytmehkdomnhgmeaa", sum := "6d9c9c92c59f9ec98a5ad284839f63166e6e2d16d22f30716247f17cffe6cb33", func := "escutcheon/escutcheonlaw13.PrimTruth", spec := "primTruth", apart := false, narrowed := true }
def PrimTruthUptoSaid : Prop := primTruthUptoRow.holds Try.pinned (OpenSpec.upto primTruthSpec)

/-- 'escutcheonlaw13.PrimBits', WHERE WHAT IT READS IS OF BULK AT MOST 1048576: true; the input reads as it did. -/
def primBitsUptoRow : OpenClaim := { program := "ytmehkdomnhgmeaa", sum := "6d9c9c92c59f9ec98a5ad284839f63166e6e2d16d22f30716247f17cffe6cb33", func := "escutcheon/escutcheonlaw13.PrimBits", spec := "primBits", apart := false, narrowed := true }
def PrimBitsUptoSaid : Prop := primBitsUptoRow.holds Try.pinned (OpenSpec.upto primBitsSpec)

/-- 'escutcheonlaw13.PrimNumbers', WHERE WHAT IT READS IS OF BULK AT MOST 1048576: true; the input reads as it did. -/
def primNumbersUptoRow : OpenClaim := { program := "ytmehkdomnhgmeaa", sum := "6d9c9c92c59f9ec98a5ad284839f63166e6e2d16d22f30716247f17cffe6cb33", func := "escutcheon/escutcheonlaw13.PrimNumbers", spec := "primNumbers", apart := false, narrowed := true }
def PrimNumbersUptoSaid : Prop := primNumbersUptoRow.holds Try.pinned (OpenSpec.upto primNumbersSpec)

/-- 'escutcheonlaw13.PrimNumberOf', WHERE WHAT IT READS IS OF BULK AT MOST 1048576: true; the input reads as it did. -/
def primNumberOfUptoRow : OpenClaim := { program := "ytmehkdomnhgmeaa", sum := "6d9c9c92c59f9ec98a5ad284839f63166e6e2d16d22f30716247f17cffe6cb33", func := "escutcheon/escutcheonlaw13.PrimNumberOf", spec := "primNumberOf", apart := false, narrowed := true }
def PrimNumberOfUptoSaid : Prop := primNumberOfUptoRow.holds Try.pinned (OpenSpec.upto primNumberOfSpec)

/-- 'escutcheonlaw13.PrimSmall', WHERE WHAT IT READS IS OF BULK AT MOST 1048576: true; the input reads as it did. -/
def primSmallUptoRow : OpenClaim := { program := "ytmehkdomnhgmeaa", sum := "6d9c9c92c59f9ec98a5ad284839f63166e6e2d16d22f30716247f17cffe6cb33", func := "escutcheon/escutcheonlaw13.PrimSmall", spec := "primSmall", apart := false, narrowed := true }
def PrimSmallUptoSaid : Prop := primSmallUptoRow.holds Try.pinned (OpenSpec.upto primSmallSpec)

/-- 'escutcheonlaw13.PrimSmallOf', WHERE WHAT IT READS IS OF BULK AT MOST 1048576: true; the input reads as it did. -/
def primSmallOfUptoRow : OpenClaim := { program := "ytmehkdomnhgmeaa", sum := "6d9c9c92c59f9ec98a5ad284839f63166e6e2d16d22f30716247f17cffe6cb33", func := "escutcheon/escutcheonlaw13.PrimSmallOf", spec := "primSmallOf", apart := false, narrowed := true }
def PrimSmallOfUptoSaid : Prop := primSmallOfUptoRow.holds Try.pinned (OpenSpec.upto primSmallOfSpec)

/-- 'escutcheonlaw13.PrimStays', WHERE WHAT IT READS IS OF BULK AT MOST 1048576: true; the input reads as it did. -/
def primStaysUptoRow : OpenClaim := { program := "ytmehkdomnhgmeaa", sum := "6d9c9c92c59f9ec98a5ad284839f63166e6e2d16d22f30716247f17cffe6cb33", func := "escutcheon/escutcheonlaw13.PrimStays", spec := "primStays", unfollowed := true, recurses := true, apart := false, narrowed := true }
def PrimStaysUptoSaid : Prop := primStaysUptoRow.holds Try.pinned (OpenSpec.upto primStaysSpec)

/-- 'escutcheonlaw16.NameWithin', WHERE WHAT IT READS IS OF BULK AT MOST 1048576: true; the input reads as it did. -/
def nameWithinUptoRow : OpenClaim := { program := "ytmehkdomnhgmeaa", sum := "6d9c9c92c59f9ec98a5ad284839f63166e6e2d16d22f30716247f17cffe6cb33", func := "escutcheon/escutcheonlaw16.NameWithin", spec := "nameWithin", unfollowed := true, recurses := true, apart := false, narrowed := true }
def NameWithinUptoSaid : Prop := nameWithinUptoRow.holds Try.pinned (OpenSpec.upto nameWithinSpec)

/-- 'escutcheonlaw16.NameOn', WHERE WHAT IT READS IS OF BULK AT MOST 1048576: true; the input reads as it did. -/
def nameOnUptoRow : OpenClaim := { program := "ytmehkdomnhgmeaa", sum := "6d9c9c92c59f9ec98a5ad284839f63166e6e2d16d22f30716247f17cffe6cb33", func := "escutcheon/escutcheonlaw16.NameOn", spec := "nameOn", unfollowed := true, recurses := true, apart := false, narrowed := true }
def NameOnUptoSaid : Prop := nameOnUptoRow.holds Try.pinned (OpenSpec.upto nameOnSpec)

/-- 'escutcheonlaw16.NameElements', WHERE WHAT IT READS IS OF BULK AT MOST 1048576: true; the input reads as it did. -/
def nameElementsUptoRow : OpenClaim := { program := "ytmehkdomnhgmeaa", sum := "6d9c9c92c59f9ec98a5ad284839f63166e6e2d16d22f30716247f17cffe6cb33", func := "escutcheon/escutcheonlaw16.NameElements", spec := "nameElements", unfollowed := true, recurses := true, apart := false, narrowed := true }
def NameElementsUptoSaid : Prop := nameElementsUptoRow.holds Try.pinned (OpenSpec.upto nameElementsSpec)

/-- 'escutcheonlaw16.NameOf', WHERE WHAT IT READS IS OF BULK AT MOST 1048576: true; the input reads as it did. -/
def nameOfUptoRow : OpenClaim := { program := "ytmehkdomnhgmeaa", sum := "6d9c9c92c59f9ec98a5ad284839f63166e6e2d16d22f30716247f17cffe6cb33", func := "escutcheon/escutcheonlaw16.NameOf", spec := "nameOf", unfollowed := true, recurses := true, loops := true, apart := false, narrowed := true }
def NameOfUptoSaid : Prop := nameOfUptoRow.holds Try.pinned (OpenSpec.upto nameOfSpec)

/-- 'escutcheonlaw16.NameStays', WHERE WHAT IT READS IS OF BULK AT MOST 1048576: true; the input reads as it did. -/
def nameStaysUptoRow : OpenClaim := { program := "ytmehkdomnhgmeaa", sum := "6d9c9c92c59f9ec98a5ad284839f63166e6e2d16d22f30716247f17cffe6cb33", func := "escutcheon/escutcheonlaw16.NameStays", spec := "nameStays", unfollowed := true, recurses := true, apart := false, narrowed := true }
def NameStaysUptoSaid : Prop := nameStaysUptoRow.holds Try.pinned (OpenSpec.upto nameStaysSpec)

end Rows
end Go.Proofs.Ytmehkdomnhgmeaa

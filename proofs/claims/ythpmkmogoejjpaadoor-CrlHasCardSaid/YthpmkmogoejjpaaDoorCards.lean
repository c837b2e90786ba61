/-
  DERIVED. GIVEN WITH THE SEED: THE CARDS: each row of YthpmkmogoejjpaaDoorRows.lean that lists a variable, with what it lists TIED to the program's text (the seventh form; the later family's looks); each row that meets fmt, with fmt's text TOLD by the authors' own Lean function (tested against real Go, not proved from fmt's source: count such statements apart). THE CARD IS WHAT COUNTS. Prove the row's statement (the work); the ties are given (YthpmkmogoejjpaaDoorTie.lean); close each card by the builder's one call (the guide's Derived/Test/ToyasCard.lean, 'card_holds'). Laid BY PROGRAM, IN A SANDBOX (cutbox-door.mjs). By AI agents, Wed Nov 11 2026. No macro, syntax, notation, axiom, sorry.
-/
import Derived.Test.YthpmkmogoejjpaaDoorRows
import GoSem.ClaimSeven
namespace Go.Proofs.YthpmkmogoejjpaaDoor
namespace Rows

/-- THE TIED CARD OF 'escutcheonlaw18.CrlBodies'. -/
def crlBodiesCard : Claim7 := { stood := { row := crlBodiesRow, standIns := [], harness := (true, "2a0a60dffba956031f00c3e12bea11cc0e75134bc63ed792e6aa7a1188526db7"), looks := true }, kinds := [], alts := [], laidByText := true, laidKinds := [.data], laidTests := true, laidLooks := .later }
def CrlBodiesCardSaid : Prop := Claim7.holds Tryd.pinned (.plain (OpenSpec.ofChange crlBodiesSpec)) crlBodiesCard

/-- THE TIED CARD OF 'escutcheonlaw18.CrlHas'. -/
def crlHasCard : Claim7 := { stood := { row := crlHasRow, standIns := [], harness := (true, "2a0a60dffba956031f00c3e12bea11cc0e75134bc63ed792e6aa7a1188526db7"), looks := true }, kinds := [], alts := [], laidByText := true, laidKinds := [.data], laidTests := true, laidLooks := .later }
def CrlHasCardSaid : Prop := Claim7.holds Tryd.pinned (.plain (OpenSpec.ofChange crlHasSpec)) crlHasCard

/-- THE TIED CARD OF 'escutcheonlaw15.EciesWraps'. -/
def eciesWrapsCard : Claim7 := { stood := { row := eciesWrapsRow, standIns := [], harness := (true, "2a0a60dffba956031f00c3e12bea11cc0e75134bc63ed792e6aa7a1188526db7"), looks := true }, kinds := [], alts := [], laidByText := true, laidKinds := [.data, .data, .data, .data, .data, .data, .data, .data, .data], laidTests := true, laidLooks := .later }
def EciesWrapsCardSaid : Prop := Claim7.holds Tryd.pinned (.plain (OpenSpec.ofChange eciesWrapsSpec)) eciesWrapsCard

/-- THE TIED CARD OF 'escutcheonlaw15.EciesBack'. -/
def eciesBackCard : Claim7 := { stood := { row := eciesBackRow, standIns := [], harness := (true, "2a0a60dffba956031f00c3e12bea11cc0e75134bc63ed792e6aa7a1188526db7"), looks := true }, kinds := [], alts := [], laidByText := true, laidKinds := [.data, .data, .data, .data, .data, .data, .data, .data, .data], laidTests := true, laidLooks := .later }
def EciesBackCardSaid : Prop := Claim7.holds Tryd.pinned (.plain (OpenSpec.ofChange eciesBackSpec)) eciesBackCard

/-- THE SECOND FORM's CARD OF 'escutcheonlaw18.CrlBodies'. -/
def crlBodiesUptoCard : Claim7 := { stood := { row := crlBodiesUptoRow, standIns := [], harness := (true, "2a0a60dffba956031f00c3e12bea11cc0e75134bc63ed792e6aa7a1188526db7"), looks := true }, kinds := [], alts := [], laidByText := true, laidKinds := [.data], laidTests := true, laidLooks := .later }
def CrlBodiesUptoCardSaid : Prop := Claim7.holds Tryd.pinned (.plain (OpenSpec.upto crlBodiesSpec)) crlBodiesUptoCard

/-- THE SECOND FORM's CARD OF 'escutcheonlaw18.CrlHas'. -/
def crlHasUptoCard : Claim7 := { stood := { row := crlHasUptoRow, standIns := [], harness := (true, "2a0a60dffba956031f00c3e12bea11cc0e75134bc63ed792e6aa7a1188526db7"), looks := true }, kinds := [], alts := [], laidByText := true, laidKinds := [.data], laidTests := true, laidLooks := .later }
def CrlHasUptoCardSaid : Prop := Claim7.holds Tryd.pinned (.plain (OpenSpec.upto crlHasSpec)) crlHasUptoCard

/-- THE SECOND FORM's CARD OF 'escutcheonlaw15.EciesWraps'. -/
def eciesWrapsUptoCard : Claim7 := { stood := { row := eciesWrapsUptoRow, standIns := [], harness := (true, "2a0a60dffba956031f00c3e12bea11cc0e75134bc63ed792e6aa7a1188526db7"), looks := true }, kinds := [], alts := [], laidByText := true, laidKinds := [.data, .data, .data, .data, .data, .data, .data, .data, .data], laidTests := true, laidLooks := .later }
def EciesWrapsUptoCardSaid : Prop := Claim7.holds Tryd.pinned (.plain (OpenSpec.upto eciesWrapsSpec)) eciesWrapsUptoCard

/-- THE SECOND FORM's CARD OF 'escutcheonlaw15.EciesBack'. -/
def eciesBackUptoCard : Claim7 := { stood := { row := eciesBackUptoRow, standIns := [], harness := (true, "2a0a60dffba956031f00c3e12bea11cc0e75134bc63ed792e6aa7a1188526db7"), looks := true }, kinds := [], alts := [], laidByText := true, laidKinds := [.data, .data, .data, .data, .data, .data, .data, .data, .data], laidTests := true, laidLooks := .later }
def EciesBackUptoCardSaid : Prop := Claim7.holds Tryd.pinned (.plain (OpenSpec.upto eciesBackSpec)) eciesBackUptoCard
end Rows
end Go.Proofs.YthpmkmogoejjpaaDoor

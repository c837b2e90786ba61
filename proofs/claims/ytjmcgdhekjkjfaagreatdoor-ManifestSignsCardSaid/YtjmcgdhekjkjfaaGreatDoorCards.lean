/-
  DERIVED. GIVEN WITH THE SEED: THE CARDS: each row of YtjmcgdhekjkjfaaGreatDoorRows.lean that lists a variable, with what it lists TIED to the program's text (the seventh form; the later family's looks); each row that meets fmt, with fmt's text TOLD by the authors' own Lean function (tested against real Go, not proved from fmt's source: count such statements apart). THE CARD IS WHAT COUNTS. Prove the row's statement (the work); the ties are given (YtjmcgdhekjkjfaaGreatDoorTie.lean); close each card by the builder's one call (the guide's Derived/Test/ToyasCard.lean, 'card_holds'). Laid BY PROGRAM, IN A SANDBOX (cutbox-door.mjs). By AI agents, Wed Nov 11 2026. No macro, syntax, notation, axiom, sorry.
-/
import Derived.Test.YtjmcgdhekjkjfaaGreatDoorRows
import GoSem.ClaimSeven
namespace Go.Proofs.YtjmcgdhekjkjfaaGreatDoor
namespace Rows

/-- THE TIED CARD OF 'escutcheonlaw20.ManifestSigned'. -/
def manifestSignedCard : Claim7 := { stood := { row := manifestSignedRow, standIns := [], harness := (true, "504489a3d808580d6a178ec1d32a5b0a428f307cefbc25e7c306cf74d861cdac"), looks := true }, kinds := [], alts := [], laidByText := true, laidKinds := [.handle, .data], laidTests := true, laidLooks := .later }
def ManifestSignedCardSaid : Prop := Claim7.holds Tryz.pinned (.plain (OpenSpec.ofChange manifestSignedSpec)) manifestSignedCard

/-- THE TIED CARD OF 'escutcheonlaw20.ManifestSigns'. -/
def manifestSignsCard : Claim7 := { stood := { row := manifestSignsRow, standIns := [], harness := (true, "504489a3d808580d6a178ec1d32a5b0a428f307cefbc25e7c306cf74d861cdac"), looks := true }, kinds := [], alts := [], laidByText := true, laidKinds := [.handle, .data], laidTests := true, laidLooks := .later }
def ManifestSignsCardSaid : Prop := Claim7.holds Tryz.pinned (.plain (OpenSpec.ofChange manifestSignsSpec)) manifestSignsCard

/-- THE SECOND FORM's CARD OF 'escutcheonlaw20.ManifestSigned'. -/
def manifestSignedUptoCard : Claim7 := { stood := { row := manifestSignedUptoRow, standIns := [], harness := (true, "504489a3d808580d6a178ec1d32a5b0a428f307cefbc25e7c306cf74d861cdac"), looks := true }, kinds := [], alts := [], laidByText := true, laidKinds := [.handle, .data], laidTests := true, laidLooks := .later }
def ManifestSignedUptoCardSaid : Prop := Claim7.holds Tryz.pinned (.plain (OpenSpec.upto manifestSignedSpec)) manifestSignedUptoCard

/-- THE SECOND FORM's CARD OF 'escutcheonlaw20.ManifestSigns'. -/
def manifestSignsUptoCard : Claim7 := { stood := { row := manifestSignsUptoRow, standIns := [], harness := (true, "504489a3d808580d6a178ec1d32a5b0a428f307cefbc25e7c306cf74d861cdac"), looks := true }, kinds := [], alts := [], laidByText := true, laidKinds := [.handle, .data], laidTests := true, laidLooks := .later }
def ManifestSignsUptoCardSaid : Prop := Claim7.holds Tryz.pinned (.plain (OpenSpec.upto manifestSignsSpec)) manifestSignsUptoCard
end Rows
end Go.Proofs.YtjmcgdhekjkjfaaGreatDoor

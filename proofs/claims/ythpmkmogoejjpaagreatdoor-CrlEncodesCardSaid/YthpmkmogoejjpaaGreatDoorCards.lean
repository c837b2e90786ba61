/-
  DERIVED. GIVEN WITH THE SEED: THE CARDS: each row of YthpmkmogoejjpaaGreatDoorRows.lean that lists a variable, with what it lists TIED to the program's text (the seventh form; the later family's looks); each row that meets fmt, with fmt's text TOLD by the authors' own Lean function (tested against real Go, not proved from fmt's source: count such statements apart). THE CARD IS WHAT COUNTS. Prove the row's statement (the work); the ties are given (YthpmkmogoejjpaaGreatDoorTie.lean); close each card by the builder's one call (the guide's Derived/Test/ToyasCard.lean, 'card_holds'). Laid BY PROGRAM, IN A SANDBOX (cutbox-door.mjs). By AI agents, Wed Nov 11 2026. No macro, syntax, notation, axiom, sorry.
-/
import Derived.Test.YthpmkmogoejjpaaGreatDoorRows
import GoSem.ClaimSeven
namespace Go.Proofs.YthpmkmogoejjpaaGreatDoor
namespace Rows

/-- THE TIED CARD OF 'escutcheonlaw18.CrlBack'. -/
def crlBackCard : Claim7 := { stood := { row := crlBackRow, standIns := [], harness := (true, "9dc0b63c58a552aa0b0410f794a44de212f10a797df3e37b94bf22b28f0f9bd4"), looks := true }, kinds := [], alts := [], laidByText := true, laidKinds := [.data], laidTests := true, laidLooks := .later }
def CrlBackCardSaid : Prop := Claim7.holds Tryz.pinned (.plain (OpenSpec.ofChange crlBackSpec)) crlBackCard

/-- THE TIED CARD OF 'escutcheonlaw18.CrlDecodes'. -/
def crlDecodesCard : Claim7 := { stood := { row := crlDecodesRow, standIns := [], harness := (true, "9dc0b63c58a552aa0b0410f794a44de212f10a797df3e37b94bf22b28f0f9bd4"), looks := true }, kinds := [], alts := [], laidByText := true, laidKinds := [.handle, .data], laidTests := true, laidLooks := .later }
def CrlDecodesCardSaid : Prop := Claim7.holds Tryz.pinned (.plain (OpenSpec.ofChange crlDecodesSpec)) crlDecodesCard

/-- THE TIED CARD OF 'escutcheonlaw18.CrlEncodes'. -/
def crlEncodesCard : Claim7 := { stood := { row := crlEncodesRow, standIns := [], harness := (true, "9dc0b63c58a552aa0b0410f794a44de212f10a797df3e37b94bf22b28f0f9bd4"), looks := true }, kinds := [], alts := [], laidByText := true, laidKinds := [.handle, .data], laidTests := true, laidLooks := .later }
def CrlEncodesCardSaid : Prop := Claim7.holds Tryz.pinned (.plain (OpenSpec.ofChange crlEncodesSpec)) crlEncodesCard

/-- THE TIED CARD OF 'escutcheonlaw17.CertBodies'. -/
def certBodiesCard : Claim7 := { stood := { row := certBodiesRow, standIns := [], harness := (true, "9dc0b63c58a552aa0b0410f794a44de212f10a797df3e37b94bf22b28f0f9bd4"), looks := true }, kinds := [], alts := [], laidByText := true, laidKinds := [.data, .data, .data, .data], laidTests := true, laidLooks := .later }
def CertBodiesCardSaid : Prop := Claim7.holds Tryz.pinned (.plain (OpenSpec.ofChange certBodiesSpec)) certBodiesCard

/-- THE TIED CARD OF 'escutcheonlaw17.CertBack'. -/
def certBackCard : Claim7 := { stood := { row := certBackRow, standIns := [], harness := (true, "9dc0b63c58a552aa0b0410f794a44de212f10a797df3e37b94bf22b28f0f9bd4"), looks := true }, kinds := [], alts := [], laidByText := true, laidKinds := [.data, .data, .data, .data, .data, .data], laidTests := true, laidLooks := .later }
def CertBackCardSaid : Prop := Claim7.holds Tryz.pinned (.plain (OpenSpec.ofChange certBackSpec)) certBackCard

/-- THE TIED CARD OF 'escutcheonlaw17.CertDecodes'. -/
def certDecodesCard : Claim7 := { stood := { row := certDecodesRow, standIns := [], harness := (true, "9dc0b63c58a552aa0b0410f794a44de212f10a797df3e37b94bf22b28f0f9bd4"), looks := true }, kinds := [], alts := [], laidByText := true, laidKinds := [.handle, .data, .data, .data, .data], laidTests := true, laidLooks := .later }
def CertDecodesCardSaid : Prop := Claim7.holds Tryz.pinned (.plain (OpenSpec.ofChange certDecodesSpec)) certDecodesCard

/-- THE TIED CARD OF 'escutcheonlaw17.CertStays'. -/
def certStaysCard : Claim7 := { stood := { row := certStaysRow, standIns := [], harness := (true, "9dc0b63c58a552aa0b0410f794a44de212f10a797df3e37b94bf22b28f0f9bd4"), looks := true }, kinds := [], alts := [], laidByText := true, laidKinds := [.handle, .data, .data, .data, .data], laidTests := true, laidLooks := .later }
def CertStaysCardSaid : Prop := Claim7.holds Tryz.pinned (.plain (OpenSpec.ofChange certStaysSpec)) certStaysCard

/-- THE TIED CARD OF 'escutcheonlaw17.CertEncodes'. -/
def certEncodesCard : Claim7 := { stood := { row := certEncodesRow, standIns := [], harness := (true, "9dc0b63c58a552aa0b0410f794a44de212f10a797df3e37b94bf22b28f0f9bd4"), looks := true }, kinds := [], alts := [], laidByText := true, laidKinds := [.handle, .data, .data, .data, .data], laidTests := true, laidLooks := .later }
def CertEncodesCardSaid : Prop := Claim7.holds Tryz.pinned (.plain (OpenSpec.ofChange certEncodesSpec)) certEncodesCard

/-- THE SECOND FORM's CARD OF 'escutcheonlaw18.CrlBack'. -/
def crlBackUptoCard : Claim7 := { stood := { row := crlBackUptoRow, standIns := [], harness := (true, "9dc0b63c58a552aa0b0410f794a44de212f10a797df3e37b94bf22b28f0f9bd4"), looks := true }, kinds := [], alts := [], laidByText := true, laidKinds := [.data], laidTests := true, laidLooks := .later }
def CrlBackUptoCardSaid : Prop := Claim7.holds Tryz.pinned (.plain (OpenSpec.upto crlBackSpec)) crlBackUptoCard

/-- THE SECOND FORM's CARD OF 'escutcheonlaw18.CrlDecodes'. -/
def crlDecodesUptoCard : Claim7 := { stood := { row := crlDecodesUptoRow, standIns := [], harness := (true, "9dc0b63c58a552aa0b0410f794a44de212f10a797df3e37b94bf22b28f0f9bd4"), looks := true }, kinds := [], alts := [], laidByText := true, laidKinds := [.handle, .data], laidTests := true, laidLooks := .later }
def CrlDecodesUptoCardSaid : Prop := Claim7.holds Tryz.pinned (.plain (OpenSpec.upto crlDecodesSpec)) crlDecodesUptoCard

/-- THE SECOND FORM's CARD OF 'escutcheonlaw18.CrlEncodes'. -/
def crlEncodesUptoCard : Claim7 := { stood := { row := crlEncodesUptoRow, standIns := [], harness := (true, "9dc0b63c58a552aa0b0410f794a44de212f10a797df3e37b94bf22b28f0f9bd4"), looks := true }, kinds := [], alts := [], laidByText := true, laidKinds := [.handle, .data], laidTests := true, laidLooks := .later }
def CrlEncodesUptoCardSaid : Prop := Claim7.holds Tryz.pinned (.plain (OpenSpec.upto crlEncodesSpec)) crlEncodesUptoCard

/-- THE SECOND FORM's CARD OF 'escutcheonlaw17.CertBodies'. -/
def certBodiesUptoCard : Claim7 := { stood := { row := certBodiesUptoRow, standIns := [], harness := (true, "9dc0b63c58a552aa0b0410f794a44de212f10a797df3e37b94bf22b28f0f9bd4"), looks := true }, kinds := [], alts := [], laidByText := true, laidKinds := [.data, .data, .data, .data], laidTests := true, laidLooks := .later }
def CertBodiesUptoCardSaid : Prop := Claim7.holds Tryz.pinned (.plain (OpenSpec.upto certBodiesSpec)) certBodiesUptoCard

/-- THE SECOND FORM's CARD OF 'escutcheonlaw17.CertBack'. -/
def certBackUptoCard : Claim7 := { stood := { row := certBackUptoRow, standIns := [], harness := (true, "9dc0b63c58a552aa0b0410f794a44de212f10a797df3e37b94bf22b28f0f9bd4"), looks := true }, kinds := [], alts := [], laidByText := true, laidKinds := [.data, .data, .data, .data, .data, .data], laidTests := true, laidLooks := .later }
def CertBackUptoCardSaid : Prop := Claim7.holds Tryz.pinned (.plain (OpenSpec.upto certBackSpec)) certBackUptoCard

/-- THE SECOND FORM's CARD OF 'escutcheonlaw17.CertDecodes'. -/
def certDecodesUptoCard : Claim7 := { stood := { row := certDecodesUptoRow, standIns := [], harness := (true, "9dc0b63c58a552aa0b0410f794a44de212f10a797df3e37b94bf22b28f0f9bd4"), looks := true }, kinds := [], alts := [], laidByText := true, laidKinds := [.handle, .data, .data, .data, .data], laidTests := true, laidLooks := .later }
def CertDecodesUptoCardSaid : Prop := Claim7.holds Tryz.pinned (.plain (OpenSpec.upto certDecodesSpec)) certDecodesUptoCard

/-- THE SECOND FORM's CARD OF 'escutcheonlaw17.CertStays'. -/
def certStaysUptoCard : Claim7 := { stood := { row := certStaysUptoRow, standIns := [], harness := (true, "9dc0b63c58a552aa0b0410f794a44de212f10a797df3e37b94bf22b28f0f9bd4"), looks := true }, kinds := [], alts := [], laidByText := true, laidKinds := [.handle, .data, .data, .data, .data], laidTests := true, laidLooks := .later }
def CertStaysUptoCardSaid : Prop := Claim7.holds Tryz.pinned (.plain (OpenSpec.upto certStaysSpec)) certStaysUptoCard

/-- THE SECOND FORM's CARD OF 'escutcheonlaw17.CertEncodes'. -/
def certEncodesUptoCard : Claim7 := { stood := { row := certEncodesUptoRow, standIns := [], harness := (true, "9dc0b63c58a552aa0b0410f794a44de212f10a797df3e37b94bf22b28f0f9bd4"), looks := true }, kinds := [], alts := [], laidByText := true, laidKinds := [.handle, .data, .data, .data, .data], laidTests := true, laidLooks := .later }
def CertEncodesUptoCardSaid : Prop := Claim7.holds Tryz.pinned (.plain (OpenSpec.upto certEncodesSpec)) certEncodesUptoCard
end Rows
end Go.Proofs.YthpmkmogoejjpaaGreatDoor

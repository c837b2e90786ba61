/-
  DERIVED. GIVEN WITH THE SEED: THE CARDS: each row of YtjmcgdhekjkjfaaDoorRows.lean that lists a variable, with what it lists TIED to the program's text (the seventh form; the later family's looks); each row that meets fmt, with fmt's text TOLD by the authors' own Lean function (tested against real Go, not proved from fmt's source: count such statements apart). THE CARD IS WHAT COUNTS. Prove the row's statement (the work); the ties are given (YtjmcgdhekjkjfaaDoorTie.lean); close each card by the builder's one call (the guide's Derived/Test/ToyasCard.lean, 'card_holds'). Laid BY PROGRAM, IN A SANDBOX (cutbox-door.mjs). By AI agents, Wed Nov 11 2026. No macro, syntax, notation, axiom, sorry.
-/
import Derived.Test.YtjmcgdhekjkjfaaDoorRows
import GoSem.ClaimSeven
namespace Go.Proofs.YtjmcgdhekjkjfaaDoor
namespace Rows

/-- THE TIED CARD OF 'escutcheonlaw12.DerParses'. -/
def derParsesCard : Claim7 := { stood := { row := derParsesRow, standIns := [], harness := (true, "74daaa412f86fc3bb04138224005604edd6cfe23a9c6e9638b2b0aa82d7cd3fe"), looks := true }, kinds := [], alts := [], laidByText := true, laidKinds := [.handle], laidTests := true, laidLooks := .later }
def DerParsesCardSaid : Prop := Claim7.holds Tryd.pinned (.plain (OpenSpec.ofChange derParsesSpec)) derParsesCard

/-- THE TIED CARD OF 'escutcheonlaw12.DerOnce'. -/
def derOnceCard : Claim7 := { stood := { row := derOnceRow, standIns := [], harness := (true, "74daaa412f86fc3bb04138224005604edd6cfe23a9c6e9638b2b0aa82d7cd3fe"), looks := true }, kinds := [], alts := [], laidByText := true, laidKinds := [.handle], laidTests := true, laidLooks := .later }
def DerOnceCardSaid : Prop := Claim7.holds Tryd.pinned (.plain (OpenSpec.ofChange derOnceSpec)) derOnceCard

/-- THE TIED CARD OF 'escutcheonlaw20.ManifestDecodes'. -/
def manifestDecodesCard : Claim7 := { stood := { row := manifestDecodesRow, standIns := [], harness := (true, "74daaa412f86fc3bb04138224005604edd6cfe23a9c6e9638b2b0aa82d7cd3fe"), looks := true }, kinds := [], alts := [], laidByText := true, laidKinds := [.handle], laidTests := true, laidLooks := .later }
def ManifestDecodesCardSaid : Prop := Claim7.holds Tryd.pinned (.plain (OpenSpec.ofChange manifestDecodesSpec)) manifestDecodesCard

/-- THE TIED CARD OF 'escutcheonlaw21.DeviceLasts'. -/
def deviceLastsCard : Claim7 := { stood := { row := deviceLastsRow, standIns := [], harness := (true, "74daaa412f86fc3bb04138224005604edd6cfe23a9c6e9638b2b0aa82d7cd3fe"), looks := true }, kinds := [], alts := [], laidByText := true, laidKinds := [.data], laidTests := true, laidLooks := .later }
def DeviceLastsCardSaid : Prop := Claim7.holds Tryd.pinned (.plain (OpenSpec.ofChange deviceLastsSpec)) deviceLastsCard

/-- THE TIED CARD OF 'escutcheonlaw21.DeviceArgs'. -/
def deviceArgsCard : Claim7 := { stood := { row := deviceArgsRow, standIns := [], harness := (true, "74daaa412f86fc3bb04138224005604edd6cfe23a9c6e9638b2b0aa82d7cd3fe"), looks := true }, kinds := [], alts := [], laidByText := true, laidKinds := [.data], laidTests := true, laidLooks := .later }
def DeviceArgsCardSaid : Prop := Claim7.holds Tryd.pinned (.plain (OpenSpec.ofChange deviceArgsSpec)) deviceArgsCard

/-- THE TIED CARD OF 'escutcheonlaw14.EcdsaEncodes'. -/
def ecdsaEncodesCard : Claim7 := { stood := { row := ecdsaEncodesRow, standIns := [], harness := (true, "74daaa412f86fc3bb04138224005604edd6cfe23a9c6e9638b2b0aa82d7cd3fe"), looks := true }, kinds := [], alts := [], laidByText := true, laidKinds := [.data, .data, .data, .data, .data, .data], laidTests := true, laidLooks := .later }
def EcdsaEncodesCardSaid : Prop := Claim7.holds Tryd.pinned (.plain (OpenSpec.ofChange ecdsaEncodesSpec)) ecdsaEncodesCard

/-- THE TIED CARD OF 'escutcheonlaw14.EcdsaDecodes'. -/
def ecdsaDecodesCard : Claim7 := { stood := { row := ecdsaDecodesRow, standIns := [], harness := (true, "74daaa412f86fc3bb04138224005604edd6cfe23a9c6e9638b2b0aa82d7cd3fe"), looks := true }, kinds := [], alts := [], laidByText := true, laidKinds := [.handle, .data, .data, .data, .data, .data, .data], laidTests := true, laidLooks := .later }
def EcdsaDecodesCardSaid : Prop := Claim7.holds Tryd.pinned (.plain (OpenSpec.ofChange ecdsaDecodesSpec)) ecdsaDecodesCard

/-- THE TIED CARD OF 'escutcheonlaw14.EcdsaSigns'. -/
def ecdsaSignsCard : Claim7 := { stood := { row := ecdsaSignsRow, standIns := [], harness := (true, "74daaa412f86fc3bb04138224005604edd6cfe23a9c6e9638b2b0aa82d7cd3fe"), looks := true }, kinds := [], alts := [], laidByText := true, laidKinds := [.handle, .data, .data, .data, .data, .data, .data], laidTests := true, laidLooks := .later }
def EcdsaSignsCardSaid : Prop := Claim7.holds Tryd.pinned (.plain (OpenSpec.ofChange ecdsaSignsSpec)) ecdsaSignsCard

/-- THE SECOND FORM's CARD OF 'escutcheonlaw12.DerParses'. -/
def derParsesUptoCard : Claim7 := { stood := { row := derParsesUptoRow, standIns := [], harness := (true, "74daaa412f86fc3bb04138224005604edd6cfe23a9c6e9638b2b0aa82d7cd3fe"), looks := true }, kinds := [], alts := [], laidByText := true, laidKinds := [.handle], laidTests := true, laidLooks := .later }
def DerParsesUptoCardSaid : Prop := Claim7.holds Tryd.pinned (.plain (OpenSpec.upto derParsesSpec)) derParsesUptoCard

/-- THE SECOND FORM's CARD OF 'escutcheonlaw12.DerOnce'. -/
def derOnceUptoCard : Claim7 := { stood := { row := derOnceUptoRow, standIns := [], harness := (true, "74daaa412f86fc3bb04138224005604edd6cfe23a9c6e9638b2b0aa82d7cd3fe"), looks := true }, kinds := [], alts := [], laidByText := true, laidKinds := [.handle], laidTests := true, laidLooks := .later }
def DerOnceUptoCardSaid : Prop := Claim7.holds Tryd.pinned (.plain (OpenSpec.upto derOnceSpec)) derOnceUptoCard

/-- THE SECOND FORM's CARD OF 'escutcheonlaw20.ManifestDecodes'. -/
def manifestDecodesUptoCard : Claim7 := { stood := { row := manifestDecodesUptoRow, standIns := [], harness := (true, "74daaa412f86fc3bb04138224005604edd6cfe23a9c6e9638b2b0aa82d7cd3fe"), looks := true }, kinds := [], alts := [], laidByText := true, laidKinds := [.handle], laidTests := true, laidLooks := .later }
def ManifestDecodesUptoCardSaid : Prop := Claim7.holds Tryd.pinned (.plain (OpenSpec.upto manifestDecodesSpec)) manifestDecodesUptoCard

/-- THE SECOND FORM's CARD OF 'escutcheonlaw21.DeviceLasts'. -/
def deviceLastsUptoCard : Claim7 := { stood := { row := deviceLastsUptoRow, standIns := [], harness := (true, "74daaa412f86fc3bb04138224005604edd6cfe23a9c6e9638b2b0aa82d7cd3fe"), looks := true }, kinds := [], alts := [], laidByText := true, laidKinds := [.data], laidTests := true, laidLooks := .later }
def DeviceLastsUptoCardSaid : Prop := Claim7.holds Tryd.pinned (.plain (OpenSpec.upto deviceLastsSpec)) deviceLastsUptoCard

/-- THE SECOND FORM's CARD OF 'escutcheonlaw21.DeviceArgs'. -/
def deviceArgsUptoCard : Claim7 := { stood := { row := deviceArgsUptoRow, standIns := [], harness := (true, "74daaa412f86fc3bb04138224005604edd6cfe23a9c6e9638b2b0aa82d7cd3fe"), looks := true }, kinds := [], alts := [], laidByText := true, laidKinds := [.data], laidTests := true, laidLooks := .later }
def DeviceArgsUptoCardSaid : Prop := Claim7.holds Tryd.pinned (.plain (OpenSpec.upto deviceArgsSpec)) deviceArgsUptoCard

/-- THE SECOND FORM's CARD OF 'escutcheonlaw14.EcdsaEncodes'. -/
def ecdsaEncodesUptoCard : Claim7 := { stood := { row := ecdsaEncodesUptoRow, standIns := [], harness := (true, "74daaa412f86fc3bb04138224005604edd6cfe23a9c6e9638b2b0aa82d7cd3fe"), looks := true }, kinds := [], alts := [], laidByText := true, laidKinds := [.data, .data, .data, .data, .data, .data], laidTests := true, laidLooks := .later }
def EcdsaEncodesUptoCardSaid : Prop := Claim7.holds Tryd.pinned (.plain (OpenSpec.upto ecdsaEncodesSpec)) ecdsaEncodesUptoCard

/-- THE SECOND FORM's CARD OF 'escutcheonlaw14.EcdsaDecodes'. -/
def ecdsaDecodesUptoCard : Claim7 := { stood := { row := ecdsaDecodesUptoRow, standIns := [], harness := (true, "74daaa412f86fc3bb04138224005604edd6cfe23a9c6e9638b2b0aa82d7cd3fe"), looks := true }, kinds := [], alts := [], laidByText := true, laidKinds := [.handle, .data, .data, .data, .data, .data, .data], laidTests := true, laidLooks := .later }
def EcdsaDecodesUptoCardSaid : Prop := Claim7.holds Tryd.pinned (.plain (OpenSpec.upto ecdsaDecodesSpec)) ecdsaDecodesUptoCard

/-- THE SECOND FORM's CARD OF 'escutcheonlaw14.EcdsaSigns'. -/
def ecdsaSignsUptoCard : Claim7 := { stood := { row := ecdsaSignsUptoRow, standIns := [], harness := (true, "74daaa412f86fc3bb04138224005604edd6cfe23a9c6e9638b2b0aa82d7cd3fe"), looks := true }, kinds := [], alts := [], laidByText := true, laidKinds := [.handle, .data, .data, .data, .data, .data, .data], laidTests := true, laidLooks := .later }
def EcdsaSignsUptoCardSaid : Prop := Claim7.holds Tryd.pinned (.plain (OpenSpec.upto ecdsaSignsSpec)) ecdsaSignsUptoCard
end Rows
end Go.Proofs.YtjmcgdhekjkjfaaDoor

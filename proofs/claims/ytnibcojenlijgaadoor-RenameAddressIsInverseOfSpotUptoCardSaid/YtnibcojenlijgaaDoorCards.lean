/-
  DERIVED. GIVEN WITH THE SEED: THE CARDS: each row of YtnibcojenlijgaaDoorRows.lean that lists a variable, with what it lists TIED to the program's text (the seventh form; the later family's looks); each row that meets fmt, with fmt's text TOLD by the authors' own Lean function (tested against real Go, not proved from fmt's source: count such statements apart). THE CARD IS WHAT COUNTS. Prove the row's statement (the work); the ties are given (YtnibcojenlijgaaDoorTie.lean); close each card by the builder's one call (the guide's Derived/Test/ToyasCard.lean, 'card_holds'). Laid BY PROGRAM, IN A SANDBOX (cutbox-door.mjs). By AI agents, Wed Nov 11 2026. No macro, syntax, notation, axiom, sorry.
-/
import Derived.Test.YtnibcojenlijgaaDoorRows
import GoSem.ClaimSeven
namespace Go.Proofs.YtnibcojenlijgaaDoor
namespace Rows

/-- THE TIED CARD OF 'linkhouselaw6.RenameBiasDoesNotMatter'. -/
def renameBiasDoesNotMatterCard : Claim7 := { stood := { row := renameBiasDoesNotMatterRow, standIns := [], harness := (true, "8210b72ef6a1362d401294eca1178c991970ac323069f542274e6cb676aca993"), looks := false }, kinds := [], alts := [], laidByText := true, laidKinds := [.data], laidTests := true, laidLooks := .later }
def RenameBiasDoesNotMatterCardSaid : Prop := Claim7.holds Tryd.pinned (.plain (OpenSpec.ofChange renameBiasDoesNotMatterSpec)) renameBiasDoesNotMatterCard

/-- THE TIED CARD OF 'linkhouselaw6.RenameSameIsEquality'. -/
def renameSameIsEqualityCard : Claim7 := { stood := { row := renameSameIsEqualityRow, standIns := [], harness := (true, "8210b72ef6a1362d401294eca1178c991970ac323069f542274e6cb676aca993"), looks := false }, kinds := [], alts := [], laidByText := true, laidKinds := [.data], laidTests := true, laidLooks := .later }
def RenameSameIsEqualityCardSaid : Prop := Claim7.holds Tryd.pinned (.plain (OpenSpec.ofChange renameSameIsEqualitySpec)) renameSameIsEqualityCard

/-- THE TIED CARD OF 'linkhouselaw6.RenameAddressIsInverseOfSpot'. -/
def renameAddressIsInverseOfSpotCard : Claim7 := { stood := { row := renameAddressIsInverseOfSpotRow, standIns := [], harness := (true, "8210b72ef6a1362d401294eca1178c991970ac323069f542274e6cb676aca993"), looks := false }, kinds := [], alts := [], laidByText := true, laidKinds := [.data], laidTests := true, laidLooks := .later }
def RenameAddressIsInverseOfSpotCardSaid : Prop := Claim7.holds Tryd.pinned (.plain (OpenSpec.ofChange renameAddressIsInverseOfSpotSpec)) renameAddressIsInverseOfSpotCard

/-- THE SECOND FORM's CARD OF 'linkhouselaw6.RenameBiasDoesNotMatter'. -/
def renameBiasDoesNotMatterUptoCard : Claim7 := { stood := { row := renameBiasDoesNotMatterUptoRow, standIns := [], harness := (true, "8210b72ef6a1362d401294eca1178c991970ac323069f542274e6cb676aca993"), looks := false }, kinds := [], alts := [], laidByText := true, laidKinds := [.data], laidTests := true, laidLooks := .later }
def RenameBiasDoesNotMatterUptoCardSaid : Prop := Claim7.holds Tryd.pinned (.plain (OpenSpec.upto renameBiasDoesNotMatterSpec)) renameBiasDoesNotMatterUptoCard

/-- THE SECOND FORM's CARD OF 'linkhouselaw6.RenameSameIsEquality'. -/
def renameSameIsEqualityUptoCard : Claim7 := { stood := { row := renameSameIsEqualityUptoRow, standIns := [], harness := (true, "8210b72ef6a1362d401294eca1178c991970ac323069f542274e6cb676aca993"), looks := false }, kinds := [], alts := [], laidByText := true, laidKinds := [.data], laidTests := true, laidLooks := .later }
def RenameSameIsEqualityUptoCardSaid : Prop := Claim7.holds Tryd.pinned (.plain (OpenSpec.upto renameSameIsEqualitySpec)) renameSameIsEqualityUptoCard

/-- THE SECOND FORM's CARD OF 'linkhouselaw6.RenameAddressIsInverseOfSpot'. -/
def renameAddressIsInverseOfSpotUptoCard : Claim7 := { stood := { row := renameAddressIsInverseOfSpotUptoRow, standIns := [], harness := (true, "8210b72ef6a1362d401294eca1178c991970ac323069f542274e6cb676aca993"), looks := false }, kinds := [], alts := [], laidByText := true, laidKinds := [.data], laidTests := true, laidLooks := .later }
def RenameAddressIsInverseOfSpotUptoCardSaid : Prop := Claim7.holds Tryd.pinned (.plain (OpenSpec.upto renameAddressIsInverseOfSpotSpec)) renameAddressIsInverseOfSpotUptoCard
end Rows
end Go.Proofs.YtnibcojenlijgaaDoor

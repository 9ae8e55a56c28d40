/-
  DERIVED. GIVEN WITH THE SEED: THE CARDS: each row of YtnibcojenlijgaaGreatDoorRows.lean that lists a variable, with what it lists TIED to the program's text (the seventh form; the later family's looks); each row that meets fmt, with fmt's text TOLD by the authors' own Lean function (tested against real Go, not proved from fmt's source: count such statements apart). THE CARD IS WHAT COUNTS. Prove the row's statement (the work); the ties are given (YtnibcojenlijgaaGreatDoorTie.lean); close each card by the builder's one call (the guide's Derived/Test/ToyasCard.lean, 'card_holds'). Laid BY PROGRAM, IN A SANDBOX (cutbox-door.mjs). By AI agents, Wed Nov 11 2026. No macro, syntax, notation, axiom, sorry.
-/
import Derived.Test.YtnibcojenlijgaaGreatDoorRows
import GoSem.ClaimSeven
namespace Go.Proofs.YtnibcojenlijgaaGreatDoor
namespace Rows

/-- THE TIED CARD OF 'linkhouselaw6.RenameSpotMatchesSpec'. -/
def renameSpotMatchesSpecCard : Claim7 := { stood := { row := renameSpotMatchesSpecRow, standIns := [], harness := (true, "5d529408bc6366dbc73b76ab94333102e20ad88cdbb0bf4af130e836082d7662"), looks := false }, kinds := [], alts := [], laidByText := true, laidKinds := [.data], laidTests := true, laidLooks := .later }
def RenameSpotMatchesSpecCardSaid : Prop := Claim7.holds Tryz.pinned (.plain (OpenSpec.ofChange renameSpotMatchesSpecSpec)) renameSpotMatchesSpecCard

/-- THE TIED CARD OF 'linkhouselaw6.RenameEventsMatchSpec'. -/
def renameEventsMatchSpecCard : Claim7 := { stood := { row := renameEventsMatchSpecRow, standIns := [], harness := (true, "5d529408bc6366dbc73b76ab94333102e20ad88cdbb0bf4af130e836082d7662"), looks := false }, kinds := [], alts := [], laidByText := true, laidKinds := [.data], laidTests := true, laidLooks := .later }
def RenameEventsMatchSpecCardSaid : Prop := Claim7.holds Tryz.pinned (.plain (OpenSpec.ofChange renameEventsMatchSpecSpec)) renameEventsMatchSpecCard

/-- THE SECOND FORM's CARD OF 'linkhouselaw6.RenameSpotMatchesSpec'. -/
def renameSpotMatchesSpecUptoCard : Claim7 := { stood := { row := renameSpotMatchesSpecUptoRow, standIns := [], harness := (true, "5d529408bc6366dbc73b76ab94333102e20ad88cdbb0bf4af130e836082d7662"), looks := false }, kinds := [], alts := [], laidByText := true, laidKinds := [.data], laidTests := true, laidLooks := .later }
def RenameSpotMatchesSpecUptoCardSaid : Prop := Claim7.holds Tryz.pinned (.plain (OpenSpec.upto renameSpotMatchesSpecSpec)) renameSpotMatchesSpecUptoCard

/-- THE SECOND FORM's CARD OF 'linkhouselaw6.RenameEventsMatchSpec'. -/
def renameEventsMatchSpecUptoCard : Claim7 := { stood := { row := renameEventsMatchSpecUptoRow, standIns := [], harness := (true, "5d529408bc6366dbc73b76ab94333102e20ad88cdbb0bf4af130e836082d7662"), looks := false }, kinds := [], alts := [], laidByText := true, laidKinds := [.data], laidTests := true, laidLooks := .later }
def RenameEventsMatchSpecUptoCardSaid : Prop := Claim7.holds Tryz.pinned (.plain (OpenSpec.upto renameEventsMatchSpecSpec)) renameEventsMatchSpecUptoCard
end Rows
end Go.Proofs.YtnibcojenlijgaaGreatDoor

/-
  NARROWER THAN 'FOR EVERY INPUT', by the rows' own cells (each row's printed sentence says how): RenameBiasDoesNotMatter: laid · RenameSameIsEquality: laid · RenameAddressIsInverseOfSpot: laid.
  DERIVED. THE GIVEN ROWS OF THIS SEAT. 3 by the template 'for every input the law returns true; each argument reads behind the call as it read before'; 0 by the template 'total and deterministic' (their statements: YtnibcojenlijgaaDoorTotals.lean).
  GIVEN WITH THE SEED: the statements are not yours to turn. If you find one false, say at which input.
  Laid BY PROGRAM, IN A SANDBOX (cutbox-rows.mjs): the forced cells as the released guide's own fill.sh prints them over the translation 9dc08be479d0b7bd… (all of the seat's roots in one cut). By AI agents, Wed Nov 11 2026. No macro, syntax, notation, axiom, sorry.
-/
import Derived.Test.YtnibcojenlijgaaDoorChecked
import GoSem.Claim
import GoSem.ClaimJoined
import GoSem.ClaimMapViews
import Derived.JoinedTies
import Derived.KernelRfl
namespace Go.Proofs.YtnibcojenlijgaaDoor
/- THE CELL 'sum', in the pinned program and in every row, IS THE sha256 OF THE DUMP (.gsa) THAT YtnibcojenlijgaaDoorProg.lean LOADS. Nothing in Lean hashes anything: it is a label: what it is worth is what the hold of that sum in a sandbox is worth. -/
noncomputable def Tryd.pinned : Pinned := { name := "ytnibcojenlijgaadoor", sum := "9dc08be479d0b7bdf8c7178faab8c5a721e97bace0c2a72ab633d6e0efc3ae0b", checked := Tryd.checked }
namespace Rows
def none {H : Type} : Left H := { results := [], args := [] }

/- WHAT THE LISTED PACKAGE-LEVEL VARIABLES READ AS WHEN THE CALL BEGINS. Each datum BY PROGRAM (the guide's laid-datum.mjs) off the statement by which the dump's own 'gosem.cut.vars' lays the variable. In a bare row this is a premise. The card (YtnibcojenlijgaaDoorCards.lean) ties it to the program's text. -/
def laid_linkhouse_rename_none {H : Type} : DataW H := .agg [.lit (.int .i64 (-1)), .lit (.int .i64 (-1)), .lit (.int .i64 (-1)), .lit (.int .i64 (-1))]

/-- 'linkhouselaw6.RenameBiasDoesNotMatter': WHATEVER THE INPUT: true; the input reads as it did. -/
def renameBiasDoesNotMatterSpec : ChangeSpec := { name := "renameBiasDoesNotMatter", fn := fun _ => fun
  | [d1, d2, d3] => { results := [.lit (.bool true)], args := [d1, d2, d3] }
  | _ => none }
def renameBiasDoesNotMatterRow : OpenClaim := { program := "ytnibcojenlijgaadoor", sum := "9dc08be479d0b7bdf8c7178faab8c5a721e97bace0c2a72ab633d6e0efc3ae0b", func := "linkhouse/linkhouselaw6.RenameBiasDoesNotMatter", spec := "renameBiasDoesNotMatter", unfollowed := true, recurses := true, named := ["linkhouse/rename.none"], apart := false, laid := [("linkhouse/rename.none", laid_linkhouse_rename_none)] }
def RenameBiasDoesNotMatterSaid : Prop := renameBiasDoesNotMatterRow.holds Tryd.pinned (OpenSpec.ofChange renameBiasDoesNotMatterSpec)

/-- ITS FALSE NEIGHBOUR: 'it returns false'. Refute it at one input. -/
def renameBiasDoesNotMatterWrong : ChangeSpec := { name := "renameBiasDoesNotMatter", fn := fun _ => fun
  | [d1, d2, d3] => { results := [.lit (.bool false)], args := [d1, d2, d3] }
  | _ => none }
def RenameBiasDoesNotMatterWrongFalsely : Prop := renameBiasDoesNotMatterRow.holds Tryd.pinned (OpenSpec.ofChange renameBiasDoesNotMatterWrong)

/-- 'linkhouselaw6.RenameSameIsEquality': WHATEVER THE INPUT: true; the input reads as it did. -/
def renameSameIsEqualitySpec : ChangeSpec := { name := "renameSameIsEquality", fn := fun _ => fun
  | [d1, d2] => { results := [.lit (.bool true)], args := [d1, d2] }
  | _ => none }
def renameSameIsEqualityRow : OpenClaim := { program := "ytnibcojenlijgaadoor", sum := "9dc08be479d0b7bdf8c7178faab8c5a721e97bace0c2a72ab633d6e0efc3ae0b", func := "linkhouse/linkhouselaw6.RenameSameIsEquality", spec := "renameSameIsEquality", unfollowed := true, recurses := true, named := ["linkhouse/rename.none"], apart := false, laid := [("linkhouse/rename.none", laid_linkhouse_rename_none)] }
def RenameSameIsEqualitySaid : Prop := renameSameIsEqualityRow.holds Tryd.pinned (OpenSpec.ofChange renameSameIsEqualitySpec)

/-- ITS FALSE NEIGHBOUR: 'it returns false'. Refute it at one input. -/
def renameSameIsEqualityWrong : ChangeSpec := { name := "renameSameIsEquality", fn := fun _ => fun
  | [d1, d2] => { results := [.lit (.bool false)], args := [d1, d2] }
  | _ => none }
def RenameSameIsEqualityWrongFalsely : Prop := renameSameIsEqualityRow.holds Tryd.pinned (OpenSpec.ofChange renameSameIsEqualityWrong)

/-- 'linkhouselaw6.RenameAddressIsInverseOfSpot': WHATEVER THE INPUT: true; the input reads as it did. -/
def renameAddressIsInverseOfSpotSpec : ChangeSpec := { name := "renameAddressIsInverseOfSpot", fn := fun _ => fun
  | [d1, d2] => { results := [.lit (.bool true)], args := [d1, d2] }
  | _ => none }
def renameAddressIsInverseOfSpotRow : OpenClaim := { program := "ytnibcojenlijgaadoor", sum := "9dc08be479d0b7bdf8c7178faab8c5a721e97bace0c2a72ab633d6e0efc3ae0b", func := "linkhouse/linkhouselaw6.RenameAddressIsInverseOfSpot", spec := "renameAddressIsInverseOfSpot", unfollowed := true, recurses := true, named := ["linkhouse/rename.none"], apart := false, laid := [("linkhouse/rename.none", laid_linkhouse_rename_none)] }
def RenameAddressIsInverseOfSpotSaid : Prop := renameAddressIsInverseOfSpotRow.holds Tryd.pinned (OpenSpec.ofChange renameAddressIsInverseOfSpotSpec)

/-- ITS FALSE NEIGHBOUR: 'it returns false'. Refute it at one input. -/
def renameAddressIsInverseOfSpotWrong : ChangeSpec := { name := "renameAddressIsInverseOfSpot", fn := fun _ => fun
  | [d1, d2] => { results := [.lit (.bool false)], args := [d1, d2] }
  | _ => none }
def RenameAddressIsInverseOfSpotWrongFalsely : Prop := renameAddressIsInverseOfSpotRow.holds Tryd.pinned (OpenSpec.ofChange renameAddressIsInverseOfSpotWrong)

/- THE SECOND FORM. 'bulk': how many values and letters a reading holds, each counted each time it is reached (what is shared counts as often as it is met; a slice's spare places count too). A statement '..UptoSaid' is the law's where the arguments, and the package variables that the reading takes, are together of bulk at most 1048576: NARROWER than '..Said'. Prove '..Said' where nothing that the law and all that it calls make is longer than what came in: it says more and counts as full. Else prove '..UptoSaid'. A law counts once. -/
mutual
def uptoBulk {H : Type} : DataW H → Nat
  | .lit (.string bytes) => bytes.length + 1
  | .lit _ => 1
  | .nil => 1
  | .ptr d => uptoBulk d + 1
  | .slice elems spare => uptoBulkAll elems + uptoBulkAll spare + 1
  | .agg parts => uptoBulkAll parts + 1
  | .iface _ d => uptoBulk d + 1
  | .map entries => uptoBulkEntries entries + 1
  | .held _ => 1
def uptoBulkAll {H : Type} : List (DataW H) → Nat
  | [] => 0
  | d :: r => uptoBulk d + uptoBulkAll r
def uptoBulkEntries {H : Type} : List (Lit × DataW H) → Nat
  | [] => 0
  | x :: r => uptoBulkEntry x + uptoBulkEntries r
def uptoBulkEntry {H : Type} : Lit × DataW H → Nat
  | (.string bytes, d) => bytes.length + uptoBulk d + 1
  | (_, d) => uptoBulk d + 1
 end
def uptoSmall : (H : Type) → List (DataW H) → Bool := fun _ ds => decide (uptoBulkAll ds ≤ 1048576)
def OpenSpec.upto (s : _root_.Go.ChangeSpec) : _root_.Go.OpenSpec := { _root_.Go.OpenSpec.ofChange s with cond := some uptoSmall }

/-- 'linkhouselaw6.RenameBiasDoesNotMatter', WHERE WHAT IT READS IS OF BULK AT MOST 1048576: true; the input reads as it did. -/
def renameBiasDoesNotMatterUptoRow : OpenClaim := { program := "ytnibcojenlijgaadoor", sum := "9dc08be479d0b7bdf8c7178faab8c5a721e97bace0c2a72ab633d6e0efc3ae0b", func := "linkhouse/linkhouselaw6.RenameBiasDoesNotMatter", spec := "renameBiasDoesNotMatter", unfollowed := true, recurses := true, named := ["linkhouse/rename.none"], apart := false, laid := [("linkhouse/rename.none", laid_linkhouse_rename_none)], narrowed := true }
def RenameBiasDoesNotMatterUptoSaid : Prop := renameBiasDoesNotMatterUptoRow.holds Tryd.pinned (OpenSpec.upto renameBiasDoesNotMatterSpec)

/-- 'linkhouselaw6.RenameSameIsEquality', WHERE WHAT IT READS IS OF BULK AT MOST 1048576: true; the input reads as it did. -/
def renameSameIsEqualityUptoRow : OpenClaim := { program := "ytnibcojenlijgaadoor", sum := "9dc08be479d0b7bdf8c7178faab8c5a721e97bace0c2a72ab633d6e0efc3ae0b", func := "linkhouse/linkhouselaw6.RenameSameIsEquality", spec := "renameSameIsEquality", unfollowed := true, recurses := true, named := ["linkhouse/rename.none"], apart := false, laid := [("linkhouse/rename.none", laid_linkhouse_rename_none)], narrowed := true }
def RenameSameIsEqualityUptoSaid : Prop := renameSameIsEqualityUptoRow.holds Tryd.pinned (OpenSpec.upto renameSameIsEqualitySpec)

/-- 'linkhouselaw6.RenameAddressIsInverseOfSpot', WHERE WHAT IT READS IS OF BULK AT MOST 1048576: true; the input reads as it did. -/
def renameAddressIsInverseOfSpotUptoRow : OpenClaim := { program := "ytnibcojenlijgaadoor", sum := "9dc08be479d0b7bdf8c7178faab8c5a721e97bace0c2a72ab633d6e0efc3ae0b", func := "linkhouse/linkhouselaw6.RenameAddressIsInverseOfSpot", spec := "renameAddressIsInverseOfSpot", unfollowed := true, recurses := true, named := ["linkhouse/rename.none"], apart := false, laid := [("linkhouse/rename.none", laid_linkhouse_rename_none)], narrowed := true }
def RenameAddressIsInverseOfSpotUptoSaid : Prop := renameAddressIsInverseOfSpotUptoRow.holds Tryd.pinned (OpenSpec.upto renameAddressIsInverseOfSpotSpec)

end Rows
end Go.Proofs.YtnibcojenlijgaaDoor

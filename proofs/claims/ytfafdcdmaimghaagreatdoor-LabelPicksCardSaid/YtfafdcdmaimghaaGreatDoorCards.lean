/-
  DERIVED. GIVEN WITH THE SEED: THE CARDS: each row of YtfafdcdmaimghaaGreatDoorRows.lean that lists a variable, with what it lists TIED to the program's text (the seventh form; the later family's looks); each row that meets fmt, with fmt's text TOLD by the authors' own Lean function (tested against real Go, not proved from fmt's source: count such statements apart). THE CARD IS WHAT COUNTS. Prove the row's statement (the work); the ties are given (YtfafdcdmaimghaaGreatDoorTie.lean); close each card by the builder's one call (the guide's Derived/Test/ToyasCard.lean, 'card_holds'). Laid BY PROGRAM, IN A SANDBOX (cutbox-door.mjs). By AI agents, Wed Nov 11 2026. No macro, syntax, notation, axiom, sorry.
-/
import Derived.Test.YtfafdcdmaimghaaGreatDoorRows
import GoSem.ClaimSeven
namespace Go.Proofs.YtfafdcdmaimghaaGreatDoor
namespace Rows

/-- THE TIED CARD OF 'billetlaw04.LabelPicks'. -/
def labelPicksCard : Claim7 := { stood := { row := labelPicksRow, standIns := [], harness := (true, "abe1950efb57face92db4c2bfc840bbc8e2cb28f7286a950ea5246a22eb57760"), looks := false }, kinds := [], alts := [], laidByText := true, laidKinds := [.data, .pinned], laidTests := true, laidLooks := .later }
def LabelPicksCardSaid : Prop := Claim7.holds Tryz.pinned (.plain (OpenSpec.ofChange labelPicksSpec)) labelPicksCard

/-- THE SECOND FORM's CARD OF 'billetlaw04.LabelPicks'. -/
def labelPicksUptoCard : Claim7 := { stood := { row := labelPicksUptoRow, standIns := [], harness := (true, "abe1950efb57face92db4c2bfc840bbc8e2cb28f7286a950ea5246a22eb57760"), looks := false }, kinds := [], alts := [], laidByText := true, laidKinds := [.data, .pinned], laidTests := true, laidLooks := .later }
def LabelPicksUptoCardSaid : Prop := Claim7.holds Tryz.pinned (.plain (OpenSpec.upto labelPicksSpec)) labelPicksUptoCard
end Rows
end Go.Proofs.YtfafdcdmaimghaaGreatDoor

/-
  DERIVED. GIVEN WITH THE SEED: THE CARDS: each row of YtlmnmjnmilaipaaGreatDoorRows.lean that lists a variable, with what it lists TIED to the program's text (the seventh form; the later family's looks); each row that meets fmt, with fmt's text TOLD by the authors' own Lean function (tested against real Go, not proved from fmt's source: count such statements apart). THE CARD IS WHAT COUNTS. Prove the row's statement (the work); the ties are given (YtlmnmjnmilaipaaGreatDoorTie.lean); close each card by the builder's one call (the guide's Derived/Test/ToyasCard.lean, 'card_holds'). Laid BY PROGRAM, IN A SANDBOX (cutbox-door.mjs). By AI agents, Wed Nov 11 2026. No macro, syntax, notation, axiom, sorry.
-/
import Derived.Test.YtlmnmjnmilaipaaGreatDoorRows
import GoSem.ClaimSeven
namespace Go.Proofs.YtlmnmjnmilaipaaGreatDoor
namespace Rows

/-- THE TIED CARD OF 'billetlaw11.WalCounts'. -/
def walCountsCard : Claim7 := { stood := { row := walCountsRow, standIns := [], harness := (true, "68a86235fa4653ff258a8be4a24c463926f5cbe5d1b9f429cd90a6b823432ea1"), looks := true }, kinds := [], alts := [], laidByText := true, laidKinds := [.handle], laidTests := true, laidLooks := .later }
def WalCountsCardSaid : Prop := Claim7.holds Tryz.pinned (.plain (OpenSpec.ofChange walCountsSpec)) walCountsCard

/-- THE TIED CARD OF 'billetlaw11.WalLong'. -/
def walLongCard : Claim7 := { stood := { row := walLongRow, standIns := [], harness := (true, "68a86235fa4653ff258a8be4a24c463926f5cbe5d1b9f429cd90a6b823432ea1"), looks := true }, kinds := [], alts := [], laidByText := true, laidKinds := [.handle], laidTests := true, laidLooks := .later }
def WalLongCardSaid : Prop := Claim7.holds Tryz.pinned (.plain (OpenSpec.ofChange walLongSpec)) walLongCard

/-- THE TIED CARD OF 'billetlaw11.WalFound'. -/
def walFoundCard : Claim7 := { stood := { row := walFoundRow, standIns := [], harness := (true, "68a86235fa4653ff258a8be4a24c463926f5cbe5d1b9f429cd90a6b823432ea1"), looks := true }, kinds := [], alts := [], laidByText := true, laidKinds := [.handle], laidTests := true, laidLooks := .later }
def WalFoundCardSaid : Prop := Claim7.holds Tryz.pinned (.plain (OpenSpec.ofChange walFoundSpec)) walFoundCard

/-- THE TIED CARD OF 'billetlaw11.WalAgain'. -/
def walAgainCard : Claim7 := { stood := { row := walAgainRow, standIns := [], harness := (true, "68a86235fa4653ff258a8be4a24c463926f5cbe5d1b9f429cd90a6b823432ea1"), looks := true }, kinds := [], alts := [], laidByText := true, laidKinds := [.handle], laidTests := true, laidLooks := .later }
def WalAgainCardSaid : Prop := Claim7.holds Tryz.pinned (.plain (OpenSpec.ofChange walAgainSpec)) walAgainCard

/-- THE TIED CARD OF 'billetlaw11.WalLasts'. -/
def walLastsCard : Claim7 := { stood := { row := walLastsRow, standIns := [], harness := (true, "68a86235fa4653ff258a8be4a24c463926f5cbe5d1b9f429cd90a6b823432ea1"), looks := true }, kinds := [], alts := [], laidByText := true, laidKinds := [.handle], laidTests := true, laidLooks := .later }
def WalLastsCardSaid : Prop := Claim7.holds Tryz.pinned (.plain (OpenSpec.ofChange walLastsSpec)) walLastsCard

/-- THE TIED CARD OF 'billetlaw11.WalPlays'. -/
def walPlaysCard : Claim7 := { stood := { row := walPlaysRow, standIns := [], harness := (true, "68a86235fa4653ff258a8be4a24c463926f5cbe5d1b9f429cd90a6b823432ea1"), looks := true }, kinds := [], alts := [], laidByText := true, laidKinds := [.handle], laidTests := true, laidLooks := .later }
def WalPlaysCardSaid : Prop := Claim7.holds Tryz.pinned (.plain (OpenSpec.ofChange walPlaysSpec)) walPlaysCard

/-- THE SECOND FORM's CARD OF 'billetlaw11.WalCounts'. -/
def walCountsUptoCard : Claim7 := { stood := { row := walCountsUptoRow, standIns := [], harness := (true, "68a86235fa4653ff258a8be4a24c463926f5cbe5d1b9f429cd90a6b823432ea1"), looks := true }, kinds := [], alts := [], laidByText := true, laidKinds := [.handle], laidTests := true, laidLooks := .later }
def WalCountsUptoCardSaid : Prop := Claim7.holds Tryz.pinned (.plain (OpenSpec.upto walCountsSpec)) walCountsUptoCard

/-- THE SECOND FORM's CARD OF 'billetlaw11.WalLong'. -/
def walLongUptoCard : Claim7 := { stood := { row := walLongUptoRow, standIns := [], harness := (true, "68a86235fa4653ff258a8be4a24c463926f5cbe5d1b9f429cd90a6b823432ea1"), looks := true }, kinds := [], alts := [], laidByText := true, laidKinds := [.handle], laidTests := true, laidLooks := .later }
def WalLongUptoCardSaid : Prop := Claim7.holds Tryz.pinned (.plain (OpenSpec.upto walLongSpec)) walLongUptoCard

/-- THE SECOND FORM's CARD OF 'billetlaw11.WalFound'. -/
def walFoundUptoCard : Claim7 := { stood := { row := walFoundUptoRow, standIns := [], harness := (true, "68a86235fa4653ff258a8be4a24c463926f5cbe5d1b9f429cd90a6b823432ea1"), looks := true }, kinds := [], alts := [], laidByText := true, laidKinds := [.handle], laidTests := true, laidLooks := .later }
def WalFoundUptoCardSaid : Prop := Claim7.holds Tryz.pinned (.plain (OpenSpec.upto walFoundSpec)) walFoundUptoCard

/-- THE SECOND FORM's CARD OF 'billetlaw11.WalAgain'. -/
def walAgainUptoCard : Claim7 := { stood := { row := walAgainUptoRow, standIns := [], harness := (true, "68a86235fa4653ff258a8be4a24c463926f5cbe5d1b9f429cd90a6b823432ea1"), looks := true }, kinds := [], alts := [], laidByText := true, laidKinds := [.handle], laidTests := true, laidLooks := .later }
def WalAgainUptoCardSaid : Prop := Claim7.holds Tryz.pinned (.plain (OpenSpec.upto walAgainSpec)) walAgainUptoCard

/-- THE SECOND FORM's CARD OF 'billetlaw11.WalLasts'. -/
def walLastsUptoCard : Claim7 := { stood := { row := walLastsUptoRow, standIns := [], harness := (true, "68a86235fa4653ff258a8be4a24c463926f5cbe5d1b9f429cd90a6b823432ea1"), looks := true }, kinds := [], alts := [], laidByText := true, laidKinds := [.handle], laidTests := true, laidLooks := .later }
def WalLastsUptoCardSaid : Prop := Claim7.holds Tryz.pinned (.plain (OpenSpec.upto walLastsSpec)) walLastsUptoCard

/-- THE SECOND FORM's CARD OF 'billetlaw11.WalPlays'. -/
def walPlaysUptoCard : Claim7 := { stood := { row := walPlaysUptoRow, standIns := [], harness := (true, "68a86235fa4653ff258a8be4a24c463926f5cbe5d1b9f429cd90a6b823432ea1"), looks := true }, kinds := [], alts := [], laidByText := true, laidKinds := [.handle], laidTests := true, laidLooks := .later }
def WalPlaysUptoCardSaid : Prop := Claim7.holds Tryz.pinned (.plain (OpenSpec.upto walPlaysSpec)) walPlaysUptoCard
end Rows
end Go.Proofs.YtlmnmjnmilaipaaGreatDoor

/-
  DERIVED. GIVEN WITH THE SEED: THE CARDS: each row of YtfafdcdmaimghaaDoorRows.lean that lists a variable, with what it lists TIED to the program's text (the seventh form; the later family's looks); each row that meets fmt, with fmt's text TOLD by the authors' own Lean function (tested against real Go, not proved from fmt's source: count such statements apart). THE CARD IS WHAT COUNTS. Prove the row's statement (the work); the ties are given (YtfafdcdmaimghaaDoorTie.lean); close each card by the builder's one call (the guide's Derived/Test/ToyasCard.lean, 'card_holds'). Laid BY PROGRAM, IN A SANDBOX (cutbox-door.mjs). By AI agents, Wed Nov 11 2026. No macro, syntax, notation, axiom, sorry.
-/
import Derived.Test.YtfafdcdmaimghaaDoorRows
import GoSem.ClaimSeven
namespace Go.Proofs.YtfafdcdmaimghaaDoor
namespace Rows

/-- THE TIED CARD OF 'billetlaw04.LabelTells'. -/
def labelTellsCard : Claim7 := { stood := { row := labelTellsRow, standIns := [], harness := (true, "4bc591acae2a27847d3afbf8988060895ec82f2523ed16e4d688d2f21f0f1ba6"), looks := false }, kinds := [], alts := [], laidByText := true, laidKinds := [.data, .pinned], laidTests := true, laidLooks := .later }
def LabelTellsCardSaid : Prop := Claim7.holds Tryd.pinned (.plain (OpenSpec.ofChange labelTellsSpec)) labelTellsCard

/-- THE TIED CARD OF 'billetlaw04.LabelTidies'. -/
def labelTidiesCard : Claim7 := { stood := { row := labelTidiesRow, standIns := [], harness := (true, "4bc591acae2a27847d3afbf8988060895ec82f2523ed16e4d688d2f21f0f1ba6"), looks := false }, kinds := [], alts := [], laidByText := true, laidKinds := [.data, .pinned], laidTests := true, laidLooks := .later }
def LabelTidiesCardSaid : Prop := Claim7.holds Tryd.pinned (.plain (OpenSpec.ofChange labelTidiesSpec)) labelTidiesCard

/-- THE TIED CARD OF 'billetlaw04.LabelBoth'. -/
def labelBothCard : Claim7 := { stood := { row := labelBothRow, standIns := [], harness := (true, "4bc591acae2a27847d3afbf8988060895ec82f2523ed16e4d688d2f21f0f1ba6"), looks := false }, kinds := [], alts := [], laidByText := true, laidKinds := [.data, .pinned], laidTests := true, laidLooks := .later }
def LabelBothCardSaid : Prop := Claim7.holds Tryd.pinned (.plain (OpenSpec.ofChange labelBothSpec)) labelBothCard

/-- THE TIED CARD OF 'billetlaw04.LabelTurns'. -/
def labelTurnsCard : Claim7 := { stood := { row := labelTurnsRow, standIns := [], harness := (true, "4bc591acae2a27847d3afbf8988060895ec82f2523ed16e4d688d2f21f0f1ba6"), looks := false }, kinds := [], alts := [], laidByText := true, laidKinds := [.data, .pinned], laidTests := true, laidLooks := .later }
def LabelTurnsCardSaid : Prop := Claim7.holds Tryd.pinned (.plain (OpenSpec.ofChange labelTurnsSpec)) labelTurnsCard

/-- THE TIED CARD OF 'billetlaw04.LabelOwn'. -/
def labelOwnCard : Claim7 := { stood := { row := labelOwnRow, standIns := [], harness := (true, "4bc591acae2a27847d3afbf8988060895ec82f2523ed16e4d688d2f21f0f1ba6"), looks := false }, kinds := [], alts := [], laidByText := true, laidKinds := [.data, .pinned], laidTests := true, laidLooks := .later }
def LabelOwnCardSaid : Prop := Claim7.holds Tryd.pinned (.plain (OpenSpec.ofChange labelOwnSpec)) labelOwnCard

/-- THE TIED CARD OF 'billetlaw04.LabelGroups'. -/
def labelGroupsCard : Claim7 := { stood := { row := labelGroupsRow, standIns := [], harness := (true, "4bc591acae2a27847d3afbf8988060895ec82f2523ed16e4d688d2f21f0f1ba6"), looks := false }, kinds := [], alts := [], laidByText := true, laidKinds := [.data, .pinned], laidTests := true, laidLooks := .later }
def LabelGroupsCardSaid : Prop := Claim7.holds Tryd.pinned (.plain (OpenSpec.ofChange labelGroupsSpec)) labelGroupsCard

/-- THE TIED CARD OF 'billetlaw04.LabelForms'. -/
def labelFormsCard : Claim7 := { stood := { row := labelFormsRow, standIns := [], harness := (true, "4bc591acae2a27847d3afbf8988060895ec82f2523ed16e4d688d2f21f0f1ba6"), looks := false }, kinds := [], alts := [], laidByText := true, laidKinds := [.data, .pinned], laidTests := true, laidLooks := .later }
def LabelFormsCardSaid : Prop := Claim7.holds Tryd.pinned (.plain (OpenSpec.ofChange labelFormsSpec)) labelFormsCard

/-- THE SECOND FORM's CARD OF 'billetlaw04.LabelTells'. -/
def labelTellsUptoCard : Claim7 := { stood := { row := labelTellsUptoRow, standIns := [], harness := (true, "4bc591acae2a27847d3afbf8988060895ec82f2523ed16e4d688d2f21f0f1ba6"), looks := false }, kinds := [], alts := [], laidByText := true, laidKinds := [.data, .pinned], laidTests := true, laidLooks := .later }
def LabelTellsUptoCardSaid : Prop := Claim7.holds Tryd.pinned (.plain (OpenSpec.upto labelTellsSpec)) labelTellsUptoCard

/-- THE SECOND FORM's CARD OF 'billetlaw04.LabelTidies'. -/
def labelTidiesUptoCard : Claim7 := { stood := { row := labelTidiesUptoRow, standIns := [], harness := (true, "4bc591acae2a27847d3afbf8988060895ec82f2523ed16e4d688d2f21f0f1ba6"), looks := false }, kinds := [], alts := [], laidByText := true, laidKinds := [.data, .pinned], laidTests := true, laidLooks := .later }
def LabelTidiesUptoCardSaid : Prop := Claim7.holds Tryd.pinned (.plain (OpenSpec.upto labelTidiesSpec)) labelTidiesUptoCard

/-- THE SECOND FORM's CARD OF 'billetlaw04.LabelBoth'. -/
def labelBothUptoCard : Claim7 := { stood := { row := labelBothUptoRow, standIns := [], harness := (true, "4bc591acae2a27847d3afbf8988060895ec82f2523ed16e4d688d2f21f0f1ba6"), looks := false }, kinds := [], alts := [], laidByText := true, laidKinds := [.data, .pinned], laidTests := true, laidLooks := .later }
def LabelBothUptoCardSaid : Prop := Claim7.holds Tryd.pinned (.plain (OpenSpec.upto labelBothSpec)) labelBothUptoCard

/-- THE SECOND FORM's CARD OF 'billetlaw04.LabelTurns'. -/
def labelTurnsUptoCard : Claim7 := { stood := { row := labelTurnsUptoRow, standIns := [], harness := (true, "4bc591acae2a27847d3afbf8988060895ec82f2523ed16e4d688d2f21f0f1ba6"), looks := false }, kinds := [], alts := [], laidByText := true, laidKinds := [.data, .pinned], laidTests := true, laidLooks := .later }
def LabelTurnsUptoCardSaid : Prop := Claim7.holds Tryd.pinned (.plain (OpenSpec.upto labelTurnsSpec)) labelTurnsUptoCard

/-- THE SECOND FORM's CARD OF 'billetlaw04.LabelOwn'. -/
def labelOwnUptoCard : Claim7 := { stood := { row := labelOwnUptoRow, standIns := [], harness := (true, "4bc591acae2a27847d3afbf8988060895ec82f2523ed16e4d688d2f21f0f1ba6"), looks := false }, kinds := [], alts := [], laidByText := true, laidKinds := [.data, .pinned], laidTests := true, laidLooks := .later }
def LabelOwnUptoCardSaid : Prop := Claim7.holds Tryd.pinned (.plain (OpenSpec.upto labelOwnSpec)) labelOwnUptoCard

/-- THE SECOND FORM's CARD OF 'billetlaw04.LabelGroups'. -/
def labelGroupsUptoCard : Claim7 := { stood := { row := labelGroupsUptoRow, standIns := [], harness := (true, "4bc591acae2a27847d3afbf8988060895ec82f2523ed16e4d688d2f21f0f1ba6"), looks := false }, kinds := [], alts := [], laidByText := true, laidKinds := [.data, .pinned], laidTests := true, laidLooks := .later }
def LabelGroupsUptoCardSaid : Prop := Claim7.holds Tryd.pinned (.plain (OpenSpec.upto labelGroupsSpec)) labelGroupsUptoCard

/-- THE SECOND FORM's CARD OF 'billetlaw04.LabelForms'. -/
def labelFormsUptoCard : Claim7 := { stood := { row := labelFormsUptoRow, standIns := [], harness := (true, "4bc591acae2a27847d3afbf8988060895ec82f2523ed16e4d688d2f21f0f1ba6"), looks := false }, kinds := [], alts := [], laidByText := true, laidKinds := [.data, .pinned], laidTests := true, laidLooks := .later }
def LabelFormsUptoCardSaid : Prop := Claim7.holds Tryd.pinned (.plain (OpenSpec.upto labelFormsSpec)) labelFormsUptoCard
end Rows
end Go.Proofs.YtfafdcdmaimghaaDoor

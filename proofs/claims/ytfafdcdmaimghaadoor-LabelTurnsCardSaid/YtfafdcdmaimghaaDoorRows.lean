/-
  NARROWER THAN 'FOR EVERY INPUT', by the rows' own cells (each row's printed sentence says how): LabelTells: laid · LabelTidies: laid · LabelBoth: laid · LabelTurns: laid · LabelOwn: laid · LabelGroups: laid · LabelForms: laid.
  DERIVED. THE GIVEN ROWS OF THIS SEAT. 7 by the template 'for every input the law returns true; each argument reads behind the call as it read before'; 0 by the template 'total and deterministic' (their statements: YtfafdcdmaimghaaDoorTotals.lean).
  GIVEN WITH THE SEED: the statements are not yours to turn. If you find one false, say at which input.
  Laid BY PROGRAM, IN A SANDBOX (cutbox-rows.mjs): the forced cells as the released guide's own fill.sh prints them over the translation 586461856f8c3688… (all of the seat's roots in one cut). By AI agents, Wed Nov 11 2026. No macro, syntax, notation, axiom, sorry.
-/
import Derived.Test.YtfafdcdmaimghaaDoorChecked
import GoSem.PinnedTables
import GoSem.Claim
import GoSem.ClaimJoined
import GoSem.ClaimMapViews
import Derived.JoinedTies
import Derived.KernelRfl
namespace Go.Proofs.YtfafdcdmaimghaaDoor
/- THE CELL 'sum', in the pinned program and in every row, IS THE sha256 OF THE DUMP (.gsa) THAT YtfafdcdmaimghaaDoorProg.lean LOADS. Nothing in Lean hashes anything: it is a label: what it is worth is what the hold of that sum in a sandbox is worth. -/
noncomputable def Tryd.pinned : Pinned := { name := "ytfafdcdmaimghaadoor", sum := "586461856f8c3688e75bd4b084a2e6f872ac898ef11f748b8ee0159b4e8f6a52", checked := Tryd.checked }
namespace Rows
def none {H : Type} : Left H := { results := [], args := [] }

/- WHAT THE LISTED PACKAGE-LEVEL VARIABLES READ AS WHEN THE CALL BEGINS. Each datum BY PROGRAM (the guide's laid-datum.mjs) off the statement by which the dump's own 'gosem.cut.vars' lays the variable. In a bare row this is a premise. The card (YtfafdcdmaimghaaDoorCards.lean) ties it to the program's text. -/
def laid_unicode_utf8_acceptRanges {H : Type} : DataW H := .agg [.agg [.lit (.int .u8 128), .lit (.int .u8 191)], .agg [.lit (.int .u8 160), .lit (.int .u8 191)], .agg [.lit (.int .u8 128), .lit (.int .u8 159)], .agg [.lit (.int .u8 144), .lit (.int .u8 191)], .agg [.lit (.int .u8 128), .lit (.int .u8 143)], .agg [.lit (.int .u8 0), .lit (.int .u8 0)], .agg [.lit (.int .u8 0), .lit (.int .u8 0)], .agg [.lit (.int .u8 0), .lit (.int .u8 0)], .agg [.lit (.int .u8 0), .lit (.int .u8 0)], .agg [.lit (.int .u8 0), .lit (.int .u8 0)], .agg [.lit (.int .u8 0), .lit (.int .u8 0)], .agg [.lit (.int .u8 0), .lit (.int .u8 0)], .agg [.lit (.int .u8 0), .lit (.int .u8 0)], .agg [.lit (.int .u8 0), .lit (.int .u8 0)], .agg [.lit (.int .u8 0), .lit (.int .u8 0)], .agg [.lit (.int .u8 0), .lit (.int .u8 0)]]
/-- One of Go's own tables, pinned by name: the form's constant. -/
def laid_unicode_utf8_first : DataW Unit := Go.Pinned.utf8First

/-- 'billetlaw04.LabelTells': WHATEVER THE INPUT: true; the input reads as it did. -/
def labelTellsSpec : ChangeSpec := { name := "labelTells", fn := fun _ => fun
  | [d1, d2] => { results := [.lit (.bool true)], args := [d1, d2] }
  | _ => none }
def labelTellsRow : OpenClaim := { program := "ytfafdcdmaimghaadoor", sum := "586461856f8c3688e75bd4b084a2e6f872ac898ef11f748b8ee0159b4e8f6a52", func := "billet/billetlaw04.LabelTells", spec := "labelTells", inPlace := ["internal/bytealg.CountString", "internal/bytealg.IndexByteString", "internal/bytealg.IndexString", "internal/abi.NoEscape", "internal/bytealg.MakeNoZero"], unfollowed := true, recurses := true, named := ["unicode/utf8.first", "unicode/utf8.acceptRanges", "internal/bytealg.MaxLen"], apart := false, laid := [("unicode/utf8.acceptRanges", laid_unicode_utf8_acceptRanges), ("unicode/utf8.first", laid_unicode_utf8_first)] }
def LabelTellsSaid : Prop := labelTellsRow.holds Tryd.pinned (OpenSpec.ofChange labelTellsSpec)

/-- ITS FALSE NEIGHBOUR: 'it returns false'. Refute it at one input. -/
def labelTellsWrong : ChangeSpec := { name := "labelTells", fn := fun _ => fun
  | [d1, d2] => { results := [.lit (.bool false)], args := [d1, d2] }
  | _ => none }
def LabelTellsWrongFalsely : Prop := labelTellsRow.holds Tryd.pinned (OpenSpec.ofChange labelTellsWrong)

/-- 'billetlaw04.LabelTidies': WHATEVER THE INPUT: true; the input reads as it did. -/
def labelTidiesSpec : ChangeSpec := { name := "labelTidies", fn := fun _ => fun
  | [d1, d2] => { results := [.lit (.bool true)], args := [d1, d2] }
  | _ => none }
def labelTidiesRow : OpenClaim := { program := "ytfafdcdmaimghaadoor", sum := "586461856f8c3688e75bd4b084a2e6f872ac898ef11f748b8ee0159b4e8f6a52", func := "billet/billetlaw04.LabelTidies", spec := "labelTidies", inPlace := ["internal/bytealg.CountString", "internal/bytealg.IndexByteString", "internal/bytealg.IndexString", "internal/abi.NoEscape", "internal/bytealg.MakeNoZero"], unfollowed := true, recurses := true, named := ["unicode/utf8.first", "unicode/utf8.acceptRanges", "internal/bytealg.MaxLen"], apart := false, laid := [("unicode/utf8.acceptRanges", laid_unicode_utf8_acceptRanges), ("unicode/utf8.first", laid_unicode_utf8_first)] }
def LabelTidiesSaid : Prop := labelTidiesRow.holds Tryd.pinned (OpenSpec.ofChange labelTidiesSpec)

/-- ITS FALSE NEIGHBOUR: 'it returns false'. Refute it at one input. -/
def labelTidiesWrong : ChangeSpec := { name := "labelTidies", fn := fun _ => fun
  | [d1, d2] => { results := [.lit (.bool false)], args := [d1, d2] }
  | _ => none }
def LabelTidiesWrongFalsely : Prop := labelTidiesRow.holds Tryd.pinned (OpenSpec.ofChange labelTidiesWrong)

/-- 'billetlaw04.LabelBoth': WHATEVER THE INPUT: true; the input reads as it did. -/
def labelBothSpec : ChangeSpec := { name := "labelBoth", fn := fun _ => fun
  | [d1, d2, d3] => { results := [.lit (.bool true)], args := [d1, d2, d3] }
  | _ => none }
def labelBothRow : OpenClaim := { program := "ytfafdcdmaimghaadoor", sum := "586461856f8c3688e75bd4b084a2e6f872ac898ef11f748b8ee0159b4e8f6a52", func := "billet/billetlaw04.LabelBoth", spec := "labelBoth", inPlace := ["internal/bytealg.CountString", "internal/bytealg.IndexByteString", "internal/bytealg.IndexString", "internal/abi.NoEscape", "internal/bytealg.MakeNoZero"], unfollowed := true, recurses := true, named := ["unicode/utf8.first", "unicode/utf8.acceptRanges", "internal/bytealg.MaxLen"], apart := false, laid := [("unicode/utf8.acceptRanges", laid_unicode_utf8_acceptRanges), ("unicode/utf8.first", laid_unicode_utf8_first)] }
def LabelBothSaid : Prop := labelBothRow.holds Tryd.pinned (OpenSpec.ofChange labelBothSpec)

/-- ITS FALSE NEIGHBOUR: 'it returns false'. Refute it at one input. -/
def labelBothWrong : ChangeSpec := { name := "labelBoth", fn := fun _ => fun
  | [d1, d2, d3] => { results := [.lit (.bool false)], args := [d1, d2, d3] }
  | _ => none }
def LabelBothWrongFalsely : Prop := labelBothRow.holds Tryd.pinned (OpenSpec.ofChange labelBothWrong)

/-- 'billetlaw04.LabelTurns': WHATEVER THE INPUT: true; the input reads as it did. -/
def labelTurnsSpec : ChangeSpec := { name := "labelTurns", fn := fun _ => fun
  | [d1, d2, d3, d4] => { results := [.lit (.bool true)], args := [d1, d2, d3, d4] }
  | _ => none }
def labelTurnsRow : OpenClaim := { program := "ytfafdcdmaimghaadoor", sum := "586461856f8c3688e75bd4b084a2e6f872ac898ef11f748b8ee0159b4e8f6a52", func := "billet/billetlaw04.LabelTurns", spec := "labelTurns", inPlace := ["internal/bytealg.CountString", "internal/bytealg.IndexByteString", "internal/bytealg.IndexString", "internal/abi.NoEscape", "internal/bytealg.MakeNoZero"], unfollowed := true, recurses := true, named := ["unicode/utf8.first", "unicode/utf8.acceptRanges", "internal/bytealg.MaxLen"], apart := false, laid := [("unicode/utf8.acceptRanges", laid_unicode_utf8_acceptRanges), ("unicode/utf8.first", laid_unicode_utf8_first)] }
def LabelTurnsSaid : Prop := labelTurnsRow.holds Tryd.pinned (OpenSpec.ofChange labelTurnsSpec)

/-- ITS FALSE NEIGHBOUR: 'it returns false'. Refute it at one input. -/
def labelTurnsWrong : ChangeSpec := { name := "labelTurns", fn := fun _ => fun
  | [d1, d2, d3, d4] => { results := [.lit (.bool false)], args := [d1, d2, d3, d4] }
  | _ => none }
def LabelTurnsWrongFalsely : Prop := labelTurnsRow.holds Tryd.pinned (OpenSpec.ofChange labelTurnsWrong)

/-- 'billetlaw04.LabelOwn': WHATEVER THE INPUT: true; the input reads as it did. -/
def labelOwnSpec : ChangeSpec := { name := "labelOwn", fn := fun _ => fun
  | [d1, d2] => { results := [.lit (.bool true)], args := [d1, d2] }
  | _ => none }
def labelOwnRow : OpenClaim := { program := "ytfafdcdmaimghaadoor", sum := "586461856f8c3688e75bd4b084a2e6f872ac898ef11f748b8ee0159b4e8f6a52", func := "billet/billetlaw04.LabelOwn", spec := "labelOwn", inPlace := ["internal/bytealg.CountString", "internal/bytealg.IndexByteString", "internal/bytealg.IndexString", "internal/abi.NoEscape", "internal/bytealg.MakeNoZero"], unfollowed := true, recurses := true, named := ["unicode/utf8.first", "unicode/utf8.acceptRanges", "internal/bytealg.MaxLen"], apart := false, laid := [("unicode/utf8.acceptRanges", laid_unicode_utf8_acceptRanges), ("unicode/utf8.first", laid_unicode_utf8_first)] }
def LabelOwnSaid : Prop := labelOwnRow.holds Tryd.pinned (OpenSpec.ofChange labelOwnSpec)

/-- ITS FALSE NEIGHBOUR: 'it returns false'. Refute it at one input. -/
def labelOwnWrong : ChangeSpec := { name := "labelOwn", fn := fun _ => fun
  | [d1, d2] => { results := [.lit (.bool false)], args := [d1, d2] }
  | _ => none }
def LabelOwnWrongFalsely : Prop := labelOwnRow.holds Tryd.pinned (OpenSpec.ofChange labelOwnWrong)

/-- 'billetlaw04.LabelGroups': WHATEVER THE INPUT: true; the input reads as it did. -/
def labelGroupsSpec : ChangeSpec := { name := "labelGroups", fn := fun _ => fun
  | [d1, d2, d3] => { results := [.lit (.bool true)], args := [d1, d2, d3] }
  | _ => none }
def labelGroupsRow : OpenClaim := { program := "ytfafdcdmaimghaadoor", sum := "586461856f8c3688e75bd4b084a2e6f872ac898ef11f748b8ee0159b4e8f6a52", func := "billet/billetlaw04.LabelGroups", spec := "labelGroups", inPlace := ["internal/bytealg.CountString", "internal/bytealg.IndexByteString", "internal/bytealg.IndexString", "internal/abi.NoEscape", "internal/bytealg.MakeNoZero"], unfollowed := true, recurses := true, named := ["unicode/utf8.first", "unicode/utf8.acceptRanges", "internal/bytealg.MaxLen"], apart := false, laid := [("unicode/utf8.acceptRanges", laid_unicode_utf8_acceptRanges), ("unicode/utf8.first", laid_unicode_utf8_first)] }
def LabelGroupsSaid : Prop := labelGroupsRow.holds Tryd.pinned (OpenSpec.ofChange labelGroupsSpec)

/-- ITS FALSE NEIGHBOUR: 'it returns false'. Refute it at one input. -/
def labelGroupsWrong : ChangeSpec := { name := "labelGroups", fn := fun _ => fun
  | [d1, d2, d3] => { results := [.lit (.bool false)], args := [d1, d2, d3] }
  | _ => none }
def LabelGroupsWrongFalsely : Prop := labelGroupsRow.holds Tryd.pinned (OpenSpec.ofChange labelGroupsWrong)

/-- 'billetlaw04.LabelForms': WHATEVER THE INPUT: true; the input reads as it did. -/
def labelFormsSpec : ChangeSpec := { name := "labelForms", fn := fun _ => fun
  | [d1, d2] => { results := [.lit (.bool true)], args := [d1, d2] }
  | _ => none }
def labelFormsRow : OpenClaim := { program := "ytfafdcdmaimghaadoor", sum := "586461856f8c3688e75bd4b084a2e6f872ac898ef11f748b8ee0159b4e8f6a52", func := "billet/billetlaw04.LabelForms", spec := "labelForms", inPlace := ["internal/bytealg.CountString", "internal/bytealg.IndexByteString", "internal/bytealg.IndexString", "internal/abi.NoEscape", "internal/bytealg.MakeNoZero"], unfollowed := true, recurses := true, named := ["unicode/utf8.first", "unicode/utf8.acceptRanges", "internal/bytealg.MaxLen"], apart := false, laid := [("unicode/utf8.acceptRanges", laid_unicode_utf8_acceptRanges), ("unicode/utf8.first", laid_unicode_utf8_first)] }
def LabelFormsSaid : Prop := labelFormsRow.holds Tryd.pinned (OpenSpec.ofChange labelFormsSpec)

/-- ITS FALSE NEIGHBOUR: 'it returns false'. Refute it at one input. -/
def labelFormsWrong : ChangeSpec := { name := "labelForms", fn := fun _ => fun
  | [d1, d2] => { results := [.lit (.bool false)], args := [d1, d2] }
  | _ => none }
def LabelFormsWrongFalsely : Prop := labelFormsRow.holds Tryd.pinned (OpenSpec.ofChange labelFormsWrong)

/- THE SECOND FORM. 'bulk': how many values and letters a reading holds, each counted each time it is reached (what is shared counts as often as it is met; a slice's spare places count too). A statement '..UptoSaid' is the law's where the arguments, and the package variables that the reading takes, are together of bulk at most 1048576: NARROWER than '..Said'. Prove '..Said' where nothing that the law and all that it calls make is longer than what came in: it says more and counts as full. Else prove '..UptoSaid'. A law counts once. -/
mutual
def uptoBulk {H : Type} : DataW H → Nat
  | .lit (.string bytes) => bytes.length + 1
  | .lit _ => 1
  | .nil => 1
  | .ptr d => uptoBulk d + 1
  | .slice elems spare => uptoBulkAll elems + uptoBulkAll spare + 1
  | .agg parts => uptoBulkAll parts + 1
  | .iface _ d => uptoBulk d + 1
  | .map entries => uptoBulkEntries entries + 1
  | .held _ => 1
def uptoBulkAll {H : Type} : List (DataW H) → Nat
  | [] => 0
  | d :: r => uptoBulk d + uptoBulkAll r
def uptoBulkEntries {H : Type} : List (Lit × DataW H) → Nat
  | [] => 0
  | x :: r => uptoBulkEntry x + uptoBulkEntries r
def uptoBulkEntry {H : Type} : Lit × DataW H → Nat
  | (.string bytes, d) => bytes.length + uptoBulk d + 1
  | (_, d) => uptoBulk d + 1
 end
def uptoSmall : (H : Type) → List (DataW H) → Bool := fun _ ds => decide (uptoBulkAll ds ≤ 1048576)
def OpenSpec.upto (s : _root_.Go.ChangeSpec) : _root_.Go.OpenSpec := { _root_.Go.OpenSpec.ofChange s with cond := some uptoSmall }

/-- 'billetlaw04.LabelTells', WHERE WHAT IT READS IS OF BULK AT MOST 1048576: true; the input reads as it did. -/
def labelTellsUptoRow : OpenClaim := { program := "ytfafdcdmaimghaadoor", sum := "586461856f8c3688e75bd4b084a2e6f872ac898ef11f748b8ee0159b4e8f6a52", func := "billet/billetlaw04.LabelTells", spec := "labelTells", inPlace := ["internal/bytealg.CountString", "internal/bytealg.IndexByteString", "internal/bytealg.IndexString", "internal/abi.NoEscape", "internal/bytealg.MakeNoZero"], unfollowed := true, recurses := true, named := ["unicode/utf8.first", "unicode/utf8.acceptRanges", "internal/bytealg.MaxLen"], apart := false, laid := [("unicode/utf8.acceptRanges", laid_unicode_utf8_acceptRanges), ("unicode/utf8.first", laid_unicode_utf8_first)], narrowed := true }
def LabelTellsUptoSaid : Prop := labelTellsUptoRow.holds Tryd.pinned (OpenSpec.upto labelTellsSpec)

/-- 'billetlaw04.LabelTidies', WHERE WHAT IT READS IS OF BULK AT MOST 1048576: true; the input reads as it did. -/
def labelTidiesUptoRow : OpenClaim := { program := "ytfafdcdmaimghaadoor", sum := "586461856f8c3688e75bd4b084a2e6f872ac898ef11f748b8ee0159b4e8f6a52", func := "billet/billetlaw04.LabelTidies", spec := "labelTidies", inPlace := ["internal/bytealg.CountString", "internal/bytealg.IndexByteString", "internal/bytealg.IndexString", "internal/abi.NoEscape", "internal/bytealg.MakeNoZero"], unfollowed := true, recurses := true, named := ["unicode/utf8.first", "unicode/utf8.acceptRanges", "internal/bytealg.MaxLen"], apart := false, laid := [("unicode/utf8.acceptRanges", laid_unicode_utf8_acceptRanges), ("unicode/utf8.first", laid_unicode_utf8_first)], narrowed := true }
def LabelTidiesUptoSaid : Prop := labelTidiesUptoRow.holds Tryd.pinned (OpenSpec.upto labelTidiesSpec)

/-- 'billetlaw04.LabelBoth', WHERE WHAT IT READS IS OF BULK AT MOST 1048576: true; the input reads as it did. -/
def labelBothUptoRow : OpenClaim := { program := "ytfafdcdmaimghaadoor", sum := "586461856f8c3688e75bd4b084a2e6f872ac898ef11f748b8ee0159b4e8f6a52", func := "billet/billetlaw04.LabelBoth", spec := "labelBoth", inPlace := ["internal/bytealg.CountString", "internal/bytealg.IndexByteString", "internal/bytealg.IndexString", "internal/abi.NoEscape", "internal/bytealg.MakeNoZero"], unfollowed := true, recurses := true, named := ["unicode/utf8.first", "unicode/utf8.acceptRanges", "internal/bytealg.MaxLen"], apart := false, laid := [("unicode/utf8.acceptRanges", laid_unicode_utf8_acceptRanges), ("unicode/utf8.first", laid_unicode_utf8_first)], narrowed := true }
def LabelBothUptoSaid : Prop := labelBothUptoRow.holds Tryd.pinned (OpenSpec.upto labelBothSpec)

/-- 'billetlaw04.LabelTurns', WHERE WHAT IT READS IS OF BULK AT MOST 1048576: true; the input reads as it did. -/
def labelTurnsUptoRow : OpenClaim := { program := "ytfafdcdmaimghaadoor", sum := "586461856f8c3688e75bd4b084a2e6f872ac898ef11f748b8ee0159b4e8f6a52", func := "billet/billetlaw04.LabelTurns", spec := "labelTurns", inPlace := ["internal/bytealg.CountString", "internal/bytealg.IndexByteString", "internal/bytealg.IndexString", "internal/abi.NoEscape", "internal/bytealg.MakeNoZero"], unfollowed := true, recurses := true, named := ["unicode/utf8.first", "unicode/utf8.acceptRanges", "internal/bytealg.MaxLen"], apart := false, laid := [("unicode/utf8.acceptRanges", laid_unicode_utf8_acceptRanges), ("unicode/utf8.first", laid_unicode_utf8_first)], narrowed := true }
def LabelTurnsUptoSaid : Prop := labelTurnsUptoRow.holds Tryd.pinned (OpenSpec.upto labelTurnsSpec)

/-- 'billetlaw04.LabelOwn', WHERE WHAT IT READS IS OF BULK AT MOST 1048576: true; the input reads as it did. -/
def labelOwnUptoRow : OpenClaim := { program := "ytfafdcdmaimghaadoor", sum := "586461856f8c3688e75bd4b084a2e6f872ac898ef11f748b8ee0159b4e8f6a52", func := "billet/billetlaw04.LabelOwn", spec := "labelOwn", inPlace := ["internal/bytealg.CountString", "internal/bytealg.IndexByteString", "internal/bytealg.IndexString", "internal/abi.NoEscape", "internal/bytealg.MakeNoZero"], unfollowed := true, recurses := true, named := ["unicode/utf8.first", "unicode/utf8.acceptRanges", "internal/bytealg.MaxLen"], apart := false, laid := [("unicode/utf8.acceptRanges", laid_unicode_utf8_acceptRanges), ("unicode/utf8.first", laid_unicode_utf8_first)], narrowed := true }
def LabelOwnUptoSaid : Prop := labelOwnUptoRow.holds Tryd.pinned (OpenSpec.upto labelOwnSpec)

/-- 'billetlaw04.LabelGroups', WHERE WHAT IT READS IS OF BULK AT MOST 1048576: true; the input reads as it did. -/
def labelGroupsUptoRow : OpenClaim := { program := "ytfafdcdmaimghaadoor", sum := "586461856f8c3688e75bd4b084a2e6f872ac898ef11f748b8ee0159b4e8f6a52", func := "billet/billetlaw04.LabelGroups", spec := "labelGroups", inPlace := ["internal/bytealg.CountString", "internal/bytealg.IndexByteString", "internal/bytealg.IndexString", "internal/abi.NoEscape", "internal/bytealg.MakeNoZero"], unfollowed := true, recurses := true, named := ["unicode/utf8.first", "unicode/utf8.acceptRanges", "internal/bytealg.MaxLen"], apart := false, laid := [("unicode/utf8.acceptRanges", laid_unicode_utf8_acceptRanges), ("unicode/utf8.first", laid_unicode_utf8_first)], narrowed := true }
def LabelGroupsUptoSaid : Prop := labelGroupsUptoRow.holds Tryd.pinned (OpenSpec.upto labelGroupsSpec)

/-- 'billetlaw04.LabelForms', WHERE WHAT IT READS IS OF BULK AT MOST 1048576: true; the input reads as it did. -/
def labelFormsUptoRow : OpenClaim := { program := "ytfafdcdmaimghaadoor", sum := "586461856f8c3688e75bd4b084a2e6f872ac898ef11f748b8ee0159b4e8f6a52", func := "billet/billetlaw04.LabelForms", spec := "labelForms", inPlace := ["internal/bytealg.CountString", "internal/bytealg.IndexByteString", "internal/bytealg.IndexString", "internal/abi.NoEscape", "internal/bytealg.MakeNoZero"], unfollowed := true, recurses := true, named := ["unicode/utf8.first", "unicode/utf8.acceptRanges", "internal/bytealg.MaxLen"], apart := false, laid := [("unicode/utf8.acceptRanges", laid_unicode_utf8_acceptRanges), ("unicode/utf8.first", laid_unicode_utf8_first)], narrowed := true }
def LabelFormsUptoSaid : Prop := labelFormsUptoRow.holds Tryd.pinned (OpenSpec.upto labelFormsSpec)

end Rows
end Go.Proofs.YtfafdcdmaimghaaDoor

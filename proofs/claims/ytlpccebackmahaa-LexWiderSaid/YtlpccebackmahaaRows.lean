/-
  No cell of these rows narrows 'for every input' (looked for: loops, veiled, ifaces, maps, wideKeys, modest, calm, conditions, laid).
  DERIVED. THE GIVEN ROWS OF THIS SEAT. 7 by the template 'for every input the law returns true; each argument reads behind the call as it read before'; 0 by the template 'total and deterministic' (their statements: YtlpccebackmahaaTotals.lean).
  GIVEN WITH THE SEED: the statements are not yours to turn. If you find one false, say at which input.
  Laid BY PROGRAM, IN A SANDBOX (cutbox-rows.mjs): the forced cells as the released guide's own fill.sh prints them over the translation d428f0f2cd4eaa60… (all of the seat's roots in one cut). By AI agents, Wed Nov 11 2026. No macro, syntax, notation, axiom, sorry.
-/
import Derived.Test.YtlpccebackmahaaChecked
import GoSem.Claim
import GoSem.ClaimJoined
import GoSem.ClaimMapViews
import Derived.JoinedTies
import Derived.KernelRfl
namespace Go.Proofs.Ytlpccebackmahaa
/- THE CELL 'sum', in the pinned program and in every row, IS THE sha256 OF THE DUMP (.gsa) THAT YtlpccebackmahaaProg.lean LOADS. Nothing in Lean hashes anything: it is a label: what it is worth is what the hold of that sum in a sandbox is worth. -/
noncomputable def Try.pinned : Pinned := { name := "ytlpccebackmahaa", sum := "d428f0f2cd4eaa609f056115946c1649c11cc9ccc6f98b05aaabfedf631fd953", checked := Try.checked }
namespace Rows
def none {H : Type} : Left H := { results := [], args := [] }

/-- 'billetlaw07.LexTells': WHATEVER THE INPUT: true; the input reads as it did. -/
def lexTellsSpec : ChangeSpec := { name := "lexTells", fn := fun _ => fun
  | [d1, d2, d3, d4, d5] => { results := [.lit (.bool true)], args := [d1, d2, d3, d4, d5] }
  | _ => none }
def lexTellsRow : OpenClaim := { program := "ytlpccebackmahaa", sum := "d428f0f2cd4eaa609f056115946c1649c11cc9ccc6f98b05aaabfedf631fd953", func := "billet/billetlaw07.LexTells", spec := "lexTells", unfollowed := true, recurses := true, apart := false }
def LexTellsSaid : Prop := lexTellsRow.holds Try.pinned (OpenSpec.ofChange lexTellsSpec)

/-- ITS FALSE NEIGHBOUR: 'it returns false'. Refute it at one input. -/
def lexTellsWrong : ChangeSpec := { name := "lexTells", fn := fun _ => fun
  | [d1, d2, d3, d4, d5] => { results := [.lit (.bool false)], args := [d1, d2, d3, d4, d5] }
  | _ => none }
def LexTellsWrongFalsely : Prop := lexTellsRow.holds Try.pinned (OpenSpec.ofChange lexTellsWrong)

/-- 'billetlaw07.LexFills': WHATEVER THE INPUT: true; the input reads as it did. -/
def lexFillsSpec : ChangeSpec := { name := "lexFills", fn := fun _ => fun
  | [d1, d2, d3] => { results := [.lit (.bool true)], args := [d1, d2, d3] }
  | _ => none }
def lexFillsRow : OpenClaim := { program := "ytlpccebackmahaa", sum := "d428f0f2cd4eaa609f056115946c1649c11cc9ccc6f98b05aaabfedf631fd953", func := "billet/billetlaw07.LexFills", spec := "lexFills", unfollowed := true, recurses := true, apart := false }
def LexFillsSaid : Prop := lexFillsRow.holds Try.pinned (OpenSpec.ofChange lexFillsSpec)

/-- ITS FALSE NEIGHBOUR: 'it returns false'. Refute it at one input. -/
def lexFillsWrong : ChangeSpec := { name := "lexFills", fn := fun _ => fun
  | [d1, d2, d3] => { results := [.lit (.bool false)], args := [d1, d2, d3] }
  | _ => none }
def LexFillsWrongFalsely : Prop := lexFillsRow.holds Try.pinned (OpenSpec.ofChange lexFillsWrong)

/-- 'billetlaw07.LexGreatest': WHATEVER THE INPUT: true; the input reads as it did. -/
def lexGreatestSpec : ChangeSpec := { name := "lexGreatest", fn := fun _ => fun
  | [d1, d2, d3] => { results := [.lit (.bool true)], args := [d1, d2, d3] }
  | _ => none }
def lexGreatestRow : OpenClaim := { program := "ytlpccebackmahaa", sum := "d428f0f2cd4eaa609f056115946c1649c11cc9ccc6f98b05aaabfedf631fd953", func := "billet/billetlaw07.LexGreatest", spec := "lexGreatest", unfollowed := true, recurses := true, apart := false }
def LexGreatestSaid : Prop := lexGreatestRow.holds Try.pinned (OpenSpec.ofChange lexGreatestSpec)

/-- ITS FALSE NEIGHBOUR: 'it returns false'. Refute it at one input. -/
def lexGreatestWrong : ChangeSpec := { name := "lexGreatest", fn := fun _ => fun
  | [d1, d2, d3] => { results := [.lit (.bool false)], args := [d1, d2, d3] }
  | _ => none }
def LexGreatestWrongFalsely : Prop := lexGreatestRow.holds Try.pinned (OpenSpec.ofChange lexGreatestWrong)

/-- 'billetlaw07.LexStays': WHATEVER THE INPUT: true; the input reads as it did. -/
def lexStaysSpec : ChangeSpec := { name := "lexStays", fn := fun _ => fun
  | [d1, d2, d3] => { results := [.lit (.bool true)], args := [d1, d2, d3] }
  | _ => none }
def lexStaysRow : OpenClaim := { program := "ytlpccebackmahaa", sum := "d428f0f2cd4eaa609f056115946c1649c11cc9ccc6f98b05aaabfedf631fd953", func := "billet/billetlaw07.LexStays", spec := "lexStays", unfollowed := true, recurses := true, apart := false }
def LexStaysSaid : Prop := lexStaysRow.holds Try.pinned (OpenSpec.ofChange lexStaysSpec)

/-- ITS FALSE NEIGHBOUR: 'it returns false'. Refute it at one input. -/
def lexStaysWrong : ChangeSpec := { name := "lexStays", fn := fun _ => fun
  | [d1, d2, d3] => { results := [.lit (.bool false)], args := [d1, d2, d3] }
  | _ => none }
def LexStaysWrongFalsely : Prop := lexStaysRow.holds Try.pinned (OpenSpec.ofChange lexStaysWrong)

/-- 'billetlaw07.LexFirst': WHATEVER THE INPUT: true; the input reads as it did. -/
def lexFirstSpec : ChangeSpec := { name := "lexFirst", fn := fun _ => fun
  | [d1, d2] => { results := [.lit (.bool true)], args := [d1, d2] }
  | _ => none }
def lexFirstRow : OpenClaim := { program := "ytlpccebackmahaa", sum := "d428f0f2cd4eaa609f056115946c1649c11cc9ccc6f98b05aaabfedf631fd953", func := "billet/billetlaw07.LexFirst", spec := "lexFirst", unfollowed := true, recurses := true, apart := false }
def LexFirstSaid : Prop := lexFirstRow.holds Try.pinned (OpenSpec.ofChange lexFirstSpec)

/-- ITS FALSE NEIGHBOUR: 'it returns false'. Refute it at one input. -/
def lexFirstWrong : ChangeSpec := { name := "lexFirst", fn := fun _ => fun
  | [d1, d2] => { results := [.lit (.bool false)], args := [d1, d2] }
  | _ => none }
def LexFirstWrongFalsely : Prop := lexFirstRow.holds Try.pinned (OpenSpec.ofChange lexFirstWrong)

/-- 'billetlaw07.LexTotal': WHATEVER THE INPUT: true; the input reads as it did. -/
def lexTotalSpec : ChangeSpec := { name := "lexTotal", fn := fun _ => fun
  | [d1, d2, d3, d4] => { results := [.lit (.bool true)], args := [d1, d2, d3, d4] }
  | _ => none }
def lexTotalRow : OpenClaim := { program := "ytlpccebackmahaa", sum := "d428f0f2cd4eaa609f056115946c1649c11cc9ccc6f98b05aaabfedf631fd953", func := "billet/billetlaw07.LexTotal", spec := "lexTotal", unfollowed := true, recurses := true, apart := false }
def LexTotalSaid : Prop := lexTotalRow.holds Try.pinned (OpenSpec.ofChange lexTotalSpec)

/-- ITS FALSE NEIGHBOUR: 'it returns false'. Refute it at one input. -/
def lexTotalWrong : ChangeSpec := { name := "lexTotal", fn := fun _ => fun
  | [d1, d2, d3, d4] => { results := [.lit (.bool false)], args := [d1, d2, d3, d4] }
  | _ => none }
def LexTotalWrongFalsely : Prop := lexTotalRow.holds Try.pinned (OpenSpec.ofChange lexTotalWrong)

/-- 'billetlaw07.LexWider': WHATEVER THE INPUT: true; the input reads as it did. -/
def lexWiderSpec : ChangeSpec := { name := "lexWider", fn := fun _ => fun
  | [d1, d2, d3] => { results := [.lit (.bool true)], args := [d1, d2, d3] }
  | _ => none }
def lexWiderRow : OpenClaim := { program := "ytlpccebackmahaa", sum := "d428f0f2cd4eaa609f056115946c1649c11cc9ccc6f98b05aaabfedf631fd953", func := "billet/billetlaw07.LexWider", spec := "lexWider", unfollowed := true, recurses := true, apart := false }
def LexWiderSaid : Prop := lexWiderRow.holds Try.pinned (OpenSpec.ofChange lexWiderSpec)

/-- ITS FALSE NEIGHBOUR: 'it returns false'. Refute it at one input. -/
def lexWiderWrong : ChangeSpec := { name := "lexWider", fn := fun _ => fun
  | [d1, d2, d3] => { results := [.lit (.bool false)], args := [d1, d2, d3] }
  | _ => none }
def LexWiderWrongFalsely : Prop := lexWiderRow.holds Try.pinned (OpenSpec.ofChange lexWiderWrong)

/- THE SECOND FORM. 'bulk': how many values and letters a reading holds, each counted each time it is reached (what is shared counts as often as it is met; a slice's spare places count too). A statement '..UptoSaid' is the law's where the arguments, and the package variables that the reading takes, are together of bulk at most 1048576: NARROWER than '..Said'. Prove '..Said' where nothing that the law and all that it calls make is longer than what came in: it says more and counts as full. Else prove '..UptoSaid'. A law counts once. -/
mutual
def uptoBulk {H : Type} : DataW H → Nat
  | .lit (.string bytes) => bytes.length + 1
  | .lit _ => 1
  | .nil => 1
  | .ptr d => uptoBulk d + 1
  | .slice elems spare => uptoBulkAll elems + uptoBulkAll spare + 1
  | .agg parts => uptoBulkAll parts + 1
  | .iface _ d => uptoBulk d + 1
  | .map entries => uptoBulkEntries entries + 1
  | .held _ => 1
def uptoBulkAll {H : Type} : List (DataW H) → Nat
  | [] => 0
  | d :: r => uptoBulk d + uptoBulkAll r
def uptoBulkEntries {H : Type} : List (Lit × DataW H) → Nat
  | [] => 0
  | x :: r => uptoBulkEntry x + uptoBulkEntries r
def uptoBulkEntry {H : Type} : Lit × DataW H → Nat
  | (.string bytes, d) => bytes.length + uptoBulk d + 1
  | (_, d) => uptoBulk d + 1
 end
def uptoSmall : (H : Type) → List (DataW H) → Bool := fun _ ds => decide (uptoBulkAll ds ≤ 1048576)
def OpenSpec.upto (s : _root_.Go.ChangeSpec) : _root_.Go.OpenSpec := { _root_.Go.OpenSpec.ofChange s with cond := some uptoSmall }

/-- 'billetlaw07.LexTells', WHERE WHAT IT READS IS OF BULK AT MOST 1048576: true; the input reads as it did. -/
def lexTellsUptoRow : OpenClaim := { program := "ytlpccebackmahaa", sum := "d428f0f2cd4eaa609f056115946c1649c11cc9ccc6f98b05aaabfedf631fd953", func := "billet/billetlaw07.LexTells", spec := "lexTells", unfollowed := true, recurses := true, apart := false, narrowed := true }
def LexTellsUptoSaid : Prop := lexTellsUptoRow.holds Try.pinned (OpenSpec.upto lexTellsSpec)

/-- 'billetlaw07.LexFills', WHERE WHAT IT READS IS OF BULK AT MOST 1048576: true; the input reads as it did. -/
def lexFillsUptoRow : OpenClaim := { program := "ytlpccebackmahaa", sum := "d428f0f2cd4eaa609f056115946c1649c11cc9ccc6f98b05aaabfedf631fd953", func := "billet/billetlaw07.LexFills", spec := "lexFills", unfollowed := true, recurses := true, apart := false, narrowed := true }
def LexFillsUptoSaid : Prop := lexFillsUptoRow.holds Try.pinned (OpenSpec.upto lexFillsSpec)

/-- 'billetlaw07.LexGreatest', WHERE WHAT IT READS IS OF BULK AT MOST 1048576: true; the input reads as it did. -/
def lexGreatestUptoRow : OpenClaim := { program := "ytlpccebackmahaa", sum := "d428f0f2cd4eaa609f056115946c1649c11cc9ccc6f98b05aaabfedf631fd953", func := "billet/billetlaw07.LexGreatest", spec := "lexGreatest", unfollowed := true, recurses := true, apart := false, narrowed := true }
def LexGreatestUptoSaid : Prop := lexGreatestUptoRow.holds Try.pinned (OpenSpec.upto lexGreatestSpec)

/-- 'billetlaw07.LexStays', WHERE WHAT IT READS IS OF BULK AT MOST 1048576: true; the input reads as it did. -/
def lexStaysUptoRow : OpenClaim := { program := "ytlpccebackmahaa", sum := "d428f0f2cd4eaa609f056115946c1649c11cc9ccc6f98b05aaabfedf631fd953", func := "billet/billetlaw07.LexStays", spec := "lexStays", unfollowed := true, recurses := true, apart := false, narrowed := true }
def LexStaysUptoSaid : Prop := lexStaysUptoRow.holds Try.pinned (OpenSpec.upto lexStaysSpec)

/-- 'billetlaw07.LexFirst', WHERE WHAT IT READS IS OF BULK AT MOST 1048576: true; the input reads as it did. -/
def lexFirstUptoRow : OpenClaim := { program := "ytlpccebackmahaa", sum := "d428f0f2cd4eaa609f056115946c1649c11cc9ccc6f98b05aaabfedf631fd953", func := "billet/billetlaw07.LexFirst", spec := "lexFirst", unfollowed := true, recurses := true, apart := false, narrowed := true }
def LexFirstUptoSaid : Prop := lexFirstUptoRow.holds Try.pinned (OpenSpec.upto lexFirstSpec)

/-- 'billetlaw07.LexTotal', WHERE WHAT IT READS IS OF BULK AT MOST 1048576: true; the input reads as it did. -/
def lexTotalUptoRow : OpenClaim := { program := "ytlpccebackmahaa", sum := "d428f0f2cd4eaa609f056115946c1649c11cc9ccc6f98b05aaabfedf631fd953", func := "billet/billetlaw07.LexTotal", spec := "lexTotal", unfollowed := true, recurses := true, apart := false, narrowed := true }
def LexTotalUptoSaid : Prop := lexTotalUptoRow.holds Try.pinned (OpenSpec.upto lexTotalSpec)

/-- 'billetlaw07.LexWider', WHERE WHAT IT READS IS OF BULK AT MOST 1048576: true; the input reads as it did. -/
def lexWiderUptoRow : OpenClaim := { program := "ytlpccebackmahaa", sum := "d428f0f2cd4eaa609f056115946c1649c11cc9ccc6f98b05aaabfedf631fd953", func := "billet/billetlaw07.LexWider", spec := "lexWider", unfollowed := true, recurses := true, apart := false, narrowed := true }
def LexWiderUptoSaid : Prop := lexWiderUptoRow.holds Try.pinned (OpenSpec.upto lexWiderSpec)

end Rows
end Go.Proofs.Ytlpccebackmahaa

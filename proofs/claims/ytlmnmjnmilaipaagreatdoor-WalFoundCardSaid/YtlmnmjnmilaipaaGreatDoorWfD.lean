/- Layer 11: WalFound, of arguments as a row hands them. -/
import Derived.Test.YtlmnmjnmilaipaaGreatDoorWfB
import Derived.Test.YtlmnmjnmilaipaaGreatDoorWfC
set_option linter.unusedVariables false
namespace Go.Proofs.YtlmnmjnmilaipaaGreatDoor
open Go.ChangeShapes Go.WideShapes Go.ChangeAt Go.RowKit Go.WideMaps Go.WideElems Go.Deep

set_option maxRecDepth 100000 in
theorem walFound_walk (v0 : Value) {base base' : Nat} {sp : Nat → Bool} {held : Bool} {H : Type} {enc : TypeId × Value → H} {W : World} {d : DataW H} {p : List MemPlace} (hval : Value.okWide Tryz.prog W .any base 38 v0) (h : DataW.Trod enc Tryz.prog W base' sp held 38 v0 d p)
    (v1 : Value) {base2 base2' : Nat} {sp2 : Nat → Bool} {held2 : Bool} {d2 : DataW H} {p2 : List MemPlace} (hval2 : Value.okWide Tryz.prog W .any base2 38 v1) (h2 : DataW.Trod enc Tryz.prog W base2' sp2 held2 38 v1 d2 p2)
    (a2 : ByteArray) (w2 : a2.size ≤ maxLen) (a3 : ByteArray) (w3 : a3.size ≤ maxLen) (a4 : Bool) (hT : ErrTab W) :
    Calls Tryz.prog 5 #[v0, v1, .string a2, .string a3, .bool a4] W fun e w' => e = .returned (.bool true) ∧ Below W.heap.size W w' := by
  obtain ⟨A, c, xs, rfl, hx⟩ := Rk.open_readsE hval h
  obtain ⟨B, k, ys, rfl, hy⟩ := Rk.open_readsE hval2 h2
  cases a4
  · exact Rk.walFound_row0 A B c k xs ys a2 a3 W hx hy w2 w3 hT
  · exact Rk.walFound_row1 A B c k xs ys a2 a3 W hx hy w2 w3 hT
end Go.Proofs.YtlmnmjnmilaipaaGreatDoor

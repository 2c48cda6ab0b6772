/- Layer 11: WalLasts, of arguments as a row hands them. -/
import Derived.Test.YtlmnmjnmilaipaaGreatDoorWalLw
set_option linter.unusedVariables false
namespace Go.Proofs.YtlmnmjnmilaipaaGreatDoor
open Go.ChangeShapes Go.WideShapes Go.ChangeAt Go.RowKit Go.WideMaps Go.WideElems Go.Deep

set_option maxRecDepth 100000 in
theorem walLasts_walk (v0 : Value) {base base' : Nat} {sp : Nat → Bool} {held : Bool} {H : Type} {enc : TypeId × Value → H} {W : World} {d : DataW H} {p : List MemPlace} (hval : Value.okWide Tryz.prog W .any base 49 v0) (h : DataW.Trod enc Tryz.prog W base' sp held 49 v0 d p)
    (v1 : Value) {base2 base2' : Nat} {sp2 : Nat → Bool} {held2 : Bool} {d2 : DataW H} {p2 : List MemPlace} (hval2 : Value.okWide Tryz.prog W .any base2 50 v1) (h2 : DataW.Trod enc Tryz.prog W base2' sp2 held2 50 v1 d2 p2)
    (hT : ErrTab W) :
    Calls Tryz.prog 7 #[v0, v1] W fun e w' => e = .returned (.bool true) ∧ Below W.heap.size W w' := by
  obtain ⟨A, c, xs, rfl, hx⟩ := open_readsA hval h
  obtain ⟨cA, cc, cuts, rfl, hc⟩ := open_readsI Tryz.underlying50 Tryz.underlying3 (by kernel_rfl) hval2 h2
  exact walLasts_row A cA c cc xs cuts W hx hc hT
end Go.Proofs.YtlmnmjnmilaipaaGreatDoor

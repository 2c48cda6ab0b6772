/- Layer 7: LexTells, for whatever came in. -/
import Derived.Test.YtlpccebackmahaaLexTl
set_option linter.unusedVariables false
set_option linter.unusedSimpArgs false
namespace Go.Proofs.Ytlpccebackmahaa
open Go.ChangeShapes Go.WideShapes Go.ChangeAt Go.RowKit Go.WideMaps Go.WideElems Go.Deep

set_option maxRecDepth 100000 in
theorem lexTells_walk {H : Type} {enc : TypeId × Value → H} {W : World} {base base' : Nat} {sp : Nat → Bool} {held : Bool} {d0 d3 d4 : DataW H} {p0 p3 p4 : List MemPlace}
    (v0 : Value) (hv0 : Value.okWide Try.prog W .any base 24 v0) (h0 : DataW.Trod enc Try.prog W base' sp held 24 v0 d0 p0) (s : Int) (ws : (Lit.int .i64 s).wf = true) (t : Int) (wt : (Lit.int .i64 t).wf = true)
    (v3 : Value) (hv3 : Value.okWide Try.prog W .any base 25 v3) (h3 : DataW.Trod enc Try.prog W base' sp held 25 v3 d3 p3)
    (v4 : Value) (hv4 : Value.okWide Try.prog W .any base 26 v4) (h4 : DataW.Trod enc Try.prog W base' sp held 26 v4 d4 p4) :
    Calls Try.prog 3 #[v0, .int .i64 s, .int .i64 t, v3, v4] W fun e w' => e = .returned (.bool true) ∧ Below W.heap.size W w' := by
  obtain ⟨N, A, c, E, rfl, hE, hc, hA, hN, hEb⟩ := open_netV hv0 h0
  obtain ⟨B, d, order, rfl, hO, hd, _⟩ := open_intsV hv3 h3
  obtain ⟨C, cw, ls, rfl, hW⟩ := open_wwsV hv4 h4
  exact (lexTells_any N s t A B C c d cw E order ls W hE hO hW hA hd).mono fun e w' ⟨h1, h2⟩ => ⟨h1, h2.below (Nat.le_refl _) (fun _ _ x => x)⟩
end Go.Proofs.Ytlpccebackmahaa

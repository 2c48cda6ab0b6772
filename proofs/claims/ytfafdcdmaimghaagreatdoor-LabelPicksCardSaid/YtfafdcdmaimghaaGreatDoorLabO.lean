/- Layer 4: rows of raw ints that came in, opened. -/
import Derived.Test.YtfafdcdmaimghaaGreatDoorRfO
import Derived.Shelf.Vars
import Derived.ProofKit
import Derived.OpenShut
import Derived.ChangeSlices
import Derived.Deep.Slices
set_option linter.unusedVariables false
namespace Go.Proofs.YtfafdcdmaimghaaGreatDoor
open Go.ChangeShapes Go.WideShapes Go.ChangeAt Go.RowKit Go.WideMaps Go.WideElems Go.Deep Go.Proofs.YtfafdcdmaimghaaGreatDoorW.PrintWords

def i64s (xs : List Int) : Prop := ∀ x ∈ xs, -9223372036854775808 ≤ x ∧ x ≤ 9223372036854775807
section
variable {H : Type} {enc : TypeId × Value → H} {P : Program} {W : World} {v : Value} {d : DataW H} {p : List MemPlace} {base base' : Nat} {sp : Nat → Bool} {held : Bool}
theorem open_raw {t e : TypeId} (ht : P.underlying t = some (.slice e)) (he : P.underlying e = some (.int .i64)) (hc : P.cellsOf e = 1) (hval : Value.okWide P W .any base t v) (h : DataW.Trod enc P W base' sp held t v d p) :
    ∃ A c xs, v = .slice A xs.length c ∧ xs.length ≤ c ∧ Kd.C (Kd.int .i64) W A xs.length xs ∧ i64s xs ∧ c ≤ maxLen := by
  obtain ⟨a0, len0, cap0, rfl⟩ := okWide_slice ht hval
  obtain ⟨fuel, hf⟩ := h
  rcases open_ints ht he hc hf with ⟨hcs, _⟩ | ⟨a, len, cap, ss, hcs, _, hl, hm, hz, _, hcell, hws⟩
  · simp [Value.cells] at hcs
    obtain ⟨rfl, rfl, rfl⟩ := hcs
    exact ⟨none, 0, [], rfl, Nat.le_refl _, Kd.C_nil _ _, (fun x hx => by cases hx), Nat.zero_le _⟩
  · simp [Value.cells] at hcs
    obtain ⟨rfl, rfl, rfl⟩ := hcs
    have hss : len0 ≤ ss.length := by rw [hz]; split <;> omega
    have hlen : (ss.take len0).length = len0 := by simp; omega
    refine ⟨some a, cap0, ss.take len0, by rw [hlen], by rw [hlen]; exact hl, ?_, fun x hx => bounds_i64 (hws x (List.mem_of_mem_take hx)), hm⟩
    rw [hlen]
    refine Kd.C_of_reads (d := (0 : Int)) ⟨hlen, Nat.le_trans hl (Nat.le_trans hm (by decide)), fun hn => ⟨a, rfl, fun j hj => ?_⟩⟩
    have h1 := hcell j (by omega)
    rw [h1]
    simp [List.getD_eq_getElem?_getD, hj]
end
theorem maxlen_of_shaped {W : World} (h : W.ShapedOpen Tryz.prog) : ∃ m, W.cell? ⟨0, 0, none⟩ = some (.int .i64 m) :=
  cell_of_shapedOpen_int (zero := #[.int .i64 0]) (t := 3) h (of_decide_eq_true (by kernel_rfl)) (by kernel_rfl) rfl (by kernel_rfl) (by kernel_rfl) Tryz.underlying3
end Go.Proofs.YtfafdcdmaimghaaGreatDoor

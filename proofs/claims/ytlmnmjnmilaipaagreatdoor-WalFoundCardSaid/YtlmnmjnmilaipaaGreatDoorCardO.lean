/- Cards of layer 11: what the row's condition on errors.errorType gives a walk; a world that meets it. -/
import Derived.Test.YtlmnmjnmilaipaaGreatDoorRows
import Derived.Test.YtlmnmjnmilaipaaGreatDoorWalBA
import Derived.Deep.DeepHandedRow
import Derived.LaidHandle
import Derived.LaidLaws
set_option linter.unusedVariables false
namespace Go.Proofs.YtlmnmjnmilaipaaGreatDoor
open Go Go.RowKit

theorem h_et : Tryz.prog.globalNamed "errors.errorType" = some 0 := by kernel_rfl
theorem h_rt : (Tryz.prog.cutTypes.find? (·.1 == "internal/reflectlite.rtype")).map (·.2) = some 160 := by kernel_rfl
theorem h_row : ((List.range 234).filter fun t => Tryz.prog.rowNamed t [101, 114, 114, 111, 114]) = [65] := by kernel_rfl
theorem h_size : Tryz.prog.types.size = 234 := by kernel_rfl
theorem tab_of_laid {W : World} (h : laidMetH Tryz.prog [("errors.errorType", Rows.laid_errors_errorType)] W) : ErrTab W := by
  have h' : laidMet Tryz.prog [] W ∧ handlesMet Tryz.prog [("errors.errorType", Rows.laid_errors_errorType)] W := h
  obtain ⟨name, u, ty, e1, e2, e3, e4, e5⟩ := h'.2 _ (List.mem_singleton.2 rfl)
  have en : name = [101, 114, 114, 111, 114] := (Option.some.inj e1).symm
  subst en
  obtain rfl := Option.some.inj (h_rt.symm.trans e2)
  have hm : ty ∈ (List.range 234).filter fun t => Tryz.prog.rowNamed t [101, 114, 114, 111, 114] := List.mem_filter.2 ⟨List.mem_range.2 (by rw [← h_size]; exact e3), e4⟩
  rw [h_row] at hm
  obtain rfl := List.mem_singleton.1 hm
  have hh : typeHandle Tryz.prog 65 = .pointer (some ⟨1, 65, none⟩) := by kernel_rfl
  rw [hh] at e5
  unfold ErrTab
  simpa using World.var?_cell h_et e5 0
noncomputable def laidWorld (os : Os) : World :=
  let w0 := World.holding Tryz.prog os ⟨#[], #[], []⟩
  { w0 with heap := w0.heap.modify 0 fun
      | .cells _ t frozen => .cells #[.iface 160 (.agg #[.pointer (some ⟨1, 65, none⟩)])] t frozen
      | o => o }
theorem laidWorld_met (os : Os) (args : Array Value) : laidMetH Tryz.prog [("errors.errorType", Rows.laid_errors_errorType)] ((laidWorld os).forCall (fun _ _ => 0) ⟨#[], args, []⟩).memory :=
  laidMetH_of_parts (laidMet_nil _ _) (by kernel_rfl)
end Go.Proofs.YtlmnmjnmilaipaaGreatDoor

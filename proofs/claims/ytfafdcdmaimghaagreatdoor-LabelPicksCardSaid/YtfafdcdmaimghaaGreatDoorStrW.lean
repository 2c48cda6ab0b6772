/- Texts held against each other: '<=' and '>' as the print spells them. -/
import Derived.Laws.Strings
import Derived.Sort.Walk0
set_option linter.unusedVariables false
set_option linter.unusedSimpArgs false
namespace Go.Proofs.YtfafdcdmaimghaaGreatDoor
open Go

theorem less_or_eq : ∀ x y : List UInt8, (Op.bytesLess x y || x == y) = !Op.bytesLess y x
  | [], [] => rfl
  | [], b :: y => by simp [Op.bytesLess]
  | a :: x, [] => by simp [Op.bytesLess]
  | a :: x, b :: y => by
    have ih := less_or_eq x y
    unfold Op.bytesLess
    rcases Nat.lt_trichotomy a.toNat b.toNat with h | h | h
    · have h1 : a < b := h
      have h2 : ¬ b < a := fun e => Nat.lt_asymm h e
      have h3 : ¬ a = b := fun e => by subst e; exact Nat.lt_irrefl _ h
      have h4 : ¬ b = a := fun e => h3 e.symm
      simp [h1, h2, h3, h4]
    · have h3 : a = b := UInt8.toNat_inj.1 h
      subst h3
      have h1 : ¬ a < a := fun e => Nat.lt_irrefl _ e
      simp only [h1, decide_false, Bool.false_or, beq_self_eq_true, Bool.true_and, List.cons_beq_cons]
      exact ih
    · have h1 : b < a := h
      have h2 : ¬ a < b := fun e => Nat.lt_asymm h e
      have h3 : ¬ a = b := fun e => by subst e; exact Nat.lt_irrefl _ h
      simp [h1, h2, h3]
theorem leq_flip (t : TypeId) (a b : ByteArray) : binOp .leq t (.string a) (.string b) = pure (.bool !(Op.bytesLess b.toList a.toList)) := by rw [← less_or_eq]; simp [binOp, Op.stringOp]
theorem gtr_flip (t : TypeId) (a b : ByteArray) : binOp .gtr t (.string a) (.string b) = pure (.bool (Op.bytesLess b.toList a.toList)) := by rw [← Bool.not_not (Op.bytesLess b.toList a.toList), ← less_or_eq]; simp [binOp, Op.stringOp]
theorem geq_as (t : TypeId) (a b : ByteArray) : binOp .geq t (.string a) (.string b) = pure (.bool !(Op.bytesLess a.toList b.toList)) := by simp [binOp, Op.stringOp]
end Go.Proofs.YtfafdcdmaimghaaGreatDoor

/- What flows through each source, by least cuts alone. -/
import Derived.Test.YtlpccebackmahaaFlowJ
set_option linter.unusedVariables false
set_option linter.unusedSimpArgs false
namespace Go.Proofs.Ytlpccebackmahaa

theorem lsum_pick (n a : Nat) (h : a < n) (g : Nat → Int) : lsum (List.range n) (fun i => if i = a then g i else 0) = g a := by
  induction n with
  | zero => omega
  | succ n ih =>
    rw [List.range_succ, lsum_append]
    by_cases e : n = a
    · subst e
      have : lsum (List.range n) (fun i => if i = n then g i else 0) = 0 := lsum_zero fun i hi => by
        have := List.mem_range.1 hi
        rw [if_neg (by omega)]
      rw [this]
      simp
    · rw [ih (by omega)]
      simp [e]
theorem partA_sum {E : List Ed} {s : Int} {fl : List Int} : ∀ (A : List Nat), A.Nodup → (∀ i ∈ A, i < E.length ∧ (E.getD i default).f = s) → partA E s A fl = lsum A (fun i => fl.getD i 0)
  | [], hn, hA => lsum_zero fun i _ => by simp
  | a :: A, hn, hA => by
    rw [List.nodup_cons] at hn
    have ih := partA_sum A hn.2 (fun i hi => hA i (List.mem_cons_of_mem _ hi)) (fl := fl)
    obtain ⟨ha, hf⟩ := hA a List.mem_cons_self
    rw [lsum_cons, ← ih, ← lsum_pick E.length a ha (fun i => fl.getD i 0)]
    unfold partA
    rw [← lsum_add]
    refine lsum_congr fun i _ => ?_
    by_cases e : i = a
    · subst e
      have h1 : i ∈ i :: A := List.mem_cons_self
      rw [if_pos ⟨hf, h1⟩, if_pos rfl, if_neg (fun h => hn.1 h.2)]
      omega
    · by_cases e2 : (E.getD i default).f = s ∧ i ∈ A
      · rw [if_pos ⟨e2.1, List.mem_cons_of_mem _ e2.2⟩, if_neg e, if_pos e2]
        omega
      · rw [if_neg (fun h => e2 ⟨h.1, (List.mem_cons.1 h.2).resolve_left e⟩), if_neg e, if_neg e2]
        rfl
/-- A least cut of the network in which sources of A alone are open. -/
structure Least (E : List Ed) (s t : Int) (A : List Nat) (m : Int) : Prop where
  some : ∃ S : Int → Bool, S s = true ∧ S t = false ∧ m = cutA E s A S
  all : ∀ S : Int → Bool, S s = true → S t = false → m ≤ cutA E s A S
theorem Least.uniq {E : List Ed} {s t : Int} {A : List Nat} {m m' : Int} (h : Least E s t A m) (h' : Least E s t A m') : m = m' := by
  obtain ⟨S, a, b, c⟩ := h.some
  obtain ⟨S', a', b', c'⟩ := h'.some
  have h1 := h.all S' a' b'
  have h2 := h'.all S a b
  omega
theorem cutA_congr {E : List Ed} {s : Int} {A B : List Nat} (h : ∀ i, i < E.length → (E.getD i default).f = s → (i ∈ A ↔ i ∈ B)) (S : Int → Bool) : cutA E s A S = cutA E s B S := by
  unfold cutA
  refine lsum_congr fun i hi => ?_
  have hi := List.mem_range.1 hi
  by_cases e : (E.getD i default).f = s
  · have := h i hi e
    simp [e, this]
  · have e1 : ¬ ((E.getD i default).f = s ∧ i ∉ A) := fun h => e h.1
    have e2 : ¬ ((E.getD i default).f = s ∧ i ∉ B) := fun h => e h.1
    rw [if_neg e1, if_neg e2]
theorem FInv.least {N : Nat} {E : List Ed} {s t : Int} {order : List Nat} {i : Nat} {fl : List Int} (T : LexT N E s t order) (h : FInv N E s t order i fl) (j : Nat) (hj : j ≤ i) : Least E s t (order.take j) (partA E s (order.take j) fl) :=
  ⟨h.most j hj, fun S h1 h2 => part_le T.ends T.sv (h.ok.full (fun i hi => (T.caps i hi).1)) h.noIn _ S h1 h2⟩
/-- The sum of what the first j sources have. -/
theorem FInv.sum {N : Nat} {E : List Ed} {s t : Int} {order : List Nat} {i : Nat} {fl : List Int} (T : LexT N E s t order) (h : FInv N E s t order i fl) (j : Nat) (hj : j ≤ i) : Least E s t (order.take j) (lsum (order.take j) (fun k => fl.getD k 0)) := by
  have := h.least T j hj
  rwa [partA_sum _ (List.Nodup.sublist (List.take_sublist j order) T.nodup) (fun i hi => T.src i (List.mem_of_mem_take hi))] at this
end Go.Proofs.Ytlpccebackmahaa

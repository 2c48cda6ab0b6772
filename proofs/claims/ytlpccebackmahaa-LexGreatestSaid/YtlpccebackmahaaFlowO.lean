/- A source with a greater Cap. -/
import Derived.Test.YtlpccebackmahaaFlowL
set_option linter.unusedVariables false
set_option linter.unusedSimpArgs false
namespace Go.Proofs.Ytlpccebackmahaa

theorem wider {N : Nat} {E F : List Ed} {s t d : Int} {o : Nat} {A : List Nat} (hl : F.length = E.length) (ho : o < E.length) (hof : (E.getD o default).f = s) (hd : 0 ≤ d) (hA : ∀ i, i < E.length → (E.getD i default).f = s → i ∈ A)
    (hc : ∀ i, i < E.length → 0 ≤ (E.getD i default).c) (hF : ∀ i, i < E.length → (F.getD i default).f = (E.getD i default).f ∧ (F.getD i default).t = (E.getD i default).t ∧ (F.getD i default).c = (E.getD i default).c + (if i = o then d else 0))
    {ma mo na no : Int} (h1 : Least E s t A ma) (h2 : Least E s t [o] mo) (h3 : Least F s t A na) (h4 : Least F s t [o] no) : mo ≤ no ∧ na + mo ≤ ma + no := by
  have tE : ∀ B S, cutA F s B S = lsum (List.range E.length) (fun i => if S (E.getD i default).f = true ∧ S (E.getD i default).t = false then (if (E.getD i default).f = s ∧ i ∉ B then 0 else (E.getD i default).c + (if i = o then d else 0)) else 0) := by
    intro B S
    unfold cutA
    rw [hl]
    refine lsum_congr fun i hi => ?_
    obtain ⟨a, b, c⟩ := hF i (List.mem_range.1 hi)
    rw [a, b, c]
  obtain ⟨S, S1, S2, S3⟩ := h1.some
  obtain ⟨T, T1, T2, T3⟩ := h4.some
  have up : ∀ B X, cutA E s B X ≤ cutA F s B X := by
    intro B X
    rw [tE]
    unfold cutA
    refine lsum_le fun i hi => ?_
    split
    · split
      · exact Int.le_refl _
      · split <;> omega
    · exact Int.le_refl _
  have hmo : mo ≤ no := Int.le_trans (h2.all T T1 T2) (by rw [T3]; exact up _ _)
  refine ⟨hmo, ?_⟩
  by_cases hS : S (E.getD o default).t = true
  · have : cutA F s A S = cutA E s A S := by
      rw [tE]
      unfold cutA
      refine lsum_congr fun i hi => ?_
      by_cases e : i = o
      · subst e
        rw [if_neg (fun h => by rw [hS] at h; exact absurd h.2 (by simp)), if_neg (fun h => by rw [hS] at h; exact absurd h.2 (by simp))]
      · simp [e]
    have := h3.all S S1 S2
    omega
  · have hS' : S (E.getD o default).t = false := by simpa using hS
    have bump : ∀ B X, cutA F s B X ≤ cutA E s B X + d := by
      intro B X
      have h5 : lsum (List.range E.length) (fun i => if i = o then d else 0) = d := lsum_pick E.length o ho (fun _ => d)
      rw [tE]
      unfold cutA
      have h6 : d = lsum (List.range E.length) (fun i => if i = o then d else 0) := h5.symm
      refine Int.le_trans (lsum_le (h := fun i => (if X (E.getD i default).f = true ∧ X (E.getD i default).t = false then (if (E.getD i default).f = s ∧ i ∉ B then 0 else (E.getD i default).c) else 0) + (if i = o then d else 0)) fun i hi => ?_) ?_
      · by_cases e1 : X (E.getD i default).f = true ∧ X (E.getD i default).t = false
        · rw [if_pos e1, if_pos e1]
          split <;> split <;> omega
        · rw [if_neg e1, if_neg e1]
          split <;> omega
      · rw [lsum_add, h5]
        exact Int.le_refl _
    by_cases hT : T (E.getD o default).t = true
    · have k1 := h3.all (fun v => S v || T v) (by simp [S1]) (by simp [S2, T2])
      have k2 := h2.all (fun v => S v && T v) (by simp [S1, T1]) (by simp [S2])
      have key : cutA F s A (fun v => S v || T v) + cutA E s [o] (fun v => S v && T v) ≤ cutA E s A S + cutA F s [o] T := by
        rw [tE, tE]
        unfold cutA
        rw [← lsum_add, ← lsum_add]
        refine lsum_le fun i hi => ?_
        have hi := List.mem_range.1 hi
        have c0 := hc i hi
        simp only
        generalize (E.getD i default).c = cc at c0 ⊢
        by_cases e : i = o
        · subst e
          have := hA i hi hof
          simp only [hof, hS', hT, S1, T1, this, Bool.or_true, Bool.and_true, Bool.true_and, Bool.false_and, Bool.and_false, Bool.or_false, Bool.false_or, List.mem_singleton, not_true_eq_false, and_false, false_and, if_true, if_false, and_self, Bool.true_eq_false, Bool.false_eq_true]
          omega
        · by_cases ef : (E.getD i default).f = s
          · have := hA i hi ef
            simp only [ef, S1, T1]
            cases x : S (E.getD i default).t <;> cases y : T (E.getD i default).t <;> simp [this, e] <;> omega
          · simp only [ef, false_and, if_false, e]
            cases x : S (E.getD i default).t <;> cases y : T (E.getD i default).t <;> cases z : S (E.getD i default).f <;> cases u : T (E.getD i default).f <;> simp <;> omega
      omega
    · have hT' : T (E.getD o default).t = false := by simpa using hT
      have h7 : cutA E s [o] T + d ≤ cutA F s [o] T := by
        have h5 : lsum (List.range E.length) (fun i => if i = o then d else 0) = d := lsum_pick E.length o ho (fun _ => d)
        rw [tE]
        unfold cutA
        refine Int.le_trans (Int.le_of_eq (by rw [← h5, ← lsum_add])) (lsum_le fun i hi => ?_)
        by_cases e : i = o
        · subst e
          rw [hof, T1, hT']
          simp
        · simp [e]
      have h8 := h2.all T T1 T2
      have h9 := h3.all S S1 S2
      have h10 := bump A S
      omega
end Go.Proofs.Ytlpccebackmahaa

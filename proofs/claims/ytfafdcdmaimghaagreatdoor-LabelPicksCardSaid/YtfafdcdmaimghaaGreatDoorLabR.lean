/- Layer 4, plainly: what is put in order, each once. -/
import Derived.Test.YtfafdcdmaimghaaGreatDoorLabQ
import Derived.Sort.LotA
set_option linter.unusedVariables false
set_option linter.unusedSimpArgs false
namespace Go.Proofs.YtfafdcdmaimghaaGreatDoor
open Go

theorem bs_lt_irrefl (a : Bs) : ¬ a < a := List.lt_irrefl a
theorem bs_lt_trans {a b c : Bs} (h1 : a < b) (h2 : b < c) : a < c := List.lt_trans h1 h2
theorem bs_le_trans {a b c : Bs} (h1 : a ≤ b) (h2 : b ≤ c) : a ≤ c := List.le_trans h1 h2
theorem bs_le_total (a b : Bs) : a ≤ b ∨ b ≤ a := List.le_total a b
theorem bs_le_antisymm {a b : Bs} (h1 : a ≤ b) (h2 : b ≤ a) : a = b := List.le_antisymm h1 h2
theorem bs_lt_of_le_ne {a b : Bs} (h1 : a ≤ b) (h2 : a ≠ b) : a < b := by
  rcases Classical.em (a < b) with h | h
  · exact h
  · exact absurd (bs_le_antisymm h1 (List.not_lt.1 h)) h2
theorem bs_lt_of_le_of_lt {a b c : Bs} (h1 : a ≤ b) (h2 : b < c) : a < c := by
  rcases Classical.em (a = b) with rfl | h
  · exact h2
  · exact bs_lt_trans (bs_lt_of_le_ne h1 h) h2
theorem sort_pairwise (l : List Bs) : (l.mergeSort fun x y => decide (x ≤ y)).Pairwise (· ≤ ·) := by
  have h := List.pairwise_mergeSort (le := fun x y : Bs => decide (x ≤ y)) (fun a b c h1 h2 => by simpa using bs_le_trans (by simpa using h1) (by simpa using h2)) (fun a b => by simpa using bs_le_total a b) l
  exact h.imp (fun h => by simpa using h)
/-- Two rising lists with the same members are one. -/
theorem rising_unique : ∀ (s t : List Bs), s.Pairwise (· < ·) → t.Pairwise (· < ·) → (∀ x, x ∈ s ↔ x ∈ t) → s = t
  | [], t, _, _, h => by
    cases t with
    | nil => rfl
    | cons b t => exact absurd ((h b).2 List.mem_cons_self) (by simp)
  | a :: s, [], _, _, h => absurd ((h a).1 List.mem_cons_self) (by simp)
  | a :: s, b :: t, hs, ht, h => by
    rw [List.pairwise_cons] at hs ht
    have hab : a = b := by
      rcases List.mem_cons.1 ((h a).1 List.mem_cons_self) with e | e
      · exact e
      · rcases List.mem_cons.1 ((h b).2 List.mem_cons_self) with e2 | e2
        · exact e2.symm
        · exact absurd (bs_lt_trans (ht.1 a e) (hs.1 b e2)) (bs_lt_irrefl b)
    subst hab
    congr 1
    refine rising_unique s t hs.2 ht.2 (fun x => ⟨fun hx => ?_, fun hx => ?_⟩)
    · rcases List.mem_cons.1 ((h x).1 (List.mem_cons_of_mem _ hx)) with e | e
      · subst e; exact absurd (hs.1 x hx) (bs_lt_irrefl x)
      · exact e
    · rcases List.mem_cons.1 ((h x).2 (List.mem_cons_of_mem _ hx)) with e | e
      · subst e; exact absurd (ht.1 x hx) (bs_lt_irrefl x)
      · exact e
theorem get!_eq (l : List Bs) (i : Nat) (hi : i < l.length) : l.toArray[i]! = l[i] := by simp [hi]
theorem compact_rising {l : List Bs} (h : l.Pairwise (· ≤ ·)) : (Lib.compact l).Pairwise (· < ·) := by
  unfold Lib.compact Lib.compactUpTo
  rw [List.pairwise_map]
  have h1 : ((List.range l.length).filter (Lib.keeps l.toArray)).Pairwise (· < ·) := (List.pairwise_lt_range).filter _
  refine List.Pairwise.imp_of_mem (fun {i j} hi hj hij => ?_) h1
  obtain ⟨hi1, hi2⟩ := List.mem_filter.1 hi
  obtain ⟨hj1, hj2⟩ := List.mem_filter.1 hj
  have hil := List.mem_range.1 hi1
  have hjl := List.mem_range.1 hj1
  have hk : j = 0 ∨ l.toArray[j]! ≠ l.toArray[j - 1]! := by simpa [Lib.keeps] using hj2
  have hne : l.toArray[j]! ≠ l.toArray[j - 1]! := by rcases hk with h0 | h0; omega; exact h0
  rw [get!_eq l j hjl, get!_eq l (j - 1) (by omega)] at hne
  rw [get!_eq l i hil, get!_eq l j hjl]
  have hp := List.pairwise_iff_getElem.1 h
  have h2 : l[j - 1] < l[j] := bs_lt_of_le_ne (hp (j - 1) j (by omega) hjl (by omega)) (fun e => hne e.symm)
  rcases Nat.lt_or_ge i (j - 1) with hlt | hge
  · exact bs_lt_of_le_of_lt (hp i (j - 1) hil (by omega) hlt) h2
  · have : i = j - 1 := by omega
    subst this
    exact h2
theorem compact_mem (l : List Bs) (x : Bs) : x ∈ Lib.compact l ↔ x ∈ l := by
  constructor
  · intro h
    unfold Lib.compact Lib.compactUpTo at h
    obtain ⟨j, hj, rfl⟩ := List.mem_map.1 h
    have hj2 : j < l.length := List.mem_range.1 (List.mem_filter.1 hj).1
    rw [get!_eq l j hj2]
    exact List.getElem_mem hj2
  · intro h
    obtain ⟨j, hj, rfl⟩ := List.getElem_of_mem h
    induction j with
    | zero =>
      unfold Lib.compact Lib.compactUpTo
      exact List.mem_map.2 ⟨0, List.mem_filter.2 ⟨List.mem_range.2 hj, by simp [Lib.keeps]⟩, get!_eq l 0 hj⟩
    | succ j ih =>
      rcases Classical.em (l[j + 1] = l[j]) with e | e
      · rw [e]; exact ih (by omega) (List.getElem_mem _)
      · unfold Lib.compact Lib.compactUpTo
        refine List.mem_map.2 ⟨j + 1, List.mem_filter.2 ⟨List.mem_range.2 hj, ?_⟩, get!_eq l (j + 1) hj⟩
        have : l.toArray[j + 1]! ≠ l.toArray[j + 1 - 1]! := by rw [get!_eq l (j + 1) hj, get!_eq l (j + 1 - 1) (by omega)]; exact e
        simp only [Lib.keeps, decide_eq_true_eq]
        exact .inr this
theorem tidyL_rising (l : List Bs) : (tidyL l).Pairwise (· < ·) := compact_rising (sort_pairwise l)
theorem tidyL_mem (l : List Bs) (x : Bs) : x ∈ tidyL l ↔ x ∈ l := by
  unfold tidyL
  rw [compact_mem, List.mem_mergeSort]
/-- In order, each once: the rising list with the same members. -/
theorem tidyL_eq {l t : List Bs} (ht : t.Pairwise (· < ·)) (hm : ∀ x, x ∈ t ↔ x ∈ l) : tidyL l = t :=
  rising_unique _ _ (tidyL_rising l) ht (fun x => (tidyL_mem l x).trans (hm x).symm)
theorem tidyL_nil : tidyL [] = [] := tidyL_eq List.Pairwise.nil (fun x => Iff.rfl)
theorem tidyL_of_rising {l : List Bs} (h : l.Pairwise (· < ·)) : tidyL l = l := tidyL_eq h (fun x => Iff.rfl)
theorem tidyL_tidyL (l : List Bs) : tidyL (tidyL l) = tidyL l := tidyL_of_rising (tidyL_rising l)
theorem tidyL_congr {l m : List Bs} (h : ∀ x, x ∈ l ↔ x ∈ m) : tidyL l = tidyL m := tidyL_eq (tidyL_rising m) (fun x => (tidyL_mem m x).trans (h x).symm)
end Go.Proofs.YtfafdcdmaimghaaGreatDoor

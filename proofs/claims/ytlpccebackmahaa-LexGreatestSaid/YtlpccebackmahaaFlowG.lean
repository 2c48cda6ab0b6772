/- Sums by index; networks in which of the sources some alone are open. -/
import Derived.Test.YtlpccebackmahaaFlowF
set_option linter.unusedVariables false
set_option linter.unusedSimpArgs false
namespace Go.Proofs.Ytlpccebackmahaa

theorem lsum_map {α β : Type} (L : List α) (f : α → β) (g : β → Int) : lsum (L.map f) g = lsum L (fun a => g (f a)) := by
  unfold lsum
  rw [List.map_map]
  rfl
theorem zip_range {E : List Ed} {fl : List Int} (hl : fl.length = E.length) : E.zip fl = (List.range E.length).map fun i => (E.getD i default, fl.getD i 0) := by
  refine List.ext_getElem? fun i => ?_
  rw [List.getElem?_map]
  by_cases hi : i < E.length
  · rw [zip_get E fl i hi hl, List.getElem?_range hi]
    rfl
  · rw [List.getElem?_eq_none (by simp; omega), List.getElem?_eq_none (by simp; omega)]
    rfl
/-- The sources of A alone are open. -/
def opn (E : List Ed) (s : Int) (A : List Nat) : List Ed := E.mapIdx fun i e => if e.f = s ∧ i ∉ A then { e with c := 0 } else e
theorem opn_length (E : List Ed) (s : Int) (A : List Nat) : (opn E s A).length = E.length := by simp [opn]
theorem opn_get (E : List Ed) (s : Int) (A : List Nat) (i : Nat) (hi : i < E.length) : (opn E s A).getD i default = if (E.getD i default).f = s ∧ i ∉ A then { E.getD i default with c := 0 } else E.getD i default := by
  unfold opn
  rw [List.getD_eq_getElem?_getD, List.getElem?_mapIdx, List.getD_eq_getElem?_getD, List.getElem?_eq_getElem hi]
  rfl
theorem opn_f (E : List Ed) (s : Int) (A : List Nat) (i : Nat) (hi : i < E.length) : ((opn E s A).getD i default).f = (E.getD i default).f := by
  rw [opn_get E s A i hi]; split <;> rfl
theorem opn_t (E : List Ed) (s : Int) (A : List Nat) (i : Nat) (hi : i < E.length) : ((opn E s A).getD i default).t = (E.getD i default).t := by
  rw [opn_get E s A i hi]; split <;> rfl
theorem opn_ends {N : Nat} {E : List Ed} (h : Ends N E) (s : Int) (A : List Nat) : Ends N (opn E s A) := by
  intro e he
  obtain ⟨i, hi, rfl⟩ := List.getElem_of_mem he
  rw [opn_length] at hi
  have e1 : (opn E s A)[i]'(by rw [opn_length]; exact hi) = (opn E s A).getD i default := by
    rw [List.getD_eq_getElem?_getD, List.getElem?_eq_getElem (by rw [opn_length]; exact hi)]; rfl
  rw [e1, opn_f E s A i hi, opn_t E s A i hi]
  exact h.at hi
theorem opn_outF {E : List Ed} {fl : List Int} (hl : fl.length = E.length) (s : Int) (A : List Nat) (v : Int) : outF ((opn E s A).zip fl) v = outF (E.zip fl) v := by
  unfold outF
  rw [zip_range (by rw [opn_length]; exact hl), zip_range hl, lsum_map, lsum_map, opn_length]
  refine lsum_congr fun i hi => ?_
  have hi := List.mem_range.1 hi
  rw [opn_f E s A i hi, opn_t E s A i hi]
/-- What flows through the sources of A. -/
def partA (E : List Ed) (s : Int) (A : List Nat) (fl : List Int) : Int := lsum (List.range E.length) fun i => if (E.getD i default).f = s ∧ i ∈ A then fl.getD i 0 else 0
/-- The cut of the network in which the sources of A alone are open. -/
def cutA (E : List Ed) (s : Int) (A : List Nat) (S : Int → Bool) : Int := lsum (List.range E.length) fun i =>
  if S (E.getD i default).f = true ∧ S (E.getD i default).t = false then (if (E.getD i default).f = s ∧ i ∉ A then 0 else (E.getD i default).c) else 0
theorem cutA_eq {E : List Ed} {fl : List Int} (hl : fl.length = E.length) (s : Int) (A : List Nat) (S : Int → Bool) : cutF ((opn E s A).zip fl) S = cutA E s A S := by
  unfold cutF cutA
  rw [zip_range (by rw [opn_length]; exact hl), lsum_map, opn_length]
  refine lsum_congr fun i hi => ?_
  have hi := List.mem_range.1 hi
  simp only
  rw [opn_f E s A i hi, opn_t E s A i hi, opn_get E s A i hi]
  by_cases e : (E.getD i default).f = s ∧ i ∉ A
  · rw [if_pos e, if_pos e]
  · rw [if_neg e, if_neg e]
theorem part_le {N : Nat} {E : List Ed} {fl : List Int} {s t : Int} (hE : Ends N E) (hs : 0 ≤ s ∧ s < N) (h : Okf N E fl s t) (hin : NoIn E fl s) (A : List Nat) (S : Int → Bool) (h1 : S s = true) (h2 : S t = false) : partA E s A fl ≤ cutA E s A S := by
  have hz := zip_range h.len
  have key := part_le_cut (N := N) (T := (List.range E.length).map fun i => ((E.getD i default, fl.getD i 0), decide (i ∈ A))) (s := s) (t := t) (by
    rw [List.map_map]
    have : (List.range E.length).map ((fun p => p.1) ∘ fun i => ((E.getD i default, fl.getD i 0), decide (i ∈ A))) = E.zip fl := by rw [hz]; rfl
    rw [this]
    exact h.good hE) hs (by
    intro p hp ht
    obtain ⟨i, hi, rfl⟩ := List.mem_map.1 hp
    exact hin i (List.mem_range.1 hi) ht) S h1 h2
  rw [lsum_map, lsum_map] at key
  have e1 : partA E s A fl = lsum (List.range E.length) (fun i => if (E.getD i default).f = s ∧ decide (i ∈ A) = true then fl.getD i 0 else 0) := by
    unfold partA
    refine lsum_congr fun i _ => ?_
    simp
  have e2 : cutA E s A S = lsum (List.range E.length) (fun i => if S (E.getD i default).f = true ∧ S (E.getD i default).t = false then (if (E.getD i default).f = s ∧ decide (i ∈ A) = false then 0 else (E.getD i default).c) else 0) := by
    unfold cutA
    refine lsum_congr fun i _ => ?_
    simp
  rw [e1, e2]
  exact key
/-- Closed sources bear nothing. -/
theorem Okf.closed {N : Nat} {E : List Ed} {fl : List Int} {s t : Int} {A : List Nat} (h : Okf N (opn E s A) fl s t) (i : Nat) (hi : i < E.length) (hf : (E.getD i default).f = s) (hA : i ∉ A) : fl.getD i 0 = 0 := by
  have := h.fit i (by rw [opn_length]; exact hi)
  rw [opn_get E s A i hi, if_pos ⟨hf, hA⟩] at this
  simp only at this
  omega
theorem Okf.full {N : Nat} {E : List Ed} {fl : List Int} {s t : Int} {A : List Nat} (h : Okf N (opn E s A) fl s t) (hc : ∀ i, i < E.length → 0 ≤ (E.getD i default).c) : Okf N E fl s t where
  len := by rw [h.len, opn_length]
  fit := by
    intro i hi
    have := h.fit i (by rw [opn_length]; exact hi)
    have hc := hc i hi
    rw [opn_get E s A i hi] at this
    by_cases e : (E.getD i default).f = s ∧ i ∉ A
    · rw [if_pos e] at this
      have h3 : fl.getD i 0 ≤ 0 := this.2
      omega
    · rw [if_neg e] at this
      exact this
  bal := by
    intro v h1 h2 h3 h4
    rw [← opn_outF (by rw [h.len, opn_length]) s A v]
    exact h.bal v h1 h2 h3 h4
/-- The value is what flows through the open sources. -/
theorem value_part {N : Nat} {E : List Ed} {fl : List Int} {s t : Int} {A : List Nat} (h : Okf N (opn E s A) fl s t) (hin : NoIn E fl s) : outF (E.zip fl) s = partA E s A fl := by
  have hl : fl.length = E.length := by rw [h.len, opn_length]
  unfold outF partA
  rw [zip_range hl, lsum_map]
  refine lsum_congr fun i hi => ?_
  have hi := List.mem_range.1 hi
  simp only
  by_cases e : (E.getD i default).t = s
  · rw [if_pos e, hin i hi e]
    simp
  · rw [if_neg e]
    by_cases e1 : (E.getD i default).f = s
    · by_cases e2 : i ∈ A
      · rw [if_pos e1, if_pos ⟨e1, e2⟩]; omega
      · rw [h.closed i hi e1 e2]; simp
    · rw [if_neg e1, if_neg (fun e2 => e1 e2.1)]; rfl
end Go.Proofs.Ytlpccebackmahaa

/- The document's own disk: its files in a list that is sorted by names. No program is named here. -/
import Derived.Test.YtekkmfclaepcgaaDiskS
import Derived.WalkLawsBesides
set_option linter.unusedVariables false
namespace Go.Proofs.Ytekkmfclaepcgaa

def nlt (a b : ByteArray) : Prop := a.data.toList < b.data.toList
instance (a b : ByteArray) : Decidable (nlt a b) := inferInstanceAs (Decidable (_ < _))
theorem nlt_irrefl (a : ByteArray) : ¬ nlt a a := List.lt_irrefl _
theorem nlt_trans {a b c : ByteArray} (h1 : nlt a b) (h2 : nlt b c) : nlt a c := List.lt_trans h1 h2
theorem nlt_tri {a b : ByteArray} (h1 : ¬ nlt a b) (h2 : a ≠ b) : nlt b a := by
  rcases List.le_iff_lt_or_eq.1 (List.not_lt.1 h1) with h | h
  · exact h
  · exact absurd (toList_data_inj h.symm) h2
theorem bytes_less : ∀ (x y : List UInt8), Op.bytesLess x y = decide (x < y)
  | x, [] => by cases x <;> simp [Op.bytesLess]
  | [], _ :: _ => by simp [Op.bytesLess]
  | a :: x, b :: y => by
    rw [Op.bytesLess, bytes_less x y, Bool.eq_iff_iff]
    simp [List.cons_lt_cons_iff]
theorem bytesLess_nlt (a b : ByteArray) : Op.bytesLess a.toList b.toList = decide (nlt a b) := by
  rw [bytes_less, ByteArray.toList_eq, ByteArray.toList_eq]
  rfl

def SortedL (l : Fl) : Prop := l.Pairwise (fun p q => nlt p.1 q.1)
theorem SortedL.nodup {l : Fl} (h : SortedL l) : (l.map (·.1)).Nodup := by
  unfold List.Nodup
  rw [List.pairwise_map]
  refine h.imp ?_
  intro a b hab e
  rw [e] at hab
  exact nlt_irrefl _ hab

/-- The list and the pairs say the same. -/
structure RefRel (l fs : Fl) : Prop where
  sorted : SortedL l
  same : ∀ k, aget l k = aget fs k
theorem pairs_nodup {m : Fl} (h : (m.map (·.1)).Nodup) : m.Nodup := List.Pairwise.of_map (·.1) (fun a b hne e => hne (by rw [e])) h
theorem mem_iff_aget {m : Fl} (h : (m.map (·.1)).Nodup) (k : ByteArray) (v : ByteArray × Nat) : (k, v) ∈ m ↔ aget m k = some v := by
  constructor
  · intro hm
    obtain ⟨i, hi, e⟩ := List.getElem_of_mem hm
    have := aget_at h (j := i) (p := (k, v)) (by rw [List.getElem?_eq_getElem hi, e])
    exact this
  · exact aget_mem'
theorem RefRel.perm {l fs : Fl} (h : RefRel l fs) (hn : (fs.map (·.1)).Nodup) : l.Perm fs := by
  refine (List.perm_ext_iff_of_nodup (pairs_nodup h.sorted.nodup) (pairs_nodup hn)).2 fun p => ?_
  obtain ⟨k, v⟩ := p
  rw [mem_iff_aget h.sorted.nodup, mem_iff_aget hn, h.same]
theorem RefRel.len {l fs : Fl} (h : RefRel l fs) (hn : (fs.map (·.1)).Nodup) : l.length = fs.length := (h.perm hn).length_eq
theorem RefRel.names {l : Fl} {D : Dk} (h : RefRel l D.files) (hn : (D.files.map (·.1)).Nodup) : l.map (·.1) = D.snames := by
  have h1 : (l.map (·.1)).Perm D.snames := ((h.perm hn).map _).trans (snames_perm D).symm
  have s1 : (l.map (·.1)).Pairwise (fun a b => a.data.toList ≤ b.data.toList) := by
    rw [List.pairwise_map]
    exact h.sorted.imp fun {a b} hab => List.le_of_lt hab
  have s2 : D.snames.Pairwise (fun a b => a.data.toList ≤ b.data.toList) := by
    unfold Dk.snames
    rw [List.pairwise_map]
    have := List.pairwise_mergeSort (le := fun (x y : List UInt8) => decide (x ≤ y)) (fun a b c h1 h2 => by simp only [decide_eq_true_eq] at *; exact List.le_trans h1 h2) (fun a b => by simp only [Bool.or_eq_true, decide_eq_true_eq]; exact List.le_total a b) (D.files.map (fun p => p.1.data.toList))
    exact this.imp fun {a b} hab => by simpa using hab
  exact List.Perm.eq_of_pairwise (fun a b _ _ h1 h2 => toList_data_inj (List.le_antisymm h1 h2)) s1 s2 h1

/-- A file put among the others. -/
def insL (k : ByteArray) (v : ByteArray × Nat) : Fl → Fl
  | [] => [(k, v)]
  | p :: l => if nlt p.1 k then p :: insL k v l else (k, v) :: adel (p :: l) k
theorem insL_mem {k : ByteArray} {v : ByteArray × Nat} {l : Fl} {p : ByteArray × (ByteArray × Nat)} (h : p ∈ insL k v l) : p = (k, v) ∨ p ∈ l := by
  induction l with
  | nil => left; simpa [insL] using h
  | cons q l ih =>
    unfold insL at h
    split at h
    · rcases List.mem_cons.1 h with rfl | h
      · right; exact List.mem_cons_self
      · rcases ih h with h | h
        · exact .inl h
        · exact .inr (List.mem_cons_of_mem _ h)
    · rcases List.mem_cons.1 h with rfl | h
      · exact .inl rfl
      · exact .inr (adel_mem h)
theorem adel_sorted {l : Fl} (h : SortedL l) (k : ByteArray) : SortedL (adel l k) := List.Pairwise.sublist (adel_sub l k) h
theorem insL_sorted {k : ByteArray} {v : ByteArray × Nat} {l : Fl} (h : SortedL l) : SortedL (insL k v l) := by
  induction l with
  | nil => simp [insL, SortedL]
  | cons p l ih =>
    obtain ⟨h1, h2⟩ := List.pairwise_cons.1 h
    unfold insL
    split
    · rename_i hlt
      refine List.pairwise_cons.2 ⟨fun q hq => ?_, ih h2⟩
      rcases insL_mem hq with rfl | hq
      · exact hlt
      · exact h1 q hq
    · rename_i hlt
      refine List.pairwise_cons.2 ⟨fun q hq => ?_, adel_sorted h k⟩
      have hq1 := adel_mem hq
      have hq2 : q.1 ≠ k := by
        unfold adel at hq
        simpa using (List.mem_filter.1 hq).2
      have hpq : q = p ∨ nlt p.1 q.1 := by
        rcases List.mem_cons.1 hq1 with rfl | hq1
        · exact .inl rfl
        · exact .inr (h1 q hq1)
      rcases hpq with rfl | hpq
      · exact nlt_tri hlt hq2
      · by_cases e : p.1 = k
        · show nlt k q.1
          rw [← e]; exact hpq
        · exact nlt_trans (nlt_tri hlt e) hpq
theorem insL_aget {k : ByteArray} {v : ByteArray × Nat} {l : Fl} (j : ByteArray) : aget (insL k v l) j = if j = k then some v else aget l j := by
  induction l with
  | nil =>
    unfold insL aget
    by_cases e : j = k
    · subst e; simp
    · rw [if_neg e, List.find?_cons_of_neg (by simpa using fun e2 => e e2.symm)]
  | cons p l ih =>
    unfold insL
    split
    · rename_i hlt
      by_cases e : p.1 = j
      · have hjk : j ≠ k := fun e2 => nlt_irrefl k (by rw [← e2]; rw [← e2] at hlt; rw [e] at hlt; exact hlt)
        rw [if_neg hjk]
        unfold aget
        rw [List.find?_cons_of_pos (by simpa using e), List.find?_cons_of_pos (by simpa using e)]
      · unfold aget at ih ⊢
        rw [List.find?_cons_of_neg (by simpa using e), List.find?_cons_of_neg (by simpa using e)]
        exact ih
    · by_cases e : j = k
      · subst e
        unfold aget
        simp
      · rw [if_neg e]
        have h1 : aget ((k, v) :: adel (p :: l) k) j = aget (adel (p :: l) k) j := by
          unfold aget
          rw [List.find?_cons_of_neg (by simpa using fun e2 => e e2.symm)]
        rw [h1, aget_adel_other _ e]
theorem RefRel.put {l fs : Fl} (h : RefRel l fs) (k : ByteArray) (v : ByteArray × Nat) : RefRel (insL k v l) (aput fs k v) := by
  refine ⟨insL_sorted h.sorted, fun j => ?_⟩
  rw [insL_aget]
  split
  · rename_i e; subst e; rw [aget_aput_same]
  · rename_i e; rw [aget_aput_other _ _ _ _ e, h.same]
theorem RefRel.del {l fs : Fl} (h : RefRel l fs) (k : ByteArray) : RefRel (adel l k) (adel fs k) := by
  refine ⟨adel_sorted h.sorted k, fun j => ?_⟩
  by_cases e : j = k
  · subst e; rw [aget_adel_same, aget_adel_same]
  · rw [aget_adel_other _ e, aget_adel_other _ e, h.same]

/-- The loop that puts a file: what there is behind each round. -/
def putStep (k : ByteArray) (v : ByteArray × Nat) (s : Fl × Bool) (p : ByteArray × (ByteArray × Nat)) : Fl × Bool :=
  let s1 := if !s.2 && !decide (nlt p.1 k) then (s.1 ++ [(k, v)], true) else s
  if p.1 = k then s1 else (s1.1 ++ [p], s1.2)
theorem putStep_true (k : ByteArray) (v : ByteArray × Nat) (l : Fl) (out : Fl) : l.foldl (putStep k v) (out, true) = (out ++ adel l k, true) := by
  induction l generalizing out with
  | nil => simp [adel]
  | cons p l ih =>
    rw [List.foldl_cons]
    unfold putStep at ih ⊢
    simp only [Bool.not_true, Bool.false_and, Bool.false_eq_true, if_false]
    by_cases e : p.1 = k
    · rw [if_pos e, ih]
      unfold adel
      rw [List.filter_cons_of_neg (by simpa using e)]
    · rw [if_neg e, ih]
      unfold adel
      rw [List.filter_cons_of_pos (by simpa using e)]
      simp
theorem putStep_all (k : ByteArray) (v : ByteArray × Nat) (l : Fl) (out : Fl) : (if (l.foldl (putStep k v) (out, false)).2 then (l.foldl (putStep k v) (out, false)).1 else (l.foldl (putStep k v) (out, false)).1 ++ [(k, v)]) = out ++ insL k v l := by
  induction l generalizing out with
  | nil => simp [insL]
  | cons p l ih =>
    rw [List.foldl_cons]
    unfold insL
    by_cases hlt : nlt p.1 k
    · have e : p.1 ≠ k := fun e => nlt_irrefl k (by rw [e] at hlt; exact hlt)
      have h1 : putStep k v (out, false) p = (out ++ [p], false) := by simp [putStep, hlt, e]
      rw [h1, ih, if_pos hlt]
      simp
    · rw [if_neg hlt]
      by_cases e : p.1 = k
      · have h1 : putStep k v (out, false) p = (out ++ [(k, v)], true) := by simp [putStep, e, nlt_irrefl]
        rw [h1, putStep_true]
        have : adel (p :: l) k = adel l k := by
          unfold adel
          rw [List.filter_cons_of_neg (by simpa using e)]
        rw [this]
        simp
      · have h1 : putStep k v (out, false) p = (out ++ [(k, v)] ++ [p], true) := by simp [putStep, hlt, e]
        rw [h1, putStep_true]
        have : adel (p :: l) k = p :: adel l k := by
          unfold adel
          rw [List.filter_cons_of_pos (by simpa using e)]
        rw [this]
        simp
end Go.Proofs.Ytekkmfclaepcgaa

/- The law's own disk: its files in a sorted list; its memory; at, Read, Arm, drop, put. -/
import Derived.Test.YtlmnmjnmilaipaaGreatDoorWalSit
import Derived.WalkLawsBesides
import Derived.OwnWalk
import Derived.Deep.LoopGhost
import Derived.BigQuiet
import Derived.Deep.QuietTactic
set_option linter.unusedVariables false
set_option linter.unusedSimpArgs false
namespace Go.Proofs.YtlmnmjnmilaipaaGreatDoor.Rk
open Go Go.RowKit PR Go.Proofs.YtlmnmjnmilaipaaGreatDoorW.PrintWords

theorem bytes_ne {a b : ByteArray} (h : a ≠ b) : (a.toList == b.toList) = false := by
  rw [beq_eq_false_iff_ne]
  exact fun e => h (toList_inj e)
def nlt (a b : ByteArray) : Prop := a.data.toList < b.data.toList
instance (a b : ByteArray) : Decidable (nlt a b) := inferInstanceAs (Decidable (_ < _))
theorem nlt_irrefl (a : ByteArray) : ¬ nlt a a := List.lt_irrefl _
theorem nlt_trans {a b c : ByteArray} (h1 : nlt a b) (h2 : nlt b c) : nlt a c := List.lt_trans h1 h2
theorem nlt_tri {a b : ByteArray} (h1 : ¬ nlt a b) (h2 : a ≠ b) : nlt b a := by
  rcases List.le_iff_lt_or_eq.1 (List.not_lt.1 h1) with h | h
  · exact h
  · exact absurd (toList_data_inj h.symm) h2
theorem bytes_less : ∀ (x y : List UInt8), Op.bytesLess x y = decide (x < y)
  | x, [] => by cases x <;> simp [Op.bytesLess]
  | [], _ :: _ => by simp [Op.bytesLess]
  | a :: x, b :: y => by
    rw [Op.bytesLess, bytes_less x y, Bool.eq_iff_iff]
    simp [List.cons_lt_cons_iff]
theorem bytesLess_nlt (a b : ByteArray) : Op.bytesLess a.toList b.toList = decide (nlt a b) := by
  rw [bytes_less, ByteArray.toList_eq, ByteArray.toList_eq]
  rfl

def SortedL (l : Fl) : Prop := l.Pairwise (fun p q => nlt p.1 q.1)
theorem SortedL.nodup {l : Fl} (h : SortedL l) : (l.map (·.1)).Nodup := by
  unfold List.Nodup
  rw [List.pairwise_map]
  refine h.imp ?_
  intro a b hab e
  rw [e] at hab
  exact nlt_irrefl _ hab

/-- The list and the pairs say the same. -/
structure RefRel (l fs : Fl) : Prop where
  sorted : SortedL l
  same : ∀ k, aget l k = aget fs k
theorem pairs_nodup {m : Fl} (h : (m.map (·.1)).Nodup) : m.Nodup := List.Pairwise.of_map (·.1) (fun a b hne e => hne (by rw [e])) h
theorem mem_iff_aget {m : Fl} (h : (m.map (·.1)).Nodup) (k : ByteArray) (v : ByteArray × Nat) : (k, v) ∈ m ↔ aget m k = some v := by
  constructor
  · intro hm
    obtain ⟨i, hi, e⟩ := List.getElem_of_mem hm
    have := aget_at h (j := i) (p := (k, v)) (by rw [List.getElem?_eq_getElem hi, e])
    exact this
  · exact aget_mem'
theorem RefRel.perm {l fs : Fl} (h : RefRel l fs) (hn : (fs.map (·.1)).Nodup) : l.Perm fs := by
  refine (List.perm_ext_iff_of_nodup (pairs_nodup h.sorted.nodup) (pairs_nodup hn)).2 fun p => ?_
  obtain ⟨k, v⟩ := p
  rw [mem_iff_aget h.sorted.nodup, mem_iff_aget hn, h.same]
theorem RefRel.len {l fs : Fl} (h : RefRel l fs) (hn : (fs.map (·.1)).Nodup) : l.length = fs.length := (h.perm hn).length_eq
theorem RefRel.names {l : Fl} {D : Dk} (h : RefRel l D.files) (hn : (D.files.map (·.1)).Nodup) : l.map (·.1) = D.snames := by
  have h1 : (l.map (·.1)).Perm D.snames := ((h.perm hn).map _).trans (snames_perm D).symm
  have s1 : (l.map (·.1)).Pairwise (fun a b => a.data.toList ≤ b.data.toList) := by
    rw [List.pairwise_map]
    exact h.sorted.imp fun {a b} hab => List.le_of_lt hab
  have s2 : D.snames.Pairwise (fun a b => a.data.toList ≤ b.data.toList) := by
    unfold Dk.snames
    rw [List.pairwise_map]
    have := List.pairwise_mergeSort (le := fun (x y : List UInt8) => decide (x ≤ y)) (fun a b c h1 h2 => by simp only [decide_eq_true_eq] at *; exact List.le_trans h1 h2) (fun a b => by simp only [Bool.or_eq_true, decide_eq_true_eq]; exact List.le_total a b) (D.files.map (fun p => p.1.data.toList))
    exact this.imp fun {a b} hab => by simpa using hab
  exact List.Perm.eq_of_pairwise (fun a b _ _ h1 h2 => toList_data_inj (List.le_antisymm h1 h2)) s1 s2 h1

/-- A file put among the others. -/
def insL (k : ByteArray) (v : ByteArray × Nat) : Fl → Fl
  | [] => [(k, v)]
  | p :: l => if nlt p.1 k then p :: insL k v l else (k, v) :: adel (p :: l) k
theorem insL_mem {k : ByteArray} {v : ByteArray × Nat} {l : Fl} {p : ByteArray × (ByteArray × Nat)} (h : p ∈ insL k v l) : p = (k, v) ∨ p ∈ l := by
  induction l with
  | nil => left; simpa [insL] using h
  | cons q l ih =>
    unfold insL at h
    split at h
    · rcases List.mem_cons.1 h with rfl | h
      · right; exact List.mem_cons_self
      · rcases ih h with h | h
        · exact .inl h
        · exact .inr (List.mem_cons_of_mem _ h)
    · rcases List.mem_cons.1 h with rfl | h
      · exact .inl rfl
      · exact .inr (adel_mem h)
theorem adel_sorted {l : Fl} (h : SortedL l) (k : ByteArray) : SortedL (adel l k) := List.Pairwise.sublist (adel_sub l k) h
theorem insL_sorted {k : ByteArray} {v : ByteArray × Nat} {l : Fl} (h : SortedL l) : SortedL (insL k v l) := by
  induction l with
  | nil => simp [insL, SortedL]
  | cons p l ih =>
    obtain ⟨h1, h2⟩ := List.pairwise_cons.1 h
    unfold insL
    split
    · rename_i hlt
      refine List.pairwise_cons.2 ⟨fun q hq => ?_, ih h2⟩
      rcases insL_mem hq with rfl | hq
      · exact hlt
      · exact h1 q hq
    · rename_i hlt
      refine List.pairwise_cons.2 ⟨fun q hq => ?_, adel_sorted h k⟩
      have hq1 := adel_mem hq
      have hq2 : q.1 ≠ k := by
        unfold adel at hq
        simpa using (List.mem_filter.1 hq).2
      have hpq : q = p ∨ nlt p.1 q.1 := by
        rcases List.mem_cons.1 hq1 with rfl | hq1
        · exact .inl rfl
        · exact .inr (h1 q hq1)
      rcases hpq with rfl | hpq
      · exact nlt_tri hlt hq2
      · by_cases e : p.1 = k
        · show nlt k q.1
          rw [← e]; exact hpq
        · exact nlt_trans (nlt_tri hlt e) hpq
theorem insL_aget {k : ByteArray} {v : ByteArray × Nat} {l : Fl} (j : ByteArray) : aget (insL k v l) j = if j = k then some v else aget l j := by
  induction l with
  | nil =>
    unfold insL aget
    by_cases e : j = k
    · subst e; simp
    · rw [if_neg e, List.find?_cons_of_neg (by simpa using fun e2 => e e2.symm)]
  | cons p l ih =>
    unfold insL
    split
    · rename_i hlt
      by_cases e : p.1 = j
      · have hjk : j ≠ k := fun e2 => nlt_irrefl k (by rw [← e2]; rw [← e2] at hlt; rw [e] at hlt; exact hlt)
        rw [if_neg hjk]
        unfold aget
        rw [List.find?_cons_of_pos (by simpa using e), List.find?_cons_of_pos (by simpa using e)]
      · unfold aget at ih ⊢
        rw [List.find?_cons_of_neg (by simpa using e), List.find?_cons_of_neg (by simpa using e)]
        exact ih
    · by_cases e : j = k
      · subst e
        unfold aget
        simp
      · rw [if_neg e]
        have h1 : aget ((k, v) :: adel (p :: l) k) j = aget (adel (p :: l) k) j := by
          unfold aget
          rw [List.find?_cons_of_neg (by simpa using fun e2 => e e2.symm)]
        rw [h1, aget_adel_other _ e]
theorem RefRel.put {l fs : Fl} (h : RefRel l fs) (k : ByteArray) (v : ByteArray × Nat) : RefRel (insL k v l) (aput fs k v) := by
  refine ⟨insL_sorted h.sorted, fun j => ?_⟩
  rw [insL_aget]
  split
  · rename_i e; subst e; rw [aget_aput_same]
  · rename_i e; rw [aget_aput_other _ _ _ _ e, h.same]
theorem RefRel.del {l fs : Fl} (h : RefRel l fs) (k : ByteArray) : RefRel (adel l k) (adel fs k) := by
  refine ⟨adel_sorted h.sorted k, fun j => ?_⟩
  by_cases e : j = k
  · subst e; rw [aget_adel_same, aget_adel_same]
  · rw [aget_adel_other _ e, aget_adel_other _ e, h.same]

/-- The loop that puts a file: what there is behind each round. -/
def putStep (k : ByteArray) (v : ByteArray × Nat) (s : Fl × Bool) (p : ByteArray × (ByteArray × Nat)) : Fl × Bool :=
  let s1 := if !s.2 && !decide (nlt p.1 k) then (s.1 ++ [(k, v)], true) else s
  if p.1 = k then s1 else (s1.1 ++ [p], s1.2)
theorem putStep_true (k : ByteArray) (v : ByteArray × Nat) (l : Fl) (out : Fl) : l.foldl (putStep k v) (out, true) = (out ++ adel l k, true) := by
  induction l generalizing out with
  | nil => simp [adel]
  | cons p l ih =>
    rw [List.foldl_cons]
    unfold putStep at ih ⊢
    simp only [Bool.not_true, Bool.false_and, Bool.false_eq_true, if_false]
    by_cases e : p.1 = k
    · rw [if_pos e, ih]
      unfold adel
      rw [List.filter_cons_of_neg (by simpa using e)]
    · rw [if_neg e, ih]
      unfold adel
      rw [List.filter_cons_of_pos (by simpa using e)]
      simp
theorem putStep_all (k : ByteArray) (v : ByteArray × Nat) (l : Fl) (out : Fl) : (if (l.foldl (putStep k v) (out, false)).2 then (l.foldl (putStep k v) (out, false)).1 else (l.foldl (putStep k v) (out, false)).1 ++ [(k, v)]) = out ++ insL k v l := by
  induction l generalizing out with
  | nil => simp [insL]
  | cons p l ih =>
    rw [List.foldl_cons]
    unfold insL
    by_cases hlt : nlt p.1 k
    · have e : p.1 ≠ k := fun e => nlt_irrefl k (by rw [e] at hlt; exact hlt)
      have h1 : putStep k v (out, false) p = (out ++ [p], false) := by simp [putStep, hlt, e]
      rw [h1, ih, if_pos hlt]
      simp
    · rw [if_neg hlt]
      by_cases e : p.1 = k
      · have h1 : putStep k v (out, false) p = (out ++ [(k, v)], true) := by simp [putStep, e, nlt_irrefl]
        rw [h1, putStep_true]
        have : adel (p :: l) k = adel l k := by
          unfold adel
          rw [List.filter_cons_of_neg (by simpa using e)]
        rw [this]
        simp
      · have h1 : putStep k v (out, false) p = (out ++ [(k, v)] ++ [p], true) := by simp [putStep, hlt, e]
        rw [h1, putStep_true]
        have : adel (p :: l) k = p :: adel l k := by
          unfold adel
          rw [List.filter_cons_of_pos (by simpa using e)]
        rw [this]
        simp


def flat (l : Fl) : List Value := l.flatMap fun p => [.string p.1, .string p.2.1, .int .i64 p.2.2]
theorem flat_append (l m : Fl) : flat (l ++ m) = flat l ++ flat m := by simp [flat]
theorem flat_length (l : Fl) : (flat l).length = l.length * 3 := by
  induction l with
  | nil => rfl
  | cons p l ih => simp [flat] at ih ⊢; omega
theorem flat_get (l : Fl) (i : Nat) (h : i < l.length) : (flat l)[i * 3]? = some (.string l[i].1) ∧ (flat l)[i * 3 + 1]? = some (.string l[i].2.1) ∧ (flat l)[i * 3 + 2]? = some (.int .i64 l[i].2.2) := by
  induction l generalizing i with
  | nil => simp at h
  | cons p l ih =>
    cases i with
    | zero => simp [flat]
    | succ i =>
      have h' : i < l.length := by simpa using h
      have := ih i h'
      have e : flat (p :: l) = [.string p.1, .string p.2.1, .int .i64 p.2.2] ++ flat l := rfl
      rw [e, show (i + 1) * 3 = i * 3 + 3 by omega]
      simpa using this

/-- Block b is the document's disk, its files in a row of its own from block 'base' on. -/
structure RIs (w : World) (base b : Nat) (D : Dk) (l : Fl) (v : Value) : Prop where
  rel : RefRel l D.files
  blk : w.heap[b]? = some (.cells #[v, .int .i64 D.acts, .int .i64 D.armed, .bool D.off] 86)
  row : w.ownsRow base 92 3 v l.length (flat l)
  le : base ≤ b
theorem RIs.lt {w : World} {base b : Nat} {D : Dk} {l : Fl} {v : Value} (h : RIs w base b D l v) : b < w.heap.size := (Array.getElem?_eq_some_iff.1 h.blk).1
theorem RIs.c0 {w : World} {base b : Nat} {D : Dk} {l : Fl} {v : Value} (h : RIs w base b D l v) : w.cell? ⟨b, 0, none⟩ = some v := by simp [World.cell?, h.blk]
theorem RIs.c1 {w : World} {base b : Nat} {D : Dk} {l : Fl} {v : Value} (h : RIs w base b D l v) : w.cell? ⟨b, 1, none⟩ = some (.int .i64 D.acts) := by simp [World.cell?, h.blk]
theorem RIs.c2 {w : World} {base b : Nat} {D : Dk} {l : Fl} {v : Value} (h : RIs w base b D l v) : w.cell? ⟨b, 2, none⟩ = some (.int .i64 D.armed) := by simp [World.cell?, h.blk]
theorem RIs.c3 {w : World} {base b : Nat} {D : Dk} {l : Fl} {v : Value} (h : RIs w base b D l v) : w.cell? ⟨b, 3, none⟩ = some (.bool D.off) := by simp [World.cell?, h.blk]
theorem RIs.fr {w : World} {base b : Nat} {D : Dk} {l : Fl} {v : Value} (h : RIs w base b D l v) (i : Nat) : w.frozen? ⟨b, i, none⟩ = false := by simp [World.frozen?, h.blk]
/-- The row of files is another block. -/
theorem RIs.row_ne {w : World} {base b : Nat} {D : Dk} {l : Fl} {v : Value} (h : RIs w base b D l v) (k : Nat) (hk : v.ownBlock = some k) : k ≠ b ∧ base ≤ k ∧ k < w.heap.size ∧ ∃ cs, w.heap[k]? = some (.cells cs 92) := by
  rcases h.row.2 with ⟨rfl, _⟩ | ⟨g, cap, cur, rfl, hb, hh, _⟩
  · simp [Value.ownBlock] at hk
  · have : g = k := by simpa [Value.ownBlock] using hk
    subst this
    refine ⟨?_, hb, (Array.getElem?_eq_some_iff.1 hh).1, cur, hh⟩
    rintro rfl
    rw [h.blk] at hh
    cases hh
/-- What may turn in a call: the disk's struct, and rows of files. -/
def RS (w : World) (base b k : Nat) : Prop := k = b ∨ (base ≤ k ∧ ∃ cs, w.heap[k]? = some (.cells cs 92))
theorem RIs.only {w w' : World} {base b : Nat} {D : Dk} {l : Fl} {v : Value} (h : RIs w base b D l v) {S : Nat → Prop} (ho : Only S w w') (h1 : ¬ S b) (h2 : ∀ k, v.ownBlock = some k → ¬ S k) : RIs w' base b D l v := by
  refine ⟨h.rel, (ho.block b h.lt h1).trans h.blk, ?_, h.le⟩
  obtain ⟨e, h3⟩ := h.row
  refine ⟨e, ?_⟩
  rcases h3 with h3 | ⟨g, cap, cur, rfl, hb, hh, r⟩
  · exact .inl h3
  · exact .inr ⟨g, cap, cur, rfl, hb, (ho.block g (Array.getElem?_eq_some_iff.1 hh).1 (h2 g rfl)).trans hh, r⟩
theorem RIs.rs {w : World} {base b : Nat} {D : Dk} {l : Fl} {v : Value} (h : RIs w base b D l v) (k : Nat) (hk : v.ownBlock = some k) : RS w base b k := Or.inr ⟨(h.row_ne k hk).2.1, (h.row_ne k hk).2.2.2⟩
theorem RS.ge {w : World} {base b k : Nat} (hle : base ≤ b) (h : RS w base b k) : base ≤ k := by
  rcases h with h | h
  · omega
  · exact h.1
/-- The files' cells. -/
theorem RIs.file {w : World} {base b : Nat} {D : Dk} {l : Fl} {v : Value} (h : RIs w base b D l v) : ∃ A c, v = .slice A l.length c ∧ l.length ≤ maxLen ∧ ∀ i, (hi : i < l.length) → ∃ g, A = some ⟨g, 0, none⟩ ∧ v.ownBlock = some g ∧ g < w.heap.size ∧ (∀ j, w.frozen? ⟨g, j, none⟩ = false) ∧
    w.cell? ⟨g, i * 3, none⟩ = some (.string l[i].1) ∧ w.cell? ⟨g, i * 3 + 1, none⟩ = some (.string l[i].2.1) ∧ w.cell? ⟨g, i * 3 + 2, none⟩ = some (.int .i64 l[i].2.2) := by
  have hr := h.row
  rcases h.row.2 with ⟨hv, hn⟩ | ⟨g, cap, cur, hv, hb, hh, hn, hc, _⟩
  · refine ⟨none, 0, by rw [hv, hn], by omega, fun i hi => by omega⟩
  · refine ⟨_, cap, hv, by omega, fun i hi => ⟨g, rfl, by rw [hv]; rfl, (Array.getElem?_eq_some_iff.1 hh).1, fun j => by simp [World.frozen?, hh], ?_⟩⟩
    rw [hv] at hr
    obtain ⟨f1, f2, f3⟩ := flat_get l i hi
    exact ⟨(hr.cellAt _ (by omega)).trans f1, (hr.cellAt _ (by omega)).trans f2, (hr.cellAt _ (by omega)).trans f3⟩

theorem ownsRow_setCell_ne {w : World} {base : Nat} {e : TypeId} {size : Nat} {v : Value} {n : Nat} {xs : List Value} (h : w.ownsRow base e size v n xs) {a : Addr} (ha : ∀ k, v.ownBlock = some k → k ≠ a.block) (u : Value) : (w.setCell a u).ownsRow base e size v n xs := by
  obtain ⟨h1, h2⟩ := h
  refine ⟨h1, ?_⟩
  rcases h2 with h2 | ⟨g, cap, cur, rfl, hg, hh, r⟩
  · exact Or.inl h2
  · have := ha g rfl
    exact Or.inr ⟨g, cap, cur, rfl, hg, by rw [Below.heap_setCell _ _ _ _ (by omega)]; exact hh, r⟩
theorem rblk_setCell {w : World} {b i : Nat} {cs : Array Value} {t : TypeId} (h : w.heap[b]? = some (.cells cs t)) (v : Value) : (w.setCell ⟨b, i, none⟩ v).heap[b]? = some (.cells (cs.setIfInBounds i v) t) := by
  simp [World.setCell, Array.getElem?_modify, h]
theorem RIs.acted {w : World} {base b : Nat} {D : Dk} {l : Fl} {v : Value} (h : RIs w base b D l v) (n : Nat) : RIs (w.setCell ⟨b, 1, none⟩ (.int .i64 n)) base b { D with acts := n } l v := by
  refine ⟨h.rel, by rw [rblk_setCell h.blk]; simp, ?_, h.le⟩
  exact ownsRow_setCell_ne h.row (fun k hk => (h.row_ne k hk).1) _
theorem RIs.offed {w : World} {base b : Nat} {D : Dk} {l : Fl} {v : Value} (h : RIs w base b D l v) (o : Bool) : RIs (w.setCell ⟨b, 3, none⟩ (.bool o)) base b { D with off := o } l v := by
  refine ⟨h.rel, by rw [rblk_setCell h.blk]; simp, ?_, h.le⟩
  exact ownsRow_setCell_ne h.row (fun k hk => (h.row_ne k hk).1) _
theorem RIs.armed' {w : World} {base b : Nat} {D : Dk} {l : Fl} {v : Value} (h : RIs w base b D l v) (n : Nat) : RIs (w.setCell ⟨b, 2, none⟩ (.int .i64 n)) base b { D with armed := n } l v := by
  refine ⟨h.rel, by rw [rblk_setCell h.blk]; simp, ?_, h.le⟩
  exact ownsRow_setCell_ne h.row (fun k hk => (h.row_ne k hk).1) _


set_option maxHeartbeats 400000 in
theorem rnew_any (w : World) : Calls Tryz.prog 18 #[] w fun e w' => e = .returned (.pointer (some ⟨w.heap.size, 0, none⟩)) ∧ w' = w.alloc (.cells #[.slice none 0 0, .int .i64 0, .int .i64 0, .bool false] 86) := by
  go_enter Tryz.func18, Tryz.ntmps18
  go_wp2
  go_ret
  exact ⟨rfl, rfl⟩
theorem RIs.made (w : World) (base : Nat) (hb : base ≤ w.heap.size) : RIs (w.alloc (.cells #[.slice none 0 0, .int .i64 0, .int .i64 0, .bool false] 86)) base w.heap.size Dk.new [] (.slice none 0 0) :=
  ⟨⟨List.Pairwise.nil, fun _ => rfl⟩, (MapKept.heap_alloc w _).1, ⟨rfl, .inl ⟨rfl, rfl⟩⟩, hb⟩

set_option maxHeartbeats 400000 in
theorem roff_any (b : Nat) (o : Bool) (w : World) (h : w.cell? ⟨b, 3, none⟩ = some (.bool o)) :
    Calls Tryz.prog 54 #[.pointer (some ⟨b, 0, none⟩)] w fun e w' => e = .returned (.bool o) ∧ w = w' := by
  go_enter Tryz.func54, Tryz.ntmps54
  go_wp2
  go_ret
  exact ⟨rfl, rfl⟩
set_option maxHeartbeats 400000 in
theorem racts_any (b : Nat) (n : Int) (w : World) (h : w.cell? ⟨b, 1, none⟩ = some (.int .i64 n)) :
    Calls Tryz.prog 60 #[.pointer (some ⟨b, 0, none⟩)] w fun e w' => e = .returned (.int .i64 n) ∧ w = w' := by
  go_enter Tryz.func60, Tryz.ntmps60
  go_wp2
  go_ret
  exact ⟨rfl, rfl⟩

set_option maxHeartbeats 1000000 in
theorem ract_any (base b : Nat) (D : Dk) (l : Fl) (v : Value) (w : World) (h : RIs w base b D l v) (hn : D.acts < 4611686018427387904) :
    Calls Tryz.prog 49 #[.pointer (some ⟨b, 0, none⟩)] w fun e w' => e = .returned (.int .i64 (if D.tick.off then 100 else 0)) ∧ RIs w' base b D.tick l v ∧ Only (· = b) w w' ∧ w'.heap.size = w.heap.size := by
  have c1 := h.c1
  have c2 := h.c2
  have c3 := h.c3
  have f1 := h.fr 1
  have f3 := h.fr 3
  cases hoff : D.off with
  | true =>
    have ht : D.tick = D := by simp [Dk.tick, hoff]
    rw [ht, if_pos hoff]
    rw [hoff] at c3
    have HR := Lib.hid h
    clear h hoff ht
    go_enter Tryz.func49, Tryz.ntmps49
    go_wp2
    go_ret
    exact ⟨rfl, HR.out, Only.refl _ _, rfl⟩
  | false =>
    rw [hoff] at c3
    have HO := Lib.hid (((Only.refl (· = b) w).setCell (p := ⟨b, 1, none⟩) (fun _ => rfl) (.int .i64 ((D.acts : Int) + 1))).drew)
    by_cases ha : D.acts + 1 = D.armed
    · have ht : D.tick = { D with acts := D.acts + 1, off := true } := by simp [Dk.tick, hoff, ha]
      have hb : ((D.acts : Int) + 1 == (D.armed : Int)) = true := by rw [beq_iff_eq]; omega
      have HR := Lib.hid (show RIs (((w.setCell ⟨b, 1, none⟩ (.int .i64 ((D.acts : Int) + 1))).setCell ⟨b, 3, none⟩ (.bool true)).drew) base b D.tick l v from by
        rw [ht]
        have := (h.acted (D.acts + 1)).offed true
        exact ⟨this.rel, this.blk, this.row, this.le⟩)
      have HO2 := Lib.hid (((((Only.refl (· = b) w).setCell (p := ⟨b, 1, none⟩) (fun _ => rfl) (.int .i64 ((D.acts : Int) + 1))).setCell (p := ⟨b, 3, none⟩) (fun _ => rfl) (.bool true))).drew)
      have hto : (if D.tick.off then (100 : Int) else 0) = 100 := by rw [ht]; rfl
      rw [hto]
      clear h hoff ht ha hto
      go_enter Tryz.func49, Tryz.ntmps49
      go_wp2
      go_region
      all_goals go_wp2
      all_goals (go_ret; exact ⟨rfl, HR.out, HO2.out, by simp [World.setCell]⟩)
    · have ht : D.tick = { D with acts := D.acts + 1, off := false } := by simp [Dk.tick, hoff, ha]
      have hb : ((D.acts : Int) + 1 == (D.armed : Int)) = false := by rw [beq_eq_false_iff_ne]; omega
      have HR := Lib.hid (show RIs ((w.setCell ⟨b, 1, none⟩ (.int .i64 ((D.acts : Int) + 1))).drew) base b D.tick l v from by
        rw [ht]
        have := h.acted (D.acts + 1)
        exact ⟨this.rel, by have := this.blk; rw [hoff] at this; exact this, this.row, this.le⟩)
      have hto : (if D.tick.off then (100 : Int) else 0) = 0 := by rw [ht]; rfl
      rw [hto]
      clear h hoff ht ha hto
      go_enter Tryz.func49, Tryz.ntmps49
      go_wp2
      go_region
      all_goals go_wp2
      all_goals (go_ret; exact ⟨rfl, HR.out, HO.out, by simp [World.setCell]⟩)

/-- The place of a name: -1, or where it stands. -/
def placeOf (l : Fl) (nm : ByteArray) : Int := match l.findIdx? (fun p => decide (p.1 = nm)) with
  | some i => i
  | none => -1
theorem place_none {l : Fl} {nm : ByteArray} (h : aget l nm = none) : placeOf l nm = -1 := by
  unfold placeOf
  have : l.findIdx? (fun p => decide (p.1 = nm)) = none := by
    rw [List.findIdx?_eq_none_iff]
    intro p hp
    rw [decide_eq_false_iff_not]
    rintro rfl
    exact aget_none_iff.1 h (List.mem_map.2 ⟨p, hp, rfl⟩)
  rw [this]
theorem place_some {l : Fl} (hn : (l.map (·.1)).Nodup) {nm : ByteArray} {f : ByteArray × Nat} (h : aget l nm = some f) : ∃ i, placeOf l nm = (i : Nat) ∧ ∃ hi : i < l.length, l[i] = (nm, f) := by
  have hm := aget_mem' h
  unfold placeOf
  cases hx : l.findIdx? (fun p => decide (p.1 = nm)) with
  | none =>
    rw [List.findIdx?_eq_none_iff] at hx
    have := hx _ hm
    simp at this
  | some i =>
    rw [List.findIdx?_eq_some_iff_getElem] at hx
    obtain ⟨hi, h1, _⟩ := hx
    refine ⟨i, rfl, hi, ?_⟩
    have h2 : (l[i]).1 = nm := by simpa using h1
    have h3 := aget_at hn (j := i) (p := l[i]) (List.getElem?_eq_getElem hi)
    rw [h2, h] at h3
    exact Prod.ext h2 (Option.some.inj h3).symm

set_option maxHeartbeats 1000000 in
theorem rat_any (base b : Nat) (D : Dk) (l : Fl) (v : Value) (nm : ByteArray) (w : World) (h : RIs w base b D l v) :
    Calls Tryz.prog 50 #[.pointer (some ⟨b, 0, none⟩), .string nm] w fun e w' => e = .returned (.int .i64 (placeOf l nm)) ∧ w = w' := by
  obtain ⟨A, c, rfl, hl, hf⟩ := h.file
  have c0 := h.c0
  unfold maxLen at hl
  have HF := Lib.hid hf
  clear hf h
  go_enter Tryz.func50, Tryz.ntmps50
  go_wp2
  go_loop [5] (fun i => ∃ k : Nat, k ≤ l.length ∧ i = .int .i64 k ∧ ∀ j (hj : j < l.length), j < k → l[j].1 ≠ nm) (fun i => l.length - (intOf i).toNat)
  case atStart => exact ⟨0, Nat.zero_le _, rfl, fun j _ hj => absurd hj (by omega)⟩
  case round =>
    obtain ⟨k, hk, rfl, hne⟩ := hrel
    have HN := Lib.hid hne
    clear hne
    by_cases hlt : k < l.length
    · obtain ⟨g, rfl, _, hg, _, h1, _, _⟩ := HF.out k hlt
      by_cases e : l[k].1 = nm
      · have hp : placeOf l nm = k := by
          unfold placeOf
          have : l.findIdx? (fun p => decide (p.1 = nm)) = some k := by
            rw [List.findIdx?_eq_some_iff_getElem]
            exact ⟨hlt, by simpa using e, fun j hj => by simpa using HN.out j (by omega) hj⟩
          rw [this]
        rw [e] at h1
        have HP := Lib.hid hp
        clear e hp
        go_wp2
        go_ret
        exact ⟨ret_int HP.out.symm, rfl⟩
      · have hb := bytes_ne e
        have HE := Lib.hid e
        clear e
        generalize hnm : l[k].1 = x at h1 hb
        have HX := Lib.hid hnm
        clear hnm
        go_wp2
        go_round
        case rel => exact ⟨k + 1, by omega, by go_num, fun j hj hjk => by
          rcases Nat.lt_succ_iff_lt_or_eq.1 hjk with h | rfl
          · exact HN.out j hj h
          · exact HE.out⟩
        case measure => simp [intOf]; omega
    · obtain rfl : k = l.length := by omega
      have hp : placeOf l nm = -1 := by
        unfold placeOf
        have : l.findIdx? (fun p => decide (p.1 = nm)) = none := by
          rw [List.findIdx?_eq_none_iff]
          intro p hp
          obtain ⟨j, hj, rfl⟩ := List.getElem_of_mem hp
          simpa using HN.out j hj hj
        rw [this]
      have HP := Lib.hid hp
      clear hp
      go_wp2
      go_ret
      exact ⟨ret_int HP.out.symm, rfl⟩

set_option maxHeartbeats 1000000 in
theorem rread_any (base b : Nat) (D : Dk) (l : Fl) (v : Value) (nm : ByteArray) (w : World) (h : RIs w base b D l v) :
    Calls Tryz.prog 62 #[.pointer (some ⟨b, 0, none⟩), .string nm] w fun e w' => e = .returned (.tuple #[.string (D.read nm).1, .int .i64 (D.read nm).2]) ∧ w = w' := by
  have c3 := h.c3
  have c0 := h.c0
  have hat := rat_any base b D l v nm w h
  have HAT := Lib.hid hat
  clear hat
  cases hoff : D.off with
  | true =>
    rw [hoff] at c3
    have hr : D.read nm = (⟨#[]⟩, 100) := by simp [Dk.read, hoff]
    rw [hr]
    clear h hoff hr
    go_enter Tryz.func62, Tryz.ntmps62
    go_wp2
    go_ret2
    exact ⟨rfl, rfl⟩
  | false =>
    rw [hoff] at c3
    cases hg : aget D.files nm with
    | none =>
      have hr : D.read nm = (⟨#[]⟩, 101) := by simp [Dk.read, hoff, hg]
      rw [hr]
      rw [place_none (by rw [h.rel.same, hg])] at HAT
      clear h hoff hr hg
      go_enter Tryz.func62, Tryz.ntmps62
      go_wp2_with (go_at_call 50; refine HAT.out.mono ?_; rintro e w' ⟨rfl, rfl⟩)
      go_ret2
      exact ⟨rfl, rfl⟩
    | some z =>
      have hr : D.read nm = (z.1, 0) := by simp [Dk.read, hoff, hg]
      obtain ⟨i, hi, hil, hz⟩ := place_some h.rel.sorted.nodup (by rw [h.rel.same]; exact hg)
      obtain ⟨A, c, rfl, hl, hf⟩ := h.file
      obtain ⟨g, rfl, _, hgl, _, h1, h2, _⟩ := hf i hil
      unfold maxLen at hl
      rw [hz] at h2
      simp only at h2
      rw [hr]
      rw [hi] at HAT
      clear h hoff hr hg hf h1 hz hi
      generalize z.1 = zb at *
      go_enter Tryz.func62, Tryz.ntmps62
      go_wp2_with (go_at_call 50; refine HAT.out.mono ?_; rintro e w' ⟨rfl, rfl⟩)
      go_ret2
      exact ⟨rfl, rfl⟩

set_option maxHeartbeats 1000000 in
set_option maxRecDepth 100000 in
theorem rarm_any (base b : Nat) (D : Dk) (l : Fl) (v : Value) (n : Int) (w : World) (h : RIs w base b D l v) (hD : D.Ok) (h0 : -9223372036854775808 ≤ n) (h1 : n ≤ 9223372036854775807) :
    Calls Tryz.prog 32 #[.pointer (some ⟨b, 0, none⟩), .int .i64 n] w fun e w' => e = .returned (.int .i64 (D.arm n).1) ∧ RIs w' base b (D.arm n).2 l v ∧ Only (· = b) w w' := by
  have c1 := h.c1
  have c2 := h.c2
  have f2 := h.fr 2
  have ha := hD.acts
  by_cases hneg : n < 0
  · have hr : D.arm n = (1, D) := by simp [Dk.arm, hneg]
    rw [hr]
    have H := Lib.hid h
    clear h hD c1 c2 ha hr
    go_enter Tryz.func32, Tryz.ntmps32
    go_wp2
    all_goals go_ret
    all_goals exact ⟨rfl, H.out, Only.refl _ _⟩
  · by_cases hbig : 1099511627776 < n
    · have hr : D.arm n = (1, D) := by simp [Dk.arm, hbig]
      rw [hr]
      have H := Lib.hid h
      clear h hD c1 c2 ha hr
      go_enter Tryz.func32, Tryz.ntmps32
      go_wp2
      all_goals go_ret
      all_goals exact ⟨rfl, H.out, Only.refl _ _⟩
    · by_cases hpos : 0 < n
      · have hx : ((D.acts : Int) + n) = ((D.acts + n.toNat : Nat) : Int) := by omega
        have hr : D.arm n = (0, { D with armed := D.acts + n.toNat }) := by simp [Dk.arm, hneg, hbig, hpos]
        rw [hr]
        have H := Lib.hid (show RIs ((w.setCell ⟨b, 2, none⟩ (.int .i64 0)).setCell ⟨b, 2, none⟩ (.int .i64 ((D.acts : Int) + n))) base b { D with armed := D.acts + n.toNat } l v from by rw [hx]; exact (h.armed' 0).armed' (D.acts + n.toNat))
        have HO := Lib.hid (((Only.refl (· = b) w).setCell (p := ⟨b, 2, none⟩) (fun _ => rfl) (.int .i64 0)).setCell (p := ⟨b, 2, none⟩) (fun _ => rfl) (.int .i64 ((D.acts : Int) + n)))
        clear h hD hx hr
        go_enter Tryz.func32, Tryz.ntmps32
        go_wp2
        all_goals go_ret
        all_goals exact ⟨rfl, H.out, HO.out⟩
      · have hr : D.arm n = (0, { D with armed := 0 }) := by simp [Dk.arm, hneg, hbig, hpos]
        rw [hr]
        have H := Lib.hid (h.armed' 0)
        have HO := Lib.hid ((Only.refl (· = b) w).setCell (p := ⟨b, 2, none⟩) (fun _ => rfl) (.int .i64 0))
        clear h hD hr
        go_enter Tryz.func32, Tryz.ntmps32
        go_wp2
        all_goals go_ret
        all_goals exact ⟨rfl, H.out, HO.out⟩


theorem infoRF : (Tryz.prog.info? 92).map (fun i => (i.zero, i.size, i.bytes)) = some (some (.agg #[.string ⟨#[]⟩, .string ⟨#[]⟩, .int .i64 0]), 3, 40) := by kernel_rfl
theorem infoStr : (Tryz.prog.info? 9).map (fun i => (i.zero, i.size, i.bytes)) = some (some (.string ⟨#[]⟩), 1, 16) := by kernel_rfl
theorem three_new (w : World) (a b c : Value) (t : TypeId) : ∀ j u, [a, b, c][j]? = some u → (w.alloc (.cells #[a, b, c] t)).cell? ((⟨w.heap.size, 0, none⟩ : Addr).add j) = some u := by
  intro j u hu
  have e : (⟨w.heap.size, 0, none⟩ : Addr).add j = ⟨w.heap.size, j, none⟩ := by unfold Addr.add; split <;> simp_all
  rw [e, World.cell?_alloc_new, ← hu]
  simp
theorem one_new (w : World) (a : Value) (t : TypeId) : ∀ j u, [a][j]? = some u → (w.alloc (.cells #[a] t)).cell? ((⟨w.heap.size, 0, none⟩ : Addr).add j) = some u := by
  intro j u hu
  have e : (⟨w.heap.size, 0, none⟩ : Addr).add j = ⟨w.heap.size, j, none⟩ := by unfold Addr.add; split <;> simp_all
  rw [e, World.cell?_alloc_new, ← hu]
  simp
theorem row_slice {w : World} {base n : Nat} {e : TypeId} {size : Nat} {v : Value} {xs : List Value} (h : w.ownsRow base e size v n xs) : ∃ A c, v = .slice A n c := by
  rcases h.2 with ⟨rfl, rfl⟩ | ⟨g, cap, cur, rfl, _⟩
  · exact ⟨none, 0, rfl⟩
  · exact ⟨_, cap, rfl⟩
theorem row_base {w : World} {base base' n : Nat} {e : TypeId} {size : Nat} {v : Value} {xs : List Value} (h : w.ownsRow base e size v n xs) (hb : base' ≤ base) : w.ownsRow base' e size v n xs := by
  refine ⟨h.1, ?_⟩
  rcases h.2 with h2 | ⟨g, cap, cur, h1, h2, r⟩
  · exact .inl h2
  · exact .inr ⟨g, cap, cur, h1, by omega, r⟩
theorem row_at {w : World} {base n : Nat} {e : TypeId} {size : Nat} {v : Value} {xs : List Value} (h : w.ownsRow base e size v n xs) : ∀ k, v.ownBlock = some k → base ≤ k := by
  intro k hk
  rcases h.2 with ⟨rfl, _⟩ | ⟨g, cap, cur, rfl, hb, _⟩
  · simp [Value.ownBlock] at hk
  · have : g = k := by simpa [Value.ownBlock] using hk
    omega
theorem alloc_le {n : Nat} {w : World} (h : n ≤ w.heap.size) (o : Obj) : n ≤ (w.alloc o).heap.size := Nat.le_trans h (by simp)
theorem row_drew {w : World} {base n : Nat} {e : TypeId} {size : Nat} {v : Value} {xs : List Value} (h : w.ownsRow base e size v n xs) : w.drew.ownsRow base e size v n xs := h
theorem adel_snoc (l : Fl) (p : ByteArray × (ByteArray × Nat)) (k : ByteArray) : adel (l ++ [p]) k = if p.1 = k then adel l k else adel l k ++ [p] := by
  unfold adel
  rw [List.filter_append]
  by_cases e : p.1 = k
  · rw [if_pos e, List.filter_cons_of_neg (by simpa using e)]
    simp
  · rw [if_neg e, List.filter_cons_of_pos (by simpa using e)]
    simp
theorem adel_len (l : Fl) (k : ByteArray) : (adel l k).length ≤ l.length := (adel_sub l k).length_le

/-- The new row is stored into the disk's struct. -/
theorem RIs.stored {w wr : World} {base b : Nat} {D : Dk} {l m : Fl} {v u : Value} {fs : Fl} (h : RIs w base b D l v) (hB : Below w.heap.size w wr) (hr : wr.ownsRow w.heap.size 92 3 u m.length (flat m)) (hbase : base ≤ w.heap.size) (hrel : RefRel m fs) :
    RIs (wr.setCell ⟨b, 0, none⟩ u) base b { D with files := fs } m u := by
  refine ⟨hrel, by rw [rblk_setCell ((hB.block b h.lt).trans h.blk)]; simp, ?_, h.le⟩
  refine ownsRow_setCell_ne (row_base hr hbase) (fun k hk => ?_) _
  have := row_at hr k hk
  have := h.lt
  show k ≠ b
  omega
theorem Only.stored {w wr : World} {b : Nat} (hB : Below w.heap.size w wr) (u : Value) : Only (· = b) w (wr.setCell ⟨b, 0, none⟩ u) := (Only.of_below (S := (· = b)) hB).setCell (p := ⟨b, 0, none⟩) (fun _ => rfl) u

set_option maxHeartbeats 2000000 in
set_option maxRecDepth 100000 in
theorem rdrop_any (base b : Nat) (D : Dk) (l : Fl) (v : Value) (nm : ByteArray) (w : World) (h : RIs w base b D l v) (hl9 : l.length ≤ 9) (hbase : base ≤ w.heap.size) :
    Calls Tryz.prog 81 #[.pointer (some ⟨b, 0, none⟩), .string nm] w fun e w' => e = .returned (.tuple #[]) ∧ (∃ v', RIs w' base b { D with files := adel D.files nm } (adel l nm) v' ∧ ∀ k, v'.ownBlock = some k → w.heap.size ≤ k) ∧ Only (· = b) w w' := by
  obtain ⟨A, c, rfl, hl, hf⟩ := h.file
  have c0 := h.c0
  have lb := h.lt
  obtain ⟨i0, hi, hz0, hz1, hz2⟩ := info_parts infoRF
  have HF := Lib.hid hf
  have HR := Lib.hid h
  clear hf h hl
  go_enter Tryz.func81, Tryz.ntmps81
  go_wp2
  go_loopw [4, 5] (fun out i wr => ∃ k : Nat, k ≤ l.length ∧ i = .int .i64 k ∧ wr.ownsRow w.heap.size 92 3 out (adel (l.take k) nm).length (flat (adel (l.take k) nm)) ∧ Below w.heap.size w wr) (fun _ i _ => l.length - (intOf i).toNat)
  case atStart => exact ⟨0, Nat.zero_le _, rfl, ⟨rfl, .inl ⟨rfl, rfl⟩⟩, Below.refl _ _⟩
  case round =>
    obtain ⟨k, hk, rfl, hown, hB⟩ := hrel
    have hsz := hB.size
    have c0' := (hB.cell (p := ⟨b, 0, none⟩) lb).trans c0
    have HB := Lib.hid hB
    clear hB
    by_cases hlt : k < l.length
    · obtain ⟨g, rfl, _, hg, _, h1, h2, h3⟩ := HF.out k hlt
      have h1' := (HB.out.cell (p := ⟨g, k * 3, none⟩) hg).trans h1
      have h2' := (HB.out.cell (p := ⟨g, k * 3 + 1, none⟩) hg).trans h2
      have h3' := (HB.out.cell (p := ⟨g, k * 3 + 2, none⟩) hg).trans h3
      have htk : l.take (k + 1) = l.take k ++ [l[k]] := List.take_succ_eq_append_getElem hlt
      have hsn := adel_snoc (l.take k) l[k] nm
      rw [← htk] at hsn
      have hal := adel_len (l.take k) nm
      have htl : (l.take k).length ≤ k := List.length_take_le _ _
      obtain ⟨A2, cc2, hv2⟩ := row_slice hown
      subst hv2
      have HW := Lib.hid hown
      have HS := Lib.hid hsn
      clear h1 h2 h3 htk hsn hown
      by_cases e : l[k].1 = nm
      · rw [if_pos e] at HS
        rw [e] at h1'
        clear e h2' h3'
        go_wp2
        go_roundw
        case rel => exact ⟨k + 1, by omega, by go_num, by rw [HS.out]; exact HW.out, HB.out⟩
        case measure => simp [intOf]; omega
      · rw [if_neg e] at HS
        have hb := bytes_ne e
        generalize hp : l[k] = p at *
        obtain ⟨px, pb, pn⟩ := p
        have hal' := adel_len (l.take k) nm
        simp only at h1' h2' h3' hb
        have HP := Lib.hid hp
        clear hp e
        go_wp2_with (at_builtin; refine wpList_append_own _ rfl _ _ 84 rfl w.heap.size 92 i0 _ 3 40 Tryz.underlying84 hi hz0 hz1 hz2 rfl (by decide) _ _ _ rfl (HW.out.alloc _) ⟨wr.heap.size, 0, none⟩ 1 1 [.string px, .string pb, .int .i64 pn] rfl rfl (three_new _ _ _ _ _) (by simp [Value.oneCell']) (by unfold maxLen; omega) (by omega) (by simp; omega) ?_; intro v' w1 hown1 hgrow1 _; have HN1 := Lib.hid hown1; have HG1 := Lib.hid hgrow1; clear hown1 hgrow1)
        go_roundw
        case rel => exact ⟨k + 1, by omega, by go_num, by rw [HS.out, List.length_append, flat_append]; exact HN1.out, (HB.out.alloc (by omega) _).grown HG1.out (alloc_le hsz _) (row_at HW.out)⟩
        case measure => simp [intOf]; omega
    · have hkl : k = l.length := by omega
      subst hkl
      rw [List.take_length] at hown
      have f0 := (HB.out.frozen (p := ⟨b, 0, none⟩) lb).trans (HR.out.fr 0)
      obtain ⟨A2, cc2, hv2⟩ := row_slice hown
      subst hv2
      have HW := Lib.hid hown
      clear hown
      go_wp2
      go_end0
      exact ⟨rfl, ⟨.slice A2 (adel l nm).length cc2, RIs.stored HR.out HB.out HW.out hbase (HR.out.rel.del nm), row_at HW.out⟩, Only.stored HB.out _⟩


theorem putStep_len (k : ByteArray) (v : ByteArray × Nat) (l : Fl) : (l.foldl (putStep k v) ([], false)).1.length ≤ 2 * l.length := by
  have : ∀ (m : Fl) (s : Fl × Bool), (m.foldl (putStep k v) s).1.length ≤ s.1.length + 2 * m.length := by
    intro m
    induction m with
    | nil => intro s; simp
    | cons p m ih =>
      intro s
      rw [List.foldl_cons]
      have := ih (putStep k v s p)
      have h2 : (putStep k v s p).1.length ≤ s.1.length + 2 := by
        unfold putStep
        split <;> split <;> simp_all
      simp only [List.length_cons]
      omega
  simpa using this l ([], false)
theorem geq_bool (a b : ByteArray) (x : Bool) (h : decide (nlt a b) = x) : Op.bytesLess a.toList b.toList = x := by rw [bytesLess_nlt, h]

theorem RowOwned.alloc {w w' : World} {base n : Nat} {e : TypeId} {size : Nat} {v : Value} {xs : List Value} (h : w.ownsRow base e size v n xs) (o : Obj) (hw : w'.heap = w.heap := by rfl) : (w'.alloc o).ownsRow base e size v n xs := by
  have : w'.ownsRow base e size v n xs := by unfold World.ownsRow at h ⊢; rw [hw]; exact h
  exact this.alloc o
theorem below_drewN {B : Nat} {a w : World} (h : Below B a w) (n : Nat) : Below B a (w.drewN n) := ⟨h.os, h.tape, h.output, h.size, h.block⟩

set_option maxHeartbeats 4000000 in
set_option maxRecDepth 100000 in
theorem rput_any (base b : Nat) (D : Dk) (l : Fl) (v : Value) (nm s : ByteArray) (n : Nat) (w : World) (h : RIs w base b D l v) (hl9 : l.length ≤ 9) (hbase : base ≤ w.heap.size) :
    Calls Tryz.prog 51 #[.pointer (some ⟨b, 0, none⟩), .agg #[.string nm, .string s, .int .i64 n]] w fun e w' => e = .returned (.tuple #[]) ∧ (∃ v', RIs w' base b { D with files := aput D.files nm (s, n) } (insL nm (s, n) l) v') ∧ Only (· = b) w w' := by
  obtain ⟨A, c, rfl, hl, hf⟩ := h.file
  have c0 := h.c0
  have lb := h.lt
  obtain ⟨i0, hi, hz0, hz1, hz2⟩ := info_parts infoRF
  have HF := Lib.hid hf
  have HR := Lib.hid h
  clear hf h hl
  go_enter Tryz.func51, Tryz.ntmps51
  go_wp2
  go_loopw [4, 5, 6] (fun out put i wr => ∃ k : Nat, k ≤ l.length ∧ i = .int .i64 k ∧ put = .bool ((l.take k).foldl (putStep nm (s, n)) ([], false)).2 ∧ wr.ownsRow (w.heap.size + 1) 92 3 out ((l.take k).foldl (putStep nm (s, n)) ([], false)).1.length (flat ((l.take k).foldl (putStep nm (s, n)) ([], false)).1) ∧ Below (w.heap.size + 1) (w.alloc (.cells #[.string nm, .string s, .int .i64 n] 92)) wr) (fun _ _ i _ => l.length - (intOf i).toNat)
  case atStart => exact ⟨0, Nat.zero_le _, rfl, rfl, ⟨rfl, .inl ⟨rfl, rfl⟩⟩, Below.refl _ _⟩
  case round =>
    obtain ⟨k, hk, rfl, rfl, hown, hB⟩ := hrel
    have hsz := hB.size
    rw [show (w.alloc (.cells #[.string nm, .string s, .int .i64 n] 92)).heap.size = w.heap.size + 1 by simp] at hsz
    have c0' := ((hB.cell (p := ⟨b, 0, none⟩) (by show b < _; omega)).trans (World.cell?_alloc_past _ _ _ lb)).trans c0
    have f0' : wr.frozen? ⟨b, 0, none⟩ = false := ((hB.frozen (p := ⟨b, 0, none⟩) (by show b < _; omega)).trans (World.frozen?_alloc_past _ _ _ lb)).trans (HR.out.fr 0)
    have x0 : wr.cell? ⟨w.heap.size, 0, none⟩ = some (.string nm) := (hB.cell (p := ⟨w.heap.size, 0, none⟩) (by show w.heap.size < _; omega)).trans (World.cell?_alloc_new _ _ _ 0)
    have x1 : wr.cell? ⟨w.heap.size, 1, none⟩ = some (.string s) := (hB.cell (p := ⟨w.heap.size, 1, none⟩) (by show w.heap.size < _; omega)).trans (World.cell?_alloc_new _ _ _ 1)
    have x2 : wr.cell? ⟨w.heap.size, 2, none⟩ = some (.int .i64 n) := (hB.cell (p := ⟨w.heap.size, 2, none⟩) (by show w.heap.size < _; omega)).trans (World.cell?_alloc_new _ _ _ 2)
    have hpl := putStep_len nm (s, n) (l.take k)
    have htl : (l.take k).length ≤ k := List.length_take_le _ _
    have HB := Lib.hid hB
    clear hB
    by_cases hlt : k < l.length
    · obtain ⟨g, rfl, _, hg, _, h1, h2, h3⟩ := HF.out k hlt
      have h1' := ((HB.out.cell (p := ⟨g, k * 3, none⟩) (by show g < _; omega)).trans (World.cell?_alloc_past _ _ _ hg)).trans h1
      have h2' := ((HB.out.cell (p := ⟨g, k * 3 + 1, none⟩) (by show g < _; omega)).trans (World.cell?_alloc_past _ _ _ hg)).trans h2
      have h3' := ((HB.out.cell (p := ⟨g, k * 3 + 2, none⟩) (by show g < _; omega)).trans (World.cell?_alloc_past _ _ _ hg)).trans h3
      have hst : (l.take (k + 1)).foldl (putStep nm (s, n)) ([], false) = putStep nm (s, n) ((l.take k).foldl (putStep nm (s, n)) ([], false)) l[k] := by
        rw [List.take_succ_eq_append_getElem hlt, List.foldl_append]; rfl
      obtain ⟨A2, cc2, hv2⟩ := row_slice hown
      subst hv2
      generalize hQ : (l.take k).foldl (putStep nm (s, n)) ([], false) = q at *
      obtain ⟨m, pt⟩ := q
      simp only at hown hpl
      have HW := Lib.hid hown
      have HS := Lib.hid hst
      clear h1 h2 h3 hown hst hQ
      generalize hp : l[k] = p at *
      obtain ⟨px, pb, pn⟩ := p
      simp only at h1' h2' h3'
      clear hp
      have hge : ∀ x, decide (nlt px nm) = x → Op.bytesLess px.toList nm.toList = x := geq_bool px nm
      cases pt with
      | true =>
        by_cases e : px = nm
        · have HT : Hid ((l.take (k + 1)).foldl (putStep nm (s, n)) ([], false) = (m, true)) := Lib.hid (by rw [HS.out]; simp [putStep, e])
          rw [e] at h1'
          clear HS hge e h2' h3'
          go_wp2
          go_quiet (fail)
          go_wp2
          go_quiet (fail)
          go_wp2
          go_roundw
          case rel => exact ⟨k + 1, by omega, by go_num, by rw [HT.out], by rw [HT.out]; exact HW.out, below_drewN HB.out _⟩
          case measure => simp [intOf]; omega
        · have HT : Hid ((l.take (k + 1)).foldl (putStep nm (s, n)) ([], false) = (m ++ [(px, pb, pn)], true)) := Lib.hid (by rw [HS.out]; simp [putStep, e])
          have hb := bytes_ne e
          clear HS hge e
          go_wp2
          go_quiet (fail)
          go_wp2
          go_quiet (fail)
          go_wp2_with (at_builtin; refine wpList_append_own _ rfl _ _ 84 rfl (w.heap.size + 1) 92 i0 _ 3 40 Tryz.underlying84 hi hz0 hz1 hz2 rfl (by decide) _ _ _ rfl (RowOwned.alloc HW.out _) ⟨_, 0, none⟩ 1 1 [.string px, .string pb, .int .i64 pn] rfl rfl (three_new _ _ _ _ _) (by simp [Value.oneCell']) (by unfold maxLen; omega) (by omega) (by simp; omega) ?_; intro v1 w1 hown1 hgrow1 hnil1; have HN1 := Lib.hid hown1; have HG1 := Lib.hid hgrow1; clear hown1 hgrow1 hnil1)
          go_roundw
          case rel => exact ⟨k + 1, by omega, by go_num, by rw [HT.out], by rw [HT.out, List.length_append, flat_append]; exact HN1.out, ((below_drewN HB.out _).alloc (by show _ ≤ wr.heap.size; omega) _).grown HG1.out (alloc_le (by show _ ≤ wr.heap.size; omega) _) (row_at HW.out)⟩
          case measure => simp [intOf]; omega
      | false =>
        by_cases hn : nlt px nm
        · have e : px ≠ nm := fun e => nlt_irrefl nm (by rw [e] at hn; exact hn)
          have HT : Hid ((l.take (k + 1)).foldl (putStep nm (s, n)) ([], false) = (m ++ [(px, pb, pn)], false)) := Lib.hid (by rw [HS.out]; simp [putStep, e, hn])
          have hb := bytes_ne e
          have hg' := hge true (by simpa using hn)
          clear HS hge e hn
          go_wp2
          go_quiet (fail)
          go_wp2
          go_quiet (fail)
          go_wp2_with (at_builtin; refine wpList_append_own _ rfl _ _ 84 rfl (w.heap.size + 1) 92 i0 _ 3 40 Tryz.underlying84 hi hz0 hz1 hz2 rfl (by decide) _ _ _ rfl (RowOwned.alloc HW.out _) ⟨_, 0, none⟩ 1 1 [.string px, .string pb, .int .i64 pn] rfl rfl (three_new _ _ _ _ _) (by simp [Value.oneCell']) (by unfold maxLen; omega) (by omega) (by simp; omega) ?_; intro v1 w1 hown1 hgrow1 hnil1; have HN1 := Lib.hid hown1; have HG1 := Lib.hid hgrow1; clear hown1 hgrow1 hnil1)
          go_roundw
          case rel => exact ⟨k + 1, by omega, by go_num, by rw [HT.out], by rw [HT.out, List.length_append, flat_append]; exact HN1.out, ((below_drewN HB.out _).alloc (by show _ ≤ wr.heap.size; omega) _).grown HG1.out (alloc_le (by show _ ≤ wr.heap.size; omega) _) (row_at HW.out)⟩
          case measure => simp [intOf]; omega
        · have hg' := hge false (by simpa using hn)
          by_cases e : px = nm
          · have HT : Hid ((l.take (k + 1)).foldl (putStep nm (s, n)) ([], false) = (m ++ [(nm, s, n)], true)) := Lib.hid (by rw [HS.out]; simp [putStep, e, nlt_irrefl])
            rw [e] at h1' hg'
            clear HS hge e hn h2' h3'
            go_wp2
            go_quiet (fail)
            go_wp2_with (at_builtin; refine wpList_append_own _ rfl _ _ 84 rfl (w.heap.size + 1) 92 i0 _ 3 40 Tryz.underlying84 hi hz0 hz1 hz2 rfl (by decide) _ _ _ rfl (RowOwned.alloc HW.out _) ⟨_, 0, none⟩ 1 1 [.string nm, .string s, .int .i64 n] rfl rfl (three_new _ _ _ _ _) (by simp [Value.oneCell']) (by unfold maxLen; omega) (by omega) (by simp; omega) ?_; intro v1 w1 hown1 hgrow1 hnil1; have HN1 := Lib.hid hown1; have HG1 := Lib.hid hgrow1; clear hown1 hgrow1 hnil1)
            have HB1 := Lib.hid (((below_drewN HB.out _).alloc (by show _ ≤ wr.heap.size; omega) _).grown HG1.out (alloc_le (by show _ ≤ wr.heap.size; omega) _) (row_at HW.out))
            have hkeep : ∀ p : Addr, p.block < w.heap.size + 1 → (w.alloc (.cells #[.string nm, .string s, .int .i64 n] 92)).cell? p = wr.cell? p := fun p hp => (HB.out.cell hp).symm
            have k0 := (HB1.out.cell (p := ⟨b, 0, none⟩) (by show b < _; omega)).trans ((hkeep ⟨b, 0, none⟩ (by show b < _; omega)).trans c0')
            have k1 := (HB1.out.cell (p := ⟨w.heap.size, 0, none⟩) (by show w.heap.size < _; omega)).trans ((hkeep ⟨w.heap.size, 0, none⟩ (by show w.heap.size < _; omega)).trans x0)
            have q1 := (HB1.out.cell (p := ⟨g, k * 3, none⟩) (by show g < _; omega)).trans ((hkeep ⟨g, k * 3, none⟩ (by show g < _; omega)).trans h1')
            clear hkeep
            go_quiet (fail)
            go_wp2
            go_roundw
            case rel => exact ⟨k + 1, by omega, by go_num, by rw [HT.out], by rw [HT.out, List.length_append, flat_append]; exact HN1.out, below_drewN HB1.out _⟩
            case measure => simp [intOf]; omega
          · have HT : Hid ((l.take (k + 1)).foldl (putStep nm (s, n)) ([], false) = (m ++ [(nm, s, n)] ++ [(px, pb, pn)], true)) := Lib.hid (by rw [HS.out]; simp [putStep, e, hn])
            have hb := bytes_ne e
            clear HS hge e hn
            go_wp2
            go_quiet (fail)
            go_wp2_with (at_builtin; refine wpList_append_own _ rfl _ _ 84 rfl (w.heap.size + 1) 92 i0 _ 3 40 Tryz.underlying84 hi hz0 hz1 hz2 rfl (by decide) _ _ _ rfl (RowOwned.alloc HW.out _) ⟨_, 0, none⟩ 1 1 [.string nm, .string s, .int .i64 n] rfl rfl (three_new _ _ _ _ _) (by simp [Value.oneCell']) (by unfold maxLen; omega) (by omega) (by simp; omega) ?_; intro v1 w1 hown1 hgrow1 hnil1; have HN1 := Lib.hid hown1; have HG1 := Lib.hid hgrow1; clear hown1 hgrow1 hnil1)
            have HB1 := Lib.hid (((below_drewN HB.out _).alloc (by show _ ≤ wr.heap.size; omega) _).grown HG1.out (alloc_le (by show _ ≤ wr.heap.size; omega) _) (row_at HW.out))
            have hkeep : ∀ p : Addr, p.block < w.heap.size + 1 → (w.alloc (.cells #[.string nm, .string s, .int .i64 n] 92)).cell? p = wr.cell? p := fun p hp => (HB.out.cell hp).symm
            have k0 := (HB1.out.cell (p := ⟨b, 0, none⟩) (by show b < _; omega)).trans ((hkeep ⟨b, 0, none⟩ (by show b < _; omega)).trans c0')
            have k1 := (HB1.out.cell (p := ⟨w.heap.size, 0, none⟩) (by show w.heap.size < _; omega)).trans ((hkeep ⟨w.heap.size, 0, none⟩ (by show w.heap.size < _; omega)).trans x0)
            have q1 := (HB1.out.cell (p := ⟨g, k * 3, none⟩) (by show g < _; omega)).trans ((hkeep ⟨g, k * 3, none⟩ (by show g < _; omega)).trans h1')
            have q2 := (HB1.out.cell (p := ⟨g, k * 3 + 1, none⟩) (by show g < _; omega)).trans ((hkeep ⟨g, k * 3 + 1, none⟩ (by show g < _; omega)).trans h2')
            have q3 := (HB1.out.cell (p := ⟨g, k * 3 + 2, none⟩) (by show g < _; omega)).trans ((hkeep ⟨g, k * 3 + 2, none⟩ (by show g < _; omega)).trans h3')
            clear hkeep
            have hsz1 : w.heap.size + 1 ≤ w1.heap.size := (Nat.le_trans (by simp) HB1.out.size)
            obtain ⟨A3, cc3, hv3⟩ := row_slice HN1.out
            subst hv3
            go_quiet (fail)
            go_wp2_with (at_builtin; refine wpList_append_own _ rfl _ _ 84 rfl (w.heap.size + 1) 92 i0 _ 3 40 Tryz.underlying84 hi hz0 hz1 hz2 rfl (by decide) _ _ _ rfl (RowOwned.alloc HN1.out _) ⟨_, 0, none⟩ 1 1 [.string px, .string pb, .int .i64 pn] rfl rfl (three_new _ _ _ _ _) (by simp [Value.oneCell']) (by unfold maxLen; omega) (by omega) (by simp; omega) ?_; intro v2 w2 hown2 hgrow2 hnil2; have HN2 := Lib.hid hown2; have HG2 := Lib.hid hgrow2; clear hown2 hgrow2 hnil2)
            go_roundw
            case rel => exact ⟨k + 1, by omega, by go_num, by rw [HT.out], by rw [HT.out, List.length_append, flat_append, List.length_append, flat_append]; exact HN2.out, ((below_drewN HB1.out _).alloc (by show _ ≤ w1.heap.size; exact hsz1) _).grown HG2.out (alloc_le (by show _ ≤ w1.heap.size; exact hsz1) _) (row_at HN1.out)⟩
            case measure => simp [intOf]; omega
    · have hkl : k = l.length := by omega
      subst hkl
      rw [List.take_length] at hown hpl
      rw [List.take_length]
      have hall := putStep_all nm (s, n) l []
      generalize hQ : l.foldl (putStep nm (s, n)) ([], false) = q at *
      obtain ⟨m, pt⟩ := q
      simp only [List.nil_append] at hown hpl hall
      obtain ⟨A2, cc2, hv2⟩ := row_slice hown
      subst hv2
      have HW := Lib.hid hown
      clear hown hQ
      have hal : Below w.heap.size w (w.alloc (.cells #[.string nm, .string s, .int .i64 n] 92)) := (Below.refl _ _).alloc (Nat.le_refl _) _
      have HB0 := Lib.hid (hal.trans (HB.out.mono (Nat.le_succ _)))
      clear hal
      cases pt with
      | true =>
        simp only [if_true] at hall
        subst hall
        go_wp2
        go_end0
        exact ⟨rfl, ⟨_, RIs.stored HR.out HB0.out (row_base HW.out (Nat.le_succ _)) hbase (HR.out.rel.put nm (s, n))⟩, Only.stored HB0.out _⟩
      | false =>
        simp only [Bool.false_eq_true, if_false] at hall
        have HA := Lib.hid hall
        clear hall
        go_wp2_with (at_builtin; refine wpList_append_own _ rfl _ _ 84 rfl (w.heap.size + 1) 92 i0 _ 3 40 Tryz.underlying84 hi hz0 hz1 hz2 rfl (by decide) _ _ _ rfl (RowOwned.alloc HW.out _) ⟨_, 0, none⟩ 1 1 [.string nm, .string s, .int .i64 n] rfl rfl (three_new _ _ _ _ _) (by simp [Value.oneCell']) (by unfold maxLen; omega) (by omega) (by simp; omega) ?_; intro v1 w1 hown1 hgrow1 hnil1; have HN1 := Lib.hid hown1; have HG1 := Lib.hid hgrow1; clear hown1 hgrow1 hnil1; have HB1 := Lib.hid ((HB0.out.alloc (by omega) _).grown HG1.out (alloc_le (by omega) _) (fun k hk => Nat.le_of_succ_le (row_at HW.out k hk))); have f1 : w1.frozen? ⟨b, 0, none⟩ = false := (HB1.out.frozen (p := ⟨b, 0, none⟩) lb).trans (HR.out.fr 0); have k0 := (HB1.out.cell (p := ⟨b, 0, none⟩) lb).trans c0; obtain ⟨A4, cc4, hv4⟩ := row_slice HN1.out; subst hv4)
        go_end0
        refine ⟨rfl, ⟨_, RIs.stored (m := insL nm (s, n) l) HR.out HB1.out ?_ hbase (HR.out.rel.put nm (s, n))⟩, Only.stored HB1.out _⟩
        rw [← HA.out, List.length_append, flat_append]
        exact row_base HN1.out (Nat.le_succ _)
end Go.Proofs.YtlmnmjnmilaipaaGreatDoor.Rk

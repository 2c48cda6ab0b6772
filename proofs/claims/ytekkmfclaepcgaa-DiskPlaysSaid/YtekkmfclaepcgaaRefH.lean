/- List, Sync, Remove of the document's own disk; rows written in place. -/
import Derived.Test.YtekkmfclaepcgaaRefG
import Derived.Test.YtekkmfclaepcgaaDiskZ
set_option linter.unusedVariables false
namespace Go.Proofs.Ytekkmfclaepcgaa
open Go.RowKit

theorem ownsRow_set {w : World} {base g n c i : Nat} {e : TypeId} {size : Nat} {xs : List Value} (h : w.ownsRow base e size (.slice (some ⟨g, 0, none⟩) n c) n xs) (u : Value) (hi : i < n * size) : (w.setCell ⟨g, i, none⟩ u).ownsRow base e size (.slice (some ⟨g, 0, none⟩) n c) n (xs.set i u) := by
  obtain ⟨h1, h2⟩ := h
  refine ⟨by simpa using h1, ?_⟩
  rcases h2 with ⟨h2, _⟩ | ⟨g', cap, cur, hv, hb, hh, hn, hc, hs, ht⟩
  · cases h2
  · cases hv
    refine Or.inr ⟨g, c, cur.setIfInBounds i u, rfl, hb, by rw [rblk_setCell hh], hn, hc, by simpa using hs, ?_⟩
    rw [Array.toList_setIfInBounds, List.take_set, ht]
theorem flat_set2 : ∀ (l : Fl) (i : Nat) (a b : ByteArray) (n n' : Nat), l[i]? = some (a, b, n) → flat (l.set i (a, b, n')) = (flat l).set (i * 3 + 2) (.int .i64 n')
  | [], i, a, b, n, n', h => by simp at h
  | p :: l, 0, a, b, n, n', h => by
    simp at h
    subst h
    rfl
  | p :: l, i + 1, a, b, n, n', h => by
    have ih := flat_set2 l i a b n n' (by simpa using h)
    have e : ∀ (q : ByteArray × (ByteArray × Nat)) (m : Fl), flat (q :: m) = [.string q.1, .string q.2.1, .int .i64 q.2.2] ++ flat m := fun _ _ => rfl
    rw [List.set_cons_succ, e, ih, e, show (i + 1) * 3 + 2 = i * 3 + 2 + 3 by omega]
    rfl
theorem flat_set3 : ∀ (l : Fl) (i : Nat) (a b : ByteArray) (n : Nat), i < l.length → flat (l.set i (a, b, n)) = (((flat l).set (i * 3) (.string a)).set (i * 3 + 1) (.string b)).set (i * 3 + 2) (.int .i64 n)
  | [], i, a, b, n, h => by simp at h
  | p :: l, 0, a, b, n, h => rfl
  | p :: l, i + 1, a, b, n, h => by
    have ih := flat_set3 l i a b n (by simpa using h)
    have e : ∀ (q : ByteArray × (ByteArray × Nat)) (m : Fl), flat (q :: m) = [.string q.1, .string q.2.1, .int .i64 q.2.2] ++ flat m := fun _ _ => rfl
    rw [List.set_cons_succ, e, ih, e, show (i + 1) * 3 + 2 = i * 3 + 2 + 3 by omega, show (i + 1) * 3 + 1 = i * 3 + 1 + 3 by omega, show (i + 1) * 3 = i * 3 + 3 by omega]
    rfl
theorem map_set_same : ∀ (l : Fl) (i : Nat) (p q : ByteArray × (ByteArray × Nat)), l[i]? = some p → q.1 = p.1 → (l.set i q).map (·.1) = l.map (·.1)
  | [], i, p, q, h, e => by simp at h
  | r :: l, 0, p, q, h, e => by
    simp at h
    subst h
    simp [e]
  | r :: l, i + 1, p, q, h, e => by
    have ih := map_set_same l i p q (by simpa using h) e
    simp [ih]
theorem sorted_names {l : Fl} : SortedL l ↔ (l.map (·.1)).Pairwise nlt := by unfold SortedL; rw [List.pairwise_map]
theorem aget_set : ∀ (l : Fl) (i : Nat) (nm : ByteArray) (z z' : ByteArray × Nat), (l.map (·.1)).Nodup → l[i]? = some (nm, z) → ∀ j, aget (l.set i (nm, z')) j = if j = nm then some z' else aget l j
  | [], i, nm, z, z', hn, h, j => by simp at h
  | r :: l, 0, nm, z, z', hn, h, j => by
    simp at h
    subst h
    by_cases e : j = nm
    · subst e; simp [aget]
    · rw [if_neg e]
      unfold aget
      rw [List.set_cons_zero, List.find?_cons_of_neg (by simpa using fun e2 => e e2.symm), List.find?_cons_of_neg (by simpa using fun e2 => e e2.symm)]
  | r :: l, i + 1, nm, z, z', hn, h, j => by
    have hn2 : (l.map (·.1)).Nodup ∧ r.1 ∉ l.map (·.1) := by
      rw [List.map_cons, List.nodup_cons] at hn
      exact ⟨hn.2, hn.1⟩
    have h' : l[i]? = some (nm, z) := by simpa using h
    have ih := aget_set l i nm z z' hn2.1 h' j
    rw [List.set_cons_succ]
    by_cases e : r.1 = j
    · have hj : j ≠ nm := by
        rintro rfl
        exact hn2.2 (by rw [e]; exact List.mem_map.2 ⟨_, List.mem_of_getElem? h', rfl⟩)
      rw [if_neg hj]
      unfold aget
      rw [List.find?_cons_of_pos (by simpa using e), List.find?_cons_of_pos (by simpa using e)]
    · unfold aget at ih ⊢
      rw [List.find?_cons_of_neg (by simpa using e), List.find?_cons_of_neg (by simpa using e)]
      exact ih
theorem RefRel.set {l fs : Fl} (h : RefRel l fs) {i : Nat} {nm : ByteArray} {z : ByteArray × Nat} (hi : l[i]? = some (nm, z)) (z' : ByteArray × Nat) : RefRel (l.set i (nm, z')) (aput fs nm z') := by
  refine ⟨?_, fun j => ?_⟩
  · rw [sorted_names, map_set_same l i (nm, z) (nm, z') hi rfl, ← sorted_names]
    exact h.sorted
  · rw [aget_set l i nm z z' h.sorted.nodup hi]
    split
    · rename_i e; subst e; rw [aget_aput_same]
    · rename_i e; rw [aget_aput_other _ _ _ _ e, h.same]
/-- One number of a file is written. -/
theorem RIs.set2 {w : World} {base b g c : Nat} {D : Dk} {l : Fl} {m : Nat} (h : RIs w base b D l (.slice (some ⟨g, 0, none⟩) m c)) {i : Nat} {nm : ByteArray} {z : ByteArray × Nat} (hi : l[i]? = some (nm, z)) (n' : Nat) :
    RIs (w.setCell ⟨g, i * 3 + 2, none⟩ (.int .i64 n')) base b { D with files := aput D.files nm (z.1, n') } (l.set i (nm, z.1, n')) (.slice (some ⟨g, 0, none⟩) m c) := by
  have hil := (List.getElem?_eq_some_iff.1 hi).1
  have hr := h.row
  have hm : m = l.length := by
    rcases hr.2 with ⟨hv, _⟩ | ⟨g', cap, cur, hv, _⟩
    · cases hv
    · cases hv; rfl
  subst hm
  refine ⟨h.rel.set hi _, ?_, ?_, h.le⟩
  · have := (h.row_ne g rfl).1
    rw [Below.heap_setCell _ _ _ _ (fun e => this (by simpa using e.symm))]
    exact h.blk
  · rw [List.length_set, flat_set2 l i nm z.1 z.2 n' hi]
    exact ownsRow_set hr _ (by omega)

set_option maxHeartbeats 1000000 in
set_option maxRecDepth 100000 in
theorem rlist_any (base b : Nat) (D : Dk) (l : Fl) (v : Value) (w : World) (h : RIs w base b D l v) (hl9 : l.length ≤ 9) :
    Calls Try.prog 31 #[.pointer (some ⟨b, 0, none⟩)] w fun e w' => ∃ A c, e = .returned (.slice A l.length c) ∧ ReadsS w' A (l.map (·.1)) ∧ Below w.heap.size w w' := by
  obtain ⟨A, c, rfl, hl, hf⟩ := h.file
  have c0 := h.c0
  have lb := h.lt
  obtain ⟨i0, hi, hz0, hz1, hz2⟩ := info_parts infoStr
  have HF := Lib.hid hf
  clear hf h hl
  go_enter Try.func31, Try.ntmps31
  go_wp2
  go_loopw [3, 4] (fun out i wr => ∃ k : Nat, k ≤ l.length ∧ i = .int .i64 k ∧ wr.ownsRow w.heap.size 9 1 out k ((l.take k).map (fun p => Value.string p.1)) ∧ Below w.heap.size w wr) (fun _ i _ => l.length - (intOf i).toNat)
  case atStart => exact ⟨0, Nat.zero_le _, rfl, ⟨rfl, .inl ⟨rfl, rfl⟩⟩, Below.refl _ _⟩
  case round =>
    obtain ⟨k, hk, rfl, hown, hB⟩ := hrel
    have hsz := hB.size
    have c0' := (hB.cell (p := ⟨b, 0, none⟩) lb).trans c0
    have HB := Lib.hid hB
    clear hB
    obtain ⟨A2, cc2, hv2⟩ := row_slice hown
    subst hv2
    by_cases hlt : k < l.length
    · obtain ⟨g, rfl, _, hg, _, h1, _, _⟩ := HF.out k hlt
      have h1' := (HB.out.cell (p := ⟨g, k * 3, none⟩) hg).trans h1
      have htk := Lib.hid (show (l.take (k + 1)).map (fun p => Value.string p.1) = (l.take k).map (fun p => Value.string p.1) ++ [.string l[k].1] by rw [List.take_succ_eq_append_getElem hlt, List.map_append]; rfl)
      have HW := Lib.hid hown
      clear h1 hown
      generalize hp : l[k].1 = px at *
      clear hp
      go_wp2_with (at_builtin; refine wpList_append_own _ rfl _ _ 26 rfl w.heap.size 9 i0 _ 1 16 Try.underlying26 hi hz0 hz1 hz2 rfl (by decide) _ _ _ rfl (RowOwned.alloc HW.out _) ⟨_, 0, none⟩ 1 1 [.string px] rfl rfl (one_new _ _ _) (by simp [Value.oneCell']) (by unfold maxLen; omega) (by omega) (by simp; omega) ?_; intro v1 w1 hown1 hgrow1 hnil1; have HN1 := Lib.hid hown1; have HG1 := Lib.hid hgrow1; clear hown1 hgrow1 hnil1)
      go_roundw
      case rel => exact ⟨k + 1, by omega, by go_num, by rw [htk.out]; exact HN1.out, (HB.out.alloc (by omega) _).grown HG1.out (alloc_le (by omega) _) (row_at HW.out)⟩
      case measure => simp [intOf]; omega
    · have hkl : k = l.length := by omega
      subst hkl
      rw [List.take_length] at hown
      have HW := Lib.hid hown
      clear hown
      go_wp2
      go_ret
      refine ⟨A2, cc2, rfl, fun i hil => ?_, HB.out⟩
      rw [List.length_map] at hil
      rcases HW.out.2 with ⟨_, h0⟩ | ⟨g, cap, cur, hv, _⟩
      · omega
      · cases hv
        refine ⟨g, 0, rfl, ?_⟩
        rw [Nat.zero_add]
        refine (HW.out.cellAt _ (by omega)).trans ?_
        simp [List.getD_eq_getElem?_getD, hil]
end Go.Proofs.Ytekkmfclaepcgaa

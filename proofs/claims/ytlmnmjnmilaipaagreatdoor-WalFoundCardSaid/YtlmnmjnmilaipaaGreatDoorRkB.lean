/- The law's own disk: List, Remove, Sync, Append, Rename, Restart. -/
import Derived.Test.YtlmnmjnmilaipaaGreatDoorRkA
set_option linter.unusedVariables false
set_option linter.unusedSimpArgs false
namespace Go.Proofs.YtlmnmjnmilaipaaGreatDoor.Rk
open Go Go.RowKit PR Go.Proofs.YtlmnmjnmilaipaaGreatDoorW.PrintWords

theorem ownsRow_set {w : World} {base g n c i : Nat} {e : TypeId} {size : Nat} {xs : List Value} (h : w.ownsRow base e size (.slice (some ⟨g, 0, none⟩) n c) n xs) (u : Value) (hi : i < n * size) : (w.setCell ⟨g, i, none⟩ u).ownsRow base e size (.slice (some ⟨g, 0, none⟩) n c) n (xs.set i u) := by
  obtain ⟨h1, h2⟩ := h
  refine ⟨by simpa using h1, ?_⟩
  rcases h2 with ⟨h2, _⟩ | ⟨g', cap, cur, hv, hb, hh, hn, hc, hs, ht⟩
  · cases h2
  · cases hv
    refine Or.inr ⟨g, c, cur.setIfInBounds i u, rfl, hb, by rw [rblk_setCell hh], hn, hc, by simpa using hs, ?_⟩
    rw [Array.toList_setIfInBounds, List.take_set, ht]
theorem flat_set2 : ∀ (l : Fl) (i : Nat) (a b : ByteArray) (n n' : Nat), l[i]? = some (a, b, n) → flat (l.set i (a, b, n')) = (flat l).set (i * 3 + 2) (.int .i64 n')
  | [], i, a, b, n, n', h => by simp at h
  | p :: l, 0, a, b, n, n', h => by
    simp at h
    subst h
    rfl
  | p :: l, i + 1, a, b, n, n', h => by
    have ih := flat_set2 l i a b n n' (by simpa using h)
    have e : ∀ (q : ByteArray × (ByteArray × Nat)) (m : Fl), flat (q :: m) = [.string q.1, .string q.2.1, .int .i64 q.2.2] ++ flat m := fun _ _ => rfl
    rw [List.set_cons_succ, e, ih, e, show (i + 1) * 3 + 2 = i * 3 + 2 + 3 by omega]
    rfl
theorem flat_set3 : ∀ (l : Fl) (i : Nat) (a b : ByteArray) (n : Nat), i < l.length → flat (l.set i (a, b, n)) = (((flat l).set (i * 3) (.string a)).set (i * 3 + 1) (.string b)).set (i * 3 + 2) (.int .i64 n)
  | [], i, a, b, n, h => by simp at h
  | p :: l, 0, a, b, n, h => rfl
  | p :: l, i + 1, a, b, n, h => by
    have ih := flat_set3 l i a b n (by simpa using h)
    have e : ∀ (q : ByteArray × (ByteArray × Nat)) (m : Fl), flat (q :: m) = [.string q.1, .string q.2.1, .int .i64 q.2.2] ++ flat m := fun _ _ => rfl
    rw [List.set_cons_succ, e, ih, e, show (i + 1) * 3 + 2 = i * 3 + 2 + 3 by omega, show (i + 1) * 3 + 1 = i * 3 + 1 + 3 by omega, show (i + 1) * 3 = i * 3 + 3 by omega]
    rfl
theorem map_set_same : ∀ (l : Fl) (i : Nat) (p q : ByteArray × (ByteArray × Nat)), l[i]? = some p → q.1 = p.1 → (l.set i q).map (·.1) = l.map (·.1)
  | [], i, p, q, h, e => by simp at h
  | r :: l, 0, p, q, h, e => by
    simp at h
    subst h
    simp [e]
  | r :: l, i + 1, p, q, h, e => by
    have ih := map_set_same l i p q (by simpa using h) e
    simp [ih]
theorem sorted_names {l : Fl} : SortedL l ↔ (l.map (·.1)).Pairwise nlt := by unfold SortedL; rw [List.pairwise_map]
theorem aget_set : ∀ (l : Fl) (i : Nat) (nm : ByteArray) (z z' : ByteArray × Nat), (l.map (·.1)).Nodup → l[i]? = some (nm, z) → ∀ j, aget (l.set i (nm, z')) j = if j = nm then some z' else aget l j
  | [], i, nm, z, z', hn, h, j => by simp at h
  | r :: l, 0, nm, z, z', hn, h, j => by
    simp at h
    subst h
    by_cases e : j = nm
    · subst e; simp [aget]
    · rw [if_neg e]
      unfold aget
      rw [List.set_cons_zero, List.find?_cons_of_neg (by simpa using fun e2 => e e2.symm), List.find?_cons_of_neg (by simpa using fun e2 => e e2.symm)]
  | r :: l, i + 1, nm, z, z', hn, h, j => by
    have hn2 : (l.map (·.1)).Nodup ∧ r.1 ∉ l.map (·.1) := by
      rw [List.map_cons, List.nodup_cons] at hn
      exact ⟨hn.2, hn.1⟩
    have h' : l[i]? = some (nm, z) := by simpa using h
    have ih := aget_set l i nm z z' hn2.1 h' j
    rw [List.set_cons_succ]
    by_cases e : r.1 = j
    · have hj : j ≠ nm := by
        rintro rfl
        exact hn2.2 (by rw [e]; exact List.mem_map.2 ⟨_, List.mem_of_getElem? h', rfl⟩)
      rw [if_neg hj]
      unfold aget
      rw [List.find?_cons_of_pos (by simpa using e), List.find?_cons_of_pos (by simpa using e)]
    · unfold aget at ih ⊢
      rw [List.find?_cons_of_neg (by simpa using e), List.find?_cons_of_neg (by simpa using e)]
      exact ih
theorem RefRel.set {l fs : Fl} (h : RefRel l fs) {i : Nat} {nm : ByteArray} {z : ByteArray × Nat} (hi : l[i]? = some (nm, z)) (z' : ByteArray × Nat) : RefRel (l.set i (nm, z')) (aput fs nm z') := by
  refine ⟨?_, fun j => ?_⟩
  · rw [sorted_names, map_set_same l i (nm, z) (nm, z') hi rfl, ← sorted_names]
    exact h.sorted
  · rw [aget_set l i nm z z' h.sorted.nodup hi]
    split
    · rename_i e; subst e; rw [aget_aput_same]
    · rename_i e; rw [aget_aput_other _ _ _ _ e, h.same]
/-- One number of a file is written. -/
theorem RIs.set2 {w : World} {base b g c : Nat} {D : Dk} {l : Fl} {m : Nat} (h : RIs w base b D l (.slice (some ⟨g, 0, none⟩) m c)) {i : Nat} {nm : ByteArray} {z : ByteArray × Nat} (hi : l[i]? = some (nm, z)) (n' : Nat) :
    RIs (w.setCell ⟨g, i * 3 + 2, none⟩ (.int .i64 n')) base b { D with files := aput D.files nm (z.1, n') } (l.set i (nm, z.1, n')) (.slice (some ⟨g, 0, none⟩) m c) := by
  have hil := (List.getElem?_eq_some_iff.1 hi).1
  have hr := h.row
  have hm : m = l.length := by
    rcases hr.2 with ⟨hv, _⟩ | ⟨g', cap, cur, hv, _⟩
    · cases hv
    · cases hv; rfl
  subst hm
  refine ⟨h.rel.set hi _, ?_, ?_, h.le⟩
  · have := (h.row_ne g rfl).1
    rw [Below.heap_setCell _ _ _ _ (fun e => this (by simpa using e.symm))]
    exact h.blk
  · rw [List.length_set, flat_set2 l i nm z.1 z.2 n' hi]
    exact ownsRow_set hr _ (by omega)

set_option maxHeartbeats 1000000 in
set_option maxRecDepth 100000 in
theorem names_encs (l : Fl) : l.map (fun p => Value.string p.1) = encs Value.string (l.map (·.1)) := by unfold encs; rw [List.map_map]; rfl
theorem rlist_any (base b : Nat) (D : Dk) (l : Fl) (v : Value) (w : World) (h : RIs w base b D l v) (hl9 : l.length ≤ 9) :
    Calls Tryz.prog 59 #[.pointer (some ⟨b, 0, none⟩)] w fun e w' => ∃ A c, e = .returned (.slice A l.length c) ∧ Kd.R Kd.string 9 w' w.heap.size (fun _ => True) (.slice A l.length c) (l.map (·.1)) ∧ Below w.heap.size w w' := by
  obtain ⟨A, c, rfl, hl, hf⟩ := h.file
  have c0 := h.c0
  have lb := h.lt
  obtain ⟨i0, hi, hz0, hz1, hz2⟩ := info_parts infoStr
  have HF := Lib.hid hf
  clear hf h hl
  go_enter Tryz.func59, Tryz.ntmps59
  go_wp2
  go_loopw [3, 4] (fun out i wr => ∃ k : Nat, k ≤ l.length ∧ i = .int .i64 k ∧ wr.ownsRow w.heap.size 9 1 out k ((l.take k).map (fun p => Value.string p.1)) ∧ Below w.heap.size w wr) (fun _ i _ => l.length - (intOf i).toNat)
  case atStart => exact ⟨0, Nat.zero_le _, rfl, ⟨rfl, .inl ⟨rfl, rfl⟩⟩, Below.refl _ _⟩
  case round =>
    obtain ⟨k, hk, rfl, hown, hB⟩ := hrel
    have hsz := hB.size
    have c0' := (hB.cell (p := ⟨b, 0, none⟩) lb).trans c0
    have HB := Lib.hid hB
    clear hB
    obtain ⟨A2, cc2, hv2⟩ := row_slice hown
    subst hv2
    by_cases hlt : k < l.length
    · obtain ⟨g, rfl, _, hg, _, h1, _, _⟩ := HF.out k hlt
      have h1' := (HB.out.cell (p := ⟨g, k * 3, none⟩) hg).trans h1
      have htk := Lib.hid (show (l.take (k + 1)).map (fun p => Value.string p.1) = (l.take k).map (fun p => Value.string p.1) ++ [.string l[k].1] by rw [List.take_succ_eq_append_getElem hlt, List.map_append]; rfl)
      have HW := Lib.hid hown
      clear h1 hown
      generalize hp : l[k].1 = px at *
      clear hp
      go_wp2_with (at_builtin; refine wpList_append_own _ rfl _ _ 22 rfl w.heap.size 9 i0 _ 1 16 Tryz.underlying22 hi hz0 hz1 hz2 rfl (by decide) _ _ _ rfl (RowOwned.alloc HW.out _) ⟨_, 0, none⟩ 1 1 [.string px] rfl rfl (one_new _ _ _) (by simp [Value.oneCell']) (by unfold maxLen; omega) (by omega) (by simp; omega) ?_; intro v1 w1 hown1 hgrow1 hnil1; have HN1 := Lib.hid hown1; have HG1 := Lib.hid hgrow1; clear hown1 hgrow1 hnil1)
      go_roundw
      case rel => exact ⟨k + 1, by omega, by go_num, by rw [htk.out]; exact HN1.out, (HB.out.alloc (by omega) _).grown HG1.out (alloc_le (by omega) _) (row_at HW.out)⟩
      case measure => simp [intOf]; omega
    · have hkl : k = l.length := by omega
      subst hkl
      rw [List.take_length] at hown
      have HW := Lib.hid hown
      clear hown
      go_wp2
      go_ret
      refine ⟨A2, cc2, rfl, Kd.R_of_own ?_ (fun _ _ => trivial), HB.out⟩
      rw [List.length_map, ← names_encs]
      exact HW.out


theorem tick_off_cases (D : Dk) : (D.tick.off = true ∧ (if D.tick.off then (100 : Int) else 0) = 100) ∨ (D.tick.off = false ∧ (if D.tick.off then (100 : Int) else 0) = 0) := by
  cases h : D.tick.off <;> simp

set_option maxHeartbeats 2000000 in
set_option maxRecDepth 100000 in
theorem rremove_any (base b : Nat) (D : Dk) (l : Fl) (v : Value) (nm : ByteArray) (w : World) (h : RIs w base b D l v) (hD : D.Ok) :
    Calls Tryz.prog 56 #[.pointer (some ⟨b, 0, none⟩), .string nm] w fun e w' => e = .returned (.int .i64 (D.remove nm).1) ∧ (∃ l' v', RIs w' base b (D.remove nm).2 l' v') ∧ Only (RS w base b) w w' := by
  have hact := ract_any base b D l v w h hD.acts
  have HA := Lib.hid hact
  have hle := h.le
  have hbs := Nat.le_trans h.le (Nat.le_of_lt h.lt)
  have hlen : l.length ≤ 9 := by have := h.rel.len hD.nodup; have := hD.many; omega
  have tf := tick_files D
  clear hact
  rcases tick_off_cases D with ⟨ho, hc⟩ | ⟨ho, hc⟩
  · rw [hc] at HA
    have hr : D.remove nm = (100, D.tick) := by simp [Dk.remove, ho]
    rw [hr]
    have HT := Lib.hid tf
    clear hr ho hc h hD tf
    go_enter Tryz.func56, Tryz.ntmps56
    go_wp2_with fail
    refine HA.out.mono ?_
    rintro e w1 ⟨rfl, h1, o1, s1⟩
    have H1 := Lib.hid h1
    have O1 := Lib.hid o1
    clear h1 o1
    go_wp2
    go_ret
    exact ⟨rfl, ⟨l, v, H1.out⟩, O1.out.mono (fun k _ hk => Or.inl hk)⟩
  · rw [hc] at HA
    cases hg : aget D.files nm with
    | none =>
      have hr : D.remove nm = (101, D.tick) := by simp [Dk.remove, ho, hg]
      have hpl : placeOf l nm = -1 := place_none (by rw [h.rel.same, hg])
      rw [hr]
      clear hr ho hc h hD hg tf
      go_enter Tryz.func56, Tryz.ntmps56
      go_wp2_with fail
      refine HA.out.mono ?_
      rintro e w1 ⟨rfl, h1, o1, s1⟩
      have HT := Lib.hid (rat_any base b D.tick l v nm w1 h1)
      rw [hpl] at HT
      have H1 := Lib.hid h1
      have O1 := Lib.hid o1
      clear h1 o1 hpl
      go_wp2_with (go_at_call 50; refine HT.out.mono ?_; rintro e w2 ⟨rfl, rfl⟩)
      go_ret
      exact ⟨rfl, ⟨l, v, H1.out⟩, O1.out.mono (fun k _ hk => Or.inl hk)⟩
    | some z =>
      have hr : D.remove nm = (0, { D.tick with files := adel D.files nm }) := by simp [Dk.remove, ho, hg]
      obtain ⟨i, hpl, hil, hz⟩ := place_some h.rel.sorted.nodup (by rw [h.rel.same]; exact hg)
      rw [hr]
      clear hr ho hc h hD hg hz
      go_enter Tryz.func56, Tryz.ntmps56
      go_wp2_with fail
      refine HA.out.mono ?_
      rintro e w1 ⟨rfl, h1, o1, s1⟩
      have HT := Lib.hid (rat_any base b D.tick l v nm w1 h1)
      rw [hpl] at HT
      have HD := Lib.hid (rdrop_any base b D.tick l v nm w1 h1 hlen (by omega))
      have TF := Lib.hid tf
      have O1 := Lib.hid o1
      clear h1 o1 hpl tf
      go_wp2_with (go_at_call 50; refine HT.out.mono ?_; rintro e w2 ⟨rfl, rfl⟩)
      refine HD.out.mono ?_
      rintro e w3 ⟨rfl, ⟨v3, h3, -⟩, o3⟩
      have H3 := Lib.hid h3
      have O3 := Lib.hid o3
      clear h3 o3
      go_wp2
      go_ret
      exact ⟨rfl, ⟨_, v3, by rw [← TF.out]; exact H3.out⟩, (O1.out.trans O3.out).mono (fun k _ hk => Or.inl hk)⟩

set_option maxHeartbeats 2000000 in
set_option maxRecDepth 100000 in
theorem rsync_any (base b : Nat) (D : Dk) (l : Fl) (v : Value) (nm : ByteArray) (w : World) (h : RIs w base b D l v) (hD : D.Ok) :
    Calls Tryz.prog 63 #[.pointer (some ⟨b, 0, none⟩), .string nm] w fun e w' => e = .returned (.int .i64 (D.sync nm).1) ∧ (∃ l' v', RIs w' base b (D.sync nm).2 l' v') ∧ Only (RS w base b) w w' := by
  have hact := ract_any base b D l v w h hD.acts
  have HA := Lib.hid hact
  have hle := h.le
  have hbs := Nat.le_trans h.le (Nat.le_of_lt h.lt)
  have hlen : l.length ≤ 9 := by have := h.rel.len hD.nodup; have := hD.many; omega
  have tf := tick_files D
  clear hact
  rcases tick_off_cases D with ⟨ho, hc⟩ | ⟨ho, hc⟩
  · rw [hc] at HA
    have hr : D.sync nm = (100, D.tick) := by simp [Dk.sync, ho]
    rw [hr]
    have HT := Lib.hid tf
    clear hr ho hc h hD tf
    go_enter Tryz.func63, Tryz.ntmps63
    go_wp2_with fail
    refine HA.out.mono ?_
    rintro e w1 ⟨rfl, h1, o1, s1⟩
    have H1 := Lib.hid h1
    have O1 := Lib.hid o1
    clear h1 o1
    go_wp2
    go_ret
    exact ⟨rfl, ⟨l, v, H1.out⟩, O1.out.mono (fun k _ hk => Or.inl hk)⟩
  · rw [hc] at HA
    cases hg : aget D.files nm with
    | none =>
      have hr : D.sync nm = (101, D.tick) := by simp [Dk.sync, ho, hg]
      have hpl : placeOf l nm = -1 := place_none (by rw [h.rel.same, hg])
      rw [hr]
      clear hr ho hc h hD hg tf
      go_enter Tryz.func63, Tryz.ntmps63
      go_wp2_with fail
      refine HA.out.mono ?_
      rintro e w1 ⟨rfl, h1, o1, s1⟩
      have HT := Lib.hid (rat_any base b D.tick l v nm w1 h1)
      rw [hpl] at HT
      have H1 := Lib.hid h1
      have O1 := Lib.hid o1
      clear h1 o1 hpl
      go_wp2_with (go_at_call 50; refine HT.out.mono ?_; rintro e w2 ⟨rfl, rfl⟩)
      go_ret
      exact ⟨rfl, ⟨l, v, H1.out⟩, O1.out.mono (fun k _ hk => Or.inl hk)⟩
    | some z =>
      have hr : D.sync nm = (0, { D.tick with files := aput D.files nm (z.1, z.1.size) }) := by simp [Dk.sync, ho, hg]
      obtain ⟨i, hpl, hil, hz⟩ := place_some h.rel.sorted.nodup (by rw [h.rel.same]; exact hg)
      have hsz : z.1.size ≤ 65536 := hD.bytes _ (aget_mem' hg)
      have HRS := Lib.hid h.rs
      rw [hr]
      clear hr ho hc h hD hg
      go_enter Tryz.func63, Tryz.ntmps63
      go_wp2_with fail
      refine HA.out.mono ?_
      rintro e w1 ⟨rfl, h1, o1, s1⟩
      have HT := Lib.hid (rat_any base b D.tick l v nm w1 h1)
      rw [hpl] at HT
      obtain ⟨A, c, rfl, hl, hf⟩ := h1.file
      unfold maxLen at hl
      obtain ⟨g, rfl, hown, hgl, hfr, c1, c2, c3⟩ := hf i hil
      have hgb := HRS.out g hown
      rw [hz] at c2 c3
      have fr := hfr (i * 3 + 2)
      have d0 := h1.c0
      have hset := h1.set2 (i := i) (by rw [List.getElem?_eq_getElem hil, hz]) z.1.size
      have H1 := Lib.hid hset
      have O1 := Lib.hid ((o1.mono (T := RS w base b) (fun k _ hk => Or.inl hk)).setCell (p := ⟨g, i * 3 + 2, none⟩) (fun _ => hgb) (.int .i64 z.1.size))
      have TF := Lib.hid tf
      obtain ⟨zb, zn⟩ := z
      simp only at c2 c3 H1 hsz
      clear h1 o1 hpl tf hf c1 hfr hset hz
      go_wp2_with (go_at_call 50; refine HT.out.mono ?_; rintro e w2 ⟨rfl, rfl⟩)
      go_region
      all_goals go_wp2
      all_goals go_ret
      all_goals exact ⟨rfl, ⟨_, _, by rw [← TF.out]; exact ⟨H1.out.rel, H1.out.blk, H1.out.row, H1.out.le⟩⟩, O1.out.drew⟩


theorem RIs.alloc {w : World} {base b : Nat} {D : Dk} {l : Fl} {v : Value} (h : RIs w base b D l v) (o : Obj) : RIs (w.alloc o) base b D l v :=
  h.only ((Only.refl (fun _ => False) w).alloc o) (fun x => x) (fun _ _ x => x)
/-- A store into a new block. -/
theorem RIs.past {w w' : World} {base b : Nat} {D : Dk} {l : Fl} {v : Value} (h : RIs w base b D l v) (ho : Only (fun _ => False) w w') {p : Addr} (hp : w.heap.size ≤ p.block) (u : Value) : RIs (w'.setCell p u) base b D l v := by
  refine h.only (S := fun k => k = p.block) ((ho.mono (T := fun k => k = p.block) (fun _ _ x => x.elim)).setCell (fun _ => rfl) u) (fun e => ?_) (fun k hk e => ?_)
  · have := h.lt
    omega
  · have := (h.row_ne k hk).2.2.1
    omega
theorem Only.past {S : Nat → Prop} {w w' : World} (ho : Only S w w') {p : Addr} (hp : w.heap.size ≤ p.block) (u : Value) : Only S w (w'.setCell p u) := ho.setCell (fun h => absurd h (by omega)) u
theorem rput_zero (base b : Nat) (D : Dk) (l : Fl) (v : Value) (nm s : ByteArray) (w : World) (h : RIs w base b D l v) (hl9 : l.length ≤ 9) (hbase : base ≤ w.heap.size) :
    Calls Tryz.prog 51 #[.pointer (some ⟨b, 0, none⟩), .agg #[.string nm, .string s, .int .i64 0]] w fun e w' => e = .returned (.tuple #[]) ∧ (∃ v', RIs w' base b { D with files := aput D.files nm (s, 0) } (insL nm (s, 0) l) v') ∧ Only (· = b) w w' := rput_any base b D l v nm s 0 w h hl9 hbase
theorem ba_nil (s : ByteArray) : (⟨#[]⟩ : ByteArray) ++ s = s := by
  apply ByteArray.ext; simp

set_option maxHeartbeats 2000000 in
set_option maxRecDepth 100000 in
theorem rappend_any (base b : Nat) (D : Dk) (l : Fl) (v : Value) (nm s : ByteArray) (w : World) (h : RIs w base b D l v) (hD : D.Ok) (hln : nm.size ≤ maxLen) (hls : s.size ≤ maxLen) :
    Calls Tryz.prog 21 #[.pointer (some ⟨b, 0, none⟩), .string nm, .string s] w fun e w' => e = .returned (.int .i64 (D.append nm s).1) ∧ (∃ l' v', RIs w' base b (D.append nm s).2 l' v') ∧ Only (RS w base b) w w' := by
  have hact := ract_any base b D l v w h hD.acts
  have HA := Lib.hid hact
  have hle := h.le
  have hbs := Nat.le_trans h.le (Nat.le_of_lt h.lt)
  have hlf := h.rel.len hD.nodup
  have hmany := hD.many
  have hlen : l.length ≤ 9 := by omega
  have tf := tick_files D
  unfold maxLen at hln hls
  clear hact
  rcases tick_off_cases D with ⟨ho, hc⟩ | ⟨ho, hc⟩
  · rw [hc] at HA
    have hr : D.append nm s = (100, D.tick) := by simp [Dk.append, ho]
    rw [hr]
    have HT := Lib.hid tf
    clear hr ho hc h hD tf
    go_enter Tryz.func21, Tryz.ntmps21
    go_wp2_with fail
    refine HA.out.mono ?_
    rintro e w1 ⟨rfl, h1, o1, -⟩
    have H1 := Lib.hid h1
    have O1 := Lib.hid o1
    clear h1 o1
    go_wp2
    go_ret
    exact ⟨rfl, ⟨l, v, H1.out⟩, O1.out.mono (fun k _ hk => Or.inl hk)⟩
  · rw [hc] at HA
    by_cases hnm : isNm nm = true
    · have hn : 0 < nm.size ∧ nm.size ≤ 12 := by simpa [isNm] using hnm
      obtain ⟨hn1, hn2⟩ := hn
      cases hg : aget D.files nm with
      | none =>
        have hr : D.append nm s = if 4 ≤ D.files.length ∨ 65536 < s.size then (102, D.tick) else (0, { D.tick with files := aput D.files nm (s, 0) }) := by simp [Dk.append, ho, hg, hnm]
        have hpl : placeOf l nm = -1 := place_none (by rw [h.rel.same, hg])
        clear ho hc hD hg hnm
        have TF := Lib.hid tf
        have PL := Lib.hid hpl
        clear tf hpl h
        by_cases hf : 4 ≤ D.files.length ∨ 65536 < s.size
        · rw [if_pos hf] at hr
          rw [hr]
          clear hr
          rw [← hlf] at hf
          go_enter Tryz.func21, Tryz.ntmps21
          go_wp2_with fail
          refine HA.out.mono ?_
          rintro e w1 ⟨rfl, h1, o1, -⟩
          have H1 := Lib.hid h1
          have O1 := Lib.hid o1
          clear h1 o1
          have AT := Lib.hid (rat_any base b D.tick l v nm _ (H1.out.alloc (.cells #[.string nm, .string ⟨#[]⟩, .int .i64 0] 92)))
          rw [PL.out] at AT
          obtain ⟨A, c, rfl, hl, _⟩ := H1.out.file
          have d0 := H1.out.c0
          have d1 := H1.out.lt
          unfold maxLen at hl
          rcases hf with hf | hf
          all_goals go_wp2_with (go_at_call 50; refine AT.out.mono ?_; rintro e w2 ⟨rfl, rfl⟩)
          all_goals go_ret
          all_goals exact ⟨rfl, ⟨l, _, H1.out.alloc _⟩, (O1.out.mono (fun k _ hk => Or.inl hk)).alloc _⟩
        · rw [if_neg hf] at hr
          rw [hr]
          clear hr
          rw [← hlf] at hf
          obtain ⟨hf1, hf2⟩ := not_or.1 hf
          clear hf
          go_enter Tryz.func21, Tryz.ntmps21
          go_wp2_with fail
          refine HA.out.mono ?_
          rintro e w1 ⟨rfl, h1, o1, -⟩
          have H1 := Lib.hid h1
          have O1 := Lib.hid o1
          clear h1 o1
          have AT := Lib.hid (rat_any base b D.tick l v nm _ (H1.out.alloc (.cells #[.string nm, .string ⟨#[]⟩, .int .i64 0] 92)))
          rw [PL.out] at AT
          obtain ⟨A, c, rfl, hl, _⟩ := H1.out.file
          have d0 := H1.out.c0
          have d1 := H1.out.lt
          unfold maxLen at hl
          have hz : ((⟨#[]⟩ : ByteArray).size : Int) = 0 := rfl
          have RP := Lib.hid (rput_zero base b D.tick l _ nm (⟨#[]⟩ ++ s) _ (H1.out.alloc (.cells #[.string nm, .string (⟨#[]⟩ ++ s), .int .i64 0] 92)) hlen (alloc_le (Nat.le_trans hbs O1.out.size) _))
          go_wp2_with (go_at_call 50; refine AT.out.mono ?_; rintro e w2 ⟨rfl, rfl⟩)
          refine RP.out.mono ?_
          rintro e w3 ⟨rfl, ⟨v3, h3⟩, o3⟩
          rw [ba_nil] at h3
          have H3 := Lib.hid h3
          have O3 := Lib.hid (((O1.out.mono (T := RS w base b) (fun k _ hk => Or.inl hk)).alloc (.cells #[.string nm, .string (⟨#[]⟩ ++ s), .int .i64 0] 92)).trans' (T := RS w base b) o3 (fun k _ hk => hk) (fun k _ hk => Or.inl hk))
          clear h3 o3
          go_wp2
          go_ret
          exact ⟨rfl, ⟨_, v3, by rw [← TF.out]; exact H3.out⟩, O3.out⟩
      | some z =>
        obtain ⟨zb, zn⟩ := z
        have hr : D.append nm s = if 65536 < zb.size + s.size then (102, D.tick) else (0, { D.tick with files := aput D.files nm (zb ++ s, zn) }) := by simp [Dk.append, ho, hg, hnm]
        obtain ⟨i, hpl, hil, hz⟩ := place_some h.rel.sorted.nodup (by rw [h.rel.same]; exact hg)
        have hsz : zb.size ≤ 65536 := hD.bytes _ (aget_mem' hg)
        clear ho hc hD hg hnm
        have TF := Lib.hid tf
        have PL := Lib.hid hpl
        clear tf hpl h
        by_cases hf : 65536 < zb.size + s.size
        · rw [if_pos hf] at hr
          rw [hr]
          clear hr
          go_enter Tryz.func21, Tryz.ntmps21
          go_wp2_with fail
          refine HA.out.mono ?_
          rintro e w1 ⟨rfl, h1, o1, -⟩
          have H1 := Lib.hid h1
          have O1 := Lib.hid o1
          clear h1 o1
          have AT := Lib.hid (rat_any base b D.tick l v nm _ (H1.out.alloc (.cells #[.string nm, .string ⟨#[]⟩, .int .i64 0] 92)))
          rw [PL.out] at AT
          obtain ⟨A, c, rfl, hl, hcell⟩ := H1.out.file
          obtain ⟨g, rfl, _, hgl, _, c1, c2, c3⟩ := hcell i hil
          rw [hz] at c1 c2 c3
          simp only at c1 c2 c3
          have d0 := H1.out.c0
          have d1 := H1.out.lt
          unfold maxLen at hl
          clear hcell hz
          go_wp2_with (go_at_call 50; refine AT.out.mono ?_; rintro e w2 ⟨rfl, rfl⟩)
          go_ret
          exact ⟨rfl, ⟨l, _, H1.out.alloc _⟩, (O1.out.mono (fun k _ hk => Or.inl hk)).alloc _⟩
        · rw [if_neg hf] at hr
          rw [hr]
          clear hr
          go_enter Tryz.func21, Tryz.ntmps21
          go_wp2_with fail
          refine HA.out.mono ?_
          rintro e w1 ⟨rfl, h1, o1, -⟩
          have H1 := Lib.hid h1
          have O1 := Lib.hid o1
          clear h1 o1
          have AT := Lib.hid (rat_any base b D.tick l v nm _ (H1.out.alloc (.cells #[.string nm, .string ⟨#[]⟩, .int .i64 0] 92)))
          rw [PL.out] at AT
          obtain ⟨A, c, rfl, hl, hcell⟩ := H1.out.file
          obtain ⟨g, rfl, _, hgl, _, c1, c2, c3⟩ := hcell i hil
          rw [hz] at c1 c2 c3
          simp only at c1 c2 c3
          have d0 := H1.out.c0
          have d1 := H1.out.lt
          unfold maxLen at hl
          clear hcell hz
          have RP := Lib.hid (rput_any base b D.tick l _ nm (zb ++ s) zn _ (H1.out.alloc (.cells #[.string nm, .string (zb ++ s), .int .i64 zn] 92)) hlen (alloc_le (Nat.le_trans hbs O1.out.size) _))
          go_wp2_with (go_at_call 50; refine AT.out.mono ?_; rintro e w2 ⟨rfl, rfl⟩)
          refine RP.out.mono ?_
          rintro e w3 ⟨rfl, ⟨v3, h3⟩, o3⟩
          have H3 := Lib.hid h3
          have O3 := Lib.hid (((O1.out.mono (T := RS w base b) (fun k _ hk => Or.inl hk)).alloc (.cells #[.string nm, .string (zb ++ s), .int .i64 zn] 92)).trans' (T := RS w base b) o3 (fun k _ hk => hk) (fun k _ hk => Or.inl hk))
          clear h3 o3
          go_wp2
          go_ret
          exact ⟨rfl, ⟨_, v3, by rw [← TF.out]; exact H3.out⟩, O3.out⟩
    · have hr : D.append nm s = (1, D.tick) := by simp [Dk.append, ho, hnm]
      have hn : nm.size < 1 ∨ 12 < nm.size := by
        have : ¬ (0 < nm.size ∧ nm.size ≤ 12) := by simpa [isNm] using hnm
        omega
      rw [hr]
      clear hr ho hc h hD hnm tf
      go_enter Tryz.func21, Tryz.ntmps21
      go_wp2_with fail
      refine HA.out.mono ?_
      rintro e w1 ⟨rfl, h1, o1, -⟩
      have H1 := Lib.hid h1
      have O1 := Lib.hid o1
      clear h1 o1
      rcases hn with hn | hn
      all_goals go_wp2
      all_goals go_ret
      all_goals exact ⟨rfl, ⟨l, v, H1.out⟩, O1.out.mono (fun k _ hk => Or.inl hk)⟩


theorem frozen_new (w : World) (cs : Array Value) (t : TypeId) (i : Nat) : (w.alloc (.cells cs t)).frozen? ⟨w.heap.size, i, none⟩ = false := by
  unfold World.frozen?
  rw [(MapKept.heap_alloc w _).1]
  rfl
set_option maxHeartbeats 4000000 in
set_option maxRecDepth 100000 in
theorem rrename_any (base b : Nat) (D : Dk) (l : Fl) (v : Value) (nm tn : ByteArray) (w : World) (h : RIs w base b D l v) (hD : D.Ok) (hln : tn.size ≤ maxLen) :
    Calls Tryz.prog 84 #[.pointer (some ⟨b, 0, none⟩), .string nm, .string tn] w fun e w' => e = .returned (.int .i64 (D.rename nm tn).1) ∧ (∃ l' v', RIs w' base b (D.rename nm tn).2 l' v') ∧ Only (RS w base b) w w' := by
  have hact := ract_any base b D l v w h hD.acts
  have HA := Lib.hid hact
  have hle := h.le
  have hbs := Nat.le_trans h.le (Nat.le_of_lt h.lt)
  have hlf := h.rel.len hD.nodup
  have hmany := hD.many
  have hlen : l.length ≤ 9 := by omega
  have tf := tick_files D
  unfold maxLen at hln
  clear hact
  rcases tick_off_cases D with ⟨ho, hc⟩ | ⟨ho, hc⟩
  · rw [hc] at HA
    have hr : D.rename nm tn = (100, D.tick) := by simp [Dk.rename, ho]
    rw [hr]
    have HT := Lib.hid tf
    clear hr ho hc h hD tf
    go_enter Tryz.func84, Tryz.ntmps84
    go_wp2_with fail
    refine HA.out.mono ?_
    rintro e w1 ⟨rfl, h1, o1, -⟩
    have H1 := Lib.hid h1
    have O1 := Lib.hid o1
    clear h1 o1
    go_wp2
    go_ret
    exact ⟨rfl, ⟨l, v, H1.out⟩, O1.out.mono (fun k _ hk => Or.inl hk)⟩
  · rw [hc] at HA
    cases hg : aget D.files nm with
    | none =>
      have hr : D.rename nm tn = (101, D.tick) := by simp [Dk.rename, ho, hg]
      have hpl : placeOf l nm = -1 := place_none (by rw [h.rel.same, hg])
      rw [hr]
      clear hr ho hc h hD hg tf
      go_enter Tryz.func84, Tryz.ntmps84
      go_wp2_with fail
      refine HA.out.mono ?_
      rintro e w1 ⟨rfl, h1, o1, -⟩
      have HT := Lib.hid (rat_any base b D.tick l v nm w1 h1)
      rw [hpl] at HT
      have H1 := Lib.hid h1
      have O1 := Lib.hid o1
      clear h1 o1 hpl
      go_wp2_with (go_at_call 50; refine HT.out.mono ?_; rintro e w2 ⟨rfl, rfl⟩)
      go_ret
      exact ⟨rfl, ⟨l, v, H1.out⟩, O1.out.mono (fun k _ hk => Or.inl hk)⟩
    | some z =>
      obtain ⟨zb, zn⟩ := z
      obtain ⟨i, hpl, hil, hz⟩ := place_some h.rel.sorted.nodup (by rw [h.rel.same]; exact hg)
      by_cases hnm : isNm tn = true
      · have hn : 0 < tn.size ∧ tn.size ≤ 12 := by simpa [isNm] using hnm
        obtain ⟨hn1, hn2⟩ := hn
        have hr : D.rename nm tn = (0, { D.tick with files := aput (adel D.files nm) tn (zb, zn) }) := by simp [Dk.rename, ho, hg, hnm]
        rw [hr]
        clear hr ho hc h hD hg hnm
        have TF := Lib.hid tf
        have PL := Lib.hid hpl
        clear tf hpl
        go_enter Tryz.func84, Tryz.ntmps84
        go_wp2_with fail
        refine HA.out.mono ?_
        rintro e w1 ⟨rfl, h1, o1, -⟩
        have HT := Lib.hid (rat_any base b D.tick l v nm w1 h1)
        rw [PL.out] at HT
        have H1 := Lib.hid h1
        have O1 := Lib.hid o1
        obtain ⟨A, c, rfl, hl, hcell⟩ := h1.file
        obtain ⟨g, rfl, _, hgl, _, c1, c2, c3⟩ := hcell i hil
        rw [hz] at c1 c2 c3
        simp only at c1 c2 c3
        have d0 := h1.c0
        have d1 := h1.lt
        unfold maxLen at hl
        clear hcell hz h1 o1
        have RD := Lib.hid (rdrop_any base b D.tick l _ nm _ (H1.out.alloc (.cells #[.string nm, .string zb, .int .i64 zn] 92)) hlen (alloc_le (Nat.le_trans hbs O1.out.size) _))
        go_wp2_with (go_at_call 50; refine HT.out.mono ?_; rintro e w2 ⟨rfl, rfl⟩)
        refine RD.out.mono ?_
        rintro e w3 ⟨rfl, ⟨v3, h3, r3⟩, o3⟩
        have s3 := o3.size
        simp only [World.size_alloc] at s3
        have e0 := (o3.cell (p := ⟨w1.heap.size, 0, none⟩) (by simp) (fun e => by simp at e; omega)).trans (World.cell?_alloc_new _ _ _ 0)
        have e1 := (o3.cell (p := ⟨w1.heap.size, 1, none⟩) (by simp) (fun e => by simp at e; omega)).trans (World.cell?_alloc_new _ _ _ 1)
        have e2 := (o3.cell (p := ⟨w1.heap.size, 2, none⟩) (by simp) (fun e => by simp at e; omega)).trans (World.cell?_alloc_new _ _ _ 2)
        have O3 := Lib.hid (((O1.out.mono (T := RS w base b) (fun k _ hk => Or.inl hk)).alloc (.cells #[.string nm, .string zb, .int .i64 zn] 92)).trans' (T := RS w base b) o3 (fun k _ hk => hk) (fun k _ hk => Or.inl hk))
        have ef : w3.frozen? ⟨w1.heap.size, 0, none⟩ = false := (o3.frozen (p := ⟨w1.heap.size, 0, none⟩) (by simp) (fun e => by simp at e; omega)).trans (frozen_new w1 _ _ _)
        have h4 : RIs (w3.setCell ⟨w1.heap.size, 0, none⟩ (.string tn)) base b { D.tick with files := adel D.tick.files nm } (adel l nm) v3 := by
          refine h3.only (S := (· = w1.heap.size)) ((Only.refl (· = w1.heap.size) w3).setCell (p := ⟨w1.heap.size, 0, none⟩) (fun _ => rfl) _) (fun e => by omega) (fun k hk e => ?_)
          have := r3 k hk
          simp at this
          omega
        have RP := Lib.hid (rput_any base b _ _ v3 tn zb zn _ h4 (by have := adel_len l nm; omega) (by have := O1.out.size; simp [World.setCell]; omega))
        clear o3 h3 r3 h4
        go_wp2_with fail
        refine RP.out.mono ?_
        rintro e w5 ⟨rfl, ⟨v5, h5⟩, o5⟩
        have H5 := Lib.hid h5
        have O5 := Lib.hid ((O3.out.setCell (p := ⟨w1.heap.size, 0, none⟩) (fun hh => absurd hh (by have := O1.out.size; show ¬ w1.heap.size < w.heap.size; omega)) (.string tn)).trans' (T := RS w base b) o5 (fun k _ hk => hk) (fun k _ hk => Or.inl hk))
        clear h5 o5
        go_wp2
        go_ret
        exact ⟨rfl, ⟨_, v5, by rw [← TF.out]; exact H5.out⟩, O5.out⟩
      · have hr : D.rename nm tn = (1, D.tick) := by simp [Dk.rename, ho, hg, hnm]
        have hn : tn.size < 1 ∨ 12 < tn.size := by
          have : ¬ (0 < tn.size ∧ tn.size ≤ 12) := by simpa [isNm] using hnm
          omega
        rw [hr]
        clear hr ho hc h hD hg hnm tf hz
        go_enter Tryz.func84, Tryz.ntmps84
        go_wp2_with fail
        refine HA.out.mono ?_
        rintro e w1 ⟨rfl, h1, o1, -⟩
        have HT := Lib.hid (rat_any base b D.tick l v nm w1 h1)
        rw [hpl] at HT
        have H1 := Lib.hid h1
        have O1 := Lib.hid o1
        clear h1 o1 hpl
        rcases hn with hn | hn
        all_goals go_wp2_with (go_at_call 50; refine HT.out.mono ?_; rintro e w2 ⟨rfl, rfl⟩)
        all_goals go_ret
        all_goals exact ⟨rfl, ⟨l, v, H1.out⟩, O1.out.mono (fun k _ hk => Or.inl hk)⟩


theorem RIs.drew {w : World} {base b : Nat} {D : Dk} {l : Fl} {v : Value} (h : RIs w base b D l v) : RIs w.drew base b D l v := ⟨h.rel, h.blk, h.row, h.le⟩
/-- A file is written in its place. -/
theorem RIs.set3 {w : World} {base b g c : Nat} {D : Dk} {l : Fl} {m : Nat} (h : RIs w base b D l (.slice (some ⟨g, 0, none⟩) m c)) {i : Nat} {nm : ByteArray} {z : ByteArray × Nat} (hi : l[i]? = some (nm, z)) (z' : ByteArray × Nat) :
    RIs (((w.setCell ⟨g, i * 3, none⟩ (.string nm)).setCell ⟨g, i * 3 + 1, none⟩ (.string z'.1)).setCell ⟨g, i * 3 + 2, none⟩ (.int .i64 z'.2)) base b { D with files := aput D.files nm z' } (l.set i (nm, z')) (.slice (some ⟨g, 0, none⟩) m c) := by
  have hil := (List.getElem?_eq_some_iff.1 hi).1
  have hr := h.row
  have hm : m = l.length := by
    rcases hr.2 with ⟨hv, _⟩ | ⟨g', cap, cur, hv, _⟩
    · cases hv
    · cases hv; rfl
  subst hm
  refine ⟨h.rel.set hi _, ?_, ?_, h.le⟩
  · have := (h.row_ne g rfl).1
    rw [Below.heap_setCell _ _ _ _ (fun e => this (by simpa using e.symm)), Below.heap_setCell _ _ _ _ (fun e => this (by simpa using e.symm)), Below.heap_setCell _ _ _ _ (fun e => this (by simpa using e.symm))]
    exact h.blk
  · rw [List.length_set, flat_set3 l i nm z'.1 z'.2 hil]
    exact ownsRow_set (ownsRow_set (ownsRow_set hr _ (by omega)) _ (by omega)) _ (by omega)

set_option maxHeartbeats 4000000 in
set_option maxRecDepth 100000 in
theorem rrestart_any (base b : Nat) (D : Dk) (l : Fl) (v : Value) (A : Option Addr) (cp : Nat) (keep : List Int) (w : World) (h : RIs w base b D l v) (hD : D.Ok) (hA : ∀ ad, A = some ad → 0 < keep.length → ad.block < base) (hkp : ReadsI w A keep) :
    Calls Tryz.prog 34 #[.pointer (some ⟨b, 0, none⟩), .slice A keep.length cp] w fun e w' => e = .returned (.tuple #[]) ∧ (∃ l' v', RIs w' base b (D.restart keep) l' v') ∧ Only (RS w base b) w w' := by
  have hml := hD.many
  have hlf := h.rel.len hD.nodup
  have hfo : FOk D.files := fun p hp => ⟨hD.bytes p hp, hD.synced p hp⟩
  have hnames := h.rel.names hD.nodup
  have hkl := hkp.len
  unfold maxLen at hkl
  have lb := h.lt
  have hle := h.le
  obtain ⟨A0, c, rfl, hl, _⟩ := h.file
  unfold maxLen at hl
  have hset : D.restart keep = { D with files := refiles keep D.snames D.files l.length, armed := 0, off := false } := by rw [hlf]; rfl
  rw [hset]
  have HN := Lib.hid hnames
  have Hh := Lib.hid h
  have HK := Lib.hid hkp
  have HA := Lib.hid hA
  have HF := Lib.hid hfo
  clear hD h hkp hA hfo hnames hset
  go_enter Tryz.func34, Tryz.ntmps34
  go_wp2
  go_loopw [4] (fun ix wr => ∃ (k : Nat) (lk : Fl), k ≤ l.length ∧ ix = .int .i64 k ∧ lk.length = l.length ∧ lk.map (·.1) = l.map (·.1) ∧ RIs wr base b { D with files := refiles keep D.snames D.files k } lk (.slice A0 l.length c) ∧ Only (RS w base b) w wr) (fun ix _ => l.length - (intOf ix).toNat)
  case atStart => exact ⟨0, l, Nat.zero_le _, rfl, rfl, rfl, Hh.out, Only.refl _ _⟩
  case round =>
    obtain ⟨k, lk, hk, rfl, hlk, hmk, hd, ho⟩ := hrel
    have d0 := hd.c0
    have d1 := hd.lt
    by_cases hlt : k < l.length
    · have hlt' : k < lk.length := by omega
      obtain ⟨A1, c1, hv, _, hcell⟩ := hd.file
      injection hv with e1 _ e3
      subst e1 e3
      obtain ⟨g, rfl, hown, hgl, hfr, x1, x2, x3⟩ := hcell k hlt'
      have hgb := Hh.out.rs g hown
      generalize hp : lk[k] = p at *
      obtain ⟨nm, zb, zn⟩ := p
      simp only at x1 x2 x3
      have hp' : lk[k]? = some (nm, zb, zn) := by rw [List.getElem?_eq_getElem hlt', hp]
      have hag : aget (refiles keep D.snames D.files k) nm = some (zb, zn) := by
        rw [← hd.rel.same]
        exact aget_at hd.rel.sorted.nodup hp'
      have hzk := refiles_ok (keep := keep) (names := D.snames) HF.out k _ (aget_mem hag)
      have hnm : D.snames.getD k ⟨#[]⟩ = nm := by
        rw [← HN.out, ← hmk, List.getD_eq_getElem?_getD, List.getElem?_map, hp']
        rfl
      have hre : refiles keep D.snames D.files (k + 1) = aput (refiles keep D.snames D.files k) nm (cutTo (zb, zn) (keep.getD k 0)) := by
        show restep _ _ _ _ = _
        unfold restep
        rw [hnm, hag]
      have hmk2 := map_set_same lk k (nm, zb, zn) (nm, cutTo (zb, zn) (keep.getD k 0)) hp' rfl
      have f0 := hfr (k * 3)
      have f1 := hfr (k * 3 + 1)
      have f2 := hfr (k * 3 + 2)
      have hset := hd.set3 hp' (cutTo (zb, zn) (keep.getD k 0))
      obtain ⟨hz1, hz2⟩ := hzk
      simp only at hz1 hz2
      have hml2 : (lk.set k (nm, cutTo (zb, zn) (keep.getD k 0))).length = l.length := by simpa using hlk
      generalize hL : lk.set k (nm, cutTo (zb, zn) (keep.getD k 0)) = lk' at *
      have HS := Lib.hid hset
      have HM := Lib.hid (hmk2.trans hmk)
      have HOk := Lib.hid ho
      have RE := Lib.hid hre
      clear hset hmk2 hmk hnm hag hp' hd hre hcell hfr hp hL hlt'
      by_cases hkk : k < keep.length
      · obtain ⟨bk, off, rfl, hbk1, hbk2⟩ := HK.out.at k hkk
        have hkc := (HOk.out.cell (p := ⟨bk, off + k, none⟩) hbk1 (fun hh => by have h1 := RS.ge hle hh; have := HA.out _ rfl (by omega); simp at this h1; omega)).trans hbk2
        have hwf := HK.out.wf (keep.getD k 0) (by rw [List.getD_eq_getElem?_getD, List.getElem?_eq_getElem hkk]; exact List.getElem_mem hkk)
        generalize hcv : keep.getD k 0 = cv at *
        clear hcv
        have lk := World.block_lt_of_cell? wr _ hkc
        simp only at lk
        clear hbk1 hbk2
        obtain ⟨hwf1, hwf2⟩ := hwf
        by_cases hneg : cv < 0
        · obtain ⟨R, hRt, hR0, hR1, hcut⟩ := cutTo_neg zb zn cv hneg hz2
          have hre := RE.out
          rw [hcut] at hre HS
          have RE2 := Lib.hid hre
          clear hcut hre ho
          go_wp2
          go_region
          go_wp2
          go_region
          go_wp2
          go_roundw
          case rel => exact ⟨k + 1, lk', by omega, by go_num, hml2, HM.out, by rw [RE2.out]; exact ((RIs.alloc HS.out _).drew).drew, ((((HOk.out.setCell (p := ⟨g, k * 3, none⟩) (fun _ => hgb) _).setCell (p := ⟨g, k * 3 + 1, none⟩) (fun _ => hgb) _).setCell (p := ⟨g, k * 3 + 2, none⟩) (fun _ => hgb) _).alloc _).drew.drew⟩
          case measure => simp [intOf]; omega
        · obtain ⟨R, hRt, hR0, hR1, hcut⟩ := cutTo_pos zb zn cv (by omega) hz2
          have hre := RE.out
          rw [hcut] at hre HS
          have RE2 := Lib.hid hre
          clear hcut hre ho
          go_wp2
          go_region
          go_wp2
          go_region
          go_wp2
          go_roundw
          case rel => exact ⟨k + 1, lk', by omega, by go_num, hml2, HM.out, by rw [RE2.out]; exact ((RIs.alloc HS.out _).drew).drew, ((((HOk.out.setCell (p := ⟨g, k * 3, none⟩) (fun _ => hgb) _).setCell (p := ⟨g, k * 3 + 1, none⟩) (fun _ => hgb) _).setCell (p := ⟨g, k * 3 + 2, none⟩) (fun _ => hgb) _).alloc _).drew.drew⟩
          case measure => simp [intOf]; omega
      · have hcv : keep.getD k 0 = 0 := by rw [List.getD_eq_getElem?_getD, List.getElem?_eq_none (by omega)]; rfl
        rw [hcv] at RE HS
        clear hcv
        have hcut := cutTo_zero zb zn hz2
        have hre := RE.out
        rw [hcut] at hre HS
        have RE2 := Lib.hid hre
        clear hcut hre ho
        go_wp2
        go_region
        go_wp2
        go_region
        go_wp2
        go_roundw
        case rel => exact ⟨k + 1, lk', by omega, by go_num, hml2, HM.out, by rw [RE2.out]; exact ((RIs.alloc HS.out _).drew).drew, ((((HOk.out.setCell (p := ⟨g, k * 3, none⟩) (fun _ => hgb) _).setCell (p := ⟨g, k * 3 + 1, none⟩) (fun _ => hgb) _).setCell (p := ⟨g, k * 3 + 2, none⟩) (fun _ => hgb) _).alloc _).drew.drew⟩
        case measure => simp [intOf]; omega
    · obtain rfl : k = l.length := by omega
      have f2 := hd.fr 2
      have f3 := hd.fr 3
      have c2 := hd.c2
      have c3 := hd.c3
      have HP := Lib.hid (RIs.armed' (hd.offed false) 0)
      have HQ := Lib.hid ((ho.setCell (p := ⟨b, 3, none⟩) (fun _ => Or.inl rfl) (.bool false)).setCell (p := ⟨b, 2, none⟩) (fun _ => Or.inl rfl) (.int .i64 0))
      clear hd ho
      go_wp2
      go_end0
      exact ⟨rfl, ⟨lk, _, by first | exact HP.out | (rw [← hlf]; exact HP.out)⟩, HQ.out⟩
end Go.Proofs.YtlmnmjnmilaipaaGreatDoor.Rk

/- What a Restart leaves of each file; three files under appends and syncs. No program is named here. -/
import Derived.Test.YtekkmfclaepcgaaDiskP
set_option linter.unusedVariables false
namespace Go.Proofs.Ytekkmfclaepcgaa

theorem toList_data_inj {a b : ByteArray} (h : a.data.toList = b.data.toList) : a = b := ByteArray.ext (Array.toList_inj.1 h)
theorem snames_perm (D : Dk) : D.snames.Perm (D.files.map (·.1)) := by
  have h : D.names.Perm (D.files.map (fun p => p.1.data.toList)) := List.mergeSort_perm _ _
  have h2 := h.map (fun l => (⟨l.toArray⟩ : ByteArray))
  have e : (D.files.map (fun p => p.1.data.toList)).map (fun l => (⟨l.toArray⟩ : ByteArray)) = D.files.map (·.1) := by
    rw [List.map_map]
    rfl
  rw [e] at h2
  exact h2
theorem restep_same {keep : List Int} {m : Fl} {i : Nat} {nm : ByteArray} : aget (restep keep m i nm) nm = (aget m nm).map (fun f => cutTo f (keep.getD i 0)) := by
  unfold restep
  cases h : aget m nm with
  | none => simpa using h
  | some f => simp only [aget_aput_same, Option.map_some]
theorem restep_other {keep : List Int} {m : Fl} {i : Nat} {nm k : ByteArray} (hne : k ≠ nm) : aget (restep keep m i nm) k = aget m k := by
  unfold restep
  cases h : aget m nm with
  | none => rfl
  | some f => exact aget_aput_other _ _ _ _ hne
theorem refiles_aget {keep : List Int} {names : List ByteArray} (hn : names.Nodup) (m : Fl) (k : ByteArray) : ∀ j, j ≤ names.length →
    (k ∉ names.take j → aget (refiles keep names m j) k = aget m k) ∧ (∀ i, i < j → names[i]? = some k → aget (refiles keep names m j) k = (aget m k).map (fun f => cutTo f (keep.getD i 0)))
  | 0, _ => ⟨fun _ => rfl, fun i hi => absurd hi (by omega)⟩
  | j + 1, hj => by
    obtain ⟨h1, h2⟩ := refiles_aget hn m k j (by omega)
    have hjl : j < names.length := by omega
    have hg : names.getD j ⟨#[]⟩ = names[j] := by rw [List.getD_eq_getElem?_getD, List.getElem?_eq_getElem hjl]; rfl
    have htk : names.take (j + 1) = names.take j ++ [names[j]] := by rw [List.take_succ_eq_append_getElem hjl]
    constructor
    · intro hk
      rw [htk, List.mem_append, not_or] at hk
      show aget (restep keep (refiles keep names m j) j (names.getD j ⟨#[]⟩)) k = _
      rw [hg, restep_other (by simpa using hk.2)]
      exact h1 hk.1
    · intro i hi hik
      show aget (restep keep (refiles keep names m j) j (names.getD j ⟨#[]⟩)) k = _
      rw [hg]
      by_cases hij : i = j
      · subst hij
        rw [List.getElem?_eq_getElem hjl] at hik
        obtain rfl := Option.some.inj hik
        rw [restep_same]
        rw [h1 ?_]
        intro hmem
        obtain ⟨i', hi', e⟩ := List.getElem_of_mem hmem
        rw [List.getElem_take] at e
        have hlt : i' < i := by simp at hi'; omega
        have := (List.getElem_inj hn).1 e
        omega
      · have hne : k ≠ names[j] := by
          rintro rfl
          have : i < names.length := by omega
          rw [List.getElem?_eq_getElem this] at hik
          have := (List.getElem_inj hn).1 (Option.some.inj hik)
          omega
        rw [restep_other hne]
        exact h2 i (by omega) hik
/-- Each file is cut, by some number. -/
theorem restart_aget {D : Dk} (h : D.Ok) (keep : List Int) (k : ByteArray) : ∃ c, aget (D.restart keep).files k = (aget D.files k).map (fun f => cutTo f c) := by
  have hp := snames_perm D
  have hn : D.snames.Nodup := hp.nodup_iff.2 h.nodup
  have hl : D.snames.length = D.files.length := by rw [hp.length_eq, List.length_map]
  obtain ⟨h1, h2⟩ := refiles_aget (keep := keep) hn D.files k D.files.length (by omega)
  have htk : D.snames.take D.files.length = D.snames := by rw [← hl]; exact List.take_length
  rw [htk] at h1
  by_cases hk : k ∈ D.snames
  · obtain ⟨i, hi, e⟩ := List.getElem_of_mem hk
    exact ⟨keep.getD i 0, h2 i (by omega) (by rw [List.getElem?_eq_getElem hi, e])⟩
  · refine ⟨0, ?_⟩
    have h3 := h1 hk
    have h4 : aget D.files k = none := by rw [aget_none_iff, ← hp.mem_iff]; exact hk
    show aget (refiles keep D.snames D.files D.files.length) k = _
    rw [h3, h4]
    rfl
theorem cutTo_spec (f : ByteArray × Nat) (hf : f.2 ≤ f.1.size) (c : Int) : ∃ m, f.2 ≤ m ∧ m ≤ f.1.size ∧ cutTo f c = (f.1.extract 0 m, m) := by
  have h1 := Int.emod_nonneg (keepOf c) (show ((f.1.size : Int) - f.2 + 1) ≠ 0 by omega)
  have h2 := Int.emod_lt_of_pos (keepOf c) (show 0 < ((f.1.size : Int) - f.2 + 1) by omega)
  refine ⟨f.2 + (keepOf c % ((f.1.size : Int) - f.2 + 1)).toNat, by omega, by omega, ?_⟩
  unfold cutTo
  simp only [ByteArray.size_extract]
  congr 1
  omega
theorem cutTo_synced (s : ByteArray) (c : Int) : cutTo (s, s.size) c = (s, s.size) := by
  obtain ⟨m, h1, h2, h3⟩ := cutTo_spec (s, s.size) (Nat.le_refl _) c
  simp only at h1 h2 h3
  obtain rfl : m = s.size := by omega
  rw [h3, extract_self]

/-- The three names. -/
def nm3 (k : Nat) : ByteArray := [(⟨#[97]⟩ : ByteArray), ⟨#[98]⟩, ⟨#[99]⟩].getD k ⟨#[]⟩
theorem nm3_ok (k : Nat) (h : k < 3) : isNm (nm3 k) = true := by
  rcases k with _ | _ | _ | k
  · rfl
  · rfl
  · rfl
  · omega
theorem nm3_inj {i j : Nat} (hi : i < 3) (hj : j < 3) (h : nm3 i = nm3 j) : i = j := by
  rcases i with _ | _ | _ | i <;> rcases j with _ | _ | _ | j <;> first | rfl | omega | (exfalso; revert h; simp [nm3])
def upd {α : Type} (f : Nat → α) (k : Nat) (v : α) : Nat → α := fun j => if j = k then v else f j
structure LastInv (i : Nat) (fs : Fl) (sure all : Nat → ByteArray) (has : Nat → Bool) : Prop where
  ok : FilesOk fs
  keys : ∀ p ∈ fs, ∃ k, k < 3 ∧ p.1 = nm3 k
  size : ∀ k, k < 3 → (all k).size ≤ 500 * i
  yes : ∀ k, k < 3 → has k = true → aget fs (nm3 k) = some (all k, (sure k).size)
  no : ∀ k, k < 3 → has k = false → aget fs (nm3 k) = none ∧ all k = ⟨#[]⟩
  pre : ∀ k, k < 3 → (sure k).size ≤ (all k).size
theorem nodup_len {α : Type} [DecidableEq α] : ∀ {l m : List α}, l.Nodup → l ⊆ m → l.length ≤ m.length
  | [], m, _, _ => Nat.zero_le _
  | a :: l, m, hn, hs => by
    rw [List.nodup_cons] at hn
    have ha : a ∈ m := hs (List.mem_cons_self)
    have h2 : l ⊆ m.erase a := by
      intro x hx
      have hxa : x ≠ a := fun e => hn.1 (e ▸ hx)
      exact (List.mem_erase_of_ne hxa).2 (hs (List.mem_cons_of_mem _ hx))
    have := nodup_len hn.2 h2
    rw [List.length_erase_of_mem ha] at this
    have hpos : 0 < m.length := List.length_pos_of_mem ha
    simp only [List.length_cons]
    omega
theorem last_three {i : Nat} {fs : Fl} {sure all : Nat → ByteArray} {has : Nat → Bool} (h : LastInv i fs sure all has) {k : Nat} (hk : k < 3) (hg : aget fs (nm3 k) = none) : fs.length < 3 := by
  have hnd := h.ok.nodup
  have hsub : fs.map (·.1) ⊆ [nm3 0, nm3 1, nm3 2].filter (fun x => decide (x ≠ nm3 k)) := by
    intro x hx
    obtain ⟨p, hp, rfl⟩ := List.mem_map.1 hx
    obtain ⟨j, hj, e⟩ := h.keys p hp
    rw [List.mem_filter]
    constructor
    · rw [e]
      rcases j with _ | _ | _ | j
      · simp
      · simp
      · simp
      · omega
    · simp only [ne_eq, decide_not, Bool.not_eq_true', decide_eq_false_iff_not]
      intro e2
      exact aget_none_iff.1 hg (e2 ▸ hx)
  have hlen : ([nm3 0, nm3 1, nm3 2].filter (fun x => decide (x ≠ nm3 k))).length ≤ 2 := by
    rcases k with _ | _ | _ | k
    · decide
    · decide
    · decide
    · omega
  have := nodup_len hnd hsub
  rw [List.length_map] at this
  omega

theorem upd_same {α : Type} (f : Nat → α) (k : Nat) (v : α) : upd f k v k = v := by simp [upd]
theorem upd_ne {α : Type} (f : Nat → α) {k j : Nat} (v : α) (h : j ≠ k) : upd f k v j = f j := by simp [upd, h]

theorem last_sync {i n : Nat} {fs : Fl} {sure all : Nat → ByteArray} {has : Nat → Bool} (h : LastInv i fs sure all has) {k : Nat} (hk : k < 3) :
    ∃ fs', (free fs n).sync (nm3 k) = ((if has k then 0 else 101), free fs' (n + 1)) ∧ LastInv (i + 1) fs' (upd sure k (all k)) all has := by
  cases hh : has k with
  | true =>
    have hg := h.yes k hk hh
    refine ⟨_, by rw [free_sync_some hg]; rfl, ?_⟩
    refine ⟨h.ok.put (nm3_ok k hk) (h.ok.bytes _ (aget_mem' hg)) (Nat.le_refl _) (fun e => by rw [hg] at e; cases e), ?_, fun j hj => by have := h.size j hj; omega, ?_, ?_, ?_⟩
    · intro p hp
      rcases aput_mem hp with rfl | hp
      · exact ⟨k, hk, rfl⟩
      · exact h.keys p hp
    · intro j hj hhj
      by_cases e : j = k
      · subst e
        rw [aget_aput_same, upd_same]
      · rw [aget_aput_other _ _ _ _ (fun e2 => e (nm3_inj hj hk e2)), upd_ne _ _ e]
        exact h.yes j hj hhj
    · intro j hj hhj
      have e : j ≠ k := fun e => by rw [e, hh] at hhj; cases hhj
      rw [aget_aput_other _ _ _ _ (fun e2 => e (nm3_inj hj hk e2))]
      exact h.no j hj hhj
    · intro j hj
      by_cases e : j = k
      · subst e; rw [upd_same]; exact Nat.le_refl _
      · rw [upd_ne _ _ e]; exact h.pre j hj
  | false =>
    obtain ⟨hg, ha⟩ := h.no k hk hh
    refine ⟨fs, by rw [free_sync_none hg]; rfl, h.ok, h.keys, fun j hj => by have := h.size j hj; omega, ?_, h.no, ?_⟩
    · intro j hj hhj
      have e : j ≠ k := fun e => by rw [e, hh] at hhj; cases hhj
      rw [upd_ne _ _ e]
      exact h.yes j hj hhj
    · intro j hj
      by_cases e : j = k
      · subst e; rw [upd_same]; exact Nat.le_refl _
      · rw [upd_ne _ _ e]; exact h.pre j hj

theorem last_append {i n : Nat} {fs : Fl} {sure all : Nat → ByteArray} {has : Nat → Bool} (h : LastInv i fs sure all has) {k : Nat} (hk : k < 3) {t : ByteArray} (ht : t.size ≤ 500) (hi : i < 60) :
    ∃ fs', (free fs n).append (nm3 k) t = (0, free fs' (n + 1)) ∧ LastInv (i + 1) fs' sure (upd all k (all k ++ t)) (upd has k true) := by
  have hsz : ∀ j, j < 3 → (upd all k (all k ++ t) j).size ≤ 500 * (i + 1) := by
    intro j hj
    have := h.size j hj
    by_cases e : j = k
    · subst e; rw [upd_same, ByteArray.size_append]; omega
    · rw [upd_ne _ _ e]; omega
  have hpre : ∀ j, j < 3 → (sure j).size ≤ (upd all k (all k ++ t) j).size := by
    intro j hj
    have := h.pre j hj
    by_cases e : j = k
    · subst e; rw [upd_same, ByteArray.size_append]; omega
    · rw [upd_ne _ _ e]; exact this
  have hka := h.size k hk
  have hno : ∀ j, j < 3 → upd has k true j = false → j ≠ k ∧ has j = false := by
    intro j hj hhj
    by_cases e : j = k
    · subst e; rw [upd_same] at hhj; cases hhj
    · rw [upd_ne _ _ e] at hhj; exact ⟨e, hhj⟩
  cases hh : has k with
  | true =>
    have hg := h.yes k hk hh
    refine ⟨_, free_append_some hg (nm3_ok k hk) (by show (all k).size + t.size ≤ 65536; omega), ?_⟩
    have hpk := h.pre k hk
    refine ⟨h.ok.put (nm3_ok k hk) (by show (all k ++ t).size ≤ 65536; rw [ByteArray.size_append]; omega) (by show (sure k).size ≤ (all k ++ t).size; rw [ByteArray.size_append]; omega) (fun e => by rw [hg] at e; cases e), ?_, hsz, ?_, ?_, hpre⟩
    · intro p hp
      rcases aput_mem hp with rfl | hp
      · exact ⟨k, hk, rfl⟩
      · exact h.keys p hp
    · intro j hj hhj
      by_cases e : j = k
      · subst e; rw [aget_aput_same, upd_same]
      · rw [aget_aput_other _ _ _ _ (fun e2 => e (nm3_inj hj hk e2)), upd_ne _ _ e]
        rw [upd_ne _ _ e] at hhj
        exact h.yes j hj hhj
    · intro j hj hhj
      obtain ⟨e, h2⟩ := hno j hj hhj
      rw [aget_aput_other _ _ _ _ (fun e2 => e (nm3_inj hj hk e2)), upd_ne _ _ e]
      exact h.no j hj h2
  | false =>
    obtain ⟨hg, ha⟩ := h.no k hk hh
    have hl3 := last_three h hk hg
    have hs0 : (sure k).size = 0 := by have := h.pre k hk; rw [ha] at this; have h0 : (⟨#[]⟩ : ByteArray).size = 0 := rfl; omega
    have hat : all k ++ t = t := by rw [ha]; exact ByteArray.empty_append
    have hput : fs ++ [(nm3 k, (t, 0))] = aput fs (nm3 k) (t, 0) := (aput_none hg _).symm
    refine ⟨_, free_append_none hg (nm3_ok k hk) (by omega) (by omega), ?_⟩
    rw [hput]
    refine ⟨h.ok.put (nm3_ok k hk) (by show t.size ≤ 65536; omega) (Nat.zero_le _) (fun _ => by omega), ?_, hsz, ?_, ?_, hpre⟩
    · intro p hp
      rcases aput_mem hp with rfl | hp
      · exact ⟨k, hk, rfl⟩
      · exact h.keys p hp
    · intro j hj hhj
      by_cases e : j = k
      · subst e; rw [aget_aput_same, upd_same, hat, hs0]
      · rw [aget_aput_other _ _ _ _ (fun e2 => e (nm3_inj hj hk e2)), upd_ne _ _ e]
        rw [upd_ne _ _ e] at hhj
        exact h.yes j hj hhj
    · intro j hj hhj
      obtain ⟨e, h2⟩ := hno j hj hhj
      rw [aget_aput_other _ _ _ _ (fun e2 => e (nm3_inj hj hk e2)), upd_ne _ _ e]
      exact h.no j hj h2

/-- What there is behind the first Restart. -/
structure NowInv (D : Dk) (sure all now : Nat → ByteArray) (has : Nat → Bool) : Prop where
  ok : D.Ok
  off : D.off = false
  yes : ∀ k, k < 3 → has k = true → D.read (nm3 k) = (now k, 0) ∧ aget D.files (nm3 k) = some (now k, (now k).size) ∧ (sure k).size ≤ (now k).size ∧ (now k).size ≤ (all k).size ∧ now k = (all k).extract 0 (now k).size
  no : ∀ k, k < 3 → has k = false → D.read (nm3 k) = (⟨#[]⟩, 101) ∧ aget D.files (nm3 k) = none
theorem last_now {i n : Nat} {fs : Fl} {sure all : Nat → ByteArray} {has : Nat → Bool} (h : LastInv i fs sure all has) (hn : n < 4611686018427387904) (keep : List Int) :
    ∃ now, NowInv ((free fs n).restart keep) sure all now has := by
  have hok := free_ok h.ok hn
  have hx : ∀ k, ∃ s : ByteArray, k < 3 → (has k = true → aget ((free fs n).restart keep).files (nm3 k) = some (s, s.size) ∧ (sure k).size ≤ s.size ∧ s.size ≤ (all k).size ∧ s = (all k).extract 0 s.size) ∧ (has k = false → aget ((free fs n).restart keep).files (nm3 k) = none) := by
    intro k
    by_cases hk : k < 3
    · obtain ⟨c, hc⟩ := restart_aget hok keep (nm3 k)
      cases hh : has k with
      | true =>
        have hg := h.yes k hk hh
        rw [show aget (free fs n).files (nm3 k) = some (all k, (sure k).size) from hg] at hc
        obtain ⟨m, h1, h2, h3⟩ := cutTo_spec (all k, (sure k).size) (h.pre k hk) c
        simp only at h1 h2 h3
        have hms : ((all k).extract 0 m).size = m := by rw [ByteArray.size_extract]; omega
        refine ⟨(all k).extract 0 m, fun _ => ⟨fun _ => ⟨by rw [hc, Option.map_some, h3, hms], by rw [hms]; exact h1, by rw [hms]; exact h2, by rw [hms]⟩, fun e => by cases e⟩⟩
      | false =>
        obtain ⟨hg, _⟩ := h.no k hk hh
        rw [show aget (free fs n).files (nm3 k) = none from hg] at hc
        exact ⟨⟨#[]⟩, fun _ => ⟨(fun e => by cases e), fun _ => hc⟩⟩
    · exact ⟨⟨#[]⟩, fun h => absurd h hk⟩
  obtain ⟨now, hnow⟩ := Classical.axiomOfChoice hx
  refine ⟨now, Dk.restart_ok hok keep, rfl, fun k hk hh => ?_, fun k hk hh => ?_⟩
  · obtain ⟨h1, h2, h3, h4⟩ := (hnow k hk).1 hh
    refine ⟨?_, h1, h2, h3, h4⟩
    unfold Dk.read
    rw [h1, if_neg (by show ¬ (false = true); decide)]
  · have h1 := (hnow k hk).2 hh
    refine ⟨?_, h1⟩
    unfold Dk.read
    rw [h1, if_neg (by show ¬ (false = true); decide)]
theorem now_again {D : Dk} {sure all now : Nat → ByteArray} {has : Nat → Bool} (h : NowInv D sure all now has) (again : List Int) {k : Nat} (hk : k < 3) :
    (has k = true → (D.restart again).read (nm3 k) = (now k, 0)) ∧ (has k = false → (D.restart again).read (nm3 k) = (⟨#[]⟩, 101)) := by
  obtain ⟨c, hc⟩ := restart_aget h.ok again (nm3 k)
  constructor
  · intro hh
    obtain ⟨_, h1, _⟩ := h.yes k hk hh
    rw [h1, Option.map_some, cutTo_synced] at hc
    unfold Dk.read
    rw [hc, if_neg (by show ¬ (false = true); decide)]
  · intro hh
    obtain ⟨_, h1⟩ := h.no k hk hh
    rw [h1] at hc
    unfold Dk.read
    rw [hc, if_neg (by show ¬ (false = true); decide)]
    rfl
end Go.Proofs.Ytekkmfclaepcgaa

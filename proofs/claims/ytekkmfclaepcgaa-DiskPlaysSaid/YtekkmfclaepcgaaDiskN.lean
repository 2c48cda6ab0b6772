/- What a disk's calls keep. No program is named here. -/
import Derived.Test.YtekkmfclaepcgaaDiskM
set_option linter.unusedVariables false
namespace Go.Proofs.Ytekkmfclaepcgaa

section
variable {κ ν : Type} [DecidableEq κ]
theorem aget_none_iff {m : List (κ × ν)} {k : κ} : aget m k = none ↔ k ∉ m.map (·.1) := by
  rw [← aget_isSome_iff]
  cases aget m k <;> simp
theorem aput_none {m : List (κ × ν)} {k : κ} (h : aget m k = none) (v : ν) : aput m k v = m ++ [(k, v)] := by simp [aput, h]
theorem aput_nodup {m : List (κ × ν)} (h : (m.map (·.1)).Nodup) (k : κ) (v : ν) : ((aput m k v).map (·.1)).Nodup := by
  cases hg : aget m k with
  | none =>
    rw [aput_none hg, List.map_append]
    refine List.nodup_append.2 ⟨h, by simp, ?_⟩
    intro a ha b hb
    simp at hb
    subst hb
    rintro rfl
    exact aget_none_iff.1 hg ha
  | some u => rw [aput_keys (by rw [hg]; rfl)]; exact h
theorem aput_length (m : List (κ × ν)) (k : κ) (v : ν) : (aput m k v).length = if (aget m k).isSome then m.length else m.length + 1 := by
  unfold aput
  split <;> simp
theorem adel_sub (m : List (κ × ν)) (k : κ) : (adel m k).Sublist m := List.filter_sublist
theorem adel_mem {m : List (κ × ν)} {k : κ} {p : κ × ν} (h : p ∈ adel m k) : p ∈ m := (adel_sub m k).mem h
theorem adel_nodup {m : List (κ × ν)} (h : (m.map (·.1)).Nodup) (k : κ) : ((adel m k).map (·.1)).Nodup := h.sublist ((adel_sub m k).map _)
theorem aget_adel_same (m : List (κ × ν)) (k : κ) : aget (adel m k) k = none := by
  rw [aget_none_iff]
  intro h
  obtain ⟨p, hp, rfl⟩ := List.mem_map.1 h
  simp [adel] at hp
theorem aget_adel_other (m : List (κ × ν)) {k j : κ} (hne : j ≠ k) : aget (adel m k) j = aget m j := by
  unfold adel aget
  rw [List.find?_filter]
  congr 2
  funext p
  by_cases e : p.1 = j
  · simp [e, hne]
  · simp [e]
theorem adel_length_lt {m : List (κ × ν)} {k : κ} (h : (aget m k).isSome) : (adel m k).length < m.length := by
  obtain ⟨p, hp, rfl⟩ := List.mem_map.1 (aget_isSome_iff.1 h)
  unfold adel
  exact List.length_filter_lt_length_iff_exists.2 ⟨p, hp, by simp⟩
end

theorem aget_mem' {κ ν : Type} [DecidableEq κ] {m : List (κ × ν)} {k : κ} {v : ν} (h : aget m k = some v) : (k, v) ∈ m := by
  unfold aget at h
  rw [Option.map_eq_some_iff] at h
  obtain ⟨p, hp, rfl⟩ := h
  have h1 := List.find?_some hp
  have h2 := List.mem_of_find?_eq_some hp
  simp at h1
  subst h1
  exact h2

/-- What is said of the files. -/
structure FilesOk (m : List (ByteArray × (ByteArray × Nat))) : Prop where
  names : ∀ p ∈ m, isNm p.1 = true
  bytes : ∀ p ∈ m, p.2.1.size ≤ 65536
  synced : ∀ p ∈ m, p.2.2 ≤ p.2.1.size
  nodup : (m.map (·.1)).Nodup
  many : m.length ≤ 4
theorem Dk.Ok.files {D : Dk} (h : D.Ok) : FilesOk D.files := ⟨h.names, h.bytes, h.synced, h.nodup, h.many⟩
theorem Dk.Ok.mk' {D : Dk} (h : FilesOk D.files) (h1 : D.acts < 4611686018427387904) (h2 : D.armed < 4611686018427387904) : D.Ok := ⟨h.names, h.bytes, h.synced, h.nodup, h.many, h1, h2⟩
theorem FilesOk.put {m : List (ByteArray × (ByteArray × Nat))} (h : FilesOk m) {k : ByteArray} {v : ByteArray × Nat} (hk : isNm k = true) (h1 : v.1.size ≤ 65536) (h2 : v.2 ≤ v.1.size) (hm : aget m k = none → m.length < 4) : FilesOk (aput m k v) := by
  refine ⟨fun p hp => ?_, fun p hp => ?_, fun p hp => ?_, aput_nodup h.nodup k v, ?_⟩
  · rcases aput_mem hp with rfl | hp
    · exact hk
    · exact h.names p hp
  · rcases aput_mem hp with rfl | hp
    · exact h1
    · exact h.bytes p hp
  · rcases aput_mem hp with rfl | hp
    · exact h2
    · exact h.synced p hp
  · rw [aput_length]
    have := h.many
    cases hg : aget m k with
    | none => have := hm hg; simp; omega
    | some _ => simp; omega
theorem FilesOk.del {m : List (ByteArray × (ByteArray × Nat))} (h : FilesOk m) (k : ByteArray) : FilesOk (adel m k) :=
  ⟨fun p hp => h.names p (adel_mem hp), fun p hp => h.bytes p (adel_mem hp), fun p hp => h.synced p (adel_mem hp), adel_nodup h.nodup k, Nat.le_trans (adel_sub m k).length_le h.many⟩

theorem Dk.tick_files' (D : Dk) : D.tick.files = D.files := by unfold Dk.tick; split <;> rfl
theorem Dk.tick_armed (D : Dk) : D.tick.armed = D.armed := by unfold Dk.tick; split <;> rfl
theorem Dk.tick_acts_le (D : Dk) : D.acts ≤ D.tick.acts ∧ D.tick.acts ≤ D.acts + 1 := by unfold Dk.tick; split <;> simp
theorem Dk.tick_ok {D : Dk} (h : D.Ok) (ha : D.acts + 1 < 4611686018427387904) : D.tick.Ok :=
  .mk' (by rw [Dk.tick_files']; exact h.files) (by have := D.tick_acts_le; omega) (by rw [Dk.tick_armed]; exact h.armed)
theorem Dk.tick_put_ok {D : Dk} (h : D.Ok) (ha : D.acts + 1 < 4611686018427387904) {m : List (ByteArray × (ByteArray × Nat))} (hm : FilesOk m) : ({ D.tick with files := m } : Dk).Ok :=
  .mk' hm (by have := D.tick_acts_le; show D.tick.acts < _; omega) (by show D.tick.armed < _; rw [Dk.tick_armed]; exact h.armed)

theorem Dk.append_ok {D : Dk} (h : D.Ok) (ha : D.acts + 1 < 4611686018427387904) (name s : ByteArray) : (D.append name s).2.Ok := by
  unfold Dk.append
  split
  · exact Dk.tick_ok h ha
  split
  · exact Dk.tick_ok h ha
  rename_i hnm
  simp at hnm
  split
  · rename_i hg
    split
    · exact Dk.tick_ok h ha
    · rename_i hc
      exact Dk.tick_put_ok h ha (h.files.put hnm (by show s.size ≤ _; omega) (Nat.zero_le _) (fun _ => by omega))
  · rename_i f hg
    have hf := aget_mem' hg
    have h2 := h.synced _ hf
    split
    · exact Dk.tick_ok h ha
    · exact Dk.tick_put_ok h ha (h.files.put hnm (by show (f.1 ++ s).size ≤ _; rw [ByteArray.size_append]; omega) (by show f.2 ≤ (f.1 ++ s).size; rw [ByteArray.size_append]; simp only at h2; omega) (fun e => by rw [hg] at e; cases e))
theorem Dk.sync_ok {D : Dk} (h : D.Ok) (ha : D.acts + 1 < 4611686018427387904) (name : ByteArray) : (D.sync name).2.Ok := by
  unfold Dk.sync
  split
  · exact Dk.tick_ok h ha
  split
  · exact Dk.tick_ok h ha
  · rename_i f hg
    have hf := aget_mem' hg
    exact Dk.tick_put_ok h ha (h.files.put (h.names _ hf) (h.bytes _ hf) (Nat.le_refl _) (fun e => by rw [hg] at e; cases e))
theorem Dk.remove_ok {D : Dk} (h : D.Ok) (ha : D.acts + 1 < 4611686018427387904) (name : ByteArray) : (D.remove name).2.Ok := by
  unfold Dk.remove
  split
  · exact Dk.tick_ok h ha
  split
  · exact Dk.tick_ok h ha
  · exact Dk.tick_put_ok h ha (h.files.del name)
theorem Dk.rename_ok {D : Dk} (h : D.Ok) (ha : D.acts + 1 < 4611686018427387904) (a b : ByteArray) : (D.rename a b).2.Ok := by
  unfold Dk.rename
  split
  · exact Dk.tick_ok h ha
  split
  · exact Dk.tick_ok h ha
  · rename_i f hg
    split
    · exact Dk.tick_ok h ha
    · rename_i hnm
      simp at hnm
      have hf := aget_mem' hg
      exact Dk.tick_put_ok h ha ((h.files.del a).put hnm (h.bytes _ hf) (h.synced _ hf) (fun _ => by have := adel_length_lt (m := D.files) (k := a) (by rw [hg]; rfl); have := h.many; omega))
theorem Dk.arm_ok {D : Dk} (h : D.Ok) (ha : D.acts < 2305843009213693952) (n : Int) : (D.arm n).2.Ok := by
  unfold Dk.arm
  split
  · exact h
  · exact .mk' h.files h.acts (by show (if 0 < n then D.acts + n.toNat else 0) < _; split <;> omega)
theorem refiles_files {keep : List Int} {names : List ByteArray} {m : List (ByteArray × (ByteArray × Nat))} (h : FilesOk m) (k : Nat) : FilesOk (refiles keep names m k) := by
  have h1 : FOk m := fun p hp => ⟨h.bytes p hp, h.synced p hp⟩
  have h2 := refiles_ok (keep := keep) (names := names) h1 k
  have h3 := refiles_keys keep names m k
  refine ⟨fun p hp => ?_, fun p hp => (h2 p hp).1, fun p hp => (h2 p hp).2, by rw [h3]; exact h.nodup, ?_⟩
  · have : p.1 ∈ m.map (·.1) := by rw [← h3]; exact List.mem_map.2 ⟨p, hp, rfl⟩
    obtain ⟨q, hq, e⟩ := List.mem_map.1 this
    rw [← e]
    exact h.names q hq
  · have := congrArg List.length h3
    simp only [List.length_map] at this
    have := h.many
    omega
theorem Dk.restart_ok {D : Dk} (h : D.Ok) (keep : List Int) : (D.restart keep).Ok := .mk' (refiles_files h.files _) h.acts (by show 0 < _; omega)
theorem Dk.new_ok : Dk.new.Ok := ⟨by simp [Dk.new], by simp [Dk.new], by simp [Dk.new], by simp [Dk.new], by simp [Dk.new], by simp [Dk.new], by simp [Dk.new]⟩

/-- How many acts there are behind a call. -/
theorem Dk.append_acts (D : Dk) (a s : ByteArray) : D.acts ≤ (D.append a s).2.acts ∧ (D.append a s).2.acts ≤ D.acts + 1 := by
  have := D.tick_acts_le
  unfold Dk.append
  (repeat' split) <;> exact this
theorem Dk.sync_acts (D : Dk) (a : ByteArray) : D.acts ≤ (D.sync a).2.acts ∧ (D.sync a).2.acts ≤ D.acts + 1 := by
  have := D.tick_acts_le
  unfold Dk.sync
  (repeat' split) <;> exact this
theorem Dk.remove_acts (D : Dk) (a : ByteArray) : D.acts ≤ (D.remove a).2.acts ∧ (D.remove a).2.acts ≤ D.acts + 1 := by
  have := D.tick_acts_le
  unfold Dk.remove
  (repeat' split) <;> exact this
theorem Dk.rename_acts (D : Dk) (a b : ByteArray) : D.acts ≤ (D.rename a b).2.acts ∧ (D.rename a b).2.acts ≤ D.acts + 1 := by
  have := D.tick_acts_le
  unfold Dk.rename
  (repeat' split) <;> exact this
theorem Dk.arm_acts (D : Dk) (n : Int) : (D.arm n).2.acts = D.acts := by
  unfold Dk.arm
  split <;> rfl
theorem Dk.restart_acts (D : Dk) (keep : List Int) : (D.restart keep).acts = D.acts := rfl
end Go.Proofs.Ytekkmfclaepcgaa

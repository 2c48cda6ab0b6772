/- A disk as plain data, and what its calls make of it. No program is named here. -/
import Derived.Test.YtlmnmjnmilaipaaGreatDoorMapW
set_option linter.unusedVariables false
namespace Go.Proofs.YtlmnmjnmilaipaaGreatDoor

/-- Files by their names, in the order of their making: bytes, and how many are synced. -/
structure Dk where
  files : List (ByteArray × (ByteArray × Nat))
  acts : Nat
  armed : Nat
  off : Bool

def fv (f : ByteArray × Nat) : Value := .agg #[.string f.1, .int .i64 f.2]

def Dk.new : Dk := ⟨[], 0, 0, false⟩
/-- An act begins. -/
def Dk.tick (D : Dk) : Dk := if D.off then D else { D with acts := D.acts + 1, off := decide (D.acts + 1 = D.armed) }
def isNm (s : ByteArray) : Bool := decide (0 < s.size ∧ s.size ≤ 12)
def Dk.append (D : Dk) (name s : ByteArray) : Int × Dk :=
  if D.tick.off then (100, D.tick) else
  if !isNm name then (1, D.tick) else
  match aget D.files name with
  | none => if 4 ≤ D.files.length ∨ 65536 < s.size then (102, D.tick) else (0, { D.tick with files := aput D.files name (s, 0) })
  | some f => if 65536 < f.1.size + s.size then (102, D.tick) else (0, { D.tick with files := aput D.files name (f.1 ++ s, f.2) })
def Dk.sync (D : Dk) (name : ByteArray) : Int × Dk :=
  if D.tick.off then (100, D.tick) else
  match aget D.files name with
  | none => (101, D.tick)
  | some f => (0, { D.tick with files := aput D.files name (f.1, f.1.size) })
def Dk.rename (D : Dk) (a b : ByteArray) : Int × Dk :=
  if D.tick.off then (100, D.tick) else
  match aget D.files a with
  | none => (101, D.tick)
  | some f => if !isNm b then (1, D.tick) else (0, { D.tick with files := aput (adel D.files a) b f })
def Dk.remove (D : Dk) (name : ByteArray) : Int × Dk :=
  if D.tick.off then (100, D.tick) else
  match aget D.files name with
  | none => (101, D.tick)
  | some _ => (0, { D.tick with files := adel D.files name })
def Dk.read (D : Dk) (name : ByteArray) : ByteArray × Int :=
  if D.off then (⟨#[]⟩, 100) else
  match aget D.files name with
  | none => (⟨#[]⟩, 101)
  | some f => (f.1, 0)
def Dk.arm (D : Dk) (n : Int) : Int × Dk :=
  if n < 0 ∨ 1099511627776 < n then (1, D) else (0, { D with armed := if 0 < n then D.acts + n.toNat else 0 })

/-- What a Restart leaves of a file: what is synced, and as much of the rest as a raw number says. -/
def keepOf (c : Int) : Int := if c < 0 then -(c + 1) else c
def cutTo (f : ByteArray × Nat) (c : Int) : ByteArray × Nat :=
  let s := f.1.extract 0 (f.2 + (keepOf c % ((f.1.size : Int) - f.2 + 1)).toNat)
  (s, s.size)
def restep (keep : List Int) (m : List (ByteArray × (ByteArray × Nat))) (i : Nat) (nm : ByteArray) : List (ByteArray × (ByteArray × Nat)) :=
  match aget m nm with
  | some f => aput m nm (cutTo f (keep.getD i 0))
  | none => m
/-- The files behind the first k names. -/
def refiles (keep : List Int) (names : List ByteArray) (m : List (ByteArray × (ByteArray × Nat))) : Nat → List (ByteArray × (ByteArray × Nat))
  | 0 => m
  | k + 1 => restep keep (refiles keep names m k) k (names.getD k ⟨#[]⟩)
/-- The names of a disk's files, sorted. -/
def Dk.names (D : Dk) : List (List UInt8) := (D.files.map (fun p => p.1.data.toList)).mergeSort (fun x y => decide (x ≤ y))
def Dk.snames (D : Dk) : List ByteArray := D.names.map (fun l => ⟨l.toArray⟩)
def Dk.restart (D : Dk) (keep : List Int) : Dk := { D with files := refiles keep D.snames D.files D.files.length, armed := 0, off := false }

/-- What the program keeps of a disk. -/
structure Dk.Ok (D : Dk) : Prop where
  names : ∀ p ∈ D.files, isNm p.1 = true
  bytes : ∀ p ∈ D.files, p.2.1.size ≤ 65536
  synced : ∀ p ∈ D.files, p.2.2 ≤ p.2.1.size
  nodup : (D.files.map (·.1)).Nodup
  many : D.files.length ≤ 4
  acts : D.acts < 4611686018427387904
  armed : D.armed < 4611686018427387904

section
variable {κ ν : Type} [DecidableEq κ]
theorem aget_aput_same (m : List (κ × ν)) (k : κ) (v : ν) : aget (aput m k v) k = some v := by
  unfold aput
  cases h : aget m k with
  | none =>
    simp only [Option.isSome_none, Bool.false_eq_true, if_false]
    unfold aget at h ⊢
    rw [Option.map_eq_none_iff] at h
    rw [List.find?_append, h]
    simp
  | some u =>
    simp only [Option.isSome_some, if_true]
    induction m with
    | nil => simp [aget] at h
    | cons p m ih =>
      unfold aget at h ih ⊢
      by_cases hp : p.1 = k
      · simp [hp]
      · rw [List.find?_cons_of_neg (by simpa using hp)] at h
        rw [List.map_cons, if_neg hp, List.find?_cons_of_neg (by simpa using hp)]
        exact ih h
theorem aget_aput_other (m : List (κ × ν)) (k j : κ) (v : ν) (hne : j ≠ k) : aget (aput m k v) j = aget m j := by
  unfold aput
  split
  · rename_i hs
    clear hs
    unfold aget
    induction m with
    | nil => rfl
    | cons p m ih =>
      by_cases hp : p.1 = k
      · have hj : p.1 ≠ j := fun e => hne (e.symm.trans hp)
        rw [List.map_cons, if_pos hp, List.find?_cons_of_neg (by simpa using fun e => hne e.symm), List.find?_cons_of_neg (by simpa using hj)]
        exact ih
      · rw [List.map_cons, if_neg hp]
        by_cases hj : p.1 = j
        · rw [List.find?_cons_of_pos (by simpa using hj), List.find?_cons_of_pos (by simpa using hj)]
        · rw [List.find?_cons_of_neg (by simpa using hj), List.find?_cons_of_neg (by simpa using hj)]
          exact ih
  · unfold aget
    rw [List.find?_append]
    have : (List.find? (fun p => decide (p.1 = j)) [(k, v)]) = none := by simpa using fun e => hne e.symm
    rw [this]
    simp
theorem aput_keys {m : List (κ × ν)} {k : κ} {v : ν} (h : (aget m k).isSome) : (aput m k v).map (·.1) = m.map (·.1) := by
  unfold aput
  rw [if_pos h, List.map_map]
  refine List.map_congr_left fun p _ => ?_
  simp only [Function.comp]
  split
  · rename_i e; exact e.symm
  · rfl
theorem aput_mem {m : List (κ × ν)} {k : κ} {v : ν} {p : κ × ν} (h : p ∈ aput m k v) : p = (k, v) ∨ p ∈ m := by
  unfold aput at h
  split at h
  · obtain ⟨q, hq, rfl⟩ := List.mem_map.1 h
    split
    · exact .inl rfl
    · exact .inr hq
  · rcases List.mem_append.1 h with h | h
    · exact .inr h
    · exact .inl (by simpa using h)
theorem aget_isSome_iff {m : List (κ × ν)} {k : κ} : (aget m k).isSome ↔ k ∈ m.map (·.1) := by
  unfold aget
  rw [Option.isSome_map, List.find?_isSome]
  simp
end

/-- What is said of each file. -/
def FOk (m : List (ByteArray × (ByteArray × Nat))) : Prop := ∀ p ∈ m, p.2.1.size ≤ 65536 ∧ p.2.2 ≤ p.2.1.size

theorem cutTo_ok {f : ByteArray × Nat} (h1 : f.1.size ≤ 65536) (c : Int) : (cutTo f c).1.size ≤ 65536 ∧ (cutTo f c).2 ≤ (cutTo f c).1.size := by
  unfold cutTo
  simp only [ByteArray.size_extract]
  omega
theorem restep_ok {keep : List Int} {m : List (ByteArray × (ByteArray × Nat))} (h : FOk m) (i : Nat) (nm : ByteArray) : FOk (restep keep m i nm) := by
  unfold restep
  split
  · rename_i f hf
    intro p hp
    rcases aput_mem hp with rfl | hp
    · have hm : (nm, f) ∈ m := by
        unfold aget at hf
        rw [Option.map_eq_some_iff] at hf
        obtain ⟨q, hq, rfl⟩ := hf
        have h1 := List.find?_some hq
        simp at h1
        subst h1
        exact List.mem_of_find?_eq_some hq
      exact cutTo_ok (h _ hm).1 _
    · exact h p hp
  · exact h
theorem restep_keys (keep : List Int) (m : List (ByteArray × (ByteArray × Nat))) (i : Nat) (nm : ByteArray) : (restep keep m i nm).map (·.1) = m.map (·.1) := by
  unfold restep
  split
  · rename_i f hf
    exact aput_keys (by rw [hf]; rfl)
  · rfl
theorem refiles_ok {keep : List Int} {names : List ByteArray} {m : List (ByteArray × (ByteArray × Nat))} (h : FOk m) (k : Nat) : FOk (refiles keep names m k) := by
  induction k with
  | zero => exact h
  | succ k ih => exact restep_ok ih _ _
theorem refiles_keys (keep : List Int) (names : List ByteArray) (m : List (ByteArray × (ByteArray × Nat))) (k : Nat) : (refiles keep names m k).map (·.1) = m.map (·.1) := by
  induction k with
  | zero => rfl
  | succ k ih => exact (restep_keys _ _ _ _).trans ih
theorem Dk.names_length (D : Dk) : D.names.length = D.files.length := by
  unfold Dk.names
  rw [List.length_mergeSort, List.length_map]
theorem Dk.mem_names (D : Dk) {l : List UInt8} : l ∈ D.names ↔ ∃ p ∈ D.files, p.1.data.toList = l := by
  unfold Dk.names
  rw [List.mem_mergeSort, List.mem_map]
end Go.Proofs.YtlmnmjnmilaipaaGreatDoor
/- What a disk's calls keep. No program is named here. -/
set_option linter.unusedVariables false
namespace Go.Proofs.YtlmnmjnmilaipaaGreatDoor

section
variable {κ ν : Type} [DecidableEq κ]
theorem aget_none_iff {m : List (κ × ν)} {k : κ} : aget m k = none ↔ k ∉ m.map (·.1) := by
  rw [← aget_isSome_iff]
  cases aget m k <;> simp
theorem aput_none {m : List (κ × ν)} {k : κ} (h : aget m k = none) (v : ν) : aput m k v = m ++ [(k, v)] := by simp [aput, h]
theorem aput_nodup {m : List (κ × ν)} (h : (m.map (·.1)).Nodup) (k : κ) (v : ν) : ((aput m k v).map (·.1)).Nodup := by
  cases hg : aget m k with
  | none =>
    rw [aput_none hg, List.map_append]
    refine List.nodup_append.2 ⟨h, by simp, ?_⟩
    intro a ha b hb
    simp at hb
    subst hb
    rintro rfl
    exact aget_none_iff.1 hg ha
  | some u => rw [aput_keys (by rw [hg]; rfl)]; exact h
theorem aput_length (m : List (κ × ν)) (k : κ) (v : ν) : (aput m k v).length = if (aget m k).isSome then m.length else m.length + 1 := by
  unfold aput
  split <;> simp
theorem adel_sub (m : List (κ × ν)) (k : κ) : (adel m k).Sublist m := List.filter_sublist
theorem adel_mem {m : List (κ × ν)} {k : κ} {p : κ × ν} (h : p ∈ adel m k) : p ∈ m := (adel_sub m k).mem h
theorem adel_nodup {m : List (κ × ν)} (h : (m.map (·.1)).Nodup) (k : κ) : ((adel m k).map (·.1)).Nodup := h.sublist ((adel_sub m k).map _)
theorem aget_adel_same (m : List (κ × ν)) (k : κ) : aget (adel m k) k = none := by
  rw [aget_none_iff]
  intro h
  obtain ⟨p, hp, rfl⟩ := List.mem_map.1 h
  simp [adel] at hp
theorem aget_adel_other (m : List (κ × ν)) {k j : κ} (hne : j ≠ k) : aget (adel m k) j = aget m j := by
  unfold adel aget
  rw [List.find?_filter]
  congr 2
  funext p
  by_cases e : p.1 = j
  · simp [e, hne]
  · simp [e]
theorem adel_length_lt {m : List (κ × ν)} {k : κ} (h : (aget m k).isSome) : (adel m k).length < m.length := by
  obtain ⟨p, hp, rfl⟩ := List.mem_map.1 (aget_isSome_iff.1 h)
  unfold adel
  exact List.length_filter_lt_length_iff_exists.2 ⟨p, hp, by simp⟩
end

theorem aget_mem' {κ ν : Type} [DecidableEq κ] {m : List (κ × ν)} {k : κ} {v : ν} (h : aget m k = some v) : (k, v) ∈ m := by
  unfold aget at h
  rw [Option.map_eq_some_iff] at h
  obtain ⟨p, hp, rfl⟩ := h
  have h1 := List.find?_some hp
  have h2 := List.mem_of_find?_eq_some hp
  simp at h1
  subst h1
  exact h2

/-- What is said of the files. -/
structure FilesOk (m : List (ByteArray × (ByteArray × Nat))) : Prop where
  names : ∀ p ∈ m, isNm p.1 = true
  bytes : ∀ p ∈ m, p.2.1.size ≤ 65536
  synced : ∀ p ∈ m, p.2.2 ≤ p.2.1.size
  nodup : (m.map (·.1)).Nodup
  many : m.length ≤ 4
theorem Dk.Ok.files {D : Dk} (h : D.Ok) : FilesOk D.files := ⟨h.names, h.bytes, h.synced, h.nodup, h.many⟩
theorem Dk.Ok.mk' {D : Dk} (h : FilesOk D.files) (h1 : D.acts < 4611686018427387904) (h2 : D.armed < 4611686018427387904) : D.Ok := ⟨h.names, h.bytes, h.synced, h.nodup, h.many, h1, h2⟩
theorem FilesOk.put {m : List (ByteArray × (ByteArray × Nat))} (h : FilesOk m) {k : ByteArray} {v : ByteArray × Nat} (hk : isNm k = true) (h1 : v.1.size ≤ 65536) (h2 : v.2 ≤ v.1.size) (hm : aget m k = none → m.length < 4) : FilesOk (aput m k v) := by
  refine ⟨fun p hp => ?_, fun p hp => ?_, fun p hp => ?_, aput_nodup h.nodup k v, ?_⟩
  · rcases aput_mem hp with rfl | hp
    · exact hk
    · exact h.names p hp
  · rcases aput_mem hp with rfl | hp
    · exact h1
    · exact h.bytes p hp
  · rcases aput_mem hp with rfl | hp
    · exact h2
    · exact h.synced p hp
  · rw [aput_length]
    have := h.many
    cases hg : aget m k with
    | none => have := hm hg; simp; omega
    | some _ => simp; omega
theorem FilesOk.del {m : List (ByteArray × (ByteArray × Nat))} (h : FilesOk m) (k : ByteArray) : FilesOk (adel m k) :=
  ⟨fun p hp => h.names p (adel_mem hp), fun p hp => h.bytes p (adel_mem hp), fun p hp => h.synced p (adel_mem hp), adel_nodup h.nodup k, Nat.le_trans (adel_sub m k).length_le h.many⟩

theorem Dk.tick_files' (D : Dk) : D.tick.files = D.files := by unfold Dk.tick; split <;> rfl
theorem Dk.tick_armed (D : Dk) : D.tick.armed = D.armed := by unfold Dk.tick; split <;> rfl
theorem Dk.tick_acts_le (D : Dk) : D.acts ≤ D.tick.acts ∧ D.tick.acts ≤ D.acts + 1 := by unfold Dk.tick; split <;> simp
theorem Dk.tick_ok {D : Dk} (h : D.Ok) (ha : D.acts + 1 < 4611686018427387904) : D.tick.Ok :=
  .mk' (by rw [Dk.tick_files']; exact h.files) (by have := D.tick_acts_le; omega) (by rw [Dk.tick_armed]; exact h.armed)
theorem Dk.tick_put_ok {D : Dk} (h : D.Ok) (ha : D.acts + 1 < 4611686018427387904) {m : List (ByteArray × (ByteArray × Nat))} (hm : FilesOk m) : ({ D.tick with files := m } : Dk).Ok :=
  .mk' hm (by have := D.tick_acts_le; show D.tick.acts < _; omega) (by show D.tick.armed < _; rw [Dk.tick_armed]; exact h.armed)

theorem Dk.append_ok {D : Dk} (h : D.Ok) (ha : D.acts + 1 < 4611686018427387904) (name s : ByteArray) : (D.append name s).2.Ok := by
  unfold Dk.append
  split
  · exact Dk.tick_ok h ha
  split
  · exact Dk.tick_ok h ha
  rename_i hnm
  simp at hnm
  split
  · rename_i hg
    split
    · exact Dk.tick_ok h ha
    · rename_i hc
      exact Dk.tick_put_ok h ha (h.files.put hnm (by show s.size ≤ _; omega) (Nat.zero_le _) (fun _ => by omega))
  · rename_i f hg
    have hf := aget_mem' hg
    have h2 := h.synced _ hf
    split
    · exact Dk.tick_ok h ha
    · exact Dk.tick_put_ok h ha (h.files.put hnm (by show (f.1 ++ s).size ≤ _; rw [ByteArray.size_append]; omega) (by show f.2 ≤ (f.1 ++ s).size; rw [ByteArray.size_append]; simp only at h2; omega) (fun e => by rw [hg] at e; cases e))
theorem Dk.sync_ok {D : Dk} (h : D.Ok) (ha : D.acts + 1 < 4611686018427387904) (name : ByteArray) : (D.sync name).2.Ok := by
  unfold Dk.sync
  split
  · exact Dk.tick_ok h ha
  split
  · exact Dk.tick_ok h ha
  · rename_i f hg
    have hf := aget_mem' hg
    exact Dk.tick_put_ok h ha (h.files.put (h.names _ hf) (h.bytes _ hf) (Nat.le_refl _) (fun e => by rw [hg] at e; cases e))
theorem Dk.remove_ok {D : Dk} (h : D.Ok) (ha : D.acts + 1 < 4611686018427387904) (name : ByteArray) : (D.remove name).2.Ok := by
  unfold Dk.remove
  split
  · exact Dk.tick_ok h ha
  split
  · exact Dk.tick_ok h ha
  · exact Dk.tick_put_ok h ha (h.files.del name)
theorem Dk.rename_ok {D : Dk} (h : D.Ok) (ha : D.acts + 1 < 4611686018427387904) (a b : ByteArray) : (D.rename a b).2.Ok := by
  unfold Dk.rename
  split
  · exact Dk.tick_ok h ha
  split
  · exact Dk.tick_ok h ha
  · rename_i f hg
    split
    · exact Dk.tick_ok h ha
    · rename_i hnm
      simp at hnm
      have hf := aget_mem' hg
      exact Dk.tick_put_ok h ha ((h.files.del a).put hnm (h.bytes _ hf) (h.synced _ hf) (fun _ => by have := adel_length_lt (m := D.files) (k := a) (by rw [hg]; rfl); have := h.many; omega))
theorem Dk.arm_ok {D : Dk} (h : D.Ok) (ha : D.acts < 2305843009213693952) (n : Int) : (D.arm n).2.Ok := by
  unfold Dk.arm
  split
  · exact h
  · exact .mk' h.files h.acts (by show (if 0 < n then D.acts + n.toNat else 0) < _; split <;> omega)
theorem refiles_files {keep : List Int} {names : List ByteArray} {m : List (ByteArray × (ByteArray × Nat))} (h : FilesOk m) (k : Nat) : FilesOk (refiles keep names m k) := by
  have h1 : FOk m := fun p hp => ⟨h.bytes p hp, h.synced p hp⟩
  have h2 := refiles_ok (keep := keep) (names := names) h1 k
  have h3 := refiles_keys keep names m k
  refine ⟨fun p hp => ?_, fun p hp => (h2 p hp).1, fun p hp => (h2 p hp).2, by rw [h3]; exact h.nodup, ?_⟩
  · have : p.1 ∈ m.map (·.1) := by rw [← h3]; exact List.mem_map.2 ⟨p, hp, rfl⟩
    obtain ⟨q, hq, e⟩ := List.mem_map.1 this
    rw [← e]
    exact h.names q hq
  · have := congrArg List.length h3
    simp only [List.length_map] at this
    have := h.many
    omega
theorem Dk.restart_ok {D : Dk} (h : D.Ok) (keep : List Int) : (D.restart keep).Ok := .mk' (refiles_files h.files _) h.acts (by show 0 < _; omega)
theorem Dk.new_ok : Dk.new.Ok := ⟨by simp [Dk.new], by simp [Dk.new], by simp [Dk.new], by simp [Dk.new], by simp [Dk.new], by simp [Dk.new], by simp [Dk.new]⟩

/-- How many acts there are behind a call. -/
theorem Dk.append_acts (D : Dk) (a s : ByteArray) : D.acts ≤ (D.append a s).2.acts ∧ (D.append a s).2.acts ≤ D.acts + 1 := by
  have := D.tick_acts_le
  unfold Dk.append
  (repeat' split) <;> exact this
theorem Dk.sync_acts (D : Dk) (a : ByteArray) : D.acts ≤ (D.sync a).2.acts ∧ (D.sync a).2.acts ≤ D.acts + 1 := by
  have := D.tick_acts_le
  unfold Dk.sync
  (repeat' split) <;> exact this
theorem Dk.remove_acts (D : Dk) (a : ByteArray) : D.acts ≤ (D.remove a).2.acts ∧ (D.remove a).2.acts ≤ D.acts + 1 := by
  have := D.tick_acts_le
  unfold Dk.remove
  (repeat' split) <;> exact this
theorem Dk.rename_acts (D : Dk) (a b : ByteArray) : D.acts ≤ (D.rename a b).2.acts ∧ (D.rename a b).2.acts ≤ D.acts + 1 := by
  have := D.tick_acts_le
  unfold Dk.rename
  (repeat' split) <;> exact this
theorem Dk.arm_acts (D : Dk) (n : Int) : (D.arm n).2.acts = D.acts := by
  unfold Dk.arm
  split <;> rfl
theorem Dk.restart_acts (D : Dk) (keep : List Int) : (D.restart keep).acts = D.acts := rfl
end Go.Proofs.YtlmnmjnmilaipaaGreatDoor
/- Disks that are on and not armed. No program is named here. -/
set_option linter.unusedVariables false
namespace Go.Proofs.YtlmnmjnmilaipaaGreatDoor

abbrev Fl := List (ByteArray × (ByteArray × Nat))
/-- A disk that is on and not armed. -/
def free (fs : Fl) (n : Nat) : Dk := ⟨fs, n, 0, false⟩
theorem free_tick (fs : Fl) (n : Nat) : (free fs n).tick = free fs (n + 1) := by simp [free, Dk.tick]
theorem free_append_none {fs : Fl} {n : Nat} {k s : ByteArray} (h : aget fs k = none) (hk : isNm k = true) (hl : fs.length < 4) (hs : s.size ≤ 65536) : (free fs n).append k s = (0, free (fs ++ [(k, (s, 0))]) (n + 1)) := by
  unfold Dk.append
  rw [free_tick, if_neg (by simp [free]), hk, show aget (free fs n).files k = none from h]
  simp only [Bool.not_true, Bool.false_eq_true, if_false]
  rw [if_neg (by show ¬ (4 ≤ fs.length ∨ 65536 < s.size); omega), show aput (free fs n).files k (s, 0) = fs ++ [(k, (s, 0))] from aput_none h _]
  rfl
theorem free_append_some {fs : Fl} {n : Nat} {k s : ByteArray} {f : ByteArray × Nat} (h : aget fs k = some f) (hk : isNm k = true) (hs : f.1.size + s.size ≤ 65536) : (free fs n).append k s = (0, free (aput fs k (f.1 ++ s, f.2)) (n + 1)) := by
  unfold Dk.append
  rw [free_tick, if_neg (by simp [free]), hk, show aget (free fs n).files k = some f from h]
  simp only [Bool.not_true, Bool.false_eq_true, if_false]
  rw [if_neg (by omega)]
  rfl
theorem free_sync_none {fs : Fl} {n : Nat} {k : ByteArray} (h : aget fs k = none) : (free fs n).sync k = (101, free fs (n + 1)) := by
  unfold Dk.sync
  rw [free_tick, if_neg (by simp [free]), show aget (free fs n).files k = none from h]
theorem free_sync_some {fs : Fl} {n : Nat} {k : ByteArray} {f : ByteArray × Nat} (h : aget fs k = some f) : (free fs n).sync k = (0, free (aput fs k (f.1, f.1.size)) (n + 1)) := by
  unfold Dk.sync
  rw [free_tick, if_neg (by simp [free]), show aget (free fs n).files k = some f from h]
  rfl
theorem free_rename_some {fs : Fl} {n : Nat} {k j : ByteArray} {f : ByteArray × Nat} (h : aget fs k = some f) (hj : isNm j = true) : (free fs n).rename k j = (0, free (aput (adel fs k) j f) (n + 1)) := by
  unfold Dk.rename
  rw [free_tick, if_neg (by simp [free]), show aget (free fs n).files k = some f from h]
  simp only [hj, Bool.not_true, Bool.false_eq_true, if_false]
  rfl
theorem free_rename_none {fs : Fl} {n : Nat} {k j : ByteArray} (h : aget fs k = none) : (free fs n).rename k j = (101, free fs (n + 1)) := by
  unfold Dk.rename
  rw [free_tick, if_neg (by simp [free]), show aget (free fs n).files k = none from h]
theorem free_remove_some {fs : Fl} {n : Nat} {k : ByteArray} {f : ByteArray × Nat} (h : aget fs k = some f) : (free fs n).remove k = (0, free (adel fs k) (n + 1)) := by
  unfold Dk.remove
  rw [free_tick, if_neg (by simp [free]), show aget (free fs n).files k = some f from h]
  rfl
theorem free_remove_none {fs : Fl} {n : Nat} {k : ByteArray} (h : aget fs k = none) : (free fs n).remove k = (101, free fs (n + 1)) := by
  unfold Dk.remove
  rw [free_tick, if_neg (by simp [free]), show aget (free fs n).files k = none from h]
theorem free_read_some {fs : Fl} {n : Nat} {k : ByteArray} {f : ByteArray × Nat} (h : aget fs k = some f) : (free fs n).read k = (f.1, 0) := by
  unfold Dk.read
  rw [if_neg (by simp [free]), show aget (free fs n).files k = some f from h]
theorem free_read_none {fs : Fl} {n : Nat} {k : ByteArray} (h : aget fs k = none) : (free fs n).read k = (⟨#[]⟩, 101) := by
  unfold Dk.read
  rw [if_neg (by simp [free]), show aget (free fs n).files k = none from h]
theorem free_ok {fs : Fl} {n : Nat} (h : FilesOk fs) (hn : n < 4611686018427387904) : (free fs n).Ok := .mk' h hn (by show 0 < _; omega)
theorem free_restart (fs : Fl) (n : Nat) (keep : List Int) : (free fs n).restart keep = free (refiles keep (free fs 0).snames fs fs.length) n := rfl
theorem snames_one (k : ByteArray) (f : ByteArray × Nat) (n : Nat) : (free [(k, f)] n).snames = [k] := by
  have : (free [(k, f)] n).names = [k.data.toList] := by simp [Dk.names, free]
  unfold Dk.snames
  rw [this]
  rfl

/-- A text, no longer than n. -/
def cutN (s : ByteArray) (n : Nat) : ByteArray := s.extract 0 (min s.size n)
theorem cutN_size (s : ByteArray) (n : Nat) : (cutN s n).size = min s.size n := by
  unfold cutN
  rw [ByteArray.size_extract]
  omega
theorem append_extract (a b : ByteArray) (n : Nat) : (a ++ b).extract 0 (a.size + n) = a ++ b.extract 0 n := by
  apply ByteArray.ext
  simp only [ByteArray.data_extract, ByteArray.data_append]
  apply Array.ext'
  simp only [Array.toList_extract, Array.toList_append]
  have hs : a.size = a.data.toList.length := rfl
  rw [hs]
  simp only [List.extract_eq_take_drop, List.drop_zero, Nat.sub_zero, Array.toList_append, List.take_append, List.take_of_length_le (Nat.le_add_right _ n), Nat.add_sub_cancel_left]
end Go.Proofs.YtlmnmjnmilaipaaGreatDoor
/- What a Restart leaves of each file (the plain part of DiskS and DiskP). -/
set_option linter.unusedVariables false
namespace Go.Proofs.YtlmnmjnmilaipaaGreatDoor
theorem extract_self (s : ByteArray) : s.extract 0 s.size = s := by
  apply ByteArray.ext
  rw [ByteArray.data_extract]
  exact Array.extract_size
theorem extract_append_left (a b : ByteArray) : (a ++ b).extract 0 a.size = a := by
  have h := append_extract a b 0
  simpa using h

theorem toList_data_inj {a b : ByteArray} (h : a.data.toList = b.data.toList) : a = b := ByteArray.ext (Array.toList_inj.1 h)
theorem snames_perm (D : Dk) : D.snames.Perm (D.files.map (·.1)) := by
  have h : D.names.Perm (D.files.map (fun p => p.1.data.toList)) := List.mergeSort_perm _ _
  have h2 := h.map (fun l => (⟨l.toArray⟩ : ByteArray))
  have e : (D.files.map (fun p => p.1.data.toList)).map (fun l => (⟨l.toArray⟩ : ByteArray)) = D.files.map (·.1) := by
    rw [List.map_map]
    rfl
  rw [e] at h2
  exact h2
theorem restep_same {keep : List Int} {m : Fl} {i : Nat} {nm : ByteArray} : aget (restep keep m i nm) nm = (aget m nm).map (fun f => cutTo f (keep.getD i 0)) := by
  unfold restep
  cases h : aget m nm with
  | none => simpa using h
  | some f => simp only [aget_aput_same, Option.map_some]
theorem restep_other {keep : List Int} {m : Fl} {i : Nat} {nm k : ByteArray} (hne : k ≠ nm) : aget (restep keep m i nm) k = aget m k := by
  unfold restep
  cases h : aget m nm with
  | none => rfl
  | some f => exact aget_aput_other _ _ _ _ hne
theorem refiles_aget {keep : List Int} {names : List ByteArray} (hn : names.Nodup) (m : Fl) (k : ByteArray) : ∀ j, j ≤ names.length →
    (k ∉ names.take j → aget (refiles keep names m j) k = aget m k) ∧ (∀ i, i < j → names[i]? = some k → aget (refiles keep names m j) k = (aget m k).map (fun f => cutTo f (keep.getD i 0)))
  | 0, _ => ⟨fun _ => rfl, fun i hi => absurd hi (by omega)⟩
  | j + 1, hj => by
    obtain ⟨h1, h2⟩ := refiles_aget hn m k j (by omega)
    have hjl : j < names.length := by omega
    have hg : names.getD j ⟨#[]⟩ = names[j] := by rw [List.getD_eq_getElem?_getD, List.getElem?_eq_getElem hjl]; rfl
    have htk : names.take (j + 1) = names.take j ++ [names[j]] := by rw [List.take_succ_eq_append_getElem hjl]
    constructor
    · intro hk
      rw [htk, List.mem_append, not_or] at hk
      show aget (restep keep (refiles keep names m j) j (names.getD j ⟨#[]⟩)) k = _
      rw [hg, restep_other (by simpa using hk.2)]
      exact h1 hk.1
    · intro i hi hik
      show aget (restep keep (refiles keep names m j) j (names.getD j ⟨#[]⟩)) k = _
      rw [hg]
      by_cases hij : i = j
      · subst hij
        rw [List.getElem?_eq_getElem hjl] at hik
        obtain rfl := Option.some.inj hik
        rw [restep_same]
        rw [h1 ?_]
        intro hmem
        obtain ⟨i', hi', e⟩ := List.getElem_of_mem hmem
        rw [List.getElem_take] at e
        have hlt : i' < i := by simp at hi'; omega
        have := (List.getElem_inj hn).1 e
        omega
      · have hne : k ≠ names[j] := by
          rintro rfl
          have : i < names.length := by omega
          rw [List.getElem?_eq_getElem this] at hik
          have := (List.getElem_inj hn).1 (Option.some.inj hik)
          omega
        rw [restep_other hne]
        exact h2 i (by omega) hik
/-- Each file is cut, by some number. -/
theorem restart_aget {D : Dk} (h : D.Ok) (keep : List Int) (k : ByteArray) : ∃ c, aget (D.restart keep).files k = (aget D.files k).map (fun f => cutTo f c) := by
  have hp := snames_perm D
  have hn : D.snames.Nodup := hp.nodup_iff.2 h.nodup
  have hl : D.snames.length = D.files.length := by rw [hp.length_eq, List.length_map]
  obtain ⟨h1, h2⟩ := refiles_aget (keep := keep) hn D.files k D.files.length (by omega)
  have htk : D.snames.take D.files.length = D.snames := by rw [← hl]; exact List.take_length
  rw [htk] at h1
  by_cases hk : k ∈ D.snames
  · obtain ⟨i, hi, e⟩ := List.getElem_of_mem hk
    exact ⟨keep.getD i 0, h2 i (by omega) (by rw [List.getElem?_eq_getElem hi, e])⟩
  · refine ⟨0, ?_⟩
    have h3 := h1 hk
    have h4 : aget D.files k = none := by rw [aget_none_iff, ← hp.mem_iff]; exact hk
    show aget (refiles keep D.snames D.files D.files.length) k = _
    rw [h3, h4]
    rfl
theorem cutTo_spec (f : ByteArray × Nat) (hf : f.2 ≤ f.1.size) (c : Int) : ∃ m, f.2 ≤ m ∧ m ≤ f.1.size ∧ cutTo f c = (f.1.extract 0 m, m) := by
  have h1 := Int.emod_nonneg (keepOf c) (show ((f.1.size : Int) - f.2 + 1) ≠ 0 by omega)
  have h2 := Int.emod_lt_of_pos (keepOf c) (show 0 < ((f.1.size : Int) - f.2 + 1) by omega)
  refine ⟨f.2 + (keepOf c % ((f.1.size : Int) - f.2 + 1)).toNat, by omega, by omega, ?_⟩
  unfold cutTo
  simp only [ByteArray.size_extract]
  congr 1
  omega
theorem cutTo_synced (s : ByteArray) (c : Int) : cutTo (s, s.size) c = (s, s.size) := by
  obtain ⟨m, h1, h2, h3⟩ := cutTo_spec (s, s.size) (Nat.le_refl _) c
  simp only at h1 h2 h3
  obtain rfl : m = s.size := by omega
  rw [h3, extract_self]

end Go.Proofs.YtlmnmjnmilaipaaGreatDoor

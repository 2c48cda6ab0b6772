/- A disk as plain data, and what its calls make of it. No program is named here. -/
import Derived.Test.YtekkmfclaepcgaaMapW
set_option linter.unusedVariables false
namespace Go.Proofs.Ytekkmfclaepcgaa

/-- Files by their names, in the order of their making: bytes, and how many are synced. -/
structure Dk where
  files : List (ByteArray × (ByteArray × Nat))
  acts : Nat
  armed : Nat
  off : Bool

def fv (f : ByteArray × Nat) : Value := .agg #[.string f.1, .int .i64 f.2]

def Dk.new : Dk := ⟨[], 0, 0, false⟩
/-- An act begins. -/
def Dk.tick (D : Dk) : Dk := if D.off then D else { D with acts := D.acts + 1, off := decide (D.acts + 1 = D.armed) }
def isNm (s : ByteArray) : Bool := decide (0 < s.size ∧ s.size ≤ 12)
def Dk.append (D : Dk) (name s : ByteArray) : Int × Dk :=
  if D.tick.off then (100, D.tick) else
  if !isNm name then (1, D.tick) else
  match aget D.files name with
  | none => if 4 ≤ D.files.length ∨ 65536 < s.size then (102, D.tick) else (0, { D.tick with files := aput D.files name (s, 0) })
  | some f => if 65536 < f.1.size + s.size then (102, D.tick) else (0, { D.tick with files := aput D.files name (f.1 ++ s, f.2) })
def Dk.sync (D : Dk) (name : ByteArray) : Int × Dk :=
  if D.tick.off then (100, D.tick) else
  match aget D.files name with
  | none => (101, D.tick)
  | some f => (0, { D.tick with files := aput D.files name (f.1, f.1.size) })
def Dk.rename (D : Dk) (a b : ByteArray) : Int × Dk :=
  if D.tick.off then (100, D.tick) else
  match aget D.files a with
  | none => (101, D.tick)
  | some f => if !isNm b then (1, D.tick) else (0, { D.tick with files := aput (adel D.files a) b f })
def Dk.remove (D : Dk) (name : ByteArray) : Int × Dk :=
  if D.tick.off then (100, D.tick) else
  match aget D.files name with
  | none => (101, D.tick)
  | some _ => (0, { D.tick with files := adel D.files name })
def Dk.read (D : Dk) (name : ByteArray) : ByteArray × Int :=
  if D.off then (⟨#[]⟩, 100) else
  match aget D.files name with
  | none => (⟨#[]⟩, 101)
  | some f => (f.1, 0)
def Dk.arm (D : Dk) (n : Int) : Int × Dk :=
  if n < 0 ∨ 1099511627776 < n then (1, D) else (0, { D with armed := if 0 < n then D.acts + n.toNat else 0 })

/-- What a Restart leaves of a file: what is synced, and as much of the rest as a raw number says. -/
def keepOf (c : Int) : Int := if c < 0 then -(c + 1) else c
def cutTo (f : ByteArray × Nat) (c : Int) : ByteArray × Nat :=
  let s := f.1.extract 0 (f.2 + (keepOf c % ((f.1.size : Int) - f.2 + 1)).toNat)
  (s, s.size)
def restep (keep : List Int) (m : List (ByteArray × (ByteArray × Nat))) (i : Nat) (nm : ByteArray) : List (ByteArray × (ByteArray × Nat)) :=
  match aget m nm with
  | some f => aput m nm (cutTo f (keep.getD i 0))
  | none => m
/-- The files behind the first k names. -/
def refiles (keep : List Int) (names : List ByteArray) (m : List (ByteArray × (ByteArray × Nat))) : Nat → List (ByteArray × (ByteArray × Nat))
  | 0 => m
  | k + 1 => restep keep (refiles keep names m k) k (names.getD k ⟨#[]⟩)
/-- The names of a disk's files, sorted. -/
def Dk.names (D : Dk) : List (List UInt8) := (D.files.map (fun p => p.1.data.toList)).mergeSort (fun x y => decide (x ≤ y))
def Dk.snames (D : Dk) : List ByteArray := D.names.map (fun l => ⟨l.toArray⟩)
def Dk.restart (D : Dk) (keep : List Int) : Dk := { D with files := refiles keep D.snames D.files D.files.length, armed := 0, off := false }

/-- What the program keeps of a disk. -/
structure Dk.Ok (D : Dk) : Prop where
  names : ∀ p ∈ D.files, isNm p.1 = true
  bytes : ∀ p ∈ D.files, p.2.1.size ≤ 65536
  synced : ∀ p ∈ D.files, p.2.2 ≤ p.2.1.size
  nodup : (D.files.map (·.1)).Nodup
  many : D.files.length ≤ 4
  acts : D.acts < 4611686018427387904
  armed : D.armed < 4611686018427387904

section
variable {κ ν : Type} [DecidableEq κ]
theorem aget_aput_same (m : List (κ × ν)) (k : κ) (v : ν) : aget (aput m k v) k = some v := by
  unfold aput
  cases h : aget m k with
  | none =>
    simp only [Option.isSome_none, Bool.false_eq_true, if_false]
    unfold aget at h ⊢
    rw [Option.map_eq_none_iff] at h
    rw [List.find?_append, h]
    simp
  | some u =>
    simp only [Option.isSome_some, if_true]
    induction m with
    | nil => simp [aget] at h
    | cons p m ih =>
      unfold aget at h ih ⊢
      by_cases hp : p.1 = k
      · simp [hp]
      · rw [List.find?_cons_of_neg (by simpa using hp)] at h
        rw [List.map_cons, if_neg hp, List.find?_cons_of_neg (by simpa using hp)]
        exact ih h
theorem aget_aput_other (m : List (κ × ν)) (k j : κ) (v : ν) (hne : j ≠ k) : aget (aput m k v) j = aget m j := by
  unfold aput
  split
  · rename_i hs
    clear hs
    unfold aget
    induction m with
    | nil => rfl
    | cons p m ih =>
      by_cases hp : p.1 = k
      · have hj : p.1 ≠ j := fun e => hne (e.symm.trans hp)
        rw [List.map_cons, if_pos hp, List.find?_cons_of_neg (by simpa using fun e => hne e.symm), List.find?_cons_of_neg (by simpa using hj)]
        exact ih
      · rw [List.map_cons, if_neg hp]
        by_cases hj : p.1 = j
        · rw [List.find?_cons_of_pos (by simpa using hj), List.find?_cons_of_pos (by simpa using hj)]
        · rw [List.find?_cons_of_neg (by simpa using hj), List.find?_cons_of_neg (by simpa using hj)]
          exact ih
  · unfold aget
    rw [List.find?_append]
    have : (List.find? (fun p => decide (p.1 = j)) [(k, v)]) = none := by simpa using fun e => hne e.symm
    rw [this]
    simp
theorem aput_keys {m : List (κ × ν)} {k : κ} {v : ν} (h : (aget m k).isSome) : (aput m k v).map (·.1) = m.map (·.1) := by
  unfold aput
  rw [if_pos h, List.map_map]
  refine List.map_congr_left fun p _ => ?_
  simp only [Function.comp]
  split
  · rename_i e; exact e.symm
  · rfl
theorem aput_mem {m : List (κ × ν)} {k : κ} {v : ν} {p : κ × ν} (h : p ∈ aput m k v) : p = (k, v) ∨ p ∈ m := by
  unfold aput at h
  split at h
  · obtain ⟨q, hq, rfl⟩ := List.mem_map.1 h
    split
    · exact .inl rfl
    · exact .inr hq
  · rcases List.mem_append.1 h with h | h
    · exact .inr h
    · exact .inl (by simpa using h)
theorem aget_isSome_iff {m : List (κ × ν)} {k : κ} : (aget m k).isSome ↔ k ∈ m.map (·.1) := by
  unfold aget
  rw [Option.isSome_map, List.find?_isSome]
  simp
end

/-- What is said of each file. -/
def FOk (m : List (ByteArray × (ByteArray × Nat))) : Prop := ∀ p ∈ m, p.2.1.size ≤ 65536 ∧ p.2.2 ≤ p.2.1.size

theorem cutTo_ok {f : ByteArray × Nat} (h1 : f.1.size ≤ 65536) (c : Int) : (cutTo f c).1.size ≤ 65536 ∧ (cutTo f c).2 ≤ (cutTo f c).1.size := by
  unfold cutTo
  simp only [ByteArray.size_extract]
  omega
theorem restep_ok {keep : List Int} {m : List (ByteArray × (ByteArray × Nat))} (h : FOk m) (i : Nat) (nm : ByteArray) : FOk (restep keep m i nm) := by
  unfold restep
  split
  · rename_i f hf
    intro p hp
    rcases aput_mem hp with rfl | hp
    · have hm : (nm, f) ∈ m := by
        unfold aget at hf
        rw [Option.map_eq_some_iff] at hf
        obtain ⟨q, hq, rfl⟩ := hf
        have h1 := List.find?_some hq
        simp at h1
        subst h1
        exact List.mem_of_find?_eq_some hq
      exact cutTo_ok (h _ hm).1 _
    · exact h p hp
  · exact h
theorem restep_keys (keep : List Int) (m : List (ByteArray × (ByteArray × Nat))) (i : Nat) (nm : ByteArray) : (restep keep m i nm).map (·.1) = m.map (·.1) := by
  unfold restep
  split
  · rename_i f hf
    exact aput_keys (by rw [hf]; rfl)
  · rfl
theorem refiles_ok {keep : List Int} {names : List ByteArray} {m : List (ByteArray × (ByteArray × Nat))} (h : FOk m) (k : Nat) : FOk (refiles keep names m k) := by
  induction k with
  | zero => exact h
  | succ k ih => exact restep_ok ih _ _
theorem refiles_keys (keep : List Int) (names : List ByteArray) (m : List (ByteArray × (ByteArray × Nat))) (k : Nat) : (refiles keep names m k).map (·.1) = m.map (·.1) := by
  induction k with
  | zero => rfl
  | succ k ih => exact (restep_keys _ _ _ _).trans ih
theorem Dk.names_length (D : Dk) : D.names.length = D.files.length := by
  unfold Dk.names
  rw [List.length_mergeSort, List.length_map]
theorem Dk.mem_names (D : Dk) {l : List UInt8} : l ∈ D.names ↔ ∃ p ∈ D.files, p.1.data.toList = l := by
  unfold Dk.names
  rw [List.mem_mergeSort, List.mem_map]
end Go.Proofs.Ytekkmfclaepcgaa

/- Layer 4: slices.Sort, slices.Compact, strings.Join of a row of texts of the call's own; Both, Tidy. -/
import Derived.Test.YtfafdcdmaimghaaGreatDoorLabG
import Derived.Shelf.Sort.Plain
import Derived.Shelf.Slices.In.SortNone
import Derived.Shelf.Slices.CompactS
import Derived.Shelf.Strings.OnBuilder
set_option linter.unusedVariables false
set_option linter.unusedSimpArgs false
namespace Go.Proofs.YtfafdcdmaimghaaGreatDoor
open Go Go.RowKit Go.Sort Go.Proofs.YtfafdcdmaimghaaGreatDoorW.PrintWords

theorem joinX : Builder.Extra Tryz.prog Tryz.joinA_ren where
  sizeBuilder := by kernel_rfl
  liesBuilder := by kernel_rfl
  t5 := by kernel_rfl
  a5 := fun _ => by kernel_rfl
  z5 := fun _ => by kernel_rfl
  v5 := fun _ => by kernel_rfl
  infoByte := by kernel_rfl
  cellsByte := by kernel_rfl
  sizeByte := by kernel_rfl
  neB5 := by decide
theorem put_block {w : World} {g off n b : Nat} {d : Array Bs} (h : b ≠ g) : (putRow encStr (Sort.ahead w n) g off d).heap[b]? = w.heap[b]? := by
  unfold putRow mapBlock
  have : ¬ g = b := fun e => h e.symm
  simp [Sort.ahead, Array.getElem?_modify, this]
theorem put_size {w : World} {g n : Nat} {D : Array Bs} : (putRow encStr (Sort.ahead w n) g 0 D).heap.size = w.heap.size := by unfold putRow mapBlock; simp [Sort.ahead]
theorem below_put {w0 w : World} {g n : Nat} {d : Array Bs} (hB : Below w0.heap.size w0 w) (hg : w0.heap.size ≤ g) : Below w0.heap.size w0 (putRow encStr (Sort.ahead w n) g 0 d) :=
  hB.trans ⟨rfl, rfl, rfl, by unfold putRow mapBlock; simp [Sort.ahead], fun k hk => put_block (by omega)⟩
theorem below_grow {w0 w : World} {os : Array Obj} (hB : Below w0.heap.size w0 w) : Below w0.heap.size w0 (grow w os) :=
  hB.trans ⟨rfl, rfl, rfl, by simp [grow], fun k hk => heap_grow_old w os (Nat.lt_of_lt_of_le hk hB.size)⟩
theorem lsort_any (g cap : Nat) (l : List Bs) (w0 w : World) (hH : Holds encStr w g 0 l.toArray) (hg : w0.heap.size ≤ g) (hlt : g < w.heap.size) (hl : l.length ≤ 8388608) (hB : Below w0.heap.size w0 w) :
    Calls Tryz.prog 41 #[.slice (some ⟨g, 0, none⟩) l.length cap] w fun e w' => e = .returned (.tuple #[]) ∧ Holds encStr w' g 0 (l.mergeSort fun x y => decide (x ≤ y)).toArray ∧ g < w'.heap.size ∧ Below w0.heap.size w0 w' := by
  refine (Any.slices_Sort_string Tryz.sortA g 0 cap l w hH hlt (by omega)).mono ?_
  rintro e w' ⟨rfl, n, os, rfl⟩
  have hsz : (l.mergeSort fun x y => decide (x ≤ y)).toArray.size = l.toArray.size := by simp
  generalize (l.mergeSort fun x y => decide (x ≤ y)).toArray = D at *
  exact ⟨rfl, holds_grow encStr _ os g 0 D (by rw [put_size]; exact hlt) (holds_putRow encStr (Sort.ahead w n) g 0 l.toArray D (holds_ahead _ _ _ _ _ _ hH) hsz), by rw [size_grow, put_size]; omega, below_grow (below_put hB hg)⟩
theorem compact_le (l : List Bs) : (Lib.compact l).length ≤ l.length := by
  unfold Lib.compact Lib.compactUpTo
  rw [List.length_map]
  have := List.length_filter_le (Lib.keeps l.toArray) (List.range l.length)
  rwa [List.length_range] at this
theorem lcompact_any (g cap : Nat) (l : List Bs) (w0 w : World) (hH : Holds encStr w g 0 l.toArray) (hg : w0.heap.size ≤ g) (hlt : g < w.heap.size) (hl : l.length ≤ 8388608) (hc : l.length ≤ cap) (hB : Below w0.heap.size w0 w) :
    Calls Tryz.prog 42 #[.slice (some ⟨g, 0, none⟩) l.length cap] w fun e w' => e = .returned (.slice (some ⟨g, 0, none⟩) (Lib.compact l).length cap) ∧ Holds encStr w' g 0 (Lib.compact l).toArray ∧ g < w'.heap.size ∧ Below w0.heap.size w0 w' := by
  refine (Any.slices_Compact_string Tryz.compactA g 0 cap l w hH (by omega) hc).mono ?_
  rintro e w' ⟨rfl, n, rfl⟩
  have hsz : (Lib.compact l ++ List.replicate (l.length - (Lib.compact l).length) []).toArray.size = l.toArray.size := by have := compact_le l; simp; omega
  have hh := holds_putRow encStr (Sort.ahead w n) g 0 l.toArray (Lib.compact l ++ List.replicate (l.length - (Lib.compact l).length) []).toArray (holds_ahead _ _ _ _ _ _ hH) hsz
  refine ⟨rfl, fun j hj => ?_, by rw [put_size]; exact hlt, below_put hB hg⟩
  have hj2 : j < (Lib.compact l).length := by simpa using hj
  have := hh j (by simp; omega)
  refine ⟨this.1.trans ?_, this.2⟩
  congr 2
  simp [List.getElem?_append, hj2]
theorem join_join (l : List Bs) : Lib.join l [44] = joinC 44 l := by
  induction l with
  | nil => rfl
  | cons a t ih =>
    cases t with
    | nil => rw [Lib.join_one]; rfl
    | cons b r => simp only [Lib.join, joinC] at ih ⊢; rw [← ih]; simp [List.intercalate]
theorem ljoin_any (g cap : Nat) (l : List Bs) (w : World) (hH : Holds encStr w g 0 l.toArray) (hlt : g < w.heap.size) (hl : l.length ≤ 8388608) (hc : l.length ≤ cap) (hjl : (joinC 44 l).length ≤ 140737488355328) :
    Calls Tryz.prog 43 #[.slice (some ⟨g, 0, none⟩) l.length cap, .string ⟨#[44]⟩] w fun e w' => e = .returned (.string (ba (joinC 44 l))) ∧ Below w.heap.size w w' := by
  have hm : (l.map ba).map (·.data.toList) = l := by rw [List.map_map]; exact List.map_id'' (fun x => list_ba x) l
  have e2 : (⟨#[44]⟩ : ByteArray).data.toList = [44] := rfl
  have h := Any.strings_Join Tryz.joinA joinX g 0 cap (l.map ba) ⟨#[44]⟩ w (fun j x hx => ?_) hlt (by rw [List.length_map]; omega) (by rw [List.length_map]; exact hc) (by rw [hm, e2, join_join]; exact hjl)
  · rw [hm, e2, join_join, List.length_map] at h
    exact h
  · rw [List.getElem?_map, Option.map_eq_some_iff] at hx
    obtain ⟨y, hy, rfl⟩ := hx
    obtain ⟨hj, rfl⟩ := List.getElem?_eq_some_iff.1 hy
    have := (hH j (by simpa using hj)).1
    rw [this]
    congr 2
    simp [hj]
end Go.Proofs.YtfafdcdmaimghaaGreatDoor

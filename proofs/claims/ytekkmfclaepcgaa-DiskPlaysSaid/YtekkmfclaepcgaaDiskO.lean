/- Disks that are on and not armed. No program is named here. -/
import Derived.Test.YtekkmfclaepcgaaDiskN
set_option linter.unusedVariables false
namespace Go.Proofs.Ytekkmfclaepcgaa

abbrev Fl := List (ByteArray × (ByteArray × Nat))
/-- A disk that is on and not armed. -/
def free (fs : Fl) (n : Nat) : Dk := ⟨fs, n, 0, false⟩
theorem free_tick (fs : Fl) (n : Nat) : (free fs n).tick = free fs (n + 1) := by simp [free, Dk.tick]
theorem free_append_none {fs : Fl} {n : Nat} {k s : ByteArray} (h : aget fs k = none) (hk : isNm k = true) (hl : fs.length < 4) (hs : s.size ≤ 65536) : (free fs n).append k s = (0, free (fs ++ [(k, (s, 0))]) (n + 1)) := by
  unfold Dk.append
  rw [free_tick, if_neg (by simp [free]), hk, show aget (free fs n).files k = none from h]
  simp only [Bool.not_true, Bool.false_eq_true, if_false]
  rw [if_neg (by show ¬ (4 ≤ fs.length ∨ 65536 < s.size); omega), show aput (free fs n).files k (s, 0) = fs ++ [(k, (s, 0))] from aput_none h _]
  rfl
theorem free_append_some {fs : Fl} {n : Nat} {k s : ByteArray} {f : ByteArray × Nat} (h : aget fs k = some f) (hk : isNm k = true) (hs : f.1.size + s.size ≤ 65536) : (free fs n).append k s = (0, free (aput fs k (f.1 ++ s, f.2)) (n + 1)) := by
  unfold Dk.append
  rw [free_tick, if_neg (by simp [free]), hk, show aget (free fs n).files k = some f from h]
  simp only [Bool.not_true, Bool.false_eq_true, if_false]
  rw [if_neg (by omega)]
  rfl
theorem free_sync_none {fs : Fl} {n : Nat} {k : ByteArray} (h : aget fs k = none) : (free fs n).sync k = (101, free fs (n + 1)) := by
  unfold Dk.sync
  rw [free_tick, if_neg (by simp [free]), show aget (free fs n).files k = none from h]
theorem free_sync_some {fs : Fl} {n : Nat} {k : ByteArray} {f : ByteArray × Nat} (h : aget fs k = some f) : (free fs n).sync k = (0, free (aput fs k (f.1, f.1.size)) (n + 1)) := by
  unfold Dk.sync
  rw [free_tick, if_neg (by simp [free]), show aget (free fs n).files k = some f from h]
  rfl
theorem free_rename_some {fs : Fl} {n : Nat} {k j : ByteArray} {f : ByteArray × Nat} (h : aget fs k = some f) (hj : isNm j = true) : (free fs n).rename k j = (0, free (aput (adel fs k) j f) (n + 1)) := by
  unfold Dk.rename
  rw [free_tick, if_neg (by simp [free]), show aget (free fs n).files k = some f from h]
  simp only [hj, Bool.not_true, Bool.false_eq_true, if_false]
  rfl
theorem free_rename_none {fs : Fl} {n : Nat} {k j : ByteArray} (h : aget fs k = none) : (free fs n).rename k j = (101, free fs (n + 1)) := by
  unfold Dk.rename
  rw [free_tick, if_neg (by simp [free]), show aget (free fs n).files k = none from h]
theorem free_remove_some {fs : Fl} {n : Nat} {k : ByteArray} {f : ByteArray × Nat} (h : aget fs k = some f) : (free fs n).remove k = (0, free (adel fs k) (n + 1)) := by
  unfold Dk.remove
  rw [free_tick, if_neg (by simp [free]), show aget (free fs n).files k = some f from h]
  rfl
theorem free_remove_none {fs : Fl} {n : Nat} {k : ByteArray} (h : aget fs k = none) : (free fs n).remove k = (101, free fs (n + 1)) := by
  unfold Dk.remove
  rw [free_tick, if_neg (by simp [free]), show aget (free fs n).files k = none from h]
theorem free_read_some {fs : Fl} {n : Nat} {k : ByteArray} {f : ByteArray × Nat} (h : aget fs k = some f) : (free fs n).read k = (f.1, 0) := by
  unfold Dk.read
  rw [if_neg (by simp [free]), show aget (free fs n).files k = some f from h]
theorem free_read_none {fs : Fl} {n : Nat} {k : ByteArray} (h : aget fs k = none) : (free fs n).read k = (⟨#[]⟩, 101) := by
  unfold Dk.read
  rw [if_neg (by simp [free]), show aget (free fs n).files k = none from h]
theorem free_ok {fs : Fl} {n : Nat} (h : FilesOk fs) (hn : n < 4611686018427387904) : (free fs n).Ok := .mk' h hn (by show 0 < _; omega)
theorem free_restart (fs : Fl) (n : Nat) (keep : List Int) : (free fs n).restart keep = free (refiles keep (free fs 0).snames fs fs.length) n := rfl
theorem snames_one (k : ByteArray) (f : ByteArray × Nat) (n : Nat) : (free [(k, f)] n).snames = [k] := by
  have : (free [(k, f)] n).names = [k.data.toList] := by simp [Dk.names, free]
  unfold Dk.snames
  rw [this]
  rfl

/-- A text, no longer than n. -/
def cutN (s : ByteArray) (n : Nat) : ByteArray := s.extract 0 (min s.size n)
theorem cutN_size (s : ByteArray) (n : Nat) : (cutN s n).size = min s.size n := by
  unfold cutN
  rw [ByteArray.size_extract]
  omega
theorem append_extract (a b : ByteArray) (n : Nat) : (a ++ b).extract 0 (a.size + n) = a ++ b.extract 0 n := by
  apply ByteArray.ext
  simp only [ByteArray.data_extract, ByteArray.data_append]
  apply Array.ext'
  simp only [Array.toList_extract, Array.toList_append]
  have hs : a.size = a.data.toList.length := rfl
  rw [hs]
  simp only [List.extract_eq_take_drop, List.drop_zero, Nat.sub_zero, Array.toList_append, List.take_append, List.take_of_length_le (Nat.le_add_right _ n), Nat.add_sub_cancel_left]
end Go.Proofs.Ytekkmfclaepcgaa

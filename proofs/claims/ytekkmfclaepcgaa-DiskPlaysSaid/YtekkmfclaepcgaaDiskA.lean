/- The small functions of package disk: what each call does to the world. -/
import Derived.Test.YtekkmfclaepcgaaRows
import Derived.WalkKit
import Derived.WalkSpells
import Derived.WalkLawsBesides
import Derived.Lib.Hide
namespace Go.Proofs.Ytekkmfclaepcgaa
open Go.RowKit

set_option maxHeartbeats 400000 in
theorem off_any (b : Nat) (o : Bool) (w : World) (h : w.cell? ⟨b, 3, none⟩ = some (.bool o)) :
    Calls Try.prog 19 #[.pointer (some ⟨b, 0, none⟩)] w fun e w' => e = .returned (.bool o) ∧ w = w' := by
  go_enter Try.func19, Try.ntmps19
  go_wp2
  go_ret
  exact ⟨rfl, rfl⟩

set_option maxHeartbeats 400000 in
theorem acts_any (b : Nat) (n : Int) (w : World) (h : w.cell? ⟨b, 1, none⟩ = some (.int .i64 n)) :
    Calls Try.prog 33 #[.pointer (some ⟨b, 0, none⟩)] w fun e w' => e = .returned (.int .i64 n) ∧ w = w' := by
  go_enter Try.func33, Try.ntmps33
  go_wp2
  go_ret
  exact ⟨rfl, rfl⟩

theorem ret_bool {a b : Bool} (h : a = b) : Ending.returned (.bool a) = .returned (.bool b) := by rw [h]
theorem ret_int {k : IntKind} {a b : Int} (h : a = b) : Ending.returned (.int k a) = .returned (.int k b) := by rw [h]
theorem size_toList (s : ByteArray) : s.toList.length = s.size := by rw [ByteArray.toList_eq, Array.length_toList]; rfl
theorem not_empty (s : ByteArray) (h0 : 0 < s.size) : s.toList.isEmpty = false := by
  rw [List.isEmpty_eq_false_iff]; intro e
  have := size_toList s
  rw [e] at this
  simp at this
  omega
theorem is_empty (s : ByteArray) (h0 : s.size = 0) : s.toList.isEmpty = true := by
  rw [List.isEmpty_iff]
  exact List.eq_nil_of_length_eq_zero (by rw [size_toList, h0])

set_option maxHeartbeats 400000 in
theorem isName_yes (s : ByteArray) (h0 : 0 < s.size) (h1 : s.size ≤ 12) (w : World) :
    Calls Try.prog 37 #[.string s] w fun e w' => e = .returned (.bool true) ∧ w = w' := by
  have hne := not_empty s h0
  go_enter Try.func37, Try.ntmps37
  go_wp2
  go_ret
  exact ⟨ret_bool (by simp; omega), rfl⟩

set_option maxHeartbeats 400000 in
theorem isName_no (s : ByteArray) (hs : s.size ≤ maxLen) (h : s.size = 0 ∨ 12 < s.size) (w : World) :
    Calls Try.prog 37 #[.string s] w fun e w' => e = .returned (.bool false) ∧ w = w' := by
  unfold maxLen at hs
  rcases h with h | h
  · have hne := is_empty s h
    go_enter Try.func37, Try.ntmps37
    go_wp2
    go_ret
    exact ⟨rfl, rfl⟩
  · have hne := not_empty s (by omega)
    go_enter Try.func37, Try.ntmps37
    go_wp2
    go_ret
    exact ⟨ret_bool (by simp; omega), rfl⟩

set_option maxHeartbeats 400000 in
theorem new_any (w : World) :
    Calls Try.prog 10 #[] w fun e w' => e = .returned (.pointer (some ⟨w.heap.size + 1, 0, none⟩)) ∧ w' = (w.alloc (.map #[] 0)).alloc (.cells #[.map (some w.heap.size), .int .i64 0, .int .i64 0, .bool false] 55) := by
  have hmm := @run_makeMap Try.prog
  go_enter Try.func10, Try.ntmps10
  go_wp2
  go_ret
  exact ⟨rfl, rfl⟩
end Go.Proofs.Ytekkmfclaepcgaa

/- Layer 4: label.IsName, label.parts walked. -/
import Derived.Test.YtfafdcdmaimghaaGreatDoorLabQ
import Derived.Test.YtfafdcdmaimghaaGreatDoorLay
import Derived.Test.YtfafdcdmaimghaaGreatDoorRfO
import Derived.Shelf.Strings.SlTrimAscii
import Derived.Shelf.Strings.Split
import Derived.Shelf.Strings.Cut
import Derived.Shelf.Small.Wraps
import Derived.Shelf.Strings.Prefix
import Derived.Lib.Hide
set_option linter.unusedVariables false
set_option linter.unusedSimpArgs false
namespace Go.Proofs.YtfafdcdmaimghaaGreatDoor
open Go Go.RowKit Go.Proofs.YtfafdcdmaimghaaGreatDoorW.PrintWords

def ba (l : Bs) : ByteArray := ⟨l.toArray⟩
theorem ba_list (s : ByteArray) : ba s.data.toList = s := by cases s; simp [ba]
theorem list_ba (l : Bs) : (ba l).data.toList = l := by simp [ba]
theorem ba_size (l : Bs) : (ba l).size = l.length := by rw [Lib.size_eq, list_ba]
theorem ba_inj {a b : Bs} (h : ba a = ba b) : a = b := by rw [← list_ba a, h, list_ba]
def MaxLenAt (w : World) : Prop := ∃ m, w.cell? ⟨0, 0, none⟩ = some (.int .i64 m)
theorem MaxLenAt.below {w w' : World} (h : MaxLenAt w) (hb : Below w.heap.size w w') : MaxLenAt w' := by
  obtain ⟨m, hm⟩ := h
  exact ⟨m, (hb.cell (World.block_lt_of_cell? _ _ hm)).trans hm⟩

theorem ownsRow_full (w : World) (cs : List Value) (e : TypeId) (hm : cs.length ≤ maxLen) : (w.alloc (.cells cs.toArray e)).ownsRow w.heap.size e 1 (.slice (some ⟨w.heap.size, 0, none⟩) cs.length cs.length) cs.length cs :=
  ⟨by simp, .inr ⟨w.heap.size, cs.length, cs.toArray, rfl, Nat.le_refl _, heap_alloc_new w _, Nat.le_refl _, hm, by simp, by simp⟩⟩
theorem ret_bool {a b : Bool} (h : a = b) : Ending.returned (.bool a) = .returned (.bool b) := by rw [h]
theorem trim_empty (l : Bs) : (ba (Lib.trimS l letters)).toList.isEmpty = l.all isLet := by
  rw [Lib.toList_data, list_ba]
  cases h : l.all isLet with
  | true => rw [(trimS_nil l).2 h]; rfl
  | false =>
    cases ht : Lib.trimS l letters with
    | nil => rw [(trimS_nil l).1 ht] at h; cases h
    | cons a t => rfl
set_option maxHeartbeats 1000000 in
theorem lname_any (s : ByteArray) (w : World) (hs : s.size ≤ 9223372036854775807) :
    Calls Tryz.prog 16 #[.string s] w fun e w' => e = .returned (.bool (isNm s.data.toList)) ∧ Below w.heap.size w w' := by
  have htr : Calls Tryz.prog 35 #[.string s, .string (ba letters)] w fun e w' => e = .returned (.string (ba (Lib.trimS s.data.toList letters))) ∧ Below w.heap.size w w' := by
    have := Any.strings_Trim_laid Tryz.trimA (by kernel_rfl) s (ba letters) w hs (by rw [ba_size]; decide) (by rw [list_ba]; exact ascii_of_all (by decide))
    rw [list_ba] at this
    exact this
  have HTR := Lib.hid htr
  clear htr
  go_enter Tryz.func16, Tryz.ntmps16
  go_wp2_with (go_at_call 35; refine HTR.out.mono ?_; rintro e w' ⟨rfl, hb⟩)
  · rename_i h
    go_ret
    rw [Lib.toList_data] at h
    exact ⟨ret_bool (by rw [h]; rfl), Below.refl _ _⟩
  · rename_i h1 h2
    go_ret
    have h3 : s.data.toList.length ≤ 12 := by rw [← Lib.size_eq]; omega
    exact ⟨ret_bool (by rw [trim_empty, Lib.toList_data]; unfold isNm; rw [decide_eq_true h3, Bool.and_true]), hb⟩
  · rename_i h1 h2
    go_ret
    have h3 : ¬ s.data.toList.length ≤ 12 := by rw [← Lib.size_eq]; omega
    exact ⟨ret_bool (by unfold isNm; rw [decide_eq_false h3, Bool.and_false, Bool.false_and]), Below.refl _ _⟩

/-- label.parts: the pieces between commas, in a row of the call's own. -/
theorem lparts_any (s : ByteArray) (w : World) (hs : s.size ≤ 2097152) (hm : MaxLenAt w) :
    Calls Tryz.prog 11 #[.string s] w fun e w' => ∃ v, e = .returned v ∧ Kd.R Kd.string 9 w' w.heap.size (fun _ => True) v ((partsP s.data.toList).map ba) ∧ Below w.heap.size w w' := by
  obtain ⟨m, hm⟩ := hm
  have hsp := Any.strings_Split Tryz.splitA (by kernel_rfl) s ⟨#[44]⟩ m w (by omega) hm (by decide)
  have hcl : Lib.countB s ⟨#[44]⟩ ≤ s.size := Lib.countB_le _ (by decide) _ s (Nat.le_refl _)
  have hlen := Lib.splitB_all ⟨#[44]⟩ (by decide) 0 _ s rfl
  have hdat := Lib.splitB_data ⟨#[44]⟩ 0 (Lib.countB s ⟨#[44]⟩) s
  have HSP := Lib.hid hsp
  have HDAT := Lib.hid hdat
  have HLEN := Lib.hid hlen
  have HCL := Lib.hid hcl
  clear hsp hdat hlen hcl
  go_enter Tryz.func11, Tryz.ntmps11
  go_wp2_with (go_at_call 30; refine HSP.out.mono ?_; rintro e w' ⟨rfl, rfl⟩)
  · rename_i h
    go_ret
    have h0 : s.data.toList = [] := by rw [Lib.toList_data] at h; exact List.isEmpty_iff.1 h
    refine ⟨_, rfl, ?_, Below.refl _ _⟩
    rw [h0]
    exact Kd.R_nil _ _ _ _ _
  · rename_i h
    go_ret
    have h0 : s.data.toList ≠ [] := fun e => by rw [Lib.toList_data, e] at h; cases h
    have hp : Lib.splitB ⟨#[44]⟩ 0 (Lib.countB s ⟨#[44]⟩) s = (splitC 44 s.data.toList).map ba := by
      have h1 := HDAT.out
      have h2 : Lib.splitK [44] 0 (Lib.countB s ⟨#[44]⟩) s.data.toList = splitC 44 s.data.toList := split_one 44 s.data.toList
      have h3 : Lib.splitB ⟨#[44]⟩ 0 (Lib.countB s ⟨#[44]⟩) s = ((Lib.splitB ⟨#[44]⟩ 0 (Lib.countB s ⟨#[44]⟩) s).map (·.data.toList)).map ba := by
        rw [List.map_map]
        exact (List.map_id'' (fun x => ba_list x) _).symm
      rw [h3, ← h2, ← h1]
    have hl := HLEN.out
    rw [hp] at hl ⊢
    refine ⟨_, rfl, ?_, (Below.refl _ _).alloc (Nat.le_refl _) _⟩
    have hq : partsP s.data.toList = splitC 44 s.data.toList := by unfold partsP; rw [if_neg h0]
    rw [hq]
    have hc := HCL.out
    have hlen : ((splitC 44 s.data.toList).map ba).length = Lib.countB s ⟨#[44]⟩ + 1 := hl
    have hml : (encs Value.string ((splitC 44 s.data.toList).map ba)).length = Lib.countB s ⟨#[44]⟩ + 1 := by rw [encs_length, hlen]
    have ho := ownsRow_full w (encs Value.string ((splitC 44 s.data.toList).map ba)) 9 (by rw [hml]; unfold maxLen; omega)
    rw [hml] at ho
    refine Kd.R_of_own ?_ (fun _ _ => trivial)
    rw [hlen]
    exact ho
end Go.Proofs.YtfafdcdmaimghaaGreatDoor

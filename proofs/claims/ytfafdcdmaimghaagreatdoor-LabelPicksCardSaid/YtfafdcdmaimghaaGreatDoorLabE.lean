/- Layer 4: the closures of IsSelector and Match; slices.ContainsFunc over texts; IsSelector, Match. -/
import Derived.Test.YtfafdcdmaimghaaGreatDoorLabD
import Derived.Deep.RegionHeld3
import Derived.Deep.QuietTactic
import Derived.BigQuiet
set_option linter.unusedVariables false
set_option linter.unusedSimpArgs false
namespace Go.Proofs.YtfafdcdmaimghaaGreatDoor
open Go Go.RowKit Go.Proofs.YtfafdcdmaimghaaGreatDoorW.PrintWords

theorem raw_kind (l : Bs) : (rawT l).1 ≤ 4 := by
  unfold rawT
  by_cases h1 : (cutE 61 l).2.2 = true
  · rw [if_pos h1]
    by_cases h2 : (keyOf l).getLast? = some 33
    · rw [if_pos h2]; exact Nat.le_refl 4
    · rw [if_neg h2]; exact (by decide : 3 ≤ 4)
  · rw [if_neg h1]
    by_cases h2 : (keyOf l).head? = some 33
    · rw [if_pos h2]; exact (by decide : 2 ≤ 4)
    · rw [if_neg h2]; exact (by decide : 1 ≤ 4)
theorem read_kind (l : Bs) : (readT l).1 ≤ 4 := by
  unfold readT
  by_cases h : (isNm (rawT l).2.1 && isNm (rawT l).2.2) = true
  · rw [if_pos h]; exact raw_kind l
  · rw [if_neg h]; exact Nat.zero_le _
set_option maxRecDepth 100000 in
theorem lsel1_any (x : ByteArray) (w : World) (hs : x.size ≤ 2097152) (hm : MaxLenAt w) :
    Calls Tryz.prog 13 #[.string x] w fun e w' => e = .returned (.bool (decide ((readT x.data.toList).1 = 0))) ∧ Below w.heap.size w w' := by
  have HR := Lib.hid (lread_any x w hs hm)
  clear hm
  have hz : ((((readT x.data.toList).1 : Int)) == 0) = decide ((readT x.data.toList).1 = 0) := by rw [Bool.eq_iff_iff]; simp
  generalize readT x.data.toList = t at *
  have hfd : ∀ w : World, (Instr.field 33 (.agg #[.int .i64 (t.1 : Int), .string (ba t.2.1), .string (ba t.2.2)]) 0).run Tryz.prog w = .ok (.int .i64 (t.1 : Int)) w := fun _ => by kernel_rfl
  go_enter Tryz.func13, Tryz.ntmps13
  go_wp2_with (first | (simp only [hfd]; done) | simp only [hfd] | (go_at_call 14; refine HR.out.mono ?_; rintro e w1 ⟨rfl, hb⟩))
  all_goals go_ret
  all_goals first
    | exact ⟨ret_bool hz, hb⟩
    | exact ⟨ret_bool (by simp), hb⟩
    | (refine ⟨ret_bool ?_, hb⟩; simp at *; omega)

set_option maxHeartbeats 1000000 in
set_option maxRecDepth 100000 in
theorem lmat1_any (x labels : ByteArray) (b : Nat) (w : World) (hs : x.size ≤ 2097152) (hl : labels.size ≤ 2097152) (hm : MaxLenAt w) (hb : w.cell? ⟨b, 0, none⟩ = some (.string labels)) :
    Calls Tryz.prog 36 #[.string x, .pointer (some ⟨b, 0, none⟩)] w fun e w' => e = .returned (.bool (!holdsT (readT x.data.toList) labels.data.toList)) ∧ Below w.heap.size w w' := by
  have hr := fun W (h : Below w.heap.size w W) => lread_any x W hs (hm.below h)
  have hh := fun W (h : Below w.heap.size w W) => lholds_any (readT x.data.toList).1 (ba (readT x.data.toList).2.1) (ba (readT x.data.toList).2.2) labels W (read_kind _) hl (hm.below h)
  simp only [list_ba] at hh
  have HR := Lib.hid hr
  have HH := Lib.hid hh
  have hlt := World.block_lt_of_cell? _ _ hb
  clear hr hh hm
  generalize readT x.data.toList = t at *
  go_enter Tryz.func36, Tryz.ntmps36
  go_upto_region 1 with fail
  go_region_held3 (fun W => W.cell? ⟨b, 0, none⟩ = some (.string labels)) (first | exact hb | exact m0 | go_keep)
    (first
      | (go_at_call 14; refine (HR.out _ (by repeat (first | exact Below.refl _ _ | apply below_drew1))).mono ?_; rintro e w1 ⟨rfl, hb1⟩; have HB1 := Lib.hid (show Below w.heap.size w w1 from ⟨hb1.os, hb1.tape, hb1.output, hb1.size, hb1.block⟩); have m0 := (HB1.out.cell hlt).trans hb; clear hb1)
      | (go_at_call 37; refine (HH.out _ HB1.out).mono ?_; rintro e w2 ⟨rfl, hb2⟩; have HB2 := Lib.hid (below2 HB1.out hb2); have m0 := (HB2.out.cell hlt).trans hb; clear hb2))
  all_goals go_wp2_with fail
  all_goals go_ret
  all_goals exact ⟨rfl, HB2.out⟩
end Go.Proofs.YtfafdcdmaimghaaGreatDoor

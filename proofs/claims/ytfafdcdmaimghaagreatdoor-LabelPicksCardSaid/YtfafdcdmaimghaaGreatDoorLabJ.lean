/- Layer 4: awake walked. -/
import Derived.Test.YtfafdcdmaimghaaGreatDoorLabI
import Derived.Test.YtfafdcdmaimghaaGreatDoorLabR
set_option linter.unusedVariables false
set_option linter.unusedSimpArgs false
namespace Go.Proofs.YtfafdcdmaimghaaGreatDoor
open Go Go.RowKit Go.Proofs.YtfafdcdmaimghaaGreatDoorW.PrintWords

theorem aw_both : bothP [98, 44, 97, 44, 98] [] = ([97, 44, 98], 0) := by
  have e : tidyL (partsP [98, 44, 97, 44, 98] ++ partsP []) = [[97], [98]] := tidyL_eq (by decide) (fun x => by
    have h : partsP [98, 44, 97, 44, 98] ++ partsP [] = [[98], [97], [98]] := by decide +kernel
    rw [h]
    simp
    exact Or.inr)
  have s1 : isSel [98, 44, 97, 44, 98] = true := by decide +kernel
  have s2 : isSel [] = true := by decide +kernel
  unfold bothP
  rw [e, s1, s2]
  rfl
theorem aw_m1 : matchP [122, 111, 110, 101, 61, 97, 44, 33, 103, 112, 117] [100, 105, 115, 107, 61, 115, 115, 100, 44, 122, 111, 110, 101, 61, 97] = (true, 0) := by decide +kernel
theorem aw_m2 : matchP [100, 105, 115, 107, 33, 61, 115, 115, 100] [100, 105, 115, 107, 61, 115, 115, 100, 44, 122, 111, 110, 101, 61, 97] = (false, 0) := by decide +kernel
theorem aw_v : valueP [100, 105, 115, 107, 61, 115, 115, 100, 44, 122, 111, 110, 101, 61, 97] [122, 111, 110, 101] = some [97] := by decide +kernel
theorem aw_l1 : isLabels [122, 111, 110, 101, 61, 97, 44, 100, 105, 115, 107, 61, 115, 115, 100] = false := by decide +kernel
theorem aw_l2 : isLabels [100, 105, 115, 107, 61, 115, 115, 100, 44, 122, 111, 110, 101, 61, 97] = true := by decide +kernel
theorem aw_n : isNm [120, 57] = true := by decide +kernel

set_option maxHeartbeats 2000000 in
set_option maxRecDepth 100000 in
theorem awake4_any (w : World) (hm : MaxLenAt w) : Calls Tryz.prog 18 #[] w fun e w' => e = .returned (.bool true) ∧ Below w.heap.size w w' := by
  have h1 := fun W (h : Below w.heap.size w W) => lmatch_any (ba [122, 111, 110, 101, 61, 97, 44, 33, 103, 112, 117]) (ba [100, 105, 115, 107, 61, 115, 115, 100, 44, 122, 111, 110, 101, 61, 97]) W (by decide) (by decide) (hm.below h)
  have h2 := fun W (h : Below w.heap.size w W) => lmatch_any (ba [100, 105, 115, 107, 33, 61, 115, 115, 100]) (ba [100, 105, 115, 107, 61, 115, 115, 100, 44, 122, 111, 110, 101, 61, 97]) W (by decide) (by decide) (hm.below h)
  have h3 := fun W (h : Below w.heap.size w W) => ltidy_any (ba [98, 44, 97, 44, 98]) W (by decide) (hm.below h)
  have h4 := fun W (h : Below w.heap.size w W) => lvalue_any (ba [100, 105, 115, 107, 61, 115, 115, 100, 44, 122, 111, 110, 101, 61, 97]) (ba [122, 111, 110, 101]) W (by decide) (hm.below h)
  have h5 := fun W (h : Below w.heap.size w W) => lislabels_any (ba [122, 111, 110, 101, 61, 97, 44, 100, 105, 115, 107, 61, 115, 115, 100]) W (by decide) (hm.below h)
  have h6 := fun W (h : Below w.heap.size w W) => lislabels_any (ba [100, 105, 115, 107, 61, 115, 115, 100, 44, 122, 111, 110, 101, 61, 97]) W (by decide) (hm.below h)
  have h7 := fun W => lname_any (ba [120, 57]) W (by decide)
  simp only [list_ba, aw_m1] at h1
  simp only [list_ba, aw_m2] at h2
  simp only [list_ba, aw_both] at h3
  simp only [list_ba, aw_v] at h4
  simp only [list_ba, aw_l1] at h5
  simp only [list_ba, aw_l2] at h6
  simp only [list_ba, aw_n] at h7
  have H1 := Lib.hid h1
  have H2 := Lib.hid h2
  have H3 := Lib.hid h3
  have H4 := Lib.hid h4
  have H5 := Lib.hid h5
  have H6 := Lib.hid h6
  have H7 := Lib.hid h7
  clear h1 h2 h3 h4 h5 h6 h7 hm
  go_enter Tryz.func18, Tryz.ntmps18
  go_upto_region 2 with (go_at_call 19; refine (H1.out _ (Below.refl _ _)).mono ?_; rintro e w1 ⟨rfl, hb⟩; have B1 := Lib.hid hb; clear hb)
  go_upto_region 3 with (go_at_call 19; refine (H2.out _ B1.out).mono ?_; rintro e w2 ⟨rfl, hb⟩; have B2 := Lib.hid (below2 B1.out hb); clear hb)
  go_upto_region 4 with (go_at_call 21; refine (H3.out _ B2.out).mono ?_; rintro e w3 ⟨rfl, hb⟩; have B3 := Lib.hid (below2 B2.out hb); clear hb)
  go_upto_region 5 with (go_at_call 25; refine (H4.out _ B3.out).mono ?_; rintro e w4 ⟨rfl, hb⟩; have B4 := Lib.hid (below2 B3.out hb); clear hb)
  have q1 : ((ba [97, 44, 98]).toList == [97, 44, 98]) = true := by rw [Lib.toList_data, list_ba]; rfl
  have q2 : ((ba [97]).toList == [97]) = true := by rw [Lib.toList_data, list_ba]; rfl
  have q3 : (ba [97, 44, 98]).toList = [97, 44, 98] := by rw [Lib.toList_data, list_ba]
  have q4 : (ba [97]).toList = [97] := by rw [Lib.toList_data, list_ba]
  go_wp2_with (first
    | (go_at_call 6; refine (H6.out _ B5.out).mono ?_; rintro e w6 ⟨rfl, hb⟩; have B6 := Lib.hid (below2 B5.out hb); clear hb)
    | (go_at_call 6; refine (H5.out _ B4.out).mono ?_; rintro e w5 ⟨rfl, hb⟩; have B5 := Lib.hid (below2 B4.out hb); clear hb)
    | (go_at_call 16; refine (H7.out _).mono ?_; rintro e w7 ⟨rfl, hb⟩; have B7 := Lib.hid (below2 B6.out hb); clear hb))
  all_goals go_ret
  all_goals exact ⟨rfl, B7.out⟩
end Go.Proofs.YtfafdcdmaimghaaGreatDoor

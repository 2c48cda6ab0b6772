/- Layer 4: LabelTells walked. -/
import Derived.Test.YtfafdcdmaimghaaGreatDoorLabW
import Derived.Test.YtfafdcdmaimghaaGreatDoorLabJ
set_option linter.unusedVariables false
set_option linter.unusedSimpArgs false
namespace Go.Proofs.YtfafdcdmaimghaaGreatDoor
open Go Go.RowKit PR Go.Proofs.YtfafdcdmaimghaaGreatDoorW.PrintWords

theorem Below.drawn0 {w a b : World} (h : Below w.heap.size w a) (hd : Drawn0 a b) : Below w.heap.size w b := by
  obtain ⟨n, rfl⟩ := hd
  exact belowN h n
set_option maxHeartbeats 4000000 in
set_option maxRecDepth 100000 in
theorem labelTells_any (l m : Bs) (w : World) (hl : l.length ≤ 2097152) (hm : m.length ≤ 2097152) (hM : MaxLenAt w) :
    Calls Tryz.prog 8 #[.string (ba l), .string (ba m)] w fun e w' => e = .returned (.bool true) ∧ Below w.heap.size w w' := by
  have sl : (ba l).size ≤ 2097152 := by rw [ba_size]; exact hl
  have sm : (ba m).size ≤ 2097152 := by rw [ba_size]; exact hm
  have a1 := fun W (h : Below w.heap.size w W) => lmatch_any (ba l) (ba m) W sl sm (hM.below h)
  have a2 := fun W (h : Below w.heap.size w W) => ltidy_any (ba l) W sl (hM.below h)
  have a3 := fun W (h : Below w.heap.size w W) => lboth_any (ba l) (ba m) W sl sm (hM.below h)
  have a4 := fun W (h : Below w.heap.size w W) => lvalue_any (ba l) (ba m) W sl (hM.below h)
  have a5 := fun W => lname_any (ba l) W (by omega)
  have a6 := fun W (h : Below w.heap.size w W) => lislabels_any (ba l) W sl (hM.below h)
  have a7 := fun W (h : Below w.heap.size w W) => lissel_any (ba l) W sl (hM.below h)
  simp only [list_ba] at a1 a2 a3 a4 a5 a6 a7
  have b1 := fun W => billetref04_Match.calls 8388800 (ba l) (ba m) (matchP l m).1 (matchP l m).2 W (rMatch l m hl hm _ (Nat.le_refl _))
  have b2 := fun W => billetref04_Tidy.calls _ (ba l) _ _ W (rTidy l hl (4194410 + ((partsP l).length * (2 * (partsP l).length + 10) + 2)) (Nat.le_add_right _ _) (Nat.le_add_left _ _))
  have b3 := fun W => billetref04_Both.calls _ (ba l) (ba m) _ _ W (rBoth l m hl hm (4194410 + ((partsP l ++ partsP m).length * (2 * (partsP l ++ partsP m).length + 10) + 2)) (Nat.le_add_right _ _) (Nat.le_add_left _ _))
  have b4 := fun W => billetref04_Value.calls 4194400 (ba l) (ba m) _ _ W (rValue l m hl _ (Nat.le_refl _))
  have b5 := fun W => billetref04_IsName.calls _ (ba l) _ W (rIsName l hl _ (Nat.le_refl _))
  have b6 := fun W => billetref04_IsLabels.calls 4194400 (ba l) _ W (rIsLabels l hl _ (Nat.le_refl _))
  have b7 := fun W => billetref04_IsSelector.calls 4194400 (ba l) _ W (rIsSelector l hl _ (Nat.le_refl _))
  have HAW := Lib.hid (awake4_any w hM)
  generalize matchP l m = r1 at *
  generalize bothP l [] = r2 at *
  generalize bothP l m = r3 at *
  generalize valueP l m = r4 at *
  generalize isNm l = r5 at *
  generalize isLabels l = r6 at *
  generalize isSel l = r7 at *
  have A1 := Lib.hid a1
  have A2 := Lib.hid a2
  have A3 := Lib.hid a3
  have A4 := Lib.hid a4
  have A5 := Lib.hid a5
  have A6 := Lib.hid a6
  have A7 := Lib.hid a7
  have B1 := Lib.hid b1
  have B2 := Lib.hid b2
  have B3 := Lib.hid b3
  have B4 := Lib.hid b4
  have B5 := Lib.hid b5
  have B6 := Lib.hid b6
  have B7 := Lib.hid b7
  clear a1 a2 a3 a4 a5 a6 a7 b1 b2 b3 b4 b5 b6 b7 hM
  go_enter Tryz.func8, Tryz.ntmps8
  go_wp2_with (first
    | (go_at_call 18; refine HAW.out.mono ?_; rintro e w0 ⟨rfl, hb⟩; have C0 := Lib.hid hb; clear hb)
    | (go_at_call 19; refine (A1.out _ C0.out).mono ?_; rintro e w1 ⟨rfl, hb⟩; have C1 := Lib.hid (below2 C0.out hb); clear hb)
    | (go_at_call 20; refine (B1.out _).mono ?_; rintro e w2 ⟨rfl, hb⟩; have C2 := Lib.hid (below2 C1.out hb); clear hb)
    | (go_at_call 21; refine (A2.out _ C2.out).mono ?_; rintro e w3 ⟨rfl, hb⟩; have C3 := Lib.hid (below2 C2.out hb); clear hb)
    | (go_at_call 22; refine (B2.out _).mono ?_; rintro e w4 ⟨rfl, hb⟩; have C4 := Lib.hid (below2 C3.out hb); clear hb)
    | (go_at_call 23; refine (A3.out _ C4.out).mono ?_; rintro e w5 ⟨rfl, hb⟩; have C5 := Lib.hid (below2 C4.out hb); clear hb)
    | (go_at_call 24; refine (B3.out _).mono ?_; rintro e w6 ⟨rfl, hb⟩; have C6 := Lib.hid (below2 C5.out hb); clear hb)
    | (go_at_call 25; refine (A4.out _ C6.out).mono ?_; rintro e w7 ⟨rfl, hb⟩; have C7 := Lib.hid (below2 C6.out hb); clear hb)
    | (go_at_call 26; refine (B4.out _).mono ?_; rintro e w8 ⟨rfl, hb⟩; have C8 := Lib.hid (below2 C7.out hb); clear hb)
    | (go_at_call 16; refine (A5.out _).mono ?_; rintro e w9 ⟨rfl, hb⟩; have C9 := Lib.hid (below2 C8.out hb); clear hb)
    | (go_at_call 27; refine (B5.out _).mono ?_; rintro e w10 ⟨rfl, hb⟩; have D0 := Lib.hid (Below.drawn0 C9.out hb); clear hb)
    | (go_at_call 6; refine (A6.out _ D0.out).mono ?_; rintro e w11 ⟨rfl, hb⟩; have D1 := Lib.hid (below2 D0.out hb); clear hb)
    | (go_at_call 28; refine (B6.out _).mono ?_; rintro e w12 ⟨rfl, hb⟩; have D2 := Lib.hid (below2 D1.out hb); clear hb)
    | (go_at_call 5; refine (A7.out _ D2.out).mono ?_; rintro e w13 ⟨rfl, hb⟩; have D3 := Lib.hid (below2 D2.out hb); clear hb)
    | (go_at_call 29; refine (B7.out _).mono ?_; rintro e w14 ⟨rfl, hb⟩; have D4 := Lib.hid (below2 D3.out hb); clear hb))
  all_goals go_ret
  all_goals exact ⟨by first | rfl | (simp; done), D4.out⟩
theorem labelTells_row (s : ByteArray) (hs : s.size ≤ 2097152) (t : ByteArray) (ht : t.size ≤ 2097152) (W : World) (hM : MaxLenAt W) :
    Calls Tryz.prog 8 #[.string s, .string t] W fun e w' => e = .returned (.bool true) ∧ Below W.heap.size W w' := by
  have h := labelTells_any s.data.toList t.data.toList W (by rw [← Lib.size_eq]; exact hs) (by rw [← Lib.size_eq]; exact ht) hM
  rwa [ba_list, ba_list] at h
end Go.Proofs.YtfafdcdmaimghaaGreatDoor

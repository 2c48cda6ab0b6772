/- Layer 4: LabelPicks walked. -/
import Derived.Test.YtfafdcdmaimghaaGreatDoorLabK
import Derived.Test.YtfafdcdmaimghaaGreatDoorLabX
set_option linter.unusedVariables false
set_option linter.unusedSimpArgs false
namespace Go.Proofs.YtfafdcdmaimghaaGreatDoor
open Go Go.RowKit PR Go.Proofs.YtfafdcdmaimghaaGreatDoorW.PrintWords

theorem pselector_any (A : Option Addr) (c : Nat) (xs : List Int) (W : World) (hc : Kd.C (Kd.int .i64) W A xs.length xs) (hl : xs.length ≤ c) (hz : ∀ x ∈ xs, i64 x) :
    Calls Tryz.prog 4 #[.slice A xs.length c] W fun e w' => e = .returned (.string (ba (selP xs))) ∧ Below W.heap.size W w' :=
  billetlaw04_Selector.calls 1000 A c xs _ W hc hl (rSelector xs hz 1000 (by omega))
theorem plabels_any (A : Option Addr) (c : Nat) (xs : List Int) (W : World) (hc : Kd.C (Kd.int .i64) W A xs.length xs) (hl : xs.length ≤ c) (hz : ∀ x ∈ xs, i64 x) :
    Calls Tryz.prog 7 #[.slice A xs.length c] W fun e w' => e = .returned (.string (ba (labP xs))) ∧ Below W.heap.size W w' :=
  billetlaw04_Labels.calls 2000 A c xs _ W hc hl (rLabels xs hz 2000 (by omega))
set_option maxHeartbeats 4000000 in
set_option maxRecDepth 100000 in
theorem labelPicks_row (A0 : Option Addr) (c0 : Nat) (xs0 : List Int) (hl0 : xs0.length ≤ c0) (w : World) (hc0 : Kd.C (Kd.int .i64) w A0 xs0.length xs0) (hz0 : ∀ x ∈ xs0, i64 x) (hm0 : c0 ≤ maxLen)
    (A1 : Option Addr) (c1 : Nat) (xs1 : List Int) (hl1 : xs1.length ≤ c1) (hc1 : Kd.C (Kd.int .i64) w A1 xs1.length xs1) (hz1 : ∀ x ∈ xs1, i64 x) (hm1 : c1 ≤ maxLen)
    (A2 : Option Addr) (c2 : Nat) (xs2 : List Int) (hl2 : xs2.length ≤ c2) (hc2 : Kd.C (Kd.int .i64) w A2 xs2.length xs2) (hz2 : ∀ x ∈ xs2, i64 x) (hm2 : c2 ≤ maxLen) (hM : MaxLenAt w) :
    Calls Tryz.prog 3 #[.slice A0 xs0.length c0, .slice A1 xs1.length c1, .slice A2 xs2.length c2] w fun e w' => e = .returned (.bool true) ∧ Below w.heap.size w w' := by
  have hS := selP_len xs0
  have hO := selP_len xs1
  have hL := labP_len xs2
  have hN := nameP_len (xs0.length : Int)
  have hlen : i64 ((xs0.length : Nat) : Int) := i64_nat _ (by have : maxLen ≤ 9223372036854775807 := by decide
                                                              omega)
  have a0 := fun W (h : Below w.heap.size w W) => pselector_any A0 c0 xs0 W (Kd.C_below hc0 h) hl0 hz0
  have a1 := fun W (h : Below w.heap.size w W) => pselector_any A1 c1 xs1 W (Kd.C_below hc1 h) hl1 hz1
  have a2 := fun W (h : Below w.heap.size w W) => plabels_any A2 c2 xs2 W (Kd.C_below hc2 h) hl2 hz2
  have a3 := fun W => billetlaw04_Name.calls (xs0.length : Int) _ W (rName _ hlen)
  have a4 := fun W (h : Below w.heap.size w W) => lissel_any (ba (selP xs0)) W (by rw [ba_size]; omega) (hM.below h)
  have a5 := fun W (h : Below w.heap.size w W) => lislabels_any (ba (labP xs2)) W (by rw [ba_size]; omega) (hM.below h)
  rw [list_ba, show isSel (selP xs0) = true from (selT_ok xs0).sel] at a4
  rw [list_ba, labP_ok] at a5
  have a6 := fun W (h : Below w.heap.size w W) => labelTells_any (selP xs0) (labP xs2) W (by omega) (by omega) (hM.below h)
  have a7 := fun W (h : Below w.heap.size w W) => labelTells_any (selP xs0) (selP xs1) W (by omega) (by omega) (hM.below h)
  have a8 := fun W (h : Below w.heap.size w W) => labelTells_any (labP xs2) (nameP (xs0.length : Int)) W (by omega) (by omega) (hM.below h)
  generalize selP xs0 = S at *
  generalize selP xs1 = O at *
  generalize labP xs2 = L at *
  generalize nameP (xs0.length : Int) = K at *
  have B0 := Lib.hid a0
  have B1 := Lib.hid a1
  have B2 := Lib.hid a2
  have B3 := Lib.hid a3
  have B4 := Lib.hid a4
  have B5 := Lib.hid a5
  have B6 := Lib.hid a6
  have B7 := Lib.hid a7
  have B8 := Lib.hid a8
  have C0 := Lib.hid (Below.refl w.heap.size w)
  clear a0 a1 a2 a3 a4 a5 a6 a7 a8 hM hS hO hL hN hc0 hc1 hc2 hz0 hz1 hz2 hl0 hl1 hl2 hlen
  go_enter Tryz.func3, Tryz.ntmps3
  go_wp2_with (first
    | (go_at_call 8; refine (B8.out _ E0.out).mono ?_; rintro e w11 ⟨rfl, hb⟩; have E1 := Lib.hid (below2 E0.out hb); clear hb)
    | (go_at_call 8; refine (B7.out _ D7.out).mono ?_; rintro e w8 ⟨rfl, hb⟩; have D8 := Lib.hid (below2 D7.out hb); clear hb)
    | (go_at_call 8; refine (B6.out _ D5.out).mono ?_; rintro e w6 ⟨rfl, hb⟩; have D6 := Lib.hid (below2 D5.out hb); clear hb)
    | (go_at_call 9; refine (B3.out _).mono ?_; rintro e w10 ⟨rfl, hb⟩; have E0 := Lib.hid (below2 D9.out hb); clear hb)
    | (go_at_call 7; refine (B2.out _ D8.out).mono ?_; rintro e w9 ⟨rfl, hb⟩; have D9 := Lib.hid (below2 D8.out hb); clear hb)
    | (go_at_call 7; refine (B2.out _ D4.out).mono ?_; rintro e w5 ⟨rfl, hb⟩; have D5 := Lib.hid (below2 D4.out hb); clear hb)
    | (go_at_call 7; refine (B2.out _ D2.out).mono ?_; rintro e w3 ⟨rfl, hb⟩; have D3 := Lib.hid (below2 D2.out hb); clear hb)
    | (go_at_call 4; refine (B1.out _ D6.out).mono ?_; rintro e w7 ⟨rfl, hb⟩; have D7 := Lib.hid (below2 D6.out hb); clear hb)
    | (go_at_call 4; refine (B0.out _ C0.out).mono ?_; rintro e w1 ⟨rfl, hb⟩; have D1 := Lib.hid hb; clear hb)
    | (go_at_call 6; refine (B5.out _ D3.out).mono ?_; rintro e w4 ⟨rfl, hb⟩; have D4 := Lib.hid (below2 D3.out hb); clear hb)
    | (go_at_call 5; refine (B4.out _ D1.out).mono ?_; rintro e w2 ⟨rfl, hb⟩; have D2 := Lib.hid (below2 D1.out hb); clear hb))
  all_goals go_ret
  all_goals exact ⟨by first | rfl | (simp; done), E1.out⟩
end Go.Proofs.YtfafdcdmaimghaaGreatDoor

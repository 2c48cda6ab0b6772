/- Layer 4: LabelTidies, LabelBoth walked. -/
import Derived.Test.YtfafdcdmaimghaaDoorLabK
import Derived.Test.YtfafdcdmaimghaaDoorLabJ
set_option linter.unusedVariables false
set_option linter.unusedSimpArgs false
namespace Go.Proofs.YtfafdcdmaimghaaDoor
open Go Go.RowKit PR Go.Proofs.YtfafdcdmaimghaaDoorW.PrintWords

theorem minZ (n : Nat) : min (n : Int) 4 = ((min n 4 : Nat) : Int) := by
  rcases Nat.le_total n 4 with h | h
  · rw [Int.min_eq_left (by omega), Nat.min_eq_left h]
  · rw [Int.min_eq_right (by omega), Nat.min_eq_right h]; rfl
theorem selector_any (A : Option Addr) (c : Nat) (xs : List Int) (W : World) (hc : Kd.C (Kd.int .i64) W A xs.length xs) (hl : xs.length ≤ c) (hz : ∀ x ∈ xs, i64 x) :
    Calls Tryd.prog 25 #[.slice A xs.length c] W fun e w' => e = .returned (.string (ba (selP xs))) ∧ Below W.heap.size W w' :=
  billetlaw04_Selector.calls 1000 A c xs _ W hc hl (rSelector xs hz 1000 (by omega))
theorem labels_any (A : Option Addr) (c : Nat) (xs : List Int) (W : World) (hc : Kd.C (Kd.int .i64) W A xs.length xs) (hl : xs.length ≤ c) (hz : ∀ x ∈ xs, i64 x) :
    Calls Tryd.prog 26 #[.slice A xs.length c] W fun e w' => e = .returned (.string (ba (labP xs))) ∧ Below W.heap.size W w' :=
  billetlaw04_Labels.calls 2000 A c xs _ W hc hl (rLabels xs hz 2000 (by omega))
theorem match_of {s l : Bs} {m : Bool} {e : Int} (h : matchP s l = (m, e)) (W : World) (hs : s.length ≤ 2097152) (hl : l.length ≤ 2097152) (hM : MaxLenAt W) :
    Calls Tryd.prog 11 #[.string (ba s), .string (ba l)] W fun e' w' => e' = .returned (.tuple #[.bool m, .int .i64 e]) ∧ Below W.heap.size W w' := by
  have := lmatch_any (ba s) (ba l) W (by rw [ba_size]; exact hs) (by rw [ba_size]; exact hl) hM
  rwa [list_ba, list_ba, h] at this
theorem both_of {s l u : Bs} {e : Int} (h : bothP s l = (u, e)) (W : World) (hs : s.length ≤ 2097152) (hl : l.length ≤ 2097152) (hM : MaxLenAt W) :
    Calls Tryd.prog 15 #[.string (ba s), .string (ba l)] W fun e' w' => e' = .returned (.tuple #[.string (ba u), .int .i64 e]) ∧ Below W.heap.size W w' := by
  have := lboth_any (ba s) (ba l) W (by rw [ba_size]; exact hs) (by rw [ba_size]; exact hl) hM
  rwa [list_ba, list_ba, h] at this
theorem tidy_of {s u : Bs} {e : Int} (h : bothP s [] = (u, e)) (W : World) (hs : s.length ≤ 2097152) (hM : MaxLenAt W) :
    Calls Tryd.prog 13 #[.string (ba s)] W fun e' w' => e' = .returned (.tuple #[.string (ba u), .int .i64 e]) ∧ Below W.heap.size W w' := by
  have := ltidy_any (ba s) W (by rw [ba_size]; exact hs) hM
  rwa [list_ba, h] at this
set_option maxHeartbeats 4000000 in
set_option maxRecDepth 100000 in
theorem labelTidies_row (A0 : Option Addr) (c0 : Nat) (xs0 : List Int) (hl0 : xs0.length ≤ c0) (w : World) (hc0 : Kd.C (Kd.int .i64) w A0 xs0.length xs0) (hz0 : ∀ x ∈ xs0, i64 x) (hm0 : c0 ≤ maxLen)
    (A1 : Option Addr) (c1 : Nat) (xs1 : List Int) (hl1 : xs1.length ≤ c1) (hc1 : Kd.C (Kd.int .i64) w A1 xs1.length xs1) (hz1 : ∀ x ∈ xs1, i64 x) (hm1 : c1 ≤ maxLen) (hM : MaxLenAt w) :
    Calls Tryd.prog 4 #[.slice A0 xs0.length c0, .slice A1 xs1.length c1] w fun e w' => e = .returned (.bool true) ∧ Below w.heap.size w w' := by
  obtain ⟨T, m, e1, e2, e3, e4, hlen⟩ := zTidies xs0 xs1
  have hS := selP_len xs0
  have hL := labP_len xs1
  have a0 := fun W (h : Below w.heap.size w W) => selector_any A0 c0 xs0 W (Kd.C_below hc0 h) hl0 hz0
  have a1 := fun W (h : Below w.heap.size w W) => labels_any A1 c1 xs1 W (Kd.C_below hc1 h) hl1 hz1
  have a2 := fun W (h : Below w.heap.size w W) => tidy_of e1 W (by omega) (hM.below h)
  have a3 := fun W (h : Below w.heap.size w W) => tidy_of e2 W (by omega) (hM.below h)
  have a4 := fun W (h : Below w.heap.size w W) => match_of e3 W (by omega) (by omega) (hM.below h)
  have a5 := fun W (h : Below w.heap.size w W) => match_of e4 W (by omega) (by omega) (hM.below h)
  have hle : (ba T).size ≤ (ba (selP xs0)).size := by rw [ba_size, ba_size]; exact hlen
  generalize selP xs0 = S at *
  generalize labP xs1 = L at *
  have HAW := Lib.hid (awake4_any w hM)
  have B0 := Lib.hid a0
  have B1 := Lib.hid a1
  have B2 := Lib.hid a2
  have B3 := Lib.hid a3
  have B4 := Lib.hid a4
  have B5 := Lib.hid a5
  have HLE := Lib.hid hle
  clear a0 a1 a2 a3 a4 a5 hM e1 e2 e3 e4 hlen hle hS hL hc0 hc1 hz0 hz1 hl0 hl1
  go_enter Tryd.func4, Tryd.ntmps4
  go_wp2_with (first
    | (go_at_call 10; refine HAW.out.mono ?_; rintro e w0 ⟨rfl, hb⟩; have C0 := Lib.hid hb; clear hb)
    | (go_at_call 25; refine (B0.out _ C0.out).mono ?_; rintro e w1 ⟨rfl, hb⟩; have C1 := Lib.hid (below2 C0.out hb); clear hb)
    | (go_at_call 26; refine (B1.out _ C1.out).mono ?_; rintro e w2 ⟨rfl, hb⟩; have C2 := Lib.hid (below2 C1.out hb); clear hb)
    | (go_at_call 13; refine (B3.out _ C3.out).mono ?_; rintro e w4 ⟨rfl, hb⟩; have C4 := Lib.hid (below2 C3.out hb); clear hb)
    | (go_at_call 13; refine (B2.out _ C2.out).mono ?_; rintro e w3 ⟨rfl, hb⟩; have C3 := Lib.hid (below2 C2.out hb); clear hb)
    | (go_at_call 11; refine (B5.out _ C5.out).mono ?_; rintro e w6 ⟨rfl, hb⟩; have C6 := Lib.hid (below2 C5.out hb); clear hb)
    | (go_at_call 11; refine (B4.out _ C4.out).mono ?_; rintro e w5 ⟨rfl, hb⟩; have C5 := Lib.hid (below2 C4.out hb); clear hb))
  all_goals go_ret
  all_goals exact ⟨by first | rfl | (simp; done) | (simp; exact HLE.out), C6.out⟩
set_option maxHeartbeats 4000000 in
set_option maxRecDepth 100000 in
theorem labelBoth_row (A0 : Option Addr) (c0 : Nat) (xs0 : List Int) (hl0 : xs0.length ≤ c0) (w : World) (hc0 : Kd.C (Kd.int .i64) w A0 xs0.length xs0) (hz0 : ∀ x ∈ xs0, i64 x) (hm0 : c0 ≤ maxLen)
    (A1 : Option Addr) (c1 : Nat) (xs1 : List Int) (hl1 : xs1.length ≤ c1) (hc1 : Kd.C (Kd.int .i64) w A1 xs1.length xs1) (hz1 : ∀ x ∈ xs1, i64 x) (hm1 : c1 ≤ maxLen)
    (A2 : Option Addr) (c2 : Nat) (xs2 : List Int) (hl2 : xs2.length ≤ c2) (hc2 : Kd.C (Kd.int .i64) w A2 xs2.length xs2) (hz2 : ∀ x ∈ xs2, i64 x) (hm2 : c2 ≤ maxLen) (hM : MaxLenAt w) :
    Calls Tryd.prog 5 #[.slice A0 xs0.length c0, .slice A1 xs1.length c1, .slice A2 xs2.length c2] w fun e w' => e = .returned (.bool true) ∧ Below w.heap.size w w' := by
  obtain ⟨u, e, a, b, e1, e2, e3, e4, hu, hcase⟩ := zBoth xs0 xs1 xs2
  have hS := selP_len xs0
  have hT := selP_len xs1
  have hL := labP_len xs2
  have a0 := fun W (h : Below w.heap.size w W) => selector_any A0 c0 xs0 W (Kd.C_below hc0 h) hl0 hz0
  have a1 := fun W (h : Below w.heap.size w W) => selector_any A1 c1 xs1 W (Kd.C_below hc1 h) hl1 hz1
  have a2 := fun W (h : Below w.heap.size w W) => labels_any A2 c2 xs2 W (Kd.C_below hc2 h) hl2 hz2
  have a3 := fun W (h : Below w.heap.size w W) => both_of e1 W (by omega) (by omega) (hM.below h)
  have a4 := fun W (h : Below w.heap.size w W) => both_of e2 W (by omega) (by omega) (hM.below h)
  have a5 := fun W (h : Below w.heap.size w W) => match_of e3 W (by omega) (by omega) (hM.below h)
  have a6 := fun W (h : Below w.heap.size w W) => match_of e4 W (by omega) (by omega) (hM.below h)
  have HAW := Lib.hid (awake4_any w hM)
  have B0 := Lib.hid a0
  have B1 := Lib.hid a1
  have B2 := Lib.hid a2
  have B3 := Lib.hid a3
  have B4 := Lib.hid a4
  have B5 := Lib.hid a5
  have B6 := Lib.hid a6
  rcases hcase with ⟨rfl, e5⟩ | ⟨rfl, rfl, hgt⟩
  · have a7 := fun W (h : Below w.heap.size w W) => match_of e5 W (by omega) (by omega) (hM.below h)
    have B7 := Lib.hid a7
    clear a0 a1 a2 a3 a4 a5 a6 a7 hM e1 e2 e3 e4 e5 hu hS hT hL hc0 hc1 hc2 hz0 hz1 hz2 hl0 hl1 hl2 hm0 hm1
    generalize selP xs0 = S at *
    generalize selP xs1 = T at *
    generalize labP xs2 = L at *
    go_enter Tryd.func5, Tryd.ntmps5
    go_wp2_with (first
      | (go_at_call 10; refine HAW.out.mono ?_; rintro e w0 ⟨rfl, hb⟩; have C0 := Lib.hid hb; clear hb)
      | (go_at_call 25; refine (B1.out _ C1.out).mono ?_; rintro e w2 ⟨rfl, hb⟩; have C2 := Lib.hid (below2 C1.out hb); clear hb)
      | (go_at_call 25; refine (B0.out _ C0.out).mono ?_; rintro e w1 ⟨rfl, hb⟩; have C1 := Lib.hid (below2 C0.out hb); clear hb)
      | (go_at_call 26; refine (B2.out _ C2.out).mono ?_; rintro e w3 ⟨rfl, hb⟩; have C3 := Lib.hid (below2 C2.out hb); clear hb)
      | (go_at_call 15; refine (B4.out _ C4.out).mono ?_; rintro e w5 ⟨rfl, hb⟩; have C5 := Lib.hid (below2 C4.out hb); clear hb)
      | (go_at_call 15; refine (B3.out _ C3.out).mono ?_; rintro e w4 ⟨rfl, hb⟩; have C4 := Lib.hid (below2 C3.out hb); clear hb)
      | (go_at_call 11; refine (B7.out _ C7.out).mono ?_; rintro e w8 ⟨rfl, hb⟩; have C8 := Lib.hid (below2 C7.out hb); clear hb)
      | (go_at_call 11; refine (B6.out _ C6.out).mono ?_; rintro e w7 ⟨rfl, hb⟩; have C7 := Lib.hid (below2 C6.out hb); clear hb)
      | (go_at_call 11; refine (B5.out _ C5.out).mono ?_; rintro e w6 ⟨rfl, hb⟩; have C6 := Lib.hid (below2 C5.out hb); clear hb))
    all_goals go_ret
    all_goals exact ⟨by first | rfl | (simp; done), C8.out⟩
  · have HG := Lib.hid (show (4 : Int) < ((min xs0.length 4 : Nat) : Int) + ((min xs1.length 4 : Nat) : Int) by generalize min xs0.length 4 = x at *; generalize min xs1.length 4 = y at *; omega)
    clear hgt
    have hE1 : (ba ([] : Bs)).toList = ([] : List UInt8) := by rw [Lib.toList_data, list_ba]
    have hE2 : (ba ([] : Bs)).toList.isEmpty = true := by rw [hE1]; rfl
    clear a0 a1 a2 a3 a4 a5 a6 hM e1 e2 e3 e4 hu hS hT hL hc0 hc1 hc2 hz0 hz1 hz2
    generalize selP xs0 = S at *
    generalize selP xs1 = T at *
    generalize labP xs2 = L at *
    go_enter Tryd.func5, Tryd.ntmps5
    go_wp2_with (first
      | (go_at_call 10; refine HAW.out.mono ?_; rintro e w0 ⟨rfl, hb⟩; have C0 := Lib.hid hb; clear hb)
      | (go_at_call 25; refine (B1.out _ C1.out).mono ?_; rintro e w2 ⟨rfl, hb⟩; have C2 := Lib.hid (below2 C1.out hb); clear hb)
      | (go_at_call 25; refine (B0.out _ C0.out).mono ?_; rintro e w1 ⟨rfl, hb⟩; have C1 := Lib.hid (below2 C0.out hb); clear hb)
      | (go_at_call 26; refine (B2.out _ C2.out).mono ?_; rintro e w3 ⟨rfl, hb⟩; have C3 := Lib.hid (below2 C2.out hb); clear hb)
      | (go_at_call 15; refine (B4.out _ C4.out).mono ?_; rintro e w5 ⟨rfl, hb⟩; have C5 := Lib.hid (below2 C4.out hb); clear hb)
      | (go_at_call 15; refine (B3.out _ C3.out).mono ?_; rintro e w4 ⟨rfl, hb⟩; have C4 := Lib.hid (below2 C3.out hb); clear hb)
      | (go_at_call 11; refine (B6.out _ C6.out).mono ?_; rintro e w7 ⟨rfl, hb⟩; have C7 := Lib.hid (below2 C6.out hb); clear hb)
      | (go_at_call 11; refine (B5.out _ C5.out).mono ?_; rintro e w6 ⟨rfl, hb⟩; have C6 := Lib.hid (below2 C5.out hb); clear hb))
    all_goals go_ret
    all_goals exact ⟨by first | rfl | (simp; done) | (simp; rw [minZ, minZ]; exact HG.out), C7.out⟩
end Go.Proofs.YtfafdcdmaimghaaDoor

/- Layer 4: LabelGroups, LabelOwn, LabelTurns walked. -/
import Derived.Test.YtfafdcdmaimghaaDoorLabL
set_option linter.unusedVariables false
set_option linter.unusedSimpArgs false
namespace Go.Proofs.YtfafdcdmaimghaaDoor
open Go Go.RowKit PR Go.Proofs.YtfafdcdmaimghaaDoorW.PrintWords

set_option maxHeartbeats 4000000 in
set_option maxRecDepth 100000 in
theorem labelGroups_row (A0 : Option Addr) (c0 : Nat) (xs0 : List Int) (hl0 : xs0.length ≤ c0) (w : World) (hc0 : Kd.C (Kd.int .i64) w A0 xs0.length xs0) (hz0 : ∀ x ∈ xs0, i64 x) (hm0 : c0 ≤ maxLen)
    (A1 : Option Addr) (c1 : Nat) (xs1 : List Int) (hl1 : xs1.length ≤ c1) (hc1 : Kd.C (Kd.int .i64) w A1 xs1.length xs1) (hz1 : ∀ x ∈ xs1, i64 x) (hm1 : c1 ≤ maxLen)
    (A2 : Option Addr) (c2 : Nat) (xs2 : List Int) (hl2 : xs2.length ≤ c2) (hc2 : Kd.C (Kd.int .i64) w A2 xs2.length xs2) (hz2 : ∀ x ∈ xs2, i64 x) (hm2 : c2 ≤ maxLen) (hM : MaxLenAt w) :
    Calls Tryd.prog 8 #[.slice A0 xs0.length c0, .slice A1 xs1.length c1, .slice A2 xs2.length c2] w fun e w' => e = .returned (.bool true) ∧ Below w.heap.size w w' := by
  obtain ⟨x, e, y, f, e1, e2, hx, hy, he, hf, hcase⟩ := zGroups xs0 xs1 xs2
  have hS := selP_len xs0
  have hT := selP_len xs1
  have hU := selP_len xs2
  have a0 := fun W (h : Below w.heap.size w W) => selector_any A0 c0 xs0 W (Kd.C_below hc0 h) hl0 hz0
  have a1 := fun W (h : Below w.heap.size w W) => selector_any A1 c1 xs1 W (Kd.C_below hc1 h) hl1 hz1
  have a2 := fun W (h : Below w.heap.size w W) => selector_any A2 c2 xs2 W (Kd.C_below hc2 h) hl2 hz2
  have a3 := fun W (h : Below w.heap.size w W) => both_of e1 W (by omega) (by omega) (hM.below h)
  have a4 := fun W (h : Below w.heap.size w W) => both_of e2 W (by omega) (by omega) (hM.below h)
  have HAW := Lib.hid (awake4_any w hM)
  have B0 := Lib.hid a0
  have B1 := Lib.hid a1
  have B2 := Lib.hid a2
  have B3 := Lib.hid a3
  have B4 := Lib.hid a4
  have main : (e = 0 ∧ f = 0) ∨ ((e = 40 ∧ f = 0) ∨ (e = 0 ∧ f = 40) ∨ (e = 40 ∧ f = 40)) := by omega
  rcases main with ⟨rfl, rfl⟩ | hno
  · have e3 := hcase rfl rfl
    obtain ⟨p, g, e4⟩ : ∃ p g, bothP x (selP xs2) = (p, g) := ⟨_, _, rfl⟩
    rw [e4] at e3
    have a5 := fun W (h : Below w.heap.size w W) => both_of e4 W (by omega) (by omega) (hM.below h)
    have a6 := fun W (h : Below w.heap.size w W) => both_of e3.symm W (by omega) (by omega) (hM.below h)
    have B5 := Lib.hid a5
    have B6 := Lib.hid a6
    clear a0 a1 a2 a3 a4 a5 a6 hM e1 e2 e3 e4 he hf hcase hS hT hU hx hy hc0 hc1 hc2 hz0 hz1 hz2 hl0 hl1 hl2 hm0 hm1 hm2
    generalize selP xs0 = S at *
    generalize selP xs1 = T at *
    generalize selP xs2 = L at *
    go_enter Tryd.func8, Tryd.ntmps8
    go_wp2_with (first
      | (go_at_call 10; refine HAW.out.mono ?_; rintro e w0 ⟨rfl, hb⟩; have C0 := Lib.hid hb; clear hb)
      | (go_at_call 25; refine (B2.out _ C2.out).mono ?_; rintro e w3 ⟨rfl, hb⟩; have C3 := Lib.hid (below2 C2.out hb); clear hb)
      | (go_at_call 25; refine (B1.out _ C1.out).mono ?_; rintro e w2 ⟨rfl, hb⟩; have C2 := Lib.hid (below2 C1.out hb); clear hb)
      | (go_at_call 25; refine (B0.out _ C0.out).mono ?_; rintro e w1 ⟨rfl, hb⟩; have C1 := Lib.hid (below2 C0.out hb); clear hb)
      | (go_at_call 15; refine (B6.out _ C6.out).mono ?_; rintro e w7 ⟨rfl, hb⟩; have C7 := Lib.hid (below2 C6.out hb); clear hb)
      | (go_at_call 15; refine (B5.out _ C5.out).mono ?_; rintro e w6 ⟨rfl, hb⟩; have C6 := Lib.hid (below2 C5.out hb); clear hb)
      | (go_at_call 15; refine (B4.out _ C4.out).mono ?_; rintro e w5 ⟨rfl, hb⟩; have C5 := Lib.hid (below2 C4.out hb); clear hb)
      | (go_at_call 15; refine (B3.out _ C3.out).mono ?_; rintro e w4 ⟨rfl, hb⟩; have C4 := Lib.hid (below2 C3.out hb); clear hb))
    all_goals go_ret
    all_goals exact ⟨by first | rfl | (simp; done), C7.out⟩
  · clear a0 a1 a2 a3 a4 hM e1 e2 he hf hcase hS hT hU hx hy hc0 hc1 hc2 hz0 hz1 hz2 hl0 hl1 hl2 hm0 hm1 hm2
    generalize selP xs0 = S at *
    generalize selP xs1 = T at *
    generalize selP xs2 = L at *
    rcases hno with ⟨rfl, rfl⟩ | ⟨rfl, rfl⟩ | ⟨rfl, rfl⟩
    all_goals
      go_enter Tryd.func8, Tryd.ntmps8
      go_wp2_with (first
        | (go_at_call 10; refine HAW.out.mono ?_; rintro e w0 ⟨rfl, hb⟩; have C0 := Lib.hid hb; clear hb)
        | (go_at_call 25; refine (B2.out _ C2.out).mono ?_; rintro e w3 ⟨rfl, hb⟩; have C3 := Lib.hid (below2 C2.out hb); clear hb)
        | (go_at_call 25; refine (B1.out _ C1.out).mono ?_; rintro e w2 ⟨rfl, hb⟩; have C2 := Lib.hid (below2 C1.out hb); clear hb)
        | (go_at_call 25; refine (B0.out _ C0.out).mono ?_; rintro e w1 ⟨rfl, hb⟩; have C1 := Lib.hid (below2 C0.out hb); clear hb)
        | (go_at_call 15; refine (B4.out _ C4.out).mono ?_; rintro e w5 ⟨rfl, hb⟩; have C5 := Lib.hid (below2 C4.out hb); clear hb)
        | (go_at_call 15; refine (B3.out _ C3.out).mono ?_; rintro e w4 ⟨rfl, hb⟩; have C4 := Lib.hid (below2 C3.out hb); clear hb))
      all_goals go_ret
      all_goals exact ⟨by first | rfl | (simp; done), C5.out⟩
end Go.Proofs.YtfafdcdmaimghaaDoor

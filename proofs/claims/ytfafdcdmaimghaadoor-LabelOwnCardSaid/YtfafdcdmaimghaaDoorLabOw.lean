/- Layer 4: LabelOwn walked. -/
import Derived.Test.YtfafdcdmaimghaaDoorLabL
set_option linter.unusedVariables false
set_option linter.unusedSimpArgs false
namespace Go.Proofs.YtfafdcdmaimghaaDoor
open Go Go.RowKit PR Go.Proofs.YtfafdcdmaimghaaDoorW.PrintWords

theorem owValue {l k : Bs} {o : Option Bs} (h : valueP l k = o) (W : World) (hl : l.length ≤ 2097152) (hM : MaxLenAt W) :
    Calls Tryd.prog 17 #[.string (ba l), .string (ba k)] W fun e w' => e = .returned (.tuple #[.string (ba (o.getD [])), .bool o.isSome]) ∧ Below W.heap.size W w' := by
  have := lvalue_any (ba l) (ba k) W (by rw [ba_size]; exact hl) hM
  rwa [list_ba, list_ba, h] at this
theorem owMatch {s l : Bs} {r : Bool × Int} (h : matchP s l = r) {x : ByteArray} (hx : x = ba s) (W : World) (hs : s.length ≤ 2097152) (hl : l.length ≤ 2097152) (hM : MaxLenAt W) :
    Calls Tryd.prog 11 #[.string x, .string (ba l)] W fun e' w' => e' = .returned (.tuple #[.bool r.1, .int .i64 r.2]) ∧ Below W.heap.size W w' := by
  subst hx; subst h; exact match_of rfl W hs hl hM
theorem app3o (a b c : Bs) : ba a ++ ba b ++ ba c = ba (a ++ b ++ c) := by rw [ba_app', ba_app']
theorem app4o (a b c d : Bs) : ba a ++ ba b ++ ba c ++ ba d = ba (a ++ b ++ c ++ d) := by rw [ba_app', ba_app', ba_app']
set_option maxHeartbeats 16000000 in
set_option maxRecDepth 100000 in
theorem labelOwn_row (A0 : Option Addr) (c0 : Nat) (xs0 : List Int) (hl0 : xs0.length ≤ c0) (w : World) (hc0 : Kd.C (Kd.int .i64) w A0 xs0.length xs0) (hz0 : ∀ x ∈ xs0, i64 x) (hm0 : c0 ≤ maxLen)
    (which : Int) (hw : i64 which) (hM : MaxLenAt w) :
    Calls Tryd.prog 7 #[.slice A0 xs0.length c0, .int .i64 which] w fun e w' => e = .returned (.bool true) ∧ Below w.heap.size w w' := by
  obtain ⟨e1, e2, hcase⟩ := zOwn xs0 which
  have hi : pk which % 8 < 8 := Nat.mod_lt _ (by omega)
  have hky := ky_len _ hi
  have hL := labP_len xs0
  have hcat : ∀ a b : Bs, (a ++ b).length = a.length + b.length := fun a b => List.length_append
  have a0 := fun W (h : Below w.heap.size w W) => labels_any A0 c0 xs0 W (Kd.C_below hc0 h) hl0 hz0
  have a1 := fun W (h : Below w.heap.size w W) => match_of e1 W (by omega) (by omega) (hM.below h)
  have a2 := fun W (h : Below w.heap.size w W) => match_of e2 W (by simp) (by omega) (hM.below h)
  have a3 := fun W => billetlaw04_pick.calls which 8 _ W (rpick which 8 hw (by omega))
  have HAW := Lib.hid (awake4_any w hM)
  have B0 := Lib.hid a0
  have B1 := Lib.hid a1
  have B2 := Lib.hid a2
  have B3 := Lib.hid a3
  generalize pk which % 8 = i at *
  clear a0 a1 a2 a3 e1 e2
  have hE1 : (ba ([] : Bs)).toList.isEmpty = true := by rw [Lib.toList_data, list_ba]; rfl
  have i8 : i = 0 ∨ i = 1 ∨ i = 2 ∨ i = 3 ∨ i = 4 ∨ i = 5 ∨ i = 6 ∨ i = 7 := by omega
  rcases hcase with ⟨hv, e3⟩ | ⟨v, hv12, hvn, hv, e3, e4⟩
  · have a4 := fun W (h : Below w.heap.size w W) => owValue hv W (by omega) (hM.below h)
    have a5 := fun W (h : Below w.heap.size w W) => owMatch e3 (ba_app' [33] (kyAt i)) W (by rw [hcat]; simp; omega) (by omega) (hM.below h)
    have B4 := Lib.hid a4
    have B5 := Lib.hid a5
    clear a4 a5 hv e3 hM hcat hky hL hl0 hc0 hz0 hi hm0
    generalize labP xs0 = L at *
    rcases i8 with rfl | rfl | rfl | rfl | rfl | rfl | rfl | rfl
    all_goals
      go_enter Tryd.func7, Tryd.ntmps7
      go_wp2_with (first
        | (go_at_call 10; refine HAW.out.mono ?_; rintro e w0 ⟨rfl, hb⟩; have C0 := Lib.hid hb; clear hb)
        | (go_at_call 26; refine (B0.out _ C0.out).mono ?_; rintro e w1 ⟨rfl, hb⟩; have C1 := Lib.hid (below2 C0.out hb); clear hb)
        | (go_at_call 28; refine (B3.out _).mono ?_; rintro e w4 ⟨rfl, hd⟩; have h4 : Below w.heap.size w w4 := (by obtain ⟨n, rfl⟩ := hd; exact belowN (below_alloc C3.out _) n); have C4 := Lib.hid h4; clear h4; obtain ⟨n, rfl⟩ := hd)
        | (go_at_call 17; refine (B4.out _ C4.out).mono ?_; rintro e w5 ⟨rfl, hb⟩; have C5 := Lib.hid (below2 C4.out hb); clear hb)
        | (go_at_call 11; refine (B5.out _ C5.out).mono ?_; rintro e w6 ⟨rfl, hb⟩; have C6 := Lib.hid (below2 C5.out hb); clear hb)
        | (go_at_call 11; refine (B2.out _ C2.out).mono ?_; rintro e w3 ⟨rfl, hb⟩; have C3 := Lib.hid (below2 C2.out hb); clear hb)
        | (go_at_call 11; refine (B1.out _ C1.out).mono ?_; rintro e w2 ⟨rfl, hb⟩; have C2 := Lib.hid (below2 C1.out hb); clear hb))
      all_goals go_ret
      all_goals exact ⟨by first | rfl | (simp; done), C6.out⟩
  · have a4 := fun W (h : Below w.heap.size w W) => owValue hv W (by omega) (hM.below h)
    have a5 := fun W (h : Below w.heap.size w W) => owMatch e3 (app3o (kyAt i) [61] v) W (by rw [hcat, hcat]; simp; omega) (by omega) (hM.below h)
    have a8 := fun W => lname_any (ba v) W (by rw [ba_size]; omega)
    simp only [list_ba, hvn] at a8
    have B4 := Lib.hid a4
    have B5 := Lib.hid a5
    have B8 := Lib.hid a8
    have hsz : (ba v).size = v.length := ba_size v
    rcases Nat.lt_or_ge 11 v.length with h11 | h11
    · have a6 := fun W (h : Below w.heap.size w W) => owMatch (s := kyAt i ++ [61] ++ v ++ [48]) (l := labP xs0) rfl (app4o (kyAt i) [61] v [48]) W (by rw [hcat, hcat, hcat]; simp; omega) (by omega) (hM.below h)
      have a7 := fun W (h : Below w.heap.size w W) => owMatch (s := kyAt i ++ [33, 61] ++ v ++ [48]) (l := labP xs0) rfl (app4o (kyAt i) [33, 61] v [48]) W (by rw [hcat, hcat, hcat]; simp; omega) (by omega) (hM.below h)
      generalize matchP (kyAt i ++ [61] ++ v ++ [48]) (labP xs0) = P at *
      generalize matchP (kyAt i ++ [33, 61] ++ v ++ [48]) (labP xs0) = Q at *
      have B6 := Lib.hid a6
      have B7 := Lib.hid a7
      have hlong : (11 : Int) < ((ba v).size : Int) := by omega
      clear a4 a5 a6 a7 a8 hv e3 e4 hvn hM hcat hky hL hl0 hc0 hz0 hi hm0
      generalize labP xs0 = L at *
      rcases i8 with rfl | rfl | rfl | rfl | rfl | rfl | rfl | rfl
      all_goals
        go_enter Tryd.func7, Tryd.ntmps7
        go_wp2_with (first
          | (go_at_call 10; refine HAW.out.mono ?_; rintro e w0 ⟨rfl, hb⟩; have C0 := Lib.hid hb; clear hb)
          | (go_at_call 26; refine (B0.out _ C0.out).mono ?_; rintro e w1 ⟨rfl, hb⟩; have C1 := Lib.hid (below2 C0.out hb); clear hb)
          | (go_at_call 28; refine (B3.out _).mono ?_; rintro e w4 ⟨rfl, hd⟩; have h4 : Below w.heap.size w w4 := (by obtain ⟨n, rfl⟩ := hd; exact belowN (below_alloc C3.out _) n); have C4 := Lib.hid h4; clear h4; obtain ⟨n, rfl⟩ := hd)
          | (go_at_call 17; refine (B4.out _ C4.out).mono ?_; rintro e w5 ⟨rfl, hb⟩; have C5 := Lib.hid (below2 C4.out hb); clear hb)
          | (go_at_call 19; refine (B8.out _).mono ?_; rintro e w9 ⟨rfl, hb⟩; have C9 := Lib.hid (below2 C8.out hb); clear hb)
          | (go_at_call 11; refine (B7.out _ C7.out).mono ?_; rintro e w8 ⟨rfl, hb⟩; have C8 := Lib.hid (below2 C7.out hb); clear hb)
          | (go_at_call 11; refine (B6.out _ C6.out).mono ?_; rintro e w7 ⟨rfl, hb⟩; have C7 := Lib.hid (below2 C6.out hb); clear hb)
          | (go_at_call 11; refine (B5.out _ C5.out).mono ?_; rintro e w6 ⟨rfl, hb⟩; have C6 := Lib.hid (below2 C5.out hb); clear hb)
          | (go_at_call 11; refine (B2.out _ C2.out).mono ?_; rintro e w3 ⟨rfl, hb⟩; have C3 := Lib.hid (below2 C2.out hb); clear hb)
          | (go_at_call 11; refine (B1.out _ C1.out).mono ?_; rintro e w2 ⟨rfl, hb⟩; have C2 := Lib.hid (below2 C1.out hb); clear hb))
        all_goals go_ret
        all_goals exact ⟨by first | rfl | (simp; done) | (simp; omega), C9.out⟩
    · obtain ⟨e5, e6⟩ := e4 h11
      have a6 := fun W (h : Below w.heap.size w W) => owMatch e5 (app4o (kyAt i) [61] v [48]) W (by rw [hcat, hcat, hcat]; simp; omega) (by omega) (hM.below h)
      have a7 := fun W (h : Below w.heap.size w W) => owMatch e6 (app4o (kyAt i) [33, 61] v [48]) W (by rw [hcat, hcat, hcat]; simp; omega) (by omega) (hM.below h)
      have B6 := Lib.hid a6
      have B7 := Lib.hid a7
      have hlong : ¬ (11 : Int) < ((ba v).size : Int) := by omega
      clear a4 a5 a6 a7 a8 hv e3 e4 e5 e6 hvn hM hcat hky hL hl0 hc0 hz0 hi hm0
      generalize labP xs0 = L at *
      rcases i8 with rfl | rfl | rfl | rfl | rfl | rfl | rfl | rfl
      all_goals
        go_enter Tryd.func7, Tryd.ntmps7
        go_wp2_with (first
          | (go_at_call 10; refine HAW.out.mono ?_; rintro e w0 ⟨rfl, hb⟩; have C0 := Lib.hid hb; clear hb)
          | (go_at_call 26; refine (B0.out _ C0.out).mono ?_; rintro e w1 ⟨rfl, hb⟩; have C1 := Lib.hid (below2 C0.out hb); clear hb)
          | (go_at_call 28; refine (B3.out _).mono ?_; rintro e w4 ⟨rfl, hd⟩; have h4 : Below w.heap.size w w4 := (by obtain ⟨n, rfl⟩ := hd; exact belowN (below_alloc C3.out _) n); have C4 := Lib.hid h4; clear h4; obtain ⟨n, rfl⟩ := hd)
          | (go_at_call 17; refine (B4.out _ C4.out).mono ?_; rintro e w5 ⟨rfl, hb⟩; have C5 := Lib.hid (below2 C4.out hb); clear hb)
          | (go_at_call 19; refine (B8.out _).mono ?_; rintro e w9 ⟨rfl, hb⟩; have C9 := Lib.hid (below2 C8.out hb); clear hb)
          | (go_at_call 11; refine (B7.out _ C7.out).mono ?_; rintro e w8 ⟨rfl, hb⟩; have C8 := Lib.hid (below2 C7.out hb); clear hb)
          | (go_at_call 11; refine (B6.out _ C6.out).mono ?_; rintro e w7 ⟨rfl, hb⟩; have C7 := Lib.hid (below2 C6.out hb); clear hb)
          | (go_at_call 11; refine (B5.out _ C5.out).mono ?_; rintro e w6 ⟨rfl, hb⟩; have C6 := Lib.hid (below2 C5.out hb); clear hb)
          | (go_at_call 11; refine (B2.out _ C2.out).mono ?_; rintro e w3 ⟨rfl, hb⟩; have C3 := Lib.hid (below2 C2.out hb); clear hb)
          | (go_at_call 11; refine (B1.out _ C1.out).mono ?_; rintro e w2 ⟨rfl, hb⟩; have C2 := Lib.hid (below2 C1.out hb); clear hb))
        all_goals go_ret
        all_goals exact ⟨by first | rfl | (simp; done) | (simp; omega), C9.out⟩
end Go.Proofs.YtfafdcdmaimghaaDoor

/- The reference's Take, All, numbered walked. -/
import Derived.Test.YtlmnmjnmilaipaaGreatDoorWr3
import Derived.Test.YtlmnmjnmilaipaaGreatDoorWrPQ
set_option linter.unusedVariables false
set_option linter.unusedSimpArgs false
namespace Go.Proofs.YtlmnmjnmilaipaaGreatDoor.Rk
open Go Go.RowKit PR Go.Proofs.YtlmnmjnmilaipaaGreatDoorW.PrintWords

theorem bs_cut (s : ByteArray) (a b : Nat) : bs (s.extract a b) = ((bs s).drop a).take (b - a) := by
  unfold bs
  rw [ByteArray.data_extract, Array.toList_extract, List.extract_eq_take_drop]
theorem take_none {s : ByteArray} (h0 : ¬ (bs s = [] ∨ ((bs s).length = 1 ∧ 128 ≤ ((bs s).headD 0).toNat))) (hr : readN (bs s) = none) : takeP (bs s) = ([], 0, 31) := by
  rw [← rtake_eq]; unfold rtakeP; rw [if_neg h0, hr]
theorem take_big {s : ByteArray} {n : Int} {k : Nat} (h0 : ¬ (bs s = [] ∨ ((bs s).length = 1 ∧ 128 ≤ ((bs s).headD 0).toNat))) (hr : readN (bs s) = some (n, k)) (h : n < 0 ∨ 4096 < n) : takeP (bs s) = ([], 0, 31) := by
  rw [← rtake_eq]; unfold rtakeP; rw [if_neg h0, hr]; dsimp only; rw [if_pos h]
theorem take_less {s : ByteArray} {n k : Nat} (h0 : ¬ (bs s = [] ∨ ((bs s).length = 1 ∧ 128 ≤ ((bs s).headD 0).toNat))) (hr : readN (bs s) = some ((n : Int), k)) (h : n ≤ 4096) (h2 : s.size - k < n + 4) : takeP (bs s) = ([], 0, 30) := by
  rw [← rtake_eq]; unfold rtakeP; rw [if_neg h0, hr]; dsimp only; rw [if_neg (by omega), Int.toNat_natCast, if_pos (by rw [bs_len]; exact h2)]
theorem take_full {s : ByteArray} {n k : Nat} (h0 : ¬ (bs s = [] ∨ ((bs s).length = 1 ∧ 128 ≤ ((bs s).headD 0).toNat))) (hr : readN (bs s) = some ((n : Int), k)) (h : n ≤ 4096) (h2 : ¬ s.size - k < n + 4) :
    takeP (bs s) = if s.extract 0 (k + n + 4) = ba (layP (bs (s.extract k (k + n)))).1 then (bs (s.extract k (k + n)), k + n + 4, 0) else ([], 0, 31) := by
  have hp : bs (s.extract k (k + n)) = ((bs s).drop k).take n := by rw [bs_cut, Nat.add_sub_cancel_left]
  have hl : (((bs s).drop k).take n).length ≤ 4096 := by rw [List.length_take]; omega
  rw [← rtake_eq]; unfold rtakeP; rw [if_neg h0, hr]; dsimp only
  rw [if_neg (by omega), Int.toNat_natCast, if_neg (by rw [bs_len]; exact h2), hp]
  have e : layP (((bs s).drop k).take n) = (frameP (((bs s).drop k).take n), 0) := by unfold layP; rw [if_neg (by omega)]
  rw [e]
  have h3 : (s.extract 0 (k + n + 4) = ba (frameP (((bs s).drop k).take n))) ↔ (bs s).take (k + n + 4) = frameP (((bs s).drop k).take n) := by
    constructor
    · intro h; have := congrArg bs h; rwa [bs_extract0, bs_ba] at this
    · intro h; rw [← ba_bs (s.extract 0 (k + n + 4)), bs_extract0, h]
  by_cases h4 : (bs s).take (k + n + 4) = frameP (((bs s).drop k).take n)
  · rw [if_pos h4, if_pos (h3.2 h4)]
  · rw [if_neg h4, if_neg (fun h => h4 (h3.1 h))]
theorem bytes_ne' {a b : ByteArray} (h : a ≠ b) : (a.toList == b.toList) = false := by
  rw [beq_eq_false_iff_ne]
  intro e
  exact h (toList_inj e)
theorem some_str {s : ByteArray} (hz : 0 < s.size) : ¬ s.toList = [] ∧ s.toList.isEmpty = false := by
  have h : s.toList ≠ [] := by
    rw [ByteArray.toList_eq]
    intro e
    have h2 : s.data.toList.length = s.size := Array.length_toList
    rw [e] at h2
    simp at h2; omega
  exact ⟨h, by cases hc : s.toList with | nil => exact absurd hc h | cons a t => rfl⟩
def takeV (t : Bs × Nat × Int) : Value := .tuple #[.string (ba t.1), .int .i64 (t.2.1 : Nat), .int .i64 t.2.2]
theorem left_by {w : World} {r : Nat} {s : ByteArray} {bad : Bool} {L : Nat} (h : RdIs w r s bad) (hL : s.size = L) : Calls Tryz.prog 107 #[.pointer (some ⟨r, 0, none⟩)] w fun e w' => e = .returned (.int .i64 (L : Nat)) ∧ w = w' := by
  subst hL; exact rdleft_any r s bad w h
set_option maxHeartbeats 4000000 in
set_option maxRecDepth 100000 in
theorem rtake_any (s : ByteArray) (w : World) (hs : s.size ≤ 900000) :
    Calls Tryz.prog 103 #[.string s] w fun e w' => e = .returned (takeV (takeP (bs s))) ∧ Below w.heap.size w w' := by
  obtain ⟨X, hX⟩ : ∃ X, X = takeP (bs s) := ⟨_, rfl⟩
  rw [← hX]
  have HX := Lib.hid hX
  clear hX
  have hbl := bs_len s
  have N := Lib.hid (fun W r h => rdnum_any r s W h (by omega))
  by_cases h0 : bs s = [] ∨ ((bs s).length = 1 ∧ 128 ≤ ((bs s).headD 0).toNat)
  · have hR : X = ([], 0, 30) := by rw [HX.out, ← rtake_eq]; unfold rtakeP; rw [if_pos h0]
    subst hR
    rcases h0 with h0 | ⟨h0, h1⟩
    · have hz : s = ⟨#[]⟩ := by rw [← ba_bs s, h0]; rfl
      subst hz
      clear HX hbl N h0
      go_enter Tryz.func103, Tryz.ntmps103
      go_wp2
      go_ret3
      exact ⟨rfl, Below.refl _ _⟩
    · have hz : 0 < s.size := by omega
      have hb : 128 ≤ (s[0]'hz).toNat := by
        rw [← bget s 0 hz]
        cases hc : bs s with
        | nil => rw [hc] at h0; simp at h0
        | cons a t => rw [hc] at h1; exact h1
      obtain ⟨hn1, hn2⟩ := some_str hz
      clear HX N h1
      go_enter Tryz.func103, Tryz.ntmps103
      go_wp2
      go_ret3
      exact ⟨rfl, Below.refl _ _⟩
  · have hz : 0 < s.size := by
      rcases Nat.eq_zero_or_pos s.size with e | e
      · exact absurd (.inl (List.length_eq_zero_iff.1 (by omega))) h0
      · exact e
    obtain ⟨hn1, hn2⟩ := some_str hz
    have hb : s.size = 1 → (s[0]'hz).toNat < 128 := by
      intro e
      rcases Nat.lt_or_ge (s[0]'hz).toNat 128 with h | h
      · exact h
      · refine absurd (.inr ⟨by omega, ?_⟩) h0
        rw [← bget s 0 hz] at h
        cases hc : bs s with
        | nil => rw [hc] at hbl; simp at hbl; omega
        | cons a t => rw [hc] at h; exact h
    have hb2 : s.size ≠ 1 ∨ (s[0]'hz).toNat < 128 := by
      by_cases e : s.size = 1
      · exact .inr (hb e)
      · exact .inl e
    clear hb
    have H0 := Lib.hid h0
    have HB := Lib.hid ((Below.refl w.heap.size w).alloc (Nat.le_refl _) (.cells #[.string s, .bool false] 189))
    have HM := Lib.hid (RdIs.made w s)
    have HN := Lib.hid (N.out _ _ HM.out)
    clear h0 hbl
    cases hr : readN (bs s) with
    | none =>
      have hR : X = ([], 0, 31) := by rw [HX.out, take_none H0.out hr]
      have hd : rdN s = (0, s, true) := by unfold rdN; rw [hr]
      rw [hd] at HN
      subst hR
      clear HX hd hr N
      rcases hb2 with hb2 | hb2
      all_goals go_enter Tryz.func103, Tryz.ntmps103
      all_goals go_wp2_with (first
        | (go_at_call 104; refine (rdnew_any s _).mono ?_; rintro e w1 ⟨rfl, rfl⟩)
        | (go_at_call 105; refine HN.out.mono ?_; rintro e w2 ⟨rfl, h2, o2⟩; have H2 := Lib.hid h2; have B2 := Lib.hid (HB.out.trans (o2.below (by simp) (fun k hk e => by subst e; omega))); clear h2 o2)
        | (go_at_call 106; refine (rdbad_any _ _ _ _ H2.out).mono ?_; rintro e w3 ⟨rfl, rfl⟩))
      all_goals go_ret3
      all_goals exact ⟨rfl, B2.out⟩
    | some x =>
      obtain ⟨n, k⟩ := x
      have hd : rdN s = (n, s.extract k s.size, false) := by unfold rdN; rw [hr]
      rw [hd] at HN
      have hlen := readN_len hr
      rw [bs_len] at hlen
      obtain ⟨hk1, hk2, hk3⟩ := hlen
      have hxs : (s.extract k s.size).size = s.size - k := by rw [ByteArray.size_extract]; omega
      have HRR := Lib.hid hr
      clear hd hr N
      by_cases hbig : n < 0 ∨ 4096 < n
      · have hR : X = ([], 0, 31) := by rw [HX.out, take_big H0.out HRR.out hbig]
        subst hR
        clear HX
        rcases hbig with hbig | hbig
        all_goals rcases hb2 with hb2 | hb2
        all_goals go_enter Tryz.func103, Tryz.ntmps103
        all_goals go_wp2_with (first
          | (go_at_call 104; refine (rdnew_any s _).mono ?_; rintro e w1 ⟨rfl, rfl⟩)
          | (go_at_call 105; refine HN.out.mono ?_; rintro e w2 ⟨rfl, h2, o2⟩; have H2 := Lib.hid h2; have B2 := Lib.hid (HB.out.trans (o2.below (by simp) (fun k hk e => by subst e; omega))); clear h2 o2)
          | (go_at_call 106; refine (rdbad_any _ _ _ _ H2.out).mono ?_; rintro e w3 ⟨rfl, rfl⟩))
        all_goals go_ret3
        all_goals exact ⟨rfl, B2.out⟩
      · obtain ⟨m, rfl⟩ : ∃ m : Nat, n = m := ⟨n.toNat, by omega⟩
        have hm : m ≤ 4096 := by omega
        have hm0 : ¬ ((m : Int) < 0) := by omega
        clear hbig
        obtain ⟨L, hL⟩ : ∃ L, (s.extract k s.size).size = L := ⟨_, rfl⟩
        rw [hL] at hxs
        have hsz : s.size = k + L := by omega
        clear hxs
        by_cases hless : L < m + 4
        · have hR : X = ([], 0, 30) := by rw [HX.out, take_less H0.out HRR.out hm (by omega)]
          subst hR
          clear HX
          have hl2 : (L : Int) < m + 4 := by omega
          rcases hb2 with hb2 | hb2
          all_goals go_enter Tryz.func103, Tryz.ntmps103
          all_goals go_wp2_with (first
            | (go_at_call 104; refine (rdnew_any s _).mono ?_; rintro e w1 ⟨rfl, rfl⟩)
            | (go_at_call 105; refine HN.out.mono ?_; rintro e w2 ⟨rfl, h2, o2⟩; have H2 := Lib.hid h2; have B2 := Lib.hid (HB.out.trans (o2.below (by simp) (fun k hk e => by subst e; omega))); clear h2 o2)
            | (go_at_call 106; refine (rdbad_any _ _ _ _ H2.out).mono ?_; rintro e w3 ⟨rfl, rfl⟩)
            | (go_at_call 107; refine (left_by H2.out hL).mono ?_; rintro e w4 ⟨rfl, rfl⟩))
          all_goals go_ret3
          all_goals exact ⟨rfl, B2.out⟩
        · have hR := take_full H0.out HRR.out hm (by omega : ¬ s.size - k < m + 4)
          rw [← HX.out] at hR
          have HR := Lib.hid hR
          clear HX hR
          have hle : (s.extract k (k + m)).size ≤ 4096 := by rw [ByteArray.size_extract]; omega
          have LA := Lib.hid (fun W => rlay_any (s.extract k (k + m)) (by omega) W)
          have hbr : ba (bs (s.extract k (k + m))) = s.extract k (k + m) := ba_bs _
          obtain ⟨p, hp⟩ : ∃ p, s.extract k (k + m) = p := ⟨_, rfl⟩
          generalize hlay : layP (bs (s.extract k (k + m))) = ly at *
          obtain ⟨q, r⟩ := ly
          have HBR := Lib.hid hbr
          clear hlay hbr hle hp
          by_cases hq : s.extract 0 (k + m + 4) = ba q
          · have hR := HR.out
            rw [if_pos hq] at hR
            rw [← hq] at LA
            subst hR
            clear HR hq
            rcases hb2 with hb2 | hb2
            all_goals go_enter Tryz.func103, Tryz.ntmps103
            all_goals go_wp2_with (first
              | (go_at_call 104; refine (rdnew_any s _).mono ?_; rintro e w1 ⟨rfl, rfl⟩)
              | (go_at_call 105; refine HN.out.mono ?_; rintro e w2 ⟨rfl, h2, o2⟩; have H2 := Lib.hid h2; have B2 := Lib.hid (HB.out.trans (o2.below (by simp) (fun k hk e => by subst e; omega))); clear h2 o2)
              | (go_at_call 106; refine (rdbad_any _ _ _ _ H2.out).mono ?_; rintro e w3 ⟨rfl, rfl⟩)
              | (go_at_call 107; refine (left_by H2.out hL).mono ?_; rintro e w4 ⟨rfl, rfl⟩)
              | (go_at_call 52; refine (LA.out _).mono ?_; rintro e w5 ⟨rfl, h5⟩; have B5 := Lib.hid (B2.out.trans (h5.mono B2.out.size)); clear h5))
            all_goals go_ret3
            all_goals exact ⟨by unfold takeV; rw [HBR.out]; rfl, B5.out⟩
          · have hR := HR.out
            rw [if_neg hq] at hR
            have hne := bytes_ne' hq
            subst hR
            clear HR hq
            rcases hb2 with hb2 | hb2
            all_goals go_enter Tryz.func103, Tryz.ntmps103
            all_goals go_wp2_with (first
              | (go_at_call 104; refine (rdnew_any s _).mono ?_; rintro e w1 ⟨rfl, rfl⟩)
              | (go_at_call 105; refine HN.out.mono ?_; rintro e w2 ⟨rfl, h2, o2⟩; have H2 := Lib.hid h2; have B2 := Lib.hid (HB.out.trans (o2.below (by simp) (fun k hk e => by subst e; omega))); clear h2 o2)
              | (go_at_call 106; refine (rdbad_any _ _ _ _ H2.out).mono ?_; rintro e w3 ⟨rfl, rfl⟩)
              | (go_at_call 107; refine (left_by H2.out hL).mono ?_; rintro e w4 ⟨rfl, rfl⟩)
              | (go_at_call 52; refine (LA.out _).mono ?_; rintro e w5 ⟨rfl, h5⟩; have B5 := Lib.hid (B2.out.trans (h5.mono B2.out.size)); clear h5))
            all_goals go_ret3
            all_goals exact ⟨rfl, B5.out⟩
end Go.Proofs.YtlmnmjnmilaipaaGreatDoor.Rk

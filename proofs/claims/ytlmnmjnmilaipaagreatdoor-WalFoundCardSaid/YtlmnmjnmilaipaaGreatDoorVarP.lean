/- varint.Text, frame.Lay, wal.made walked. -/
import Derived.Test.YtlmnmjnmilaipaaGreatDoorVarNO
import Derived.Test.YtlmnmjnmilaipaaGreatDoorVarR
set_option linter.unusedVariables false
set_option linter.unusedSimpArgs false
namespace Go.Proofs.YtlmnmjnmilaipaaGreatDoor
open Go Go.RowKit PR Go.Proofs.YtlmnmjnmilaipaaGreatDoorW.PrintWords

theorem numB (m : Nat) : (⟨(numD (2 * m)).toArray⟩ : ByteArray) = ba (numD (2 * m)) := rfl
theorem text_any (s : ByteArray) (hs : s.size ≤ 1000000) (w : World) : Calls Tryz.prog 95 #[.string s] w fun e w' => e = .returned (.string (ba (textP (bs s)))) ∧ Below w.heap.size w w' := by
  have A := Lib.hid (fun W => num_any s.size (by omega) W)
  have hd := numD_len 9 (2 * s.size) (by have : (128 : Nat) ^ (9 + 1) = 1180591620717411303424 := by decide
                                         omega)
  have hsz : (ba (numD (2 * s.size))).size ≤ 10 := by rw [ba_size]; exact hd
  have e : ba (numD (2 * s.size)) ++ s = ba (textP (bs s)) := by unfold textP; rw [← ba_app, ba_bs, bs_len]
  go_enter Tryz.func95, Tryz.ntmps95
  go_wp2_with (go_at_call 69; refine (A.out _).mono ?_; rintro ev w1 ⟨rfl, hb⟩; have HB := Lib.hid hb; clear hb; rw [numB])
  all_goals go_ret
  exact ⟨by first | rfl | (rw [e]; rfl), HB.out⟩
theorem seal_any (s : ByteArray) (hs : s.size ≤ 1000000) (w : World) : Calls Tryz.prog 94 #[.string s] w fun e w' => e = .returned (.string (ba (sealP (bs s)))) ∧ Below w.heap.size w w' :=
  frame_sealed.calls (s.size + 1) s _ w (rSealed s hs _ (Nat.le_refl _))
theorem lay_any (s : ByteArray) (hs : s.size ≤ 100000) (w : World) : Calls Tryz.prog 68 #[.string s] w fun e w' => e = .returned (.tuple #[.string (ba (layP (bs s)).1), .int .i64 (layP (bs s)).2]) ∧ Below w.heap.size w w' := by
  by_cases h : 4096 < s.size
  · have e : layP (bs s) = ([], 1) := by unfold layP; rw [bs_len, if_pos h]
    rw [e]
    have hi : (4096 : Int) < (s.size : Int) := by omega
    go_enter Tryz.func68, Tryz.ntmps68
    go_wp2
    go_ret2
    exact ⟨rfl, Below.refl _ _⟩
  · have e : layP (bs s) = (frameP (bs s), 0) := by unfold layP; rw [bs_len, if_neg h]
    rw [e]
    have hi : ¬ (4096 : Int) < (s.size : Int) := by omega
    have A := Lib.hid (fun W => text_any s (by omega) W)
    have hd := numD_len 1 (2 * s.size) (by omega)
    have hl : (ba (textP (bs s))).size ≤ 5000 := by rw [ba_size]; unfold textP; rw [List.length_append, bs_len]; omega
    have B := Lib.hid (fun W => seal_any (ba (textP (bs s))) (by omega) W)
    rw [bs_ba] at B
    go_enter Tryz.func68, Tryz.ntmps68
    go_wp2_with (first
      | (go_at_call 95; refine (A.out _).mono ?_; rintro ev w1 ⟨rfl, hb⟩; have C1 := Lib.hid hb; clear hb)
      | (go_at_call 94; refine (B.out _).mono ?_; rintro ev w2 ⟨rfl, hb⟩; have C2 := Lib.hid (C1.out.trans (hb.mono C1.out.size)); clear hb))
    go_ret2
    exact ⟨rfl, C2.out⟩
theorem made_any (n : Nat) (hn : n ≤ 2199023255552) (t : ByteArray) (ht : t.size ≤ 90000) (w : World) : Calls Tryz.prog 37 #[.int .i64 (n : Int), .string t] w fun e w' => e = .returned (.tuple #[.string (ba (madeP (n : Int) (bs t)).1), .int .i64 (madeP (n : Int) (bs t)).2]) ∧ Below w.heap.size w w' := by
  have A := Lib.hid (fun W => num_any n (by omega) W)
  have hd := numD_len 9 (2 * n) (by have : (128 : Nat) ^ (9 + 1) = 1180591620717411303424 := by decide
                                    omega)
  have hsz : (ba (numD (2 * n))).size ≤ 10 := by rw [ba_size]; exact hd
  have e : ba (numD (2 * n)) ++ t = ba (numD (2 * n) ++ bs t) := by rw [← ba_app, ba_bs]
  have hpl : (ba (numD (2 * n) ++ bs t)).size ≤ 95000 := by rw [ba_size, List.length_append, bs_len]; omega
  have B := Lib.hid (fun W => lay_any (ba (numD (2 * n) ++ bs t)) (by omega) W)
  rw [bs_ba, ← e] at B
  unfold madeP
  rw [Int.toNat_natCast]
  generalize hly : layP (numD (2 * n) ++ bs t) = R at *
  have hR : R.2 = 0 ∨ R.2 = 1 := by rw [← hly]; unfold layP; split <;> simp
  clear hd hpl e hly
  obtain ⟨r1, r2⟩ := R
  rcases hR with h | h
  · obtain rfl : r2 = 0 := h
    by_cases hq : 1099511627776 < n
    · have hi : (1099511627776 : Int) < (n : Int) := by omega
      rw [if_pos (.inr hi)]
      go_enter Tryz.func37, Tryz.ntmps37
      go_wp2_with (first
        | (go_at_call 69; refine (A.out _).mono ?_; rintro ev w1 ⟨rfl, hb⟩; have C1 := Lib.hid hb; clear hb; rw [numB])
        | (go_at_call 68; refine (B.out _).mono ?_; rintro ev w2 ⟨rfl, hb⟩; have C2 := Lib.hid (C1.out.trans (hb.mono C1.out.size)); clear hb))
      go_ret2
      exact ⟨rfl, C2.out⟩
    · have hi : ¬ (1099511627776 : Int) < (n : Int) := by omega
      rw [if_neg (by simp; omega)]
      go_enter Tryz.func37, Tryz.ntmps37
      go_wp2_with (first
        | (go_at_call 69; refine (A.out _).mono ?_; rintro ev w1 ⟨rfl, hb⟩; have C1 := Lib.hid hb; clear hb; rw [numB])
        | (go_at_call 68; refine (B.out _).mono ?_; rintro ev w2 ⟨rfl, hb⟩; have C2 := Lib.hid (C1.out.trans (hb.mono C1.out.size)); clear hb))
      go_ret2
      exact ⟨rfl, C2.out⟩
  · obtain rfl : r2 = 1 := h
    rw [if_pos (.inl (by simp))]
    go_enter Tryz.func37, Tryz.ntmps37
    go_wp2_with (first
      | (go_at_call 69; refine (A.out _).mono ?_; rintro ev w1 ⟨rfl, hb⟩; have C1 := Lib.hid hb; clear hb; rw [numB])
      | (go_at_call 68; refine (B.out _).mono ?_; rintro ev w2 ⟨rfl, hb⟩; have C2 := Lib.hid (C1.out.trans (hb.mono C1.out.size)); clear hb))
    go_ret2
    exact ⟨rfl, C2.out⟩
end Go.Proofs.YtlmnmjnmilaipaaGreatDoor

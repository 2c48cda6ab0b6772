/- Layer 11: WalLong walked. -/
import Derived.Test.YtlmnmjnmilaipaaGreatDoorZstr
set_option linter.unusedVariables false
set_option linter.unusedSimpArgs false
namespace Go.Proofs.YtlmnmjnmilaipaaGreatDoor
open Go Go.RowKit Go.Sort PR Go.Proofs.YtlmnmjnmilaipaaGreatDoorW.PrintWords

theorem pay1 (n : Nat) (hn : n < 64) (t : Bs) : (payP n t).length = t.length + 1 := by
  unfold payP
  rw [numD_small (by omega), List.length_append, List.length_singleton]; omega
theorem ErrTab.keep {w w1 : World} (h : ErrTab w) (hb : Below w.heap.size w w1) : ErrTab w1 := h.only (Only.of_below (S := fun _ => False) hb) (fun h => h)
/-- A log's answer to a text that may be too long. -/
theorem long_append {D : Dk} {st : St} {m : Nat} (h : Calm D st m) (h0 : D.armed = 0) (t : Bs) (hq : st.seq + 1 < 64) (ht : t.length ≤ 4200) (hm : m ≤ 50000) (ha : D.acts ≤ 1000) :
    (t.length ≤ 4095 ∧ ∃ D1, appendP ⟨st.seq, 0⟩ D t = (0, ⟨((st.seq + 1 : Nat) : Int), 0⟩, D1) ∧ Calm D1 (st.add t) (m + t.length + 12) ∧ D1.armed = 0 ∧ D1.acts ≤ D.acts + 4) ∨ (4095 < t.length ∧ appendP ⟨st.seq, 0⟩ D t = (111, ⟨st.seq, 0⟩, D)) := by
  have hp := pay1 (st.seq + 1) hq t
  by_cases h1 : t.length ≤ 4095
  · obtain ⟨D1, e, c, r, _, n⟩ := append_ok h h0 t (by omega) (by omega) (by omega) (by omega)
    exact .inl ⟨h1, D1, e, c, r, by omega⟩
  · exact .inr ⟨by omega, append_long (by omega)⟩
theorem long_check {D : Dk} {st : St} {m : Nat} (h : Calm D st m) (h0 : D.armed = 0) (t : Bs) (hq : st.seq < 64) (ha : D.acts ≤ 1000) :
    (t.length ≤ 4095 ∧ ∃ D1, checkP ⟨st.seq, 0⟩ D t = (0, ⟨st.seq, 0⟩, D1) ∧ Calm D1 (st.check t) 0 ∧ D1.armed = 0 ∧ D1.acts ≤ D.acts + 4) ∨ (4095 < t.length ∧ checkP ⟨st.seq, 0⟩ D t = (111, ⟨st.seq, 0⟩, D)) := by
  have hp := pay1 st.seq hq t
  by_cases h1 : t.length ≤ 4095
  · obtain ⟨D1, e, c, r, _, n, _⟩ := check_ok h h0 t (by omega) (by omega)
    exact .inl ⟨h1, D1, e, c, r, by omega⟩
  · exact .inr ⟨by omega, check_long (by omega)⟩
set_option maxHeartbeats 16000000 in
set_option maxRecDepth 100000 in
theorem walLong_walk (text : ByteArray) (hs : text.size ≤ maxLen) (long : Int) (hl : -9223372036854775808 ≤ long ∧ long ≤ 9223372036854775807) (which : Bool) (w : World) (hT : ErrTab w) :
    Calls Tryz.prog 4 #[.string text, .int .i64 long, .bool which] w fun e w' => e = .returned (.bool true) ∧ Below w.heap.size w w' := by
  unfold maxLen at hs
  have AW := Lib.hid (awake_any w hT)
  have NW := Lib.hid (fun W (hT : ErrTab W) => new_dsk W hT)
  have C1 := Lib.hid (fun w0 W b mb (h : Dsk w0 W b mb Dk.new) => open_by (open_calm calm_new) h Dk.new_ok (by decide))
  have PK := Lib.hid (fun W => pick_any long 12 hl.1 hl.2 (by decide) W)
  obtain ⟨p0, p1⟩ := pickN_range long 12 (by decide)
  generalize pickN long 12 = p at *
  have hmk := run_mk (4090 + p) (by omega) (by omega)
  have hcv := run_cv' (4090 + p).toNat
  have hzs : (zstr (4090 + p).toNat).size = (4090 + p).toNat := zstr_size _
  have hzl : (bs (zstr (4090 + p).toNat)).length = (4090 + p).toNat := by rw [bs_len, hzs]
  have hte : (text.extract 0 (min (text.size : Int) 300).toNat).size ≤ 300 := by rw [ByteArray.size_extract]; omega
  have htl : (bs (text.extract 0 (min (text.size : Int) 300).toNat)).length ≤ 300 := by rw [bs_len]; exact hte
  have hmn : 0 ≤ (min (text.size : Int) 300) ∧ (min (text.size : Int) 300) ≤ text.size := by omega
  have hnp : (((4090 + p).toNat : Nat) : Int) = 4090 + p := by omega
  generalize (4090 + p).toNat = n at *
  obtain ⟨D1, e1, c1, r1, _, n1⟩ := append_ok calm_new rfl (bs (text.extract 0 (min (text.size : Int) 300).toNat)) (by decide) (by have := pay1 1 (by decide) (bs (text.extract 0 (min (text.size : Int) 300).toNat)); show (payP 1 _).length ≤ 4096; omega) (by omega) (by decide)
  have hacts : Dk.new.acts = 0 := rfl
  cases which with
  | true =>
    rcases long_check c1 r1 (bs (zstr n)) (show (1 : Nat) < 64 from by omega) (by omega) with ⟨hle, D2, e2, c2, r2, n2⟩ | ⟨hle, e2⟩
    · skip
      obtain ⟨D3, e3, c3, r3, _, n3⟩ := append_ok (st := ⟨(bs (zstr n)), [], 1⟩) c2 r2 [99] (show (2 : Nat) ≤ 1099511627776 from by omega) (by have := pay1 2 (by decide) [99]; show (payP 2 [99]).length ≤ 4096; rw [this]; decide) (by rw [List.length_singleton]; omega) (by omega)
      have C2 := Lib.hid (fun w0 bw b mb W (h : Sit w0 W bw b mb Dk.new ⟨(0 : Nat), 0⟩) => append_by e1 h Dk.new_ok (by decide) (show (0 : Nat) ≤ 1099511627777 from by omega) (by omega))
      have C3 := Lib.hid (fun w0 bw b mb W (h : Sit w0 W bw b mb D1 ⟨(1 : Nat), 0⟩) => check_by (t := zstr n) e2 h c1.lies.ok (by omega) (show (1 : Nat) ≤ 1099511627777 from by omega) (by omega))
      have C4 := Lib.hid (fun w0 bw b mb W (h : Sit w0 W bw b mb D2 ⟨(1 : Nat), 0⟩) => append_by (t := ⟨#[99]⟩) e3 h c2.lies.ok (by omega) (show (1 : Nat) ≤ 1099511627777 from by omega) (by decide))
      have C5 := Lib.hid (fun w0 b mb W (h : Dsk w0 W b mb D3) => (show Calls Tryz.prog 11 #[.pointer (some ⟨b, 0, none⟩)] W fun e w' => ∃ bw A c, e = .returned (.tuple #[.pointer (some ⟨bw, 0, none⟩), .string (zstr n), .slice A 1 c, .int .i64 0]) ∧ Sit w0 w' bw b mb D3 ⟨(2 : Nat), 0⟩ ∧ W.heap.size ≤ bw ∧ Texts w' W.heap.size (.slice A 1 c) [[99]] ∧ Only (Own b mb) W w' from open_by (open_calm c3) h c3.lies.ok (by omega)))
      have LT := Lib.hid (fun W => (show Texts (W.alloc (.cells #[.string ⟨#[99]⟩] 9)) W.heap.size (.slice (some ⟨W.heap.size, 0, none⟩) 1 1) [[99]] from lit_T W [[99]] (show (1 : Nat) ≤ 9223372036854775807 from by omega)))
      have SM := Lib.hid (fun W base A c B d (h1 : Texts W base (.slice A ([[99]] : List Bs).length c) [[99]]) (h2 : Texts W B (.slice d ([[99]] : List Bs).length 1) [[99]]) => (show Calls Tryz.prog 14 #[.slice A 1 c, .slice d 1 1] W fun e w' => e = .returned (.bool true) ∧ Below W.heap.size W w' from (same_C (l := [[99]]) (show (1 : Nat) ≤ 1000000 from by omega) h1.reads.2 h1.reads.1 h2.reads.2 h2.reads.1).mono (fun e w' h => by rw [decide_eq_true (rfl : ([[99]] : List Bs) = [[99]])] at h; exact h)))
      have hp5 : 4090 + p ≤ 4095 := by omega
      have hp5' : p ≤ 5 := by omega
      clear e1 e2 e3 c1 r1 n1 c2 r2 n2 r3 n3 c3 hacts hzs hzl hte htl hl hnp
      go_enter Tryz.func4, Tryz.ntmps4
      go_wp2_with (first
        | (go_at_call 9; refine AW.out.mono ?_; rintro ev wa ⟨rfl, hb⟩; have HA := Lib.hid hb; clear hb)
        | (go_at_call 10; refine (new_any _).mono ?_; rintro ev w1 ⟨rfl, rfl⟩; have T0 := Lib.hid (NW.out _ (hT.keep HA.out)))
        | (go_at_call 11; have zz := T6; clear zz; (with_reducible refine (C5.out _ _ _ _ T6.out.toDsk).mono ?_); rintro ev w7 ⟨bw7, A7, c7, rfl, hs, _, hx, _⟩; have T7 := Lib.hid hs; have X7 := Lib.hid hx; clear hs hx)
        | (go_at_call 11; (with_reducible refine (C1.out _ _ _ _ T0.out).mono ?_); rintro ev w2 ⟨bw, A1, ca1, rfl, hs, _, _, _⟩; have T1 := Lib.hid hs; clear hs)
        | (go_at_call 12; refine (PK.out _).mono ?_; rintro ev w3 ⟨rfl, hb⟩; have T2 := Lib.hid (T1.out.below hb); clear hb)
        | (go_at_call 17; have zz := T5; clear zz; refine (C4.out _ _ _ _ _ T5.out).mono ?_; rintro ev w6 ⟨rfl, hs, _⟩; have T6 := Lib.hid hs; clear hs)
        | (go_at_call 13; have zz := T4; clear zz; refine (C3.out _ _ _ _ _ T4.out).mono ?_; rintro ev w5 ⟨rfl, hs, _⟩; have T5 := Lib.hid hs; clear hs)
        | (go_at_call 17; refine (C2.out _ _ _ _ _ (T2.out.below ((Below.refl _ _).alloc (Nat.le_refl _) _))).mono ?_; rintro ev w4 ⟨rfl, hs, _⟩; have T4 := Lib.hid hs; clear hs)
        | (go_at_call 14; refine (SM.out _ _ _ _ _ _ (X7.out.below ((Below.refl _ _).alloc (Nat.le_refl _) _)) (LT.out _)).mono ?_; rintro ev w8 ⟨rfl, hb⟩; have HB := Lib.hid (HA.out.trans (((T7.out.be.alloc T7.out.be.size _).trans (hb.mono (Nat.le_trans T7.out.be.size (by simp)))).mono HA.out.size)); clear hb))
      go_ret
      exact ⟨rfl, HB.out⟩
    · skip
      obtain ⟨D3, e3, c3, r3, _, n3⟩ := append_ok (st := ⟨[], [(bs (text.extract 0 (min (text.size : Int) 300).toNat))], 1⟩) c1 r1 [99] (show (2 : Nat) ≤ 1099511627776 from by omega) (by have := pay1 2 (by decide) [99]; show (payP 2 [99]).length ≤ 4096; rw [this]; decide) (by rw [List.length_singleton]; omega) (by omega)
      have C2 := Lib.hid (fun w0 bw b mb W (h : Sit w0 W bw b mb Dk.new ⟨(0 : Nat), 0⟩) => append_by e1 h Dk.new_ok (by decide) (show (0 : Nat) ≤ 1099511627777 from by omega) (by omega))
      have C3 := Lib.hid (fun w0 bw b mb W (h : Sit w0 W bw b mb D1 ⟨(1 : Nat), 0⟩) => check_by (t := zstr n) e2 h c1.lies.ok (by omega) (show (1 : Nat) ≤ 1099511627777 from by omega) (by omega))
      have C4 := Lib.hid (fun w0 bw b mb W (h : Sit w0 W bw b mb D1 ⟨(1 : Nat), 0⟩) => append_by (t := ⟨#[99]⟩) e3 h c1.lies.ok (by omega) (show (1 : Nat) ≤ 1099511627777 from by omega) (by decide))
      have C5 := Lib.hid (fun w0 b mb W (h : Dsk w0 W b mb D3) => (show Calls Tryz.prog 11 #[.pointer (some ⟨b, 0, none⟩)] W fun e w' => ∃ bw A c, e = .returned (.tuple #[.pointer (some ⟨bw, 0, none⟩), .string ⟨#[]⟩, .slice A 2 c, .int .i64 0]) ∧ Sit w0 w' bw b mb D3 ⟨(2 : Nat), 0⟩ ∧ W.heap.size ≤ bw ∧ Texts w' W.heap.size (.slice A 2 c) [(bs (text.extract 0 (min (text.size : Int) 300).toNat)), [99]] ∧ Only (Own b mb) W w' from open_by (open_calm c3) h c3.lies.ok (by omega)))
      have LT := Lib.hid (fun W => (show Texts (W.alloc (.cells #[.string (text.extract 0 (min (text.size : Int) 300).toNat), .string ⟨#[99]⟩] 9)) W.heap.size (.slice (some ⟨W.heap.size, 0, none⟩) 2 2) [(bs (text.extract 0 (min (text.size : Int) 300).toNat)), [99]] from lit_T W [(bs (text.extract 0 (min (text.size : Int) 300).toNat)), [99]] (show (2 : Nat) ≤ 9223372036854775807 from by omega)))
      have SM := Lib.hid (fun W base A c B d (h1 : Texts W base (.slice A ([(bs (text.extract 0 (min (text.size : Int) 300).toNat)), [99]] : List Bs).length c) [(bs (text.extract 0 (min (text.size : Int) 300).toNat)), [99]]) (h2 : Texts W B (.slice d ([(bs (text.extract 0 (min (text.size : Int) 300).toNat)), [99]] : List Bs).length 2) [(bs (text.extract 0 (min (text.size : Int) 300).toNat)), [99]]) => (show Calls Tryz.prog 14 #[.slice A 2 c, .slice d 2 2] W fun e w' => e = .returned (.bool true) ∧ Below W.heap.size W w' from (same_C (l := [(bs (text.extract 0 (min (text.size : Int) 300).toNat)), [99]]) (show (2 : Nat) ≤ 1000000 from by omega) h1.reads.2 h1.reads.1 h2.reads.2 h2.reads.1).mono (fun e w' h => by rw [decide_eq_true (rfl : ([(bs (text.extract 0 (min (text.size : Int) 300).toNat)), [99]] : List Bs) = [(bs (text.extract 0 (min (text.size : Int) 300).toNat)), [99]])] at h; exact h)))
      have hp5 : 4095 < 4090 + p := by omega
      have hp5' : 5 < p := by omega
      clear e1 e2 e3 c1 r1 n1  r3 n3 c3 hacts hzs hzl hte htl hl hnp
      go_enter Tryz.func4, Tryz.ntmps4
      go_wp2_with (first
        | (go_at_call 9; refine AW.out.mono ?_; rintro ev wa ⟨rfl, hb⟩; have HA := Lib.hid hb; clear hb)
        | (go_at_call 10; refine (new_any _).mono ?_; rintro ev w1 ⟨rfl, rfl⟩; have T0 := Lib.hid (NW.out _ (hT.keep HA.out)))
        | (go_at_call 11; have zz := T6; clear zz; (with_reducible refine (C5.out _ _ _ _ T6.out.toDsk).mono ?_); rintro ev w7 ⟨bw7, A7, c7, rfl, hs, _, hx, _⟩; have T7 := Lib.hid hs; have X7 := Lib.hid hx; clear hs hx)
        | (go_at_call 11; (with_reducible refine (C1.out _ _ _ _ T0.out).mono ?_); rintro ev w2 ⟨bw, A1, ca1, rfl, hs, _, _, _⟩; have T1 := Lib.hid hs; clear hs)
        | (go_at_call 12; refine (PK.out _).mono ?_; rintro ev w3 ⟨rfl, hb⟩; have T2 := Lib.hid (T1.out.below hb); clear hb)
        | (go_at_call 17; have zz := T5; clear zz; refine (C4.out _ _ _ _ _ T5.out).mono ?_; rintro ev w6 ⟨rfl, hs, _⟩; have T6 := Lib.hid hs; clear hs)
        | (go_at_call 13; have zz := T4; clear zz; refine (C3.out _ _ _ _ _ T4.out).mono ?_; rintro ev w5 ⟨rfl, hs, _⟩; have T5 := Lib.hid hs; clear hs)
        | (go_at_call 17; refine (C2.out _ _ _ _ _ (T2.out.below ((Below.refl _ _).alloc (Nat.le_refl _) _))).mono ?_; rintro ev w4 ⟨rfl, hs, _⟩; have T4 := Lib.hid hs; clear hs)
        | (go_at_call 14; refine (SM.out _ _ _ _ _ _ (X7.out.below ((Below.refl _ _).alloc (Nat.le_refl _) _)) (LT.out _)).mono ?_; rintro ev w8 ⟨rfl, hb⟩; have HB := Lib.hid (HA.out.trans (((T7.out.be.alloc T7.out.be.size _).trans (hb.mono (Nat.le_trans T7.out.be.size (by simp)))).mono HA.out.size)); clear hb))
      go_ret
      exact ⟨rfl, HB.out⟩
  | false =>
    rcases long_append c1 r1 (bs (zstr n)) (show (1 : Nat) + 1 < 64 from by omega) (by omega) (by omega) (by omega) with ⟨hle, D2, e2, c2, r2, n2⟩ | ⟨hle, e2⟩
    · skip
      obtain ⟨D3, e3, c3, r3, _, n3⟩ := append_ok (st := ⟨[], [(bs (text.extract 0 (min (text.size : Int) 300).toNat)), (bs (zstr n))], 2⟩) c2 r2 [99] (show (3 : Nat) ≤ 1099511627776 from by omega) (by have := pay1 3 (by decide) [99]; show (payP 3 [99]).length ≤ 4096; rw [this]; decide) (by rw [List.length_singleton]; omega) (by omega)
      have C2 := Lib.hid (fun w0 bw b mb W (h : Sit w0 W bw b mb Dk.new ⟨(0 : Nat), 0⟩) => append_by e1 h Dk.new_ok (by decide) (show (0 : Nat) ≤ 1099511627777 from by omega) (by omega))
      have C3 := Lib.hid (fun w0 bw b mb W (h : Sit w0 W bw b mb D1 ⟨(1 : Nat), 0⟩) => append_by (t := zstr n) e2 h c1.lies.ok (by omega) (show (1 : Nat) ≤ 1099511627777 from by omega) (by omega))
      have C4 := Lib.hid (fun w0 bw b mb W (h : Sit w0 W bw b mb D2 ⟨(2 : Nat), 0⟩) => append_by (t := ⟨#[99]⟩) e3 h c2.lies.ok (by omega) (show (2 : Nat) ≤ 1099511627777 from by omega) (by decide))
      have C5 := Lib.hid (fun w0 b mb W (h : Dsk w0 W b mb D3) => (show Calls Tryz.prog 11 #[.pointer (some ⟨b, 0, none⟩)] W fun e w' => ∃ bw A c, e = .returned (.tuple #[.pointer (some ⟨bw, 0, none⟩), .string ⟨#[]⟩, .slice A 3 c, .int .i64 0]) ∧ Sit w0 w' bw b mb D3 ⟨(3 : Nat), 0⟩ ∧ W.heap.size ≤ bw ∧ Texts w' W.heap.size (.slice A 3 c) [(bs (text.extract 0 (min (text.size : Int) 300).toNat)), (bs (zstr n)), [99]] ∧ Only (Own b mb) W w' from open_by (open_calm c3) h c3.lies.ok (by omega)))
      have LT := Lib.hid (fun W => (show Texts (W.alloc (.cells #[.string (text.extract 0 (min (text.size : Int) 300).toNat), .string (zstr n), .string ⟨#[99]⟩] 9)) W.heap.size (.slice (some ⟨W.heap.size, 0, none⟩) 3 3) [(bs (text.extract 0 (min (text.size : Int) 300).toNat)), (bs (zstr n)), [99]] from lit_T W [(bs (text.extract 0 (min (text.size : Int) 300).toNat)), (bs (zstr n)), [99]] (show (3 : Nat) ≤ 9223372036854775807 from by omega)))
      have SM := Lib.hid (fun W base A c B d (h1 : Texts W base (.slice A ([(bs (text.extract 0 (min (text.size : Int) 300).toNat)), (bs (zstr n)), [99]] : List Bs).length c) [(bs (text.extract 0 (min (text.size : Int) 300).toNat)), (bs (zstr n)), [99]]) (h2 : Texts W B (.slice d ([(bs (text.extract 0 (min (text.size : Int) 300).toNat)), (bs (zstr n)), [99]] : List Bs).length 3) [(bs (text.extract 0 (min (text.size : Int) 300).toNat)), (bs (zstr n)), [99]]) => (show Calls Tryz.prog 14 #[.slice A 3 c, .slice d 3 3] W fun e w' => e = .returned (.bool true) ∧ Below W.heap.size W w' from (same_C (l := [(bs (text.extract 0 (min (text.size : Int) 300).toNat)), (bs (zstr n)), [99]]) (show (3 : Nat) ≤ 1000000 from by omega) h1.reads.2 h1.reads.1 h2.reads.2 h2.reads.1).mono (fun e w' h => by rw [decide_eq_true (rfl : ([(bs (text.extract 0 (min (text.size : Int) 300).toNat)), (bs (zstr n)), [99]] : List Bs) = [(bs (text.extract 0 (min (text.size : Int) 300).toNat)), (bs (zstr n)), [99]])] at h; exact h)))
      have hp5 : 4090 + p ≤ 4095 := by omega
      have hp5' : p ≤ 5 := by omega
      clear e1 e2 e3 c1 r1 n1 c2 r2 n2 r3 n3 c3 hacts hzs hzl hte htl hl hnp
      go_enter Tryz.func4, Tryz.ntmps4
      go_wp2_with (first
        | (go_at_call 9; refine AW.out.mono ?_; rintro ev wa ⟨rfl, hb⟩; have HA := Lib.hid hb; clear hb)
        | (go_at_call 10; refine (new_any _).mono ?_; rintro ev w1 ⟨rfl, rfl⟩; have T0 := Lib.hid (NW.out _ (hT.keep HA.out)))
        | (go_at_call 11; have zz := T6; clear zz; (with_reducible refine (C5.out _ _ _ _ T6.out.toDsk).mono ?_); rintro ev w7 ⟨bw7, A7, c7, rfl, hs, _, hx, _⟩; have T7 := Lib.hid hs; have X7 := Lib.hid hx; clear hs hx)
        | (go_at_call 11; (with_reducible refine (C1.out _ _ _ _ T0.out).mono ?_); rintro ev w2 ⟨bw, A1, ca1, rfl, hs, _, _, _⟩; have T1 := Lib.hid hs; clear hs)
        | (go_at_call 12; refine (PK.out _).mono ?_; rintro ev w3 ⟨rfl, hb⟩; have T2 := Lib.hid (T1.out.below hb); clear hb)
        | (go_at_call 17; have zz := T5; clear zz; refine (C4.out _ _ _ _ _ T5.out).mono ?_; rintro ev w6 ⟨rfl, hs, _⟩; have T6 := Lib.hid hs; clear hs)
        | (go_at_call 17; have zz := T4; clear zz; refine (C3.out _ _ _ _ _ T4.out).mono ?_; rintro ev w5 ⟨rfl, hs, _⟩; have T5 := Lib.hid hs; clear hs)
        | (go_at_call 17; refine (C2.out _ _ _ _ _ (T2.out.below ((Below.refl _ _).alloc (Nat.le_refl _) _))).mono ?_; rintro ev w4 ⟨rfl, hs, _⟩; have T4 := Lib.hid hs; clear hs)
        | (go_at_call 14; refine (SM.out _ _ _ _ _ _ (X7.out.below ((Below.refl _ _).alloc (Nat.le_refl _) _)) (LT.out _)).mono ?_; rintro ev w8 ⟨rfl, hb⟩; have HB := Lib.hid (HA.out.trans (((T7.out.be.alloc T7.out.be.size _).trans (hb.mono (Nat.le_trans T7.out.be.size (by simp)))).mono HA.out.size)); clear hb))
      go_ret
      exact ⟨rfl, HB.out⟩
    · skip
      obtain ⟨D3, e3, c3, r3, _, n3⟩ := append_ok (st := ⟨[], [(bs (text.extract 0 (min (text.size : Int) 300).toNat))], 1⟩) c1 r1 [99] (show (2 : Nat) ≤ 1099511627776 from by omega) (by have := pay1 2 (by decide) [99]; show (payP 2 [99]).length ≤ 4096; rw [this]; decide) (by rw [List.length_singleton]; omega) (by omega)
      have C2 := Lib.hid (fun w0 bw b mb W (h : Sit w0 W bw b mb Dk.new ⟨(0 : Nat), 0⟩) => append_by e1 h Dk.new_ok (by decide) (show (0 : Nat) ≤ 1099511627777 from by omega) (by omega))
      have C3 := Lib.hid (fun w0 bw b mb W (h : Sit w0 W bw b mb D1 ⟨(1 : Nat), 0⟩) => append_by (t := zstr n) e2 h c1.lies.ok (by omega) (show (1 : Nat) ≤ 1099511627777 from by omega) (by omega))
      have C4 := Lib.hid (fun w0 bw b mb W (h : Sit w0 W bw b mb D1 ⟨(1 : Nat), 0⟩) => append_by (t := ⟨#[99]⟩) e3 h c1.lies.ok (by omega) (show (1 : Nat) ≤ 1099511627777 from by omega) (by decide))
      have C5 := Lib.hid (fun w0 b mb W (h : Dsk w0 W b mb D3) => (show Calls Tryz.prog 11 #[.pointer (some ⟨b, 0, none⟩)] W fun e w' => ∃ bw A c, e = .returned (.tuple #[.pointer (some ⟨bw, 0, none⟩), .string ⟨#[]⟩, .slice A 2 c, .int .i64 0]) ∧ Sit w0 w' bw b mb D3 ⟨(2 : Nat), 0⟩ ∧ W.heap.size ≤ bw ∧ Texts w' W.heap.size (.slice A 2 c) [(bs (text.extract 0 (min (text.size : Int) 300).toNat)), [99]] ∧ Only (Own b mb) W w' from open_by (open_calm c3) h c3.lies.ok (by omega)))
      have LT := Lib.hid (fun W => (show Texts (W.alloc (.cells #[.string (text.extract 0 (min (text.size : Int) 300).toNat), .string ⟨#[99]⟩] 9)) W.heap.size (.slice (some ⟨W.heap.size, 0, none⟩) 2 2) [(bs (text.extract 0 (min (text.size : Int) 300).toNat)), [99]] from lit_T W [(bs (text.extract 0 (min (text.size : Int) 300).toNat)), [99]] (show (2 : Nat) ≤ 9223372036854775807 from by omega)))
      have SM := Lib.hid (fun W base A c B d (h1 : Texts W base (.slice A ([(bs (text.extract 0 (min (text.size : Int) 300).toNat)), [99]] : List Bs).length c) [(bs (text.extract 0 (min (text.size : Int) 300).toNat)), [99]]) (h2 : Texts W B (.slice d ([(bs (text.extract 0 (min (text.size : Int) 300).toNat)), [99]] : List Bs).length 2) [(bs (text.extract 0 (min (text.size : Int) 300).toNat)), [99]]) => (show Calls Tryz.prog 14 #[.slice A 2 c, .slice d 2 2] W fun e w' => e = .returned (.bool true) ∧ Below W.heap.size W w' from (same_C (l := [(bs (text.extract 0 (min (text.size : Int) 300).toNat)), [99]]) (show (2 : Nat) ≤ 1000000 from by omega) h1.reads.2 h1.reads.1 h2.reads.2 h2.reads.1).mono (fun e w' h => by rw [decide_eq_true (rfl : ([(bs (text.extract 0 (min (text.size : Int) 300).toNat)), [99]] : List Bs) = [(bs (text.extract 0 (min (text.size : Int) 300).toNat)), [99]])] at h; exact h)))
      have hp5 : 4095 < 4090 + p := by omega
      have hp5' : 5 < p := by omega
      clear e1 e2 e3 c1 r1 n1  r3 n3 c3 hacts hzs hzl hte htl hl hnp
      go_enter Tryz.func4, Tryz.ntmps4
      go_wp2_with (first
        | (go_at_call 9; refine AW.out.mono ?_; rintro ev wa ⟨rfl, hb⟩; have HA := Lib.hid hb; clear hb)
        | (go_at_call 10; refine (new_any _).mono ?_; rintro ev w1 ⟨rfl, rfl⟩; have T0 := Lib.hid (NW.out _ (hT.keep HA.out)))
        | (go_at_call 11; have zz := T6; clear zz; (with_reducible refine (C5.out _ _ _ _ T6.out.toDsk).mono ?_); rintro ev w7 ⟨bw7, A7, c7, rfl, hs, _, hx, _⟩; have T7 := Lib.hid hs; have X7 := Lib.hid hx; clear hs hx)
        | (go_at_call 11; (with_reducible refine (C1.out _ _ _ _ T0.out).mono ?_); rintro ev w2 ⟨bw, A1, ca1, rfl, hs, _, _, _⟩; have T1 := Lib.hid hs; clear hs)
        | (go_at_call 12; refine (PK.out _).mono ?_; rintro ev w3 ⟨rfl, hb⟩; have T2 := Lib.hid (T1.out.below hb); clear hb)
        | (go_at_call 17; have zz := T5; clear zz; refine (C4.out _ _ _ _ _ T5.out).mono ?_; rintro ev w6 ⟨rfl, hs, _⟩; have T6 := Lib.hid hs; clear hs)
        | (go_at_call 17; have zz := T4; clear zz; refine (C3.out _ _ _ _ _ T4.out).mono ?_; rintro ev w5 ⟨rfl, hs, _⟩; have T5 := Lib.hid hs; clear hs)
        | (go_at_call 17; refine (C2.out _ _ _ _ _ (T2.out.below ((Below.refl _ _).alloc (Nat.le_refl _) _))).mono ?_; rintro ev w4 ⟨rfl, hs, _⟩; have T4 := Lib.hid hs; clear hs)
        | (go_at_call 14; refine (SM.out _ _ _ _ _ _ (X7.out.below ((Below.refl _ _).alloc (Nat.le_refl _) _)) (LT.out _)).mono ?_; rintro ev w8 ⟨rfl, hb⟩; have HB := Lib.hid (HA.out.trans (((T7.out.be.alloc T7.out.be.size _).trans (hb.mono (Nat.le_trans T7.out.be.size (by simp)))).mono HA.out.size)); clear hb))
      go_ret
      exact ⟨rfl, HB.out⟩
end Go.Proofs.YtlmnmjnmilaipaaGreatDoor

/- Layer 11: WalCounts walked. -/
import Derived.Test.YtlmnmjnmilaipaaGreatDoorWalCt
import Derived.Test.YtlmnmjnmilaipaaGreatDoorOpen11
import Derived.Deep.QuietTactic
import Derived.BigQuiet
set_option linter.unusedVariables false
set_option linter.unusedSimpArgs false
namespace Go.Proofs.YtlmnmjnmilaipaaGreatDoor
open Go Go.RowKit Go.Sort PR Go.Proofs.YtlmnmjnmilaipaaGreatDoorW.PrintWords

/-- What holds at a round's head of WalCounts. -/
structure CtRel (ts : List Bs) (a : Nat) (w w0 : World) (bw b mb k : Nat) (v : Value) (wr : World) (D : Dk) : Prop where
  kn : k ≤ ts.length + 1
  sit : Sit w0 wr bw b mb D ⟨((min k ts.length : Nat) : Int), 0⟩
  ctd : CtD ts a k D
  row : Kd.R Kd.string 9 wr 0 (fun j => j ≠ b ∧ j ≠ mb ∧ j ≠ bw ∧ w0.heap.size ≤ j) v (((ts.take k).drop a).map ba)
  be : Below w.heap.size w wr
theorem row_wown {bw b mb B : Nat} {w w' : World} {v : Value} {l : List ByteArray} (h : Kd.R Kd.string 9 w 0 (fun j => j ≠ b ∧ j ≠ mb ∧ j ≠ bw ∧ B ≤ j) v l) (ho : Only (WOwn bw b mb) w w') : Kd.R Kd.string 9 w' 0 (fun j => j ≠ b ∧ j ≠ mb ∧ j ≠ bw ∧ B ≤ j) v l :=
  Kd.R_step h (fun k hk hlt => ho.block k hlt (fun h => h.elim (fun e => hk.2.2.1 e) (fun h => h.elim (fun e => hk.1 e) (fun e => hk.2.1 e))))
theorem Sit.grown {w0 w w' : World} {bw b mb : Nat} {D : Dk} {W : Wl} {row : Option Nat} (h : Sit w0 w bw b mb D W) (hg : w.grownBy w' row) (hr : ∀ j, row = some j → j ≠ b ∧ j ≠ mb ∧ j ≠ bw ∧ w0.heap.size ≤ j) : Sit w0 w' bw b mb D W := by
  have ho : Only (fun j => row = some j) w w' := Only.of_grown hg (fun j hj _ => hj)
  refine ⟨⟨h.dk.only ho (fun e => (hr _ e).1 rfl) (fun e => (hr _ e).2.1 rfl), h.be.trans (ho.below h.be.size (fun k hk e => by have := (hr _ e).2.2.2; omega)), h.lb, h.lm, h.err⟩, h.wl.only ho (fun e => (hr _ e).2.2.1 rfl), h.lw, h.n1, h.n2⟩
theorem list_snap {w0 w : World} {bw b mb : Nat} {D : Dk} {W : Wl} (h : Sit w0 w bw b mb D W) (hD : D.Ok) (hn : D.names = [bs kSnap]) (hl : D.files.length = 1) :
    Calls Tryz.prog 15 #[.pointer (some ⟨b, 0, none⟩)] w fun e w' => ∃ A c, e = .returned (.slice A 1 c) ∧ Texts w' 0 (.slice A ([bs kSnap] : List Bs).length c) [bs kSnap] ∧ Below w.heap.size w w' := by
  refine (list_names b mb D w h.dk hD).mono ?_
  rintro e w' ⟨A, c, rfl, hN, hb⟩
  unfold NamesAt at hN
  rw [names_enc, hn, hl] at hN
  refine ⟨A, c, by rw [hl], ?_, hb⟩
  exact Kd.R_of_own hN (fun _ _ => trivial)
set_option maxHeartbeats 40000000 in
set_option maxRecDepth 100000 in
theorem walCounts_row (A : Option Addr) (c : Nat) (xs : List ByteArray) (hc : xs.length ≤ c) (hm : c ≤ maxLen) (hs : ∀ x ∈ xs, x.size ≤ maxLen) (at0 : Int) (hat : -9223372036854775808 ≤ at0 ∧ at0 ≤ 9223372036854775807) (w : World) (hC : Kd.C Kd.string w A xs.length xs) (hT : ErrTab w) :
    Calls Tryz.prog 3 #[.slice A xs.length c, .int .i64 at0] w fun e w' => e = .returned (.bool true) ∧ Below w.heap.size w w' := by
  unfold maxLen at hm
  have AW := Lib.hid (awake_any w hT)
  have NW := Lib.hid (fun W (hT : ErrTab W) => new_dsk W hT)
  have C1 := Lib.hid (fun w0 W b mb (h : Dsk w0 W b mb Dk.new) => open_by (open_calm calm_new) h Dk.new_ok (by decide))
  obtain ⟨n, hn⟩ : ∃ n, min xs.length 30 = n := ⟨_, rfl⟩
  have hnx : n ≤ xs.length := by omega
  have hn30 : n ≤ 30 := by omega
  have hnm : min (xs.length : Int) 30 = (n : Int) := by omega
  obtain ⟨p0, p1⟩ := pickN_range at0 ((n : Int) + 1) (by omega)
  have PK := fun W => pick_any at0 ((n : Int) + 1) hat.1 hat.2 (by omega) W
  obtain ⟨a, ha⟩ := Int.eq_ofNat_of_zero_le p0
  rw [ha] at PK p1
  have PKH := Lib.hid PK
  have han : a ≤ n := by have p1' : (a : Int) < (n : Int) + 1 := p1; omega
  obtain ⟨ts, hts⟩ : ∃ ts, Hid (ts = (xs.take n).map fun s => bs (cut3 s)) := ⟨_, Lib.hid rfl⟩
  have htl : ts.length = n := by rw [hts.out, List.length_map, List.length_take]; omega
  have hget : ∀ k, k < n → ts.getD k [] = bs (cut3 (xs.getD k ⟨#[]⟩)) := fun k hk => by rw [hts.out]; exact getD_map_cut xs n k hnx hk
  have HGET := Lib.hid hget
  have HTL := Lib.hid htl
  have HC := Lib.hid hC
  have HS := Lib.hid (show ∀ k, k < n → (xs.getD k ⟨#[]⟩).size ≤ 9223372036854775807 from fun k hk => by
    have h : k < xs.length := by omega
    have e : xs.getD k ⟨#[]⟩ = xs[k] := by simp [List.getD_eq_getElem?_getD, h]
    rw [e]; exact hs _ (List.getElem_mem h))
  clear hn p0 p1 PK ha hget htl hC hs
  go_enter Tryz.func3, Tryz.ntmps3
  go_wp2_with (first
    | (go_at_call 9; refine AW.out.mono ?_; rintro ev wa ⟨rfl, hb⟩; have HA := Lib.hid hb; clear hb)
    | (go_at_call 10; refine (new_any _).mono ?_; rintro ev w1 ⟨rfl, rfl⟩; have T0 := Lib.hid (NW.out _ (hT.keep2 HA.out)))
    | (go_at_call 11; (with_reducible refine (C1.out _ _ _ _ T0.out).mono ?_); rintro ev w2 ⟨bw, A1, ca1, rfl, hs, _, _, _⟩; have T1 := Lib.hid hs; clear hs)
    | (go_at_call 12; refine (PKH.out _).mono ?_; rintro ev w3 ⟨rfl, hb⟩; have T2 := Lib.hid (T1.out.below hb); clear hb))
  have hb0 := HA.out.size
  go_loopw [12, 13] (fun v i wr => ∃ (k : Nat) (D : Dk), i = .int .i64 k ∧ CtRel ts a w wa bw (wa.heap.size + 1) wa.heap.size k v wr D) (fun _ i _ => n + 2 - (intOf i).toNat)
  case atStart =>
    refine ⟨0, Dk.new, rfl, Nat.zero_le _, ?_, ct_start ts a, ?_, HA.out.trans (T2.out.be.mono HA.out.size)⟩
    · rw [Nat.zero_min]; exact T2.out
    · rw [List.take_zero, List.drop_nil]; exact Kd.R_nil _ _ _ _ _
  case round =>
    obtain ⟨k, D, rfl, hrel⟩ := hrel
    obtain ⟨Av, cv, rfl⟩ := Kd.R_slice hrel.row
    have hk1 := hrel.kn
    rw [HTL.out] at hk1
    have HREL := Lib.hid hrel
    clear hrel
    have hlv : (((ts.take k).drop a).map ba).length = ((ts.take k).drop a).length := List.length_map _
    rw [hlv] at HREL ⊢
    clear hlv
    obtain ⟨m, hm2⟩ : ∃ m, ((ts.take k).drop a).length = m := ⟨_, rfl⟩
    rw [hm2] at HREL ⊢
    have HM2 := Lib.hid hm2
    clear hm2
    have hslot : ∀ W, W = wr → bw < W.heap.size ∧ wa.heap.size + 1 < W.heap.size := fun W h => by subst h; exact ⟨HREL.out.sit.wl.lt, HREL.out.sit.dk.lt⟩
    obtain ⟨hbl, hdl⟩ := hslot wr rfl
    clear hslot
    by_cases hkn : k ≤ n
    · have S0 := Lib.hid (show Sit wa wr bw (wa.heap.size + 1) wa.heap.size D ⟨((k : Nat) : Int), 0⟩ from by
        have := HREL.out.sit
        rwa [HTL.out, Nat.min_eq_left hkn] at this)
      have CD := Lib.hid HREL.out.ctd
      have R0 := Lib.hid HREL.out.row
      have HSQ := Lib.hid (fun D W j (h : Sit wa W bw (wa.heap.size + 1) wa.heap.size D ⟨j, 0⟩) => (show Calls Tryz.prog 16 #[.pointer (some ⟨bw, 0, none⟩)] W fun e w' => e = .returned (.int .i64 j) ∧ Below W.heap.size W w' from seq_by h))
      by_cases hka : k = a
      · subst hka
        obtain ⟨D1, e1, c1, r1, n1, m1, m2⟩ := ct_check CD.out (by omega)
        have hac := CD.out.acts
        have CK := Lib.hid (fun W (h : Sit wa W bw (wa.heap.size + 1) wa.heap.size D ⟨((k : Nat) : Int), 0⟩) => check_by (t := ⟨#[104, 101, 114, 101]⟩) e1 h CD.out.calm.lies.ok (by omega) (by omega) (by decide))
        have LSN := Lib.hid (fun W (h : Sit wa W bw (wa.heap.size + 1) wa.heap.size D1 ⟨((k : Nat) : Int), 0⟩) => list_snap h c1.lies.ok m1 m2)
        have LT1 := Lib.hid (fun W => (show Texts (W.alloc (.cells #[.string ⟨#[115, 110, 97, 112]⟩] 9)) W.heap.size (.slice (some ⟨W.heap.size, 0, none⟩) ([bs kSnap] : List Bs).length 1) [bs kSnap] from lit_T W [bs kSnap] (show (1 : Nat) ≤ 9223372036854775807 from by omega)))
        have SM1 := Lib.hid (fun W base A c B d (h1 : Texts W base (.slice A ([bs kSnap] : List Bs).length c) [bs kSnap]) (h2 : Texts W B (.slice d ([bs kSnap] : List Bs).length 1) [bs kSnap]) => (show Calls Tryz.prog 14 #[.slice A 1 c, .slice d 1 1] W fun e w' => e = .returned (.bool true) ∧ Below W.heap.size W w' from (same_C (l := [bs kSnap]) (show (1 : Nat) ≤ 1000000 from by omega) h1.reads.2 h1.reads.1 h2.reads.2 h2.reads.1).mono (fun e w' h => by rw [decide_eq_true (rfl : ([bs kSnap] : List Bs) = [bs kSnap])] at h; exact h)))
        by_cases hlt : k < n
        · obtain ⟨D2, e2, cd2⟩ := ct_append (ts := ts) (a := k) (i := k) c1 r1 (by omega) (Nat.zero_le _) rfl (by rw [HTL.out]; exact hlt) (by rw [HTL.out]; exact hn30) (by rw [HGET.out k hlt]; exact cut3_len _) (ct_eq (by rw [HTL.out]; exact hlt))
          obtain ⟨ad, hA, hcell⟩ := txt_at (Kd.C_below HC.out HREL.out.be) k (by omega)
          have hsz := HS.out k hlt
          have hkx : k < xs.length := by omega
          have HG := HGET.out k hlt
          subst hA
          have HCELL := Lib.hid (show ∀ W, Below w.heap.size w W → W.cell? (ad.add k) = some (.string (xs.getD k ⟨#[]⟩)) from fun W hb => by
            obtain ⟨ad', e, h2⟩ := txt_at (Kd.C_below HC.out hb) k hkx
            injection e with e
            subst e
            exact h2)
          rw [HG] at e2
          have AP := Lib.hid (fun W (h : Sit wa W bw (wa.heap.size + 1) wa.heap.size D1 ⟨((k : Nat) : Int), 0⟩) => (show Calls Tryz.prog 17 #[.pointer (some ⟨bw, 0, none⟩), .string ((xs.getD k ⟨#[]⟩).extract 0 (min ((xs.getD k ⟨#[]⟩).size : Int) 300).toNat)] W fun e w' => e = .returned (.int .i64 0) ∧ Sit wa w' bw (wa.heap.size + 1) wa.heap.size D2 ⟨(k : Int) + 1, 0⟩ ∧ Only (WOwn bw (wa.heap.size + 1) wa.heap.size) W w' from append_by (t := cut3 (xs.getD k ⟨#[]⟩)) e2 h c1.lies.ok (by omega) (by omega) (Nat.le_trans (cut3_size _) (by omega))))
          have hmn : 0 ≤ (min ((xs.getD k ⟨#[]⟩).size : Int) 300) ∧ (min ((xs.getD k ⟨#[]⟩).size : Int) 300) ≤ (xs.getD k ⟨#[]⟩).size := by omega
          have HWT := Lib.hid (show ((ts.take (k + 1)).drop k) = ((ts.take k).drop k) ++ [bs (cut3 (xs.getD k ⟨#[]⟩))] from by rw [drop_take_snoc ts k k (by rw [HTL.out]; exact hlt) (Nat.le_refl _), HGET.out k hlt])
          have hl3 : ((ts.take k).drop k).length ≤ 30 := by rw [List.length_drop, List.length_take]; omega
          have CD2 := Lib.hid cd2
          clear e2 cd2 HG hcell
          skip
          generalize xs.getD k ⟨#[]⟩ = xk at *
          clear e1 c1 r1 n1 m1 m2 hac
          go_wp2_with (first
            | (go_at_call 13; refine (CK.out _ S0.out).mono ?_; rintro ev w1 ⟨rfl, hs, ho⟩; have T1 := Lib.hid hs; have R1 := Lib.hid (row_wown R0.out ho); clear hs ho)
            | (go_at_call 15; refine (LSN.out _ T1.out).mono ?_; rintro ev w2 ⟨A2, c2, rfl, hx, hb⟩; have T2 := Lib.hid (T1.out.below hb); have R2 := Lib.hid (Kd.R_below R1.out hb); have X2 := Lib.hid hx; clear hx hb)
            | (go_at_call 14; refine (SM1.out _ _ _ _ _ _ (X2.out.below ((Below.refl _ _).alloc (Nat.le_refl _) _)) (LT1.out _)).mono ?_; rintro ev w3 ⟨rfl, hb⟩; have T3 := Lib.hid ((T2.out.below ((Below.refl _ _).alloc (Nat.le_refl _) _)).below hb); have R3 := Lib.hid (Kd.R_below (Kd.R_below R2.out ((Below.refl _ _).alloc (Nat.le_refl _) _)) hb); clear hb)
            | (go_at_call 16; refine (HSQ.out _ _ _ T3.out).mono ?_; rintro ev w4 ⟨rfl, hb⟩; have T4 := Lib.hid (T3.out.below hb); have R4 := Lib.hid (Kd.R_below R3.out hb); have hcm := HCELL.out w4 (HA.out.trans (T4.out.be.mono HA.out.size)); clear hb))
          go_quiet (fail)
          go_wp2_with (first
            | (go_at_call 17; refine (AP.out _ (T4.out.below (below_drewN (Below.refl _ _) _))).mono ?_; rintro ev w5 ⟨rfl, hs, ho⟩; have T5 := Lib.hid hs; have R5 := Lib.hid (row_wown (Kd.R_drewN R4.out _) ho); clear hs ho)
            | (go_at_call 16; refine (HSQ.out _ _ _ T5.out).mono ?_; rintro ev w6 ⟨rfl, hb⟩; have T6 := Lib.hid (T5.out.below hb); have R6 := Lib.hid (Kd.R_below R5.out hb); have z61 := T6.out.wl.lt; have z62 := T6.out.dk.lt; clear hb)
            | ((with_reducible refine gate_builtin (b := .append) (xs := #[.tmp 97, .tmp 99]) rfl ?_); (try (refine gate_guard (by rfl) ?_; dsimp only)); at_builtin; go_loud (refine Kd.R_append Kd.string (w0 := w6) 0 rfl (.tmp 97) (.tmp 99) 22 9 (.string ⟨#[]⟩) 16 rfl Tryz.underlying22 infoStr rfl (by decide) (by decide) (.slice Av m cv) (((ts.take k).drop k).map ba) (ba (bs (cut3 xk))) [.string (cut3 xk)] (fun j => j ≠ wa.heap.size + 1 ∧ j ≠ wa.heap.size ∧ j ≠ bw ∧ wa.heap.size ≤ j) (fun _ => False) (by rfl) (by rfl) (by show [Value.string _] = [Value.string _]; rw [ba_bs]) (fun _ h => h.elim) (fun j hj => ⟨by omega, by omega, by omega, by omega⟩) R6.out (Below.refl _ _) (Nat.zero_le _) (by rw [List.length_map]; omega) ?_; intro v7 w7 ho7 hb7 hg7 _; have R7 := Lib.hid ho7; have T7 := Lib.hid (T6.out.grown hg7 (fun j hj => (R6.out.1 j hj))); clear ho7 hb7 hg7)))
          go_roundw
          case rel => exact ⟨k + 1, D2, by go_num, ⟨by rw [HTL.out]; omega, by rw [HTL.out, Nat.min_eq_left (by omega)]; exact T7.out, CD2.out, by rw [HWT.out, List.map_append]; exact R7.out, HA.out.trans (T7.out.be.mono HA.out.size)⟩⟩
          case measure => simp [intOf]; omega
        · have hkn2 : k = n := by omega
          have HC1 := Lib.hid c1
          have HR1 := Lib.hid r1
          have HN1 := Lib.hid n1
          have HKN := Lib.hid hkn2
          clear e1 c1 r1 n1 m1 m2 hac hkn2
          go_wp2_with (first
            | (go_at_call 13; refine (CK.out _ S0.out).mono ?_; rintro ev w1 ⟨rfl, hs, ho⟩; have T1 := Lib.hid hs; have R1 := Lib.hid (row_wown R0.out ho); clear hs ho)
            | (go_at_call 15; refine (LSN.out _ T1.out).mono ?_; rintro ev w2 ⟨A2, c2, rfl, hx, hb⟩; have T2 := Lib.hid (T1.out.below hb); have R2 := Lib.hid (Kd.R_below R1.out hb); have X2 := Lib.hid hx; clear hx hb)
            | (go_at_call 14; refine (SM1.out _ _ _ _ _ _ (X2.out.below ((Below.refl _ _).alloc (Nat.le_refl _) _)) (LT1.out _)).mono ?_; rintro ev w3 ⟨rfl, hb⟩; have T3 := Lib.hid ((T2.out.below ((Below.refl _ _).alloc (Nat.le_refl _) _)).below hb); have R3 := Lib.hid (Kd.R_below (Kd.R_below R2.out ((Below.refl _ _).alloc (Nat.le_refl _) _)) hb); clear hb)
            | (go_at_call 16; refine (HSQ.out _ _ _ T3.out).mono ?_; rintro ev w4 ⟨rfl, hb⟩; have T4 := Lib.hid (T3.out.below hb); have R4 := Lib.hid (Kd.R_below R3.out hb); clear hb))
          go_roundw
          case rel => exact ⟨k + 1, D1, by go_num, ⟨by rw [HTL.out]; omega, by rw [HTL.out, HKN.out, Nat.min_eq_right (by omega)]; rw [HKN.out] at T4; exact T4.out, ⟨by rw [ct_end (by omega) (by rw [HTL.out, HKN.out]; omega), List.drop_eq_nil_of_le (by rw [HTL.out, HKN.out]; omega), HTL.out]; have := HC1.out; rw [HKN.out] at this; exact ⟨this.lies, this.off, this.new, this.holds.mono (Nat.zero_le _)⟩, HR1.out, by have := HN1.out; omega⟩, by have h := R4.out; rw [drop_take_nil ts k k (Nat.le_refl _)] at h; rw [List.drop_eq_nil_of_le (by rw [List.length_take, HTL.out, HKN.out]; omega)]; exact h, HA.out.trans (T4.out.be.mono HA.out.size)⟩⟩
          case measure => simp [intOf]; omega
      · have hka1 : ((k : Int) == (a : Int)) = false := by rw [beq_eq_false_iff_ne]; omega
        have T4 := Lib.hid S0.out
        have R4 := Lib.hid R0.out
        by_cases hlt : k < n
        · by_cases hag : a < k
          · obtain ⟨g1, g2⟩ := ct_gt (ts := ts) (a := a) (i := k) (by rw [HTL.out]; exact hlt) hag
            obtain ⟨D2, e2, cd2⟩ := ct_append (ts := ts) (a := a) (i := k) (by have := CD.out.calm; rw [g1] at this; exact this) CD.out.armed (by have := CD.out.acts; omega) (Nat.le_refl _) rfl (by rw [HTL.out]; exact hlt) (by rw [HTL.out]; exact hn30) (by rw [HGET.out k hlt]; exact cut3_len _) g2
            obtain ⟨ad, hA, hcell⟩ := txt_at (Kd.C_below HC.out HREL.out.be) k (by omega)
            have hsz := HS.out k hlt
            have hkx : k < xs.length := by omega
            have HG := HGET.out k hlt
            subst hA
            have HCELL := Lib.hid (show ∀ W, Below w.heap.size w W → W.cell? (ad.add k) = some (.string (xs.getD k ⟨#[]⟩)) from fun W hb => by
              obtain ⟨ad', e, h2⟩ := txt_at (Kd.C_below HC.out hb) k hkx
              injection e with e
              subst e
              exact h2)
            rw [HG] at e2
            have AP := Lib.hid (fun W (h : Sit wa W bw (wa.heap.size + 1) wa.heap.size D ⟨((k : Nat) : Int), 0⟩) => (show Calls Tryz.prog 17 #[.pointer (some ⟨bw, 0, none⟩), .string ((xs.getD k ⟨#[]⟩).extract 0 (min ((xs.getD k ⟨#[]⟩).size : Int) 300).toNat)] W fun e w' => e = .returned (.int .i64 0) ∧ Sit wa w' bw (wa.heap.size + 1) wa.heap.size D2 ⟨(k : Int) + 1, 0⟩ ∧ Only (WOwn bw (wa.heap.size + 1) wa.heap.size) W w' from append_by (t := cut3 (xs.getD k ⟨#[]⟩)) e2 h CD.out.calm.lies.ok (by have := CD.out.acts; omega) (by omega) (Nat.le_trans (cut3_size _) (by omega))))
            have hmn : 0 ≤ (min ((xs.getD k ⟨#[]⟩).size : Int) 300) ∧ (min ((xs.getD k ⟨#[]⟩).size : Int) 300) ≤ (xs.getD k ⟨#[]⟩).size := by omega
            have HWT := Lib.hid (show ((ts.take (k + 1)).drop a) = ((ts.take k).drop a) ++ [bs (cut3 (xs.getD k ⟨#[]⟩))] from by rw [drop_take_snoc ts a k (by rw [HTL.out]; exact hlt) (by omega), HGET.out k hlt])
            have hl3 : ((ts.take k).drop a).length ≤ 30 := by rw [List.length_drop, List.length_take]; omega
            have CD2 := Lib.hid cd2
            clear e2 cd2 HG hcell
            have hcm := HCELL.out wr HREL.out.be
            generalize xs.getD k ⟨#[]⟩ = xk at *
            have D1OK := Lib.hid CD.out.calm.lies.ok
            clear g1 g2
            have hge : a ≤ k := by omega
            go_wp2
            go_quiet (fail)
            go_wp2_with (first
              | (go_at_call 17; refine (AP.out _ (T4.out.below (below_drewN (Below.refl _ _) _))).mono ?_; rintro ev w5 ⟨rfl, hs, ho⟩; have T5 := Lib.hid hs; have R5 := Lib.hid (row_wown (Kd.R_drewN R4.out _) ho); clear hs ho)
              | (go_at_call 16; refine (HSQ.out _ _ _ T5.out).mono ?_; rintro ev w6 ⟨rfl, hb⟩; have T6 := Lib.hid (T5.out.below hb); have R6 := Lib.hid (Kd.R_below R5.out hb); have z61 := T6.out.wl.lt; have z62 := T6.out.dk.lt; clear hb)
              | ((with_reducible refine gate_builtin (b := .append) (xs := #[.tmp 97, .tmp 99]) rfl ?_); (try (refine gate_guard (by rfl) ?_; dsimp only)); at_builtin; go_loud (refine Kd.R_append Kd.string (w0 := w6) 0 rfl (.tmp 97) (.tmp 99) 22 9 (.string ⟨#[]⟩) 16 rfl Tryz.underlying22 infoStr rfl (by decide) (by decide) (.slice Av m cv) (((ts.take k).drop a).map ba) (ba (bs (cut3 xk))) [.string (cut3 xk)] (fun j => j ≠ wa.heap.size + 1 ∧ j ≠ wa.heap.size ∧ j ≠ bw ∧ wa.heap.size ≤ j) (fun _ => False) (by rfl) (by rfl) (by show [Value.string _] = [Value.string _]; rw [ba_bs]) (fun _ h => h.elim) (fun j hj => ⟨by omega, by omega, by omega, by omega⟩) R6.out (Below.refl _ _) (Nat.zero_le _) (by rw [List.length_map]; omega) ?_; intro v7 w7 ho7 hb7 hg7 _; have R7 := Lib.hid ho7; have T7 := Lib.hid (T6.out.grown hg7 (fun j hj => (R6.out.1 j hj))); clear ho7 hb7 hg7)))
            go_roundw
            case rel => exact ⟨k + 1, D2, by go_num, ⟨by rw [HTL.out]; omega, by rw [HTL.out, Nat.min_eq_left (by omega)]; exact T7.out, CD2.out, by rw [HWT.out, List.map_append]; exact R7.out, HA.out.trans (T7.out.be.mono HA.out.size)⟩⟩
            case measure => simp [intOf]; omega
          · obtain ⟨g1, g2⟩ := ct_lt (ts := ts) (a := a) (i := k) (by rw [HTL.out]; exact hlt) (by omega)
            obtain ⟨D2, e2, cd2⟩ := ct_append (ts := ts) (a := a) (i := k) (by have := CD.out.calm; rw [g1] at this; exact this) CD.out.armed (by have := CD.out.acts; omega) (Nat.le_refl _) rfl (by rw [HTL.out]; exact hlt) (by rw [HTL.out]; exact hn30) (by rw [HGET.out k hlt]; exact cut3_len _) g2
            obtain ⟨ad, hA, hcell⟩ := txt_at (Kd.C_below HC.out HREL.out.be) k (by omega)
            have hsz := HS.out k hlt
            have hkx : k < xs.length := by omega
            have HG := HGET.out k hlt
            subst hA
            have HCELL := Lib.hid (show ∀ W, Below w.heap.size w W → W.cell? (ad.add k) = some (.string (xs.getD k ⟨#[]⟩)) from fun W hb => by
              obtain ⟨ad', e, h2⟩ := txt_at (Kd.C_below HC.out hb) k hkx
              injection e with e
              subst e
              exact h2)
            rw [HG] at e2
            have AP := Lib.hid (fun W (h : Sit wa W bw (wa.heap.size + 1) wa.heap.size D ⟨((k : Nat) : Int), 0⟩) => (show Calls Tryz.prog 17 #[.pointer (some ⟨bw, 0, none⟩), .string ((xs.getD k ⟨#[]⟩).extract 0 (min ((xs.getD k ⟨#[]⟩).size : Int) 300).toNat)] W fun e w' => e = .returned (.int .i64 0) ∧ Sit wa w' bw (wa.heap.size + 1) wa.heap.size D2 ⟨(k : Int) + 1, 0⟩ ∧ Only (WOwn bw (wa.heap.size + 1) wa.heap.size) W w' from append_by (t := cut3 (xs.getD k ⟨#[]⟩)) e2 h CD.out.calm.lies.ok (by have := CD.out.acts; omega) (by omega) (Nat.le_trans (cut3_size _) (by omega))))
            have hmn : 0 ≤ (min ((xs.getD k ⟨#[]⟩).size : Int) 300) ∧ (min ((xs.getD k ⟨#[]⟩).size : Int) 300) ≤ (xs.getD k ⟨#[]⟩).size := by omega
            have HWT := Lib.hid (show ((ts.take (k + 1)).drop a) = ((ts.take k).drop a) ++ [] from by rw [drop_take_nil ts a _ (by omega), drop_take_nil ts a _ (by omega)]; rfl)
            have hl3 : ((ts.take k).drop a).length ≤ 30 := by rw [List.length_drop, List.length_take]; omega
            have CD2 := Lib.hid cd2
            clear e2 cd2 HG hcell
            have hcm := HCELL.out wr HREL.out.be
            generalize xs.getD k ⟨#[]⟩ = xk at *
            clear g1 g2
            have hge : k < a := by omega
            go_wp2
            go_quiet (fail)
            go_wp2_with (first
              | (go_at_call 17; refine (AP.out _ (T4.out.below (below_drewN (Below.refl _ _) _))).mono ?_; rintro ev w5 ⟨rfl, hs, ho⟩; have T5 := Lib.hid hs; have R5 := Lib.hid (row_wown (Kd.R_drewN R4.out _) ho); clear hs ho)
              | (go_at_call 16; refine (HSQ.out _ _ _ T5.out).mono ?_; rintro ev w6 ⟨rfl, hb⟩; have T6 := Lib.hid (T5.out.below hb); have R6 := Lib.hid (Kd.R_below R5.out hb); have z61 := T6.out.wl.lt; have z62 := T6.out.dk.lt; clear hb))
            go_roundw
            case rel => exact ⟨k + 1, D2, by go_num, ⟨by rw [HTL.out]; omega, by rw [HTL.out, Nat.min_eq_left (by omega)]; exact T6.out, CD2.out, by rw [HWT.out, List.append_nil]; exact R6.out, HA.out.trans (T6.out.be.mono HA.out.size)⟩⟩
            case measure => simp [intOf]; omega
        · have HKN := Lib.hid (show k = n from by omega)
          have hak : a < k := by omega
          go_wp2
          go_roundw
          case rel => exact ⟨k + 1, D, by go_num, ⟨by rw [HTL.out]; omega, by rw [HTL.out, HKN.out, Nat.min_eq_right (by omega)]; have := T4.out; rw [HKN.out] at this; exact this, ⟨by rw [ct_end (by omega) (by rw [HTL.out, HKN.out]; omega)]; have := CD.out.calm; rw [ct_end hak (by rw [HTL.out, HKN.out]; exact Nat.le_refl _)] at this; exact ⟨this.lies, this.off, this.new, this.holds.mono (by omega)⟩, CD.out.armed, by have := CD.out.acts; omega⟩, by have h := R4.out; rw [List.take_of_length_le (by rw [HTL.out, HKN.out]; exact Nat.le_refl _)] at h; rw [List.take_of_length_le (by rw [HTL.out, HKN.out]; omega)]; exact h, HA.out.trans (T4.out.be.mono HA.out.size)⟩⟩
          case measure => simp [intOf]; omega
    · have hk : k = n + 1 := by omega
      have S0 := Lib.hid (show Sit wa wr bw (wa.heap.size + 1) wa.heap.size D ⟨((n : Nat) : Int), 0⟩ from by
        have := HREL.out.sit
        rwa [HTL.out, Nat.min_eq_right (by omega)] at this)
      have hcalm := HREL.out.ctd.calm
      rw [ct_end (by omega) (by rw [HTL.out]; omega), HTL.out] at hcalm
      have hact := HREL.out.ctd.acts
      have hrow := HREL.out.row
      have hm3 := HM2.out
      rw [List.take_of_length_le (by rw [HTL.out]; omega)] at hrow hm3
      generalize ts.drop a = recs at *
      subst hm3
      have hrl : recs.length ≤ 1000000 := by
        have h := (Kd.R_reads hrow)
        have := HM2.out
        rw [← this, List.length_drop, List.length_take]; omega
      have R0 := Lib.hid hrow
      have OPN := Lib.hid (fun W (h : Dsk wa W (wa.heap.size + 1) wa.heap.size D) => (show Calls Tryz.prog 11 #[.pointer (some ⟨wa.heap.size + 1, 0, none⟩)] W fun e w' => ∃ bw A c, e = .returned (.tuple #[.pointer (some ⟨bw, 0, none⟩), .string ⟨#[104, 101, 114, 101]⟩, .slice A recs.length c, .int .i64 0]) ∧ Sit wa w' bw (wa.heap.size + 1) wa.heap.size D ⟨((n : Nat) : Int), 0⟩ ∧ W.heap.size ≤ bw ∧ Texts w' W.heap.size (.slice A recs.length c) recs ∧ Only (Own (wa.heap.size + 1) wa.heap.size) W w' from open_by (open_calm hcalm) h hcalm.lies.ok (by omega)))
      have HSQ := Lib.hid (fun bw W j (h : Sit wa W bw (wa.heap.size + 1) wa.heap.size D ⟨j, 0⟩) => (show Calls Tryz.prog 16 #[.pointer (some ⟨bw, 0, none⟩)] W fun e w' => e = .returned (.int .i64 j) ∧ Below W.heap.size W w' from seq_by h))
      have SM := Lib.hid (fun W base A c B d (h1 : Texts W base (.slice A recs.length c) recs) (h2 : Texts W 0 (.slice B recs.length d) recs) => (show Calls Tryz.prog 14 #[.slice A recs.length c, .slice B recs.length d] W fun e w' => e = .returned (.bool true) ∧ Below W.heap.size W w' from (same_C (l := recs) hrl h1.reads.2 h1.reads.1 h2.reads.2 h2.reads.1).mono (fun e w' h => by rw [decide_eq_true (rfl : recs = recs)] at h; exact h)))
      clear hcalm hact hrow hrl hk
      go_wp2_with (first
        | (go_at_call 11; refine (OPN.out _ S0.out.toDsk).mono ?_; rintro ev w2 ⟨bw2, A2, c2, rfl, hs, _, hx, ho⟩; have T2 := Lib.hid hs; have X2 := Lib.hid hx; have R2 := Lib.hid (Kd.R_step R0.out (fun j hj hlt => ho.block j hlt (fun h => h.elim (fun e => hj.1 e) (fun e => hj.2.1 e)))); clear hs hx ho)
        | (go_at_call 16; refine (HSQ.out _ _ _ T2.out).mono ?_; rintro ev w3 ⟨rfl, hb⟩; have T3 := Lib.hid (T2.out.below hb); have X3 := Lib.hid (X2.out.below hb); have R3 := Lib.hid (Kd.R_below R2.out hb); clear hb)
        | (go_at_call 14; refine (SM.out _ _ _ _ _ _ X3.out (Kd.R_mono R3.out (fun _ _ => trivial))).mono ?_; rintro ev w4 ⟨rfl, hb⟩; have HB := Lib.hid (HA.out.trans ((T3.out.be.trans (hb.mono T3.out.be.size)).mono HA.out.size)); clear hb))
      go_ret
      exact ⟨rfl, HB.out⟩
set_option maxRecDepth 100000 in
open Go.ChangeShapes Go.WideShapes Go.ChangeAt Go.WideMaps Go.WideElems Go.Deep in
/-- WalCounts, of arguments as a row hands them. -/
theorem walCounts_walk (v0 : Value) {base base' : Nat} {sp : Nat → Bool} {held : Bool} {H : Type} {enc : TypeId × Value → H} {W : World} {d : DataW H} {p : List MemPlace} (hval : Value.okWide Tryz.prog W .any base 22 v0) (h : DataW.Trod enc Tryz.prog W base' sp held 22 v0 d p)
    (at0 : Int) (hat : -9223372036854775808 ≤ at0 ∧ at0 ≤ 9223372036854775807) (hT : ErrTab W) :
    Calls Tryz.prog 3 #[v0, .int .i64 at0] W fun e w' => e = .returned (.bool true) ∧ Below W.heap.size W w' := by
  obtain ⟨A, c, xs, rfl, hC, hc, hm, hs⟩ := open_texts hval h
  exact walCounts_row A c xs hc hm hs at0 hat W hC hT
end Go.Proofs.YtlmnmjnmilaipaaGreatDoor

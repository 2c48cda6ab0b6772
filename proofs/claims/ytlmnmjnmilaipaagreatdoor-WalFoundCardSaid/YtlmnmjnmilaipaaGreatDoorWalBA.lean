/- Package wal's small functions: failed, end. -/
import Derived.Test.YtlmnmjnmilaipaaGreatDoorWalAs3
import Derived.Test.YtlmnmjnmilaipaaGreatDoorDiskAF
import Derived.Test.YtlmnmjnmilaipaaGreatDoorWalPl
import Derived.Test.YtlmnmjnmilaipaaGreatDoorDiskPl
import Derived.Test.YtlmnmjnmilaipaaGreatDoorVarP
set_option linter.unusedVariables false
namespace Go.Proofs.YtlmnmjnmilaipaaGreatDoor
open Go.RowKit

theorem failed_none (s : ByteArray) (w : World) : Calls Tryz.prog 41 #[.string s, .int .i64 0] w fun e w' => e = .returned .nilIface ∧ Below w.heap.size w w' := by
  go_enter Tryz.func41, Tryz.ntmps41
  go_wp2
  go_ret
  exact ⟨rfl, Below.refl _ _⟩
theorem failed_some (s : ByteArray) (n : Int) (hn : n ≠ 0) (w : World) : Calls Tryz.prog 41 #[.string s, .int .i64 n] w fun e w' => e = .returned (chV n (.one s)) ∧ Below w.heap.size w w' := by
  go_enter Tryz.func41, Tryz.ntmps41
  go_wp2
  go_ret
  exact ⟨rfl, Below.refl _ _⟩
/-- What package wal hands on: nothing, or what was wrapped. -/
def errV (n : Int) (c : Ch) : Value := if n = 0 then .nilIface else chV n c
theorem failed_any (s : ByteArray) (n : Int) (w : World) : Calls Tryz.prog 41 #[.string s, .int .i64 n] w fun e w' => e = .returned (errV n (.one s)) ∧ Below w.heap.size w w' := by
  by_cases h : n = 0
  · subst h; exact failed_none s w
  · unfold errV; rw [if_neg h]; exact failed_some s n h w
def ErrTab (w : World) : Prop := w.cell? ⟨0, 0, none⟩ = some (.iface 160 (.agg #[.pointer (some ⟨1, 65, none⟩)]))
theorem codeV_any (n : Int) (c : Ch) (w : World) (hg : ErrTab w) : Calls Tryz.prog 36 #[errV n c] w fun ev w' => ev = .returned (.int .i64 n) ∧ Below w.heap.size w w' := by
  by_cases h : n = 0
  · subst h; exact code_nil w
  · unfold errV; rw [if_neg h]; exact code_any n c w hg
/-- A log lies in block bw: its disk in block b, its number, its error. -/
structure WlIs (w : World) (bw b : Nat) (W : Wl) : Prop where
  blk : w.heap[bw]? = some (.cells #[.pointer (some ⟨b, 0, none⟩), .int .i64 W.seq, .int .i64 W.err] 70)
theorem seq_any (bw b : Nat) (W : Wl) (w : World) (h : WlIs w bw b W) : Calls Tryz.prog 16 #[.pointer (some ⟨bw, 0, none⟩)] w fun e w' => e = .returned (.int .i64 W.seq) ∧ Below w.heap.size w w' := by
  have c1 : w.cell? ⟨bw, 1, none⟩ = some (.int .i64 W.seq) := by simp [World.cell?, h.blk]
  go_enter Tryz.func16, Tryz.ntmps16
  go_wp2
  go_ret
  exact ⟨rfl, by first | exact Below.refl _ _ | exact (Below.refl _ _).drew⟩
end Go.Proofs.YtlmnmjnmilaipaaGreatDoor
/- Package wal: renew walked. -/
set_option linter.unusedVariables false
namespace Go.Proofs.YtlmnmjnmilaipaaGreatDoor
open Go.RowKit

theorem kNew_size : kNew.size ≤ maxLen := by unfold maxLen; decide
set_option maxHeartbeats 2000000 in
set_option maxRecDepth 100000 in
theorem renew_any (b mb : Nat) (D : Dk) (name s : ByteArray) (w : World) (h : DiskIs w b mb D) (hD : D.Ok) (ha : D.acts + 3 < 4611686018427387904) (hn : name.size ≤ maxLen) (hs : s.size ≤ maxLen) :
    Calls Tryz.prog 38 #[.pointer (some ⟨b, 0, none⟩), .string name, .string s] w fun e w' => (∃ x, e = .returned (errV (renewP D name s).1 (.one x))) ∧ DiskIs w' b mb (renewP D name s).2 ∧ Only (Own b mb) w w' := by
  have A1 := Lib.hid (append_any b mb D kNew s w h hD kNew_size hs)
  have k1 := Dk.append_ok hD (by omega) kNew s
  have q1 := (Dk.append_acts D kNew s).2
  unfold renewP
  generalize D.append kNew s = R1 at *
  obtain ⟨n1, D1⟩ := R1
  dsimp only at A1 k1 q1 ⊢
  by_cases h1 : n1 = 0
  · subst h1
    rw [if_neg (by simp)]
    have A2 := Lib.hid (fun W (hw : DiskIs W b mb D1) => sync_any b mb D1 kNew W hw k1)
    have k2 := Dk.sync_ok k1 (by omega) kNew
    have q2 := (Dk.sync_acts D1 kNew).2
    generalize D1.sync kNew = R2 at *
    obtain ⟨n2, D2⟩ := R2
    dsimp only at A2 k2 q2 ⊢
    have F0 := Lib.hid (fun x W => failed_none x W)
    by_cases h2 : n2 = 0
    · subst h2
      rw [if_neg (by simp)]
      have A3 := Lib.hid (fun W (hw : DiskIs W b mb D2) => rename_any b mb D2 kNew name W hw k2 hn)
      generalize D2.rename kNew name = R3 at *
      obtain ⟨n3, D3⟩ := R3
      dsimp only at A3 ⊢
      have F3 := Lib.hid (fun x W => failed_any x n3 W)
      clear hD k1 k2 q1 q2 ha hn hs h
      go_enter Tryz.func38, Tryz.ntmps38
      go_wp2_with (first
        | (go_at_call 20; refine A1.out.mono ?_; rintro ev w1 ⟨rfl, hd, ho⟩; have HD1 := Lib.hid hd; have HO1 := Lib.hid ho; clear hd ho)
        | (go_at_call 41; have zz := HD5; clear zz; refine (F3.out _ _).mono ?_; rintro ev w6 ⟨rfl, hb⟩; have HD6 := Lib.hid (HD5.out.only (Only.of_below (S := fun _ => False) hb) (fun h => h) (fun h => h)); have HO6 := Lib.hid (HO5.out.then_below hb); clear hb)
        | (go_at_call 41; refine (F0.out _ _).mono ?_; rintro ev w4 ⟨rfl, hb⟩; have HD4 := Lib.hid (HD3.out.only (Only.of_below (S := fun _ => False) hb) (fun h => h) (fun h => h)); have HO4 := Lib.hid (HO3.out.then_below hb); clear hb)
        | (go_at_call 41; refine (F0.out _ _).mono ?_; rintro ev w2 ⟨rfl, hb⟩; have HD2 := Lib.hid (HD1.out.only (Only.of_below (S := fun _ => False) hb) (fun h => h) (fun h => h)); have HO2 := Lib.hid (HO1.out.then_below hb); clear hb)
        | (go_at_call 45; refine (A2.out _ HD2.out).mono ?_; rintro ev w3 ⟨rfl, hd, ho⟩; have HD3 := Lib.hid hd; have HO3 := Lib.hid (HO2.out.trans ho); clear hd ho)
        | (go_at_call 70; refine (A3.out _ HD4.out).mono ?_; rintro ev w5 ⟨rfl, hd, ho⟩; have HD5 := Lib.hid hd; have HO5 := Lib.hid (HO4.out.trans ho); clear hd ho))
      go_ret
      exact ⟨⟨⟨#[114, 101, 110, 97, 109, 101]⟩, rfl⟩, HD6.out, HO6.out⟩
    · rw [if_pos h2]
      have F2 := Lib.hid (fun x W => failed_some x n2 h2 W)
      clear hD k1 k2 q1 q2 ha hn hs h
      have HV := Lib.hid (show ∀ c, errV n2 c = chV n2 c from fun c => by unfold errV; rw [if_neg h2])
      go_enter Tryz.func38, Tryz.ntmps38
      go_wp2_with (first
        | (go_at_call 20; refine A1.out.mono ?_; rintro ev w1 ⟨rfl, hd, ho⟩; have HD1 := Lib.hid hd; have HO1 := Lib.hid ho; clear hd ho)
        | (go_at_call 41; have zz := HD3; clear zz; refine (F2.out _ _).mono ?_; rintro ev w4 ⟨rfl, hb⟩; have HD4 := Lib.hid (HD3.out.only (Only.of_below (S := fun _ => False) hb) (fun h => h) (fun h => h)); have HO4 := Lib.hid (HO3.out.then_below hb); clear hb; unfold chV)
        | (go_at_call 41; refine (F0.out _ _).mono ?_; rintro ev w2 ⟨rfl, hb⟩; have HD2 := Lib.hid (HD1.out.only (Only.of_below (S := fun _ => False) hb) (fun h => h) (fun h => h)); have HO2 := Lib.hid (HO1.out.then_below hb); clear hb)
        | (go_at_call 45; refine (A2.out _ HD2.out).mono ?_; rintro ev w3 ⟨rfl, hd, ho⟩; have HD3 := Lib.hid hd; have HO3 := Lib.hid (HO2.out.trans ho); clear hd ho))
      go_ret
      refine ⟨⟨⟨#[115, 121, 110, 99]⟩, ?_⟩, HD4.out, HO4.out⟩
      rw [HV.out]
      rfl
  · rw [if_pos h1]
    have F1 := Lib.hid (fun x W => failed_some x n1 h1 W)
    clear hD k1 q1 ha hn hs h
    have HV := Lib.hid (show ∀ c, errV n1 c = chV n1 c from fun c => by unfold errV; rw [if_neg h1])
    go_enter Tryz.func38, Tryz.ntmps38
    go_wp2_with (first
      | (go_at_call 20; refine A1.out.mono ?_; rintro ev w1 ⟨rfl, hd, ho⟩; have HD1 := Lib.hid hd; have HO1 := Lib.hid ho; clear hd ho)
      | (go_at_call 41; refine (F1.out _ _).mono ?_; rintro ev w2 ⟨rfl, hb⟩; have HD2 := Lib.hid (HD1.out.only (Only.of_below (S := fun _ => False) hb) (fun h => h) (fun h => h)); have HO2 := Lib.hid (HO1.out.then_below hb); clear hb; unfold chV))
    go_ret
    refine ⟨⟨⟨#[119, 114, 105, 116, 101]⟩, ?_⟩, HD2.out, HO2.out⟩
    rw [HV.out]
    rfl
end Go.Proofs.YtlmnmjnmilaipaaGreatDoor
/- Package wal: end walked. -/
set_option linter.unusedVariables false
namespace Go.Proofs.YtlmnmjnmilaipaaGreatDoor
open Go.RowKit

theorem WlIs.lt {w : World} {bw b : Nat} {W : Wl} (h : WlIs w bw b W) : bw < w.heap.size := (Array.getElem?_eq_some_iff.1 h.blk).1
theorem WlIs.below {w w' : World} {bw b : Nat} {W : Wl} (h : WlIs w bw b W) (hb : Below w.heap.size w w') : WlIs w' bw b W := ⟨(hb.block bw h.lt).trans h.blk⟩
set_option maxHeartbeats 2000000 in
theorem end_any (bw b : Nat) (W : Wl) (n : Int) (c : Ch) (w : World) (h : WlIs w bw b W) (hg : ErrTab w) :
    Calls Tryz.prog 39 #[.pointer (some ⟨bw, 0, none⟩), errV n c] w fun e w' => e = .returned (.int .i64 n) ∧ WlIs w' bw b ⟨W.seq, n⟩ ∧ Only (· = bw) w w' := by
  have A := Lib.hid (codeV_any n c w hg)
  have key : ∀ w1, Below w.heap.size w w1 → WlIs (w1.setCell ⟨bw, 2, none⟩ (.int .i64 n)) bw b ⟨W.seq, n⟩ ∧ Only (· = bw) w (w1.setCell ⟨bw, 2, none⟩ (.int .i64 n)) := fun w1 hb =>
    ⟨⟨blk_setCell (h.below hb).blk _⟩, (Only.of_below (S := fun k => k = bw) hb).setCell (p := ⟨bw, 2, none⟩) (fun _ => rfl) _⟩
  have KEY := Lib.hid key
  have cells := fun w1 (hb : Below w.heap.size w w1) => (h.below hb).blk
  have CE := Lib.hid cells
  generalize errV n c = ev at *
  clear key cells
  go_enter Tryz.func39, Tryz.ntmps39
  go_wp2_with (go_at_call 36; refine A.out.mono ?_; rintro e1 w1 ⟨rfl, hb⟩; have HB := Lib.hid hb; have c2 : w1.cell? ⟨bw, 2, none⟩ = some (.int .i64 W.err) := (by simp [World.cell?, CE.out w1 hb]); have f2 : w1.frozen? ⟨bw, 2, none⟩ = false := (by simp [World.frozen?, CE.out w1 hb]); clear hb)
  go_ret
  exact ⟨rfl, (KEY.out _ HB.out).1, (KEY.out _ HB.out).2⟩
end Go.Proofs.YtlmnmjnmilaipaaGreatDoor
/- Package wal: Append walked. -/
set_option linter.unusedVariables false
namespace Go.Proofs.YtlmnmjnmilaipaaGreatDoor
open Go.RowKit

def WOwn (bw b mb : Nat) (k : Nat) : Prop := k = bw ∨ Own b mb k
def WPost (bw b mb : Nat) (w : World) (r : Int × Wl × Dk) (e : Ending) (w' : World) : Prop := e = .returned (.int .i64 r.1) ∧ WlIs w' bw b r.2.1 ∧ DiskIs w' b mb r.2.2 ∧ Only (WOwn bw b mb) w w'
theorem WlIs.only {w w' : World} {bw b : Nat} {W : Wl} (h : WlIs w bw b W) {S : Nat → Prop} (ho : Only S w w') (hn : ¬ S bw) : WlIs w' bw b W := ⟨(ho.block bw h.lt hn).trans h.blk⟩
theorem ErrTab.only {w w' : World} (h : ErrTab w) {S : Nat → Prop} (ho : Only S w w') (hn : ¬ S 0) : ErrTab w' := by
  unfold ErrTab at h ⊢
  rw [ho.cell (cell_lt h) hn]; exact h
set_option maxHeartbeats 2000000 in
set_option maxRecDepth 100000 in
theorem appendW_err (bw b mb : Nat) (W : Wl) (D : Dk) (t : ByteArray) (w : World) (hw : WlIs w bw b W) (hd : DiskIs w b mb D) (he : W.err ≠ 0) :
    Calls Tryz.prog 17 #[.pointer (some ⟨bw, 0, none⟩), .string t] w (WPost bw b mb w (appendP W D (bs t))) := by
  have e : appendP W D (bs t) = (W.err, W, D) := by unfold appendP; rw [if_pos he]
  rw [e]
  have c2 : w.cell? ⟨bw, 2, none⟩ = some (.int .i64 W.err) := by simp [World.cell?, hw.blk]
  have HW := Lib.hid hw
  have HD := Lib.hid hd
  clear hw hd e
  obtain ⟨q, er⟩ := W
  dsimp only at he c2
  go_enter Tryz.func17, Tryz.ntmps17
  go_wp2
  go_ret
  exact ⟨rfl, HW.out, HD.out, Only.refl _ _⟩
set_option maxHeartbeats 2000000 in
set_option maxRecDepth 100000 in
theorem appendW_long (bw b mb q : Nat) (D : Dk) (t : ByteArray) (w : World) (hw : WlIs w bw b ⟨q, 0⟩) (hd : DiskIs w b mb D) (hq : q ≤ 1099511627777) (ht : t.size ≤ 90000) (hm : (madeP ((q : Int) + 1) (bs t)).2 ≠ 0) :
    Calls Tryz.prog 17 #[.pointer (some ⟨bw, 0, none⟩), .string t] w (WPost bw b mb w (appendP ⟨q, 0⟩ D (bs t))) := by
  have e : appendP ⟨q, 0⟩ D (bs t) = ((madeP ((q : Int) + 1) (bs t)).2, ⟨q, 0⟩, D) := by unfold appendP; rw [if_neg (by simp)]; dsimp only; rw [if_pos hm]
  rw [e]
  have M := Lib.hid (fun W => made_any (q + 1) (by omega) t ht W)
  rw [show ((q + 1 : Nat) : Int) = (q : Int) + 1 from rfl] at M
  generalize madeP ((q : Int) + 1) (bs t) = R at *
  obtain ⟨r1, r2⟩ := R
  dsimp only at hm M ⊢
  have c1 : w.cell? ⟨bw, 1, none⟩ = some (.int .i64 (q : Int)) := by simp [World.cell?, hw.blk]
  have c2 : w.cell? ⟨bw, 2, none⟩ = some (.int .i64 0) := by simp [World.cell?, hw.blk]
  have HW := Lib.hid hw
  have HD := Lib.hid hd
  clear hw hd e
  go_enter Tryz.func17, Tryz.ntmps17
  go_wp2_with (go_at_call 37; refine (M.out _).mono ?_; rintro ev w1 ⟨rfl, hb⟩; have HB := Lib.hid hb; clear hb)
  go_ret
  exact ⟨rfl, HW.out.below HB.out, HD.out.only (Only.of_below (S := fun _ => False) HB.out) (fun h => h) (fun h => h), Only.of_below HB.out⟩
theorem kLog_size : kLog.size ≤ maxLen := by unfold maxLen; decide
theorem own_not {bw b mb k : Nat} (h0 : bw ≠ k) (h1 : b ≠ k) (h2 : mb ≠ k) : ¬ WOwn bw b mb k := fun h => h.elim (fun e => h0 e.symm) (fun h => h.elim (fun e => h1 e.symm) (fun e => h2 e.symm))
set_option maxHeartbeats 4000000 in
set_option maxRecDepth 100000 in
theorem appendW_go (bw b mb q : Nat) (D : Dk) (t : ByteArray) (w : World) (hw : WlIs w bw b ⟨q, 0⟩) (hd : DiskIs w b mb D) (hD : D.Ok) (ha : D.acts + 2 < 4611686018427387904) (hq : q ≤ 1099511627777) (ht : t.size ≤ 90000) (hg : ErrTab w)
    (hn1 : bw ≠ b) (hn2 : bw ≠ mb) (g0 : bw ≠ 0) (g1 : b ≠ 0) (g2 : mb ≠ 0) (hm : (madeP ((q : Int) + 1) (bs t)).2 = 0) :
    Calls Tryz.prog 17 #[.pointer (some ⟨bw, 0, none⟩), .string t] w (WPost bw b mb w (appendP ⟨q, 0⟩ D (bs t))) := by
  have M := Lib.hid (fun W => made_any (q + 1) (by omega) t ht W)
  rw [show ((q + 1 : Nat) : Int) = (q : Int) + 1 from rfl] at M
  have hln : (ba (madeP ((q : Int) + 1) (bs t)).1).size ≤ maxLen := by
    have hl : (madeP ((q : Int) + 1) (bs t)).1.length ≤ 5000 := by
      unfold madeP
      split
      · exact Nat.zero_le _
      · rename_i h
        unfold layP at h ⊢
        split
        · exact Nat.zero_le _
        · rename_i h2
          show (frameP _).length ≤ 5000
          rw [frameP_len]
          have := numD_len 1 (2 * (numD (2 * ((q : Int) + 1).toNat) ++ bs t).length) (by omega)
          omega
    rw [ba_size]; unfold maxLen; omega
  unfold appendP
  rw [if_neg (by simp)]
  dsimp only
  rw [if_neg (by rw [hm]; simp)]
  generalize madeP ((q : Int) + 1) (bs t) = R at *
  obtain ⟨r1, r2⟩ := R
  obtain rfl : r2 = 0 := hm
  dsimp only at M hln ⊢
  have A1 := Lib.hid (fun W (h : DiskIs W b mb D) => append_any b mb D kLog (ba r1) W h hD kLog_size hln)
  have k1 := Dk.append_ok hD (by omega) kLog (ba r1)
  generalize D.append kLog (ba r1) = R1 at *
  obtain ⟨n1, D1⟩ := R1
  dsimp only at A1 k1 ⊢
  have c0 : w.cell? ⟨bw, 0, none⟩ = some (.pointer (some ⟨b, 0, none⟩)) := by simp [World.cell?, hw.blk]
  have c1 : w.cell? ⟨bw, 1, none⟩ = some (.int .i64 (q : Int)) := by simp [World.cell?, hw.blk]
  have c2 : w.cell? ⟨bw, 2, none⟩ = some (.int .i64 0) := by simp [World.cell?, hw.blk]
  have HW := Lib.hid hw
  have HD := Lib.hid hd
  have HG := Lib.hid hg
  have hnb : ¬ Own b mb bw := fun h => h.elim hn1 hn2
  have hsub : ∀ k, k < w.heap.size → Own b mb k → WOwn bw b mb k := fun k _ h => .inr h
  by_cases h1 : n1 = 0
  · subst h1
    rw [if_neg (by simp)]
    have A2 := Lib.hid (fun W (h : DiskIs W b mb D1) => sync_any b mb D1 kLog W h k1)
    generalize D1.sync kLog = R2 at *
    obtain ⟨n2, D2⟩ := R2
    dsimp only at A2 ⊢
    have F0 := Lib.hid (fun x W => failed_none x W)
    have hlt := hw.lt
    by_cases h2 : n2 = 0
    · subst h2
      rw [if_neg (by simp)]
      have FX := Lib.hid (fun x W => failed_none x W)
      have hbk := hw.blk
      have HBK := Lib.hid hbk
      clear hw hd hg hD k1 hbk
      go_enter Tryz.func17, Tryz.ntmps17
      go_wp2_with (first
      | (go_at_call 37; refine (M.out _).mono ?_; rintro ev w1 ⟨rfl, hb⟩; have HO1 := Lib.hid (Only.of_below (S := fun _ => False) hb); have d0 : w1.cell? ⟨bw, 0, none⟩ = some (.pointer (some ⟨b, 0, none⟩)) := (HO1.out.cell hlt (fun h => h)).trans c0; clear hb)
      | (go_at_call 20; refine (A1.out _ (HD.out.only HO1.out (fun h => h) (fun h => h))).mono ?_; rintro ev w2 ⟨rfl, hd, ho⟩; have HD2 := Lib.hid hd; have HO2 := Lib.hid (HO1.out.trans' ho (fun _ _ h => h.elim) (fun _ _ h => h)); clear hd ho)
      | (go_at_call 41; have zz := HD4; clear zz; refine (FX.out _ _).mono ?_; rintro ev w5 ⟨rfl, hb⟩; have HD5 := Lib.hid (HD4.out.only (Only.of_below (S := fun _ => False) hb) (fun h => h) (fun h => h)); have HO5 := Lib.hid (HO4.out.then_below hb); have b5 : w5.heap[bw]? = some (.cells #[.pointer (some ⟨b, 0, none⟩), .int .i64 (q : Int), .int .i64 0] 70) := (HO5.out.block bw hlt hnb).trans HBK.out; have e1 : w5.cell? ⟨bw, 1, none⟩ = some (.int .i64 (q : Int)) := (by simp [World.cell?, b5]); have f1 : w5.frozen? ⟨bw, 1, none⟩ = false := (by simp [World.frozen?, b5]); have B5 := Lib.hid b5; clear b5 hb)
      | (go_at_call 41; refine (F0.out _ _).mono ?_; rintro ev w3 ⟨rfl, hb⟩; have HD3 := Lib.hid (HD2.out.only (Only.of_below (S := fun _ => False) hb) (fun h => h) (fun h => h)); have HO3 := Lib.hid (HO2.out.then_below hb); have d3 : w3.cell? ⟨bw, 0, none⟩ = some (.pointer (some ⟨b, 0, none⟩)) := (HO3.out.cell hlt hnb).trans c0; clear hb)
      | (go_at_call 45; refine (A2.out _ HD3.out).mono ?_; rintro ev w4 ⟨rfl, hd, ho⟩; have HD4 := Lib.hid hd; have HO4 := Lib.hid (HO3.out.trans ho); clear hd ho))
      go_ret
      refine ⟨rfl, ⟨?_⟩, HD5.out.only ((Only.refl (fun k => k = bw) _).setCell (p := ⟨bw, 1, none⟩) (fun _ => rfl) _) (fun e => hn1 e.symm) (fun e => hn2 e.symm), (HO5.out.mono (fun k _ h => .inr h)).setCell (p := ⟨bw, 1, none⟩) (fun _ => .inl rfl) _⟩
      exact blk_setCell B5.out _
    · rw [if_pos h2]
      have FX := Lib.hid (fun x W => failed_some x n2 h2 W)
      have HE : ∀ c, errV n2 c = chV n2 c := fun c => by unfold errV; rw [if_neg h2]
      have HEH := Lib.hid HE
      have E1 := Lib.hid (fun c W (hW : WlIs W bw b ⟨q, 0⟩) (hG : ErrTab W) => end_any bw b ⟨q, 0⟩ n2 c W hW hG)
      clear hw hd hg hD k1 HE
      go_enter Tryz.func17, Tryz.ntmps17
      go_wp2_with (first
      | (go_at_call 37; refine (M.out _).mono ?_; rintro ev w1 ⟨rfl, hb⟩; have HO1 := Lib.hid (Only.of_below (S := fun _ => False) hb); have d0 : w1.cell? ⟨bw, 0, none⟩ = some (.pointer (some ⟨b, 0, none⟩)) := (HO1.out.cell hlt (fun h => h)).trans c0; clear hb)
      | (go_at_call 20; refine (A1.out _ (HD.out.only HO1.out (fun h => h) (fun h => h))).mono ?_; rintro ev w2 ⟨rfl, hd, ho⟩; have HD2 := Lib.hid hd; have HO2 := Lib.hid (HO1.out.trans' ho (fun _ _ h => h.elim) (fun _ _ h => h)); clear hd ho)
      | (go_at_call 41; have zz := HD4; clear zz; refine (FX.out _ _).mono ?_; rintro ev w5 ⟨rfl, hb⟩; have HD5 := Lib.hid (HD4.out.only (Only.of_below (S := fun _ => False) hb) (fun h => h) (fun h => h)); have HO5 := Lib.hid (HO4.out.then_below hb); clear hb; unfold chV)
      | (go_at_call 41; refine (F0.out _ _).mono ?_; rintro ev w3 ⟨rfl, hb⟩; have HD3 := Lib.hid (HD2.out.only (Only.of_below (S := fun _ => False) hb) (fun h => h) (fun h => h)); have HO3 := Lib.hid (HO2.out.then_below hb); have d3 : w3.cell? ⟨bw, 0, none⟩ = some (.pointer (some ⟨b, 0, none⟩)) := (HO3.out.cell hlt hnb).trans c0; clear hb)
      | (go_at_call 45; refine (A2.out _ HD3.out).mono ?_; rintro ev w4 ⟨rfl, hd, ho⟩; have HD4 := Lib.hid hd; have HO4 := Lib.hid (HO3.out.trans ho); clear hd ho)
      | (go_at_call 39; have hx := E1.out (.one ⟨#[115, 121, 110, 99]⟩) _ (HW.out.only HO5.out hnb) (HG.out.only HO5.out (fun h => h.elim (fun e => g1 e.symm) (fun e => g2 e.symm))); rw [HEH.out] at hx; unfold chV at hx; refine hx.mono ?_; rintro ev w6 ⟨rfl, hw6, ho6⟩; have HW6 := Lib.hid hw6; have HO6 := Lib.hid (show Only (WOwn bw b mb) w w6 from HO5.out.trans' ho6 (fun _ _ h => .inr h) (fun _ _ h => .inl h)); have HD6 := Lib.hid (HD5.out.only ho6 (fun e => hn1 e.symm) (fun e => hn2 e.symm)); clear hx hw6 ho6))
      go_ret
      exact ⟨rfl, HW6.out, HD6.out, HO6.out⟩
  · rw [if_pos h1]
    have F1 := Lib.hid (fun x W => failed_any x n1 W)
    have HV := errV n1
    have HE : ∀ c, errV n1 c = chV n1 c := fun c => by unfold errV; rw [if_neg h1]
    have HEH := Lib.hid HE
    have E1 := Lib.hid (fun c W (hW : WlIs W bw b ⟨q, 0⟩) (hG : ErrTab W) => end_any bw b ⟨q, 0⟩ n1 c W hW hG)
    have F1' := Lib.hid (fun x W => failed_some x n1 h1 W)
    have hlt := hw.lt
    clear hw hd hg hD k1 HV HE F1
    go_enter Tryz.func17, Tryz.ntmps17
    go_wp2_with (first
      | (go_at_call 37; refine (M.out _).mono ?_; rintro ev w1 ⟨rfl, hb⟩; have HO1 := Lib.hid (Only.of_below (S := fun _ => False) hb); have d0 : w1.cell? ⟨bw, 0, none⟩ = some (.pointer (some ⟨b, 0, none⟩)) := (HO1.out.cell hlt (fun h => h)).trans c0; clear hb)
      | (go_at_call 20; refine (A1.out _ (HD.out.only HO1.out (fun h => h) (fun h => h))).mono ?_; rintro ev w2 ⟨rfl, hd, ho⟩; have HD2 := Lib.hid hd; have HO2 := Lib.hid (HO1.out.trans' ho (fun _ _ h => h.elim) (fun _ _ h => h)); clear hd ho)
      | (go_at_call 41; refine (F1'.out _ _).mono ?_; rintro ev w3 ⟨rfl, hb⟩; have HD3 := Lib.hid (HD2.out.only (Only.of_below (S := fun _ => False) hb) (fun h => h) (fun h => h)); have HO3 := Lib.hid (HO2.out.then_below hb); clear hb; unfold chV)
      | (go_at_call 39; have hx := E1.out (.one ⟨#[97, 112, 112, 101, 110, 100]⟩) _ (HW.out.only HO3.out hnb) (HG.out.only HO3.out (fun h => h.elim (fun e => g1 e.symm) (fun e => g2 e.symm))); rw [HEH.out] at hx; unfold chV at hx; refine hx.mono ?_; rintro ev w4 ⟨rfl, hw4, ho4⟩; have HW4 := Lib.hid hw4; have HO4 := Lib.hid (show Only (WOwn bw b mb) w w4 from HO3.out.trans' ho4 (fun _ _ h => .inr h) (fun _ _ h => .inl h)); have HD4 := Lib.hid (HD3.out.only ho4 (fun e => hn1 e.symm) (fun e => hn2 e.symm)); clear hx hw4 ho4))
    go_ret
    exact ⟨rfl, HW4.out, HD4.out, HO4.out⟩
/-- Append, whole. -/
theorem appendW_any (bw b mb q : Nat) (er : Int) (D : Dk) (t : ByteArray) (w : World) (hw : WlIs w bw b ⟨q, er⟩) (hd : DiskIs w b mb D) (hD : D.Ok) (ha : D.acts + 2 < 4611686018427387904) (hq : q ≤ 1099511627777) (ht : t.size ≤ 90000) (hg : ErrTab w)
    (hn1 : bw ≠ b) (hn2 : bw ≠ mb) (g0 : bw ≠ 0) (g1 : b ≠ 0) (g2 : mb ≠ 0) :
    Calls Tryz.prog 17 #[.pointer (some ⟨bw, 0, none⟩), .string t] w (WPost bw b mb w (appendP ⟨q, er⟩ D (bs t))) := by
  by_cases he : er = 0
  · subst he
    by_cases hm : (madeP ((q : Int) + 1) (bs t)).2 = 0
    · exact appendW_go bw b mb q D t w hw hd hD ha hq ht hg hn1 hn2 g0 g1 g2 hm
    · exact appendW_long bw b mb q D t w hw hd hq ht hm
  · exact appendW_err bw b mb ⟨q, er⟩ D t w hw hd he
end Go.Proofs.YtlmnmjnmilaipaaGreatDoor

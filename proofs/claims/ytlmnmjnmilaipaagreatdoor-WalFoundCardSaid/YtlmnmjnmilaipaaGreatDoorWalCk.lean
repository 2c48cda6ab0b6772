/- Package wal: Checkpoint refused, walked. -/
import Derived.Test.YtlmnmjnmilaipaaGreatDoorWalBA
import Derived.Test.YtlmnmjnmilaipaaGreatDoorWalL
set_option linter.unusedVariables false
namespace Go.Proofs.YtlmnmjnmilaipaaGreatDoor
open Go.RowKit

set_option maxHeartbeats 2000000 in
set_option maxRecDepth 100000 in
theorem checkW_err (bw b mb : Nat) (W : Wl) (D : Dk) (t : ByteArray) (w : World) (hw : WlIs w bw b W) (hd : DiskIs w b mb D) (he : W.err ≠ 0) :
    Calls Tryz.prog 13 #[.pointer (some ⟨bw, 0, none⟩), .string t] w (WPost bw b mb w (checkP W D (bs t))) := by
  have e : checkP W D (bs t) = (W.err, W, D) := by unfold checkP; rw [if_pos he]
  rw [e]
  have c2 : w.cell? ⟨bw, 2, none⟩ = some (.int .i64 W.err) := by simp [World.cell?, hw.blk]
  have HW := Lib.hid hw
  have HD := Lib.hid hd
  clear hw hd e
  obtain ⟨q, er⟩ := W
  dsimp only at he c2
  go_enter Tryz.func13, Tryz.ntmps13
  go_wp2
  go_ret
  exact ⟨rfl, HW.out, HD.out, Only.refl _ _⟩
set_option maxHeartbeats 2000000 in
set_option maxRecDepth 100000 in
theorem checkW_long (bw b mb q : Nat) (D : Dk) (t : ByteArray) (w : World) (hw : WlIs w bw b ⟨q, 0⟩) (hd : DiskIs w b mb D) (hq : q ≤ 1099511627777) (ht : t.size ≤ 90000) (hm : (madeP (q : Int) (bs t)).2 ≠ 0) :
    Calls Tryz.prog 13 #[.pointer (some ⟨bw, 0, none⟩), .string t] w (WPost bw b mb w (checkP ⟨q, 0⟩ D (bs t))) := by
  have e : checkP ⟨q, 0⟩ D (bs t) = ((madeP (q : Int) (bs t)).2, ⟨q, 0⟩, D) := by unfold checkP; rw [if_neg (by simp)]; dsimp only; rw [if_pos hm]
  rw [e]
  have M := Lib.hid (fun W => made_any q (by omega) t ht W)
  generalize madeP (q : Int) (bs t) = R at *
  obtain ⟨r1, r2⟩ := R
  dsimp only at hm M ⊢
  have c1 : w.cell? ⟨bw, 1, none⟩ = some (.int .i64 (q : Int)) := by simp [World.cell?, hw.blk]
  have c2 : w.cell? ⟨bw, 2, none⟩ = some (.int .i64 0) := by simp [World.cell?, hw.blk]
  have HW := Lib.hid hw
  have HD := Lib.hid hd
  clear hw hd e
  go_enter Tryz.func13, Tryz.ntmps13
  go_wp2_with (go_at_call 37; refine (M.out _).mono ?_; rintro ev w1 ⟨rfl, hb⟩; have HB := Lib.hid hb; clear hb)
  go_ret
  exact ⟨rfl, HW.out.below HB.out, HD.out.only (Only.of_below (S := fun _ => False) HB.out) (fun h => h) (fun h => h), Only.of_below HB.out⟩
theorem kSnap_size : kSnap.size ≤ maxLen := by unfold maxLen; decide
theorem made_len {q : Int} {t : Bs} (hm : (madeP q t).2 = 0) : (ba (madeP q t).1).size ≤ maxLen := by
  have hl : (madeP q t).1.length ≤ 5000 := by
    unfold madeP
    split
    · exact Nat.zero_le _
    · rename_i h
      unfold layP at h ⊢
      split
      · exact Nat.zero_le _
      · rename_i h2
        show (frameP _).length ≤ 5000
        rw [frameP_len]
        have := numD_len 1 (2 * (numD (2 * q.toNat) ++ t).length) (by omega)
        omega
  rw [ba_size]; unfold maxLen; omega
theorem renewP_acts (D : Dk) (k s : ByteArray) : D.acts ≤ (renewP D k s).2.acts ∧ (renewP D k s).2.acts ≤ D.acts + 3 := by
  have h1 := Dk.append_acts D kNew s
  have h2 := Dk.sync_acts (D.append kNew s).2 kNew
  have h3 := Dk.rename_acts ((D.append kNew s).2.sync kNew).2 kNew k
  unfold renewP
  split
  · omega
  · split
    · omega
    · omega
theorem renewP_ok {D : Dk} (h : D.Ok) (ha : D.acts + 3 < 4611686018427387904) (k s : ByteArray) : (renewP D k s).2.Ok := by
  have h1 := Dk.append_acts D kNew s
  have h2 := Dk.sync_acts (D.append kNew s).2 kNew
  have o1 := Dk.append_ok h (by omega) kNew s
  have o2 := Dk.sync_ok o1 (by omega) kNew
  have o3 := Dk.rename_ok o2 (by omega) kNew k
  unfold renewP
  split
  · exact o1
  · split
    · exact o2
    · exact o3
set_option maxHeartbeats 4000000 in
set_option maxRecDepth 100000 in
theorem checkW_go (bw b mb q : Nat) (D : Dk) (t : ByteArray) (w : World) (hw : WlIs w bw b ⟨q, 0⟩) (hd : DiskIs w b mb D) (hD : D.Ok) (ha : D.acts + 4 < 4611686018427387904) (hq : q ≤ 1099511627777) (ht : t.size ≤ 90000) (hg : ErrTab w)
    (hn1 : bw ≠ b) (hn2 : bw ≠ mb) (g0 : bw ≠ 0) (g1 : b ≠ 0) (g2 : mb ≠ 0) (hm : (madeP (q : Int) (bs t)).2 = 0) :
    Calls Tryz.prog 13 #[.pointer (some ⟨bw, 0, none⟩), .string t] w (WPost bw b mb w (checkP ⟨q, 0⟩ D (bs t))) := by
  have M := Lib.hid (fun W => made_any q (by omega) t ht W)
  have hln := made_len hm
  unfold checkP
  rw [if_neg (by simp)]
  dsimp only
  rw [if_neg (by rw [hm]; simp)]
  generalize madeP (q : Int) (bs t) = R at *
  obtain ⟨r1, r2⟩ := R
  obtain rfl : r2 = 0 := hm
  dsimp only at M hln ⊢
  have RN := fun W (hW : DiskIs W b mb D) => renew_any b mb D kSnap (ba r1) W hW hD (by omega) kSnap_size hln
  have k1 := renewP_ok hD (by omega) kSnap (ba r1)
  have q1 := (renewP_acts D kSnap (ba r1)).2
  generalize renewP D kSnap (ba r1) = R1 at *
  obtain ⟨n1, D1⟩ := R1
  dsimp only at RN k1 q1 ⊢
  have c0 : w.cell? ⟨bw, 0, none⟩ = some (.pointer (some ⟨b, 0, none⟩)) := by simp [World.cell?, hw.blk]
  have c1 : w.cell? ⟨bw, 1, none⟩ = some (.int .i64 (q : Int)) := by simp [World.cell?, hw.blk]
  have c2 : w.cell? ⟨bw, 2, none⟩ = some (.int .i64 0) := by simp [World.cell?, hw.blk]
  have HW := Lib.hid hw
  have HD := Lib.hid hd
  have HG := Lib.hid hg
  have hnb : ¬ Own b mb bw := fun h => h.elim hn1 hn2
  have hgb : ¬ Own b mb 0 := fun h => h.elim (fun e => g1 e.symm) (fun e => g2 e.symm)
  have hlt := hw.lt
  by_cases h1 : n1 = 0
  · subst h1
    rw [if_neg (by simp)]
    have RN2 := Lib.hid (show ∀ W, DiskIs W b mb D → Calls Tryz.prog 38 #[.pointer (some ⟨b, 0, none⟩), .string kSnap, .string (ba r1)] W fun e w' => e = .returned .nilIface ∧ DiskIs w' b mb D1 ∧ Only (Own b mb) W w' from fun W hW => (RN W hW).mono fun e w' h => ⟨h.1.choose_spec, h.2.1, h.2.2⟩)
    have LS := Lib.hid (fun W (hW : DiskIs W b mb D1) => list_names b mb D1 W hW k1)
    have CN := Lib.hid (fun A c W (hn : NamesAt W (.slice A D1.files.length c) D1) => contains_names A c D1 kLog W k1 hn)
    by_cases hl : (aget D1.files kLog).isSome = true
    · rw [if_pos hl]
      rw [hl] at CN
      have A2 := Lib.hid (fun W (hW : DiskIs W b mb D1) => remove_any b mb D1 kLog W hW k1)
      generalize D1.remove kLog = R2 at *
      obtain ⟨n2, D2⟩ := R2
      dsimp only at A2 ⊢
      have F := Lib.hid (fun x W => failed_any x n2 W)
      have E1 := Lib.hid (fun W (hW : WlIs W bw b ⟨q, 0⟩) (hG : ErrTab W) => end_any bw b ⟨q, 0⟩ n2 (.one ⟨#[100, 114, 111, 112]⟩) W hW hG)
      clear hw hd hg hD k1 RN ha hl q1
      go_enter Tryz.func13, Tryz.ntmps13
      go_wp2_with (first
        | (go_at_call 37; refine (M.out _).mono ?_; rintro ev w1 ⟨rfl, hb⟩; have HO1 := Lib.hid (Only.of_below (S := fun _ => False) hb); have d0 : w1.cell? ⟨bw, 0, none⟩ = some (.pointer (some ⟨b, 0, none⟩)) := (HO1.out.cell hlt (fun h => h)).trans c0; clear hb)
        | (go_at_call 38; refine (RN2.out _ (HD.out.only HO1.out (fun h => h) (fun h => h))).mono ?_; rintro ev w2 ⟨rfl, hd, ho⟩; have HD2 := Lib.hid hd; have HO2 := Lib.hid (HO1.out.trans' ho (fun _ _ h => h.elim) (fun _ _ h => h)); have d2 : w2.cell? ⟨bw, 0, none⟩ = some (.pointer (some ⟨b, 0, none⟩)) := (HO2.out.cell hlt hnb).trans c0; clear hd ho)
        | (go_at_call 15; refine (LS.out _ HD2.out).mono ?_; rintro ev w3 ⟨A, c, rfl, hn, hb⟩; have HN := Lib.hid hn; have HB3 := Lib.hid hb; have HO3 := Lib.hid (HO2.out.then_below hb); clear hn hb)
        | (go_at_call 40; refine (CN.out A c _ HN.out).mono ?_; rintro ev w4 ⟨rfl, hb⟩; have HB4 := Lib.hid (HB3.out.trans (hb.mono HB3.out.size)); have HO4 := Lib.hid (HO3.out.then_below hb); have d4 : w4.cell? ⟨bw, 0, none⟩ = some (.pointer (some ⟨b, 0, none⟩)) := (HO4.out.cell hlt hnb).trans c0; clear hb)
        | (go_at_call 42; refine (A2.out _ (HD2.out.only (Only.of_below (S := fun _ => False) HB4.out) (fun h => h) (fun h => h))).mono ?_; rintro ev w5 ⟨rfl, hd, ho⟩; have HD5 := Lib.hid hd; have HO5 := Lib.hid (HO4.out.trans ho); clear hd ho)
        | (go_at_call 41; refine (F.out _ _).mono ?_; rintro ev w6 ⟨rfl, hb⟩; have HD6 := Lib.hid (HD5.out.only (Only.of_below (S := fun _ => False) hb) (fun h => h) (fun h => h)); have HO6 := Lib.hid (HO5.out.then_below hb); clear hb)
        | (go_at_call 39; refine (E1.out _ (HW.out.only HO6.out hnb) (HG.out.only HO6.out hgb)).mono ?_; rintro ev w7 ⟨rfl, hw7, ho7⟩; have HW7 := Lib.hid hw7; have HO7 := Lib.hid (show Only (WOwn bw b mb) w w7 from HO6.out.trans' ho7 (fun _ _ h => .inr h) (fun _ _ h => .inl h)); have HD7 := Lib.hid (HD6.out.only ho7 (fun e => hn1 e.symm) (fun e => hn2 e.symm)); clear hw7 ho7))
      go_ret
      exact ⟨rfl, HW7.out, HD7.out, HO7.out⟩
    · rw [if_neg hl]
      have hl2 : (aget D1.files kLog).isSome = false := by simpa using hl
      rw [hl2] at CN
      clear hw hd hg hD k1 RN ha hl hl2 q1
      go_enter Tryz.func13, Tryz.ntmps13
      go_wp2_with (first
        | (go_at_call 37; refine (M.out _).mono ?_; rintro ev w1 ⟨rfl, hb⟩; have HO1 := Lib.hid (Only.of_below (S := fun _ => False) hb); have d0 : w1.cell? ⟨bw, 0, none⟩ = some (.pointer (some ⟨b, 0, none⟩)) := (HO1.out.cell hlt (fun h => h)).trans c0; clear hb)
        | (go_at_call 38; refine (RN2.out _ (HD.out.only HO1.out (fun h => h) (fun h => h))).mono ?_; rintro ev w2 ⟨rfl, hd, ho⟩; have HD2 := Lib.hid hd; have HO2 := Lib.hid (HO1.out.trans' ho (fun _ _ h => h.elim) (fun _ _ h => h)); have d2 : w2.cell? ⟨bw, 0, none⟩ = some (.pointer (some ⟨b, 0, none⟩)) := (HO2.out.cell hlt hnb).trans c0; clear hd ho)
        | (go_at_call 15; refine (LS.out _ HD2.out).mono ?_; rintro ev w3 ⟨A, c, rfl, hn, hb⟩; have HN := Lib.hid hn; have HB3 := Lib.hid hb; have HO3 := Lib.hid (HO2.out.then_below hb); clear hn hb)
        | (go_at_call 40; refine (CN.out A c _ HN.out).mono ?_; rintro ev w4 ⟨rfl, hb⟩; have HB4 := Lib.hid (HB3.out.trans (hb.mono HB3.out.size)); have HO4 := Lib.hid (HO3.out.then_below hb); clear hb))
      go_ret
      exact ⟨rfl, HW.out.only HO4.out hnb, HD2.out.only (Only.of_below (S := fun _ => False) HB4.out) (fun h => h) (fun h => h), HO4.out.mono (fun _ _ h => .inr h)⟩
  · rw [if_pos h1]
    have RN2 := Lib.hid (show ∀ W, DiskIs W b mb D → Calls Tryz.prog 38 #[.pointer (some ⟨b, 0, none⟩), .string kSnap, .string (ba r1)] W fun e w' => (∃ x, e = .returned (chV n1 (.one x))) ∧ DiskIs w' b mb D1 ∧ Only (Own b mb) W w' from fun W hW => (RN W hW).mono fun e w' h => ⟨h.1.elim fun x h2 => ⟨x, by unfold errV at h2; rw [if_neg h1] at h2; exact h2⟩, h.2.1, h.2.2⟩)
    have HE : ∀ c, errV n1 c = chV n1 c := fun c => by unfold errV; rw [if_neg h1]
    have HEH := Lib.hid HE
    have E1 := Lib.hid (fun c W (hW : WlIs W bw b ⟨q, 0⟩) (hG : ErrTab W) => end_any bw b ⟨q, 0⟩ n1 c W hW hG)
    clear hw hd hg hD k1 RN ha HE q1 h1
    go_enter Tryz.func13, Tryz.ntmps13
    go_wp2_with (first
      | (go_at_call 37; refine (M.out _).mono ?_; rintro ev w1 ⟨rfl, hb⟩; have HO1 := Lib.hid (Only.of_below (S := fun _ => False) hb); have d0 : w1.cell? ⟨bw, 0, none⟩ = some (.pointer (some ⟨b, 0, none⟩)) := (HO1.out.cell hlt (fun h => h)).trans c0; clear hb)
      | (go_at_call 38; refine (RN2.out _ (HD.out.only HO1.out (fun h => h) (fun h => h))).mono ?_; rintro ev w2 ⟨⟨x, rfl⟩, hd, ho⟩; have HD2 := Lib.hid hd; have HO2 := Lib.hid (HO1.out.trans' ho (fun _ _ h => h.elim) (fun _ _ h => h)); have d2 : w2.cell? ⟨bw, 0, none⟩ = some (.pointer (some ⟨b, 0, none⟩)) := (HO2.out.cell hlt hnb).trans c0; clear hd ho; unfold chV)
      | (go_at_call 39; have hx := E1.out (.two ⟨#[99, 104, 101, 99, 107, 112, 111, 105, 110, 116]⟩ x) _ (HW.out.only HO2.out hnb) (HG.out.only HO2.out hgb); rw [HEH.out] at hx; unfold chV at hx; refine hx.mono ?_; rintro ev w7 ⟨rfl, hw7, ho7⟩; have HW7 := Lib.hid hw7; have HO7 := Lib.hid (show Only (WOwn bw b mb) w w7 from HO2.out.trans' ho7 (fun _ _ h => .inr h) (fun _ _ h => .inl h)); have HD7 := Lib.hid (HD2.out.only ho7 (fun e => hn1 e.symm) (fun e => hn2 e.symm)); clear hx hw7 ho7))
    go_ret
    exact ⟨rfl, HW7.out, HD7.out, HO7.out⟩
/-- Checkpoint, whole. -/
theorem checkW_any (bw b mb q : Nat) (er : Int) (D : Dk) (t : ByteArray) (w : World) (hw : WlIs w bw b ⟨q, er⟩) (hd : DiskIs w b mb D) (hD : D.Ok) (ha : D.acts + 4 < 4611686018427387904) (hq : q ≤ 1099511627777) (ht : t.size ≤ 90000) (hg : ErrTab w)
    (hn1 : bw ≠ b) (hn2 : bw ≠ mb) (g0 : bw ≠ 0) (g1 : b ≠ 0) (g2 : mb ≠ 0) :
    Calls Tryz.prog 13 #[.pointer (some ⟨bw, 0, none⟩), .string t] w (WPost bw b mb w (checkP ⟨q, er⟩ D (bs t))) := by
  by_cases he : er = 0
  · subst he
    by_cases hm : (madeP (q : Int) (bs t)).2 = 0
    · exact checkW_go bw b mb q D t w hw hd hD ha hq ht hg hn1 hn2 g0 g1 g2 hm
    · exact checkW_long bw b mb q D t w hw hd hq ht hm
  · exact checkW_err bw b mb ⟨q, er⟩ D t w hw hd he
end Go.Proofs.YtlmnmjnmilaipaaGreatDoor

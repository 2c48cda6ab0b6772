/- DiskNames. -/
import Derived.Test.YtekkmfclaepcgaaDiskX
import Derived.Test.YtekkmfclaepcgaaDiskO
import Derived.OpenShut
set_option linter.unusedVariables false
namespace Go.Proofs.Ytekkmfclaepcgaa
open Go.RowKit

theorem sync_eq' {D D' : Dk} {r : Int} {name : ByteArray} {b mb : Nat} {w : World} (h : DiskIs w b mb D) (hD : D.Ok) (e : D.sync name = (r, D')) :
    Calls Try.prog 16 #[.pointer (some ⟨b, 0, none⟩), .string name] w fun e w' => e = .returned (.int .i64 r) ∧ DiskIs w' b mb D' ∧ Only (Own b mb) w w' := sync_eq e h hD
theorem rename_eq {D D' : Dk} {r : Int} {frm to : ByteArray} (e : D.rename frm to = (r, D')) {b mb : Nat} {w : World} (h : DiskIs w b mb D) (hD : D.Ok) (hl : to.size ≤ maxLen) :
    Calls Try.prog 20 #[.pointer (some ⟨b, 0, none⟩), .string frm, .string to] w fun e w' => e = .returned (.int .i64 r) ∧ DiskIs w' b mb D' ∧ Only (Own b mb) w w' := by
  have := rename_any b mb D frm to w h hD hl
  rw [e] at this
  exact this
theorem remove_eq {D D' : Dk} {r : Int} {name : ByteArray} (e : D.remove name = (r, D')) {b mb : Nat} {w : World} (h : DiskIs w b mb D) (hD : D.Ok) :
    Calls Try.prog 26 #[.pointer (some ⟨b, 0, none⟩), .string name] w fun e w' => e = .returned (.int .i64 r) ∧ DiskIs w' b mb D' ∧ Only (Own b mb) w w' := by
  have := remove_any b mb D name w h hD
  rw [e] at this
  exact this

def fa (s : ByteArray) (n : Nat) : Fl := [(⟨#[97]⟩, (s, n))]
def fb (s : ByteArray) (n : Nat) : Fl := [(⟨#[98]⟩, (s, n))]
def fab (s : ByteArray) (n : Nat) (t : ByteArray) (m : Nat) : Fl := [(⟨#[97]⟩, (s, n)), (⟨#[98]⟩, (t, m))]
theorem fa_ok (s : ByteArray) (n : Nat) (h : s.size ≤ 65536) (hn : n ≤ s.size) : FilesOk (fa s n) := ⟨by simp [fa]; rfl, by simpa [fa] using h, by simpa [fa] using hn, by simp [fa], by simp [fa]⟩
theorem fb_ok (s : ByteArray) (n : Nat) (h : s.size ≤ 65536) (hn : n ≤ s.size) : FilesOk (fb s n) := ⟨by simp [fb]; rfl, by simpa [fb] using h, by simpa [fb] using hn, by simp [fb], by simp [fb]⟩
theorem fab_ok (s : ByteArray) (n : Nat) (t : ByteArray) (m : Nat) (h : s.size ≤ 65536) (hn : n ≤ s.size) (h' : t.size ≤ 65536) (hm : m ≤ t.size) : FilesOk (fab s n t m) :=
  ⟨by simp [fab]; exact ⟨rfl, rfl⟩, by simpa [fab] using ⟨h, h'⟩, by simpa [fab] using ⟨hn, hm⟩, by simp [fab], by simp [fab]⟩

/-- What a Restart leaves of the one file. -/
def kept (one more : ByteArray) (keep : Int) : ByteArray := one ++ more.extract 0 (keepOf keep % ((more.size : Int) + 1)).toNat
theorem refiles_fb (one more : ByteArray) (keep : Int) : refiles [keep] [⟨#[98]⟩] (fb (one ++ more) one.size) 1 = fb (kept one more keep) (kept one more keep).size := by
  have e : cutTo (one ++ more, one.size) keep = (kept one more keep, (kept one more keep).size) := by
    unfold cutTo kept
    have h1 : (((one ++ more).size : Int) - (one.size : Int) + 1) = (more.size : Int) + 1 := by rw [ByteArray.size_append]; omega
    simp only [h1, append_extract]
  show restep [keep] (fb (one ++ more) one.size) 0 ⟨#[98]⟩ = _
  unfold restep
  rw [show aget (fb (one ++ more) one.size) ⟨#[98]⟩ = some (one ++ more, one.size) from rfl]
  simp only [List.getD_cons_zero, e]
  rfl

theorem cut_size (s : ByteArray) : (s.extract 0 (min (s.size : Int) 500).toNat).size ≤ 500 := by
  rw [ByteArray.size_extract]
  omega
theorem pickOf_bound (c n : Int) (hn : 0 < n) : 0 ≤ pickOf c n ∧ pickOf c n < n := ⟨Int.emod_nonneg _ (by omega), Int.emod_lt_of_pos _ hn⟩

set_option maxHeartbeats 2000000 in
set_option maxRecDepth 100000 in
theorem diskNames_any (one more other : ByteArray) (both : Bool) (keep : Int) (w : World) (l1 : one.size ≤ maxLen) (l2 : more.size ≤ maxLen) (l3 : other.size ≤ maxLen) (h1 : -9223372036854775808 ≤ keep) (h2 : keep ≤ 9223372036854775807) :
    Calls Try.prog 6 #[.string one, .string more, .string other, .bool both, .int .i64 keep] w fun e w' => e = .returned (.bool true) ∧ Below w.heap.size w w' := by
  unfold maxLen at l1 l2 l3
  go_enter Try.func6, Try.ntmps6
  go_wp2_with fail
  refine (awake_any _).mono ?_
  rintro e w1 ⟨rfl, hb1⟩
  have HB1 := Lib.hid hb1
  clear hb1
  go_wp2_with fail
  refine (new_any _).mono ?_
  rintro e w2 ⟨rfl, hw2⟩
  have hd2 := DiskIs.made w1
  have ho2 : Only (fun k => w.heap.size ≤ k) w w2 := by rw [hw2]; exact ((Only.of_below HB1.out).alloc _).alloc _
  have hs1 := HB1.out.size
  rw [← hw2] at hd2
  have HD2 := Lib.hid hd2
  have HO2 := Lib.hid ho2
  clear hw2 hd2 ho2
  obtain ⟨mb, hmb⟩ : ∃ mb, mb = w1.heap.size := ⟨_, rfl⟩
  rw [← hmb] at HD2 ⊢
  have hmb1 : w.heap.size ≤ mb := by omega
  have own : ∀ k, Own (mb + 1) mb k → w.heap.size ≤ k := by rintro k (h | h) <;> omega
  have HOWN := Lib.hid own
  clear own hmb hs1
  go_wp2_with fail
  have sa := cut_size one
  have sb := cut_size more
  have so := cut_size other
  generalize one.extract 0 (min (one.size : Int) 500).toNat = A at *
  generalize more.extract 0 (min (more.size : Int) 500).toNat = B at *
  have sab : (A ++ B).size = A.size + B.size := ByteArray.size_append
  have SAB := Lib.hid sab
  clear sab
  refine (append_eq (D' := free (fa A 0) 1) (free_append_none (fs := []) (n := 0) rfl rfl (by decide) (by omega)) HD2.out Dk.new_ok (by decide) (by unfold maxLen; omega)).mono ?_
  rintro e w3 ⟨rfl, hd3, ho3⟩
  have HD3 := Lib.hid hd3
  have HO3 := Lib.hid (HO2.out.trans (ho3.mono fun k _ h => HOWN.out k h))
  clear hd3 ho3
  go_wp2_with fail
  refine (sync_eq (D' := free (fa A A.size) 2) (free_sync_some (fs := fa A 0) (n := 1) (f := (A, 0)) rfl) HD3.out (free_ok (fa_ok A 0 (by omega) (by omega)) (by decide))).mono ?_
  rintro e w4 ⟨rfl, hd4, ho4⟩
  have HD4 := Lib.hid hd4
  have HO4 := Lib.hid (HO3.out.trans (ho4.mono fun k _ h => HOWN.out k h))
  clear hd4 ho4
  go_wp2_with fail
  refine (append_eq (D' := free (fa (A ++ B) A.size) 3) (free_append_some (fs := fa A A.size) (n := 2) (f := (A, A.size)) rfl rfl (by show A.size + B.size ≤ 65536; omega)) HD4.out (free_ok (fa_ok A A.size (by omega) (by omega)) (by decide)) (by decide) (by unfold maxLen; omega)).mono ?_
  rintro e w5 ⟨rfl, hd5, ho5⟩
  have HD5 := Lib.hid hd5
  have HO5 := Lib.hid (HO4.out.trans (ho5.mono fun k _ h => HOWN.out k h))
  clear hd5 ho5
  have okA : FilesOk (fa (A ++ B) A.size) := fa_ok _ _ (by rw [SAB.out]; omega) (by rw [SAB.out]; omega)
  have OKA := Lib.hid okA
  have okB : FilesOk (fb (A ++ B) A.size) := fb_ok _ _ (by rw [SAB.out]; omega) (by rw [SAB.out]; omega)
  have OKB := Lib.hid okB
  clear okA okB
  cases both
  · skip
    go_wp2_with fail
    refine (rename_eq (D' := free (fb (A ++ B) A.size) 4) (free_rename_some (fs := fa (A ++ B) A.size) (n := 3) (f := (A ++ B, A.size)) rfl rfl) HD5.out (free_ok OKA.out (by decide)) (by decide)).mono ?_
    rintro e w6 ⟨rfl, hd6, ho6⟩
    have HD6 := Lib.hid hd6
    have HO6 := Lib.hid (HO5.out.trans (ho6.mono fun k _ h => HOWN.out k h))
    clear hd6 ho6
    have names : ((free (fb (A ++ B) A.size) 4).snames) = [⟨#[98]⟩] := snames_one _ _ _
    have NAMES := Lib.hid names
    clear names
    go_wp2_with fail
    refine (list_S (mb + 1) mb _ _ HD6.out (free_ok OKB.out (by decide))).mono ?_
    rintro e wl ⟨LA, lc, rfl, hr, hbl⟩
    rw [NAMES.out] at hr
    have HR := Lib.hid hr
    have HDl := Lib.hid (HD6.out.only (Only.of_below (S := fun _ => False) hbl) (fun x => x) (fun x => x))
    have HOl := Lib.hid (HO6.out.trans (Only.of_below hbl))
    clear hr hbl
    have hcb := World.cell?_alloc_at (w := wl) #[.string ⟨#[98]⟩] 9 wl.heap.size 0 rfl
    have HS := Lib.hid (same_any LA (some ⟨wl.heap.size, 0, none⟩) lc 1 [⟨#[98]⟩] [⟨#[98]⟩] (wl.alloc (.cells #[.string ⟨#[98]⟩] 9)) (HR.out.only ((Only.refl (fun _ => False) wl).alloc _) (fun _ _ x => x)) (fun i hi => ⟨wl.heap.size, 0, rfl, by
      have : i = 0 := by simp at hi; omega
      subst this
      exact hcb⟩) (by decide) (by decide))
    clear hcb
    go_wp2_with fail
    refine HS.out.mono ?_
    rintro e ws ⟨rfl, hos⟩
    have HDs := Lib.hid ((HDl.out.alloc _).only hos (fun x => x) (fun x => x))
    have HOs := Lib.hid ((HOl.out.alloc _).trans' hos (fun _ _ h => h) (fun _ _ h => h.elim))
    clear hos HS
    go_wp2_with fail
    refine (read_eq (free_read_some (fs := fb (A ++ B) A.size) (n := 4) (f := (A ++ B, A.size)) rfl) HDs.out).mono ?_
    rintro e wa ⟨rfl, hda, hoa⟩
    have HDa := Lib.hid hda
    have HOa := Lib.hid (HOs.out.trans (hoa.mono fun k _ h => HOWN.out k h))
    clear hda hoa
    go_wp2_with fail
    refine (read_eq (free_read_none (fs := fb (A ++ B) A.size) (n := 4) rfl) HDa.out).mono ?_
    rintro e wb ⟨rfl, hdb, hob⟩
    have HDb := Lib.hid hdb
    have HOb := Lib.hid (HOa.out.trans (hob.mono fun k _ h => HOWN.out k h))
    clear hdb hob
    have hlt := HDb.out.lt
    have hre : (free (fb (A ++ B) A.size) 4).restart [keep] = free (fb (kept A B keep) (kept A B keep).size) 4 := by
      rw [free_restart, show (free (fb (A ++ B) A.size) 0).snames = [⟨#[98]⟩] from snames_one _ _ _]
      exact congrArg (fun x => free x 4) (refiles_fb A B keep)
    have hck := World.cell?_alloc_at (w := wb) #[.int .i64 keep] 3 wb.heap.size 0 rfl
    have HT := Lib.hid (restart_eq (c := 1) (n := 1) (A := some ⟨wb.heap.size, 0, none⟩) hre rfl (HDb.out.alloc (.cells #[.int .i64 keep] 3)) (free_ok OKB.out (by decide)) (fun ad h _ => by cases h; show wb.heap.size ≠ _; omega) ⟨fun i hi => by
      have : i = 0 := by simp at hi; omega
      subst this
      exact ⟨_, _, rfl, hck⟩, by unfold maxLen; simp, by simpa using ⟨h1, h2⟩⟩)
    clear hck hre
    go_wp2_with fail
    refine HT.out.mono ?_
    rintro e wc ⟨rfl, hdc, hoc⟩
    have HDc := Lib.hid hdc
    have HOc := Lib.hid ((HOb.out.alloc _).trans (hoc.mono fun k _ h => HOWN.out k h))
    clear hdc hoc HT
    go_wp2_with fail
    refine (read_eq (free_read_some (fs := fb (kept A B keep) (kept A B keep).size) (n := 4) (f := (kept A B keep, (kept A B keep).size)) rfl) HDc.out).mono ?_
    rintro e wd ⟨rfl, hdd, hod⟩
    have HDd := Lib.hid hdd
    have HOd := Lib.hid (HOc.out.trans (hod.mono fun k _ h => HOWN.out k h))
    clear hdd hod
    go_wp2_with fail
    refine (pick_any keep ((B.size : Int) + 1) wd h1 h2 (by omega) (by omega)).mono ?_
    rintro e we ⟨rfl, rfl⟩
    have hp := pickOf_bound keep ((B.size : Int) + 1) (by omega)
    have hkept : kept A B keep = A ++ B.extract 0 (pickOf keep ((B.size : Int) + 1)).toNat := rfl
    obtain ⟨hp0, hp1⟩ := hp
    have HKE := Lib.hid hkept
    clear hkept
    generalize pickOf keep ((B.size : Int) + 1) = pk at *
    rw [HKE.out]
    go_wp2
    go_ret
    exact ⟨ret_bool (by simp), HOd.out.below (Nat.le_refl _) (fun k hk h => by omega)⟩
  · skip
    have so2 := so
    go_wp2_with fail
    generalize other.extract 0 (min (other.size : Int) 500).toNat = C at *
    have okC : FilesOk (fab (A ++ B) A.size C 0) := fab_ok _ _ _ _ (by rw [SAB.out]; omega) (by rw [SAB.out]; omega) (by omega) (by omega)
    have okD : FilesOk (fab (A ++ B) A.size C C.size) := fab_ok _ _ _ _ (by rw [SAB.out]; omega) (by rw [SAB.out]; omega) (by omega) (by omega)
    have OKC := Lib.hid okC
    have OKD := Lib.hid okD
    clear okC okD
    refine (append_eq (D' := free (fab (A ++ B) A.size C 0) 4) (free_append_none (fs := fa (A ++ B) A.size) (n := 3) rfl rfl (by simp [fa]) (by omega)) HD5.out (free_ok OKA.out (by decide)) (by decide) (by unfold maxLen; omega)).mono ?_
    rintro e w6 ⟨rfl, hd6, ho6⟩
    have HD6 := Lib.hid hd6
    have HO6 := Lib.hid (HO5.out.trans (ho6.mono fun k _ h => HOWN.out k h))
    clear hd6 ho6
    go_wp2_with fail
    refine (sync_eq (D' := free (fab (A ++ B) A.size C C.size) 5) (free_sync_some (fs := fab (A ++ B) A.size C 0) (n := 4) (f := (C, 0)) rfl) HD6.out (free_ok OKC.out (by decide))).mono ?_
    rintro e w7 ⟨rfl, hd7, ho7⟩
    have HD7 := Lib.hid hd7
    have HO7 := Lib.hid (HO6.out.trans (ho7.mono fun k _ h => HOWN.out k h))
    clear hd7 ho7
    go_wp2_with fail
    refine (rename_eq (D' := free (fb (A ++ B) A.size) 6) (free_rename_some (fs := fab (A ++ B) A.size C C.size) (n := 5) (f := (A ++ B, A.size)) rfl rfl) HD7.out (free_ok OKD.out (by decide)) (by decide)).mono ?_
    rintro e w8 ⟨rfl, hd8, ho8⟩
    have HD8 := Lib.hid hd8
    have HO8 := Lib.hid (HO7.out.trans (ho8.mono fun k _ h => HOWN.out k h))
    clear hd8 ho8
    have names : ((free (fb (A ++ B) A.size) 6).snames) = [⟨#[98]⟩] := snames_one _ _ _
    have NAMES := Lib.hid names
    clear names
    go_wp2_with fail
    refine (list_S (mb + 1) mb _ _ HD8.out (free_ok OKB.out (by decide))).mono ?_
    rintro e wl ⟨LA, lc, rfl, hr, hbl⟩
    rw [NAMES.out] at hr
    have HR := Lib.hid hr
    have HDl := Lib.hid (HD8.out.only (Only.of_below (S := fun _ => False) hbl) (fun x => x) (fun x => x))
    have HOl := Lib.hid (HO8.out.trans (Only.of_below hbl))
    clear hr hbl
    have hcb := World.cell?_alloc_at (w := wl) #[.string ⟨#[98]⟩] 9 wl.heap.size 0 rfl
    have HS := Lib.hid (same_any LA (some ⟨wl.heap.size, 0, none⟩) lc 1 [⟨#[98]⟩] [⟨#[98]⟩] (wl.alloc (.cells #[.string ⟨#[98]⟩] 9)) (HR.out.only ((Only.refl (fun _ => False) wl).alloc _) (fun _ _ x => x)) (fun i hi => ⟨wl.heap.size, 0, rfl, by
      have : i = 0 := by simp at hi; omega
      subst this
      exact hcb⟩) (by decide) (by decide))
    clear hcb
    go_wp2_with fail
    refine HS.out.mono ?_
    rintro e ws ⟨rfl, hos⟩
    have HDs := Lib.hid ((HDl.out.alloc _).only hos (fun x => x) (fun x => x))
    have HOs := Lib.hid ((HOl.out.alloc _).trans' hos (fun _ _ h => h) (fun _ _ h => h.elim))
    clear hos HS
    go_wp2_with fail
    refine (read_eq (free_read_some (fs := fb (A ++ B) A.size) (n := 6) (f := (A ++ B, A.size)) rfl) HDs.out).mono ?_
    rintro e wa ⟨rfl, hda, hoa⟩
    have HDa := Lib.hid hda
    have HOa := Lib.hid (HOs.out.trans (hoa.mono fun k _ h => HOWN.out k h))
    clear hda hoa
    go_wp2_with fail
    refine (read_eq (free_read_none (fs := fb (A ++ B) A.size) (n := 6) rfl) HDa.out).mono ?_
    rintro e wb ⟨rfl, hdb, hob⟩
    have HDb := Lib.hid hdb
    have HOb := Lib.hid (HOa.out.trans (hob.mono fun k _ h => HOWN.out k h))
    clear hdb hob
    have hlt := HDb.out.lt
    have hre : (free (fb (A ++ B) A.size) 6).restart [keep] = free (fb (kept A B keep) (kept A B keep).size) 6 := by
      rw [free_restart, show (free (fb (A ++ B) A.size) 0).snames = [⟨#[98]⟩] from snames_one _ _ _]
      exact congrArg (fun x => free x 6) (refiles_fb A B keep)
    have hck := World.cell?_alloc_at (w := wb) #[.int .i64 keep] 3 wb.heap.size 0 rfl
    have HT := Lib.hid (restart_eq (c := 1) (n := 1) (A := some ⟨wb.heap.size, 0, none⟩) hre rfl (HDb.out.alloc (.cells #[.int .i64 keep] 3)) (free_ok OKB.out (by decide)) (fun ad h _ => by cases h; show wb.heap.size ≠ _; omega) ⟨fun i hi => by
      have : i = 0 := by simp at hi; omega
      subst this
      exact ⟨_, _, rfl, hck⟩, by unfold maxLen; simp, by simpa using ⟨h1, h2⟩⟩)
    clear hck hre
    go_wp2_with fail
    refine HT.out.mono ?_
    rintro e wc ⟨rfl, hdc, hoc⟩
    have HDc := Lib.hid hdc
    have HOc := Lib.hid ((HOb.out.alloc _).trans (hoc.mono fun k _ h => HOWN.out k h))
    clear hdc hoc HT
    go_wp2_with fail
    refine (read_eq (free_read_some (fs := fb (kept A B keep) (kept A B keep).size) (n := 6) (f := (kept A B keep, (kept A B keep).size)) rfl) HDc.out).mono ?_
    rintro e wd ⟨rfl, hdd, hod⟩
    have HDd := Lib.hid hdd
    have HOd := Lib.hid (HOc.out.trans (hod.mono fun k _ h => HOWN.out k h))
    clear hdd hod
    go_wp2_with fail
    refine (pick_any keep ((B.size : Int) + 1) wd h1 h2 (by omega) (by omega)).mono ?_
    rintro e we ⟨rfl, rfl⟩
    have hp := pickOf_bound keep ((B.size : Int) + 1) (by omega)
    have hkept : kept A B keep = A ++ B.extract 0 (pickOf keep ((B.size : Int) + 1)).toNat := rfl
    obtain ⟨hp0, hp1⟩ := hp
    have HKE := Lib.hid hkept
    clear hkept
    generalize pickOf keep ((B.size : Int) + 1) = pk at *
    rw [HKE.out]
    go_wp2
    go_ret
    exact ⟨ret_bool (by simp), HOd.out.below (Nat.le_refl _) (fun k hk h => by omega)⟩

theorem diskNames_walk (a0 : ByteArray) (w0 : a0.size ≤ maxLen) (a1 : ByteArray) (w1 : a1.size ≤ maxLen) (a2 : ByteArray) (w2 : a2.size ≤ maxLen) (a3 : Bool) (a4 : Int) (w4 : (Lit.int .i64 a4).wf = true) (w : World) :
    Calls Try.prog 6 #[.string a0, .string a1, .string a2, .bool a3, .int .i64 a4] w fun e w' => e = .returned (.bool true) ∧ Below w.heap.size w w' := by
  have b4 := bounds_i64 w4
  exact diskNames_any a0 a1 a2 a3 a4 w w0 w1 w2 b4.1 b4.2
end Go.Proofs.Ytekkmfclaepcgaa

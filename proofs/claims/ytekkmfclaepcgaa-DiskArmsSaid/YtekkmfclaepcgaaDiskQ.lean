/- DiskArms. -/
import Derived.Test.YtekkmfclaepcgaaDiskX
import Derived.Test.YtekkmfclaepcgaaDiskP
import Derived.Test.YtekkmfclaepcgaaOpens
set_option linter.unusedVariables false
namespace Go.Proofs.Ytekkmfclaepcgaa
open Go.RowKit

theorem pick_range (c n : Int) (hn : 0 < n) : 0 ≤ pickOf c n ∧ pickOf c n < n := ⟨Int.emod_nonneg _ (by omega), Int.emod_lt_of_pos _ hn⟩
theorem cut5 (s : ByteArray) : (s.extract 0 (min (s.size : Int) 500).toNat).size ≤ 500 := by
  rw [ByteArray.size_extract]
  omega

set_option maxHeartbeats 2000000 in
set_option maxRecDepth 100000 in
theorem diskArms_any (A : Option Addr) (cp : Nat) (xs : List ByteArray) (n : Int) (w : World) (hx : ReadsS w A xs) (hs : ∀ x ∈ xs, x.size ≤ maxLen) (hl : xs.length ≤ maxLen) (h1 : -9223372036854775808 ≤ n) (h2 : n ≤ 9223372036854775807) :
    Calls Try.prog 5 #[.slice A xs.length cp, .int .i64 n] w fun e w' => e = .returned (.bool true) ∧ Below w.heap.size w w' := by
  obtain ⟨p0, p1⟩ := pick_range n 40 (by decide)
  have HP := Lib.hid (pick_any n 40 · h1 h2 (by decide) (by decide))
  have HX := Lib.hid hx
  have HS := Lib.hid hs
  unfold maxLen at hl
  generalize pickOf n 40 = P at *
  obtain ⟨N, hN⟩ : ∃ N : Nat, (1 + P : Int) = N := ⟨(1 + P).toNat, by omega⟩
  have hN1 : 1 ≤ N := by omega
  have hN2 : N ≤ 40 := by omega
  clear hx hs
  go_enter Try.func5, Try.ntmps5
  go_wp2_with fail
  refine (awake_any _).mono ?_
  rintro e w1 ⟨rfl, hb1⟩
  have HB1 := Lib.hid hb1
  clear hb1
  go_wp2_with fail
  refine (new_any _).mono ?_
  rintro e w2 ⟨rfl, hw2⟩
  have hd2 := DiskIs.made w1
  have ho2 : Only (fun k => w.heap.size ≤ k) w w2 := by rw [hw2]; exact ((Only.of_below HB1.out).alloc _).alloc _
  have hs1 := HB1.out.size
  rw [← hw2] at hd2
  have HD2 := Lib.hid hd2
  have HO2 := Lib.hid ho2
  clear hw2 hd2 ho2
  obtain ⟨mb, hmb⟩ : ∃ mb, mb = w1.heap.size := ⟨_, rfl⟩
  rw [← hmb] at HD2 ⊢
  have hmb1 : w.heap.size ≤ mb := by omega
  have own : ∀ k, Own (mb + 1) mb k → w.heap.size ≤ k := by rintro k (h | h) <;> omega
  have HOWN := Lib.hid own
  clear own hmb hs1
  go_wp2_with fail
  refine (HP.out _).mono ?_
  rintro e w2' ⟨rfl, rfl⟩
  go_wp2_with fail
  clear hN p0 p1
  have ha : Dk.new.arm (N : Int) = (0, ⟨[], 0, N, false⟩) := by
    unfold Dk.arm
    rw [if_neg (by omega), if_pos (by omega)]
    simp [Dk.new]
  refine (arm_eq ha HD2.out Dk.new_ok (by omega) (by omega)).mono ?_
  rintro e w3 ⟨rfl, hd3, ho3⟩
  have HD3 := Lib.hid hd3
  have HO3 := Lib.hid (HO2.out.trans (ho3.mono fun k _ h => HOWN.out k h))
  have HI := Lib.hid (show ArmInv N 0 ⟨[], 0, N, false⟩ ⟨#[]⟩ from ⟨⟨by simp, by simp, by simp, by simp, by simp, by show 0 < _; omega, by show N < _; omega⟩, Nat.zero_le _, rfl, .inl ⟨rfl, rfl, by omega, by decide, .inl ⟨rfl, rfl, rfl⟩⟩⟩)
  clear hd3 ho3 ha
  go_wp2_with fail
  go_loopw [7, 8, 9] (fun su dn i wr => ∃ (k : Nat) (D : Dk) (S : ByteArray), k ≤ xs.length ∧ k ≤ 60 ∧ i = .int .i64 k ∧ dn = .int .i64 (2 * k : Nat) ∧ su = .string S ∧ ArmInv N k D S ∧ DiskIs wr (mb + 1) mb D ∧ Only (fun k => w.heap.size ≤ k) w wr) (fun _ _ i _ => 60 - (intOf i).toNat)
  case atStart => exact ⟨0, _, _, Nat.zero_le _, by omega, rfl, rfl, rfl, HI.out, HD3.out, HO3.out⟩
  case round =>
    obtain ⟨k, D, S, hk, hk60, rfl, rfl, rfl, hI, hd, ho⟩ := hrel
    have hSs := arm_size hI
    have HIk := Lib.hid hI
    have HDk := Lib.hid hd
    have HOk := Lib.hid ho
    clear hI hd ho
    by_cases hlt : k < xs.length ∧ k < 60
    · obtain ⟨hlt1, hlt2⟩ := hlt
      obtain ⟨bk, off, rfl, hc⟩ := HX.out k hlt1
      have lb0 := World.block_lt_of_cell? w _ hc
      simp only at lb0
      have hc2 := (HOk.out.cell (p := ⟨bk, off + k, none⟩) lb0 (by simp; omega)).trans hc
      have hsz := HS.out (xs.getD k ⟨#[]⟩) (by rw [List.getD_eq_getElem?_getD, List.getElem?_eq_getElem hlt1]; exact List.getElem_mem hlt1)
      generalize xs.getD k ⟨#[]⟩ = tx at hc hc2 hsz
      clear hc
      unfold maxLen at hsz
      have lb2 := World.block_lt_of_cell? wr _ hc2
      simp only at lb2
      go_wp2
      go_region
      go_wp2_with fail
      have hts := cut5 tx
      generalize tx.extract 0 (min (tx.size : Int) 500).toNat = t at *
      clear hc2 hsz
      rcases Nat.lt_trichotomy (2 * k + 2) N with c | c | c
      · skip
        obtain ⟨e0, f0, D1, D2, ha1, ha2, hok1, he0, hf0, hoff, hinv⟩ := arm_step HIk.out hN2 hts
        rw [if_pos (by omega)] at he0 hf0 hinv
        have hoff : D2.off = false := by rw [hoff]; simp; omega
        subst he0 hf0
        have HI2 := Lib.hid hinv
        have HOFF := Lib.hid hoff
        clear hinv hoff
        go_wp2_with fail
        refine (append_eq ha1 HDk.out.drew HIk.out.ok (by decide) (by unfold maxLen; omega)).mono ?_
        rintro e wa ⟨rfl, hda, hoa⟩
        have HDa := Lib.hid hda
        have HOa := Lib.hid (HOk.out.drew.trans (hoa.mono fun k _ h => HOWN.out k h))
        clear hda hoa ha1
        go_wp2_with fail
        refine (sync_eq ha2 HDa.out hok1).mono ?_
        rintro e wb ⟨rfl, hdb, hob⟩
        have HDb := Lib.hid hdb
        have HOb := Lib.hid (HOa.out.trans (hob.mono fun k _ h => HOWN.out k h))
        have hc3 := HDb.out.c3
        rw [HOFF.out] at hc3
        clear hdb hob ha2 hok1 HOFF
        go_wp2
        go_roundw
        case rel => exact ⟨k + 1, D2, _, by omega, by omega, by go_num, by go_num, rfl, HI2.out, HDb.out, HOb.out⟩
        case measure => simp [intOf]; omega
      · skip
        obtain ⟨e0, f0, D1, D2, ha1, ha2, hok1, he0, hf0, hoff, hinv⟩ := arm_step HIk.out hN2 hts
        rw [if_pos (by omega)] at he0
        rw [if_neg (by omega)] at hf0 hinv
        have hoff : D2.off = true := by rw [hoff]; simp; omega
        subst he0 hf0
        have HI2 := Lib.hid hinv
        have HOFF := Lib.hid hoff
        clear hinv hoff
        go_wp2_with fail
        refine (append_eq ha1 HDk.out.drew HIk.out.ok (by decide) (by unfold maxLen; omega)).mono ?_
        rintro e wa ⟨rfl, hda, hoa⟩
        have HDa := Lib.hid hda
        have HOa := Lib.hid (HOk.out.drew.trans (hoa.mono fun k _ h => HOWN.out k h))
        clear hda hoa ha1
        go_wp2_with fail
        refine (sync_eq ha2 HDa.out hok1).mono ?_
        rintro e wb ⟨rfl, hdb, hob⟩
        have HDb := Lib.hid hdb
        have HOb := Lib.hid (HOa.out.trans (hob.mono fun k _ h => HOWN.out k h))
        have hc3 := HDb.out.c3
        rw [HOFF.out] at hc3
        clear hdb hob ha2 hok1 HOFF
        go_wp2
        go_roundw
        case rel => exact ⟨k + 1, D2, _, by omega, by omega, by go_num, by go_num, rfl, HI2.out, HDb.out, HOb.out⟩
        case measure => simp [intOf]; omega
      · rcases Nat.lt_or_ge (2 * k + 1) N with c' | c'
        · omega
        · skip
          obtain ⟨e0, f0, D1, D2, ha1, ha2, hok1, he0, hf0, hoff, hinv⟩ := arm_step HIk.out hN2 hts
          rw [if_neg (by omega)] at he0 hf0 hinv
          have hoff : D2.off = true := by rw [hoff]; simp; omega
          subst he0 hf0
          have HI2 := Lib.hid hinv
          have HOFF := Lib.hid hoff
          clear hinv hoff
          go_wp2_with fail
          refine (append_eq ha1 HDk.out.drew HIk.out.ok (by decide) (by unfold maxLen; omega)).mono ?_
          rintro e wa ⟨rfl, hda, hoa⟩
          have HDa := Lib.hid hda
          have HOa := Lib.hid (HOk.out.drew.trans (hoa.mono fun k _ h => HOWN.out k h))
          clear hda hoa ha1
          go_wp2_with fail
          refine (sync_eq ha2 HDa.out hok1).mono ?_
          rintro e wb ⟨rfl, hdb, hob⟩
          have HDb := Lib.hid hdb
          have HOb := Lib.hid (HOa.out.trans (hob.mono fun k _ h => HOWN.out k h))
          have hc3 := HDb.out.c3
          rw [HOFF.out] at hc3
          clear hdb hob ha2 hok1 HOFF
          go_wp2
          go_roundw
          case rel => exact ⟨k + 1, D2, _, by omega, by omega, by go_num, by go_num, rfl, HI2.out, HDb.out, HOb.out⟩
          case measure => simp [intOf]; omega
    · have hend := arm_end HIk.out
      obtain ⟨hE1, hE2⟩ := hend
      have HE1 := Lib.hid hE1
      have hr0 : ReadsI wr none [] := ⟨fun i hi => absurd hi (by simp), by decide, by simp⟩
      have HR := Lib.hid (restart_eq (c := 0) (n := 0) (A := none) (keep := []) rfl rfl HDk.out HIk.out.ok (fun ad h => by cases h) hr0)
      clear hE1 hr0
      have hge : xs.length ≤ k ∨ 60 ≤ k := by omega
      have HOKR := Lib.hid (Dk.restart_ok HIk.out.ok [])
      clear hlt
      rcases hE2 with hE2 | ⟨hE2, rfl⟩
      · by_cases hkl : k < xs.length
        · have HE2 := Lib.hid hE2
          clear hE2
          go_wp2_with fail
          refine HR.out.mono ?_
          rintro e wr2 ⟨rfl, hdr, hor⟩
          have HDr := Lib.hid hdr
          have HOr := Lib.hid (HOk.out.trans (hor.mono fun k _ h => HOWN.out k h))
          clear hdr hor HR
          go_wp2_with fail
          refine (read_eq HE2.out HDr.out).mono ?_
          rintro e ws ⟨rfl, hds, hos⟩
          have HDs := Lib.hid hds
          have HOs := Lib.hid (HOr.out.trans (hos.mono fun k _ h => HOWN.out k h))
          have hc3 := HDs.out.c3
          rw [HE1.out] at hc3
          clear hds hos
          go_wp2
          go_ret
          exact ⟨ret_bool (by simp), HOs.out.below (Nat.le_refl _) (fun k hk h => by omega)⟩
        · have HE2 := Lib.hid hE2
          clear hE2
          go_wp2_with fail
          refine HR.out.mono ?_
          rintro e wr2 ⟨rfl, hdr, hor⟩
          have HDr := Lib.hid hdr
          have HOr := Lib.hid (HOk.out.trans (hor.mono fun k _ h => HOWN.out k h))
          clear hdr hor HR
          go_wp2_with fail
          refine (read_eq HE2.out HDr.out).mono ?_
          rintro e ws ⟨rfl, hds, hos⟩
          have HDs := Lib.hid hds
          have HOs := Lib.hid (HOr.out.trans (hos.mono fun k _ h => HOWN.out k h))
          have hc3 := HDs.out.c3
          rw [HE1.out] at hc3
          clear hds hos
          go_wp2
          go_ret
          exact ⟨ret_bool (by simp), HOs.out.below (Nat.le_refl _) (fun k hk h => by omega)⟩
      · by_cases hkl : k < xs.length
        · have HE2 := Lib.hid hE2
          clear hE2
          go_wp2_with fail
          refine HR.out.mono ?_
          rintro e wr2 ⟨rfl, hdr, hor⟩
          have HDr := Lib.hid hdr
          have HOr := Lib.hid (HOk.out.trans (hor.mono fun k _ h => HOWN.out k h))
          clear hdr hor HR
          go_wp2_with fail
          refine (read_eq HE2.out HDr.out).mono ?_
          rintro e ws ⟨rfl, hds, hos⟩
          have HDs := Lib.hid hds
          have HOs := Lib.hid (HOr.out.trans (hos.mono fun k _ h => HOWN.out k h))
          have hc3 := HDs.out.c3
          rw [HE1.out] at hc3
          clear hds hos
          go_wp2
          go_ret
          exact ⟨ret_bool (by simp), HOs.out.below (Nat.le_refl _) (fun k hk h => by omega)⟩
        · have HE2 := Lib.hid hE2
          clear hE2
          go_wp2_with fail
          refine HR.out.mono ?_
          rintro e wr2 ⟨rfl, hdr, hor⟩
          have HDr := Lib.hid hdr
          have HOr := Lib.hid (HOk.out.trans (hor.mono fun k _ h => HOWN.out k h))
          clear hdr hor HR
          go_wp2_with fail
          refine (read_eq HE2.out HDr.out).mono ?_
          rintro e ws ⟨rfl, hds, hos⟩
          have HDs := Lib.hid hds
          have HOs := Lib.hid (HOr.out.trans (hos.mono fun k _ h => HOWN.out k h))
          have hc3 := HDs.out.c3
          rw [HE1.out] at hc3
          clear hds hos
          go_wp2
          go_ret
          exact ⟨ret_bool (by simp), HOs.out.below (Nat.le_refl _) (fun k hk h => by omega)⟩

theorem diskArms_walk (v0 : Value) {base base' : Nat} {sp : Nat → Bool} {held : Bool} {H : Type} {enc : TypeId × Value → H} {W : World} {d : DataW H} {p : List MemPlace} (o0 : Value.okWide Try.prog W .any base 26 v0) (k0 : DataW.Trod enc Try.prog W base' sp held 26 v0 d p)
    (a1 : Int) (w1 : (Lit.int .i64 a1).wf = true) :
    Calls Try.prog 5 #[v0, .int .i64 a1] W fun e w' => e = .returned (.bool true) ∧ Below W.heap.size W w' := by
  obtain ⟨A, c, xs, rfl, h1, h2, h3⟩ := open_readsS Try.underlying26 Try.underlying9 (by kernel_rfl) o0 k0
  have b1 := bounds_i64 w1
  exact diskArms_any A c xs a1 W h1 h2 h3 b1.1 b1.2
end Go.Proofs.Ytekkmfclaepcgaa

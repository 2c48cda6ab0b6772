/- Restart of a disk. -/
import Derived.Test.YtlmnmjnmilaipaaGreatDoorDiskL
import Derived.Deep.LoopGhost
set_option linter.unusedVariables false
namespace Go.Proofs.YtlmnmjnmilaipaaGreatDoor
open Go.RowKit

/-- A slice of ints that is read: its length and its numbers. -/
structure ReadsI (w : World) (A : Option Addr) (xs : List Int) : Prop where
  cell : ∀ i, i < xs.length → ∃ bk off, A = some ⟨bk, off, none⟩ ∧ w.cell? ⟨bk, off + i, none⟩ = some (.int .i64 (xs.getD i 0))
  len : xs.length ≤ maxLen
  wf : ∀ x ∈ xs, -9223372036854775808 ≤ x ∧ x ≤ 9223372036854775807

theorem ReadsI.at {w : World} {A : Option Addr} {xs : List Int} (h : ReadsI w A xs) (i : Nat) (hi : i < xs.length) : ∃ bk off, A = some ⟨bk, off, none⟩ ∧ bk < w.heap.size ∧ w.cell? ⟨bk, off + i, none⟩ = some (.int .i64 (xs.getD i 0)) := by
  obtain ⟨bk, off, h1, h2⟩ := h.cell i hi
  exact ⟨bk, off, h1, World.block_lt_of_cell? w _ h2, h2⟩

theorem ReadsI.only {w w' : World} {A : Option Addr} {xs : List Int} (h : ReadsI w A xs) {S : Nat → Prop} (ho : Only S w w') (hA : ∀ ad, A = some ad → ¬ S ad.block) : ReadsI w' A xs :=
  ⟨fun i hi => by
    obtain ⟨bk, off, h1, h2, h3⟩ := h.at i hi
    have := hA _ h1
    exact ⟨bk, off, h1, (ho.cell (p := ⟨bk, off + i, none⟩) h2 this).trans h3⟩, h.len, h.wf⟩

theorem ReadsI.keepW {w w' : World} {A : Option Addr} {xs : List Int} (h : ReadsI w A xs) {S : Nat → Prop} (ho : Only S w w') (hS : ∀ k, k < w.heap.size → ¬ S k) : ReadsI w' A xs :=
  ⟨fun i hi => by
    obtain ⟨bk, off, h1, h2, h3⟩ := h.at i hi
    exact ⟨bk, off, h1, (ho.cell (p := ⟨bk, off + i, none⟩) h2 (hS _ h2)).trans h3⟩, h.len, h.wf⟩

theorem dk_name (D : Dk) (hD : D.Ok) (k : Nat) (hk : k < D.files.length) : ∃ z, aget D.files (D.snames.getD k ⟨#[]⟩) = some z ∧ (D.snames.getD k ⟨#[]⟩).size ≤ 12 ∧ (D.names.map encStr)[k]? = some (.string (D.snames.getD k ⟨#[]⟩)) := by
  have hl : k < D.names.length := by rw [Dk.names_length]; exact hk
  have h1 : D.snames.getD k ⟨#[]⟩ = ⟨(D.names[k]).toArray⟩ := by simp [Dk.snames, List.getD_eq_getElem?_getD, hl]
  obtain ⟨p, hp, he⟩ := D.mem_names.1 (List.getElem_mem hl)
  have h2 : D.snames.getD k ⟨#[]⟩ = p.1 := by rw [h1, ← he]
  rw [h2]
  obtain ⟨z, hz⟩ := Option.isSome_iff_exists.1 (aget_isSome_iff.2 (List.mem_map.2 ⟨p, hp, rfl⟩))
  have h3 := hD.names p hp
  simp [isNm] at h3
  refine ⟨z, hz, h3.2, ?_⟩
  rw [List.getElem?_map, List.getElem?_eq_getElem hl, ← h2, h1]
  rfl

/-- An owned row of one-cell elements, opened. -/
theorem row_open {w : World} {base n : Nat} {e : TypeId} {v : Value} {xs : List Value} (h : w.ownsRow base e 1 v n xs) :
    ∃ A cp, v = .slice A n cp ∧ n ≤ maxLen ∧ ∀ i, i < n → ∃ g, A = some ⟨g, 0, none⟩ ∧ base ≤ g ∧ g < w.heap.size ∧ w.cell? ⟨g, i, none⟩ = xs[i]? := by
  have h' := h
  rcases h.2 with ⟨rfl, rfl⟩ | ⟨g, cap, cur, rfl, hb, hh, hn, hc, _⟩
  · exact ⟨none, 0, rfl, Nat.zero_le _, fun i hi => absurd hi (by omega)⟩
  · exact ⟨_, cap, rfl, by omega, fun i hi => ⟨g, rfl, hb, (Array.getElem?_eq_some_iff.1 hh).1, h'.cellAt i (by omega)⟩⟩

theorem cutTo_eq (zb : ByteArray) (zn : Nat) (c R : Int) (hE : keepOf c % ((zb.size : Int) - zn + 1) = R) (h0 : 0 ≤ R) :
    cutTo (zb, zn) c = (zb.extract 0 ((zn : Int) + R).toNat, min ((zn : Int) + R).toNat zb.size) := by
  unfold cutTo
  simp only [hE, ByteArray.size_extract]
  have e : ((zn : Int) + R).toNat = zn + R.toNat := by omega
  rw [e]
  simp
theorem cutTo_pos (zb : ByteArray) (zn : Nat) (c : Int) (hc : 0 ≤ c) (hz : zn ≤ zb.size) :
    ∃ R : Int, c % ((zb.size : Int) - zn + 1) = R ∧ 0 ≤ R ∧ R ≤ (zb.size : Int) - zn ∧ cutTo (zb, zn) c = (zb.extract 0 ((zn : Int) + R).toNat, min ((zn : Int) + R).toNat zb.size) := by
  have hm1 := Int.emod_nonneg c (show ((zb.size : Int) - zn + 1) ≠ 0 by omega)
  have hm2 := Int.emod_lt_of_pos c (show 0 < ((zb.size : Int) - zn + 1) by omega)
  exact ⟨_, rfl, hm1, by omega, cutTo_eq zb zn c _ (by unfold keepOf; rw [if_neg (by omega)]) hm1⟩
theorem cutTo_neg (zb : ByteArray) (zn : Nat) (c : Int) (hc : c < 0) (hz : zn ≤ zb.size) :
    ∃ R : Int, (c + 1).tmod ((zb.size : Int) - zn + 1) = -R ∧ 0 ≤ R ∧ R ≤ (zb.size : Int) - zn ∧ cutTo (zb, zn) c = (zb.extract 0 ((zn : Int) + R).toNat, min ((zn : Int) + R).toNat zb.size) := by
  have hm1 := Int.emod_nonneg (-(c + 1)) (show ((zb.size : Int) - zn + 1) ≠ 0 by omega)
  have hm2 := Int.emod_lt_of_pos (-(c + 1)) (show 0 < ((zb.size : Int) - zn + 1) by omega)
  refine ⟨-(c + 1) % ((zb.size : Int) - zn + 1), ?_, hm1, by omega, cutTo_eq zb zn c _ (by unfold keepOf; rw [if_pos hc]) hm1⟩
  have h1 := Int.neg_tmod (c + 1) ((zb.size : Int) - zn + 1)
  have h2 := Int.tmod_eq_emod_of_nonneg (a := -(c + 1)) (b := (zb.size : Int) - zn + 1) (by omega)
  omega
theorem cutTo_zero (zb : ByteArray) (zn : Nat) (hz : zn ≤ zb.size) : cutTo (zb, zn) 0 = (zb.extract 0 zn, zn) := by
  have h := cutTo_eq zb zn 0 0 (by simp [keepOf]) (by omega)
  rw [h]
  simp [Nat.min_eq_left hz]

set_option maxHeartbeats 2000000 in
set_option maxRecDepth 100000 in
theorem restart_any (b mb : Nat) (D : Dk) (A : Option Addr) (c : Nat) (keep : List Int) (w : World) (h : DiskIs w b mb D) (hD : D.Ok) (hA : ∀ ad, A = some ad → 0 < keep.length → ad.block ≠ b) (hkp : ReadsI w A keep) :
    Calls Tryz.prog 33 #[.pointer (some ⟨b, 0, none⟩), .slice A keep.length c] w fun e w' => e = .returned (.tuple #[]) ∧ DiskIs w' b mb (D.restart keep) ∧ Only (Own b mb) w w' := by
  have hml := hD.many
  have hfo : FOk D.files := fun p hp => ⟨hD.bytes p hp, hD.synced p hp⟩
  have hkl := hkp.len
  unfold maxLen at hkl
  have lb := h.lt
  have lm := h.map.lt
  have HD := Lib.hid hD
  have Hh := Lib.hid h
  have HK := Lib.hid hkp
  have HA := Lib.hid hA
  have HF := Lib.hid hfo
  clear hD h hkp hA hfo
  go_enter Tryz.func33, Tryz.ntmps33
  go_wp2_with (go_at_call 15; refine (list_any b mb D _ Hh.out HD.out).mono ?_; rintro e w1 ⟨v, rfl, hrow, hnil, hb1⟩; obtain ⟨A2, cp2, rfl, hn2, hcells⟩ := row_open hrow; have HC := Lib.hid hcells; clear hcells hnil hrow)
  have HB := Lib.hid hb1
  have hsz1 := hb1.size
  have HD1 := Lib.hid (Hh.out.only (Only.of_below (S := fun _ => False) hb1) (fun x => x) (fun x => x))
  have HNM : ∀ bk i v, bk ≠ b → w1.cell? ⟨bk, i, none⟩ = some v → ¬ Own b mb bk := by
    rintro bk i v h1 h2 (h3 | h3)
    · exact h1 h3
    · obtain ⟨es, cl, h4, _⟩ := HD1.out.map
      rw [← h3] at h4
      simp [World.cell?, h4] at h2
  have HK1 := Lib.hid (HK.out.only (Only.of_below (S := fun _ => False) hb1) (fun _ _ x => x))
  clear hb1
  go_loopw [11] (fun ix wr => ∃ k : Nat, k ≤ D.files.length ∧ ix = .int .i64 k ∧ DiskIs wr b mb { D with files := refiles keep D.snames D.files k } ∧ Only (Own b mb) w1 wr) (fun ix _ => D.files.length - (intOf ix).toNat)
  case atStart => exact ⟨0, Nat.zero_le _, rfl, HD1.out, Only.refl _ _⟩
  case round =>
    obtain ⟨k, hk, rfl, hd, ho⟩ := hrel
    by_cases hlt : k < D.files.length
    · obtain ⟨g, rfl, hg1, hg2, hg3⟩ := HC.out k hlt
      obtain ⟨z0, hz0, hnsz, hnm⟩ := dk_name D HD.out k hlt
      rw [hnm] at hg3
      have hFk := refiles_ok (keep := keep) (names := D.snames) HF.out k
      have hs1 : (aget (refiles keep D.snames D.files k) (D.snames.getD k ⟨#[]⟩)).isSome := by
        rw [aget_isSome_iff, refiles_keys, ← aget_isSome_iff, hz0]; rfl
      obtain ⟨z, hz⟩ := Option.isSome_iff_exists.1 hs1
      have hzk := hFk _ (aget_mem hz)
      obtain ⟨zb, zn⟩ := z
      have hre : refiles keep D.snames D.files (k + 1) = aput (refiles keep D.snames D.files k) (D.snames.getD k ⟨#[]⟩) (cutTo (zb, zn) (keep.getD k 0)) := by
        show restep _ _ _ _ = _
        unfold restep
        rw [hz]
      generalize hnmv : D.snames.getD k ⟨#[]⟩ = nm at *
      have hcell := (ho.cell (p := ⟨g, k, none⟩) hg2 (by unfold Own; simp; omega)).trans hg3
      have hlk := run_look_some (P := Tryz.prog) keyK_string Tryz.underlying58 Tryz.underlying9 hd.map hz false
      simp only [fv, Bool.false_eq_true, if_false] at hlk
      have hc0 := hd.c0
      have hbl := hd.lt
      have RE := Lib.hid hre
      have HDk := Lib.hid hd
      have HOk := Lib.hid ho
      have HZ := Lib.hid hz
      clear hre hd ho hz hs1 hFk hz0 hnm hg3 hnmv
      obtain ⟨hz1, hz2⟩ := hzk
      simp only at hz1 hz2
      by_cases hkk : k < keep.length
      · obtain ⟨bk, off, rfl, hbk1, hbk2⟩ := HK1.out.at k hkk
        have hkc := (HOk.out.cell (p := ⟨bk, off + k, none⟩) hbk1 (by have := HA.out _ rfl (by omega); exact HNM bk _ _ this hbk2)).trans hbk2
        have hwf := HK1.out.wf (keep.getD k 0) (by rw [List.getD_eq_getElem?_getD, List.getElem?_eq_getElem hkk]; exact List.getElem_mem hkk)
        generalize hcv : keep.getD k 0 = cv at *
        clear hcv
        have lk := World.block_lt_of_cell? wr _ hkc
        have lg := World.block_lt_of_cell? wr _ hcell
        simp only at lk lg
        clear hbk1 hbk2
        obtain ⟨hwf1, hwf2⟩ := hwf
        by_cases hneg : cv < 0
        · obtain ⟨R, hRt, hR0, hR1, hcut⟩ := cutTo_neg zb zn cv hneg hz2
          have hre := RE.out
          rw [hcut] at hre
          obtain ⟨o, hu, hM⟩ := run_update_mapIs (P := Tryz.prog) keyK_string Tryz.underlying58 Tryz.underlying9 ((HDk.out.map.alloc (.cells #[.string (zb.extract 0 ((zn : Int) + R).toNat), .int .i64 (min ((zn : Int) + R).toNat zb.size : Nat)] 83)).drew.drew) nm (zb.extract 0 ((zn : Int) + R).toNat, min ((zn : Int) + R).toNat zb.size)
          simp only [fv] at hu
          have HP := Lib.hid ((HDk.out.alloc (.cells #[.string (zb.extract 0 ((zn : Int) + R).toNat), .int .i64 (min ((zn : Int) + R).toNat zb.size : Nat)] 83)).drew.drew.put ((Only.refl (· = mb) _).putM (fun _ => rfl) o) hM)
          have HQ := Lib.hid (((HOk.out.alloc (.cells #[.string (zb.extract 0 ((zn : Int) + R).toNat), .int .i64 (min ((zn : Int) + R).toNat zb.size : Nat)] 83)).drew.drew.putM (fun _ => own_r mb rfl) o))
          clear hcut hM
          have RE2 := Lib.hid hre
          clear hre
          go_wp2
          go_region
          go_wp2
          go_region
          go_wp2
          go_roundw
          case rel => exact ⟨k + 1, by omega, by go_num, by rw [RE2.out]; exact HP.out, HQ.out⟩
          case measure => simp [intOf]; omega
        · obtain ⟨R, hRt, hR0, hR1, hcut⟩ := cutTo_pos zb zn cv (by omega) hz2
          have hre := RE.out
          rw [hcut] at hre
          obtain ⟨o, hu, hM⟩ := run_update_mapIs (P := Tryz.prog) keyK_string Tryz.underlying58 Tryz.underlying9 ((HDk.out.map.alloc (.cells #[.string (zb.extract 0 ((zn : Int) + R).toNat), .int .i64 (min ((zn : Int) + R).toNat zb.size : Nat)] 83)).drew.drew) nm (zb.extract 0 ((zn : Int) + R).toNat, min ((zn : Int) + R).toNat zb.size)
          simp only [fv] at hu
          have HP := Lib.hid ((HDk.out.alloc (.cells #[.string (zb.extract 0 ((zn : Int) + R).toNat), .int .i64 (min ((zn : Int) + R).toNat zb.size : Nat)] 83)).drew.drew.put ((Only.refl (· = mb) _).putM (fun _ => rfl) o) hM)
          have HQ := Lib.hid (((HOk.out.alloc (.cells #[.string (zb.extract 0 ((zn : Int) + R).toNat), .int .i64 (min ((zn : Int) + R).toNat zb.size : Nat)] 83)).drew.drew.putM (fun _ => own_r mb rfl) o))
          clear hcut hM
          have RE2 := Lib.hid hre
          clear hre
          go_wp2
          go_region
          go_wp2
          go_region
          go_wp2
          go_roundw
          case rel => exact ⟨k + 1, by omega, by go_num, by rw [RE2.out]; exact HP.out, HQ.out⟩
          case measure => simp [intOf]; omega
      · have hcv : keep.getD k 0 = 0 := by rw [List.getD_eq_getElem?_getD, List.getElem?_eq_none (by omega)]; rfl
        rw [hcv] at RE
        clear hcv
        have lg := World.block_lt_of_cell? wr _ hcell
        simp only at lg
        have hcut := cutTo_zero zb zn hz2
        have hre := RE.out
        rw [hcut] at hre
        obtain ⟨o, hu, hM⟩ := run_update_mapIs (P := Tryz.prog) keyK_string Tryz.underlying58 Tryz.underlying9 ((HDk.out.map.alloc (.cells #[.string (zb.extract 0 zn), .int .i64 (zn : Nat)] 83)).drew.drew) nm (zb.extract 0 zn, zn)
        simp only [fv] at hu
        have HP := Lib.hid ((HDk.out.alloc (.cells #[.string (zb.extract 0 zn), .int .i64 (zn : Nat)] 83)).drew.drew.put ((Only.refl (· = mb) _).putM (fun _ => rfl) o) hM)
        have HQ := Lib.hid (((HOk.out.alloc (.cells #[.string (zb.extract 0 zn), .int .i64 (zn : Nat)] 83)).drew.drew.putM (fun _ => own_r mb rfl) o))
        clear hcut hM
        have RE2 := Lib.hid hre
        clear hre
        go_wp2
        go_region
        go_wp2
        go_region
        go_wp2
        go_roundw
        case rel => exact ⟨k + 1, by omega, by go_num, by rw [RE2.out]; exact HP.out, HQ.out⟩
        case measure => simp [intOf]; omega
    · obtain rfl : k = D.files.length := by omega
      have HDk := Lib.hid hd
      have HOk := Lib.hid ho
      have hc2 := hd.c2
      have hc3 := hd.c3
      have hf2 := hd.fr 2
      have hf3 := hd.fr 3
      have hsl : D.snames.length = D.files.length := by unfold Dk.snames; rw [List.length_map, Dk.names_length]
      have HP := Lib.hid (show DiskIs ((wr.setCell ⟨b, 3, none⟩ (.bool false)).setCell ⟨b, 2, none⟩ (.int .i64 0)) b mb (D.restart keep) from by
        refine ⟨?_, (hd.map.setCell _ _).setCell _ _⟩
        rw [blk_setCell (blk_setCell hd.blk _) _]
        simp [Dk.restart])
      have HQ := Lib.hid (((((Only.of_below (S := Own b mb) HB.out).trans ho).setCell (p := ⟨b, 3, none⟩) (fun _ => own_l b rfl) (.bool false))).setCell (p := ⟨b, 2, none⟩) (fun _ => own_l b rfl) (.int .i64 0))
      clear hd ho hsl
      go_wp2
      go_end0
      exact ⟨rfl, HP.out, HQ.out⟩
end Go.Proofs.YtlmnmjnmilaipaaGreatDoor

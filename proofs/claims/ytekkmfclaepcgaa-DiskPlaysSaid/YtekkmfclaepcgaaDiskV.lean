/- DiskApart. -/
import Derived.Test.YtekkmfclaepcgaaDiskT
import Derived.Test.YtekkmfclaepcgaaDiskU
import Derived.Test.YtekkmfclaepcgaaDiskZ
set_option linter.unusedVariables false
namespace Go.Proofs.Ytekkmfclaepcgaa
open Go.RowKit

theorem two_get (k : Nat) (hk : k < 2) : ([Value.string ⟨#[97]⟩, Value.string ⟨#[98]⟩] : List Value)[k] = Value.string (nm3 k) := by
  rcases k with _ | _ | k
  · rfl
  · rfl
  · omega
theorem two_cell (k : Nat) (hk : k < 2) (W : World) : (W.alloc (.cells #[.string ⟨#[97]⟩, .string ⟨#[98]⟩] 9)).cell? ⟨W.heap.size, k, none⟩ = some (.string (nm3 k)) := by
  rw [World.cell?_alloc_new]
  rcases k with _ | _ | k
  · rfl
  · rfl
  · omega

set_option maxHeartbeats 4000000 in
set_option maxRecDepth 100000 in
theorem diskApart_any (A : Option Addr) (cp : Nat) (xs : List ActV) (text0 : ByteArray) (w : World) (hx : ReadsA w A xs) (ht0 : text0.size ≤ maxLen) :
    Calls Try.prog 8 #[.slice A xs.length cp, .string text0] w fun e w' => e = .returned (.bool true) ∧ Below w.heap.size w w' := by
  have hl := hx.len
  unfold maxLen at hl ht0
  have HX := Lib.hid hx
  clear hx
  have htx := cutT text0
  go_enter Try.func8, Try.ntmps8
  go_wp2_with fail
  refine (awake_any _).mono ?_
  rintro e w1 ⟨rfl, hb1⟩
  have HB1 := Lib.hid hb1
  clear hb1
  go_wp2_with fail
  refine (new_any _).mono ?_
  rintro e w2 ⟨rfl, hw2⟩
  have hd2 := DiskIs.made w1
  have ho2 : Only (fun k => w.heap.size ≤ k) w w2 := by rw [hw2]; exact ((Only.of_below HB1.out).alloc _).alloc _
  have hs1 := HB1.out.size
  rw [← hw2] at hd2
  have HD2 := Lib.hid hd2
  have HO2 := Lib.hid ho2
  have hlt2 := HD2.out.lt
  clear hw2 hd2 ho2
  obtain ⟨mb, hmb⟩ : ∃ mb, mb = w1.heap.size := ⟨_, rfl⟩
  rw [← hmb] at HD2 hlt2 ⊢
  have hmb1 : w.heap.size ≤ mb := by omega
  have own : ∀ k, Own (mb + 1) mb k → w.heap.size ≤ k := by rintro k (h | h) <;> omega
  have HOWN := Lib.hid own
  clear own hmb hs1
  go_wp2_with fail
  refine (new_any _).mono ?_
  rintro e w3 ⟨rfl, hw3⟩
  have hd3 := DiskIs.made w2
  have ho3 : Only (fun k => w.heap.size ≤ k) w w3 := by rw [hw3]; exact ((HO2.out).alloc _).alloc _
  have hd3' : DiskIs w3 (mb + 1) mb Dk.new := by rw [hw3]; exact (HD2.out.alloc _).alloc _
  rw [← hw3] at hd3
  have HP3 := Lib.hid hd3
  have HD3 := Lib.hid hd3'
  have HO3 := Lib.hid ho3
  clear hw3 hd3 ho3 hd3'
  obtain ⟨mc, hmc⟩ : ∃ mc, mc = w2.heap.size := ⟨_, rfl⟩
  rw [← hmc] at HP3 hlt2 ⊢
  have own2 : ∀ k, Own (mc + 1) mc k → w.heap.size ≤ k := by rintro k (h | h) <;> omega
  have HOWN2 := Lib.hid own2
  have n1 : ¬ Own (mb + 1) mb (mc + 1) := by unfold Own; omega
  have n2 : ¬ Own (mb + 1) mb mc := by unfold Own; omega
  have n3 : ¬ Own (mc + 1) mc (mb + 1) := by unfold Own; omega
  have n4 : ¬ Own (mc + 1) mc mb := by unfold Own; omega
  have NN := Lib.hid (And.intro n1 (And.intro n2 (And.intro n3 n4)))
  clear own2 hmc n1 n2 n3 n4
  go_wp2_with fail
  generalize text0.extract 0 (min (text0.size : Int) 500).toNat = text at *
  refine (append_eq (D' := free [(⟨#[99]⟩, (text, 0))] 1) (free_append_none (fs := []) (n := 0) rfl rfl (by decide) (by omega)) HD3.out Dk.new_ok (by decide) (by unfold maxLen; omega)).mono ?_
  rintro e w4 ⟨rfl, hd4, ho4⟩
  have HD4 := Lib.hid hd4
  have HP4 := Lib.hid (HP3.out.only ho4 NN.out.1 NN.out.2.1)
  have HO4 := Lib.hid (HO3.out.trans (ho4.mono fun k _ h => HOWN.out k h))
  have okc : FilesOk [(⟨#[99]⟩, (text, 0))] := ⟨by simp; rfl, by simp; omega, by simp, by simp, by simp⟩
  have okc2 : FilesOk [(⟨#[99]⟩, (text, text.size))] := ⟨by simp; rfl, by simp; omega, by simp, by simp, by simp⟩
  have OKC := Lib.hid okc
  have OKC2 := Lib.hid okc2
  clear hd4 ho4 okc okc2
  go_wp2_with fail
  refine (sync_eq (D' := free [(⟨#[99]⟩, (text, text.size))] 2) (free_sync_some (fs := [(⟨#[99]⟩, (text, 0))]) (n := 1) (f := (text, 0)) rfl) HD4.out (free_ok OKC.out (by decide))).mono ?_
  rintro e w5 ⟨rfl, hd5, ho5⟩
  have HD5 := Lib.hid hd5
  have HP5 := Lib.hid (HP4.out.only ho5 NN.out.1 NN.out.2.1)
  have HO5 := Lib.hid (HO4.out.trans (ho5.mono fun k _ h => HOWN.out k h))
  clear hd5 ho5
  go_wp2_with fail
  refine (append_eq (D' := free (fa text 0) 1) (free_append_none (fs := []) (n := 0) rfl rfl (by decide) (by omega)) HP5.out Dk.new_ok (by decide) (by unfold maxLen; omega)).mono ?_
  rintro e w6 ⟨rfl, hd6, ho6⟩
  have HP6 := Lib.hid hd6
  have HD6 := Lib.hid (HD5.out.only ho6 NN.out.2.2.1 NN.out.2.2.2)
  have HO6 := Lib.hid (HO5.out.trans (ho6.mono fun k _ h => HOWN2.out k h))
  clear hd6 ho6
  have HI := Lib.hid (show ApInv text 2 (free [(⟨#[99]⟩, (text, text.size))] 2) from ⟨free_ok OKC2.out (by decide), rfl, rfl, Nat.le_refl _, rfl⟩)
  go_wp2_with fail
  go_loopw [8] (fun i wr => ∃ (k : Nat) (D : Dk), k ≤ xs.length ∧ k ≤ 60 ∧ i = .int .i64 k ∧ ApInv text (2 + k) D ∧ DiskIs wr (mb + 1) mb D ∧ DiskIs wr (mc + 1) mc (free (fa text 0) 1) ∧ Only (fun k => w.heap.size ≤ k) w wr) (fun i _ => 60 - (intOf i).toNat)
  case atStart => exact ⟨0, _, Nat.zero_le _, by omega, rfl, HI.out, HD6.out, HP6.out, HO6.out⟩
  case round =>
    obtain ⟨k, D, hk, hk60, rfl, hI, hd, hp, ho⟩ := hrel
    have HIk := Lib.hid hI
    have HD := Lib.hid hd
    have HP := Lib.hid hp
    have HO := Lib.hid ho
    clear hI hd hp ho HD2 HD3 HD4 HD5 HD6 HP3 HP4 HP5 HP6 HO2 HO3 HO4 HO5 HO6 HI HB1 OKC OKC2
    by_cases hlt : k < xs.length ∧ k < 60
    · obtain ⟨hlt1, hlt2'⟩ := hlt
      obtain ⟨bk, off, rfl, hc⟩ := HX.out.cell k hlt1
      have hok := HX.out.ok xs[k] (List.getElem_mem hlt1)
      have lb0 := World.block_lt_of_cell? w _ (hc 0 _ rfl)
      simp only at lb0
      have tr : ∀ j v, xs[k].cells[j]? = some v → wr.cell? ⟨bk, off + k * 6 + j, none⟩ = some v := fun j v hj => (HO.out.cell (p := ⟨bk, off + k * 6 + j, none⟩) lb0 (by simp; omega)).trans (hc j v hj)
      have e0 : wr.cell? ⟨bk, off + k * 6, none⟩ = some (.int .i64 xs[k].what) := tr 0 _ rfl
      have e1 := tr 1 _ rfl
      have e2 := tr 2 _ rfl
      have e3 := tr 3 _ rfl
      have e4 := tr 4 _ rfl
      have e5 := tr 5 _ rfl
      have lb := World.block_lt_of_cell? wr _ e0
      simp only at lb
      obtain ⟨m1, m2⟩ := hok.file
      obtain ⟨m3, m4⟩ := hok.what
      obtain ⟨m6, m7⟩ := hok.other
      have m5 := hok.text
      have HKP := Lib.hid hok.keep
      unfold maxLen at m5
      generalize xs[k] = x at *
      clear hc tr hok
      have hts := cutT x.text
      obtain ⟨q1, q2⟩ := pickT_range x.file 2 (by decide)
      obtain ⟨kk, hkk⟩ : ∃ kk : Nat, pickOf x.file 2 = kk := ⟨(pickOf x.file 2).toNat, by omega⟩
      have hkk3 : kk < 2 := by omega
      have HPF := Lib.hid (fun W => pick_any x.file 2 W m1 m2 (by decide) (by decide))
      rw [hkk] at HPF
      have hget : ([Value.string ⟨#[97]⟩, Value.string ⟨#[98]⟩] : List Value)[kk] = Value.string (nm3 kk) := two_get kk hkk3
      obtain ⟨q3, q4⟩ := pickT_range x.other 2 (by decide)
      obtain ⟨oo, hoo⟩ : ∃ oo : Nat, pickOf x.other 2 = oo := ⟨(pickOf x.other 2).toNat, by omega⟩
      have hoo3 : oo < 2 := by omega
      have HPO := Lib.hid (fun W => pick_any x.other 2 W m6 m7 (by decide) (by decide))
      rw [hoo] at HPO
      obtain ⟨q5, q6⟩ := pickT_range x.what 6 (by decide)
      have HPW := Lib.hid (fun W => pick_any x.what 6 W m3 m4 (by decide) (by decide))
      generalize pickOf x.what 6 = V at *
      have HQ := Lib.hid (And.intro q5 q6)
      clear q1 q2 q3 q4 hkk hoo q5 q6
      go_wp2_with fail
      refine (HPF.out _).mono ?_
      rintro e w' ⟨rfl, rfl⟩
      have HG := Lib.hid hget
      clear hget
      go_wp2_with fail
      rw [HG.out]
      refine (HPW.out _).mono ?_
      rintro e w' ⟨rfl, rfl⟩
      obtain ⟨Wa, hWa⟩ : ∃ Wa, Wa = (wr.alloc (.cells #[.int .i64 x.what, .int .i64 x.file, .int .i64 x.other, .int .i64 x.n, .string x.text, .slice x.kA x.keep.length x.kc] 40)).alloc (.cells #[.string ⟨#[97]⟩, .string ⟨#[98]⟩] 9) := ⟨_, rfl⟩
      have hDa : DiskIs Wa (mb + 1) mb D := by rw [hWa]; exact (HD.out.alloc _).alloc _
      have hPa : DiskIs Wa (mc + 1) mc (free (fa text 0) 1) := by rw [hWa]; exact (HP.out.alloc _).alloc _
      have hOa : Only (fun k => w.heap.size ≤ k) w Wa := by rw [hWa]; exact (HO.out.alloc _).alloc _
      have hxc : ∀ j v, x.cells[j]? = some v → Wa.cell? ⟨wr.heap.size, j, none⟩ = some v := by
        intro j v hj
        rw [hWa, World.cell?_alloc_past _ _ _ (by simp), World.cell?_alloc_new, ← hj]
        rcases j with _ | _ | _ | _ | _ | _ | j <;> rfl
      have x0 := hxc 0 _ rfl
      have x2 := hxc 2 _ rfl
      have x4 := hxc 4 _ rfl
      have x5 := hxc 5 _ rfl
      have lx := World.block_lt_of_cell? Wa _ x0
      simp only at lx
      rw [← hWa]
      obtain ⟨bx, hbx⟩ : ∃ bx, bx = wr.heap.size := ⟨_, rfl⟩
      rw [← hbx] at x0 x2 x4 x5 lx ⊢
      have HDa := Lib.hid hDa
      have HPa := Lib.hid hPa
      have HOa := Lib.hid hOa
      have HWa := Lib.hid hWa
      have HBX := Lib.hid hbx
      clear hDa hPa hOa hWa hbx hxc e0 e1 e2 e3 e4 e5
      have hnk := nm3_c kk hkk3
      have hno := nm3_c oo hoo3
      have hnl : (nm3 kk).size ≤ maxLen := by have := nm3_ok kk (by omega); simp [isNm] at this; unfold maxLen; omega
      have hol : (nm3 oo).size ≤ maxLen := by have := nm3_ok oo (by omega); simp [isNm] at this; unfold maxLen; omega
      have HNK := Lib.hid (And.intro hnk (And.intro hno (And.intro hnl hol)))
      clear hnk hno hnl hol
      have hV : V = 0 ∨ V = 1 ∨ V = 2 ∨ V = 3 ∨ V = 4 ∨ V = 5 := by have := HQ.out; omega
      rcases hV with rfl | rfl | rfl | rfl | rfl | rfl
      · go_wp2_with fail
        generalize x.text.extract 0 (min (x.text.size : Int) 500).toNat = t at *
        refine (append_any (mb + 1) mb D (nm3 kk) t Wa HDa.out HIk.out.ok HNK.out.2.2.1 (by unfold maxLen; omega)).mono ?_
        rintro e wq ⟨rfl, hdq, hoq⟩
        have HDq := Lib.hid hdq
        have HPq := Lib.hid (HPa.out.only hoq NN.out.1 NN.out.2.1)
        have HOq := Lib.hid (HOa.out.trans (hoq.mono fun k _ h => HOWN.out k h))
        have HIq := Lib.hid (HIk.out.append (by omega) HNK.out.1 t)
        clear hdq hoq
        go_wp2_with fail
        refine (read_eq HIq.out.read HDq.out).mono ?_
        rintro e wz ⟨rfl, hdz, hoz⟩
        have HDz := Lib.hid hdz
        have HPz := Lib.hid (HPq.out.only hoz NN.out.1 NN.out.2.1)
        have HOz := Lib.hid (HOq.out.trans (hoz.mono fun k _ h => HOWN.out k h))
        clear hdz hoz
        go_wp2
        go_roundw
        case rel => exact ⟨k + 1, _, by omega, by omega, by go_num, HIq.out, HDz.out, HPz.out, HOz.out⟩
        case measure => simp [intOf]; omega
      · go_wp2_with fail
        generalize x.text.extract 0 (min (x.text.size : Int) 500).toNat = t at *
        refine (append_any (mb + 1) mb D (nm3 kk) t Wa HDa.out HIk.out.ok HNK.out.2.2.1 (by unfold maxLen; omega)).mono ?_
        rintro e wq ⟨rfl, hdq, hoq⟩
        have HDq := Lib.hid hdq
        have HPq := Lib.hid (HPa.out.only hoq NN.out.1 NN.out.2.1)
        have HOq := Lib.hid (HOa.out.trans (hoq.mono fun k _ h => HOWN.out k h))
        have HIq := Lib.hid (HIk.out.append (by omega) HNK.out.1 t)
        clear hdq hoq
        go_wp2_with fail
        refine (read_eq HIq.out.read HDq.out).mono ?_
        rintro e wz ⟨rfl, hdz, hoz⟩
        have HDz := Lib.hid hdz
        have HPz := Lib.hid (HPq.out.only hoz NN.out.1 NN.out.2.1)
        have HOz := Lib.hid (HOq.out.trans (hoz.mono fun k _ h => HOWN.out k h))
        clear hdz hoz
        go_wp2
        go_roundw
        case rel => exact ⟨k + 1, _, by omega, by omega, by go_num, HIq.out, HDz.out, HPz.out, HOz.out⟩
        case measure => simp [intOf]; omega
      · go_wp2_with fail
        refine (sync_any (mb + 1) mb D (nm3 kk) Wa HDa.out HIk.out.ok).mono ?_
        rintro e wq ⟨rfl, hdq, hoq⟩
        have HDq := Lib.hid hdq
        have HPq := Lib.hid (HPa.out.only hoq NN.out.1 NN.out.2.1)
        have HOq := Lib.hid (HOa.out.trans (hoq.mono fun k _ h => HOWN.out k h))
        have HIq := Lib.hid (HIk.out.sync (by omega) HNK.out.1)
        clear hdq hoq
        go_wp2_with fail
        refine (read_eq HIq.out.read HDq.out).mono ?_
        rintro e wz ⟨rfl, hdz, hoz⟩
        have HDz := Lib.hid hdz
        have HPz := Lib.hid (HPq.out.only hoz NN.out.1 NN.out.2.1)
        have HOz := Lib.hid (HOq.out.trans (hoz.mono fun k _ h => HOWN.out k h))
        clear hdz hoz
        go_wp2
        go_roundw
        case rel => exact ⟨k + 1, _, by omega, by omega, by go_num, HIq.out, HDz.out, HPz.out, HOz.out⟩
        case measure => simp [intOf]; omega
      · go_wp2_with fail
        refine (HPO.out _).mono ?_
        rintro e w' ⟨rfl, rfl⟩
        have HG2 := Lib.hid (two_get oo hoo3)
        go_wp2_with fail
        rw [HG2.out]
        refine (rename_any (mb + 1) mb D (nm3 kk) (nm3 oo) _ (HDa.out.alloc _) HIk.out.ok HNK.out.2.2.2).mono ?_
        rintro e wq ⟨rfl, hdq, hoq⟩
        have HDq := Lib.hid hdq
        have HPq := Lib.hid ((HPa.out.alloc _).only hoq NN.out.1 NN.out.2.1)
        have HOq := Lib.hid ((HOa.out.alloc _).trans (hoq.mono fun k _ h => HOWN.out k h))
        have HIq := Lib.hid (HIk.out.rename (by omega) HNK.out.1 HNK.out.2.1)
        clear hdq hoq
        go_wp2_with fail
        refine (read_eq HIq.out.read HDq.out).mono ?_
        rintro e wz ⟨rfl, hdz, hoz⟩
        have HDz := Lib.hid hdz
        have HPz := Lib.hid (HPq.out.only hoz NN.out.1 NN.out.2.1)
        have HOz := Lib.hid (HOq.out.trans (hoz.mono fun k _ h => HOWN.out k h))
        clear hdz hoz
        go_wp2
        go_roundw
        case rel => exact ⟨k + 1, _, by omega, by omega, by go_num, HIq.out, HDz.out, HPz.out, HOz.out⟩
        case measure => simp [intOf]; omega
      · go_wp2_with fail
        refine (remove_any (mb + 1) mb D (nm3 kk) Wa HDa.out HIk.out.ok).mono ?_
        rintro e wq ⟨rfl, hdq, hoq⟩
        have HDq := Lib.hid hdq
        have HPq := Lib.hid (HPa.out.only hoq NN.out.1 NN.out.2.1)
        have HOq := Lib.hid (HOa.out.trans (hoq.mono fun k _ h => HOWN.out k h))
        have HIq := Lib.hid (HIk.out.remove (by omega) HNK.out.1)
        clear hdq hoq
        go_wp2_with fail
        refine (read_eq HIq.out.read HDq.out).mono ?_
        rintro e wz ⟨rfl, hdz, hoz⟩
        have HDz := Lib.hid hdz
        have HPz := Lib.hid (HPq.out.only hoz NN.out.1 NN.out.2.1)
        have HOz := Lib.hid (HOq.out.trans (hoz.mono fun k _ h => HOWN.out k h))
        clear hdz hoz
        go_wp2
        go_roundw
        case rel => exact ⟨k + 1, _, by omega, by omega, by go_num, HIq.out, HDz.out, HPz.out, HOz.out⟩
        case measure => simp [intOf]; omega
      · have HR := Lib.hid (restart_eq (D' := D.restart x.keep) (c := x.kc) rfl rfl HDa.out HIk.out.ok (fun ad h hl => by
          obtain ⟨bk2, off2, e, hb, _⟩ := HKP.out.at 0 hl
          rw [h] at e
          cases e
          show bk2 ≠ _
          omega) (HKP.out.keepW HOa.out (fun k hk => by omega)))
        go_wp2_with fail
        refine HR.out.mono ?_
        rintro e wq ⟨rfl, hdq, hoq⟩
        have HDq := Lib.hid hdq
        have HPq := Lib.hid (HPa.out.only hoq NN.out.1 NN.out.2.1)
        have HOq := Lib.hid (HOa.out.trans (hoq.mono fun k _ h => HOWN.out k h))
        have HIq := Lib.hid (HIk.out.restart x.keep)
        clear hdq hoq
        go_wp2_with fail
        refine (read_eq HIq.out.read HDq.out).mono ?_
        rintro e wz ⟨rfl, hdz, hoz⟩
        have HDz := Lib.hid hdz
        have HPz := Lib.hid (HPq.out.only hoz NN.out.1 NN.out.2.1)
        have HOz := Lib.hid (HOq.out.trans (hoz.mono fun k _ h => HOWN.out k h))
        clear hdz hoz
        go_wp2
        go_roundw
        case rel => exact ⟨k + 1, _, by omega, by omega, by go_num, HIq.out, HDz.out, HPz.out, HOz.out⟩
        case measure => simp [intOf]; omega
    · have hge : xs.length ≤ k ∨ 60 ≤ k := by omega
      have names : ((free (fa text 0) 1).snames) = [⟨#[97]⟩] := snames_one _ _ _
      have NAMES := Lib.hid names
      have okp : (free (fa text 0) 1).Ok := free_ok (fa_ok text 0 (by omega) (by omega)) (by decide)
      have OKP := Lib.hid okp
      clear names hlt okp
      by_cases hkl : k < xs.length
      · go_wp2_with fail
        refine (read_eq (free_read_some (fs := fa text 0) (n := 1) (f := (text, 0)) rfl) HP.out).mono ?_
        rintro e wq ⟨rfl, hdq, hoq⟩
        have HPq := Lib.hid hdq
        have HOq := Lib.hid (HO.out.trans (hoq.mono fun k _ h => HOWN2.out k h))
        have hc1 : wq.cell? ⟨mc + 1, 1, none⟩ = some (.int .i64 1) := HPq.out.c1
        clear hdq hoq
        go_wp2_with (first | (go_at_call 33; refine (acts_any (mc + 1) 1 _ hc1).mono ?_; rintro e w' ⟨rfl, rfl⟩) | fail)
        refine (list_S (mc + 1) mc _ _ HPq.out OKP.out).mono ?_
        rintro e wl ⟨LA, lc, rfl, hr, hbl⟩
        rw [NAMES.out] at hr
        have HR := Lib.hid hr
        have HOl := Lib.hid (HOq.out.trans (Only.of_below hbl))
        clear hr hbl
        have hcb := World.cell?_alloc_at (w := wl) #[.string ⟨#[97]⟩] 9 wl.heap.size 0 rfl
        have HS := Lib.hid (same_any LA (some ⟨wl.heap.size, 0, none⟩) lc 1 [⟨#[97]⟩] [⟨#[97]⟩] (wl.alloc (.cells #[.string ⟨#[97]⟩] 9)) (HR.out.only ((Only.refl (fun _ => False) wl).alloc _) (fun _ _ x => x)) (fun i hi => ⟨wl.heap.size, 0, rfl, by
          have : i = 0 := by simp at hi; omega
          subst this
          exact hcb⟩) (by decide) (by decide))
        clear hcb
        go_wp2_with fail
        refine HS.out.mono ?_
        rintro e ws ⟨rfl, hos⟩
        have HOs := Lib.hid ((HOl.out.alloc _).trans' hos (fun _ _ h => h) (fun _ _ h => h.elim))
        clear hos HS
        go_wp2
        go_ret
        exact ⟨ret_bool (by simp), HOs.out.below (Nat.le_refl _) (fun k hk h => by omega)⟩
      · go_wp2_with fail
        refine (read_eq (free_read_some (fs := fa text 0) (n := 1) (f := (text, 0)) rfl) HP.out).mono ?_
        rintro e wq ⟨rfl, hdq, hoq⟩
        have HPq := Lib.hid hdq
        have HOq := Lib.hid (HO.out.trans (hoq.mono fun k _ h => HOWN2.out k h))
        have hc1 : wq.cell? ⟨mc + 1, 1, none⟩ = some (.int .i64 1) := HPq.out.c1
        clear hdq hoq
        go_wp2_with (first | (go_at_call 33; refine (acts_any (mc + 1) 1 _ hc1).mono ?_; rintro e w' ⟨rfl, rfl⟩) | fail)
        refine (list_S (mc + 1) mc _ _ HPq.out OKP.out).mono ?_
        rintro e wl ⟨LA, lc, rfl, hr, hbl⟩
        rw [NAMES.out] at hr
        have HR := Lib.hid hr
        have HOl := Lib.hid (HOq.out.trans (Only.of_below hbl))
        clear hr hbl
        have hcb := World.cell?_alloc_at (w := wl) #[.string ⟨#[97]⟩] 9 wl.heap.size 0 rfl
        have HS := Lib.hid (same_any LA (some ⟨wl.heap.size, 0, none⟩) lc 1 [⟨#[97]⟩] [⟨#[97]⟩] (wl.alloc (.cells #[.string ⟨#[97]⟩] 9)) (HR.out.only ((Only.refl (fun _ => False) wl).alloc _) (fun _ _ x => x)) (fun i hi => ⟨wl.heap.size, 0, rfl, by
          have : i = 0 := by simp at hi; omega
          subst this
          exact hcb⟩) (by decide) (by decide))
        clear hcb
        go_wp2_with fail
        refine HS.out.mono ?_
        rintro e ws ⟨rfl, hos⟩
        have HOs := Lib.hid ((HOl.out.alloc _).trans' hos (fun _ _ h => h) (fun _ _ h => h.elim))
        clear hos HS
        go_wp2
        go_ret
        exact ⟨ret_bool (by simp), HOs.out.below (Nat.le_refl _) (fun k hk h => by omega)⟩

theorem diskApart_walk (v0 : Value) {base base' : Nat} {sp : Nat → Bool} {held : Bool} {H : Type} {enc : TypeId × Value → H} {W : World} {d : DataW H} {p : List MemPlace} (o0 : Value.okWide Try.prog W .any base 35 v0) (k0 : DataW.Trod enc Try.prog W base' sp held 35 v0 d p)
    (a1 : ByteArray) (w1 : a1.size ≤ maxLen) :
    Calls Try.prog 8 #[v0, .string a1] W fun e w' => e = .returned (.bool true) ∧ Below W.heap.size W w' := by
  obtain ⟨A, c, xs, rfl, h1⟩ := open_readsA o0 k0
  exact diskApart_any A c xs a1 W h1 w1
end Go.Proofs.Ytekkmfclaepcgaa

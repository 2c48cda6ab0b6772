/- DiskPlays. -/
import Derived.Test.YtekkmfclaepcgaaPlaysA
import Derived.Deep.RegionWith
set_option linter.unusedVariables false
namespace Go.Proofs.Ytekkmfclaepcgaa
open Go.RowKit

theorem cut2k (s : ByteArray) : (s.extract 0 (min (s.size : Int) 2000).toNat).size ≤ 2000 := by
  rw [ByteArray.size_extract]
  omega
/-- Both disks are in one state. -/
structure Both (W wr : World) (mb : Nat) (k : Nat) (D : Dk) : Prop where
  d : DiskIs wr (mb + 1) mb D
  r : ∃ l v, RIs wr (mb + 2) (mb + 2) D l v
  o : Only (fun k => W.heap.size ≤ k) W wr
  ok : D.Ok
  acts : D.acts ≤ k

set_option maxHeartbeats 8000000 in
set_option maxRecDepth 100000 in
theorem diskPlays_any (A : Option Addr) (cp : Nat) (xs : List ActV) (w : World) (hx : ReadsA w A xs) :
    Calls Try.prog 7 #[.slice A xs.length cp] w fun e w' => e = .returned (.bool true) ∧ Below w.heap.size w w' := by
  have hl := hx.len
  unfold maxLen at hl
  have HX := Lib.hid hx
  clear hx
  go_enter Try.func7, Try.ntmps7
  go_wp2_with fail
  refine (awake_any _).mono ?_
  rintro e w1 ⟨rfl, hb1⟩
  have HB1 := Lib.hid hb1
  clear hb1
  go_wp2_with fail
  refine (new_any _).mono ?_
  rintro e w2 ⟨rfl, hw2⟩
  have hd2 := DiskIs.made w1
  have ho2 : Only (fun k => w.heap.size ≤ k) w w2 := by rw [hw2]; exact ((Only.of_below HB1.out).alloc _).alloc _
  have hs1 := HB1.out.size
  have hs2 : w2.heap.size = w1.heap.size + 2 := by rw [hw2]; simp
  rw [← hw2] at hd2
  have HD2 := Lib.hid hd2
  have HO2 := Lib.hid ho2
  clear hw2 hd2 ho2
  obtain ⟨mb, hmb⟩ : ∃ mb, mb = w1.heap.size := ⟨_, rfl⟩
  rw [← hmb] at HD2 hs2 ⊢
  have hmb1 : w.heap.size ≤ mb := by omega
  have own : ∀ k, Own (mb + 1) mb k → w.heap.size ≤ k := by rintro k (h | h) <;> omega
  have HOWN := Lib.hid own
  clear own hmb hs1
  go_wp2_with fail
  refine (rnew_any _).mono ?_
  rintro e w3 ⟨rfl, hw3⟩
  have hr3 := RIs.made w2 w2.heap.size (Nat.le_refl _)
  rw [hs2, ← hw3] at hr3
  have HI := Lib.hid (show Both w w3 mb 0 Dk.new from ⟨by rw [hw3]; exact HD2.out.alloc _, ⟨_, _, hr3⟩, by rw [hw3]; exact HO2.out.alloc _, Dk.new_ok, by simp [Dk.new]⟩)
  rw [hs2]
  clear hw3 hr3 hs2
  go_wp2_with fail
  go_loopw [6] (fun i wr => ∃ (k : Nat) (D : Dk), k ≤ xs.length ∧ k ≤ 200 ∧ i = .int .i64 k ∧ Both w wr mb k D) (fun i _ => xs.length - (intOf i).toNat)
  case atStart => exact ⟨0, _, Nat.zero_le _, by omega, rfl, HI.out⟩
  case round =>
    obtain ⟨k, D, hk, hk200, rfl, hI⟩ := hrel
    obtain ⟨hd, ⟨l, v, hr⟩, ho, hok, hacts⟩ := hI
    have HD := Lib.hid hd
    have HR := Lib.hid hr
    have HO := Lib.hid ho
    have HK := Lib.hid hok
    clear hd hr ho hok HI HD2 HO2 HB1
    by_cases hlt : k < xs.length ∧ k < 200
    · obtain ⟨hlt1, hlt2⟩ := hlt
      obtain ⟨bk, off, rfl, hc⟩ := HX.out.cell k hlt1
      have hxo := HX.out.ok xs[k] (List.getElem_mem hlt1)
      have lb0 := World.block_lt_of_cell? w _ (hc 0 _ rfl)
      simp only at lb0
      have tr : ∀ j v, xs[k].cells[j]? = some v → wr.cell? ⟨bk, off + k * 6 + j, none⟩ = some v := fun j v hj => (HO.out.cell (p := ⟨bk, off + k * 6 + j, none⟩) lb0 (by simp; omega)).trans (hc j v hj)
      have e0 : wr.cell? ⟨bk, off + k * 6, none⟩ = some (.int .i64 xs[k].what) := tr 0 _ rfl
      have e1 := tr 1 _ rfl
      have e2 := tr 2 _ rfl
      have e3 := tr 3 _ rfl
      have e4 := tr 4 _ rfl
      have e5 := tr 5 _ rfl
      have lb := World.block_lt_of_cell? wr _ e0
      simp only at lb
      obtain ⟨m1, m2⟩ := hxo.file
      obtain ⟨m3, m4⟩ := hxo.what
      obtain ⟨m6, m7⟩ := hxo.other
      obtain ⟨m8, m9⟩ := hxo.n
      have m5 := hxo.text
      have HKP := Lib.hid hxo.keep
      unfold maxLen at m5
      generalize xs[k] = x at *
      clear hc tr hxo
      have hts := cut2k x.text
      obtain ⟨q5, q6⟩ := pickT_range x.what 11 (by decide)
      have HPW := Lib.hid (fun W => pick_any x.what 11 W m3 m4 (by decide) (by decide))
      have HNF := Lib.hid (fun W => name_any x.file W m1 m2)
      have HNO := Lib.hid (fun W => name_any x.other W m6 m7)
      have HNL := Lib.hid (And.intro (nameOf_len x.file) (nameOf_len x.other))
      generalize pickOf x.what 11 = V at *
      have HQ := Lib.hid (And.intro q5 q6)
      clear q5 q6
      go_wp2_with fail
      refine (HNF.out _).mono ?_
      rintro e wa ⟨rfl, hba⟩
      have hxc : ∀ j v, x.cells[j]? = some v → wa.cell? ⟨wr.heap.size, j, none⟩ = some v := by
        intro j v hj
        rw [hba.cell (p := ⟨wr.heap.size, j, none⟩) (by simp), World.cell?_alloc_new, ← hj]
        rcases j with _ | _ | _ | _ | _ | _ | j <;> rfl
      have x0 := hxc 0 _ rfl
      have x2 := hxc 2 _ rfl
      have x3 := hxc 3 _ rfl
      have x4 := hxc 4 _ rfl
      have x5 := hxc 5 _ rfl
      have lx := World.block_lt_of_cell? wa _ x0
      simp only at lx
      have HDa := Lib.hid ((HD.out.alloc _).below hba)
      have HRa := Lib.hid ((HR.out.alloc _).below hba)
      have HOa := Lib.hid ((HO.out.alloc _).then_below hba)
      obtain ⟨bx, hbx⟩ : ∃ bx, bx = wr.heap.size := ⟨_, rfl⟩
      have hbx2 : mb + 2 < bx := by have := HR.out.lt; omega
      rw [← hbx] at x0 x2 x3 x4 x5 lx ⊢
      clear hba hxc hbx e0 e1 e2 e3 e4 e5 HD HR HO
      go_wp2_with fail
      refine (HPW.out _).mono ?_
      rintro e w' ⟨rfl, rfl⟩
      generalize nameOf x.file = nm at *
      generalize nameOf x.other = to at *
      have hV : V = 0 ∨ V = 1 ∨ V = 2 ∨ V = 3 ∨ V = 4 ∨ V = 5 ∨ V = 6 ∨ V = 7 ∨ V = 8 ∨ V = 9 ∨ V = 10 := by have := HQ.out; omega
      rcases hV with rfl | rfl | rfl | rfl | rfl | rfl | rfl | rfl | rfl | rfl | rfl
      · skip
        go_wp2_with fail
        generalize x.text.extract 0 (min (x.text.size : Int) 2000).toNat = t at *
        obtain ⟨r, D', hop⟩ : ∃ r D', D.append nm t = (r, D') := ⟨_, _, rfl⟩
        have HK' : Hid D'.Ok := by have := Dk.append_ok HK.out (by omega) nm t; rw [hop] at this; exact Lib.hid this
        have HA' : Hid (D'.acts ≤ k + 1) := by have := Dk.append_acts D nm t; rw [hop] at this; exact Lib.hid (Nat.le_trans this.2 (by omega))
        refine (append_eq hop HDa.out HK.out HNL.out.1 (by unfold maxLen; omega)).mono ?_
        rintro e wb ⟨rfl, hdb, hob⟩
        have HRF := Lib.hid (ref_append hop (HRa.out.own hob) HK.out HNL.out.1 (by unfold maxLen; omega))
        have HDb := Lib.hid hdb
        have HOb := Lib.hid (HOa.out.trans (hob.mono fun k _ h => HOWN.out k h))
        clear hdb hob hop
        go_wp2_with fail
        refine HRF.out.mono ?_
        rintro e wc ⟨rfl, ⟨lc, vc, hrc⟩, hoc⟩
        have HD' := Lib.hid (HDb.out.ref hoc)
        have HR' := Lib.hid hrc
        have HO' := Lib.hid (HOb.out.trans (hoc.mono fun k _ h => by omega))
        clear hrc hoc HDb HOb HRF HDa HRa HOa HPW HNF HNO HKP
        go_wp2_with fail
        obtain ⟨rs, re, hrd⟩ : ∃ rs re, D'.read nm = (rs, re) := ⟨_, _, rfl⟩
        refine (read_eq hrd HD'.out).mono ?_
        rintro e y1 ⟨rfl, hdy, hoy⟩
        have HDy := Lib.hid hdy
        have HRy := Lib.hid (HR'.out.own hoy)
        have HOy := Lib.hid (HO'.out.trans (hoy.mono fun k _ h => HOWN.out k h))
        clear hdy hoy
        have HRD := Lib.hid (ref_read hrd HRy.out)
        clear hrd
        go_wp2_with fail
        refine HRD.out.mono ?_
        rintro e y1' ⟨rfl, rfl⟩
        go_wp2_with fail
        refine (list_S (mb + 1) mb D' _ HDy.out HK'.out).mono ?_
        rintro e y2 ⟨A1, c1, rfl, hS1, hb1⟩
        have HDz := Lib.hid (HDy.out.below hb1)
        have HRz := Lib.hid (HRy.out.below hb1)
        have HOz := Lib.hid (HOy.out.then_below hb1)
        have HS1 := Lib.hid hS1
        clear hb1 hS1
        go_wp2_with fail
        refine (ref_list HRz.out HK'.out).mono ?_
        rintro e y3 ⟨A2, c2, rfl, hS2, hb2⟩
        have hsame := same_any A1 A2 c1 c2 D'.snames D'.snames y3 (HS1.out.below hb2) hS2 (by rw [Dk.snames_length]; have := HK'.out.many; omega) (by rw [Dk.snames_length]; have := HK'.out.many; omega)
        rw [Dk.snames_length] at hsame
        have HSM := Lib.hid hsame
        have HDu := Lib.hid (HDz.out.below hb2)
        have HRu := Lib.hid (HRz.out.below hb2)
        have HOu := Lib.hid (HOz.out.then_below hb2)
        clear hsame hb2 hS2
        go_wp2_with fail
        refine HSM.out.mono ?_
        rintro e y4 ⟨rfl, hn4⟩
        have HB4 := Lib.hid (show Both w y4 mb (k + 1) D' from ⟨HDu.out.only hn4 (fun x => x) (fun x => x), ⟨_, _, HRu.out.only hn4 (fun x => x) (fun _ _ x => x)⟩, HOu.out.trans' hn4 (fun _ _ h => h) (fun _ _ h => h.elim), HK'.out, HA'.out⟩)
        obtain ⟨l4, v4, hr4⟩ := HB4.out.r
        have z1 := HB4.out.d.c1
        have z3 := HB4.out.d.c3
        have z5 := hr4.c1
        have z7 := hr4.c3
        clear hn4 hr4
        go_wp2_with (first | (go_at_call 19; refine (off_any (mb + 1) D'.off _ z3).mono ?_; rintro e w' ⟨rfl, rfl⟩) | (go_at_call 32; refine (roff_any (mb + 2) D'.off _ z7).mono ?_; rintro e w' ⟨rfl, rfl⟩) | (go_at_call 33; refine (acts_any (mb + 1) D'.acts _ z1).mono ?_; rintro e w' ⟨rfl, rfl⟩) | (go_at_call 34; refine (racts_any (mb + 2) D'.acts _ z5).mono ?_; rintro e w' ⟨rfl, rfl⟩))
        go_roundw
        case rel => exact ⟨k + 1, D', by omega, by omega, by go_num, HB4.out⟩
        case measure => simp [intOf]; omega
      · skip
        go_wp2_with fail
        generalize x.text.extract 0 (min (x.text.size : Int) 2000).toNat = t at *
        obtain ⟨r, D', hop⟩ : ∃ r D', D.append nm t = (r, D') := ⟨_, _, rfl⟩
        have HK' : Hid D'.Ok := by have := Dk.append_ok HK.out (by omega) nm t; rw [hop] at this; exact Lib.hid this
        have HA' : Hid (D'.acts ≤ k + 1) := by have := Dk.append_acts D nm t; rw [hop] at this; exact Lib.hid (Nat.le_trans this.2 (by omega))
        refine (append_eq hop HDa.out HK.out HNL.out.1 (by unfold maxLen; omega)).mono ?_
        rintro e wb ⟨rfl, hdb, hob⟩
        have HRF := Lib.hid (ref_append hop (HRa.out.own hob) HK.out HNL.out.1 (by unfold maxLen; omega))
        have HDb := Lib.hid hdb
        have HOb := Lib.hid (HOa.out.trans (hob.mono fun k _ h => HOWN.out k h))
        clear hdb hob hop
        go_wp2_with fail
        refine HRF.out.mono ?_
        rintro e wc ⟨rfl, ⟨lc, vc, hrc⟩, hoc⟩
        have HD' := Lib.hid (HDb.out.ref hoc)
        have HR' := Lib.hid hrc
        have HO' := Lib.hid (HOb.out.trans (hoc.mono fun k _ h => by omega))
        clear hrc hoc HDb HOb HRF HDa HRa HOa HPW HNF HNO HKP
        go_wp2_with fail
        obtain ⟨rs, re, hrd⟩ : ∃ rs re, D'.read nm = (rs, re) := ⟨_, _, rfl⟩
        refine (read_eq hrd HD'.out).mono ?_
        rintro e y1 ⟨rfl, hdy, hoy⟩
        have HDy := Lib.hid hdy
        have HRy := Lib.hid (HR'.out.own hoy)
        have HOy := Lib.hid (HO'.out.trans (hoy.mono fun k _ h => HOWN.out k h))
        clear hdy hoy
        have HRD := Lib.hid (ref_read hrd HRy.out)
        clear hrd
        go_wp2_with fail
        refine HRD.out.mono ?_
        rintro e y1' ⟨rfl, rfl⟩
        go_wp2_with fail
        refine (list_S (mb + 1) mb D' _ HDy.out HK'.out).mono ?_
        rintro e y2 ⟨A1, c1, rfl, hS1, hb1⟩
        have HDz := Lib.hid (HDy.out.below hb1)
        have HRz := Lib.hid (HRy.out.below hb1)
        have HOz := Lib.hid (HOy.out.then_below hb1)
        have HS1 := Lib.hid hS1
        clear hb1 hS1
        go_wp2_with fail
        refine (ref_list HRz.out HK'.out).mono ?_
        rintro e y3 ⟨A2, c2, rfl, hS2, hb2⟩
        have hsame := same_any A1 A2 c1 c2 D'.snames D'.snames y3 (HS1.out.below hb2) hS2 (by rw [Dk.snames_length]; have := HK'.out.many; omega) (by rw [Dk.snames_length]; have := HK'.out.many; omega)
        rw [Dk.snames_length] at hsame
        have HSM := Lib.hid hsame
        have HDu := Lib.hid (HDz.out.below hb2)
        have HRu := Lib.hid (HRz.out.below hb2)
        have HOu := Lib.hid (HOz.out.then_below hb2)
        clear hsame hb2 hS2
        go_wp2_with fail
        refine HSM.out.mono ?_
        rintro e y4 ⟨rfl, hn4⟩
        have HB4 := Lib.hid (show Both w y4 mb (k + 1) D' from ⟨HDu.out.only hn4 (fun x => x) (fun x => x), ⟨_, _, HRu.out.only hn4 (fun x => x) (fun _ _ x => x)⟩, HOu.out.trans' hn4 (fun _ _ h => h) (fun _ _ h => h.elim), HK'.out, HA'.out⟩)
        obtain ⟨l4, v4, hr4⟩ := HB4.out.r
        have z1 := HB4.out.d.c1
        have z3 := HB4.out.d.c3
        have z5 := hr4.c1
        have z7 := hr4.c3
        clear hn4 hr4
        go_wp2_with (first | (go_at_call 19; refine (off_any (mb + 1) D'.off _ z3).mono ?_; rintro e w' ⟨rfl, rfl⟩) | (go_at_call 32; refine (roff_any (mb + 2) D'.off _ z7).mono ?_; rintro e w' ⟨rfl, rfl⟩) | (go_at_call 33; refine (acts_any (mb + 1) D'.acts _ z1).mono ?_; rintro e w' ⟨rfl, rfl⟩) | (go_at_call 34; refine (racts_any (mb + 2) D'.acts _ z5).mono ?_; rintro e w' ⟨rfl, rfl⟩))
        go_roundw
        case rel => exact ⟨k + 1, D', by omega, by omega, by go_num, HB4.out⟩
        case measure => simp [intOf]; omega
      · skip
        go_wp2_with fail
        generalize x.text.extract 0 (min (x.text.size : Int) 2000).toNat = t at *
        obtain ⟨r, D', hop⟩ : ∃ r D', D.append nm t = (r, D') := ⟨_, _, rfl⟩
        have HK' : Hid D'.Ok := by have := Dk.append_ok HK.out (by omega) nm t; rw [hop] at this; exact Lib.hid this
        have HA' : Hid (D'.acts ≤ k + 1) := by have := Dk.append_acts D nm t; rw [hop] at this; exact Lib.hid (Nat.le_trans this.2 (by omega))
        refine (append_eq hop HDa.out HK.out HNL.out.1 (by unfold maxLen; omega)).mono ?_
        rintro e wb ⟨rfl, hdb, hob⟩
        have HRF := Lib.hid (ref_append hop (HRa.out.own hob) HK.out HNL.out.1 (by unfold maxLen; omega))
        have HDb := Lib.hid hdb
        have HOb := Lib.hid (HOa.out.trans (hob.mono fun k _ h => HOWN.out k h))
        clear hdb hob hop
        go_wp2_with fail
        refine HRF.out.mono ?_
        rintro e wc ⟨rfl, ⟨lc, vc, hrc⟩, hoc⟩
        have HD' := Lib.hid (HDb.out.ref hoc)
        have HR' := Lib.hid hrc
        have HO' := Lib.hid (HOb.out.trans (hoc.mono fun k _ h => by omega))
        clear hrc hoc HDb HOb HRF HDa HRa HOa HPW HNF HNO HKP
        go_wp2_with fail
        obtain ⟨rs, re, hrd⟩ : ∃ rs re, D'.read nm = (rs, re) := ⟨_, _, rfl⟩
        refine (read_eq hrd HD'.out).mono ?_
        rintro e y1 ⟨rfl, hdy, hoy⟩
        have HDy := Lib.hid hdy
        have HRy := Lib.hid (HR'.out.own hoy)
        have HOy := Lib.hid (HO'.out.trans (hoy.mono fun k _ h => HOWN.out k h))
        clear hdy hoy
        have HRD := Lib.hid (ref_read hrd HRy.out)
        clear hrd
        go_wp2_with fail
        refine HRD.out.mono ?_
        rintro e y1' ⟨rfl, rfl⟩
        go_wp2_with fail
        refine (list_S (mb + 1) mb D' _ HDy.out HK'.out).mono ?_
        rintro e y2 ⟨A1, c1, rfl, hS1, hb1⟩
        have HDz := Lib.hid (HDy.out.below hb1)
        have HRz := Lib.hid (HRy.out.below hb1)
        have HOz := Lib.hid (HOy.out.then_below hb1)
        have HS1 := Lib.hid hS1
        clear hb1 hS1
        go_wp2_with fail
        refine (ref_list HRz.out HK'.out).mono ?_
        rintro e y3 ⟨A2, c2, rfl, hS2, hb2⟩
        have hsame := same_any A1 A2 c1 c2 D'.snames D'.snames y3 (HS1.out.below hb2) hS2 (by rw [Dk.snames_length]; have := HK'.out.many; omega) (by rw [Dk.snames_length]; have := HK'.out.many; omega)
        rw [Dk.snames_length] at hsame
        have HSM := Lib.hid hsame
        have HDu := Lib.hid (HDz.out.below hb2)
        have HRu := Lib.hid (HRz.out.below hb2)
        have HOu := Lib.hid (HOz.out.then_below hb2)
        clear hsame hb2 hS2
        go_wp2_with fail
        refine HSM.out.mono ?_
        rintro e y4 ⟨rfl, hn4⟩
        have HB4 := Lib.hid (show Both w y4 mb (k + 1) D' from ⟨HDu.out.only hn4 (fun x => x) (fun x => x), ⟨_, _, HRu.out.only hn4 (fun x => x) (fun _ _ x => x)⟩, HOu.out.trans' hn4 (fun _ _ h => h) (fun _ _ h => h.elim), HK'.out, HA'.out⟩)
        obtain ⟨l4, v4, hr4⟩ := HB4.out.r
        have z1 := HB4.out.d.c1
        have z3 := HB4.out.d.c3
        have z5 := hr4.c1
        have z7 := hr4.c3
        clear hn4 hr4
        go_wp2_with (first | (go_at_call 19; refine (off_any (mb + 1) D'.off _ z3).mono ?_; rintro e w' ⟨rfl, rfl⟩) | (go_at_call 32; refine (roff_any (mb + 2) D'.off _ z7).mono ?_; rintro e w' ⟨rfl, rfl⟩) | (go_at_call 33; refine (acts_any (mb + 1) D'.acts _ z1).mono ?_; rintro e w' ⟨rfl, rfl⟩) | (go_at_call 34; refine (racts_any (mb + 2) D'.acts _ z5).mono ?_; rintro e w' ⟨rfl, rfl⟩))
        go_roundw
        case rel => exact ⟨k + 1, D', by omega, by omega, by go_num, HB4.out⟩
        case measure => simp [intOf]; omega
      · skip
        go_wp2_with fail
        generalize x.text.extract 0 (min (x.text.size : Int) 2000).toNat = t at *
        obtain ⟨r, D', hop⟩ : ∃ r D', D.append nm t = (r, D') := ⟨_, _, rfl⟩
        have HK' : Hid D'.Ok := by have := Dk.append_ok HK.out (by omega) nm t; rw [hop] at this; exact Lib.hid this
        have HA' : Hid (D'.acts ≤ k + 1) := by have := Dk.append_acts D nm t; rw [hop] at this; exact Lib.hid (Nat.le_trans this.2 (by omega))
        refine (append_eq hop HDa.out HK.out HNL.out.1 (by unfold maxLen; omega)).mono ?_
        rintro e wb ⟨rfl, hdb, hob⟩
        have HRF := Lib.hid (ref_append hop (HRa.out.own hob) HK.out HNL.out.1 (by unfold maxLen; omega))
        have HDb := Lib.hid hdb
        have HOb := Lib.hid (HOa.out.trans (hob.mono fun k _ h => HOWN.out k h))
        clear hdb hob hop
        go_wp2_with fail
        refine HRF.out.mono ?_
        rintro e wc ⟨rfl, ⟨lc, vc, hrc⟩, hoc⟩
        have HD' := Lib.hid (HDb.out.ref hoc)
        have HR' := Lib.hid hrc
        have HO' := Lib.hid (HOb.out.trans (hoc.mono fun k _ h => by omega))
        clear hrc hoc HDb HOb HRF HDa HRa HOa HPW HNF HNO HKP
        go_wp2_with fail
        obtain ⟨rs, re, hrd⟩ : ∃ rs re, D'.read nm = (rs, re) := ⟨_, _, rfl⟩
        refine (read_eq hrd HD'.out).mono ?_
        rintro e y1 ⟨rfl, hdy, hoy⟩
        have HDy := Lib.hid hdy
        have HRy := Lib.hid (HR'.out.own hoy)
        have HOy := Lib.hid (HO'.out.trans (hoy.mono fun k _ h => HOWN.out k h))
        clear hdy hoy
        have HRD := Lib.hid (ref_read hrd HRy.out)
        clear hrd
        go_wp2_with fail
        refine HRD.out.mono ?_
        rintro e y1' ⟨rfl, rfl⟩
        go_wp2_with fail
        refine (list_S (mb + 1) mb D' _ HDy.out HK'.out).mono ?_
        rintro e y2 ⟨A1, c1, rfl, hS1, hb1⟩
        have HDz := Lib.hid (HDy.out.below hb1)
        have HRz := Lib.hid (HRy.out.below hb1)
        have HOz := Lib.hid (HOy.out.then_below hb1)
        have HS1 := Lib.hid hS1
        clear hb1 hS1
        go_wp2_with fail
        refine (ref_list HRz.out HK'.out).mono ?_
        rintro e y3 ⟨A2, c2, rfl, hS2, hb2⟩
        have hsame := same_any A1 A2 c1 c2 D'.snames D'.snames y3 (HS1.out.below hb2) hS2 (by rw [Dk.snames_length]; have := HK'.out.many; omega) (by rw [Dk.snames_length]; have := HK'.out.many; omega)
        rw [Dk.snames_length] at hsame
        have HSM := Lib.hid hsame
        have HDu := Lib.hid (HDz.out.below hb2)
        have HRu := Lib.hid (HRz.out.below hb2)
        have HOu := Lib.hid (HOz.out.then_below hb2)
        clear hsame hb2 hS2
        go_wp2_with fail
        refine HSM.out.mono ?_
        rintro e y4 ⟨rfl, hn4⟩
        have HB4 := Lib.hid (show Both w y4 mb (k + 1) D' from ⟨HDu.out.only hn4 (fun x => x) (fun x => x), ⟨_, _, HRu.out.only hn4 (fun x => x) (fun _ _ x => x)⟩, HOu.out.trans' hn4 (fun _ _ h => h) (fun _ _ h => h.elim), HK'.out, HA'.out⟩)
        obtain ⟨l4, v4, hr4⟩ := HB4.out.r
        have z1 := HB4.out.d.c1
        have z3 := HB4.out.d.c3
        have z5 := hr4.c1
        have z7 := hr4.c3
        clear hn4 hr4
        go_wp2_with (first | (go_at_call 19; refine (off_any (mb + 1) D'.off _ z3).mono ?_; rintro e w' ⟨rfl, rfl⟩) | (go_at_call 32; refine (roff_any (mb + 2) D'.off _ z7).mono ?_; rintro e w' ⟨rfl, rfl⟩) | (go_at_call 33; refine (acts_any (mb + 1) D'.acts _ z1).mono ?_; rintro e w' ⟨rfl, rfl⟩) | (go_at_call 34; refine (racts_any (mb + 2) D'.acts _ z5).mono ?_; rintro e w' ⟨rfl, rfl⟩))
        go_roundw
        case rel => exact ⟨k + 1, D', by omega, by omega, by go_num, HB4.out⟩
        case measure => simp [intOf]; omega
      · skip
        go_wp2_with fail
        obtain ⟨r, D', hop⟩ : ∃ r D', D.sync nm = (r, D') := ⟨_, _, rfl⟩
        have HK' : Hid D'.Ok := by have := Dk.sync_ok HK.out (by omega) nm; rw [hop] at this; exact Lib.hid this
        have HA' : Hid (D'.acts ≤ k + 1) := by have := Dk.sync_acts D nm; rw [hop] at this; exact Lib.hid (Nat.le_trans this.2 (by omega))
        refine (sync_eq hop HDa.out HK.out).mono ?_
        rintro e wb ⟨rfl, hdb, hob⟩
        have HRF := Lib.hid (ref_sync hop (HRa.out.own hob) HK.out)
        have HDb := Lib.hid hdb
        have HOb := Lib.hid (HOa.out.trans (hob.mono fun k _ h => HOWN.out k h))
        clear hdb hob hop
        go_wp2_with fail
        refine HRF.out.mono ?_
        rintro e wc ⟨rfl, ⟨lc, vc, hrc⟩, hoc⟩
        have HD' := Lib.hid (HDb.out.ref hoc)
        have HR' := Lib.hid hrc
        have HO' := Lib.hid (HOb.out.trans (hoc.mono fun k _ h => by omega))
        clear hrc hoc HDb HOb HRF HDa HRa HOa HPW HNF HNO HKP
        go_wp2_with fail
        obtain ⟨rs, re, hrd⟩ : ∃ rs re, D'.read nm = (rs, re) := ⟨_, _, rfl⟩
        refine (read_eq hrd HD'.out).mono ?_
        rintro e y1 ⟨rfl, hdy, hoy⟩
        have HDy := Lib.hid hdy
        have HRy := Lib.hid (HR'.out.own hoy)
        have HOy := Lib.hid (HO'.out.trans (hoy.mono fun k _ h => HOWN.out k h))
        clear hdy hoy
        have HRD := Lib.hid (ref_read hrd HRy.out)
        clear hrd
        go_wp2_with fail
        refine HRD.out.mono ?_
        rintro e y1' ⟨rfl, rfl⟩
        go_wp2_with fail
        refine (list_S (mb + 1) mb D' _ HDy.out HK'.out).mono ?_
        rintro e y2 ⟨A1, c1, rfl, hS1, hb1⟩
        have HDz := Lib.hid (HDy.out.below hb1)
        have HRz := Lib.hid (HRy.out.below hb1)
        have HOz := Lib.hid (HOy.out.then_below hb1)
        have HS1 := Lib.hid hS1
        clear hb1 hS1
        go_wp2_with fail
        refine (ref_list HRz.out HK'.out).mono ?_
        rintro e y3 ⟨A2, c2, rfl, hS2, hb2⟩
        have hsame := same_any A1 A2 c1 c2 D'.snames D'.snames y3 (HS1.out.below hb2) hS2 (by rw [Dk.snames_length]; have := HK'.out.many; omega) (by rw [Dk.snames_length]; have := HK'.out.many; omega)
        rw [Dk.snames_length] at hsame
        have HSM := Lib.hid hsame
        have HDu := Lib.hid (HDz.out.below hb2)
        have HRu := Lib.hid (HRz.out.below hb2)
        have HOu := Lib.hid (HOz.out.then_below hb2)
        clear hsame hb2 hS2
        go_wp2_with fail
        refine HSM.out.mono ?_
        rintro e y4 ⟨rfl, hn4⟩
        have HB4 := Lib.hid (show Both w y4 mb (k + 1) D' from ⟨HDu.out.only hn4 (fun x => x) (fun x => x), ⟨_, _, HRu.out.only hn4 (fun x => x) (fun _ _ x => x)⟩, HOu.out.trans' hn4 (fun _ _ h => h) (fun _ _ h => h.elim), HK'.out, HA'.out⟩)
        obtain ⟨l4, v4, hr4⟩ := HB4.out.r
        have z1 := HB4.out.d.c1
        have z3 := HB4.out.d.c3
        have z5 := hr4.c1
        have z7 := hr4.c3
        clear hn4 hr4
        go_wp2_with (first | (go_at_call 19; refine (off_any (mb + 1) D'.off _ z3).mono ?_; rintro e w' ⟨rfl, rfl⟩) | (go_at_call 32; refine (roff_any (mb + 2) D'.off _ z7).mono ?_; rintro e w' ⟨rfl, rfl⟩) | (go_at_call 33; refine (acts_any (mb + 1) D'.acts _ z1).mono ?_; rintro e w' ⟨rfl, rfl⟩) | (go_at_call 34; refine (racts_any (mb + 2) D'.acts _ z5).mono ?_; rintro e w' ⟨rfl, rfl⟩))
        go_roundw
        case rel => exact ⟨k + 1, D', by omega, by omega, by go_num, HB4.out⟩
        case measure => simp [intOf]; omega
      · skip
        go_wp2_with fail
        obtain ⟨r, D', hop⟩ : ∃ r D', D.sync nm = (r, D') := ⟨_, _, rfl⟩
        have HK' : Hid D'.Ok := by have := Dk.sync_ok HK.out (by omega) nm; rw [hop] at this; exact Lib.hid this
        have HA' : Hid (D'.acts ≤ k + 1) := by have := Dk.sync_acts D nm; rw [hop] at this; exact Lib.hid (Nat.le_trans this.2 (by omega))
        refine (sync_eq hop HDa.out HK.out).mono ?_
        rintro e wb ⟨rfl, hdb, hob⟩
        have HRF := Lib.hid (ref_sync hop (HRa.out.own hob) HK.out)
        have HDb := Lib.hid hdb
        have HOb := Lib.hid (HOa.out.trans (hob.mono fun k _ h => HOWN.out k h))
        clear hdb hob hop
        go_wp2_with fail
        refine HRF.out.mono ?_
        rintro e wc ⟨rfl, ⟨lc, vc, hrc⟩, hoc⟩
        have HD' := Lib.hid (HDb.out.ref hoc)
        have HR' := Lib.hid hrc
        have HO' := Lib.hid (HOb.out.trans (hoc.mono fun k _ h => by omega))
        clear hrc hoc HDb HOb HRF HDa HRa HOa HPW HNF HNO HKP
        go_wp2_with fail
        obtain ⟨rs, re, hrd⟩ : ∃ rs re, D'.read nm = (rs, re) := ⟨_, _, rfl⟩
        refine (read_eq hrd HD'.out).mono ?_
        rintro e y1 ⟨rfl, hdy, hoy⟩
        have HDy := Lib.hid hdy
        have HRy := Lib.hid (HR'.out.own hoy)
        have HOy := Lib.hid (HO'.out.trans (hoy.mono fun k _ h => HOWN.out k h))
        clear hdy hoy
        have HRD := Lib.hid (ref_read hrd HRy.out)
        clear hrd
        go_wp2_with fail
        refine HRD.out.mono ?_
        rintro e y1' ⟨rfl, rfl⟩
        go_wp2_with fail
        refine (list_S (mb + 1) mb D' _ HDy.out HK'.out).mono ?_
        rintro e y2 ⟨A1, c1, rfl, hS1, hb1⟩
        have HDz := Lib.hid (HDy.out.below hb1)
        have HRz := Lib.hid (HRy.out.below hb1)
        have HOz := Lib.hid (HOy.out.then_below hb1)
        have HS1 := Lib.hid hS1
        clear hb1 hS1
        go_wp2_with fail
        refine (ref_list HRz.out HK'.out).mono ?_
        rintro e y3 ⟨A2, c2, rfl, hS2, hb2⟩
        have hsame := same_any A1 A2 c1 c2 D'.snames D'.snames y3 (HS1.out.below hb2) hS2 (by rw [Dk.snames_length]; have := HK'.out.many; omega) (by rw [Dk.snames_length]; have := HK'.out.many; omega)
        rw [Dk.snames_length] at hsame
        have HSM := Lib.hid hsame
        have HDu := Lib.hid (HDz.out.below hb2)
        have HRu := Lib.hid (HRz.out.below hb2)
        have HOu := Lib.hid (HOz.out.then_below hb2)
        clear hsame hb2 hS2
        go_wp2_with fail
        refine HSM.out.mono ?_
        rintro e y4 ⟨rfl, hn4⟩
        have HB4 := Lib.hid (show Both w y4 mb (k + 1) D' from ⟨HDu.out.only hn4 (fun x => x) (fun x => x), ⟨_, _, HRu.out.only hn4 (fun x => x) (fun _ _ x => x)⟩, HOu.out.trans' hn4 (fun _ _ h => h) (fun _ _ h => h.elim), HK'.out, HA'.out⟩)
        obtain ⟨l4, v4, hr4⟩ := HB4.out.r
        have z1 := HB4.out.d.c1
        have z3 := HB4.out.d.c3
        have z5 := hr4.c1
        have z7 := hr4.c3
        clear hn4 hr4
        go_wp2_with (first | (go_at_call 19; refine (off_any (mb + 1) D'.off _ z3).mono ?_; rintro e w' ⟨rfl, rfl⟩) | (go_at_call 32; refine (roff_any (mb + 2) D'.off _ z7).mono ?_; rintro e w' ⟨rfl, rfl⟩) | (go_at_call 33; refine (acts_any (mb + 1) D'.acts _ z1).mono ?_; rintro e w' ⟨rfl, rfl⟩) | (go_at_call 34; refine (racts_any (mb + 2) D'.acts _ z5).mono ?_; rintro e w' ⟨rfl, rfl⟩))
        go_roundw
        case rel => exact ⟨k + 1, D', by omega, by omega, by go_num, HB4.out⟩
        case measure => simp [intOf]; omega
      · skip
        go_wp2_with fail
        obtain ⟨r, D', hop⟩ : ∃ r D', D.rename nm to = (r, D') := ⟨_, _, rfl⟩
        have HK' : Hid D'.Ok := by have := Dk.rename_ok HK.out (by omega) nm to; rw [hop] at this; exact Lib.hid this
        have HA' : Hid (D'.acts ≤ k + 1) := by have := Dk.rename_acts D nm to; rw [hop] at this; exact Lib.hid (Nat.le_trans this.2 (by omega))
        have HOP := Lib.hid hop
        clear hop HPW HNF HKP
        have t1 := True.intro
        go_region_with (first
          | (go_at_call 22; clear t1; refine (HNO.out _).mono ?_; rintro e wn ⟨rfl, hbn⟩; have hbn' : Below wa.heap.size wa wn := (by first | exact hbn | exact ⟨hbn.os, hbn.tape, hbn.output, hbn.size, hbn.block⟩); have x2n := (hbn'.cell (p := ⟨bx, 2, none⟩) lx).trans x2; have HDn := Lib.hid (HDa.out.below hbn'); have HRn := Lib.hid (HRa.out.below hbn'); have HOn := Lib.hid (HOa.out.then_below hbn'); have lxn := Nat.lt_of_lt_of_le lx hbn'.size; clear hbn hbn')
          | (go_at_call 20; refine (rename_eq HOP.out (w := wn) HDn.out HK.out HNL.out.2).mono ?_; rintro e wd ⟨rfl, hdd, hod⟩; have x2d := (hod.cell (p := ⟨bx, 2, none⟩) lxn (by unfold Own; simp; omega)).trans x2n; have HDd := Lib.hid hdd; have HRd := Lib.hid (HRn.out.own hod); have HOd := Lib.hid (HOn.out.trans (hod.mono fun k _ h => HOWN.out k h)); clear hdd hod)
          | (go_at_call 22; refine (HNO.out _).mono ?_; rintro e wm ⟨rfl, hbm⟩; have HDm := Lib.hid (HDd.out.below hbm); have HRm := Lib.hid (HRd.out.below hbm); have HOm := Lib.hid (HOd.out.then_below hbm); clear hbm)
          | (go_at_call 25; refine (ref_rename HOP.out HRm.out HK.out HNL.out.2).mono ?_; rintro e wc ⟨rfl, ⟨lc, vc, hrc⟩, hoc⟩; have HD' := Lib.hid (HDm.out.ref hoc); have HR' := Lib.hid hrc; have HO' := Lib.hid (HOm.out.trans (hoc.mono fun k _ h => by omega)); clear hrc hoc))
        all_goals (
          go_wp2_with fail
          obtain ⟨rs, re, hrd⟩ : ∃ rs re, D'.read nm = (rs, re) := ⟨_, _, rfl⟩
          refine (read_eq hrd HD'.out).mono ?_
          rintro e y1 ⟨rfl, hdy, hoy⟩
          have HDy := Lib.hid hdy
          have HRy := Lib.hid (HR'.out.own hoy)
          have HOy := Lib.hid (HO'.out.trans (hoy.mono fun k _ h => HOWN.out k h))
          clear hdy hoy
          have HRD := Lib.hid (ref_read hrd HRy.out)
          clear hrd
          go_wp2_with fail
          refine HRD.out.mono ?_
          rintro e y1' ⟨rfl, rfl⟩
          go_wp2_with fail
          refine (list_S (mb + 1) mb D' _ HDy.out HK'.out).mono ?_
          rintro e y2 ⟨A1, c1, rfl, hS1, hb1⟩
          have HDz := Lib.hid (HDy.out.below hb1)
          have HRz := Lib.hid (HRy.out.below hb1)
          have HOz := Lib.hid (HOy.out.then_below hb1)
          have HS1 := Lib.hid hS1
          clear hb1 hS1
          go_wp2_with fail
          refine (ref_list HRz.out HK'.out).mono ?_
          rintro e y3 ⟨A2, c2, rfl, hS2, hb2⟩
          have hsame := same_any A1 A2 c1 c2 D'.snames D'.snames y3 (HS1.out.below hb2) hS2 (by rw [Dk.snames_length]; have := HK'.out.many; omega) (by rw [Dk.snames_length]; have := HK'.out.many; omega)
          rw [Dk.snames_length] at hsame
          have HSM := Lib.hid hsame
          have HDu := Lib.hid (HDz.out.below hb2)
          have HRu := Lib.hid (HRz.out.below hb2)
          have HOu := Lib.hid (HOz.out.then_below hb2)
          clear hsame hb2 hS2
          go_wp2_with fail
          refine HSM.out.mono ?_
          rintro e y4 ⟨rfl, hn4⟩
          have HB4 := Lib.hid (show Both w y4 mb (k + 1) D' from ⟨HDu.out.only hn4 (fun x => x) (fun x => x), ⟨_, _, HRu.out.only hn4 (fun x => x) (fun _ _ x => x)⟩, HOu.out.trans' hn4 (fun _ _ h => h) (fun _ _ h => h.elim), HK'.out, HA'.out⟩)
          obtain ⟨l4, v4, hr4⟩ := HB4.out.r
          have z1 := HB4.out.d.c1
          have z3 := HB4.out.d.c3
          have z5 := hr4.c1
          have z7 := hr4.c3
          clear hn4 hr4
          go_wp2_with (first | (go_at_call 19; refine (off_any (mb + 1) D'.off _ z3).mono ?_; rintro e w' ⟨rfl, rfl⟩) | (go_at_call 32; refine (roff_any (mb + 2) D'.off _ z7).mono ?_; rintro e w' ⟨rfl, rfl⟩) | (go_at_call 33; refine (acts_any (mb + 1) D'.acts _ z1).mono ?_; rintro e w' ⟨rfl, rfl⟩) | (go_at_call 34; refine (racts_any (mb + 2) D'.acts _ z5).mono ?_; rintro e w' ⟨rfl, rfl⟩))
          go_roundw
          case rel => exact ⟨k + 1, D', by omega, by omega, by go_num, HB4.out⟩
          case measure => simp [intOf]; omega)
      · skip
        go_wp2_with fail
        obtain ⟨r, D', hop⟩ : ∃ r D', D.remove nm = (r, D') := ⟨_, _, rfl⟩
        have HK' : Hid D'.Ok := by have := Dk.remove_ok HK.out (by omega) nm; rw [hop] at this; exact Lib.hid this
        have HA' : Hid (D'.acts ≤ k + 1) := by have := Dk.remove_acts D nm; rw [hop] at this; exact Lib.hid (Nat.le_trans this.2 (by omega))
        refine (remove_eq hop HDa.out HK.out).mono ?_
        rintro e wb ⟨rfl, hdb, hob⟩
        have HRF := Lib.hid (ref_remove hop (HRa.out.own hob) HK.out)
        have HDb := Lib.hid hdb
        have HOb := Lib.hid (HOa.out.trans (hob.mono fun k _ h => HOWN.out k h))
        clear hdb hob hop
        go_wp2_with fail
        refine HRF.out.mono ?_
        rintro e wc ⟨rfl, ⟨lc, vc, hrc⟩, hoc⟩
        have HD' := Lib.hid (HDb.out.ref hoc)
        have HR' := Lib.hid hrc
        have HO' := Lib.hid (HOb.out.trans (hoc.mono fun k _ h => by omega))
        clear hrc hoc HDb HOb HRF HDa HRa HOa HPW HNF HNO HKP
        go_wp2_with fail
        obtain ⟨rs, re, hrd⟩ : ∃ rs re, D'.read nm = (rs, re) := ⟨_, _, rfl⟩
        refine (read_eq hrd HD'.out).mono ?_
        rintro e y1 ⟨rfl, hdy, hoy⟩
        have HDy := Lib.hid hdy
        have HRy := Lib.hid (HR'.out.own hoy)
        have HOy := Lib.hid (HO'.out.trans (hoy.mono fun k _ h => HOWN.out k h))
        clear hdy hoy
        have HRD := Lib.hid (ref_read hrd HRy.out)
        clear hrd
        go_wp2_with fail
        refine HRD.out.mono ?_
        rintro e y1' ⟨rfl, rfl⟩
        go_wp2_with fail
        refine (list_S (mb + 1) mb D' _ HDy.out HK'.out).mono ?_
        rintro e y2 ⟨A1, c1, rfl, hS1, hb1⟩
        have HDz := Lib.hid (HDy.out.below hb1)
        have HRz := Lib.hid (HRy.out.below hb1)
        have HOz := Lib.hid (HOy.out.then_below hb1)
        have HS1 := Lib.hid hS1
        clear hb1 hS1
        go_wp2_with fail
        refine (ref_list HRz.out HK'.out).mono ?_
        rintro e y3 ⟨A2, c2, rfl, hS2, hb2⟩
        have hsame := same_any A1 A2 c1 c2 D'.snames D'.snames y3 (HS1.out.below hb2) hS2 (by rw [Dk.snames_length]; have := HK'.out.many; omega) (by rw [Dk.snames_length]; have := HK'.out.many; omega)
        rw [Dk.snames_length] at hsame
        have HSM := Lib.hid hsame
        have HDu := Lib.hid (HDz.out.below hb2)
        have HRu := Lib.hid (HRz.out.below hb2)
        have HOu := Lib.hid (HOz.out.then_below hb2)
        clear hsame hb2 hS2
        go_wp2_with fail
        refine HSM.out.mono ?_
        rintro e y4 ⟨rfl, hn4⟩
        have HB4 := Lib.hid (show Both w y4 mb (k + 1) D' from ⟨HDu.out.only hn4 (fun x => x) (fun x => x), ⟨_, _, HRu.out.only hn4 (fun x => x) (fun _ _ x => x)⟩, HOu.out.trans' hn4 (fun _ _ h => h) (fun _ _ h => h.elim), HK'.out, HA'.out⟩)
        obtain ⟨l4, v4, hr4⟩ := HB4.out.r
        have z1 := HB4.out.d.c1
        have z3 := HB4.out.d.c3
        have z5 := hr4.c1
        have z7 := hr4.c3
        clear hn4 hr4
        go_wp2_with (first | (go_at_call 19; refine (off_any (mb + 1) D'.off _ z3).mono ?_; rintro e w' ⟨rfl, rfl⟩) | (go_at_call 32; refine (roff_any (mb + 2) D'.off _ z7).mono ?_; rintro e w' ⟨rfl, rfl⟩) | (go_at_call 33; refine (acts_any (mb + 1) D'.acts _ z1).mono ?_; rintro e w' ⟨rfl, rfl⟩) | (go_at_call 34; refine (racts_any (mb + 2) D'.acts _ z5).mono ?_; rintro e w' ⟨rfl, rfl⟩))
        go_roundw
        case rel => exact ⟨k + 1, D', by omega, by omega, by go_num, HB4.out⟩
        case measure => simp [intOf]; omega
      · skip
        go_wp2_with fail
        obtain ⟨r, D', hop⟩ : ∃ r D', D.arm x.n = (r, D') := ⟨_, _, rfl⟩
        have HK' : Hid D'.Ok := by have := Dk.arm_ok HK.out (by omega) x.n; rw [hop] at this; exact Lib.hid this
        have HA' : Hid (D'.acts ≤ k + 1) := by have := Dk.arm_acts D x.n; rw [hop] at this; exact Lib.hid (by simp only at this; omega)
        have HOP := Lib.hid hop
        clear hop HPW HNF HKP
        go_region_with (first
          | (go_at_call 18; refine (arm_eq HOP.out (w := wa.drew) HDa.out.drew HK.out m8 m9).mono ?_; rintro e wb ⟨rfl, hdb, hob⟩; have x3b := (hob.cell (p := ⟨bx, 3, none⟩) lx (by unfold Own; simp; omega)).trans x3; have HDb := Lib.hid hdb; have HRb := Lib.hid (RIs.own HRa.out.drew hob); have HOb := Lib.hid (HOa.out.drew.trans (hob.mono fun k _ h => HOWN.out k h)); clear hdb hob)
          | (go_at_call 28; refine (ref_arm HOP.out HRb.out HK.out m8 m9).mono ?_; rintro e wc ⟨rfl, ⟨lc, vc, hrc⟩, hoc⟩; have HD' := Lib.hid (HDb.out.ref hoc); have HR' := Lib.hid hrc; have HO' := Lib.hid (HOb.out.trans (hoc.mono fun k _ h => by omega)); clear hrc hoc))
        all_goals (
          go_wp2_with fail
          obtain ⟨rs, re, hrd⟩ : ∃ rs re, D'.read nm = (rs, re) := ⟨_, _, rfl⟩
          refine (read_eq hrd HD'.out).mono ?_
          rintro e y1 ⟨rfl, hdy, hoy⟩
          have HDy := Lib.hid hdy
          have HRy := Lib.hid (HR'.out.own hoy)
          have HOy := Lib.hid (HO'.out.trans (hoy.mono fun k _ h => HOWN.out k h))
          clear hdy hoy
          have HRD := Lib.hid (ref_read hrd HRy.out)
          clear hrd
          go_wp2_with fail
          refine HRD.out.mono ?_
          rintro e y1' ⟨rfl, rfl⟩
          go_wp2_with fail
          refine (list_S (mb + 1) mb D' _ HDy.out HK'.out).mono ?_
          rintro e y2 ⟨A1, c1, rfl, hS1, hb1⟩
          have HDz := Lib.hid (HDy.out.below hb1)
          have HRz := Lib.hid (HRy.out.below hb1)
          have HOz := Lib.hid (HOy.out.then_below hb1)
          have HS1 := Lib.hid hS1
          clear hb1 hS1
          go_wp2_with fail
          refine (ref_list HRz.out HK'.out).mono ?_
          rintro e y3 ⟨A2, c2, rfl, hS2, hb2⟩
          have hsame := same_any A1 A2 c1 c2 D'.snames D'.snames y3 (HS1.out.below hb2) hS2 (by rw [Dk.snames_length]; have := HK'.out.many; omega) (by rw [Dk.snames_length]; have := HK'.out.many; omega)
          rw [Dk.snames_length] at hsame
          have HSM := Lib.hid hsame
          have HDu := Lib.hid (HDz.out.below hb2)
          have HRu := Lib.hid (HRz.out.below hb2)
          have HOu := Lib.hid (HOz.out.then_below hb2)
          clear hsame hb2 hS2
          go_wp2_with fail
          refine HSM.out.mono ?_
          rintro e y4 ⟨rfl, hn4⟩
          have HB4 := Lib.hid (show Both w y4 mb (k + 1) D' from ⟨HDu.out.only hn4 (fun x => x) (fun x => x), ⟨_, _, HRu.out.only hn4 (fun x => x) (fun _ _ x => x)⟩, HOu.out.trans' hn4 (fun _ _ h => h) (fun _ _ h => h.elim), HK'.out, HA'.out⟩)
          obtain ⟨l4, v4, hr4⟩ := HB4.out.r
          have z1 := HB4.out.d.c1
          have z3 := HB4.out.d.c3
          have z5 := hr4.c1
          have z7 := hr4.c3
          clear hn4 hr4
          go_wp2_with (first | (go_at_call 19; refine (off_any (mb + 1) D'.off _ z3).mono ?_; rintro e w' ⟨rfl, rfl⟩) | (go_at_call 32; refine (roff_any (mb + 2) D'.off _ z7).mono ?_; rintro e w' ⟨rfl, rfl⟩) | (go_at_call 33; refine (acts_any (mb + 1) D'.acts _ z1).mono ?_; rintro e w' ⟨rfl, rfl⟩) | (go_at_call 34; refine (racts_any (mb + 2) D'.acts _ z5).mono ?_; rintro e w' ⟨rfl, rfl⟩))
          go_roundw
          case rel => exact ⟨k + 1, D', by omega, by omega, by go_num, HB4.out⟩
          case measure => simp [intOf]; omega)
      · skip
        go_wp2_with fail
        obtain ⟨D', hop⟩ : ∃ D', D.restart x.keep = D' := ⟨_, rfl⟩
        have HK' : Hid D'.Ok := by have := Dk.restart_ok HK.out x.keep; rw [hop] at this; exact Lib.hid this
        have HA' : Hid (D'.acts ≤ k + 1) := by have := Dk.restart_acts D x.keep; rw [hop] at this; exact Lib.hid (by omega)
        have hkb : ∀ ad, x.kA = some ad → 0 < x.keep.length → ad.block < w.heap.size := fun ad had hpos => by
          obtain ⟨bk2, off2, h1, h2, _⟩ := HKP.out.at 0 hpos
          rw [had] at h1
          cases h1
          exact h2
        have hka : ReadsI wa x.kA x.keep := HKP.out.keepW HOa.out (fun k hk h => by omega)
        refine (restart_eq hop rfl HDa.out HK.out (fun ad had hpos => by have := hkb ad had hpos; omega) hka).mono ?_
        rintro e wb ⟨rfl, hdb, hob⟩
        have HOb := Lib.hid (HOa.out.trans (hob.mono fun k _ h => HOWN.out k h))
        have hx5 := (hob.cell (p := ⟨bx, 5, none⟩) lx (by unfold Own; simp; omega)).trans x5
        have HRF := Lib.hid (ref_restart hop rfl (HRa.out.own hob) HK.out (c := x.kc) (fun ad had hpos => by have := hkb ad had hpos; omega) (HKP.out.keepW HOb.out (fun k hk h => by omega)))
        have HDb := Lib.hid hdb
        clear hdb hob hop hkb hka
        go_wp2_with fail
        refine HRF.out.mono ?_
        rintro e wc ⟨rfl, ⟨lc, vc, hrc⟩, hoc⟩
        have HD' := Lib.hid (HDb.out.ref hoc)
        have HR' := Lib.hid hrc
        have HO' := Lib.hid (HOb.out.trans (hoc.mono fun k _ h => by omega))
        clear hrc hoc HDb HOb HRF HDa HRa HOa HPW HNF HNO HKP hx5
        go_wp2_with fail
        obtain ⟨rs, re, hrd⟩ : ∃ rs re, D'.read nm = (rs, re) := ⟨_, _, rfl⟩
        refine (read_eq hrd HD'.out).mono ?_
        rintro e y1 ⟨rfl, hdy, hoy⟩
        have HDy := Lib.hid hdy
        have HRy := Lib.hid (HR'.out.own hoy)
        have HOy := Lib.hid (HO'.out.trans (hoy.mono fun k _ h => HOWN.out k h))
        clear hdy hoy
        have HRD := Lib.hid (ref_read hrd HRy.out)
        clear hrd
        go_wp2_with fail
        refine HRD.out.mono ?_
        rintro e y1' ⟨rfl, rfl⟩
        go_wp2_with fail
        refine (list_S (mb + 1) mb D' _ HDy.out HK'.out).mono ?_
        rintro e y2 ⟨A1, c1, rfl, hS1, hb1⟩
        have HDz := Lib.hid (HDy.out.below hb1)
        have HRz := Lib.hid (HRy.out.below hb1)
        have HOz := Lib.hid (HOy.out.then_below hb1)
        have HS1 := Lib.hid hS1
        clear hb1 hS1
        go_wp2_with fail
        refine (ref_list HRz.out HK'.out).mono ?_
        rintro e y3 ⟨A2, c2, rfl, hS2, hb2⟩
        have hsame := same_any A1 A2 c1 c2 D'.snames D'.snames y3 (HS1.out.below hb2) hS2 (by rw [Dk.snames_length]; have := HK'.out.many; omega) (by rw [Dk.snames_length]; have := HK'.out.many; omega)
        rw [Dk.snames_length] at hsame
        have HSM := Lib.hid hsame
        have HDu := Lib.hid (HDz.out.below hb2)
        have HRu := Lib.hid (HRz.out.below hb2)
        have HOu := Lib.hid (HOz.out.then_below hb2)
        clear hsame hb2 hS2
        go_wp2_with fail
        refine HSM.out.mono ?_
        rintro e y4 ⟨rfl, hn4⟩
        have HB4 := Lib.hid (show Both w y4 mb (k + 1) D' from ⟨HDu.out.only hn4 (fun x => x) (fun x => x), ⟨_, _, HRu.out.only hn4 (fun x => x) (fun _ _ x => x)⟩, HOu.out.trans' hn4 (fun _ _ h => h) (fun _ _ h => h.elim), HK'.out, HA'.out⟩)
        obtain ⟨l4, v4, hr4⟩ := HB4.out.r
        have z1 := HB4.out.d.c1
        have z3 := HB4.out.d.c3
        have z5 := hr4.c1
        have z7 := hr4.c3
        clear hn4 hr4
        go_wp2_with (first | (go_at_call 19; refine (off_any (mb + 1) D'.off _ z3).mono ?_; rintro e w' ⟨rfl, rfl⟩) | (go_at_call 32; refine (roff_any (mb + 2) D'.off _ z7).mono ?_; rintro e w' ⟨rfl, rfl⟩) | (go_at_call 33; refine (acts_any (mb + 1) D'.acts _ z1).mono ?_; rintro e w' ⟨rfl, rfl⟩) | (go_at_call 34; refine (racts_any (mb + 2) D'.acts _ z5).mono ?_; rintro e w' ⟨rfl, rfl⟩))
        go_roundw
        case rel => exact ⟨k + 1, D', by omega, by omega, by go_num, HB4.out⟩
        case measure => simp [intOf]; omega
      · skip
        obtain ⟨D', hop⟩ : ∃ D', D = D' := ⟨_, rfl⟩
        subst hop
        have HA' : Hid (D.acts ≤ k + 1) := Lib.hid (by omega)
        have HD := HDa
        have HR' := HRa
        have HO' := HOa
        clear HDa HRa HOa HPW HNF HNO HKP
        go_wp2_with fail
        obtain ⟨rs, re, hrd⟩ : ∃ rs re, D.read nm = (rs, re) := ⟨_, _, rfl⟩
        refine (read_eq hrd HD.out).mono ?_
        rintro e y1 ⟨rfl, hdy, hoy⟩
        have HDy := Lib.hid hdy
        have HRy := Lib.hid (HR'.out.own hoy)
        have HOy := Lib.hid (HO'.out.trans (hoy.mono fun k _ h => HOWN.out k h))
        clear hdy hoy
        have HRD := Lib.hid (ref_read hrd HRy.out)
        clear hrd
        go_wp2_with fail
        refine HRD.out.mono ?_
        rintro e y1' ⟨rfl, rfl⟩
        go_wp2_with fail
        refine (list_S (mb + 1) mb D _ HDy.out HK.out).mono ?_
        rintro e y2 ⟨A1, c1, rfl, hS1, hb1⟩
        have HDz := Lib.hid (HDy.out.below hb1)
        have HRz := Lib.hid (HRy.out.below hb1)
        have HOz := Lib.hid (HOy.out.then_below hb1)
        have HS1 := Lib.hid hS1
        clear hb1 hS1
        go_wp2_with fail
        refine (ref_list HRz.out HK.out).mono ?_
        rintro e y3 ⟨A2, c2, rfl, hS2, hb2⟩
        have hsame := same_any A1 A2 c1 c2 D.snames D.snames y3 (HS1.out.below hb2) hS2 (by rw [Dk.snames_length]; have := HK.out.many; omega) (by rw [Dk.snames_length]; have := HK.out.many; omega)
        rw [Dk.snames_length] at hsame
        have HSM := Lib.hid hsame
        have HDu := Lib.hid (HDz.out.below hb2)
        have HRu := Lib.hid (HRz.out.below hb2)
        have HOu := Lib.hid (HOz.out.then_below hb2)
        clear hsame hb2 hS2
        go_wp2_with fail
        refine HSM.out.mono ?_
        rintro e y4 ⟨rfl, hn4⟩
        have HB4 := Lib.hid (show Both w y4 mb (k + 1) D from ⟨HDu.out.only hn4 (fun x => x) (fun x => x), ⟨_, _, HRu.out.only hn4 (fun x => x) (fun _ _ x => x)⟩, HOu.out.trans' hn4 (fun _ _ h => h) (fun _ _ h => h.elim), HK.out, HA'.out⟩)
        obtain ⟨l4, v4, hr4⟩ := HB4.out.r
        have z1 := HB4.out.d.c1
        have z3 := HB4.out.d.c3
        have z5 := hr4.c1
        have z7 := hr4.c3
        clear hn4 hr4
        go_wp2_with (first | (go_at_call 19; refine (off_any (mb + 1) D.off _ z3).mono ?_; rintro e w' ⟨rfl, rfl⟩) | (go_at_call 32; refine (roff_any (mb + 2) D.off _ z7).mono ?_; rintro e w' ⟨rfl, rfl⟩) | (go_at_call 33; refine (acts_any (mb + 1) D.acts _ z1).mono ?_; rintro e w' ⟨rfl, rfl⟩) | (go_at_call 34; refine (racts_any (mb + 2) D.acts _ z5).mono ?_; rintro e w' ⟨rfl, rfl⟩))
        go_roundw
        case rel => exact ⟨k + 1, D, by omega, by omega, by go_num, HB4.out⟩
        case measure => simp [intOf]; omega
    · have HO2 := Lib.hid (HO.out.below (B := w.heap.size) (Nat.le_refl _) (fun k hk h => by omega))
      clear HD HR HO HK
      by_cases h2 : k < xs.length
      · have h3 : k = 200 := by omega
        subst h3
        go_wp2
        go_ret
        exact ⟨rfl, HO2.out⟩
      · have h3 : k = xs.length := by omega
        subst h3
        clear hlt h2
        go_wp2
        go_ret
        exact ⟨rfl, HO2.out⟩

theorem diskPlays_walk (v0 : Value) {base base' : Nat} {sp : Nat → Bool} {held : Bool} {H : Type} {enc : TypeId × Value → H} {W : World} {d : DataW H} {p : List MemPlace} (o0 : Value.okWide Try.prog W .any base 35 v0) (k0 : DataW.Trod enc Try.prog W base' sp held 35 v0 d p) :
    Calls Try.prog 7 #[v0] W fun e w' => e = .returned (.bool true) ∧ Below W.heap.size W w' := by
  obtain ⟨A, c, xs, rfl, h1⟩ := open_readsA o0 k0
  exact diskPlays_any A c xs W h1
end Go.Proofs.Ytekkmfclaepcgaa

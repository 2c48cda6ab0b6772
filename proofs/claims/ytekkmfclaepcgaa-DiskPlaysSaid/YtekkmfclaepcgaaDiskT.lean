/- DiskLasts. -/
import Derived.Test.YtekkmfclaepcgaaDiskX
import Derived.Test.YtekkmfclaepcgaaDiskS
import Derived.Test.YtekkmfclaepcgaaOpens
set_option linter.unusedVariables false
namespace Go.Proofs.Ytekkmfclaepcgaa
open Go.RowKit

/-- A block of three cells. -/
structure Arr3 (w : World) (B : Nat) (t : TypeId) (f : Nat → Value) : Prop where
  blk : w.heap[B]? = some (.cells #[f 0, f 1, f 2] t)
theorem Arr3.lt {w : World} {B : Nat} {t : TypeId} {f : Nat → Value} (h : Arr3 w B t f) : B < w.heap.size := (Array.getElem?_eq_some_iff.1 h.blk).1
theorem Arr3.cell {w : World} {B : Nat} {t : TypeId} {f : Nat → Value} (h : Arr3 w B t f) (k : Nat) (hk : k < 3) : w.cell? ⟨B, k, none⟩ = some (f k) := by
  simp only [World.cell?, h.blk]
  rcases k with _ | _ | _ | k
  · rfl
  · rfl
  · rfl
  · omega
theorem Arr3.fr {w : World} {B : Nat} {t : TypeId} {f : Nat → Value} (h : Arr3 w B t f) (k : Nat) : w.frozen? ⟨B, k, none⟩ = false := by simp [World.frozen?, h.blk]
theorem Arr3.only {w w' : World} {B : Nat} {t : TypeId} {f : Nat → Value} (h : Arr3 w B t f) {S : Nat → Prop} (ho : Only S w w') (hB : ¬ S B) : Arr3 w' B t f := ⟨(ho.block B h.lt hB).trans h.blk⟩
theorem Arr3.set {w : World} {B : Nat} {t : TypeId} {f g : Nat → Value} (h : Arr3 w B t f) (k : Nat) (v : Value) (hg : ∀ j, j < 3 → g j = if j = k then v else f j) (hk : k < 3) : Arr3 (w.setCell ⟨B, k, none⟩ v) B t g := by
  refine ⟨?_⟩
  rw [blk_setCell h.blk v, hg 0 (by omega), hg 1 (by omega), hg 2 (by omega)]
  rcases k with _ | _ | _ | k
  · rfl
  · rfl
  · rfl
  · omega
theorem Arr3.made (w : World) (t : TypeId) (v : Value) (f : Nat → Value) (hf : ∀ j, j < 3 → f j = v) : Arr3 (w.alloc (.cells #[v, v, v] t)) w.heap.size t f := by
  refine ⟨?_⟩
  rw [hf 0 (by omega), hf 1 (by omega), hf 2 (by omega)]
  exact (MapKept.heap_alloc w _).1
theorem Arr3.alloc {w : World} {B : Nat} {t : TypeId} {f : Nat → Value} (h : Arr3 w B t f) (o : Obj) : Arr3 (w.alloc o) B t f := h.only (S := fun _ => False) ((Only.refl _ w).alloc o) (fun x => x)
theorem Arr3.drew {w : World} {B : Nat} {t : TypeId} {f : Nat → Value} (h : Arr3 w B t f) : Arr3 w.drew B t f := ⟨h.blk⟩
theorem Arr3.other {w : World} {B : Nat} {t : TypeId} {f : Nat → Value} (h : Arr3 w B t f) {a : Addr} (ha : a.block ≠ B) (v : Value) : Arr3 (w.setCell a v) B t f := h.only (S := (· = a.block)) ((Only.refl (· = a.block) w).setCell (fun _ => rfl) v) (Ne.symm ha)
theorem DiskIs.other {w : World} {b mb : Nat} {D : Dk} (h : DiskIs w b mb D) {a : Addr} (h1 : a.block ≠ b) (h2 : a.block ≠ mb) (v : Value) : DiskIs (w.setCell a v) b mb D := h.only (S := (· = a.block)) ((Only.refl (· = a.block) w).setCell (fun _ => rfl) v) (Ne.symm h1) (Ne.symm h2)

theorem pickT_range (c n : Int) (hn : 0 < n) : 0 ≤ pickOf c n ∧ pickOf c n < n := ⟨Int.emod_nonneg _ (by omega), Int.emod_lt_of_pos _ hn⟩
theorem cutT (s : ByteArray) : (s.extract 0 (min (s.size : Int) 500).toNat).size ≤ 500 := by
  rw [ByteArray.size_extract]
  omega

set_option maxHeartbeats 2000000 in
set_option maxRecDepth 100000 in
theorem diskLasts_any (A A1 A2 : Option Addr) (cp c1 c2 : Nat) (xs : List ActV) (keep again : List Int) (w : World) (hx : ReadsA w A xs) (hk1 : ReadsI w A1 keep) (hk2 : ReadsI w A2 again) :
    Calls Try.prog 4 #[.slice A xs.length cp, .slice A1 keep.length c1, .slice A2 again.length c2] w fun e w' => e = .returned (.bool true) ∧ Below w.heap.size w w' := by
  have hl := hx.len
  unfold maxLen at hl
  have HX := Lib.hid hx
  have HK1 := Lib.hid hk1
  have HK2 := Lib.hid hk2
  clear hx hk1 hk2
  go_enter Try.func4, Try.ntmps4
  go_wp2_with fail
  refine (awake_any _).mono ?_
  rintro e w1 ⟨rfl, hb1⟩
  have HB1 := Lib.hid hb1
  clear hb1
  go_wp2_with fail
  refine (new_any _).mono ?_
  rintro e w2 ⟨rfl, hw2⟩
  have hd2 := DiskIs.made w1
  have ho2 : Only (fun k => w.heap.size ≤ k) w w2 := by rw [hw2]; exact ((Only.of_below HB1.out).alloc _).alloc _
  have hs1 := HB1.out.size
  rw [← hw2] at hd2
  have HD2 := Lib.hid hd2
  have HO2 := Lib.hid ho2
  clear hw2 hd2 ho2
  obtain ⟨mb, hmb⟩ : ∃ mb, mb = w1.heap.size := ⟨_, rfl⟩
  rw [← hmb] at HD2 ⊢
  have hmb1 : w.heap.size ≤ mb := by omega
  have own : ∀ k, Own (mb + 1) mb k → w.heap.size ≤ k := by rintro k (h | h) <;> omega
  have HOWN := Lib.hid own
  clear own hmb hs1
  go_wp2_with fail
  obtain ⟨W0, hW0⟩ : ∃ W0, W0 = (((w2.alloc (.cells #[.string ⟨#[97]⟩, .string ⟨#[98]⟩, .string ⟨#[99]⟩] 9)).alloc (.cells #[.string ⟨#[]⟩, .string ⟨#[]⟩, .string ⟨#[]⟩] 37)).alloc (.cells #[.string ⟨#[]⟩, .string ⟨#[]⟩, .string ⟨#[]⟩] 37)).alloc (.cells #[.bool false, .bool false, .bool false] 38) := ⟨_, rfl⟩
  rw [← hW0]
  have hD0 : DiskIs W0 (mb + 1) mb (free [] 0) := by rw [hW0]; exact (((HD2.out.alloc _).alloc _).alloc _).alloc _
  have hO0 : Only (fun k => w.heap.size ≤ k) w W0 := by rw [hW0]; exact (((HO2.out.alloc _).alloc _).alloc _).alloc _
  have hlt2 := HD2.out.lt
  have hN0 : Arr3 W0 w2.heap.size 9 (fun j => .string (nm3 j)) := by
    rw [hW0]
    exact ((Arr3.mk (f := fun j => .string (nm3 j)) (MapKept.heap_alloc w2 _).1).alloc _).alloc _ |>.alloc _
  have hS0 : Arr3 W0 (w2.heap.size + 1) 37 (fun j => .string ((fun _ => ⟨#[]⟩ : Nat → ByteArray) j)) := by
    rw [hW0]
    have := Arr3.made (w2.alloc (.cells #[.string ⟨#[97]⟩, .string ⟨#[98]⟩, .string ⟨#[99]⟩] 9)) 37 (.string ⟨#[]⟩) (fun _ => .string ⟨#[]⟩) (fun _ _ => rfl)
    rw [World.size_alloc] at this
    exact (this.alloc _).alloc _
  have hA0 : Arr3 W0 (w2.heap.size + 2) 37 (fun j => .string ((fun _ => ⟨#[]⟩ : Nat → ByteArray) j)) := by
    rw [hW0]
    have := Arr3.made ((w2.alloc (.cells #[.string ⟨#[97]⟩, .string ⟨#[98]⟩, .string ⟨#[99]⟩] 9)).alloc (.cells #[.string ⟨#[]⟩, .string ⟨#[]⟩, .string ⟨#[]⟩] 37)) 37 (.string ⟨#[]⟩) (fun _ => .string ⟨#[]⟩) (fun _ _ => rfl)
    rw [World.size_alloc, World.size_alloc] at this
    exact this.alloc _
  have hH0 : Arr3 W0 (w2.heap.size + 3) 38 (fun j => .bool ((fun _ => false : Nat → Bool) j)) := by
    rw [hW0]
    have := Arr3.made (((w2.alloc (.cells #[.string ⟨#[97]⟩, .string ⟨#[98]⟩, .string ⟨#[99]⟩] 9)).alloc (.cells #[.string ⟨#[]⟩, .string ⟨#[]⟩, .string ⟨#[]⟩] 37)).alloc (.cells #[.string ⟨#[]⟩, .string ⟨#[]⟩, .string ⟨#[]⟩] 37)) 38 (.bool false) (fun _ => .bool false) (fun _ _ => rfl)
    rw [World.size_alloc, World.size_alloc, World.size_alloc] at this
    exact this
  have hI0 : LastInv 0 [] (fun _ => ⟨#[]⟩) (fun _ => ⟨#[]⟩) (fun _ => false) := ⟨⟨by simp, by simp, by simp, by simp, by simp⟩, by simp, fun _ _ => Nat.zero_le _, (fun _ _ h => by cases h), fun _ _ _ => ⟨rfl, rfl⟩, fun _ _ => Nat.le_refl _⟩
  obtain ⟨nb, hnb⟩ : ∃ nb, nb = w2.heap.size := ⟨_, rfl⟩
  rw [← hnb] at hlt2 hN0 hS0 hA0 hH0 ⊢
  have HD0 := Lib.hid hD0
  have HO0 := Lib.hid hO0
  have HN0 := Lib.hid hN0
  have HS0 := Lib.hid hS0
  have HA0 := Lib.hid hA0
  have HH0 := Lib.hid hH0
  have HI0 := Lib.hid hI0
  clear hD0 hO0 hN0 hS0 hA0 hH0 hI0 HD2 HO2 HB1 hW0 hnb
  go_loopw [13] (fun i wr => ∃ (k : Nat) (fs : Fl) (sure all : Nat → ByteArray) (has : Nat → Bool), k ≤ xs.length ∧ k ≤ 60 ∧ i = .int .i64 k ∧ LastInv k fs sure all has ∧ DiskIs wr (mb + 1) mb (free fs k) ∧
      Arr3 wr nb 9 (fun j => .string (nm3 j)) ∧ Arr3 wr (nb + 1) 37 (fun j => .string (sure j)) ∧ Arr3 wr (nb + 2) 37 (fun j => .string (all j)) ∧ Arr3 wr (nb + 3) 38 (fun j => .bool (has j)) ∧ Only (fun k => w.heap.size ≤ k) w wr) (fun i _ => 60 - (intOf i).toNat)
  case atStart => exact ⟨0, _, _, _, _, Nat.zero_le _, by omega, rfl, HI0.out, HD0.out, HN0.out, HS0.out, HA0.out, HH0.out, HO0.out⟩
  case round =>
    obtain ⟨k, fs, sure, all, has, hk, hk60, rfl, hI, hd, hN, hS, hA, hH, ho⟩ := hrel
    have HI := Lib.hid hI
    have HD := Lib.hid hd
    have HN := Lib.hid hN
    have HS := Lib.hid hS
    have HA := Lib.hid hA
    have HH := Lib.hid hH
    have HO := Lib.hid ho
    clear hI hd hN hS hA hH ho
    by_cases hlt : k < xs.length ∧ k < 60
    · obtain ⟨hlt1, hlt2'⟩ := hlt
      obtain ⟨bk, off, rfl, hc⟩ := HX.out.cell k hlt1
      have hok := HX.out.ok xs[k] (List.getElem_mem hlt1)
      have lb0 := World.block_lt_of_cell? w _ (hc 0 _ rfl)
      simp only at lb0
      have tr : ∀ j v, xs[k].cells[j]? = some v → wr.cell? ⟨bk, off + k * 6 + j, none⟩ = some v := fun j v hj => (HO.out.cell (p := ⟨bk, off + k * 6 + j, none⟩) lb0 (by simp; omega)).trans (hc j v hj)
      have e0 : wr.cell? ⟨bk, off + k * 6, none⟩ = some (.int .i64 xs[k].what) := tr 0 _ rfl
      have e1 := tr 1 _ rfl
      have e4 := tr 4 _ rfl
      have lb := World.block_lt_of_cell? wr _ e0
      simp only at lb
      obtain ⟨m1, m2⟩ := hok.file
      obtain ⟨m3, m4⟩ := hok.what
      have m5 := hok.text
      unfold maxLen at m5
      generalize xs[k] = x at *
      clear hc tr hok
      go_wp2_with fail
      refine (pick_any x.file 3 _ m1 m2 (by decide) (by decide)).mono ?_
      rintro e w' ⟨rfl, rfl⟩
      obtain ⟨q1, q2⟩ := pickT_range x.file 3 (by decide)
      obtain ⟨kk, hkk⟩ : ∃ kk : Nat, pickOf x.file 3 = kk := ⟨(pickOf x.file 3).toNat, by omega⟩
      rw [hkk]
      have hkk3 : kk < 3 := by omega
      clear q1 q2 hkk
      go_wp2_with fail
      refine (pick_any x.what 3 _ m3 m4 (by decide) (by decide)).mono ?_
      rintro e w' ⟨rfl, rfl⟩
      generalize pickOf x.what 3 = V
      have hN : wr.cell? ⟨nb, kk, none⟩ = some (.string (nm3 kk)) := HN.out.cell kk hkk3
      have hS : wr.cell? ⟨nb + 1, kk, none⟩ = some (.string (sure kk)) := HS.out.cell kk hkk3
      have hA : wr.cell? ⟨nb + 2, kk, none⟩ = some (.string (all kk)) := HA.out.cell kk hkk3
      have hH : wr.cell? ⟨nb + 3, kk, none⟩ = some (.bool (has kk)) := HH.out.cell kk hkk3
      have fS := HS.out.fr kk
      have fA := HA.out.fr kk
      have fH := HH.out.fr kk
      have ln := HN.out.lt
      by_cases hV : (V == 2) = true
      · obtain ⟨fs', hst, hI'⟩ := last_sync (n := k) HI.out hkk3
        have HI' := Lib.hid hI'
        have HC := Lib.hid (sync_eq hst HD.out (free_ok HI.out.ok (by omega)))
        clear hst hI'
        go_wp2_with fail
        refine HC.out.mono ?_
        rintro e ws ⟨rfl, hds, hos⟩
        have HDs := Lib.hid hds
        have HOs := Lib.hid hos
        clear hds hos HC
        have HA' := Lib.hid (HA.out.only HOs.out (by unfold Own; omega))
        have HS' := Lib.hid (HS.out.only HOs.out (by unfold Own; omega))
        have HH' := Lib.hid (HH.out.only HOs.out (by unfold Own; omega))
        have HN' := Lib.hid (HN.out.only HOs.out (by unfold Own; omega))
        have HO' := Lib.hid (HO.out.trans (HOs.out.mono fun k _ h => HOWN.out k h))
        have hA' : ws.cell? ⟨nb + 2, kk, none⟩ = some (.string (all kk)) := HA'.out.cell kk hkk3
        have hS' : ws.cell? ⟨nb + 1, kk, none⟩ = some (.string (sure kk)) := HS'.out.cell kk hkk3
        have hH' : ws.cell? ⟨nb + 3, kk, none⟩ = some (.bool (has kk)) := HH'.out.cell kk hkk3
        have fS' := HS'.out.fr kk
        have l1 := HS'.out.lt
        have l2 := HA'.out.lt
        have l3 := HH'.out.lt
        clear hN hS hA hH fS fA fH e0 e1 e4
        cases hhas : has kk with
        | true =>
          rw [hhas] at hH'
          simp only [if_true]
          go_wp2
          go_roundw
          case rel => exact ⟨k + 1, fs', upd sure kk (all kk), all, has, by omega, by omega, by go_num, HI'.out, HDs.out.other (by show nb + 1 ≠ _; omega) (by show nb + 1 ≠ _; omega) _, HN'.out.other (by show nb + 1 ≠ nb; omega) _,
            HS'.out.set kk _ (fun j _ => by unfold upd; split <;> rfl) hkk3, HA'.out.other (by show nb + 1 ≠ nb + 2; omega) _, HH'.out.other (by show nb + 1 ≠ nb + 3; omega) _, HO'.out.setCell (fun _ => by show w.heap.size ≤ nb + 1; omega) _⟩
          case measure => simp [intOf]; omega
        | false =>
          rw [hhas] at hH'
          simp only [Bool.false_eq_true, if_false]
          go_wp2
          go_roundw
          case rel => exact ⟨k + 1, fs', upd sure kk (all kk), all, has, by omega, by omega, by go_num, HI'.out, HDs.out.other (by show nb + 1 ≠ _; omega) (by show nb + 1 ≠ _; omega) _, HN'.out.other (by show nb + 1 ≠ nb; omega) _,
            HS'.out.set kk _ (fun j _ => by unfold upd; split <;> rfl) hkk3, HA'.out.other (by show nb + 1 ≠ nb + 2; omega) _, HH'.out.other (by show nb + 1 ≠ nb + 3; omega) _, HO'.out.setCell (fun _ => by show w.heap.size ≤ nb + 1; omega) _⟩
          case measure => simp [intOf]; omega
      · have hV' : (V == 2) = false := by simpa using hV
        clear hV
        have hts := cutT x.text
        go_wp2
        go_region
        go_wp2_with fail
        generalize x.text.extract 0 (min (x.text.size : Int) 500).toNat = t at *
        obtain ⟨fs', hst, hI'⟩ := last_append (n := k) HI.out hkk3 hts hlt2'
        have HI' := Lib.hid hI'
        have hasz := HI.out.size kk hkk3
        have HC := Lib.hid (append_eq hst HD.out.drew (free_ok HI.out.ok (by omega)) (by have := nm3_ok kk hkk3; simp [isNm] at this; unfold maxLen; omega) (by unfold maxLen; omega))
        clear hst hI'
        refine HC.out.mono ?_
        rintro e ws ⟨rfl, hds, hos⟩
        have HDs := Lib.hid hds
        have HOs := Lib.hid hos
        clear hds hos HC
        have HA' := Lib.hid (HA.out.drew.only HOs.out (by unfold Own; omega))
        have HS' := Lib.hid (HS.out.drew.only HOs.out (by unfold Own; omega))
        have HH' := Lib.hid (HH.out.drew.only HOs.out (by unfold Own; omega))
        have HN' := Lib.hid (HN.out.drew.only HOs.out (by unfold Own; omega))
        have HO' := Lib.hid (HO.out.drew.trans (HOs.out.mono fun k _ h => HOWN.out k h))
        have hA' : ws.cell? ⟨nb + 2, kk, none⟩ = some (.string (all kk)) := HA'.out.cell kk hkk3
        have hS' : ws.cell? ⟨nb + 1, kk, none⟩ = some (.string (sure kk)) := HS'.out.cell kk hkk3
        have hH' : ws.cell? ⟨nb + 3, kk, none⟩ = some (.bool (has kk)) := HH'.out.cell kk hkk3
        have fA' := HA'.out.fr kk
        have fH' := HH'.out.fr kk
        have l1 := HS'.out.lt
        have l2 := HA'.out.lt
        have l3 := HH'.out.lt
        clear hN hS hA hH fS fA fH e0 e1 e4
        have lb1 : w.heap.size ≤ nb := by omega
        go_wp2
        go_roundw
        case rel => exact ⟨k + 1, fs', sure, upd all kk (all kk ++ t), upd has kk true, by omega, by omega, by go_num, HI'.out, (HDs.out.other (by show nb + 1 + 1 ≠ _; omega) (by show nb + 1 + 1 ≠ _; omega) _).other (by show nb + 1 + 1 + 1 ≠ _; omega) (by show nb + 1 + 1 + 1 ≠ _; omega) _,
          (HN'.out.other (by show nb + 1 + 1 ≠ nb; omega) _).other (by show nb + 1 + 1 + 1 ≠ nb; omega) _,
          (HS'.out.other (by show nb + 1 + 1 ≠ nb + 1; omega) _).other (by show nb + 1 + 1 + 1 ≠ nb + 1; omega) _,
          (HA'.out.set kk _ (fun j _ => by unfold upd; split <;> rfl) hkk3).other (by show nb + 1 + 1 + 1 ≠ nb + 2; omega) _,
          (HH'.out.other (by show nb + 1 + 1 ≠ nb + 3; omega) _).set kk _ (fun j _ => by unfold upd; split <;> rfl) hkk3,
          (HO'.out.setCell (fun _ => by show w.heap.size ≤ nb + 1 + 1; omega) _).setCell (fun _ => by show w.heap.size ≤ nb + 1 + 1 + 1; omega) _⟩
        case measure => simp [intOf]; omega
    · have hge : xs.length ≤ k ∨ 60 ≤ k := by omega
      obtain ⟨now, hnow⟩ := last_now HI.out (n := k) (by omega) keep
      have HNW := Lib.hid hnow
      have HR1 := Lib.hid (restart_eq (D' := (free fs k).restart keep) (c := c1) rfl rfl HD.out (free_ok HI.out.ok (by omega)) (fun ad h hl => by
        obtain ⟨bk, off, e, hb, _⟩ := HK1.out.at 0 hl
        rw [h] at e
        cases e
        show bk ≠ _
        omega) (HK1.out.keepW HO.out (fun k hk => by omega)))
      clear hnow hlt
      by_cases hkl : k < xs.length
      · go_wp2_with fail
        refine HR1.out.mono ?_
        rintro e ws ⟨rfl, hds, hos⟩
        have HDs := Lib.hid hds
        have HOs := Lib.hid hos
        clear hds hos HR1
        have HA' := Lib.hid (HA.out.only HOs.out (by unfold Own; omega))
        have HS' := Lib.hid (HS.out.only HOs.out (by unfold Own; omega))
        have HH' := Lib.hid (HH.out.only HOs.out (by unfold Own; omega))
        have HN' := Lib.hid (HN.out.only HOs.out (by unfold Own; omega))
        have HO' := Lib.hid (HO.out.trans (HOs.out.mono fun k _ h => HOWN.out k h))
        go_wp2_with fail
        obtain ⟨W1, hW1⟩ : ∃ W1, W1 = ws.alloc (.cells #[.string ⟨#[]⟩, .string ⟨#[]⟩, .string ⟨#[]⟩] 37) := ⟨_, rfl⟩
        have hNw := Arr3.made ws 37 (.string ⟨#[]⟩) (fun j => .string (if j < 0 then (if has j then now j else ⟨#[]⟩) else ⟨#[]⟩)) (fun j _ => by simp)
        have hD1 := HDs.out.alloc (.cells #[.string ⟨#[]⟩, .string ⟨#[]⟩, .string ⟨#[]⟩] 37)
        have hN1 := HN'.out.alloc (.cells #[.string ⟨#[]⟩, .string ⟨#[]⟩, .string ⟨#[]⟩] 37)
        have hS1 := HS'.out.alloc (.cells #[.string ⟨#[]⟩, .string ⟨#[]⟩, .string ⟨#[]⟩] 37)
        have hA1 := HA'.out.alloc (.cells #[.string ⟨#[]⟩, .string ⟨#[]⟩, .string ⟨#[]⟩] 37)
        have hH1 := HH'.out.alloc (.cells #[.string ⟨#[]⟩, .string ⟨#[]⟩, .string ⟨#[]⟩] 37)
        have hO1 := HO'.out.alloc (.cells #[.string ⟨#[]⟩, .string ⟨#[]⟩, .string ⟨#[]⟩] 37)
        rw [← hW1] at hNw hD1 hN1 hS1 hA1 hH1 hO1
        have hltb := HH'.out.lt
        rw [← hW1]
        obtain ⟨nw, hnw⟩ : ∃ nw, nw = ws.heap.size := ⟨_, rfl⟩
        rw [← hnw] at hNw hltb ⊢
        have HNw := Lib.hid hNw
        have HD1 := Lib.hid hD1
        have HN1 := Lib.hid hN1
        have HS1 := Lib.hid hS1
        have HA1 := Lib.hid hA1
        have HH1 := Lib.hid hH1
        have HO1 := Lib.hid hO1
        have hwlt : w.heap.size ≤ nb := by omega
        clear hNw hD1 hN1 hS1 hA1 hH1 hO1 hW1 hnw HA HS HH HN HO HA' HS' HH' HN' HO' HDs HOs HD HI
        generalize hDD : (free fs k).restart keep = DD at *
        have HDD := Lib.hid hDD
        clear hDD
        go_loopw [18] (fun i wq => ∃ j : Nat, j ≤ 3 ∧ i = .int .i64 j ∧ DiskIs wq (mb + 1) mb DD ∧
          Arr3 wq nb 9 (fun j => .string (nm3 j)) ∧ Arr3 wq (nb + 1) 37 (fun j => .string (sure j)) ∧ Arr3 wq (nb + 2) 37 (fun j => .string (all j)) ∧ Arr3 wq (nb + 3) 38 (fun j => .bool (has j)) ∧
          Arr3 wq nw 37 (fun i => .string (if i < j then (if has i then now i else ⟨#[]⟩) else ⟨#[]⟩)) ∧ Only (fun k => w.heap.size ≤ k) w wq) (fun i _ => 3 - (intOf i).toNat)
        case atStart => exact ⟨0, by omega, rfl, HD1.out, HN1.out, HS1.out, HA1.out, HH1.out, HNw.out, HO1.out⟩
        case round =>
          obtain ⟨j, hj, rfl, hd, hN, hS, hA, hH, hNw, ho⟩ := hrel
          have HD := Lib.hid hd
          have HN := Lib.hid hN
          have HS := Lib.hid hS
          have HA := Lib.hid hA
          have HH := Lib.hid hH
          have HNq := Lib.hid hNw
          have HO := Lib.hid ho
          clear hd hN hS hA hH hNw ho
          by_cases hj3 : j < 3
          · have hN : _ = some (Value.string (nm3 j)) := HN.out.cell j hj3
            have ln := HN.out.lt
            cases hhas : has j with
            | true =>
              obtain ⟨r1, _, r3, r4, r5⟩ := HNW.out.yes j hj3 hhas
              go_wp2_with fail
              refine (read_eq r1 HD.out).mono ?_
              rintro e wv ⟨rfl, hdv, hov⟩
              have HDv := Lib.hid hdv
              have HAv := Lib.hid (HA.out.only hov (by unfold Own; omega))
              have HSv := Lib.hid (HS.out.only hov (by unfold Own; omega))
              have HHv := Lib.hid (HH.out.only hov (by unfold Own; omega))
              have HNv := Lib.hid (HN.out.only hov (by unfold Own; omega))
              have HNqv := Lib.hid (HNq.out.only hov (by unfold Own; omega))
              have HOv := Lib.hid (HO.out.trans (hov.mono fun k _ h => HOWN.out k h))
              have hA : wv.cell? ⟨nb + 2, j, none⟩ = some (.string (all j)) := HAv.out.cell j hj3
              have hS : wv.cell? ⟨nb + 1, j, none⟩ = some (.string (sure j)) := HSv.out.cell j hj3
              have hH : wv.cell? ⟨nb + 3, j, none⟩ = some (.bool (has j)) := HHv.out.cell j hj3
              have hQ : wv.cell? ⟨nw, j, none⟩ = some (Value.string ⟨#[]⟩) := (HNqv.out.cell j hj3).trans (by simp)
              have fQ := HNqv.out.fr j
              have l1 := HSv.out.lt
              have l2 := HAv.out.lt
              have l3 := HHv.out.lt
              have l4 := HNqv.out.lt
              rw [hhas] at hH
              clear hdv hov r1
              have HR5 := Lib.hid r5
              have hex : (all j).extract 0 (now j).size = now j := r5.symm
              have HNJ := Lib.hid (show ∀ i, i < 3 → (Value.string (if i < j + 1 then (if has i then now i else ⟨#[]⟩) else ⟨#[]⟩)) = if i = j then .string (now j) else .string (if i < j then (if has i then now i else ⟨#[]⟩) else ⟨#[]⟩) from by
                intro i _
                by_cases e : i = j
                · subst e; simp [hhas]
                · rw [if_neg e]
                  by_cases e2 : i < j
                  · rw [if_pos (by omega), if_pos e2]
                  · rw [if_neg (by omega), if_neg e2])
              clear r5 hN
              generalize hnj : now j = nj at *
              generalize all j = aj at *
              generalize sure j = sj at *
              have HNJ2 := Lib.hid hnj
              clear hnj
              go_wp2
              go_roundw
              case rel => exact ⟨j + 1, by omega, by go_num, HDv.out.other (by show nw ≠ _; omega) (by show nw ≠ _; omega) _, HNv.out.other (by show nw ≠ nb; omega) _, HSv.out.other (by show nw ≠ nb + 1; omega) _, HAv.out.other (by show nw ≠ nb + 2; omega) _, HHv.out.other (by show nw ≠ nb + 3; omega) _,
                HNqv.out.set j _ (fun i hi => HNJ.out i hi) hj3, HOv.out.setCell (fun _ => by show w.heap.size ≤ nw; omega) _⟩
              case measure => simp [intOf]; omega
            | false =>
              obtain ⟨r1, _⟩ := HNW.out.no j hj3 hhas
              go_wp2_with fail
              refine (read_eq r1 HD.out).mono ?_
              rintro e wv ⟨rfl, hdv, hov⟩
              have HDv := Lib.hid hdv
              have HAv := Lib.hid (HA.out.only hov (by unfold Own; omega))
              have HSv := Lib.hid (HS.out.only hov (by unfold Own; omega))
              have HHv := Lib.hid (HH.out.only hov (by unfold Own; omega))
              have HNv := Lib.hid (HN.out.only hov (by unfold Own; omega))
              have HNqv := Lib.hid (HNq.out.only hov (by unfold Own; omega))
              have HOv := Lib.hid (HO.out.trans (hov.mono fun k _ h => HOWN.out k h))
              have hH : wv.cell? ⟨nb + 3, j, none⟩ = some (.bool (has j)) := HHv.out.cell j hj3
              have l3 := HHv.out.lt
              rw [hhas] at hH
              clear hdv hov r1 hN
              have HNJ := Lib.hid (show (fun i => Value.string (if i < j + 1 then (if has i then now i else ⟨#[]⟩) else ⟨#[]⟩)) = (fun i => .string (if i < j then (if has i then now i else ⟨#[]⟩) else ⟨#[]⟩)) from by
                funext i
                by_cases e : i = j
                · subst e; simp [hhas]
                · by_cases e2 : i < j
                  · rw [if_pos (by omega), if_pos e2]
                  · rw [if_neg (by omega), if_neg e2])
              go_wp2
              go_roundw
              case rel => exact ⟨j + 1, by omega, by go_num, HDv.out, HNv.out, HSv.out, HAv.out, HHv.out, by rw [HNJ.out]; exact HNqv.out, HOv.out⟩
              case measure => simp [intOf]; omega
          · obtain rfl : j = 3 := by omega
            have HQ3 := Lib.hid (show Arr3 wr nw 37 (fun i => .string (if has i then now i else ⟨#[]⟩)) from ⟨by
              have := HNq.out.blk
              simpa using this⟩)
            have HR2 := Lib.hid (restart_eq (D' := DD.restart again) (c := c2) rfl rfl HD.out HNW.out.ok (fun ad h hl => by
              obtain ⟨bk, off, e, hb, _⟩ := HK2.out.at 0 hl
              rw [h] at e
              cases e
              show bk ≠ _
              omega) (HK2.out.keepW HO.out (fun k hk => by omega)))
            go_wp2_with fail
            refine HR2.out.mono ?_
            rintro e wx ⟨rfl, hdx, hox⟩
            have HDx := Lib.hid hdx
            have HNx := Lib.hid (HN.out.only hox (by unfold Own; omega))
            have HQx := Lib.hid (HQ3.out.only hox (by unfold Own; omega))
            have HOx := Lib.hid (HO.out.trans (hox.mono fun k _ h => HOWN.out k h))
            clear hdx hox HR2
            go_wp2_with fail
            go_loopw [21] (fun i wy => ∃ j : Nat, j ≤ 3 ∧ i = .int .i64 j ∧ DiskIs wy (mb + 1) mb (DD.restart again) ∧ Arr3 wy nb 9 (fun j => .string (nm3 j)) ∧
              Arr3 wy nw 37 (fun i => .string (if has i then now i else ⟨#[]⟩)) ∧ Only (fun k => w.heap.size ≤ k) w wy) (fun i _ => 3 - (intOf i).toNat)
            case atStart => exact ⟨0, by omega, rfl, HDx.out, HNx.out, HQx.out, HOx.out⟩
            case round =>
              obtain ⟨j, hj, rfl, hd, hN, hNw, ho⟩ := hrel
              have HD := Lib.hid hd
              have HN := Lib.hid hN
              have HNq := Lib.hid hNw
              have HO := Lib.hid ho
              clear hd hN hNw ho
              by_cases hj3 : j < 3
              · have hN : _ = some (Value.string (nm3 j)) := HN.out.cell j hj3
                have ln := HN.out.lt
                obtain ⟨a1, a2⟩ := now_again HNW.out again hj3
                have hrd : ∃ r, (DD.restart again).read (nm3 j) = ((if has j then now j else ⟨#[]⟩), r) := by
                  cases hh : has j with
                  | true => exact ⟨_, a1 hh⟩
                  | false => exact ⟨_, a2 hh⟩
                obtain ⟨r, hrd⟩ := hrd
                clear a1 a2
                go_wp2_with fail
                refine (read_eq hrd HD.out).mono ?_
                rintro e wv ⟨rfl, hdv, hov⟩
                have HDv := Lib.hid hdv
                have HNv := Lib.hid (HN.out.only hov (by unfold Own; omega))
                have HNqv := Lib.hid (HNq.out.only hov (by unfold Own; omega))
                have HOv := Lib.hid (HO.out.trans (hov.mono fun k _ h => HOWN.out k h))
                have hQ : wv.cell? ⟨nw, j, none⟩ = some (Value.string (if has j then now j else ⟨#[]⟩)) := HNqv.out.cell j hj3
                have l4 := HNqv.out.lt
                clear hdv hov hrd hN
                generalize (if has j then now j else ⟨#[]⟩) = nj at *
                go_wp2
                go_roundw
                case rel => exact ⟨j + 1, by omega, by go_num, HDv.out, HNv.out, HNqv.out, HOv.out⟩
                case measure => simp [intOf]; omega
              · obtain rfl : j = 3 := by omega
                go_wp2
                go_ret
                exact ⟨rfl, HO.out.below (Nat.le_refl _) (fun k hk h => by omega)⟩
      · go_wp2_with fail
        refine HR1.out.mono ?_
        rintro e ws ⟨rfl, hds, hos⟩
        have HDs := Lib.hid hds
        have HOs := Lib.hid hos
        clear hds hos HR1
        have HA' := Lib.hid (HA.out.only HOs.out (by unfold Own; omega))
        have HS' := Lib.hid (HS.out.only HOs.out (by unfold Own; omega))
        have HH' := Lib.hid (HH.out.only HOs.out (by unfold Own; omega))
        have HN' := Lib.hid (HN.out.only HOs.out (by unfold Own; omega))
        have HO' := Lib.hid (HO.out.trans (HOs.out.mono fun k _ h => HOWN.out k h))
        go_wp2_with fail
        obtain ⟨W1, hW1⟩ : ∃ W1, W1 = ws.alloc (.cells #[.string ⟨#[]⟩, .string ⟨#[]⟩, .string ⟨#[]⟩] 37) := ⟨_, rfl⟩
        have hNw := Arr3.made ws 37 (.string ⟨#[]⟩) (fun j => .string (if j < 0 then (if has j then now j else ⟨#[]⟩) else ⟨#[]⟩)) (fun j _ => by simp)
        have hD1 := HDs.out.alloc (.cells #[.string ⟨#[]⟩, .string ⟨#[]⟩, .string ⟨#[]⟩] 37)
        have hN1 := HN'.out.alloc (.cells #[.string ⟨#[]⟩, .string ⟨#[]⟩, .string ⟨#[]⟩] 37)
        have hS1 := HS'.out.alloc (.cells #[.string ⟨#[]⟩, .string ⟨#[]⟩, .string ⟨#[]⟩] 37)
        have hA1 := HA'.out.alloc (.cells #[.string ⟨#[]⟩, .string ⟨#[]⟩, .string ⟨#[]⟩] 37)
        have hH1 := HH'.out.alloc (.cells #[.string ⟨#[]⟩, .string ⟨#[]⟩, .string ⟨#[]⟩] 37)
        have hO1 := HO'.out.alloc (.cells #[.string ⟨#[]⟩, .string ⟨#[]⟩, .string ⟨#[]⟩] 37)
        rw [← hW1] at hNw hD1 hN1 hS1 hA1 hH1 hO1
        have hltb := HH'.out.lt
        rw [← hW1]
        obtain ⟨nw, hnw⟩ : ∃ nw, nw = ws.heap.size := ⟨_, rfl⟩
        rw [← hnw] at hNw hltb ⊢
        have HNw := Lib.hid hNw
        have HD1 := Lib.hid hD1
        have HN1 := Lib.hid hN1
        have HS1 := Lib.hid hS1
        have HA1 := Lib.hid hA1
        have HH1 := Lib.hid hH1
        have HO1 := Lib.hid hO1
        have hwlt : w.heap.size ≤ nb := by omega
        clear hNw hD1 hN1 hS1 hA1 hH1 hO1 hW1 hnw HA HS HH HN HO HA' HS' HH' HN' HO' HDs HOs HD HI
        generalize hDD : (free fs k).restart keep = DD at *
        have HDD := Lib.hid hDD
        clear hDD
        go_loopw [18] (fun i wq => ∃ j : Nat, j ≤ 3 ∧ i = .int .i64 j ∧ DiskIs wq (mb + 1) mb DD ∧
          Arr3 wq nb 9 (fun j => .string (nm3 j)) ∧ Arr3 wq (nb + 1) 37 (fun j => .string (sure j)) ∧ Arr3 wq (nb + 2) 37 (fun j => .string (all j)) ∧ Arr3 wq (nb + 3) 38 (fun j => .bool (has j)) ∧
          Arr3 wq nw 37 (fun i => .string (if i < j then (if has i then now i else ⟨#[]⟩) else ⟨#[]⟩)) ∧ Only (fun k => w.heap.size ≤ k) w wq) (fun i _ => 3 - (intOf i).toNat)
        case atStart => exact ⟨0, by omega, rfl, HD1.out, HN1.out, HS1.out, HA1.out, HH1.out, HNw.out, HO1.out⟩
        case round =>
          obtain ⟨j, hj, rfl, hd, hN, hS, hA, hH, hNw, ho⟩ := hrel
          have HD := Lib.hid hd
          have HN := Lib.hid hN
          have HS := Lib.hid hS
          have HA := Lib.hid hA
          have HH := Lib.hid hH
          have HNq := Lib.hid hNw
          have HO := Lib.hid ho
          clear hd hN hS hA hH hNw ho
          by_cases hj3 : j < 3
          · have hN : _ = some (Value.string (nm3 j)) := HN.out.cell j hj3
            have ln := HN.out.lt
            cases hhas : has j with
            | true =>
              obtain ⟨r1, _, r3, r4, r5⟩ := HNW.out.yes j hj3 hhas
              go_wp2_with fail
              refine (read_eq r1 HD.out).mono ?_
              rintro e wv ⟨rfl, hdv, hov⟩
              have HDv := Lib.hid hdv
              have HAv := Lib.hid (HA.out.only hov (by unfold Own; omega))
              have HSv := Lib.hid (HS.out.only hov (by unfold Own; omega))
              have HHv := Lib.hid (HH.out.only hov (by unfold Own; omega))
              have HNv := Lib.hid (HN.out.only hov (by unfold Own; omega))
              have HNqv := Lib.hid (HNq.out.only hov (by unfold Own; omega))
              have HOv := Lib.hid (HO.out.trans (hov.mono fun k _ h => HOWN.out k h))
              have hA : wv.cell? ⟨nb + 2, j, none⟩ = some (.string (all j)) := HAv.out.cell j hj3
              have hS : wv.cell? ⟨nb + 1, j, none⟩ = some (.string (sure j)) := HSv.out.cell j hj3
              have hH : wv.cell? ⟨nb + 3, j, none⟩ = some (.bool (has j)) := HHv.out.cell j hj3
              have hQ : wv.cell? ⟨nw, j, none⟩ = some (Value.string ⟨#[]⟩) := (HNqv.out.cell j hj3).trans (by simp)
              have fQ := HNqv.out.fr j
              have l1 := HSv.out.lt
              have l2 := HAv.out.lt
              have l3 := HHv.out.lt
              have l4 := HNqv.out.lt
              rw [hhas] at hH
              clear hdv hov r1
              have HR5 := Lib.hid r5
              have hex : (all j).extract 0 (now j).size = now j := r5.symm
              have HNJ := Lib.hid (show ∀ i, i < 3 → (Value.string (if i < j + 1 then (if has i then now i else ⟨#[]⟩) else ⟨#[]⟩)) = if i = j then .string (now j) else .string (if i < j then (if has i then now i else ⟨#[]⟩) else ⟨#[]⟩) from by
                intro i _
                by_cases e : i = j
                · subst e; simp [hhas]
                · rw [if_neg e]
                  by_cases e2 : i < j
                  · rw [if_pos (by omega), if_pos e2]
                  · rw [if_neg (by omega), if_neg e2])
              clear r5 hN
              generalize hnj : now j = nj at *
              generalize all j = aj at *
              generalize sure j = sj at *
              have HNJ2 := Lib.hid hnj
              clear hnj
              go_wp2
              go_roundw
              case rel => exact ⟨j + 1, by omega, by go_num, HDv.out.other (by show nw ≠ _; omega) (by show nw ≠ _; omega) _, HNv.out.other (by show nw ≠ nb; omega) _, HSv.out.other (by show nw ≠ nb + 1; omega) _, HAv.out.other (by show nw ≠ nb + 2; omega) _, HHv.out.other (by show nw ≠ nb + 3; omega) _,
                HNqv.out.set j _ (fun i hi => HNJ.out i hi) hj3, HOv.out.setCell (fun _ => by show w.heap.size ≤ nw; omega) _⟩
              case measure => simp [intOf]; omega
            | false =>
              obtain ⟨r1, _⟩ := HNW.out.no j hj3 hhas
              go_wp2_with fail
              refine (read_eq r1 HD.out).mono ?_
              rintro e wv ⟨rfl, hdv, hov⟩
              have HDv := Lib.hid hdv
              have HAv := Lib.hid (HA.out.only hov (by unfold Own; omega))
              have HSv := Lib.hid (HS.out.only hov (by unfold Own; omega))
              have HHv := Lib.hid (HH.out.only hov (by unfold Own; omega))
              have HNv := Lib.hid (HN.out.only hov (by unfold Own; omega))
              have HNqv := Lib.hid (HNq.out.only hov (by unfold Own; omega))
              have HOv := Lib.hid (HO.out.trans (hov.mono fun k _ h => HOWN.out k h))
              have hH : wv.cell? ⟨nb + 3, j, none⟩ = some (.bool (has j)) := HHv.out.cell j hj3
              have l3 := HHv.out.lt
              rw [hhas] at hH
              clear hdv hov r1 hN
              have HNJ := Lib.hid (show (fun i => Value.string (if i < j + 1 then (if has i then now i else ⟨#[]⟩) else ⟨#[]⟩)) = (fun i => .string (if i < j then (if has i then now i else ⟨#[]⟩) else ⟨#[]⟩)) from by
                funext i
                by_cases e : i = j
                · subst e; simp [hhas]
                · by_cases e2 : i < j
                  · rw [if_pos (by omega), if_pos e2]
                  · rw [if_neg (by omega), if_neg e2])
              go_wp2
              go_roundw
              case rel => exact ⟨j + 1, by omega, by go_num, HDv.out, HNv.out, HSv.out, HAv.out, HHv.out, by rw [HNJ.out]; exact HNqv.out, HOv.out⟩
              case measure => simp [intOf]; omega
          · obtain rfl : j = 3 := by omega
            have HQ3 := Lib.hid (show Arr3 wr nw 37 (fun i => .string (if has i then now i else ⟨#[]⟩)) from ⟨by
              have := HNq.out.blk
              simpa using this⟩)
            have HR2 := Lib.hid (restart_eq (D' := DD.restart again) (c := c2) rfl rfl HD.out HNW.out.ok (fun ad h hl => by
              obtain ⟨bk, off, e, hb, _⟩ := HK2.out.at 0 hl
              rw [h] at e
              cases e
              show bk ≠ _
              omega) (HK2.out.keepW HO.out (fun k hk => by omega)))
            go_wp2_with fail
            refine HR2.out.mono ?_
            rintro e wx ⟨rfl, hdx, hox⟩
            have HDx := Lib.hid hdx
            have HNx := Lib.hid (HN.out.only hox (by unfold Own; omega))
            have HQx := Lib.hid (HQ3.out.only hox (by unfold Own; omega))
            have HOx := Lib.hid (HO.out.trans (hox.mono fun k _ h => HOWN.out k h))
            clear hdx hox HR2
            go_wp2_with fail
            go_loopw [21] (fun i wy => ∃ j : Nat, j ≤ 3 ∧ i = .int .i64 j ∧ DiskIs wy (mb + 1) mb (DD.restart again) ∧ Arr3 wy nb 9 (fun j => .string (nm3 j)) ∧
              Arr3 wy nw 37 (fun i => .string (if has i then now i else ⟨#[]⟩)) ∧ Only (fun k => w.heap.size ≤ k) w wy) (fun i _ => 3 - (intOf i).toNat)
            case atStart => exact ⟨0, by omega, rfl, HDx.out, HNx.out, HQx.out, HOx.out⟩
            case round =>
              obtain ⟨j, hj, rfl, hd, hN, hNw, ho⟩ := hrel
              have HD := Lib.hid hd
              have HN := Lib.hid hN
              have HNq := Lib.hid hNw
              have HO := Lib.hid ho
              clear hd hN hNw ho
              by_cases hj3 : j < 3
              · have hN : _ = some (Value.string (nm3 j)) := HN.out.cell j hj3
                have ln := HN.out.lt
                obtain ⟨a1, a2⟩ := now_again HNW.out again hj3
                have hrd : ∃ r, (DD.restart again).read (nm3 j) = ((if has j then now j else ⟨#[]⟩), r) := by
                  cases hh : has j with
                  | true => exact ⟨_, a1 hh⟩
                  | false => exact ⟨_, a2 hh⟩
                obtain ⟨r, hrd⟩ := hrd
                clear a1 a2
                go_wp2_with fail
                refine (read_eq hrd HD.out).mono ?_
                rintro e wv ⟨rfl, hdv, hov⟩
                have HDv := Lib.hid hdv
                have HNv := Lib.hid (HN.out.only hov (by unfold Own; omega))
                have HNqv := Lib.hid (HNq.out.only hov (by unfold Own; omega))
                have HOv := Lib.hid (HO.out.trans (hov.mono fun k _ h => HOWN.out k h))
                have hQ : wv.cell? ⟨nw, j, none⟩ = some (Value.string (if has j then now j else ⟨#[]⟩)) := HNqv.out.cell j hj3
                have l4 := HNqv.out.lt
                clear hdv hov hrd hN
                generalize (if has j then now j else ⟨#[]⟩) = nj at *
                go_wp2
                go_roundw
                case rel => exact ⟨j + 1, by omega, by go_num, HDv.out, HNv.out, HNqv.out, HOv.out⟩
                case measure => simp [intOf]; omega
              · obtain rfl : j = 3 := by omega
                go_wp2
                go_ret
                exact ⟨rfl, HO.out.below (Nat.le_refl _) (fun k hk h => by omega)⟩

theorem diskLasts_walk (v0 : Value) {base base' : Nat} {sp : Nat → Bool} {held : Bool} {H : Type} {enc : TypeId × Value → H} {W : World} {d : DataW H} {p : List MemPlace} (o0 : Value.okWide Try.prog W .any base 35 v0) (k0 : DataW.Trod enc Try.prog W base' sp held 35 v0 d p)
    (v1 : Value) {d1 : DataW H} {p1 : List MemPlace} (o1 : Value.okWide Try.prog W .any base 36 v1) (k1 : DataW.Trod enc Try.prog W base' sp held 36 v1 d1 p1)
    (v2 : Value) {d2 : DataW H} {p2 : List MemPlace} (o2 : Value.okWide Try.prog W .any base 36 v2) (k2 : DataW.Trod enc Try.prog W base' sp held 36 v2 d2 p2) :
    Calls Try.prog 4 #[v0, v1, v2] W fun e w' => e = .returned (.bool true) ∧ Below W.heap.size W w' := by
  obtain ⟨A, c, xs, rfl, h1⟩ := open_readsA o0 k0
  obtain ⟨A1, c1, xs1, rfl, h2⟩ := open_readsI Try.underlying36 Try.underlying3 (by kernel_rfl) o1 k1
  obtain ⟨A2, c2, xs2, rfl, h3⟩ := open_readsI Try.underlying36 Try.underlying3 (by kernel_rfl) o2 k2
  exact diskLasts_any A A1 A2 c c1 c2 xs xs1 xs2 W h1 h2 h3
end Go.Proofs.Ytekkmfclaepcgaa

/- DiskFull. -/
import Derived.Test.YtekkmfclaepcgaaDiskX
import Derived.Deep.RegionWith
import Derived.OpenShut
set_option linter.unusedVariables false
namespace Go.Proofs.Ytekkmfclaepcgaa
open Go.RowKit

/-- A text of n zeros, and its row in memory. -/
def zrow (n : Nat) : Array Value := madeCells #[.int .u8 0] n
def zstr (n : Nat) : ByteArray := strOfNums (List.replicate n 0)
theorem zstr_size (n : Nat) : (zstr n).size = n := by simp [zstr, strOfNums, ByteArray.size]
theorem zrow_get (n i : Nat) (h : i < n) : (zrow n)[i]? = some (.int .u8 0) := by
  simp [zrow, madeCells, h, Nat.mod_one]
theorem run_mk (n : Int) (h0 : 0 ≤ n) (h1 : n ≤ 70000) (W : World) : (Instr.makeSlice 29 (.int .i64 n) (.int .i64 n)).run Try.prog W = .ok (.slice (some ⟨W.heap.size, 0, none⟩) n.toNat n.toNat) (W.alloc (.cells (zrow n.toNat) 5)) := by
  obtain ⟨i0, hi, hz0, hz1, hz2⟩ := info_parts (show (Try.prog.info? 5).map (fun i => (i.zero, i.size, i.bytes)) = some (some (.int .u8 0), 1, 1) by kernel_rfl)
  have := run_makeSlice (P := Try.prog) W 29 5 i0 (.int .u8 0) Try.underlying29 hi hz0 .i64 .i64 n n h0 (Int.le_refl _) (by rw [hz1]; omega) (by rw [hz2]; omega) (by omega)
  rw [this, hz1]
  simp [zrow, Value.cells]
theorem run_cv (n : Nat) (W : World) : (convert 29 9 (.slice (some ⟨W.heap.size, 0, none⟩) n n)).run Try.prog (W.alloc (.cells (zrow n) 5)).drew = .ok (.string (zstr n)) (W.alloc (.cells (zrow n) 5)).drew :=
  run_convert_bytes_arg (P := Try.prog) _ 29 5 Try.underlying29 Try.underlying5 W.heap.size 0 n n (List.replicate n 0) (by simp) (fun i hi => by
    rw [World.cell?_drew, Nat.zero_add, World.cell?_alloc_new, zrow_get n i hi]
    simp [hi]) 9 Try.underlying9
theorem run_cv' (n : Nat) (W : World) : (convert 29 9 (.slice (some ⟨W.heap.size, 0, none⟩) n n)).run Try.prog (W.alloc (.cells (zrow n) 5)) = .ok (.string (zstr n)) (W.alloc (.cells (zrow n) 5)) :=
  run_convert_bytes_arg (P := Try.prog) _ 29 5 Try.underlying29 Try.underlying5 W.heap.size 0 n n (List.replicate n 0) (by simp) (fun i hi => by
    rw [Nat.zero_add, World.cell?_alloc_new, zrow_get n i hi]
    simp [hi]) 9 Try.underlying9

def nms : List ByteArray := [⟨#[97]⟩, ⟨#[98]⟩, ⟨#[99]⟩, ⟨#[100]⟩]
def fullSt (z : ByteArray) (k : Nat) : Dk := ⟨(nms.take k).map (fun x => (x, (z, 0))), k, 0, false⟩
theorem fullSt_step (z : ByteArray) (hz : z.size ≤ 65536) (k : Nat) (hk : k < 4) : (fullSt z k).append (nms.getD k ⟨#[]⟩) z = (0, fullSt z (k + 1)) := by
  have ht : (fullSt z k).tick = { fullSt z k with acts := k + 1 } := by
    unfold Dk.tick fullSt
    simp
  have hn : isNm (nms.getD k ⟨#[]⟩) = true := by
    rcases k with _ | _ | _ | _ | k
    · rfl
    · rfl
    · rfl
    · rfl
    · omega
  have hg : aget (fullSt z k).files (nms.getD k ⟨#[]⟩) = none := by
    rcases k with _ | _ | _ | _ | k
    · rfl
    · rfl
    · rfl
    · rfl
    · omega
  have hl : (fullSt z k).files.length = k := by
    simp [fullSt, nms]
    omega
  unfold Dk.append
  rw [ht, if_neg (by show ¬ (fullSt z k).off = true; simp [fullSt]), hn, hg]
  simp only [Bool.not_true, Bool.false_eq_true, if_false]
  rw [if_neg (by omega), aput_none hg]
  have hk1 : nms.take (k + 1) = nms.take k ++ [nms.getD k ⟨#[]⟩] := by
    rcases k with _ | _ | _ | _ | k
    · rfl
    · rfl
    · rfl
    · rfl
    · omega
  show (0, ({ files := _, acts := k + 1, armed := 0, off := false } : Dk)) = _
  unfold fullSt
  rw [hk1, List.map_append]
  rfl
theorem fullSt_ok (z : ByteArray) (hz : z.size ≤ 65536) (k : Nat) (hk : k ≤ 4) : (fullSt z k).Ok ∧ (fullSt z k).acts ≤ 4 := by
  induction k with
  | zero => exact ⟨⟨by simp [fullSt], by simp [fullSt], by simp [fullSt], by simp [fullSt], by simp [fullSt], by simp [fullSt], by simp [fullSt]⟩, by simp [fullSt]⟩
  | succ k ih =>
    have h := ih (by omega)
    have e := fullSt_step z hz k (by omega)
    have h2 := Dk.append_ok h.1 (by have := h.2; omega) (nms.getD k ⟨#[]⟩) z
    rw [e] at h2
    exact ⟨h2, by show k + 1 ≤ 4; exact hk⟩

theorem nms_last (z : ByteArray) : aget (fullSt z 4).files ⟨#[98]⟩ = some (z, 0) := by rfl
/-- The disk behind the append that is one too many, or not. -/
def fullEnd (n m : Nat) : Dk := ((fullSt (zstr n) 4).append ⟨#[98]⟩ (zstr m)).2
theorem fullEnd_yes (n m : Nat) (h : n + m ≤ 65536) : (fullSt (zstr n) 4).append ⟨#[98]⟩ (zstr m) = (0, fullEnd n m) ∧ (fullEnd n m).read ⟨#[98]⟩ = (zstr n ++ zstr m, 0) := by
  have e : (fullSt (zstr n) 4).append ⟨#[98]⟩ (zstr m) = (0, { (fullSt (zstr n) 4).tick with files := aput (fullSt (zstr n) 4).files ⟨#[98]⟩ (zstr n ++ zstr m, 0) }) := by
    unfold Dk.append
    rw [if_neg (by simp [Dk.tick, fullSt]), show isNm ⟨#[98]⟩ = true from rfl, nms_last]
    simp only [Bool.not_true, Bool.false_eq_true, if_false, zstr_size]
    rw [if_neg (by omega)]
  refine ⟨by rw [fullEnd, e], ?_⟩
  rw [fullEnd, e]
  unfold Dk.read
  simp only [aget_aput_same]
  rw [if_neg (by simp [Dk.tick, fullSt])]
theorem fullEnd_no (n m : Nat) (h : 65536 < n + m) : (fullSt (zstr n) 4).append ⟨#[98]⟩ (zstr m) = (102, fullEnd n m) ∧ (fullEnd n m).read ⟨#[98]⟩ = (zstr n, 0) := by
  have e : (fullSt (zstr n) 4).append ⟨#[98]⟩ (zstr m) = (102, (fullSt (zstr n) 4).tick) := by
    unfold Dk.append
    rw [if_neg (by simp [Dk.tick, fullSt]), show isNm ⟨#[98]⟩ = true from rfl, nms_last]
    simp only [Bool.not_true, Bool.false_eq_true, if_false, zstr_size]
    rw [if_pos (by omega)]
  refine ⟨by rw [fullEnd, e], ?_⟩
  rw [fullEnd, e]
  unfold Dk.read
  rw [Dk.tick_files', nms_last]
  rw [if_neg (by simp [Dk.tick, fullSt])]
theorem fullEnd_keys (n m : Nat) : (fullEnd n m).files.map (·.1) = nms ∧ (fullEnd n m).off = false ∧ (fullEnd n m).acts = 5 ∧ (fullEnd n m).armed = 0 := by
  have hk : (fullSt (zstr n) 4).files.map (·.1) = nms := by simp [fullSt, nms]
  by_cases h : n + m ≤ 65536
  · have e : fullEnd n m = { (fullSt (zstr n) 4).tick with files := aput (fullSt (zstr n) 4).files ⟨#[98]⟩ (zstr n ++ zstr m, 0) } := by
      unfold fullEnd Dk.append
      rw [if_neg (by simp [Dk.tick, fullSt]), show isNm ⟨#[98]⟩ = true from rfl, nms_last]
      simp only [Bool.not_true, Bool.false_eq_true, if_false, zstr_size]
      rw [if_neg (by omega)]
    rw [e]
    exact ⟨(aput_keys (by rw [nms_last]; rfl)).trans hk, rfl, rfl, rfl⟩
  · have e : fullEnd n m = (fullSt (zstr n) 4).tick := by
      unfold fullEnd Dk.append
      rw [if_neg (by simp [Dk.tick, fullSt]), show isNm ⟨#[98]⟩ = true from rfl, nms_last]
      simp only [Bool.not_true, Bool.false_eq_true, if_false, zstr_size]
      rw [if_pos (by omega)]
    rw [e]
    exact ⟨by rw [Dk.tick_files']; exact hk, rfl, rfl, rfl⟩
theorem fullEnd_e (n m : Nat) : (fullEnd n m).append ⟨#[101]⟩ ⟨#[]⟩ = (102, (fullEnd n m).tick) := by
  obtain ⟨h1, h2, h3, h4⟩ := fullEnd_keys n m
  have hl : (fullEnd n m).files.length = 4 := by have := congrArg List.length h1; simpa [nms] using this
  have hg : aget (fullEnd n m).files ⟨#[101]⟩ = none := by rw [aget_none_iff, h1]; simp [nms]
  unfold Dk.append
  rw [if_neg (by unfold Dk.tick; simp [h2, h3, h4]), show isNm ⟨#[101]⟩ = true from rfl, hg]
  simp [hl]
theorem fullEnd_names (n m : Nat) : (fullEnd n m).tick.snames = nms := by
  obtain ⟨h1, h2, h3, h4⟩ := fullEnd_keys n m
  have e : (fullEnd n m).tick.files.map (fun p => p.1.data.toList) = nms.map (fun x => x.data.toList) := by
    rw [Dk.tick_files', ← h1, List.map_map]; rfl
  unfold Dk.snames Dk.names
  rw [e, List.mergeSort_of_pairwise (by decide)]
  rfl
theorem fullEnd_len (n m : Nat) : (fullEnd n m).tick.files.length = 4 := by
  obtain ⟨h1, h2, h3, h4⟩ := fullEnd_keys n m
  rw [Dk.tick_files']
  have := congrArg List.length h1
  simpa [nms] using this

theorem pickOf_range (c n : Int) (hn : 0 < n) : 0 ≤ pickOf c n ∧ pickOf c n < n := ⟨Int.emod_nonneg _ (by omega), Int.emod_lt_of_pos _ hn⟩

set_option maxHeartbeats 2000000 in
set_option maxRecDepth 100000 in
theorem diskFull_any (long more : Int) (w : World) (h1 : -9223372036854775808 ≤ long) (h2 : long ≤ 9223372036854775807) (h3 : -9223372036854775808 ≤ more) (h4 : more ≤ 9223372036854775807) :
    Calls Try.prog 3 #[.int .i64 long, .int .i64 more] w fun e w' => e = .returned (.bool true) ∧ Below w.heap.size w w' := by
  obtain ⟨p0, p1⟩ := pickOf_range long 300 (by decide)
  obtain ⟨q0, q1⟩ := pickOf_range more 600 (by decide)
  have HP := Lib.hid (pick_any long 300 · h1 h2 (by decide) (by decide))
  have HQ := Lib.hid (pick_any more 600 · h3 h4 (by decide) (by decide))
  generalize pickOf long 300 = P at *
  generalize pickOf more 600 = M at *
  obtain ⟨n, hn⟩ : ∃ n : Nat, (65536 - P : Int) = n := ⟨(65536 - P).toNat, by omega⟩
  obtain ⟨m, hm⟩ : ∃ m : Nat, (M : Int) = m := ⟨M.toNat, by omega⟩
  have hn1 : n ≤ 65536 := by omega
  have hn2 : 65000 ≤ n := by omega
  have hm1 : m < 600 := by omega
  subst hm
  have hP1 : 0 ≤ P := p0
  have hP2 : P < 300 := p1
  clear p0 p1 q0 q1
  go_enter Try.func3, Try.ntmps3
  go_wp2_with fail
  refine (awake_any _).mono ?_
  rintro e w1 ⟨rfl, hb1⟩
  have HB1 := Lib.hid hb1
  clear hb1
  go_wp2_with fail
  refine (new_any _).mono ?_
  rintro e w2 ⟨rfl, hw2⟩
  have hd2 := DiskIs.made w1
  have ho2 : Only (fun k => w.heap.size ≤ k) w w2 := by rw [hw2]; exact ((Only.of_below HB1.out).alloc _).alloc _
  have hs1 := HB1.out.size
  rw [← hw2] at hd2
  have HD2 := Lib.hid hd2
  have HO2 := Lib.hid ho2
  clear hw2 hd2 ho2
  obtain ⟨mb, hmb⟩ : ∃ mb, mb = w1.heap.size := ⟨_, rfl⟩
  rw [← hmb] at HD2 ⊢
  have hmb1 : w.heap.size ≤ mb := by omega
  have own : ∀ k, Own (mb + 1) mb k → w.heap.size ≤ k := by rintro k (h | h) <;> omega
  have HOWN := Lib.hid own
  clear own hmb hs1
  go_wp2_with fail
  refine (HP.out _).mono ?_
  rintro e w2' ⟨rfl, rfl⟩
  go_wp2_with fail
  refine (HQ.out _).mono ?_
  rintro e w2' ⟨rfl, rfl⟩
  go_wp2_with fail
  clear hn hP1 hP2
  obtain ⟨W0, hW0⟩ : ∃ W0, W0 = w2.alloc (.cells #[.string ⟨#[97]⟩, .string ⟨#[98]⟩, .string ⟨#[99]⟩, .string ⟨#[100]⟩] 9) := ⟨_, rfl⟩
  have hD0 : DiskIs W0 (mb + 1) mb (fullSt (zstr n) 0) := by rw [hW0]; exact HD2.out.alloc _
  have hO0 : Only (fun k => w.heap.size ≤ k) w W0 := by rw [hW0]; exact HO2.out.alloc _
  have hlt2 := HD2.out.lt
  have hnc : ∀ j, j < 4 → W0.cell? ⟨w2.heap.size, j, none⟩ = some (.string (nms.getD j ⟨#[]⟩)) := by
    intro j hj
    rw [hW0, World.cell?_alloc_new]
    rcases j with _ | _ | _ | _ | j
    · rfl
    · rfl
    · rfl
    · rfl
    · omega
  have hsz : w2.heap.size < W0.heap.size := by rw [hW0]; simp
  rw [← hW0]
  obtain ⟨nb, hnb⟩ : ∃ nb, nb = w2.heap.size := ⟨_, rfl⟩
  rw [← hnb] at hnc hsz hlt2 ⊢
  have HD0 := Lib.hid hD0
  have HO0 := Lib.hid hO0
  have HNC := Lib.hid hnc
  clear hW0 hD0 hO0 hnc hnb HD2 HO2 HB1 HP HQ
  have hzs := zstr_size n
  have HZ := Lib.hid hzs
  clear hzs
  go_loopw [10] (fun i wr => ∃ k : Nat, k ≤ 4 ∧ i = .int .i64 k ∧ DiskIs wr (mb + 1) mb (fullSt (zstr n) k) ∧ Only (Own (mb + 1) mb) W0 wr) (fun i _ => 4 - (intOf i).toNat)
  case atStart => exact ⟨0, by omega, rfl, HD0.out, Only.refl _ _⟩
  case round =>
    obtain ⟨k, hk, rfl, hd, ho⟩ := hrel
    have HDk := Lib.hid hd
    have HOk := Lib.hid ho
    clear hd ho
    by_cases hlt : k < 4
    · have hc := (HOk.out.cell (p := ⟨nb, k, none⟩) hsz (by unfold Own; simp; omega)).trans (HNC.out k hlt)
      have hst := fullSt_step (zstr n) (by rw [HZ.out]; omega) k hlt
      have hln : (nms.getD k ⟨#[]⟩).size ≤ maxLen := by
        rcases k with _ | _ | _ | _ | k
        · decide
        · decide
        · decide
        · decide
        · omega
      generalize nms.getD k ⟨#[]⟩ = nm at hc hst hln
      have hl1 := World.block_lt_of_cell? wr _ hc
      simp only at hl1
      have hmk := run_mk (n : Int) (by omega) (by omega)
      simp only [Int.toNat_natCast] at hmk
      have hcv := run_cv n wr
      have HST := Lib.hid hst
      have HC := Lib.hid (append_eq hst ((HDk.out.alloc (.cells (zrow n) 5)).drew) (fullSt_ok (zstr n) (by rw [HZ.out]; omega) k hk).1 hln (by rw [HZ.out]; unfold maxLen; omega))
      clear hst hln
      go_wp2
      go_region_with (go_at_call 12; refine HC.out.mono ?_; rintro e wn ⟨rfl, hdn, hon⟩; have HDn := Lib.hid hdn; have HOn := Lib.hid hon; clear hdn hon)
      all_goals
        go_wp2
        go_roundw
        case rel => exact ⟨k + 1, by omega, by go_num, HDn.out, ((HOk.out.alloc _).drew).trans HOn.out⟩
        case measure => simp [intOf]; omega
    · obtain rfl : k = 4 := by omega
      have hmk := run_mk (m : Int) (by omega) (by omega)
      simp only [Int.toNat_natCast] at hmk
      have hcv := run_cv' m wr
      have hok4 := fullSt_ok (zstr n) (by rw [HZ.out]; omega) 4 (by omega)
      have HW4 := Lib.hid ((HO0.out.trans (HOk.out.mono fun k _ h => HOWN.out k h)).alloc (.cells (zrow m) 5))
      have hnw : ∀ j, j < 4 → wr.cell? ⟨nb, j, none⟩ = some (.string (nms.getD j ⟨#[]⟩)) := fun j hj => (HOk.out.cell (p := ⟨nb, j, none⟩) hsz (by unfold Own; simp; omega)).trans (HNC.out j hj)
      have HNW := Lib.hid hnw
      clear hnw
      have hnlt : nb < wr.heap.size := by have := HOk.out.size; omega
      have hE : (fullEnd n m).Ok ∧ (fullEnd n m).acts ≤ 5 := ⟨Dk.append_ok hok4.1 (by have := hok4.2; omega) _ _, by have := Dk.append_acts (fullSt (zstr n) 4) ⟨#[98]⟩ (zstr m); have := hok4.2; unfold fullEnd; omega⟩
      have HE := Lib.hid hE
      have HOK4 := Lib.hid hok4
      have hmz := zstr_size m
      have HMZ := Lib.hid hmz
      clear hE hok4 hmz
      by_cases hfit : n + m ≤ 65536
      · have hfull := fullEnd_yes n m hfit
        have HF1 := Lib.hid hfull.1
        have HF2 := Lib.hid hfull.2
        clear hfull
        have hsum : (zstr n ++ zstr m).size = n + m := by rw [ByteArray.size_append, HZ.out, HMZ.out]
        have hzn := HZ.out
        go_wp2_with fail
        refine (append_eq HF1.out (HDk.out.alloc (.cells (zrow m) 5)) HOK4.out.1 (by decide) (by rw [HMZ.out]; unfold maxLen; omega)).mono ?_
        rintro e w5 ⟨rfl, hd5, ho5⟩
        have HD5 := Lib.hid hd5
        have HO5 := Lib.hid ho5
        clear hd5 ho5
        go_wp2_with fail
        refine (read_eq HF2.out HD5.out).mono ?_
        rintro e w6 ⟨rfl, hd6, ho6⟩
        have HD6 := Lib.hid hd6
        have HO6 := Lib.hid ho6
        clear hd6 ho6
        go_wp2_with fail
        refine (append_eq (fullEnd_e n m) HD6.out HE.out.1 (by decide) (by decide)).mono ?_
        rintro e w7 ⟨rfl, hd7, ho7⟩
        have HD7 := Lib.hid hd7
        have HO7 := Lib.hid ho7
        clear hd7 ho7
        go_wp2_with fail
        refine (list_S (mb + 1) mb _ _ HD7.out (Dk.tick_ok HE.out.1 (by have := HE.out.2; omega))).mono ?_
        rintro e w8 ⟨A, c, rfl, hr, hb8⟩
        rw [fullEnd_names] at hr
        rw [fullEnd_len]
        have hall : Only (Own (mb + 1) mb) wr w8 := (((((Only.refl _ wr).alloc _).trans HO5.out).trans HO6.out).trans HO7.out).trans (Only.of_below hb8)
        have HR := Lib.hid hr
        have HFIN := Lib.hid (((HO0.out.trans (HOk.out.mono fun k _ h => HOWN.out k h)).trans (hall.mono fun k _ h => HOWN.out k h)))
        have HY := Lib.hid (show ReadsS w8 (some ⟨nb, 0, none⟩) nms from fun i hi => ⟨nb, 0, rfl, by
          rw [Nat.zero_add]
          exact (hall.cell (p := ⟨nb, i, none⟩) hnlt (by unfold Own; simp; omega)).trans (HNW.out i (by simpa [nms] using hi))⟩)
        clear hr hb8 hall
        go_wp2_with fail
        refine (same_any A (some ⟨nb, 0, none⟩) c 4 nms nms w8 HR.out HY.out (by decide) (by decide)).mono ?_
        rintro e w9 ⟨rfl, ho9⟩
        have HO9 := Lib.hid (HFIN.out.trans' ho9 (fun _ _ h => h) (fun _ _ h => h.elim))
        clear ho9
        go_wp2
        go_ret
        exact ⟨ret_bool (by simp), HO9.out.below (Nat.le_refl _) (fun k hk h => by omega)⟩
      · have hfull := fullEnd_no n m (by omega)
        have HF1 := Lib.hid hfull.1
        have HF2 := Lib.hid hfull.2
        clear hfull
        have hsum : (zstr n ++ zstr m).size = n + m := by rw [ByteArray.size_append, HZ.out, HMZ.out]
        have hzn := HZ.out
        go_wp2_with fail
        refine (append_eq HF1.out (HDk.out.alloc (.cells (zrow m) 5)) HOK4.out.1 (by decide) (by rw [HMZ.out]; unfold maxLen; omega)).mono ?_
        rintro e w5 ⟨rfl, hd5, ho5⟩
        have HD5 := Lib.hid hd5
        have HO5 := Lib.hid ho5
        clear hd5 ho5
        go_wp2_with fail
        refine (read_eq HF2.out HD5.out).mono ?_
        rintro e w6 ⟨rfl, hd6, ho6⟩
        have HD6 := Lib.hid hd6
        have HO6 := Lib.hid ho6
        clear hd6 ho6
        go_wp2_with fail
        refine (append_eq (fullEnd_e n m) HD6.out HE.out.1 (by decide) (by decide)).mono ?_
        rintro e w7 ⟨rfl, hd7, ho7⟩
        have HD7 := Lib.hid hd7
        have HO7 := Lib.hid ho7
        clear hd7 ho7
        go_wp2_with fail
        refine (list_S (mb + 1) mb _ _ HD7.out (Dk.tick_ok HE.out.1 (by have := HE.out.2; omega))).mono ?_
        rintro e w8 ⟨A, c, rfl, hr, hb8⟩
        rw [fullEnd_names] at hr
        rw [fullEnd_len]
        have hall : Only (Own (mb + 1) mb) wr w8 := (((((Only.refl _ wr).alloc _).trans HO5.out).trans HO6.out).trans HO7.out).trans (Only.of_below hb8)
        have HR := Lib.hid hr
        have HFIN := Lib.hid (((HO0.out.trans (HOk.out.mono fun k _ h => HOWN.out k h)).trans (hall.mono fun k _ h => HOWN.out k h)))
        have HY := Lib.hid (show ReadsS w8 (some ⟨nb, 0, none⟩) nms from fun i hi => ⟨nb, 0, rfl, by
          rw [Nat.zero_add]
          exact (hall.cell (p := ⟨nb, i, none⟩) hnlt (by unfold Own; simp; omega)).trans (HNW.out i (by simpa [nms] using hi))⟩)
        clear hr hb8 hall
        go_wp2_with fail
        refine (same_any A (some ⟨nb, 0, none⟩) c 4 nms nms w8 HR.out HY.out (by decide) (by decide)).mono ?_
        rintro e w9 ⟨rfl, ho9⟩
        have HO9 := Lib.hid (HFIN.out.trans' ho9 (fun _ _ h => h) (fun _ _ h => h.elim))
        clear ho9
        go_wp2
        go_ret
        exact ⟨ret_bool (by simp), HO9.out.below (Nat.le_refl _) (fun k hk h => by omega)⟩

theorem diskFull_walk (a0 : Int) (w0 : (Lit.int .i64 a0).wf = true) (a1 : Int) (w1 : (Lit.int .i64 a1).wf = true) (w : World) :
    Calls Try.prog 3 #[.int .i64 a0, .int .i64 a1] w fun e w' => e = .returned (.bool true) ∧ Below w.heap.size w w' := by
  have b0 := bounds_i64 w0
  have b1 := bounds_i64 w1
  exact diskFull_any a0 a1 w b0.1 b0.2 b1.1 b1.2
end Go.Proofs.Ytekkmfclaepcgaa

/- Layer 4: label.Value and term.holds walked. -/
import Derived.Test.YtfafdcdmaimghaaGreatDoorLabB
set_option linter.unusedVariables false
set_option linter.unusedSimpArgs false
namespace Go.Proofs.YtfafdcdmaimghaaGreatDoor
open Go Go.RowKit Go.Proofs.YtfafdcdmaimghaaGreatDoorW.PrintWords

theorem new_cell {w w1 : World} {cs : Array Value} {t : TypeId} (hb : Below (w.alloc (.cells cs t)).heap.size (w.alloc (.cells cs t)) w1) (i : Nat) : w1.cell? ⟨w.heap.size, i, none⟩ = cs[i]? := by
  rw [hb.cell (p := ⟨w.heap.size, i, none⟩) (by simp)]
  unfold World.cell?
  rw [heap_alloc_new]
  simp
theorem find_drop {α : Type} (q : α → Bool) (ps : List α) (k : Nat) (d : α) (hk : k < ps.length) : (ps.drop k).find? q = if q (ps.getD k d) = true then some (ps.getD k d) else (ps.drop (k + 1)).find? q := by
  rw [List.drop_eq_getElem_cons hk, List.find?_cons, List.getD_eq_getElem?_getD, List.getElem?_eq_getElem hk]
  simp only [Option.getD_some]
  cases q ps[k] <;> simp
theorem ret_sb {a b : ByteArray} {x y : Bool} (h : a = b) (h2 : x = y) : Ending.returned (.tuple #[.string a, .bool x]) = .returned (.tuple #[.string b, .bool y]) := by rw [h, h2]

set_option maxHeartbeats 2000000 in
set_option maxRecDepth 100000 in
theorem lvalue_any (s key : ByteArray) (w : World) (hs : s.size ≤ 2097152) (hm : MaxLenAt w) :
    Calls Tryz.prog 25 #[.string s, .string key] w fun e w' => e = .returned (.tuple #[.string (ba ((valueP s.data.toList key.data.toList).getD [])), .bool (valueP s.data.toList key.data.toList).isSome]) ∧ Below w.heap.size w w' := by
  have hsz : s.data.toList.length ≤ 2097152 := by rw [← Lib.size_eq]; exact hs
  have hcnt := parts_count s.data.toList
  have HSM := Lib.hid (parts_small s.data.toList)
  have hpa := fun W (h : Below w.heap.size w W) => lparts_any s W hs (hm.below h)
  have HPA := Lib.hid hpa
  have hil := lislabels_any s w hs hm
  have HM := Lib.hid hm
  clear hm hpa
  unfold valueP
  go_enter Tryz.func25, Tryz.ntmps25
  by_cases hl : isLabels s.data.toList = true
  · rw [hl] at hil
    rw [if_pos hl]
    have HIL := Lib.hid hil
    clear hil hl
    obtain ⟨ps, hps⟩ : ∃ ps, partsP s.data.toList = ps := ⟨_, rfl⟩
    rw [hps] at HSM HPA hcnt ⊢
    clear hps
    go_wp2_with (first | (go_at_call 6; refine HIL.out.mono ?_; rintro e w0 ⟨rfl, hb0⟩; have HB0 := Lib.hid hb0; clear hb0) | (go_at_call 11; refine (HPA.out _ HB0.out).mono ?_; rintro e w1 ⟨v, rfl, hv, hb⟩; obtain ⟨A, c, rfl, _, hC⟩ := Kd.R_reads hv; rw [List.length_map]; have HC := Lib.hid hC; have HB := Lib.hid (below2 HB0.out hb); clear hv hC hb))
    go_loopw [17] (fun i wr => ∃ (k : Nat), k ≤ ps.length ∧ i = .int .i64 k ∧ ps.find? (fun p => keyOf p == key.data.toList) = (ps.drop k).find? (fun p => keyOf p == key.data.toList) ∧ Below w1.heap.size w1 wr) (fun i _ => ps.length - (Lib.intOf i).toNat)
    case atStart => exact ⟨0, Nat.zero_le _, rfl, rfl, Below.refl _ _⟩
    case round =>
      obtain ⟨k, hk, rfl, heq, hbr⟩ := hrel
      have HEQ := Lib.hid heq
      have HBR := Lib.hid hbr
      have HMR := Lib.hid ((HM.out.below HB.out).below hbr)
      have HBW := Lib.hid (below2 HB.out hbr)
      clear heq hbr
      by_cases hlt : k < ps.length
      · obtain ⟨ad, rfl, hcell⟩ := text_at HC.out k hlt
        have hcell2 := (HBR.out.cell (World.block_lt_of_cell? _ _ hcell)).trans hcell
        have hpl := HSM.out (ps.getD k []) (by rw [List.getD_eq_getElem?_getD, List.getElem?_eq_getElem hlt]; exact List.getElem_mem hlt)
        have hstep := find_drop (fun p => keyOf p == key.data.toList) ps k [] hlt
        rw [← HEQ.out] at hstep
        generalize ps.getD k [] = p at *
        have hp2 : (ba p).size ≤ 2097152 := by rw [ba_size]; omega
        have hcut := lcut_any (ba p) wr hp2 HMR.out
        rw [list_ba] at hcut
        have hkk : ((ba (keyOf p)).toList == key.toList) = (keyOf p == key.data.toList) := by rw [Lib.toList_data, Lib.toList_data, list_ba]
        have HCUT := Lib.hid hcut
        have HST := Lib.hid hstep
        clear hcut hstep
        by_cases hc : keyOf p = key.data.toList
        · have hfin : ps.find? (fun p => keyOf p == key.data.toList) = some p := by rw [HST.out, if_pos (beq_iff_eq.2 hc)]
          have HFIN := Lib.hid hfin
          have hkt : ((ba (keyOf p)).toList == key.toList) = true := by rw [hkk]; exact beq_iff_eq.2 hc
          clear hfin hkk hc
          go_wp2_with (go_at_call 15; refine HCUT.out.mono ?_; rintro e w2 ⟨rfl, n, rfl⟩)
          all_goals go_ret2
          all_goals exact ⟨by rw [HFIN.out]; rfl, belowN HBW.out _⟩
        · have hnx : ps.find? (fun p => keyOf p == key.data.toList) = (ps.drop (k + 1)).find? (fun p => keyOf p == key.data.toList) := by rw [HST.out, if_neg (fun e => hc (beq_iff_eq.1 e))]
          have HNX := Lib.hid hnx
          have hkt : ((ba (keyOf p)).toList == key.toList) = false := by rw [hkk]; exact beq_eq_false_iff_ne.2 hc
          clear hnx hkk hc
          go_wp2_with (go_at_call 15; refine HCUT.out.mono ?_; rintro e w2 ⟨rfl, n, rfl⟩)
          go_roundw
          case rel => exact ⟨k + 1, by omega, by go_num, HNX.out, belowN HBR.out _⟩
          case measure => simp [Lib.intOf]; omega
      · obtain rfl : k = ps.length := by omega
        have hend : ps.find? (fun p => keyOf p == key.data.toList) = none := by rw [HEQ.out, List.drop_length]; rfl
        have HEND := Lib.hid hend
        clear hend
        go_wp2
        go_ret2
        exact ⟨by rw [HEND.out]; rfl, HBW.out⟩
  · have hl2 : isLabels s.data.toList = false := Bool.eq_false_iff.2 hl
    rw [hl2] at hil
    rw [if_neg hl]
    have HIL := Lib.hid hil
    clear hil hl hl2
    go_wp2_with (go_at_call 6; refine HIL.out.mono ?_; rintro e w0 ⟨rfl, hb0⟩; have HB0 := Lib.hid hb0; clear hb0)
    go_ret2
    exact ⟨rfl, HB0.out⟩

set_option maxHeartbeats 1000000 in
theorem lholds_any (n : Nat) (key val labels : ByteArray) (w : World) (hn : n ≤ 4) (hs : labels.size ≤ 2097152) (hm : MaxLenAt w) :
    Calls Tryz.prog 37 #[.agg #[.int .i64 n, .string key, .string val], .string labels] w fun e w' => e = .returned (.bool (holdsT (n, key.data.toList, val.data.toList) labels.data.toList)) ∧ Below w.heap.size w w' := by
  have hva := fun W (h : Below w.heap.size w W) => lvalue_any labels key W hs (hm.below h)
  obtain ⟨ov, hov⟩ : ∃ ov, valueP labels.data.toList key.data.toList = ov := ⟨_, rfl⟩
  unfold holdsT
  simp only [hov] at hva ⊢
  have HVA := Lib.hid hva
  clear hva hov hm
  go_enter Tryz.func37, Tryz.ntmps37
  rcases (show n = 0 ∨ n = 1 ∨ n = 2 ∨ n = 3 ∨ n = 4 by omega) with rfl | rfl | rfl | rfl | rfl
  all_goals (rcases ov with _ | x)
  all_goals (go_wp2_with (go_at_call 25; refine (HVA.out _ (by repeat (first | exact Below.refl _ _ | apply below_alloc | apply below_drew1))).mono ?_; rintro e w1 ⟨rfl, hb⟩; have n0 := new_cell hb 0; have n2 := new_cell hb 2; simp only [List.getElem?_toArray, List.getElem?_cons_zero, List.getElem?_cons_succ] at n0 n2; have HB := Lib.hid hb; clear hb))
  all_goals go_ret
  all_goals exact ⟨ret_bool (by first | (rw [Bool.eq_iff_iff]; done) | (rw [Bool.eq_iff_iff]; simp [Lib.toList_data, list_ba])), below2 (below_alloc (Below.refl _ _) _) HB.out⟩
end Go.Proofs.YtfafdcdmaimghaaGreatDoor

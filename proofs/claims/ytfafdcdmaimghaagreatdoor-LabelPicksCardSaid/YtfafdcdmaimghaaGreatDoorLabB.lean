/- Layer 4: label.IsLabels walked. -/
import Derived.Test.YtfafdcdmaimghaaGreatDoorLabA
import Derived.Test.YtfafdcdmaimghaaGreatDoorStrW
import Derived.Deep.RegionWith
import Derived.IntWalk
set_option linter.unusedVariables false
set_option linter.unusedSimpArgs false
namespace Go.Proofs.YtfafdcdmaimghaaGreatDoor
open Go Go.RowKit Go.Proofs.YtfafdcdmaimghaaGreatDoorW.PrintWords
attribute [local go_sem] leq_flip

theorem lcut_any (s : ByteArray) (w : World) (hs : s.size ≤ 2097152) (hm : MaxLenAt w) :
    Calls Tryz.prog 15 #[.string s, .string ⟨#[61]⟩] w fun e w' => e = .returned (.tuple #[.string (ba (keyOf s.data.toList)), .string (ba (valOf s.data.toList)), .bool (cutE 61 s.data.toList).2.2]) ∧ ∃ n, w' = w.drewN n := by
  obtain ⟨m, hm⟩ := hm
  have h := Any.strings_Cut Tryz.cutA s ⟨#[61]⟩ m w (by omega) hm
  have e : Lib.cut s.data.toList [61] = cutE 61 s.data.toList := cut_one 61 _
  refine h.mono fun e' w' hh => ?_
  have hh2 : e' = .returned (.tuple #[.string ⟨(Lib.cut s.data.toList [61]).1.toArray⟩, .string ⟨(Lib.cut s.data.toList [61]).2.1.toArray⟩, .bool (Lib.cut s.data.toList [61]).2.2]) ∧ ∃ n, w' = w.drewN n := hh
  rw [e] at hh2
  exact hh2
theorem MaxLenAt.drewN {w : World} (h : MaxLenAt w) (n : Nat) : MaxLenAt (w.drewN n) := h.below (pw_below_drewN (Below.refl _ _) n)
theorem below2 {a b c : World} (h1 : Below a.heap.size a b) (h2 : Below b.heap.size b c) : Below a.heap.size a c := h1.trans (h2.mono h1.size)
theorem belowN {a b : World} (h1 : Below a.heap.size a b) (n : Nat) : Below a.heap.size a (b.drewN n) := pw_below_drewN h1 n
/-- The k-th text of a row that is read. -/
theorem text_at {w : World} {A : Option Addr} {ps : List Bs} (h : Kd.string.C w A (ps.map ba).length (ps.map ba)) (k : Nat) (hk : k < ps.length) : ∃ ad, A = some ad ∧ w.cell? (ad.add k) = some (.string (ba (ps.getD k []))) := by
  obtain ⟨ad, h1, h2⟩ := Kd.at_string h (k : Int) (by omega) (by rw [List.length_map]; omega)
  refine ⟨ad, h1, ?_⟩
  rw [Int.toNat_natCast] at h2
  rw [h2]
  congr 2
  show ((ps.map ba).getD (k : Int).toNat ByteArray.empty) = _
  rw [Int.toNat_natCast, List.getD_eq_getElem?_getD, List.getD_eq_getElem?_getD, List.getElem?_map, List.getElem?_eq_getElem hk]
  rfl
theorem labOk_drop (ps : List Bs) (k : Nat) (hk : k < ps.length) (last : Bs) : labOk (ps.drop k) last = ((cutE 61 (ps.getD k [])).2.2 && isNm (keyOf (ps.getD k [])) && isNm (valOf (ps.getD k [])) && decide (last < keyOf (ps.getD k [])) && labOk (ps.drop (k + 1)) (keyOf (ps.getD k []))) := by
  rw [List.drop_eq_getElem_cons hk, List.getD_eq_getElem?_getD, List.getElem?_eq_getElem hk]
  rfl
theorem parts_small (l : Bs) : ∀ p ∈ partsP l, p.length ≤ l.length := by
  intro p hp
  unfold partsP at hp
  split at hp
  · cases hp
  · exact splitC_len 44 l p hp
theorem parts_count (l : Bs) : (partsP l).length ≤ l.length + 1 := by
  unfold partsP
  split
  · simp
  · exact splitC_count 44 l

set_option maxHeartbeats 2000000 in
set_option maxRecDepth 100000 in
theorem lislabels_any (s : ByteArray) (w : World) (hs : s.size ≤ 2097152) (hm : MaxLenAt w) :
    Calls Tryz.prog 6 #[.string s] w fun e w' => e = .returned (.bool (isLabels s.data.toList)) ∧ Below w.heap.size w w' := by
  have hsz : s.data.toList.length ≤ 2097152 := by rw [← Lib.size_eq]; exact hs
  have hcnt := parts_count s.data.toList
  have HSM := Lib.hid (parts_small s.data.toList)
  have HPA := Lib.hid (lparts_any s w hs hm)
  have HM := Lib.hid hm
  clear hm
  go_enter Tryz.func6, Tryz.ntmps6
  unfold isLabels
  obtain ⟨ps, hps⟩ : ∃ ps, partsP s.data.toList = ps := ⟨_, rfl⟩
  rw [hps] at HSM HPA hcnt ⊢
  clear hps
  go_wp2_with (go_at_call 11; refine HPA.out.mono ?_; rintro e w1 ⟨v, rfl, hv, hb⟩; obtain ⟨A, c, rfl, _, hC⟩ := Kd.R_reads hv; rw [List.length_map]; have HC := Lib.hid hC; have HB := Lib.hid hb; clear hv hC hb)
  go_loopw [4, 14] (fun last i wr => ∃ (k : Nat) (L : Bs), k ≤ ps.length ∧ i = .int .i64 k ∧ last = .string (ba L) ∧ labOk ps [] = labOk (ps.drop k) L ∧ Below w1.heap.size w1 wr) (fun _ i _ => ps.length - (Lib.intOf i).toNat)
  case atStart => exact ⟨0, [], Nat.zero_le _, rfl, rfl, rfl, Below.refl _ _⟩
  case round =>
    obtain ⟨k, L, hk, rfl, rfl, heq, hbr⟩ := hrel
    have HEQ := Lib.hid heq
    have HBR := Lib.hid hbr
    have HMR := Lib.hid ((HM.out.below HB.out).below hbr)
    have HBW := Lib.hid (HB.out.trans (hbr.mono HB.out.size))
    clear heq hbr
    by_cases hlt : k < ps.length
    · obtain ⟨ad, rfl, hcell⟩ := text_at HC.out k hlt
      have hcell2 := (HBR.out.cell (World.block_lt_of_cell? _ _ hcell)).trans hcell
      have hpl := HSM.out (ps.getD k []) (by rw [List.getD_eq_getElem?_getD, List.getElem?_eq_getElem hlt]; exact List.getElem_mem hlt)
      have hstep := labOk_drop ps k hlt L
      rw [← HEQ.out] at hstep
      generalize ps.getD k [] = p at *
      have hp2 : (ba p).size ≤ 2097152 := by rw [ba_size]; omega
      have hcut := lcut_any (ba p) wr hp2 HMR.out
      rw [list_ba] at hcut
      have hk1 := (cutE_len 61 p).1
      have hk2 := (cutE_len 61 p).2
      change (keyOf p).length ≤ _ at hk1
      change (valOf p).length ≤ _ at hk2
      have hnk := fun W => lname_any (ba (keyOf p)) W (by rw [ba_size]; omega)
      have hnv := fun W => lname_any (ba (valOf p)) W (by rw [ba_size]; omega)
      simp only [list_ba] at hnk hnv
      have hless : Op.bytesLess (ba L).toList (ba (keyOf p)).toList = decide (L < keyOf p) := by rw [bytesLess_eq, Lib.toList_data, Lib.toList_data, list_ba, list_ba]
      generalize keyOf p = K at *
      generalize valOf p = V at *
      generalize (cutE 61 p).2.2 = ok at *
      generalize isNm K = nk at *
      generalize isNm V = nv at *
      generalize hdl : decide (L < K) = dl at *
      clear hdl
      have HCUT := Lib.hid hcut
      have HNK := Lib.hid hnk
      have HNV := Lib.hid hnv
      have HST := Lib.hid hstep
      clear hcut hnk hnv hstep
      cases ok
      · go_wp2_with (go_at_call 15; refine HCUT.out.mono ?_; rintro e w2 ⟨rfl, n, rfl⟩)
        go_ret
        exact ⟨ret_bool (by rw [HST.out]; simp), belowN HBW.out _⟩
      cases nk
      · go_wp2_with (first | (go_at_call 15; refine HCUT.out.mono ?_; rintro e w2 ⟨rfl, n, rfl⟩) | (go_at_call_of 16 K; refine (HNK.out _).mono ?_; rintro e w3 ⟨rfl, hb3⟩; have HB3 := Lib.hid hb3; clear hb3))
        go_ret
        exact ⟨ret_bool (by rw [HST.out]; simp), below2 (belowN HBW.out _) HB3.out⟩
      cases nv
      · go_wp2_with (first | (go_at_call 15; refine HCUT.out.mono ?_; rintro e w2 ⟨rfl, n, rfl⟩) | (go_at_call_of 16 K; refine (HNK.out _).mono ?_; rintro e w3 ⟨rfl, hb3⟩; have HB3 := Lib.hid hb3; clear hb3) | (go_at_call_of 16 V; refine (HNV.out _).mono ?_; rintro e w4 ⟨rfl, hb4⟩; have HB4 := Lib.hid hb4; clear hb4))
        go_ret
        exact ⟨ret_bool (by rw [HST.out]; simp), below2 (below2 (belowN HBW.out _) HB3.out) HB4.out⟩
      cases dl
      · go_wp2_with (first | (go_at_call 15; refine HCUT.out.mono ?_; rintro e w2 ⟨rfl, n, rfl⟩) | (go_at_call_of 16 K; refine (HNK.out _).mono ?_; rintro e w3 ⟨rfl, hb3⟩; have HB3 := Lib.hid hb3; clear hb3) | (go_at_call_of 16 V; refine (HNV.out _).mono ?_; rintro e w4 ⟨rfl, hb4⟩; have HB4 := Lib.hid hb4; clear hb4))
        go_ret
        exact ⟨ret_bool (by rw [HST.out]; simp), below2 (below2 (belowN HBW.out _) HB3.out) HB4.out⟩
      · go_wp2_with (first | (go_at_call 15; refine HCUT.out.mono ?_; rintro e w2 ⟨rfl, n, rfl⟩) | (go_at_call_of 16 K; refine (HNK.out _).mono ?_; rintro e w3 ⟨rfl, hb3⟩; have HB3 := Lib.hid hb3; clear hb3) | (go_at_call_of 16 V; refine (HNV.out _).mono ?_; rintro e w4 ⟨rfl, hb4⟩; have HB4 := Lib.hid hb4; clear hb4))
        go_roundw
        case rel => exact ⟨k + 1, K, by omega, by go_num, rfl, by rw [HST.out]; simp, below2 (below2 (belowN HBR.out _) HB3.out) HB4.out⟩
        case measure => simp [Lib.intOf]; omega
    · obtain rfl : k = ps.length := by omega
      have hend : labOk ps [] = true := by rw [HEQ.out, List.drop_length]; rfl
      go_wp2
      all_goals go_ret
      all_goals exact ⟨ret_bool (by rw [hend, Bool.true_and]; first | (congr 1; done) | (exact decide_eq_decide.2 (by omega)) | (symm; rw [decide_eq_true_iff]; omega) | (symm; rw [decide_eq_false_iff_not]; omega)), HBW.out⟩
end Go.Proofs.YtfafdcdmaimghaaGreatDoor

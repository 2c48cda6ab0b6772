/- Layer 4: slices.ContainsFunc over texts; IsSelector, Match. -/
import Derived.Test.YtfafdcdmaimghaaGreatDoorLabE
set_option linter.unusedVariables false
set_option linter.unusedSimpArgs false
namespace Go.Proofs.YtfafdcdmaimghaaGreatDoor
open Go Go.RowKit Go.Proofs.YtfafdcdmaimghaaGreatDoorW.PrintWords

theorem any_drop (p : Bs → Bool) (ps : List Bs) (k : Nat) (hk : k < ps.length) : (ps.drop k).any p = (p (ps.getD k []) || (ps.drop (k + 1)).any p) := by
  rw [List.drop_eq_getElem_cons hk, List.any_cons, List.getD_eq_getElem?_getD, List.getElem?_eq_getElem hk]
  rfl
theorem all_not_any (ps : List Bs) : (ps.all fun p => decide ((readT p).1 ≠ 0)) = !(ps.any fun p => decide ((readT p).1 = 0)) := by
  induction ps with
  | nil => rfl
  | cons a t ih =>
    rw [List.all_cons, List.any_cons, Bool.not_or, ← ih]
    congr 1
    by_cases h : (readT a).1 = 0 <;> simp [h]
theorem all_any_not (ps : List Bs) (q : Bs → Bool) : ps.all q = !(ps.any fun p => !q p) := by
  induction ps with
  | nil => rfl
  | cons a t ih => rw [List.all_cons, List.any_cons, Bool.not_or, ← ih, Bool.not_not]

set_option maxHeartbeats 1000000 in
set_option maxRecDepth 100000 in
theorem csel_index (p : Bs → Bool) (A : Option Addr) (c : Nat) (ps : List Bs) (w : World) (hC : Kd.string.C w A (ps.map ba).length (ps.map ba)) (hl : ps.length ≤ 4194304)
    (hp : ∀ W k, Below w.heap.size w W → k < ps.length → Calls Tryz.prog 13 #[.string (ba (ps.getD k []))] W fun e w' => e = .returned (.bool (p (ps.getD k []))) ∧ Below W.heap.size W w') :
    Calls Tryz.prog 31 #[.slice A ps.length c, .func (.func 13) #[] #[]] w fun e w' => Below w.heap.size w w' ∧ ∃ r : Int, e = .returned (.int .i64 r) ∧ ps.any p = decide (0 ≤ r) := by
  have HC := Lib.hid hC
  have HP := Lib.hid hp
  clear hC hp
  go_enter Tryz.func31, Tryz.ntmps31
  go_wp2
  go_loopw [5, 8] (fun _ i wr => ∃ k : Nat, k ≤ ps.length ∧ i = .int .i64 k ∧ ps.any p = (ps.drop k).any p ∧ Below w.heap.size w wr) (fun _ i _ => ps.length - (Lib.intOf i).toNat)
  case atStart => exact ⟨0, Nat.zero_le _, rfl, rfl, Below.refl _ _⟩
  case round =>
    obtain ⟨k, hk, rfl, heq, hb⟩ := hrel
    have HEQ := Lib.hid heq
    have HB := Lib.hid hb
    clear heq hb
    by_cases hlt : k < ps.length
    · obtain ⟨ad, rfl, hcell⟩ := text_at HC.out k hlt
      have hcell2 := (HB.out.cell (World.block_lt_of_cell? _ _ hcell)).trans hcell
      have hcall := HP.out wr k HB.out hlt
      have hstep := any_drop p ps k hlt
      rw [← HEQ.out] at hstep
      generalize ps.getD k [] = x at *
      have HST := Lib.hid hstep
      clear hstep
      cases hq : p x with
      | true =>
        rw [hq] at hcall
        have HQ := Lib.hid hq
        have HCL := Lib.hid hcall
        clear hq hcall
        go_wp2_with (go_at_call 13; refine HCL.out.mono ?_; rintro e w' ⟨rfl, hb'⟩; have HB2 := Lib.hid hb'; clear hb')
        go_ret
        exact ⟨below2 HB.out HB2.out, k, rfl, by rw [HST.out, HQ.out, Bool.true_or]; symm; rw [decide_eq_true_iff]; omega⟩
      | false =>
        rw [hq] at hcall
        have HQ := Lib.hid hq
        have HCL := Lib.hid hcall
        clear hq hcall
        go_wp2_with (go_at_call 13; refine HCL.out.mono ?_; rintro e w' ⟨rfl, hb'⟩; have HB2 := Lib.hid hb'; clear hb')
        go_roundw
        case rel => exact ⟨k + 1, by omega, by go_num, by rw [HST.out, HQ.out, Bool.false_or], below2 HB.out HB2.out⟩
        case measure => simp [Lib.intOf]; omega
    · obtain rfl : k = ps.length := by omega
      go_wp2
      go_ret
      exact ⟨HB.out, -1, rfl, by rw [HEQ.out, List.drop_length]; rfl⟩
set_option maxRecDepth 100000 in
theorem csel_any (p : Bs → Bool) (A : Option Addr) (c : Nat) (ps : List Bs) (w : World) (hC : Kd.string.C w A (ps.map ba).length (ps.map ba)) (hl : ps.length ≤ 4194304)
    (hp : ∀ W k, Below w.heap.size w W → k < ps.length → Calls Tryz.prog 13 #[.string (ba (ps.getD k []))] W fun e w' => e = .returned (.bool (p (ps.getD k []))) ∧ Below W.heap.size W w') :
    Calls Tryz.prog 12 #[.slice A ps.length c, .func (.func 13) #[] #[]] w fun e w' => e = .returned (.bool (ps.any p)) ∧ Below w.heap.size w w' := by
  have hc := csel_index p A c ps w hC hl hp
  have HC := Lib.hid hc
  clear hc hp
  go_enter Tryz.func12, Tryz.ntmps12
  go_wp2_with (go_at_call 31; refine HC.out.mono ?_; rintro e w' ⟨hb, r, rfl, hr⟩; have HB := Lib.hid hb; have HR := Lib.hid hr; clear hb hr)
  go_ret
  exact ⟨ret_bool HR.out.symm, HB.out⟩

set_option maxHeartbeats 1000000 in
set_option maxRecDepth 100000 in
theorem cmat_index (p : Bs → Bool) (lb : Value) (A : Option Addr) (c : Nat) (ps : List Bs) (w : World) (hC : Kd.string.C w A (ps.map ba).length (ps.map ba)) (hl : ps.length ≤ 4194304)
    (hp : ∀ W k, Below w.heap.size w W → k < ps.length → Calls Tryz.prog 36 #[.string (ba (ps.getD k [])), lb] W fun e w' => e = .returned (.bool (p (ps.getD k []))) ∧ Below W.heap.size W w') :
    Calls Tryz.prog 31 #[.slice A ps.length c, .func (.func 36) #[] #[lb]] w fun e w' => Below w.heap.size w w' ∧ ∃ r : Int, e = .returned (.int .i64 r) ∧ ps.any p = decide (0 ≤ r) := by
  have HC := Lib.hid hC
  have HP := Lib.hid hp
  clear hC hp
  go_enter Tryz.func31, Tryz.ntmps31
  go_wp2
  go_loopw [5, 8] (fun _ i wr => ∃ k : Nat, k ≤ ps.length ∧ i = .int .i64 k ∧ ps.any p = (ps.drop k).any p ∧ Below w.heap.size w wr) (fun _ i _ => ps.length - (Lib.intOf i).toNat)
  case atStart => exact ⟨0, Nat.zero_le _, rfl, rfl, Below.refl _ _⟩
  case round =>
    obtain ⟨k, hk, rfl, heq, hb⟩ := hrel
    have HEQ := Lib.hid heq
    have HB := Lib.hid hb
    clear heq hb
    by_cases hlt : k < ps.length
    · obtain ⟨ad, rfl, hcell⟩ := text_at HC.out k hlt
      have hcell2 := (HB.out.cell (World.block_lt_of_cell? _ _ hcell)).trans hcell
      have hcall := HP.out wr k HB.out hlt
      have hstep := any_drop p ps k hlt
      rw [← HEQ.out] at hstep
      generalize ps.getD k [] = x at *
      have HST := Lib.hid hstep
      clear hstep
      cases hq : p x with
      | true =>
        rw [hq] at hcall
        have HQ := Lib.hid hq
        have HCL := Lib.hid hcall
        clear hq hcall
        go_wp2_with (go_at_call 36; refine HCL.out.mono ?_; rintro e w' ⟨rfl, hb'⟩; have HB2 := Lib.hid hb'; clear hb')
        go_ret
        exact ⟨below2 HB.out HB2.out, k, rfl, by rw [HST.out, HQ.out, Bool.true_or]; symm; rw [decide_eq_true_iff]; omega⟩
      | false =>
        rw [hq] at hcall
        have HQ := Lib.hid hq
        have HCL := Lib.hid hcall
        clear hq hcall
        go_wp2_with (go_at_call 36; refine HCL.out.mono ?_; rintro e w' ⟨rfl, hb'⟩; have HB2 := Lib.hid hb'; clear hb')
        go_roundw
        case rel => exact ⟨k + 1, by omega, by go_num, by rw [HST.out, HQ.out, Bool.false_or], below2 HB.out HB2.out⟩
        case measure => simp [Lib.intOf]; omega
    · obtain rfl : k = ps.length := by omega
      go_wp2
      go_ret
      exact ⟨HB.out, -1, rfl, by rw [HEQ.out, List.drop_length]; rfl⟩
set_option maxRecDepth 100000 in
theorem cmat_any (p : Bs → Bool) (lb : Value) (A : Option Addr) (c : Nat) (ps : List Bs) (w : World) (hC : Kd.string.C w A (ps.map ba).length (ps.map ba)) (hl : ps.length ≤ 4194304)
    (hp : ∀ W k, Below w.heap.size w W → k < ps.length → Calls Tryz.prog 36 #[.string (ba (ps.getD k [])), lb] W fun e w' => e = .returned (.bool (p (ps.getD k []))) ∧ Below W.heap.size W w') :
    Calls Tryz.prog 12 #[.slice A ps.length c, .func (.func 36) #[] #[lb]] w fun e w' => e = .returned (.bool (ps.any p)) ∧ Below w.heap.size w w' := by
  have hc := cmat_index p lb A c ps w hC hl hp
  have HC := Lib.hid hc
  clear hc hp
  go_enter Tryz.func12, Tryz.ntmps12
  go_wp2_with (go_at_call 31; refine HC.out.mono ?_; rintro e w' ⟨hb, r, rfl, hr⟩; have HB := Lib.hid hb; have HR := Lib.hid hr; clear hb hr)
  go_ret
  exact ⟨ret_bool HR.out.symm, HB.out⟩

set_option maxHeartbeats 1000000 in
set_option maxRecDepth 100000 in
theorem lissel_any (s : ByteArray) (w : World) (hs : s.size ≤ 2097152) (hm : MaxLenAt w) :
    Calls Tryz.prog 5 #[.string s] w fun e w' => e = .returned (.bool (isSel s.data.toList)) ∧ Below w.heap.size w w' := by
  have hsz : s.data.toList.length ≤ 2097152 := by rw [← Lib.size_eq]; exact hs
  have hcnt := parts_count s.data.toList
  have HSM := Lib.hid (parts_small s.data.toList)
  have HPA := Lib.hid (lparts_any s w hs hm)
  have HM := Lib.hid hm
  clear hm
  unfold isSel
  obtain ⟨ps, hps⟩ : ∃ ps, partsP s.data.toList = ps := ⟨_, rfl⟩
  rw [hps] at HSM HPA hcnt ⊢
  clear hps
  rw [all_not_any]
  go_enter Tryz.func5, Tryz.ntmps5
  by_cases h4 : ps.length ≤ 4
  · rw [decide_eq_true h4, Bool.true_and]
    go_wp2_with (first
      | (go_at_call 11; refine HPA.out.mono ?_; rintro e w1 ⟨v, rfl, hv, hb⟩; obtain ⟨A, c, rfl, _, hC⟩ := Kd.R_reads hv; rw [List.length_map]; have HCS := Lib.hid (csel_any (fun l => decide ((readT l).1 = 0)) A c ps w1 hC (by omega) (fun W k hW hk => by have := lsel1_any (ba (ps.getD k [])) W (by rw [ba_size]; have := HSM.out (ps.getD k []) (by rw [List.getD_eq_getElem?_getD, List.getElem?_eq_getElem hk]; exact List.getElem_mem hk); omega) (HM.out.below (below2 hb hW)); rwa [list_ba] at this)); have HB := Lib.hid hb; clear hv hC hb)
      | (go_at_call 12; refine HCS.out.mono ?_; rintro e w2 ⟨rfl, hb2⟩; have HB2 := Lib.hid (below2 HB.out hb2); clear hb2))
    all_goals go_ret
    all_goals first
      | exact ⟨rfl, HB2.out⟩
      | exact ⟨ret_bool (by simp), HB2.out⟩
  · rw [decide_eq_false h4, Bool.false_and]
    go_wp2_with (go_at_call 11; refine HPA.out.mono ?_; rintro e w1 ⟨v, rfl, hv, hb⟩; obtain ⟨A, c, rfl, _, hC⟩ := Kd.R_reads hv; rw [List.length_map]; have HB := Lib.hid hb; clear hv hC hb)
    all_goals go_ret
    all_goals exact ⟨rfl, HB.out⟩

theorem ret_bi {a b : Bool} {x y : Int} (h : a = b) (h2 : x = y) : Ending.returned (.tuple #[.bool a, .int .i64 x]) = .returned (.tuple #[.bool b, .int .i64 y]) := by rw [h, h2]
set_option maxHeartbeats 2000000 in
set_option maxRecDepth 100000 in
theorem lmatch_any (s labels : ByteArray) (w : World) (hs : s.size ≤ 2097152) (hl : labels.size ≤ 2097152) (hm : MaxLenAt w) :
    Calls Tryz.prog 19 #[.string s, .string labels] w fun e w' => e = .returned (.tuple #[.bool (matchP s.data.toList labels.data.toList).1, .int .i64 (matchP s.data.toList labels.data.toList).2]) ∧ Below w.heap.size w w' := by
  have hsz : s.data.toList.length ≤ 2097152 := by rw [← Lib.size_eq]; exact hs
  have hcnt := parts_count s.data.toList
  have HSM := Lib.hid (parts_small s.data.toList)
  have HPA := Lib.hid (fun W (h : Below w.heap.size w W) => lparts_any s W hs (hm.below h))
  have his := fun W (h : Below w.heap.size w W) => lissel_any s W hs (hm.below h)
  have hil := fun W (h : Below w.heap.size w W) => lislabels_any labels W hl (hm.below h)
  have HM := Lib.hid hm
  clear hm
  unfold matchP
  obtain ⟨ps, hps⟩ : ∃ ps, partsP s.data.toList = ps := ⟨_, rfl⟩
  rw [hps] at HSM HPA hcnt ⊢
  clear hps
  generalize isSel s.data.toList = b1 at *
  generalize hb2 : isLabels labels.data.toList = b2 at *
  have HIS := Lib.hid his
  have HIL := Lib.hid hil
  clear his hil
  go_enter Tryz.func19, Tryz.ntmps19
  cases b1
  · go_wp2_with (go_at_call 5; refine (HIS.out _ (below_alloc (Below.refl _ _) _)).mono ?_; rintro e w1 ⟨rfl, hb⟩; have HB := Lib.hid (below2 (below_alloc (Below.refl _ _) _) hb); clear hb)
    all_goals go_ret2
    all_goals exact ⟨rfl, HB.out⟩
  cases b2
  · go_wp2_with (first
      | (go_at_call 5; refine (HIS.out _ (below_alloc (Below.refl _ _) _)).mono ?_; rintro e w1 ⟨rfl, hb⟩; have n0 := new_cell hb 0; simp only [List.getElem?_toArray, List.getElem?_cons_zero] at n0; have HB := Lib.hid (below2 (below_alloc (Below.refl _ _) _) hb); clear hb)
      | (go_at_call 6; refine (HIL.out _ HB.out).mono ?_; rintro e w2 ⟨rfl, hb⟩; have HB2 := Lib.hid (below2 HB.out hb); clear hb))
    all_goals go_ret2
    all_goals exact ⟨rfl, HB2.out⟩
  · rw [all_any_not]
    go_wp2_with (first
      | (go_at_call 5; refine (HIS.out _ (below_alloc (Below.refl _ _) _)).mono ?_; rintro e w1 ⟨rfl, hb⟩; have n0 := new_cell hb 0; simp only [List.getElem?_toArray, List.getElem?_cons_zero] at n0; have HN := Lib.hid n0; have hbl := World.block_lt_of_cell? _ _ n0; have HB := Lib.hid (below2 (below_alloc (Below.refl _ _) _) hb); clear hb)
      | (go_at_call 6; refine (HIL.out _ HB.out).mono ?_; rintro e w2 ⟨rfl, hb⟩; have HN2 := Lib.hid ((hb.cell hbl).trans HN.out); have hbl2 := World.block_lt_of_cell? _ _ HN2.out; have HB2 := Lib.hid (below2 HB.out hb); clear hb)
      | (go_at_call 11; refine (HPA.out _ HB2.out).mono ?_; rintro e w3 ⟨v, rfl, hv, hb⟩; obtain ⟨A, c, rfl, _, hC⟩ := Kd.R_reads hv; rw [List.length_map]; have HN3 := Lib.hid ((hb.cell hbl2).trans HN2.out); have hbl3 := World.block_lt_of_cell? _ _ HN3.out; have HB3 := Lib.hid (below2 HB2.out hb); have HCS := Lib.hid (cmat_any (fun l => !holdsT (readT l) labels.data.toList) (.pointer (some ⟨w.heap.size, 0, none⟩)) A c ps w3 hC (by omega) (fun W k hW hk => by have := lmat1_any (ba (ps.getD k [])) labels w.heap.size W (by rw [ba_size]; have := HSM.out (ps.getD k []) (by rw [List.getD_eq_getElem?_getD, List.getElem?_eq_getElem hk]; exact List.getElem_mem hk); omega) hl (HM.out.below (below2 HB3.out hW)) ((hW.cell hbl3).trans HN3.out); rwa [list_ba] at this)); clear hv hC hb)
      | (go_at_call 12; refine HCS.out.mono ?_; rintro e w4 ⟨rfl, hb4⟩; have HB4 := Lib.hid (below2 HB3.out hb4); clear hb4))
    all_goals go_ret2
    all_goals exact ⟨rfl, HB4.out⟩
end Go.Proofs.YtfafdcdmaimghaaGreatDoor

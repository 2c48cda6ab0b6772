/- Layer 4: label.Both and label.Tidy walked. -/
import Derived.Test.YtfafdcdmaimghaaGreatDoorLabH
set_option linter.unusedVariables false
set_option linter.unusedSimpArgs false
namespace Go.Proofs.YtfafdcdmaimghaaGreatDoor
open Go Go.RowKit Go.Sort Go.Proofs.YtfafdcdmaimghaaGreatDoorW.PrintWords

theorem row_holds {w : World} {base : Nat} {ok : Nat → Prop} {v : Value} {l : List Bs} (h : Kd.R Kd.string 9 w base ok v (l.map ba)) :
    (v = .slice none 0 0 ∧ l = []) ∨ ∃ g cap, v = .slice (some ⟨g, 0, none⟩) l.length cap ∧ base ≤ g ∧ g < w.heap.size ∧ l.length ≤ cap ∧ Holds encStr w g 0 l.toArray := by
  have ho : w.ownsRow base 9 1 v (l.map ba).length (encs Value.string (l.map ba)) := Kd.own_of_R h
  have hat := ho
  rcases ho.2 with ⟨rfl, h0⟩ | ⟨g, cap, cur, rfl, hb, hh, hn, hcm, hcs, htk⟩
  · rw [List.length_map] at h0
    exact .inl ⟨rfl, List.length_eq_zero_iff.1 h0⟩
  · refine .inr ⟨g, cap, by rw [List.length_map], hb, (Array.getElem?_eq_some_iff.1 hh).1, by rwa [List.length_map] at hn, fun j hj => ⟨?_, by simp [World.frozen?, hh]⟩⟩
    have hj2 : j < l.length := by simpa using hj
    rw [Nat.zero_add, hat.cellAt j (by rw [List.length_map]; omega)]
    unfold encs
    rw [List.getElem?_map, List.getElem?_map, List.getElem?_eq_getElem hj2]
    simp [hj2, ba]
theorem mem_compact {l : List Bs} {p : Bs} (h : p ∈ Lib.compact l) : p ∈ l := by
  unfold Lib.compact Lib.compactUpTo at h
  obtain ⟨j, hj, rfl⟩ := List.mem_map.1 h
  have hj2 : j < l.length := List.mem_range.1 (List.mem_filter.1 hj).1
  simp [hj2]
theorem mem_tidy {l : List Bs} {p : Bs} (h : p ∈ tidyL l) : p ∈ l := (List.mem_mergeSort).1 (mem_compact h)
theorem join_len (B : Nat) : ∀ l : List Bs, (∀ p ∈ l, p.length ≤ B) → (joinC 44 l).length ≤ l.length * (B + 1)
  | [], _ => by simp [joinC]
  | [p], h => by have := h p List.mem_cons_self; simp [joinC]; omega
  | p :: q :: r, h => by
    have h1 := h p List.mem_cons_self
    have ih := join_len B (q :: r) (fun x hx => h x (List.mem_cons_of_mem _ hx))
    show (p ++ 44 :: joinC 44 (q :: r)).length ≤ _
    rw [List.length_append, List.length_cons, List.length_cons, Nat.succ_mul]
    omega
theorem ret_si {a b : ByteArray} {x y : Int} (h : a = b) (h2 : x = y) : Ending.returned (.tuple #[.string a, .int .i64 x]) = .returned (.tuple #[.string b, .int .i64 y]) := by rw [h, h2]

set_option maxHeartbeats 4000000 in
set_option maxRecDepth 100000 in
theorem lboth_any (a b : ByteArray) (w : World) (ha : a.size ≤ 2097152) (hb : b.size ≤ 2097152) (hm : MaxLenAt w) :
    Calls Tryz.prog 23 #[.string a, .string b] w fun e w' => e = .returned (.tuple #[.string (ba (bothP a.data.toList b.data.toList).1), .int .i64 (bothP a.data.toList b.data.toList).2]) ∧ Below w.heap.size w w' := by
  have hsa : a.data.toList.length ≤ 2097152 := by rw [← Lib.size_eq]; exact ha
  have hsb : b.data.toList.length ≤ 2097152 := by rw [← Lib.size_eq]; exact hb
  have hca := parts_count a.data.toList
  have hcb := parts_count b.data.toList
  have HSA := Lib.hid (parts_small a.data.toList)
  have HSB := Lib.hid (parts_small b.data.toList)
  have HPA := Lib.hid (fun W (h : Below w.heap.size w W) => lparts_any a W ha (hm.below h))
  have HPB := Lib.hid (fun W (h : Below w.heap.size w W) => lparts_any b W hb (hm.below h))
  have hia := fun W (h : Below w.heap.size w W) => lissel_any a W ha (hm.below h)
  have hib := fun W (h : Below w.heap.size w W) => lissel_any b W hb (hm.below h)
  clear hm
  unfold bothP
  generalize partsP a.data.toList = xs at *
  generalize partsP b.data.toList = ys at *
  generalize isSel a.data.toList = b1 at *
  generalize isSel b.data.toList = b2 at *
  have HIA := Lib.hid hia
  have HIB := Lib.hid hib
  clear hia hib
  go_enter Tryz.func23, Tryz.ntmps23
  cases b1
  · go_wp2_with (go_at_call_of 5 a; refine (HIA.out _ (Below.refl _ _)).mono ?_; rintro e w1 ⟨rfl, hb1⟩; have HB := Lib.hid hb1; clear hb1)
    all_goals go_ret2
    all_goals exact ⟨rfl, HB.out⟩
  cases b2
  · go_wp2_with (first
      | (go_at_call_of 5 a; refine (HIA.out _ (Below.refl _ _)).mono ?_; rintro e w1 ⟨rfl, hb1⟩; have HB := Lib.hid hb1; clear hb1)
      | (go_at_call_of 5 b; refine (HIB.out _ HB.out).mono ?_; rintro e w2 ⟨rfl, hb2⟩; have HB2 := Lib.hid (below2 HB.out hb2); clear hb2))
    all_goals go_ret2
    all_goals exact ⟨rfl, HB2.out⟩
  go_upto_region 4 with (first
      | (go_at_call_of 5 a; refine (HIA.out _ (Below.refl _ _)).mono ?_; rintro e w1 ⟨rfl, hb1⟩; have HB := Lib.hid hb1; clear hb1)
      | (go_at_call_of 5 b; refine (HIB.out _ HB.out).mono ?_; rintro e w2 ⟨rfl, hb2⟩; have HB2 := Lib.hid (below2 HB.out hb2); clear hb2)
      | (go_at_call_of 11 a; refine (HPA.out _ HB2.out).mono ?_; rintro e w3 ⟨v, rfl, hv, hb3⟩; obtain ⟨A1, c1, rfl, _, hC1⟩ := Kd.R_reads hv; rw [List.length_map]; have HC1 := Lib.hid hC1; have HB3 := Lib.hid (below2 HB2.out hb3); clear hv hC1 hb3)
      | (go_at_call_of 11 b; refine (HPB.out _ HB3.out).mono ?_; rintro e w4 ⟨v, rfl, hv, hb4⟩; obtain ⟨A2, c2, rfl, _, hC2⟩ := Kd.R_reads hv; rw [List.length_map]; have HB4 := Lib.hid (below2 HB3.out hb4); have HCC := Lib.hid (lconcat_any A1 A2 c1 c2 w4.heap.size xs ys (w4.alloc (.cells #[.slice A1 xs.length c1, .slice A2 ys.length c2] 28)) (obj_cell (heap_alloc_new w4 _) 0) (obj_cell (heap_alloc_new w4 _) 1) (Kd.C_below (Kd.C_below HC1.out hb4) (below_alloc (Below.refl _ _) _)) (Kd.C_below hC2 (below_alloc (Below.refl _ _) _)) (by omega) (by omega)); clear hv hC2 hb4)
      | (go_at_call 40; refine HCC.out.mono ?_; rintro e w5 ⟨v, rfl, hv, hb5⟩; have HV := Lib.hid hv; have HB5 := Lib.hid (below2 (below_alloc HB4.out _) hb5); clear hv hb5))
  have hB5 := HB5.out
  have hpl : ∀ p ∈ xs ++ ys, p.length ≤ 2097152 := fun p hp => by
    rcases List.mem_append.1 hp with h | h
    · exact Nat.le_trans (HSA.out p h) hsa
    · exact Nat.le_trans (HSB.out p h) hsb
  have hzl : (xs ++ ys).length ≤ 4194306 := by rw [List.length_append]; omega
  have hB4 := HB4.out.size
  rcases row_holds HV.out with ⟨rfl, hnil⟩ | ⟨g, cap, rfl, hg, hlt, hcap, hH⟩
  · have e0 : tidyL (xs ++ ys) = [] := by rw [hnil]; simp [tidyL, Lib.compact, Lib.compactUpTo]
    have E0 := Lib.hid e0
    clear e0
    have hS := Any.slices_Sort_string_none Tryz.sortA none 0 w5
    have hC := Any.slices_Compact_string_empty Tryz.compactA none 0 w5
    have hJ := Any.strings_Join_none Tryz.joinA joinX none 0 ⟨#[44]⟩ w5
    have HS := Lib.hid hS
    have HC := Lib.hid hC
    have HJ := Lib.hid hJ
    clear hS hC hJ hnil hpl hzl
    go_wp2_with (first
      | (go_at_call 41; refine HS.out.mono ?_; rintro e w6 ⟨rfl, rfl⟩)
      | (go_at_call 42; refine HC.out.mono ?_; rintro e w7 ⟨rfl, rfl⟩)
      | (go_at_call 43; refine HJ.out.mono ?_; rintro e w8 ⟨rfl, rfl⟩))
    all_goals go_ret2
    all_goals first
      | exact ⟨ret_si (by first | rfl | (rw [E0.out]; rfl)) (by first | rfl | (rw [E0.out]; rfl)), HB5.out⟩
      | (exfalso; rename_i h; rw [E0.out] at h; exact h (by decide))
  · have hgw : w.heap.size ≤ g := by
      have : w4.heap.size ≤ (w4.alloc (.cells #[.slice A1 xs.length c1, .slice A2 ys.length c2] 28)).heap.size := by simp
      omega
    obtain ⟨zs, hz⟩ : ∃ zs, xs ++ ys = zs := ⟨_, rfl⟩
    rw [hz] at hH hcap hzl hpl
    have HZ := Lib.hid hz
    rw [hz]
    clear hz
    have hS := lsort_any g cap zs w w5 hH hgw hlt (by omega) hB5
    have hml : (zs.mergeSort fun x y => decide (x ≤ y)).length = zs.length := List.length_mergeSort _
    have hC := fun W (h1 : Holds encStr W g 0 (zs.mergeSort fun x y => decide (x ≤ y)).toArray) (h2 : g < W.heap.size) (h3 : Below w.heap.size w W) => lcompact_any g cap (zs.mergeSort fun x y => decide (x ≤ y)) w W h1 hgw h2 (by omega) (by omega) h3
    rw [hml] at hC
    have htl : (tidyL zs).length ≤ zs.length := by have := compact_le (zs.mergeSort fun x y => decide (x ≤ y)); rw [hml] at this; exact this
    have hbn := fun (h4 : (tidyL zs).length ≤ 4) => join_len 2097152 (tidyL zs) (fun p hp => hpl p (mem_tidy hp))
    have hC2 : ∀ W, Holds encStr W g 0 (zs.mergeSort fun x y => decide (x ≤ y)).toArray → g < W.heap.size → Below w.heap.size w W → Calls Tryz.prog 42 #[.slice (some ⟨g, 0, none⟩) zs.length cap] W fun e w' => e = .returned (.slice (some ⟨g, 0, none⟩) (tidyL zs).length cap) ∧ Holds encStr w' g 0 (tidyL zs).toArray ∧ g < w'.heap.size ∧ Below w.heap.size w w' := hC
    obtain ⟨ts, hts⟩ : ∃ ts, tidyL zs = ts := ⟨_, rfl⟩
    rw [hts] at htl hbn
    simp only [hts] at hC2
    have HT := Lib.hid hts
    clear hts
    have HS := Lib.hid hS
    have HC := Lib.hid hC2
    clear hS hC hC2 hH hml hpl
    by_cases h4 : ts.length ≤ 4
    · have hj := hbn h4
      have hJ := fun W (h1 : Holds encStr W g 0 ts.toArray) (h2 : g < W.heap.size) => ljoin_any g cap ts W h1 h2 (by omega) (by omega) (by have : ts.length * (2097152 + 1) ≤ 4 * (2097152 + 1) := Nat.mul_le_mul_right _ h4; omega)
      have HJ := Lib.hid hJ
      clear hJ hj hbn
      go_wp2_with (first
        | (go_at_call 41; refine HS.out.mono ?_; rintro e w6 ⟨rfl, hh6, hl6, hb6⟩; have H6 := Lib.hid hh6; have B6 := Lib.hid hb6; clear hh6 hb6)
        | (go_at_call 42; refine (HC.out _ H6.out hl6 B6.out).mono ?_; rintro e w7 ⟨rfl, hh7, hl7, hb7⟩; have H7 := Lib.hid hh7; have B7 := Lib.hid hb7; clear hh7 hb7)
        | (go_at_call 43; refine (HJ.out _ H7.out hl7).mono ?_; rintro e w8 ⟨rfl, hb8⟩; have B8 := Lib.hid (below2 B7.out hb8); clear hb8))
      all_goals go_ret2
      all_goals first
        | exact ⟨ret_si (by first | rfl | (rw [HZ.out, HT.out]; done) | (rw [HZ.out, HT.out, if_pos h4]; rfl)) (by first | rfl | (rw [HZ.out, HT.out, if_pos h4]; rfl)), B8.out⟩
        | (exfalso; rename_i h; rw [HZ.out, HT.out] at h; exact h h4)
    · clear hbn
      go_wp2_with (first
        | (go_at_call 41; refine HS.out.mono ?_; rintro e w6 ⟨rfl, hh6, hl6, hb6⟩; have H6 := Lib.hid hh6; have B6 := Lib.hid hb6; clear hh6 hb6)
        | (go_at_call 42; refine (HC.out _ H6.out hl6 B6.out).mono ?_; rintro e w7 ⟨rfl, hh7, hl7, hb7⟩; have B7 := Lib.hid hb7; clear hh7 hb7))
      all_goals go_ret2
      all_goals first
        | exact ⟨ret_si (by first | rfl | (rw [HZ.out, HT.out, if_neg h4]; rfl)) (by first | rfl | (rw [HZ.out, HT.out, if_neg h4]; rfl)), B7.out⟩
        | (exfalso; rename_i h; rw [HZ.out, HT.out] at h; exact h4 h)

theorem ltidy_any (a : ByteArray) (w : World) (ha : a.size ≤ 2097152) (hm : MaxLenAt w) :
    Calls Tryz.prog 21 #[.string a] w fun e w' => e = .returned (.tuple #[.string (ba (bothP a.data.toList []).1), .int .i64 (bothP a.data.toList []).2]) ∧ Below w.heap.size w w' := by
  have h := lboth_any a ⟨#[]⟩ w ha (by decide) hm
  have e0 : (⟨#[]⟩ : ByteArray).data.toList = [] := rfl
  rw [e0] at h
  have H := Lib.hid h
  clear h hm
  generalize bothP a.data.toList [] = r at *
  go_enter Tryz.func21, Tryz.ntmps21
  go_wp2_with (go_at_call 23; refine H.out.mono ?_; rintro e w1 ⟨rfl, hb⟩)
  go_ret2
  exact ⟨rfl, hb⟩
end Go.Proofs.YtfafdcdmaimghaaGreatDoor

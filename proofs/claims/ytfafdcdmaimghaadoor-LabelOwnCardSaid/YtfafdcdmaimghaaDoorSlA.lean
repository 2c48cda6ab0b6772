/- Functions of the statements' own, as the kit's print tells them, and that the code computes them. -/
import Derived.Test.YtfafdcdmaimghaaDoorRfO
namespace Go.Proofs.YtfafdcdmaimghaaDoor.PR
open Go.RowKit Go.Proofs.YtfafdcdmaimghaaDoorW.PrintWords Go.Proofs.YtfafdcdmaimghaaDoorW.PrintLast Go.Proofs.YtfafdcdmaimghaaDoorW.PrintMore
attribute [local go_sem] max2_int min2_int max_two min_two max_three min_three max_four min_four   -- for this text's walks alone
set_option linter.unusedVariables false
set_option linter.unusedSimpArgs false

-- NOT PRINTED: function 77 (slices_partitionOrdered_string)

-- NOT PRINTED: function 53 (slices_pdqsortOrdered_string)

-- NOT PRINTED: function 37 (slices_Sort_string_string)

-- NOT PRINTED: function 38 (slices_Compact_string_string)

-- NOT PRINTED: function 97 (abi_NoEscape)

-- NOT PRINTED: function 80 (strings_Builder_copyCheck)

-- NOT PRINTED: function 98 (bytealg_MakeNoZero)

-- NOT PRINTED: function 81 (strings_Builder_grow)

-- NOT PRINTED: function 55 (strings_Builder_Grow)

-- NOT PRINTED: function 56 (strings_Builder_WriteString)

-- NOT PRINTED: function 57 (strings_Builder_String)

-- NOT PRINTED: function 39 (strings_Join)

-- NOT PRINTED: function 15 (label_Both)

-- NOT PRINTED: function 13 (label_Tidy)

-- NOT PRINTED: function 17 (label_Value)

-- NOT PRINTED: function 10 (billetlaw04_awake)

/-! ### billetlaw04_pick: function 28 -/
def billetlaw04_pick.f (a0 : Int) (a1 : Int) : Option (Int) := if a0 < 0 then (if a1 = 0 then (none) else (some (Int.tmod (wrap64 (-(wrap64 (a0 + 1)))) a1))) else (if a1 = 0 then (none) else (some (Int.tmod a0 a1)))
set_option maxHeartbeats 8000000 in
set_option maxRecDepth 100000 in
theorem billetlaw04_pick.calls (a0 : Int) (a1 : Int) (r : Int) (w : World) (h : billetlaw04_pick.f a0 a1 = some r) :
    Calls Tryd.prog 28 #[.int .i64 a0, .int .i64 a1] w fun e w' => e = .returned (.int .i64 r) ∧ Drawn0 w w' := by
  have H : (if a0 < 0 then (if a1 = 0 then (none) else (some (Int.tmod (wrap64 (-(wrap64 (a0 + 1)))) a1))) else (if a1 = 0 then (none) else (some (Int.tmod a0 a1)))) = some r := h
  clear h
  by_cases c3 : a0 < 0
  · rw [if_pos c3] at H
    have c3b0 : decide (a0 < 0) = true := decide_eq_true c3
    clear c3
    by_cases c4 : a1 = 0
    · rw [if_pos c4] at H
      exact absurd H (by simp)
    · rw [if_neg c4] at H
      have c4b0 : (a1 == 0) = false := beq_eq_false_iff_ne.mpr c4
      have c4b1 : (a1 != 0) = true := bne_iff_ne.mpr c4
      obtain rfl := Option.some.inj H
      go_enter Tryd.func28, Tryd.ntmps28
      go_wp2
      go_ret
      exact ⟨by first | rfl | (simp; done) | (simp [*]; done), by repeat (first | exact Drawn0.refl _ | apply Drawn0.step)⟩
  · rw [if_neg c3] at H
    have c3b0 : decide (a0 < 0) = false := decide_eq_false c3
    clear c3
    by_cases c5 : a1 = 0
    · rw [if_pos c5] at H
      exact absurd H (by simp)
    · rw [if_neg c5] at H
      have c5b0 : (a1 == 0) = false := beq_eq_false_iff_ne.mpr c5
      have c5b1 : (a1 != 0) = true := bne_iff_ne.mpr c5
      obtain rfl := Option.some.inj H
      go_enter Tryd.func28, Tryd.ntmps28
      go_wp2
      go_ret
      exact ⟨by first | rfl | (simp; done) | (simp [*]; done), by repeat (first | exact Drawn0.refl _ | apply Drawn0.step)⟩

/-! ### billetlaw04_Name: function 27 -/
def billetlaw04_Name.f (a0 : Int) : Option (ByteArray) := (some (([(⟨#[97]⟩ : ByteArray), (⟨#[98]⟩ : ByteArray), (⟨#[122, 111, 110, 101]⟩ : ByteArray), (⟨#[100, 105, 115, 107]⟩ : ByteArray), (⟨#[103, 112, 117]⟩ : ByteArray), (⟨#[120, 57]⟩ : ByteArray), (⟨#[97, 98]⟩ : ByteArray), (⟨#[97, 98, 99, 100, 101, 102, 103, 104, 105, 106, 107, 108]⟩ : ByteArray)] : List ByteArray) : List ByteArray)).bind fun y242 => ((billetlaw04_pick.f a0 8).bind fun t245 => (if 0 ≤ t245 then (if t245 < (y242.length : Int) then (some (rdOf ByteArray.empty y242 t245)) else (none)) else (none)))
set_option maxHeartbeats 8000000 in
set_option maxRecDepth 100000 in
theorem billetlaw04_Name.calls (a0 : Int) (r : ByteArray) (w : World) (h : billetlaw04_Name.f a0 = some r) :
    Calls Tryd.prog 27 #[.int .i64 a0] w fun e w' => e = .returned (.string r) ∧ Below w.heap.size w w' := by
  have HB := Aside0.mk (Below.refl w.heap.size w)
  have H : ((some (([(⟨#[97]⟩ : ByteArray), (⟨#[98]⟩ : ByteArray), (⟨#[122, 111, 110, 101]⟩ : ByteArray), (⟨#[100, 105, 115, 107]⟩ : ByteArray), (⟨#[103, 112, 117]⟩ : ByteArray), (⟨#[120, 57]⟩ : ByteArray), (⟨#[97, 98]⟩ : ByteArray), (⟨#[97, 98, 99, 100, 101, 102, 103, 104, 105, 106, 107, 108]⟩ : ByteArray)] : List ByteArray) : List ByteArray)).bind fun y242 => ((billetlaw04_pick.f a0 8).bind fun t245 => (if 0 ≤ t245 then (if t245 < (y242.length : Int) then (some (rdOf ByteArray.empty y242 t245)) else (none)) else (none)))) = some r := h
  clear h
  obtain ⟨y242, hy242⟩ : ∃ y_ : List ByteArray, y_ = (([(⟨#[97]⟩ : ByteArray), (⟨#[98]⟩ : ByteArray), (⟨#[122, 111, 110, 101]⟩ : ByteArray), (⟨#[100, 105, 115, 107]⟩ : ByteArray), (⟨#[103, 112, 117]⟩ : ByteArray), (⟨#[120, 57]⟩ : ByteArray), (⟨#[97, 98]⟩ : ByteArray), (⟨#[97, 98, 99, 100, 101, 102, 103, 104, 105, 106, 107, 108]⟩ : ByteArray)] : List ByteArray)) := ⟨_, rfl⟩
  replace H : ((billetlaw04_pick.f a0 8).bind fun t245 => (if 0 ≤ t245 then (if t245 < (y242.length : Int) then (some (rdOf ByteArray.empty y242 t245)) else (none)) else (none))) = some r := by first | (rw [hy242]; with_reducible exact H) | (have H2_ := (Option.bind_some _ _).symm.trans H; rw [hy242]; with_reducible exact H2_) | (have H2_ := (Option.bind_some _ _).symm.trans H; with_reducible exact H2_) | with_reducible exact H | (rw [hy242]; exact H) | exact H
  have Ny242 := Aside0.mk hy242
  clear hy242
  replace H := Option.bind_eq_some_iff.mp H
  obtain ⟨t245, A20, H⟩ := H
  replace H : (if 0 ≤ t245 then (if t245 < (y242.length : Int) then (some (rdOf ByteArray.empty y242 t245)) else (none)) else (none)) = some r := H
  have A2 := Aside0.mk A20
  clear A20
  by_cases c3 : 0 ≤ t245
  · rw [if_pos c3] at H
    have c3b0 : decide (0 ≤ t245) = true := decide_eq_true c3
    clear c3
    by_cases c4 : t245 < (y242.length : Int)
    · rw [if_pos c4] at H
      have c4b0 : decide (t245 < (y242.length : Int)) = true := decide_eq_true c4
      clear c4
      obtain rfl := Option.some.inj H
      go_enter Tryd.func27, Tryd.ntmps27
      go_wp2_with (first | ((with_reducible refine gate_dst (N := 3) rfl ?_); refine Kd.R_lit Kd.string _ 9 ?hg (N := 3) ?hd (xs := ([(⟨#[97]⟩ : ByteArray), (⟨#[98]⟩ : ByteArray), (⟨#[122, 111, 110, 101]⟩ : ByteArray), (⟨#[100, 105, 115, 107]⟩ : ByteArray), (⟨#[103, 112, 117]⟩ : ByteArray), (⟨#[120, 57]⟩ : ByteArray), (⟨#[97, 98]⟩ : ByteArray), (⟨#[97, 98, 99, 100, 101, 102, 103, 104, 105, 106, 107, 108]⟩ : ByteArray)] : List ByteArray)) (inner := [.string (⟨#[97]⟩ : ByteArray), .string (⟨#[98]⟩ : ByteArray), .string (⟨#[122, 111, 110, 101]⟩ : ByteArray), .string (⟨#[100, 105, 115, 107]⟩ : ByteArray), .string (⟨#[103, 112, 117]⟩ : ByteArray), .string (⟨#[120, 57]⟩ : ByteArray), .string (⟨#[97, 98]⟩ : ByteArray), .string (⟨#[97, 98, 99, 100, 101, 102, 103, 104, 105, 106, 107, 108]⟩ : ByteArray)]) (ok := fun _ => True) (okp := fun _ => True) ?hr ?hp (fun _ hk => hk) trivial (Below.refl _ _) (Nat.le_refl _) (by simp) ?_; (case hd => rfl); (case hg => rfl); (case hr => first | (go_simp; done) | (go_simp; rfl)); (case hp => exact (Reps.one (show Kd.M Kd.string _ _ _ (⟨#[97]⟩ : ByteArray) [.string (⟨#[97]⟩ : ByteArray)] from rfl) (Reps.one (show Kd.M Kd.string _ _ _ (⟨#[98]⟩ : ByteArray) [.string (⟨#[98]⟩ : ByteArray)] from rfl) (Reps.one (show Kd.M Kd.string _ _ _ (⟨#[122, 111, 110, 101]⟩ : ByteArray) [.string (⟨#[122, 111, 110, 101]⟩ : ByteArray)] from rfl) (Reps.one (show Kd.M Kd.string _ _ _ (⟨#[100, 105, 115, 107]⟩ : ByteArray) [.string (⟨#[100, 105, 115, 107]⟩ : ByteArray)] from rfl) (Reps.one (show Kd.M Kd.string _ _ _ (⟨#[103, 112, 117]⟩ : ByteArray) [.string (⟨#[103, 112, 117]⟩ : ByteArray)] from rfl) (Reps.one (show Kd.M Kd.string _ _ _ (⟨#[120, 57]⟩ : ByteArray) [.string (⟨#[120, 57]⟩ : ByteArray)] from rfl) (Reps.one (show Kd.M Kd.string _ _ _ (⟨#[97, 98]⟩ : ByteArray) [.string (⟨#[97, 98]⟩ : ByteArray)] from rfl) (Reps.one (show Kd.M Kd.string _ _ _ (⟨#[97, 98, 99, 100, 101, 102, 103, 104, 105, 106, 107, 108]⟩ : ByteArray) [.string (⟨#[97, 98, 99, 100, 101, 102, 103, 104, 105, 106, 107, 108]⟩ : ByteArray)] from rfl) (Reps.none _ _)))))))))); intro v243 w5 ho6 hb hg_ hnew_; clear hg_ hnew_; (first | rw [← Ny242.out] at ho6 | (simp only [Int.reduceToNat] at ho6; rw [← Ny242.out] at ho6)); have n0_ := Aside0.mk (Kd.R_lower ho6 (below_size (by repeat (first | (with_reducible first | exact HB.out | apply below_alloc | apply pw_below_drewN | apply below_drew1) | exact HB.out)))); have n1_ := Aside0.mk (below_step (by repeat (first | (with_reducible first | exact HB.out | apply below_alloc | apply pw_below_drewN | apply below_drew1) | exact HB.out)) hb); clear HB; have HO244 := n0_; have HB := n1_; clear n0_ n1_; clear hb ho6) | ((with_reducible refine gate_callee (f := 28) rfl ?_); refine goesL_ (some 5) rfl rfl Tryd.func28 (by kernel_rfl) rfl #[.int .i64 a0, .int .i64 8] rfl (by (try simp only [List.map_toArray, List.map_cons, List.map_nil]); first | done | rfl | (simp only [List.length_drop, List.length_take]; rfl)) ?_; (with_reducible refine (billetlaw04_pick.calls a0 8 t245 _ A2.out).mono ?_); rintro e w' ⟨rfl, ⟨nd, rfl⟩⟩; refine ⟨_, rfl, ?_⟩; obtain ⟨Ao7, co7, eo7⟩ := Kd.R_slice HO244.out; subst eo7; have p246 : 0 ≤ (t245 : Int) := of_decide_eq_true (by first | (with_reducible assumption) | assumption); have q246 : t245 < (y242.length : Int) := of_decide_eq_true (by first | (with_reducible assumption) | assumption); obtain ⟨ad246, e246, hx246_0⟩ := Kd.at_string (Kd.R_reads' HO244.out).2.2 t245 p246 q246; cases e246; replace p246 := eq_true p246; replace q246 := eq_true q246))
      go_ret
      exact ⟨by first | rfl | (simp [errW_none, errW_some] <;> rfl) | (simp [*, errW_none, errW_some] <;> rfl), by repeat (first | (with_reducible first | exact HB.out | apply below_alloc | apply pw_below_drewN | apply below_drew1) | exact HB.out)⟩
    · rw [if_neg c4] at H
      exact absurd H (by simp)
  · rw [if_neg c3] at H
    exact absurd H (by simp)

/-! ### billetlaw04_Term: function 47 -/
def billetlaw04_Term.f (a0 : Int) : Option (ByteArray) := (billetlaw04_Name.f a0).bind fun t247 => ((billetlaw04_pick.f a0 64).bind fun t248 => ((billetlaw04_Name.f (wrap64 (Int.tdiv t248 8))).bind fun t249 => ((billetlaw04_pick.f a0 256).bind fun t250 => (if (wrap64 (Int.tdiv t250 64)) = 0 then (some t247) else (if (wrap64 (Int.tdiv t250 64)) = 1 then (if 1 + t247.size ≤ 9223372036854775807 then (some ((⟨#[33]⟩ : ByteArray) ++ t247)) else (none)) else (if (wrap64 (Int.tdiv t250 64)) = 2 then (if t247.size + 1 ≤ 9223372036854775807 then (if t247.size + 1 + t249.size ≤ 9223372036854775807 then (some ((t247 ++ (⟨#[61]⟩ : ByteArray)) ++ t249)) else (none)) else (none)) else (if t247.size + 2 ≤ 9223372036854775807 then (if t247.size + 2 + t249.size ≤ 9223372036854775807 then (some ((t247 ++ (⟨#[33, 61]⟩ : ByteArray)) ++ t249)) else (none)) else (none))))))))
set_option maxHeartbeats 8000000 in
set_option maxRecDepth 100000 in
theorem billetlaw04_Term.calls (a0 : Int) (r : ByteArray) (w : World) (h : billetlaw04_Term.f a0 = some r) :
    Calls Tryd.prog 47 #[.int .i64 a0] w fun e w' => e = .returned (.string r) ∧ Below w.heap.size w w' := by
  have HB := Aside0.mk (Below.refl w.heap.size w)
  have H : ((billetlaw04_Name.f a0).bind fun t247 => ((billetlaw04_pick.f a0 64).bind fun t248 => ((billetlaw04_Name.f (wrap64 (Int.tdiv t248 8))).bind fun t249 => ((billetlaw04_pick.f a0 256).bind fun t250 => (if (wrap64 (Int.tdiv t250 64)) = 0 then (some t247) else (if (wrap64 (Int.tdiv t250 64)) = 1 then (if 1 + t247.size ≤ 9223372036854775807 then (some ((⟨#[33]⟩ : ByteArray) ++ t247)) else (none)) else (if (wrap64 (Int.tdiv t250 64)) = 2 then (if t247.size + 1 ≤ 9223372036854775807 then (if t247.size + 1 + t249.size ≤ 9223372036854775807 then (some ((t247 ++ (⟨#[61]⟩ : ByteArray)) ++ t249)) else (none)) else (none)) else (if t247.size + 2 ≤ 9223372036854775807 then (if t247.size + 2 + t249.size ≤ 9223372036854775807 then (some ((t247 ++ (⟨#[33, 61]⟩ : ByteArray)) ++ t249)) else (none)) else (none))))))))) = some r := h
  clear h
  replace H := Option.bind_eq_some_iff.mp H
  obtain ⟨t247, A20, H⟩ := H
  replace H : ((billetlaw04_pick.f a0 64).bind fun t248 => ((billetlaw04_Name.f (wrap64 (Int.tdiv t248 8))).bind fun t249 => ((billetlaw04_pick.f a0 256).bind fun t250 => (if (wrap64 (Int.tdiv t250 64)) = 0 then (some t247) else (if (wrap64 (Int.tdiv t250 64)) = 1 then (if 1 + t247.size ≤ 9223372036854775807 then (some ((⟨#[33]⟩ : ByteArray) ++ t247)) else (none)) else (if (wrap64 (Int.tdiv t250 64)) = 2 then (if t247.size + 1 ≤ 9223372036854775807 then (if t247.size + 1 + t249.size ≤ 9223372036854775807 then (some ((t247 ++ (⟨#[61]⟩ : ByteArray)) ++ t249)) else (none)) else (none)) else (if t247.size + 2 ≤ 9223372036854775807 then (if t247.size + 2 + t249.size ≤ 9223372036854775807 then (some ((t247 ++ (⟨#[33, 61]⟩ : ByteArray)) ++ t249)) else (none)) else (none)))))))) = some r := H
  have A2 := Aside0.mk A20
  clear A20
  replace H := Option.bind_eq_some_iff.mp H
  obtain ⟨t248, A30, H⟩ := H
  replace H : ((billetlaw04_Name.f (wrap64 (Int.tdiv t248 8))).bind fun t249 => ((billetlaw04_pick.f a0 256).bind fun t250 => (if (wrap64 (Int.tdiv t250 64)) = 0 then (some t247) else (if (wrap64 (Int.tdiv t250 64)) = 1 then (if 1 + t247.size ≤ 9223372036854775807 then (some ((⟨#[33]⟩ : ByteArray) ++ t247)) else (none)) else (if (wrap64 (Int.tdiv t250 64)) = 2 then (if t247.size + 1 ≤ 9223372036854775807 then (if t247.size + 1 + t249.size ≤ 9223372036854775807 then (some ((t247 ++ (⟨#[61]⟩ : ByteArray)) ++ t249)) else (none)) else (none)) else (if t247.size + 2 ≤ 9223372036854775807 then (if t247.size + 2 + t249.size ≤ 9223372036854775807 then (some ((t247 ++ (⟨#[33, 61]⟩ : ByteArray)) ++ t249)) else (none)) else (none))))))) = some r := H
  have A3 := Aside0.mk A30
  clear A30
  replace H := Option.bind_eq_some_iff.mp H
  obtain ⟨t249, A40, H⟩ := H
  replace H : ((billetlaw04_pick.f a0 256).bind fun t250 => (if (wrap64 (Int.tdiv t250 64)) = 0 then (some t247) else (if (wrap64 (Int.tdiv t250 64)) = 1 then (if 1 + t247.size ≤ 9223372036854775807 then (some ((⟨#[33]⟩ : ByteArray) ++ t247)) else (none)) else (if (wrap64 (Int.tdiv t250 64)) = 2 then (if t247.size + 1 ≤ 9223372036854775807 then (if t247.size + 1 + t249.size ≤ 9223372036854775807 then (some ((t247 ++ (⟨#[61]⟩ : ByteArray)) ++ t249)) else (none)) else (none)) else (if t247.size + 2 ≤ 9223372036854775807 then (if t247.size + 2 + t249.size ≤ 9223372036854775807 then (some ((t247 ++ (⟨#[33, 61]⟩ : ByteArray)) ++ t249)) else (none)) else (none)))))) = some r := H
  have A4 := Aside0.mk A40
  clear A40
  replace H := Option.bind_eq_some_iff.mp H
  obtain ⟨t250, A50, H⟩ := H
  replace H : (if (wrap64 (Int.tdiv t250 64)) = 0 then (some t247) else (if (wrap64 (Int.tdiv t250 64)) = 1 then (if 1 + t247.size ≤ 9223372036854775807 then (some ((⟨#[33]⟩ : ByteArray) ++ t247)) else (none)) else (if (wrap64 (Int.tdiv t250 64)) = 2 then (if t247.size + 1 ≤ 9223372036854775807 then (if t247.size + 1 + t249.size ≤ 9223372036854775807 then (some ((t247 ++ (⟨#[61]⟩ : ByteArray)) ++ t249)) else (none)) else (none)) else (if t247.size + 2 ≤ 9223372036854775807 then (if t247.size + 2 + t249.size ≤ 9223372036854775807 then (some ((t247 ++ (⟨#[33, 61]⟩ : ByteArray)) ++ t249)) else (none)) else (none))))) = some r := H
  have A5 := Aside0.mk A50
  clear A50
  by_cases c6 : (wrap64 (Int.tdiv t250 64)) = 0
  · rw [if_pos c6] at H
    have c6b0 : ((wrap64 (Int.tdiv t250 64)) == 0) = true := beq_iff_eq.mpr c6
    have c6b1 : ((wrap64 (Int.tdiv t250 64)) != 0) = false := bne_eq_false_iff_eq.mpr c6
    clear c6
    obtain rfl := Option.some.inj H
    go_enter Tryd.func47, Tryd.ntmps47
    go_wp2_with (first | ((with_reducible refine gate_callee (f := 27) rfl ?_); refine goesL_ (some 6) rfl rfl Tryd.func27 (by kernel_rfl) rfl #[.int .i64 a0] rfl (by (try simp only [List.map_toArray, List.map_cons, List.map_nil]); first | done | rfl | (simp only [List.length_drop, List.length_take]; rfl)) ?_; (with_reducible refine (billetlaw04_Name.calls a0 t247 _ A2.out).mono ?_); rintro e w7 ⟨rfl, hb⟩; refine ⟨_, rfl, ?_⟩; have n0_ := Aside0.mk (below_step (by repeat (first | (with_reducible first | exact HB.out | apply below_alloc | apply pw_below_drewN | apply below_drew1) | exact HB.out)) hb); clear HB; have HB := n0_; clear n0_; (try clear hb); (try clear hb2); (try clear hk); (try clear hi)) | ((with_reducible refine gate_callee (f := 28) rfl ?_); refine goesL_ (some 8) rfl rfl Tryd.func28 (by kernel_rfl) rfl #[.int .i64 a0, .int .i64 64] rfl (by (try simp only [List.map_toArray, List.map_cons, List.map_nil]); first | done | rfl | (simp only [List.length_drop, List.length_take]; rfl)) ?_; (with_reducible refine (billetlaw04_pick.calls a0 64 t248 _ A3.out).mono ?_); rintro e w' ⟨rfl, ⟨nd, rfl⟩⟩; refine ⟨_, rfl, ?_⟩) | ((with_reducible refine gate_callee (f := 27) rfl ?_); refine goesL_ (some 10) rfl rfl Tryd.func27 (by kernel_rfl) rfl #[.int .i64 (wrap64 (Int.tdiv t248 8))] rfl (by (try simp only [List.map_toArray, List.map_cons, List.map_nil]); first | done | rfl | (simp only [List.length_drop, List.length_take]; rfl)) ?_; (with_reducible refine (billetlaw04_Name.calls (wrap64 (Int.tdiv t248 8)) t249 _ A4.out).mono ?_); rintro e w8 ⟨rfl, hb⟩; refine ⟨_, rfl, ?_⟩; have n0_ := Aside0.mk (below_step (by repeat (first | (with_reducible first | exact HB.out | apply below_alloc | apply pw_below_drewN | apply below_drew1) | exact HB.out)) hb); clear HB; have HB := n0_; clear n0_; (try clear hb); (try clear hb2); (try clear hk); (try clear hi)) | ((with_reducible refine gate_callee (f := 28) rfl ?_); refine goesL_ (some 12) rfl rfl Tryd.func28 (by kernel_rfl) rfl #[.int .i64 a0, .int .i64 256] rfl (by (try simp only [List.map_toArray, List.map_cons, List.map_nil]); first | done | rfl | (simp only [List.length_drop, List.length_take]; rfl)) ?_; (with_reducible refine (billetlaw04_pick.calls a0 256 t250 _ A5.out).mono ?_); rintro e w' ⟨rfl, ⟨nd, rfl⟩⟩; refine ⟨_, rfl, ?_⟩))
    go_ret
    exact ⟨by first | rfl | (simp [errW_none, errW_some] <;> rfl) | (simp [*, errW_none, errW_some] <;> rfl), by repeat (first | (with_reducible first | exact HB.out | apply below_alloc | apply pw_below_drewN | apply below_drew1) | exact HB.out)⟩
  · rw [if_neg c6] at H
    have c6b0 : ((wrap64 (Int.tdiv t250 64)) == 0) = false := beq_eq_false_iff_ne.mpr c6
    have c6b1 : ((wrap64 (Int.tdiv t250 64)) != 0) = true := bne_iff_ne.mpr c6
    by_cases c9 : (wrap64 (Int.tdiv t250 64)) = 1
    · rw [if_pos c9] at H
      have c9b0 : ((wrap64 (Int.tdiv t250 64)) == 1) = true := beq_iff_eq.mpr c9
      have c9b1 : ((wrap64 (Int.tdiv t250 64)) != 1) = false := bne_eq_false_iff_eq.mpr c9
      clear c9
      by_cases c10 : 1 + t247.size ≤ 9223372036854775807
      · rw [if_pos c10] at H
        have c10b0 := eq_true c10
        have c10b1 : decide (1 + t247.size ≤ 9223372036854775807) = true := decide_eq_true c10
        try have c10b2 : (9223372036854775807 < 1 + t247.size) = False := eq_false (Nat.not_lt.2 c10)
        obtain rfl := Option.some.inj H
        go_enter Tryd.func47, Tryd.ntmps47
        go_wp2_with (first | ((with_reducible refine gate_callee (f := 27) rfl ?_); refine goesL_ (some 6) rfl rfl Tryd.func27 (by kernel_rfl) rfl #[.int .i64 a0] rfl (by (try simp only [List.map_toArray, List.map_cons, List.map_nil]); first | done | rfl | (simp only [List.length_drop, List.length_take]; rfl)) ?_; (with_reducible refine (billetlaw04_Name.calls a0 t247 _ A2.out).mono ?_); rintro e w11 ⟨rfl, hb⟩; refine ⟨_, rfl, ?_⟩; have n0_ := Aside0.mk (below_step (by repeat (first | (with_reducible first | exact HB.out | apply below_alloc | apply pw_below_drewN | apply below_drew1) | exact HB.out)) hb); clear HB; have HB := n0_; clear n0_; (try clear hb); (try clear hb2); (try clear hk); (try clear hi)) | ((with_reducible refine gate_callee (f := 28) rfl ?_); refine goesL_ (some 8) rfl rfl Tryd.func28 (by kernel_rfl) rfl #[.int .i64 a0, .int .i64 64] rfl (by (try simp only [List.map_toArray, List.map_cons, List.map_nil]); first | done | rfl | (simp only [List.length_drop, List.length_take]; rfl)) ?_; (with_reducible refine (billetlaw04_pick.calls a0 64 t248 _ A3.out).mono ?_); rintro e w' ⟨rfl, ⟨nd, rfl⟩⟩; refine ⟨_, rfl, ?_⟩) | ((with_reducible refine gate_callee (f := 27) rfl ?_); refine goesL_ (some 10) rfl rfl Tryd.func27 (by kernel_rfl) rfl #[.int .i64 (wrap64 (Int.tdiv t248 8))] rfl (by (try simp only [List.map_toArray, List.map_cons, List.map_nil]); first | done | rfl | (simp only [List.length_drop, List.length_take]; rfl)) ?_; (with_reducible refine (billetlaw04_Name.calls (wrap64 (Int.tdiv t248 8)) t249 _ A4.out).mono ?_); rintro e w12 ⟨rfl, hb⟩; refine ⟨_, rfl, ?_⟩; have n0_ := Aside0.mk (below_step (by repeat (first | (with_reducible first | exact HB.out | apply below_alloc | apply pw_below_drewN | apply below_drew1) | exact HB.out)) hb); clear HB; have HB := n0_; clear n0_; (try clear hb); (try clear hb2); (try clear hk); (try clear hi)) | ((with_reducible refine gate_callee (f := 28) rfl ?_); refine goesL_ (some 12) rfl rfl Tryd.func28 (by kernel_rfl) rfl #[.int .i64 a0, .int .i64 256] rfl (by (try simp only [List.map_toArray, List.map_cons, List.map_nil]); first | done | rfl | (simp only [List.length_drop, List.length_take]; rfl)) ?_; (with_reducible refine (billetlaw04_pick.calls a0 256 t250 _ A5.out).mono ?_); rintro e w' ⟨rfl, ⟨nd, rfl⟩⟩; refine ⟨_, rfl, ?_⟩))
        go_ret
        exact ⟨by first | rfl | (simp [errW_none, errW_some] <;> rfl) | (simp [*, errW_none, errW_some] <;> rfl), by repeat (first | (with_reducible first | exact HB.out | apply below_alloc | apply pw_below_drewN | apply below_drew1) | exact HB.out)⟩
      · rw [if_neg c10] at H
        exact absurd H (by simp)
    · rw [if_neg c9] at H
      have c9b0 : ((wrap64 (Int.tdiv t250 64)) == 1) = false := beq_eq_false_iff_ne.mpr c9
      have c9b1 : ((wrap64 (Int.tdiv t250 64)) != 1) = true := bne_iff_ne.mpr c9
      by_cases c13 : (wrap64 (Int.tdiv t250 64)) = 2
      · rw [if_pos c13] at H
        have c13b0 : ((wrap64 (Int.tdiv t250 64)) == 2) = true := beq_iff_eq.mpr c13
        have c13b1 : ((wrap64 (Int.tdiv t250 64)) != 2) = false := bne_eq_false_iff_eq.mpr c13
        clear c13
        by_cases c14 : t247.size + 1 ≤ 9223372036854775807
        · rw [if_pos c14] at H
          have c14b0 := eq_true c14
          have c14b1 : decide (t247.size + 1 ≤ 9223372036854775807) = true := decide_eq_true c14
          try have c14b2 : (9223372036854775807 < t247.size + 1) = False := eq_false (Nat.not_lt.2 c14)
          by_cases c15 : t247.size + 1 + t249.size ≤ 9223372036854775807
          · rw [if_pos c15] at H
            have c15b0 := eq_true c15
            have c15b1 : decide (t247.size + 1 + t249.size ≤ 9223372036854775807) = true := decide_eq_true c15
            try have c15b2 : (9223372036854775807 < t247.size + 1 + t249.size) = False := eq_false (Nat.not_lt.2 c15)
            obtain rfl := Option.some.inj H
            go_enter Tryd.func47, Tryd.ntmps47
            go_wp2_with (first | ((with_reducible refine gate_callee (f := 27) rfl ?_); refine goesL_ (some 6) rfl rfl Tryd.func27 (by kernel_rfl) rfl #[.int .i64 a0] rfl (by (try simp only [List.map_toArray, List.map_cons, List.map_nil]); first | done | rfl | (simp only [List.length_drop, List.length_take]; rfl)) ?_; (with_reducible refine (billetlaw04_Name.calls a0 t247 _ A2.out).mono ?_); rintro e w16 ⟨rfl, hb⟩; refine ⟨_, rfl, ?_⟩; have n0_ := Aside0.mk (below_step (by repeat (first | (with_reducible first | exact HB.out | apply below_alloc | apply pw_below_drewN | apply below_drew1) | exact HB.out)) hb); clear HB; have HB := n0_; clear n0_; (try clear hb); (try clear hb2); (try clear hk); (try clear hi)) | ((with_reducible refine gate_callee (f := 28) rfl ?_); refine goesL_ (some 8) rfl rfl Tryd.func28 (by kernel_rfl) rfl #[.int .i64 a0, .int .i64 64] rfl (by (try simp only [List.map_toArray, List.map_cons, List.map_nil]); first | done | rfl | (simp only [List.length_drop, List.length_take]; rfl)) ?_; (with_reducible refine (billetlaw04_pick.calls a0 64 t248 _ A3.out).mono ?_); rintro e w' ⟨rfl, ⟨nd, rfl⟩⟩; refine ⟨_, rfl, ?_⟩) | ((with_reducible refine gate_callee (f := 27) rfl ?_); refine goesL_ (some 10) rfl rfl Tryd.func27 (by kernel_rfl) rfl #[.int .i64 (wrap64 (Int.tdiv t248 8))] rfl (by (try simp only [List.map_toArray, List.map_cons, List.map_nil]); first | done | rfl | (simp only [List.length_drop, List.length_take]; rfl)) ?_; (with_reducible refine (billetlaw04_Name.calls (wrap64 (Int.tdiv t248 8)) t249 _ A4.out).mono ?_); rintro e w17 ⟨rfl, hb⟩; refine ⟨_, rfl, ?_⟩; have n0_ := Aside0.mk (below_step (by repeat (first | (with_reducible first | exact HB.out | apply below_alloc | apply pw_below_drewN | apply below_drew1) | exact HB.out)) hb); clear HB; have HB := n0_; clear n0_; (try clear hb); (try clear hb2); (try clear hk); (try clear hi)) | ((with_reducible refine gate_callee (f := 28) rfl ?_); refine goesL_ (some 12) rfl rfl Tryd.func28 (by kernel_rfl) rfl #[.int .i64 a0, .int .i64 256] rfl (by (try simp only [List.map_toArray, List.map_cons, List.map_nil]); first | done | rfl | (simp only [List.length_drop, List.length_take]; rfl)) ?_; (with_reducible refine (billetlaw04_pick.calls a0 256 t250 _ A5.out).mono ?_); rintro e w' ⟨rfl, ⟨nd, rfl⟩⟩; refine ⟨_, rfl, ?_⟩))
            go_ret
            exact ⟨by first | rfl | (simp [errW_none, errW_some] <;> rfl) | (simp [*, errW_none, errW_some] <;> rfl), by repeat (first | (with_reducible first | exact HB.out | apply below_alloc | apply pw_below_drewN | apply below_drew1) | exact HB.out)⟩
          · rw [if_neg c15] at H
            exact absurd H (by simp)
        · rw [if_neg c14] at H
          exact absurd H (by simp)
      · rw [if_neg c13] at H
        have c13b0 : ((wrap64 (Int.tdiv t250 64)) == 2) = false := beq_eq_false_iff_ne.mpr c13
        have c13b1 : ((wrap64 (Int.tdiv t250 64)) != 2) = true := bne_iff_ne.mpr c13
        by_cases c18 : t247.size + 2 ≤ 9223372036854775807
        · rw [if_pos c18] at H
          have c18b0 := eq_true c18
          have c18b1 : decide (t247.size + 2 ≤ 9223372036854775807) = true := decide_eq_true c18
          try have c18b2 : (9223372036854775807 < t247.size + 2) = False := eq_false (Nat.not_lt.2 c18)
          by_cases c19 : t247.size + 2 + t249.size ≤ 9223372036854775807
          · rw [if_pos c19] at H
            have c19b0 := eq_true c19
            have c19b1 : decide (t247.size + 2 + t249.size ≤ 9223372036854775807) = true := decide_eq_true c19
            try have c19b2 : (9223372036854775807 < t247.size + 2 + t249.size) = False := eq_false (Nat.not_lt.2 c19)
            obtain rfl := Option.some.inj H
            go_enter Tryd.func47, Tryd.ntmps47
            go_wp2_with (first | ((with_reducible refine gate_callee (f := 27) rfl ?_); refine goesL_ (some 6) rfl rfl Tryd.func27 (by kernel_rfl) rfl #[.int .i64 a0] rfl (by (try simp only [List.map_toArray, List.map_cons, List.map_nil]); first | done | rfl | (simp only [List.length_drop, List.length_take]; rfl)) ?_; (with_reducible refine (billetlaw04_Name.calls a0 t247 _ A2.out).mono ?_); rintro e w20 ⟨rfl, hb⟩; refine ⟨_, rfl, ?_⟩; have n0_ := Aside0.mk (below_step (by repeat (first | (with_reducible first | exact HB.out | apply below_alloc | apply pw_below_drewN | apply below_drew1) | exact HB.out)) hb); clear HB; have HB := n0_; clear n0_; (try clear hb); (try clear hb2); (try clear hk); (try clear hi)) | ((with_reducible refine gate_callee (f := 28) rfl ?_); refine goesL_ (some 8) rfl rfl Tryd.func28 (by kernel_rfl) rfl #[.int .i64 a0, .int .i64 64] rfl (by (try simp only [List.map_toArray, List.map_cons, List.map_nil]); first | done | rfl | (simp only [List.length_drop, List.length_take]; rfl)) ?_; (with_reducible refine (billetlaw04_pick.calls a0 64 t248 _ A3.out).mono ?_); rintro e w' ⟨rfl, ⟨nd, rfl⟩⟩; refine ⟨_, rfl, ?_⟩) | ((with_reducible refine gate_callee (f := 27) rfl ?_); refine goesL_ (some 10) rfl rfl Tryd.func27 (by kernel_rfl) rfl #[.int .i64 (wrap64 (Int.tdiv t248 8))] rfl (by (try simp only [List.map_toArray, List.map_cons, List.map_nil]); first | done | rfl | (simp only [List.length_drop, List.length_take]; rfl)) ?_; (with_reducible refine (billetlaw04_Name.calls (wrap64 (Int.tdiv t248 8)) t249 _ A4.out).mono ?_); rintro e w21 ⟨rfl, hb⟩; refine ⟨_, rfl, ?_⟩; have n0_ := Aside0.mk (below_step (by repeat (first | (with_reducible first | exact HB.out | apply below_alloc | apply pw_below_drewN | apply below_drew1) | exact HB.out)) hb); clear HB; have HB := n0_; clear n0_; (try clear hb); (try clear hb2); (try clear hk); (try clear hi)) | ((with_reducible refine gate_callee (f := 28) rfl ?_); refine goesL_ (some 12) rfl rfl Tryd.func28 (by kernel_rfl) rfl #[.int .i64 a0, .int .i64 256] rfl (by (try simp only [List.map_toArray, List.map_cons, List.map_nil]); first | done | rfl | (simp only [List.length_drop, List.length_take]; rfl)) ?_; (with_reducible refine (billetlaw04_pick.calls a0 256 t250 _ A5.out).mono ?_); rintro e w' ⟨rfl, ⟨nd, rfl⟩⟩; refine ⟨_, rfl, ?_⟩))
            go_ret
            exact ⟨by first | rfl | (simp [errW_none, errW_some] <;> rfl) | (simp [*, errW_none, errW_some] <;> rfl), by repeat (first | (with_reducible first | exact HB.out | apply below_alloc | apply pw_below_drewN | apply below_drew1) | exact HB.out)⟩
          · rw [if_neg c19] at H
            exact absurd H (by simp)
        · rw [if_neg c18] at H
          exact absurd H (by simp)

/-! ### billetlaw04_Selector: function 25 -/
mutual
def billetlaw04_Selector.l0 : Nat → List Int → ByteArray → Int → Option (ByteArray)
  | 0, _, _, _ => none
  | k + 1, x0, x3, x4 => if x4 < (x0.length : Int) then (billetlaw04_Selector.j1 k x0 x3 x4 (decide (x4 < 4))) else (billetlaw04_Selector.j1 k x0 x3 x4 false)
def billetlaw04_Selector.j1 : Nat → List Int → ByteArray → Int → Bool → Option (ByteArray)
  | 0, _, _, _, _ => none
  | k + 1, x0, x3, x4, x12 => if x12 = true then (if x4 > 0 then (if x3.size + 1 ≤ 9223372036854775807 then (if 0 ≤ x4 then (if x4 < (x0.length : Int) then ((billetlaw04_Term.f (rd x0 x4)).bind fun t252 => (if x3.size + 1 + t252.size ≤ 9223372036854775807 then (billetlaw04_Selector.l0 k x0 ((x3 ++ (⟨#[44]⟩ : ByteArray)) ++ t252) (wrap64 (x4 + 1))) else (none))) else (none)) else (none)) else (none)) else (if 0 ≤ x4 then (if x4 < (x0.length : Int) then ((billetlaw04_Term.f (rd x0 x4)).bind fun t254 => (if x3.size + t254.size ≤ 9223372036854775807 then (billetlaw04_Selector.l0 k x0 (x3 ++ t254) (wrap64 (x4 + 1))) else (none))) else (none)) else (none))) else (some x3)
end
def billetlaw04_Selector.f (k : Nat) (l0 : List Int) : Option (ByteArray) := billetlaw04_Selector.l0 k l0 (⟨#[]⟩ : ByteArray) 0
theorem billetlaw04_Selector.mono_l : ∀ k, (∀ y0 y1 y2, LeO (billetlaw04_Selector.l0 k y0 y1 y2) (billetlaw04_Selector.l0 (k + 1) y0 y1 y2)) ∧ (∀ y0 y1 y2 y3, LeO (billetlaw04_Selector.j1 k y0 y1 y2 y3) (billetlaw04_Selector.j1 (k + 1) y0 y1 y2 y3))
  | 0 => ⟨fun _ _ _ r h => by simp [billetlaw04_Selector.l0] at h, fun _ _ _ _ r h => by simp [billetlaw04_Selector.j1] at h⟩
  | k + 1 => by
    obtain ⟨ih0, ih1⟩ := billetlaw04_Selector.mono_l k
    refine ⟨?_, ?_⟩
    · intro y0 y1 y2
      unfold billetlaw04_Selector.l0
      repeat' first
      | (with_reducible exact ih0 _ _ _)
      | (with_reducible exact ih1 _ _ _ _)
      | (with_reducible exact LeO.refl _)
      | (with_reducible exact LeO.none _)
      | (with_reducible refine LeO.ite ?_ ?_)
      | (with_reducible refine LeO.bind ?_ (fun _ => ?_))
      | exact ih0 _ _ _
      | exact ih1 _ _ _ _
      | exact LeO.none _
      | refine LeO.ite ?_ ?_
      | refine LeO.bind ?_ (fun _ => ?_)
    · intro y0 y1 y2 y3
      unfold billetlaw04_Selector.j1
      repeat' first
      | (with_reducible exact ih0 _ _ _)
      | (with_reducible exact ih1 _ _ _ _)
      | (with_reducible exact LeO.refl _)
      | (with_reducible exact LeO.none _)
      | (with_reducible refine LeO.ite ?_ ?_)
      | (with_reducible refine LeO.bind ?_ (fun _ => ?_))
      | exact ih0 _ _ _
      | exact ih1 _ _ _ _
      | exact LeO.none _
      | refine LeO.ite ?_ ?_
      | refine LeO.bind ?_ (fun _ => ?_)
theorem billetlaw04_Selector.mono : ∀ a0 k, LeO (billetlaw04_Selector.f k a0) (billetlaw04_Selector.f (k + 1) a0) := by
  intro a0 k
  obtain ⟨ih0, ih1⟩ := billetlaw04_Selector.mono_l k
  unfold billetlaw04_Selector.f
  repeat' first
      | (with_reducible exact ih0 _ _ _)
      | (with_reducible exact ih1 _ _ _ _)
      | (with_reducible exact LeO.refl _)
      | (with_reducible exact LeO.none _)
      | (with_reducible refine LeO.ite ?_ ?_)
      | (with_reducible refine LeO.bind ?_ (fun _ => ?_))
      | exact ih0 _ _ _
      | exact ih1 _ _ _ _
      | exact LeO.none _
      | refine LeO.ite ?_ ?_
      | refine LeO.bind ?_ (fun _ => ?_)
set_option maxHeartbeats 8000000 in
set_option maxRecDepth 100000 in
theorem billetlaw04_Selector.calls (k : Nat) (A0 : Option Addr) (c0 : Nat) (l0 : List Int) (r : ByteArray) (w : World) (hr0 : Kd.C (Kd.int .i64) w A0 l0.length l0) (hc0 : l0.length ≤ c0) (h : billetlaw04_Selector.f k l0 = some r) :
    Calls Tryd.prog 25 #[.slice A0 l0.length c0] w fun e w' => e = .returned (.string r) ∧ Below w.heap.size w w' := by
  have HR0 := Aside0.mk hr0
  have HC0 := Aside0.mk hc0
  clear hr0 hc0
  have HB := Aside0.mk (Below.refl w.heap.size w)
  have H : (billetlaw04_Selector.l0 k l0 (⟨#[]⟩ : ByteArray) 0) = some r := h
  clear h
  have H' := Aside0.mk H
  clear H
  go_enter Tryd.func25, Tryd.ntmps25
  go_wp2
  go_loopg [3, 4] k (fun kq v3 v4 w' => ∃ (x3_1 : ByteArray) (x4_1 : Int), v3 = .string x3_1 ∧ v4 = .int .i64 x4_1 ∧ Aside0 (billetlaw04_Selector.l0 kq l0 x3_1 x4_1 = some r) ∧ Aside0 (kq ≤ k) ∧ Aside0 (Below w.heap.size w w'))
  case atStart => exact ⟨((⟨#[]⟩ : ByteArray)), (0), (by first | rfl | (simp; done) | (simp [*]; done)), (by first | rfl | (simp; done) | (simp [*]; done)), H', ⟨Nat.le_refl _⟩, ⟨by repeat (first | (with_reducible first | exact HB.out | apply below_alloc | apply pw_below_drewN | apply below_drew1) | exact HB.out)⟩⟩
  case round =>
    clear H'
    obtain ⟨x3_1, x4_1, rfl, rfl, HA, HK1, HB⟩ := hrel
    cases gk with
    | zero => exact absurd HA.out (by simp [billetlaw04_Selector.l0])
    | succ k1 =>
      have H := HA.out
      clear HA
      simp only [billetlaw04_Selector.l0] at H
      have HC2 := Aside0.mk H
      clear H
      go_upto_region 3 with (fail)
      go_cut [12] (fun v12 wc => ∃ (kq : Nat) (x12_1 : Bool), v12 = .bool x12_1 ∧ Aside0 (billetlaw04_Selector.j1 kq l0 x3_1 x4_1 x12_1 = some r) ∧ Aside0 (kq ≤ k1) ∧ Aside0 (Below w.heap.size w wc))
      case first =>
        have H := HC2.out
        clear HC2
        by_cases c3 : x4_1 < (l0.length : Int)
        · rw [if_pos c3] at H
          have c3b0 : decide (x4_1 < (l0.length : Int)) = true := decide_eq_true c3
          clear c3
          (first | rw [c3b0] | (simp only [i64_w, i32_w]; rw [c3b0]) | skip)
          have H' := Aside0.mk H
          clear H
          go_wp2
          go_meet
          case rel => exact ⟨_, (decide (x4_1 < 4)), (by first | rfl | (simp; done) | (simp [*]; done)), H', ⟨by have := HK1.out; first | omega | exact Nat.le_refl _⟩, ⟨by repeat (first | (with_reducible first | exact HB.out | apply below_alloc | apply pw_below_drewN | apply below_drew1) | exact HB.out)⟩⟩
        · rw [if_neg c3] at H
          have c3b0 : decide (x4_1 < (l0.length : Int)) = false := decide_eq_false c3
          clear c3
          (first | rw [c3b0] | (simp only [i64_w, i32_w]; rw [c3b0]) | skip)
          have H' := Aside0.mk H
          clear H
          go_wp2
          go_meet
          case rel => exact ⟨_, (false), (by first | rfl | (simp; done) | (simp [*]; done)), H', ⟨by have := HK1.out; first | omega | exact Nat.le_refl _⟩, ⟨by repeat (first | (with_reducible first | exact HB.out | apply below_alloc | apply pw_below_drewN | apply below_drew1) | exact HB.out)⟩⟩
      case rest =>
        clear HC2
        try clear c2
        try clear p2
        try clear c3
        try clear c3b0
        obtain ⟨kq, x12_1, rfl, HA, HJ1, HB⟩ := hcut
        cases kq with
        | zero => exact absurd HA.out (by simp [billetlaw04_Selector.j1])
        | succ kj1 =>
          have H := HA.out
          clear HA
          simp only [billetlaw04_Selector.j1] at H
          by_cases c4 : x12_1 = true
          · subst c4
            have H1 : (if x4_1 > 0 then (if x3_1.size + 1 ≤ 9223372036854775807 then (if 0 ≤ x4_1 then (if x4_1 < (l0.length : Int) then ((billetlaw04_Term.f (rd l0 x4_1)).bind fun t252 => (if x3_1.size + 1 + t252.size ≤ 9223372036854775807 then (billetlaw04_Selector.l0 kj1 l0 ((x3_1 ++ (⟨#[44]⟩ : ByteArray)) ++ t252) (wrap64 (x4_1 + 1))) else (none))) else (none)) else (none)) else (none)) else (if 0 ≤ x4_1 then (if x4_1 < (l0.length : Int) then ((billetlaw04_Term.f (rd l0 x4_1)).bind fun t254 => (if x3_1.size + t254.size ≤ 9223372036854775807 then (billetlaw04_Selector.l0 kj1 l0 (x3_1 ++ t254) (wrap64 (x4_1 + 1))) else (none))) else (none)) else (none))) = some r := by rw [if_pos rfl] at H; exact H
            clear H
            have H := H1
            clear H1
            by_cases c5 : x4_1 > 0
            · rw [if_pos c5] at H
              have c5b0 : decide (0 < x4_1) = true := decide_eq_true c5
              clear c5
              by_cases c6 : x3_1.size + 1 ≤ 9223372036854775807
              · rw [if_pos c6] at H
                have c6b0 := eq_true c6
                have c6b1 : decide (x3_1.size + 1 ≤ 9223372036854775807) = true := decide_eq_true c6
                try have c6b2 : (9223372036854775807 < x3_1.size + 1) = False := eq_false (Nat.not_lt.2 c6)
                by_cases c7 : 0 ≤ x4_1
                · rw [if_pos c7] at H
                  have c7b0 : decide (0 ≤ x4_1) = true := decide_eq_true c7
                  clear c7
                  by_cases c8 : x4_1 < (l0.length : Int)
                  · rw [if_pos c8] at H
                    have c8b0 : decide (x4_1 < (l0.length : Int)) = true := decide_eq_true c8
                    clear c8
                    replace H := Option.bind_eq_some_iff.mp H
                    obtain ⟨t252, A90, H⟩ := H
                    replace H : (if x3_1.size + 1 + t252.size ≤ 9223372036854775807 then (billetlaw04_Selector.l0 kj1 l0 ((x3_1 ++ (⟨#[44]⟩ : ByteArray)) ++ t252) (wrap64 (x4_1 + 1))) else (none)) = some r := H
                    have A9 := Aside0.mk A90
                    clear A90
                    by_cases c10 : x3_1.size + 1 + t252.size ≤ 9223372036854775807
                    · rw [if_pos c10] at H
                      have c10b0 := eq_true c10
                      have c10b1 : decide (x3_1.size + 1 + t252.size ≤ 9223372036854775807) = true := decide_eq_true c10
                      try have c10b2 : (9223372036854775807 < x3_1.size + 1 + t252.size) = False := eq_false (Nat.not_lt.2 c10)
                      have H' := Aside0.mk H
                      clear H
                      have p251 : 0 ≤ (x4_1 : Int) := of_decide_eq_true (by first | (with_reducible assumption) | assumption)
                      have q251 : x4_1 < (l0.length : Int) := of_decide_eq_true (by first | (with_reducible assumption) | assumption)
                      obtain ⟨ad251, e251, hx251_0⟩ := Kd.at_int HR0.out x4_1 p251 q251
                      cases e251
                      replace hx251_0 := (HB.out.cell (World.block_lt_of_cell? w _ hx251_0)).trans hx251_0
                      replace p251 := eq_true p251
                      replace q251 := eq_true q251
                      go_wp2_with (first | ((with_reducible refine gate_callee (f := 47) rfl ?_); refine goesL_ (some 24) rfl rfl Tryd.func47 (by kernel_rfl) rfl #[.int .i64 (rd l0 x4_1)] rfl (by (try simp only [List.map_toArray, List.map_cons, List.map_nil]); first | done | rfl | (simp only [List.length_drop, List.length_take]; rfl)) ?_; (with_reducible refine (billetlaw04_Term.calls (rd l0 x4_1) t252 _ A9.out).mono ?_); rintro e w11 ⟨rfl, hb⟩; refine ⟨_, rfl, ?_⟩; have n0_ := Aside0.mk (below_step (by repeat (first | (with_reducible first | exact HB.out | apply below_alloc | apply pw_below_drewN | apply below_drew1) | exact HB.out)) hb); clear HB; have HB := n0_; clear n0_; (try clear hb); (try clear hb2); (try clear hk); (try clear hi)))
                      go_roundg kj1
                      case measure => have := HK1.out; have := HJ1.out; omega
                      case rel => exact ⟨((x3_1 ++ (⟨#[44]⟩ : ByteArray)) ++ t252), (wrap64 (x4_1 + 1)), (by first | rfl | (simp; done) | (simp [*]; done)), (by first | rfl | (simp; done) | (simp [*]; done)), H', ⟨by have := HK1.out; have := HJ1.out; omega⟩, ⟨by repeat (first | (with_reducible first | exact HB.out | apply below_alloc | apply pw_below_drewN | apply below_drew1) | exact HB.out)⟩⟩
                    · rw [if_neg c10] at H
                      exact absurd H (by simp)
                  · rw [if_neg c8] at H
                    exact absurd H (by simp)
                · rw [if_neg c7] at H
                  exact absurd H (by simp)
              · rw [if_neg c6] at H
                exact absurd H (by simp)
            · rw [if_neg c5] at H
              have c5b0 : decide (0 < x4_1) = false := decide_eq_false c5
              clear c5
              by_cases c12 : 0 ≤ x4_1
              · rw [if_pos c12] at H
                have c12b0 : decide (0 ≤ x4_1) = true := decide_eq_true c12
                clear c12
                by_cases c13 : x4_1 < (l0.length : Int)
                · rw [if_pos c13] at H
                  have c13b0 : decide (x4_1 < (l0.length : Int)) = true := decide_eq_true c13
                  clear c13
                  replace H := Option.bind_eq_some_iff.mp H
                  obtain ⟨t254, A140, H⟩ := H
                  replace H : (if x3_1.size + t254.size ≤ 9223372036854775807 then (billetlaw04_Selector.l0 kj1 l0 (x3_1 ++ t254) (wrap64 (x4_1 + 1))) else (none)) = some r := H
                  have A14 := Aside0.mk A140
                  clear A140
                  by_cases c15 : x3_1.size + t254.size ≤ 9223372036854775807
                  · rw [if_pos c15] at H
                    have c15b0 := eq_true c15
                    have c15b1 : decide (x3_1.size + t254.size ≤ 9223372036854775807) = true := decide_eq_true c15
                    try have c15b2 : (9223372036854775807 < x3_1.size + t254.size) = False := eq_false (Nat.not_lt.2 c15)
                    have H' := Aside0.mk H
                    clear H
                    have p253 : 0 ≤ (x4_1 : Int) := of_decide_eq_true (by first | (with_reducible assumption) | assumption)
                    have q253 : x4_1 < (l0.length : Int) := of_decide_eq_true (by first | (with_reducible assumption) | assumption)
                    obtain ⟨ad253, e253, hx253_0⟩ := Kd.at_int HR0.out x4_1 p253 q253
                    cases e253
                    replace hx253_0 := (HB.out.cell (World.block_lt_of_cell? w _ hx253_0)).trans hx253_0
                    replace p253 := eq_true p253
                    replace q253 := eq_true q253
                    go_wp2_with (first | ((with_reducible refine gate_callee (f := 47) rfl ?_); refine goesL_ (some 24) rfl rfl Tryd.func47 (by kernel_rfl) rfl #[.int .i64 (rd l0 x4_1)] rfl (by (try simp only [List.map_toArray, List.map_cons, List.map_nil]); first | done | rfl | (simp only [List.length_drop, List.length_take]; rfl)) ?_; (with_reducible refine (billetlaw04_Term.calls (rd l0 x4_1) t254 _ A14.out).mono ?_); rintro e w16 ⟨rfl, hb⟩; refine ⟨_, rfl, ?_⟩; have n0_ := Aside0.mk (below_step (by repeat (first | (with_reducible first | exact HB.out | apply below_alloc | apply pw_below_drewN | apply below_drew1) | exact HB.out)) hb); clear HB; have HB := n0_; clear n0_; (try clear hb); (try clear hb2); (try clear hk); (try clear hi)))
                    go_roundg kj1
                    case measure => have := HK1.out; have := HJ1.out; omega
                    case rel => exact ⟨(x3_1 ++ t254), (wrap64 (x4_1 + 1)), (by first | rfl | (simp; done) | (simp [*]; done)), (by first | rfl | (simp; done) | (simp [*]; done)), H', ⟨by have := HK1.out; have := HJ1.out; omega⟩, ⟨by repeat (first | (with_reducible first | exact HB.out | apply below_alloc | apply pw_below_drewN | apply below_drew1) | exact HB.out)⟩⟩
                  · rw [if_neg c15] at H
                    exact absurd H (by simp)
                · rw [if_neg c13] at H
                  exact absurd H (by simp)
              · rw [if_neg c12] at H
                exact absurd H (by simp)
          · replace c4 := Bool.eq_false_iff.mpr c4
            subst c4
            have H1 : (some x3_1) = some r := by rw [if_neg (show ¬ (false = true) by decide)] at H; exact H
            clear H
            have H := H1
            clear H1
            obtain rfl := Option.some.inj H
            go_wp2
            go_ret
            exact ⟨by first | rfl | (simp [errW_none, errW_some] <;> rfl) | (simp [*, errW_none, errW_some] <;> rfl), by repeat (first | (with_reducible first | exact HB.out | apply below_alloc | apply pw_below_drewN | apply below_drew1) | exact HB.out)⟩

-- NOT PRINTED: function 9 (billetlaw04_LabelForms)

end Go.Proofs.YtfafdcdmaimghaaDoor.PR

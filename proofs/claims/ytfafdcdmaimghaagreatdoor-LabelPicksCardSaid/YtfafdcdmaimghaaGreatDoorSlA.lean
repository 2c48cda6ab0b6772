/- Functions of the statements' own, as the kit's print tells them, and that the code computes them. -/
import Derived.Test.YtfafdcdmaimghaaGreatDoorRfO
namespace Go.Proofs.YtfafdcdmaimghaaGreatDoor.PR
open Go.RowKit Go.Proofs.YtfafdcdmaimghaaGreatDoorW.PrintWords Go.Proofs.YtfafdcdmaimghaaGreatDoorW.PrintLast Go.Proofs.YtfafdcdmaimghaaGreatDoorW.PrintMore
attribute [local go_sem] max2_int min2_int max_two min_two max_three min_three max_four min_four   -- for this text's walks alone
set_option linter.unusedVariables false
set_option linter.unusedSimpArgs false

/-! ### billetlaw04_pick: function 17 -/
def billetlaw04_pick.f (a0 : Int) (a1 : Int) : Option (Int) := if a0 < 0 then (if a1 = 0 then (none) else (some (Int.tmod (wrap64 (-(wrap64 (a0 + 1)))) a1))) else (if a1 = 0 then (none) else (some (Int.tmod a0 a1)))
set_option maxHeartbeats 8000000 in
set_option maxRecDepth 100000 in
theorem billetlaw04_pick.calls (a0 : Int) (a1 : Int) (r : Int) (w : World) (h : billetlaw04_pick.f a0 a1 = some r) :
    Calls Tryz.prog 17 #[.int .i64 a0, .int .i64 a1] w fun e w' => e = .returned (.int .i64 r) ∧ Drawn0 w w' := by
  have H : (if a0 < 0 then (if a1 = 0 then (none) else (some (Int.tmod (wrap64 (-(wrap64 (a0 + 1)))) a1))) else (if a1 = 0 then (none) else (some (Int.tmod a0 a1)))) = some r := h
  clear h
  by_cases c3 : a0 < 0
  · rw [if_pos c3] at H
    have c3b0 : decide (a0 < 0) = true := decide_eq_true c3
    clear c3
    by_cases c4 : a1 = 0
    · rw [if_pos c4] at H
      exact absurd H (by simp)
    · rw [if_neg c4] at H
      have c4b0 : (a1 == 0) = false := beq_eq_false_iff_ne.mpr c4
      have c4b1 : (a1 != 0) = true := bne_iff_ne.mpr c4
      obtain rfl := Option.some.inj H
      go_enter Tryz.func17, Tryz.ntmps17
      go_wp2
      go_ret
      exact ⟨by first | rfl | (simp; done) | (simp [*]; done), by repeat (first | exact Drawn0.refl _ | apply Drawn0.step)⟩
  · rw [if_neg c3] at H
    have c3b0 : decide (a0 < 0) = false := decide_eq_false c3
    clear c3
    by_cases c5 : a1 = 0
    · rw [if_pos c5] at H
      exact absurd H (by simp)
    · rw [if_neg c5] at H
      have c5b0 : (a1 == 0) = false := beq_eq_false_iff_ne.mpr c5
      have c5b1 : (a1 != 0) = true := bne_iff_ne.mpr c5
      obtain rfl := Option.some.inj H
      go_enter Tryz.func17, Tryz.ntmps17
      go_wp2
      go_ret
      exact ⟨by first | rfl | (simp; done) | (simp [*]; done), by repeat (first | exact Drawn0.refl _ | apply Drawn0.step)⟩

/-! ### billetlaw04_Name: function 9 -/
def billetlaw04_Name.f (a0 : Int) : Option (ByteArray) := (some (([(⟨#[97]⟩ : ByteArray), (⟨#[98]⟩ : ByteArray), (⟨#[122, 111, 110, 101]⟩ : ByteArray), (⟨#[100, 105, 115, 107]⟩ : ByteArray), (⟨#[103, 112, 117]⟩ : ByteArray), (⟨#[120, 57]⟩ : ByteArray), (⟨#[97, 98]⟩ : ByteArray), (⟨#[97, 98, 99, 100, 101, 102, 103, 104, 105, 106, 107, 108]⟩ : ByteArray)] : List ByteArray) : List ByteArray)).bind fun y101 => ((billetlaw04_pick.f a0 8).bind fun t104 => (if 0 ≤ t104 then (if t104 < (y101.length : Int) then (some (rdOf ByteArray.empty y101 t104)) else (none)) else (none)))
set_option maxHeartbeats 8000000 in
set_option maxRecDepth 100000 in
theorem billetlaw04_Name.calls (a0 : Int) (r : ByteArray) (w : World) (h : billetlaw04_Name.f a0 = some r) :
    Calls Tryz.prog 9 #[.int .i64 a0] w fun e w' => e = .returned (.string r) ∧ Below w.heap.size w w' := by
  have HB := Aside0.mk (Below.refl w.heap.size w)
  have H : ((some (([(⟨#[97]⟩ : ByteArray), (⟨#[98]⟩ : ByteArray), (⟨#[122, 111, 110, 101]⟩ : ByteArray), (⟨#[100, 105, 115, 107]⟩ : ByteArray), (⟨#[103, 112, 117]⟩ : ByteArray), (⟨#[120, 57]⟩ : ByteArray), (⟨#[97, 98]⟩ : ByteArray), (⟨#[97, 98, 99, 100, 101, 102, 103, 104, 105, 106, 107, 108]⟩ : ByteArray)] : List ByteArray) : List ByteArray)).bind fun y101 => ((billetlaw04_pick.f a0 8).bind fun t104 => (if 0 ≤ t104 then (if t104 < (y101.length : Int) then (some (rdOf ByteArray.empty y101 t104)) else (none)) else (none)))) = some r := h
  clear h
  obtain ⟨y101, hy101⟩ : ∃ y_ : List ByteArray, y_ = (([(⟨#[97]⟩ : ByteArray), (⟨#[98]⟩ : ByteArray), (⟨#[122, 111, 110, 101]⟩ : ByteArray), (⟨#[100, 105, 115, 107]⟩ : ByteArray), (⟨#[103, 112, 117]⟩ : ByteArray), (⟨#[120, 57]⟩ : ByteArray), (⟨#[97, 98]⟩ : ByteArray), (⟨#[97, 98, 99, 100, 101, 102, 103, 104, 105, 106, 107, 108]⟩ : ByteArray)] : List ByteArray)) := ⟨_, rfl⟩
  replace H : ((billetlaw04_pick.f a0 8).bind fun t104 => (if 0 ≤ t104 then (if t104 < (y101.length : Int) then (some (rdOf ByteArray.empty y101 t104)) else (none)) else (none))) = some r := by first | (rw [hy101]; with_reducible exact H) | (have H2_ := (Option.bind_some _ _).symm.trans H; rw [hy101]; with_reducible exact H2_) | (have H2_ := (Option.bind_some _ _).symm.trans H; with_reducible exact H2_) | with_reducible exact H | (rw [hy101]; exact H) | exact H
  have Ny101 := Aside0.mk hy101
  clear hy101
  replace H := Option.bind_eq_some_iff.mp H
  obtain ⟨t104, A20, H⟩ := H
  replace H : (if 0 ≤ t104 then (if t104 < (y101.length : Int) then (some (rdOf ByteArray.empty y101 t104)) else (none)) else (none)) = some r := H
  have A2 := Aside0.mk A20
  clear A20
  by_cases c3 : 0 ≤ t104
  · rw [if_pos c3] at H
    have c3b0 : decide (0 ≤ t104) = true := decide_eq_true c3
    clear c3
    by_cases c4 : t104 < (y101.length : Int)
    · rw [if_pos c4] at H
      have c4b0 : decide (t104 < (y101.length : Int)) = true := decide_eq_true c4
      clear c4
      obtain rfl := Option.some.inj H
      go_enter Tryz.func9, Tryz.ntmps9
      go_wp2_with (first | ((with_reducible refine gate_dst (N := 3) rfl ?_); refine Kd.R_lit Kd.string _ 9 ?hg (N := 3) ?hd (xs := ([(⟨#[97]⟩ : ByteArray), (⟨#[98]⟩ : ByteArray), (⟨#[122, 111, 110, 101]⟩ : ByteArray), (⟨#[100, 105, 115, 107]⟩ : ByteArray), (⟨#[103, 112, 117]⟩ : ByteArray), (⟨#[120, 57]⟩ : ByteArray), (⟨#[97, 98]⟩ : ByteArray), (⟨#[97, 98, 99, 100, 101, 102, 103, 104, 105, 106, 107, 108]⟩ : ByteArray)] : List ByteArray)) (inner := [.string (⟨#[97]⟩ : ByteArray), .string (⟨#[98]⟩ : ByteArray), .string (⟨#[122, 111, 110, 101]⟩ : ByteArray), .string (⟨#[100, 105, 115, 107]⟩ : ByteArray), .string (⟨#[103, 112, 117]⟩ : ByteArray), .string (⟨#[120, 57]⟩ : ByteArray), .string (⟨#[97, 98]⟩ : ByteArray), .string (⟨#[97, 98, 99, 100, 101, 102, 103, 104, 105, 106, 107, 108]⟩ : ByteArray)]) (ok := fun _ => True) (okp := fun _ => True) ?hr ?hp (fun _ hk => hk) trivial (Below.refl _ _) (Nat.le_refl _) (by simp) ?_; (case hd => rfl); (case hg => rfl); (case hr => first | (go_simp; done) | (go_simp; rfl)); (case hp => exact (Reps.one (show Kd.M Kd.string _ _ _ (⟨#[97]⟩ : ByteArray) [.string (⟨#[97]⟩ : ByteArray)] from rfl) (Reps.one (show Kd.M Kd.string _ _ _ (⟨#[98]⟩ : ByteArray) [.string (⟨#[98]⟩ : ByteArray)] from rfl) (Reps.one (show Kd.M Kd.string _ _ _ (⟨#[122, 111, 110, 101]⟩ : ByteArray) [.string (⟨#[122, 111, 110, 101]⟩ : ByteArray)] from rfl) (Reps.one (show Kd.M Kd.string _ _ _ (⟨#[100, 105, 115, 107]⟩ : ByteArray) [.string (⟨#[100, 105, 115, 107]⟩ : ByteArray)] from rfl) (Reps.one (show Kd.M Kd.string _ _ _ (⟨#[103, 112, 117]⟩ : ByteArray) [.string (⟨#[103, 112, 117]⟩ : ByteArray)] from rfl) (Reps.one (show Kd.M Kd.string _ _ _ (⟨#[120, 57]⟩ : ByteArray) [.string (⟨#[120, 57]⟩ : ByteArray)] from rfl) (Reps.one (show Kd.M Kd.string _ _ _ (⟨#[97, 98]⟩ : ByteArray) [.string (⟨#[97, 98]⟩ : ByteArray)] from rfl) (Reps.one (show Kd.M Kd.string _ _ _ (⟨#[97, 98, 99, 100, 101, 102, 103, 104, 105, 106, 107, 108]⟩ : ByteArray) [.string (⟨#[97, 98, 99, 100, 101, 102, 103, 104, 105, 106, 107, 108]⟩ : ByteArray)] from rfl) (Reps.none _ _)))))))))); intro v102 w5 ho6 hb hg_ hnew_; clear hg_ hnew_; (first | rw [← Ny101.out] at ho6 | (simp only [Int.reduceToNat] at ho6; rw [← Ny101.out] at ho6)); have n0_ := Aside0.mk (Kd.R_lower ho6 (below_size (by repeat (first | (with_reducible first | exact HB.out | apply below_alloc | apply pw_below_drewN | apply below_drew1) | exact HB.out)))); have n1_ := Aside0.mk (below_step (by repeat (first | (with_reducible first | exact HB.out | apply below_alloc | apply pw_below_drewN | apply below_drew1) | exact HB.out)) hb); clear HB; have HO103 := n0_; have HB := n1_; clear n0_ n1_; clear hb ho6) | ((with_reducible refine gate_callee (f := 17) rfl ?_); refine goesL_ (some 5) rfl rfl Tryz.func17 (by kernel_rfl) rfl #[.int .i64 a0, .int .i64 8] rfl (by (try simp only [List.map_toArray, List.map_cons, List.map_nil]); first | done | rfl | (simp only [List.length_drop, List.length_take]; rfl)) ?_; (with_reducible refine (billetlaw04_pick.calls a0 8 t104 _ A2.out).mono ?_); rintro e w' ⟨rfl, ⟨nd, rfl⟩⟩; refine ⟨_, rfl, ?_⟩; obtain ⟨Ao7, co7, eo7⟩ := Kd.R_slice HO103.out; subst eo7; have p105 : 0 ≤ (t104 : Int) := of_decide_eq_true (by first | (with_reducible assumption) | assumption); have q105 : t104 < (y101.length : Int) := of_decide_eq_true (by first | (with_reducible assumption) | assumption); obtain ⟨ad105, e105, hx105_0⟩ := Kd.at_string (Kd.R_reads' HO103.out).2.2 t104 p105 q105; cases e105; replace p105 := eq_true p105; replace q105 := eq_true q105))
      go_ret
      exact ⟨by first | rfl | (simp [errW_none, errW_some] <;> rfl) | (simp [*, errW_none, errW_some] <;> rfl), by repeat (first | (with_reducible first | exact HB.out | apply below_alloc | apply pw_below_drewN | apply below_drew1) | exact HB.out)⟩
    · rw [if_neg c4] at H
      exact absurd H (by simp)
  · rw [if_neg c3] at H
    exact absurd H (by simp)

/-! ### billetlaw04_Term: function 10 -/
def billetlaw04_Term.f (a0 : Int) : Option (ByteArray) := (billetlaw04_Name.f a0).bind fun t106 => ((billetlaw04_pick.f a0 64).bind fun t107 => ((billetlaw04_Name.f (wrap64 (Int.tdiv t107 8))).bind fun t108 => ((billetlaw04_pick.f a0 256).bind fun t109 => (if (wrap64 (Int.tdiv t109 64)) = 0 then (some t106) else (if (wrap64 (Int.tdiv t109 64)) = 1 then (if 1 + t106.size ≤ 9223372036854775807 then (some ((⟨#[33]⟩ : ByteArray) ++ t106)) else (none)) else (if (wrap64 (Int.tdiv t109 64)) = 2 then (if t106.size + 1 ≤ 9223372036854775807 then (if t106.size + 1 + t108.size ≤ 9223372036854775807 then (some ((t106 ++ (⟨#[61]⟩ : ByteArray)) ++ t108)) else (none)) else (none)) else (if t106.size + 2 ≤ 9223372036854775807 then (if t106.size + 2 + t108.size ≤ 9223372036854775807 then (some ((t106 ++ (⟨#[33, 61]⟩ : ByteArray)) ++ t108)) else (none)) else (none))))))))
set_option maxHeartbeats 8000000 in
set_option maxRecDepth 100000 in
theorem billetlaw04_Term.calls (a0 : Int) (r : ByteArray) (w : World) (h : billetlaw04_Term.f a0 = some r) :
    Calls Tryz.prog 10 #[.int .i64 a0] w fun e w' => e = .returned (.string r) ∧ Below w.heap.size w w' := by
  have HB := Aside0.mk (Below.refl w.heap.size w)
  have H : ((billetlaw04_Name.f a0).bind fun t106 => ((billetlaw04_pick.f a0 64).bind fun t107 => ((billetlaw04_Name.f (wrap64 (Int.tdiv t107 8))).bind fun t108 => ((billetlaw04_pick.f a0 256).bind fun t109 => (if (wrap64 (Int.tdiv t109 64)) = 0 then (some t106) else (if (wrap64 (Int.tdiv t109 64)) = 1 then (if 1 + t106.size ≤ 9223372036854775807 then (some ((⟨#[33]⟩ : ByteArray) ++ t106)) else (none)) else (if (wrap64 (Int.tdiv t109 64)) = 2 then (if t106.size + 1 ≤ 9223372036854775807 then (if t106.size + 1 + t108.size ≤ 9223372036854775807 then (some ((t106 ++ (⟨#[61]⟩ : ByteArray)) ++ t108)) else (none)) else (none)) else (if t106.size + 2 ≤ 9223372036854775807 then (if t106.size + 2 + t108.size ≤ 9223372036854775807 then (some ((t106 ++ (⟨#[33, 61]⟩ : ByteArray)) ++ t108)) else (none)) else (none))))))))) = some r := h
  clear h
  replace H := Option.bind_eq_some_iff.mp H
  obtain ⟨t106, A20, H⟩ := H
  replace H : ((billetlaw04_pick.f a0 64).bind fun t107 => ((billetlaw04_Name.f (wrap64 (Int.tdiv t107 8))).bind fun t108 => ((billetlaw04_pick.f a0 256).bind fun t109 => (if (wrap64 (Int.tdiv t109 64)) = 0 then (some t106) else (if (wrap64 (Int.tdiv t109 64)) = 1 then (if 1 + t106.size ≤ 9223372036854775807 then (some ((⟨#[33]⟩ : ByteArray) ++ t106)) else (none)) else (if (wrap64 (Int.tdiv t109 64)) = 2 then (if t106.size + 1 ≤ 9223372036854775807 then (if t106.size + 1 + t108.size ≤ 9223372036854775807 then (some ((t106 ++ (⟨#[61]⟩ : ByteArray)) ++ t108)) else (none)) else (none)) else (if t106.size + 2 ≤ 9223372036854775807 then (if t106.size + 2 + t108.size ≤ 9223372036854775807 then (some ((t106 ++ (⟨#[33, 61]⟩ : ByteArray)) ++ t108)) else (none)) else (none)))))))) = some r := H
  have A2 := Aside0.mk A20
  clear A20
  replace H := Option.bind_eq_some_iff.mp H
  obtain ⟨t107, A30, H⟩ := H
  replace H : ((billetlaw04_Name.f (wrap64 (Int.tdiv t107 8))).bind fun t108 => ((billetlaw04_pick.f a0 256).bind fun t109 => (if (wrap64 (Int.tdiv t109 64)) = 0 then (some t106) else (if (wrap64 (Int.tdiv t109 64)) = 1 then (if 1 + t106.size ≤ 9223372036854775807 then (some ((⟨#[33]⟩ : ByteArray) ++ t106)) else (none)) else (if (wrap64 (Int.tdiv t109 64)) = 2 then (if t106.size + 1 ≤ 9223372036854775807 then (if t106.size + 1 + t108.size ≤ 9223372036854775807 then (some ((t106 ++ (⟨#[61]⟩ : ByteArray)) ++ t108)) else (none)) else (none)) else (if t106.size + 2 ≤ 9223372036854775807 then (if t106.size + 2 + t108.size ≤ 9223372036854775807 then (some ((t106 ++ (⟨#[33, 61]⟩ : ByteArray)) ++ t108)) else (none)) else (none))))))) = some r := H
  have A3 := Aside0.mk A30
  clear A30
  replace H := Option.bind_eq_some_iff.mp H
  obtain ⟨t108, A40, H⟩ := H
  replace H : ((billetlaw04_pick.f a0 256).bind fun t109 => (if (wrap64 (Int.tdiv t109 64)) = 0 then (some t106) else (if (wrap64 (Int.tdiv t109 64)) = 1 then (if 1 + t106.size ≤ 9223372036854775807 then (some ((⟨#[33]⟩ : ByteArray) ++ t106)) else (none)) else (if (wrap64 (Int.tdiv t109 64)) = 2 then (if t106.size + 1 ≤ 9223372036854775807 then (if t106.size + 1 + t108.size ≤ 9223372036854775807 then (some ((t106 ++ (⟨#[61]⟩ : ByteArray)) ++ t108)) else (none)) else (none)) else (if t106.size + 2 ≤ 9223372036854775807 then (if t106.size + 2 + t108.size ≤ 9223372036854775807 then (some ((t106 ++ (⟨#[33, 61]⟩ : ByteArray)) ++ t108)) else (none)) else (none)))))) = some r := H
  have A4 := Aside0.mk A40
  clear A40
  replace H := Option.bind_eq_some_iff.mp H
  obtain ⟨t109, A50, H⟩ := H
  replace H : (if (wrap64 (Int.tdiv t109 64)) = 0 then (some t106) else (if (wrap64 (Int.tdiv t109 64)) = 1 then (if 1 + t106.size ≤ 9223372036854775807 then (some ((⟨#[33]⟩ : ByteArray) ++ t106)) else (none)) else (if (wrap64 (Int.tdiv t109 64)) = 2 then (if t106.size + 1 ≤ 9223372036854775807 then (if t106.size + 1 + t108.size ≤ 9223372036854775807 then (some ((t106 ++ (⟨#[61]⟩ : ByteArray)) ++ t108)) else (none)) else (none)) else (if t106.size + 2 ≤ 9223372036854775807 then (if t106.size + 2 + t108.size ≤ 9223372036854775807 then (some ((t106 ++ (⟨#[33, 61]⟩ : ByteArray)) ++ t108)) else (none)) else (none))))) = some r := H
  have A5 := Aside0.mk A50
  clear A50
  by_cases c6 : (wrap64 (Int.tdiv t109 64)) = 0
  · rw [if_pos c6] at H
    have c6b0 : ((wrap64 (Int.tdiv t109 64)) == 0) = true := beq_iff_eq.mpr c6
    have c6b1 : ((wrap64 (Int.tdiv t109 64)) != 0) = false := bne_eq_false_iff_eq.mpr c6
    clear c6
    obtain rfl := Option.some.inj H
    go_enter Tryz.func10, Tryz.ntmps10
    go_wp2_with (first | ((with_reducible refine gate_callee (f := 9) rfl ?_); refine goesL_ (some 6) rfl rfl Tryz.func9 (by kernel_rfl) rfl #[.int .i64 a0] rfl (by (try simp only [List.map_toArray, List.map_cons, List.map_nil]); first | done | rfl | (simp only [List.length_drop, List.length_take]; rfl)) ?_; (with_reducible refine (billetlaw04_Name.calls a0 t106 _ A2.out).mono ?_); rintro e w7 ⟨rfl, hb⟩; refine ⟨_, rfl, ?_⟩; have n0_ := Aside0.mk (below_step (by repeat (first | (with_reducible first | exact HB.out | apply below_alloc | apply pw_below_drewN | apply below_drew1) | exact HB.out)) hb); clear HB; have HB := n0_; clear n0_; (try clear hb); (try clear hb2); (try clear hk); (try clear hi)) | ((with_reducible refine gate_callee (f := 17) rfl ?_); refine goesL_ (some 8) rfl rfl Tryz.func17 (by kernel_rfl) rfl #[.int .i64 a0, .int .i64 64] rfl (by (try simp only [List.map_toArray, List.map_cons, List.map_nil]); first | done | rfl | (simp only [List.length_drop, List.length_take]; rfl)) ?_; (with_reducible refine (billetlaw04_pick.calls a0 64 t107 _ A3.out).mono ?_); rintro e w' ⟨rfl, ⟨nd, rfl⟩⟩; refine ⟨_, rfl, ?_⟩) | ((with_reducible refine gate_callee (f := 9) rfl ?_); refine goesL_ (some 10) rfl rfl Tryz.func9 (by kernel_rfl) rfl #[.int .i64 (wrap64 (Int.tdiv t107 8))] rfl (by (try simp only [List.map_toArray, List.map_cons, List.map_nil]); first | done | rfl | (simp only [List.length_drop, List.length_take]; rfl)) ?_; (with_reducible refine (billetlaw04_Name.calls (wrap64 (Int.tdiv t107 8)) t108 _ A4.out).mono ?_); rintro e w8 ⟨rfl, hb⟩; refine ⟨_, rfl, ?_⟩; have n0_ := Aside0.mk (below_step (by repeat (first | (with_reducible first | exact HB.out | apply below_alloc | apply pw_below_drewN | apply below_drew1) | exact HB.out)) hb); clear HB; have HB := n0_; clear n0_; (try clear hb); (try clear hb2); (try clear hk); (try clear hi)) | ((with_reducible refine gate_callee (f := 17) rfl ?_); refine goesL_ (some 12) rfl rfl Tryz.func17 (by kernel_rfl) rfl #[.int .i64 a0, .int .i64 256] rfl (by (try simp only [List.map_toArray, List.map_cons, List.map_nil]); first | done | rfl | (simp only [List.length_drop, List.length_take]; rfl)) ?_; (with_reducible refine (billetlaw04_pick.calls a0 256 t109 _ A5.out).mono ?_); rintro e w' ⟨rfl, ⟨nd, rfl⟩⟩; refine ⟨_, rfl, ?_⟩))
    go_ret
    exact ⟨by first | rfl | (simp [errW_none, errW_some] <;> rfl) | (simp [*, errW_none, errW_some] <;> rfl), by repeat (first | (with_reducible first | exact HB.out | apply below_alloc | apply pw_below_drewN | apply below_drew1) | exact HB.out)⟩
  · rw [if_neg c6] at H
    have c6b0 : ((wrap64 (Int.tdiv t109 64)) == 0) = false := beq_eq_false_iff_ne.mpr c6
    have c6b1 : ((wrap64 (Int.tdiv t109 64)) != 0) = true := bne_iff_ne.mpr c6
    by_cases c9 : (wrap64 (Int.tdiv t109 64)) = 1
    · rw [if_pos c9] at H
      have c9b0 : ((wrap64 (Int.tdiv t109 64)) == 1) = true := beq_iff_eq.mpr c9
      have c9b1 : ((wrap64 (Int.tdiv t109 64)) != 1) = false := bne_eq_false_iff_eq.mpr c9
      clear c9
      by_cases c10 : 1 + t106.size ≤ 9223372036854775807
      · rw [if_pos c10] at H
        have c10b0 := eq_true c10
        have c10b1 : decide (1 + t106.size ≤ 9223372036854775807) = true := decide_eq_true c10
        try have c10b2 : (9223372036854775807 < 1 + t106.size) = False := eq_false (Nat.not_lt.2 c10)
        obtain rfl := Option.some.inj H
        go_enter Tryz.func10, Tryz.ntmps10
        go_wp2_with (first | ((with_reducible refine gate_callee (f := 9) rfl ?_); refine goesL_ (some 6) rfl rfl Tryz.func9 (by kernel_rfl) rfl #[.int .i64 a0] rfl (by (try simp only [List.map_toArray, List.map_cons, List.map_nil]); first | done | rfl | (simp only [List.length_drop, List.length_take]; rfl)) ?_; (with_reducible refine (billetlaw04_Name.calls a0 t106 _ A2.out).mono ?_); rintro e w11 ⟨rfl, hb⟩; refine ⟨_, rfl, ?_⟩; have n0_ := Aside0.mk (below_step (by repeat (first | (with_reducible first | exact HB.out | apply below_alloc | apply pw_below_drewN | apply below_drew1) | exact HB.out)) hb); clear HB; have HB := n0_; clear n0_; (try clear hb); (try clear hb2); (try clear hk); (try clear hi)) | ((with_reducible refine gate_callee (f := 17) rfl ?_); refine goesL_ (some 8) rfl rfl Tryz.func17 (by kernel_rfl) rfl #[.int .i64 a0, .int .i64 64] rfl (by (try simp only [List.map_toArray, List.map_cons, List.map_nil]); first | done | rfl | (simp only [List.length_drop, List.length_take]; rfl)) ?_; (with_reducible refine (billetlaw04_pick.calls a0 64 t107 _ A3.out).mono ?_); rintro e w' ⟨rfl, ⟨nd, rfl⟩⟩; refine ⟨_, rfl, ?_⟩) | ((with_reducible refine gate_callee (f := 9) rfl ?_); refine goesL_ (some 10) rfl rfl Tryz.func9 (by kernel_rfl) rfl #[.int .i64 (wrap64 (Int.tdiv t107 8))] rfl (by (try simp only [List.map_toArray, List.map_cons, List.map_nil]); first | done | rfl | (simp only [List.length_drop, List.length_take]; rfl)) ?_; (with_reducible refine (billetlaw04_Name.calls (wrap64 (Int.tdiv t107 8)) t108 _ A4.out).mono ?_); rintro e w12 ⟨rfl, hb⟩; refine ⟨_, rfl, ?_⟩; have n0_ := Aside0.mk (below_step (by repeat (first | (with_reducible first | exact HB.out | apply below_alloc | apply pw_below_drewN | apply below_drew1) | exact HB.out)) hb); clear HB; have HB := n0_; clear n0_; (try clear hb); (try clear hb2); (try clear hk); (try clear hi)) | ((with_reducible refine gate_callee (f := 17) rfl ?_); refine goesL_ (some 12) rfl rfl Tryz.func17 (by kernel_rfl) rfl #[.int .i64 a0, .int .i64 256] rfl (by (try simp only [List.map_toArray, List.map_cons, List.map_nil]); first | done | rfl | (simp only [List.length_drop, List.length_take]; rfl)) ?_; (with_reducible refine (billetlaw04_pick.calls a0 256 t109 _ A5.out).mono ?_); rintro e w' ⟨rfl, ⟨nd, rfl⟩⟩; refine ⟨_, rfl, ?_⟩))
        go_ret
        exact ⟨by first | rfl | (simp [errW_none, errW_some] <;> rfl) | (simp [*, errW_none, errW_some] <;> rfl), by repeat (first | (with_reducible first | exact HB.out | apply below_alloc | apply pw_below_drewN | apply below_drew1) | exact HB.out)⟩
      · rw [if_neg c10] at H
        exact absurd H (by simp)
    · rw [if_neg c9] at H
      have c9b0 : ((wrap64 (Int.tdiv t109 64)) == 1) = false := beq_eq_false_iff_ne.mpr c9
      have c9b1 : ((wrap64 (Int.tdiv t109 64)) != 1) = true := bne_iff_ne.mpr c9
      by_cases c13 : (wrap64 (Int.tdiv t109 64)) = 2
      · rw [if_pos c13] at H
        have c13b0 : ((wrap64 (Int.tdiv t109 64)) == 2) = true := beq_iff_eq.mpr c13
        have c13b1 : ((wrap64 (Int.tdiv t109 64)) != 2) = false := bne_eq_false_iff_eq.mpr c13
        clear c13
        by_cases c14 : t106.size + 1 ≤ 9223372036854775807
        · rw [if_pos c14] at H
          have c14b0 := eq_true c14
          have c14b1 : decide (t106.size + 1 ≤ 9223372036854775807) = true := decide_eq_true c14
          try have c14b2 : (9223372036854775807 < t106.size + 1) = False := eq_false (Nat.not_lt.2 c14)
          by_cases c15 : t106.size + 1 + t108.size ≤ 9223372036854775807
          · rw [if_pos c15] at H
            have c15b0 := eq_true c15
            have c15b1 : decide (t106.size + 1 + t108.size ≤ 9223372036854775807) = true := decide_eq_true c15
            try have c15b2 : (9223372036854775807 < t106.size + 1 + t108.size) = False := eq_false (Nat.not_lt.2 c15)
            obtain rfl := Option.some.inj H
            go_enter Tryz.func10, Tryz.ntmps10
            go_wp2_with (first | ((with_reducible refine gate_callee (f := 9) rfl ?_); refine goesL_ (some 6) rfl rfl Tryz.func9 (by kernel_rfl) rfl #[.int .i64 a0] rfl (by (try simp only [List.map_toArray, List.map_cons, List.map_nil]); first | done | rfl | (simp only [List.length_drop, List.length_take]; rfl)) ?_; (with_reducible refine (billetlaw04_Name.calls a0 t106 _ A2.out).mono ?_); rintro e w16 ⟨rfl, hb⟩; refine ⟨_, rfl, ?_⟩; have n0_ := Aside0.mk (below_step (by repeat (first | (with_reducible first | exact HB.out | apply below_alloc | apply pw_below_drewN | apply below_drew1) | exact HB.out)) hb); clear HB; have HB := n0_; clear n0_; (try clear hb); (try clear hb2); (try clear hk); (try clear hi)) | ((with_reducible refine gate_callee (f := 17) rfl ?_); refine goesL_ (some 8) rfl rfl Tryz.func17 (by kernel_rfl) rfl #[.int .i64 a0, .int .i64 64] rfl (by (try simp only [List.map_toArray, List.map_cons, List.map_nil]); first | done | rfl | (simp only [List.length_drop, List.length_take]; rfl)) ?_; (with_reducible refine (billetlaw04_pick.calls a0 64 t107 _ A3.out).mono ?_); rintro e w' ⟨rfl, ⟨nd, rfl⟩⟩; refine ⟨_, rfl, ?_⟩) | ((with_reducible refine gate_callee (f := 9) rfl ?_); refine goesL_ (some 10) rfl rfl Tryz.func9 (by kernel_rfl) rfl #[.int .i64 (wrap64 (Int.tdiv t107 8))] rfl (by (try simp only [List.map_toArray, List.map_cons, List.map_nil]); first | done | rfl | (simp only [List.length_drop, List.length_take]; rfl)) ?_; (with_reducible refine (billetlaw04_Name.calls (wrap64 (Int.tdiv t107 8)) t108 _ A4.out).mono ?_); rintro e w17 ⟨rfl, hb⟩; refine ⟨_, rfl, ?_⟩; have n0_ := Aside0.mk (below_step (by repeat (first | (with_reducible first | exact HB.out | apply below_alloc | apply pw_below_drewN | apply below_drew1) | exact HB.out)) hb); clear HB; have HB := n0_; clear n0_; (try clear hb); (try clear hb2); (try clear hk); (try clear hi)) | ((with_reducible refine gate_callee (f := 17) rfl ?_); refine goesL_ (some 12) rfl rfl Tryz.func17 (by kernel_rfl) rfl #[.int .i64 a0, .int .i64 256] rfl (by (try simp only [List.map_toArray, List.map_cons, List.map_nil]); first | done | rfl | (simp only [List.length_drop, List.length_take]; rfl)) ?_; (with_reducible refine (billetlaw04_pick.calls a0 256 t109 _ A5.out).mono ?_); rintro e w' ⟨rfl, ⟨nd, rfl⟩⟩; refine ⟨_, rfl, ?_⟩))
            go_ret
            exact ⟨by first | rfl | (simp [errW_none, errW_some] <;> rfl) | (simp [*, errW_none, errW_some] <;> rfl), by repeat (first | (with_reducible first | exact HB.out | apply below_alloc | apply pw_below_drewN | apply below_drew1) | exact HB.out)⟩
          · rw [if_neg c15] at H
            exact absurd H (by simp)
        · rw [if_neg c14] at H
          exact absurd H (by simp)
      · rw [if_neg c13] at H
        have c13b0 : ((wrap64 (Int.tdiv t109 64)) == 2) = false := beq_eq_false_iff_ne.mpr c13
        have c13b1 : ((wrap64 (Int.tdiv t109 64)) != 2) = true := bne_iff_ne.mpr c13
        by_cases c18 : t106.size + 2 ≤ 9223372036854775807
        · rw [if_pos c18] at H
          have c18b0 := eq_true c18
          have c18b1 : decide (t106.size + 2 ≤ 9223372036854775807) = true := decide_eq_true c18
          try have c18b2 : (9223372036854775807 < t106.size + 2) = False := eq_false (Nat.not_lt.2 c18)
          by_cases c19 : t106.size + 2 + t108.size ≤ 9223372036854775807
          · rw [if_pos c19] at H
            have c19b0 := eq_true c19
            have c19b1 : decide (t106.size + 2 + t108.size ≤ 9223372036854775807) = true := decide_eq_true c19
            try have c19b2 : (9223372036854775807 < t106.size + 2 + t108.size) = False := eq_false (Nat.not_lt.2 c19)
            obtain rfl := Option.some.inj H
            go_enter Tryz.func10, Tryz.ntmps10
            go_wp2_with (first | ((with_reducible refine gate_callee (f := 9) rfl ?_); refine goesL_ (some 6) rfl rfl Tryz.func9 (by kernel_rfl) rfl #[.int .i64 a0] rfl (by (try simp only [List.map_toArray, List.map_cons, List.map_nil]); first | done | rfl | (simp only [List.length_drop, List.length_take]; rfl)) ?_; (with_reducible refine (billetlaw04_Name.calls a0 t106 _ A2.out).mono ?_); rintro e w20 ⟨rfl, hb⟩; refine ⟨_, rfl, ?_⟩; have n0_ := Aside0.mk (below_step (by repeat (first | (with_reducible first | exact HB.out | apply below_alloc | apply pw_below_drewN | apply below_drew1) | exact HB.out)) hb); clear HB; have HB := n0_; clear n0_; (try clear hb); (try clear hb2); (try clear hk); (try clear hi)) | ((with_reducible refine gate_callee (f := 17) rfl ?_); refine goesL_ (some 8) rfl rfl Tryz.func17 (by kernel_rfl) rfl #[.int .i64 a0, .int .i64 64] rfl (by (try simp only [List.map_toArray, List.map_cons, List.map_nil]); first | done | rfl | (simp only [List.length_drop, List.length_take]; rfl)) ?_; (with_reducible refine (billetlaw04_pick.calls a0 64 t107 _ A3.out).mono ?_); rintro e w' ⟨rfl, ⟨nd, rfl⟩⟩; refine ⟨_, rfl, ?_⟩) | ((with_reducible refine gate_callee (f := 9) rfl ?_); refine goesL_ (some 10) rfl rfl Tryz.func9 (by kernel_rfl) rfl #[.int .i64 (wrap64 (Int.tdiv t107 8))] rfl (by (try simp only [List.map_toArray, List.map_cons, List.map_nil]); first | done | rfl | (simp only [List.length_drop, List.length_take]; rfl)) ?_; (with_reducible refine (billetlaw04_Name.calls (wrap64 (Int.tdiv t107 8)) t108 _ A4.out).mono ?_); rintro e w21 ⟨rfl, hb⟩; refine ⟨_, rfl, ?_⟩; have n0_ := Aside0.mk (below_step (by repeat (first | (with_reducible first | exact HB.out | apply below_alloc | apply pw_below_drewN | apply below_drew1) | exact HB.out)) hb); clear HB; have HB := n0_; clear n0_; (try clear hb); (try clear hb2); (try clear hk); (try clear hi)) | ((with_reducible refine gate_callee (f := 17) rfl ?_); refine goesL_ (some 12) rfl rfl Tryz.func17 (by kernel_rfl) rfl #[.int .i64 a0, .int .i64 256] rfl (by (try simp only [List.map_toArray, List.map_cons, List.map_nil]); first | done | rfl | (simp only [List.length_drop, List.length_take]; rfl)) ?_; (with_reducible refine (billetlaw04_pick.calls a0 256 t109 _ A5.out).mono ?_); rintro e w' ⟨rfl, ⟨nd, rfl⟩⟩; refine ⟨_, rfl, ?_⟩))
            go_ret
            exact ⟨by first | rfl | (simp [errW_none, errW_some] <;> rfl) | (simp [*, errW_none, errW_some] <;> rfl), by repeat (first | (with_reducible first | exact HB.out | apply below_alloc | apply pw_below_drewN | apply below_drew1) | exact HB.out)⟩
          · rw [if_neg c19] at H
            exact absurd H (by simp)
        · rw [if_neg c18] at H
          exact absurd H (by simp)

/-! ### billetlaw04_Selector: function 4 -/
mutual
def billetlaw04_Selector.l0 : Nat → List Int → ByteArray → Int → Option (ByteArray)
  | 0, _, _, _ => none
  | k + 1, x0, x3, x4 => if x4 < (x0.length : Int) then (billetlaw04_Selector.j1 k x0 x3 x4 (decide (x4 < 4))) else (billetlaw04_Selector.j1 k x0 x3 x4 false)
def billetlaw04_Selector.j1 : Nat → List Int → ByteArray → Int → Bool → Option (ByteArray)
  | 0, _, _, _, _ => none
  | k + 1, x0, x3, x4, x12 => if x12 = true then (if x4 > 0 then (if x3.size + 1 ≤ 9223372036854775807 then (if 0 ≤ x4 then (if x4 < (x0.length : Int) then ((billetlaw04_Term.f (rd x0 x4)).bind fun t111 => (if x3.size + 1 + t111.size ≤ 9223372036854775807 then (billetlaw04_Selector.l0 k x0 ((x3 ++ (⟨#[44]⟩ : ByteArray)) ++ t111) (wrap64 (x4 + 1))) else (none))) else (none)) else (none)) else (none)) else (if 0 ≤ x4 then (if x4 < (x0.length : Int) then ((billetlaw04_Term.f (rd x0 x4)).bind fun t113 => (if x3.size + t113.size ≤ 9223372036854775807 then (billetlaw04_Selector.l0 k x0 (x3 ++ t113) (wrap64 (x4 + 1))) else (none))) else (none)) else (none))) else (some x3)
end
def billetlaw04_Selector.f (k : Nat) (l0 : List Int) : Option (ByteArray) := billetlaw04_Selector.l0 k l0 (⟨#[]⟩ : ByteArray) 0
theorem billetlaw04_Selector.mono_l : ∀ k, (∀ y0 y1 y2, LeO (billetlaw04_Selector.l0 k y0 y1 y2) (billetlaw04_Selector.l0 (k + 1) y0 y1 y2)) ∧ (∀ y0 y1 y2 y3, LeO (billetlaw04_Selector.j1 k y0 y1 y2 y3) (billetlaw04_Selector.j1 (k + 1) y0 y1 y2 y3))
  | 0 => ⟨fun _ _ _ r h => by simp [billetlaw04_Selector.l0] at h, fun _ _ _ _ r h => by simp [billetlaw04_Selector.j1] at h⟩
  | k + 1 => by
    obtain ⟨ih0, ih1⟩ := billetlaw04_Selector.mono_l k
    refine ⟨?_, ?_⟩
    · intro y0 y1 y2
      unfold billetlaw04_Selector.l0
      repeat' first
      | (with_reducible exact ih0 _ _ _)
      | (with_reducible exact ih1 _ _ _ _)
      | (with_reducible exact LeO.refl _)
      | (with_reducible exact LeO.none _)
      | (with_reducible refine LeO.ite ?_ ?_)
      | (with_reducible refine LeO.bind ?_ (fun _ => ?_))
      | exact ih0 _ _ _
      | exact ih1 _ _ _ _
      | exact LeO.none _
      | refine LeO.ite ?_ ?_
      | refine LeO.bind ?_ (fun _ => ?_)
    · intro y0 y1 y2 y3
      unfold billetlaw04_Selector.j1
      repeat' first
      | (with_reducible exact ih0 _ _ _)
      | (with_reducible exact ih1 _ _ _ _)
      | (with_reducible exact LeO.refl _)
      | (with_reducible exact LeO.none _)
      | (with_reducible refine LeO.ite ?_ ?_)
      | (with_reducible refine LeO.bind ?_ (fun _ => ?_))
      | exact ih0 _ _ _
      | exact ih1 _ _ _ _
      | exact LeO.none _
      | refine LeO.ite ?_ ?_
      | refine LeO.bind ?_ (fun _ => ?_)
theorem billetlaw04_Selector.mono : ∀ a0 k, LeO (billetlaw04_Selector.f k a0) (billetlaw04_Selector.f (k + 1) a0) := by
  intro a0 k
  obtain ⟨ih0, ih1⟩ := billetlaw04_Selector.mono_l k
  unfold billetlaw04_Selector.f
  repeat' first
      | (with_reducible exact ih0 _ _ _)
      | (with_reducible exact ih1 _ _ _ _)
      | (with_reducible exact LeO.refl _)
      | (with_reducible exact LeO.none _)
      | (with_reducible refine LeO.ite ?_ ?_)
      | (with_reducible refine LeO.bind ?_ (fun _ => ?_))
      | exact ih0 _ _ _
      | exact ih1 _ _ _ _
      | exact LeO.none _
      | refine LeO.ite ?_ ?_
      | refine LeO.bind ?_ (fun _ => ?_)
set_option maxHeartbeats 8000000 in
set_option maxRecDepth 100000 in
theorem billetlaw04_Selector.calls (k : Nat) (A0 : Option Addr) (c0 : Nat) (l0 : List Int) (r : ByteArray) (w : World) (hr0 : Kd.C (Kd.int .i64) w A0 l0.length l0) (hc0 : l0.length ≤ c0) (h : billetlaw04_Selector.f k l0 = some r) :
    Calls Tryz.prog 4 #[.slice A0 l0.length c0] w fun e w' => e = .returned (.string r) ∧ Below w.heap.size w w' := by
  have HR0 := Aside0.mk hr0
  have HC0 := Aside0.mk hc0
  clear hr0 hc0
  have HB := Aside0.mk (Below.refl w.heap.size w)
  have H : (billetlaw04_Selector.l0 k l0 (⟨#[]⟩ : ByteArray) 0) = some r := h
  clear h
  have H' := Aside0.mk H
  clear H
  go_enter Tryz.func4, Tryz.ntmps4
  go_wp2
  go_loopg [3, 4] k (fun kq v3 v4 w' => ∃ (x3_1 : ByteArray) (x4_1 : Int), v3 = .string x3_1 ∧ v4 = .int .i64 x4_1 ∧ Aside0 (billetlaw04_Selector.l0 kq l0 x3_1 x4_1 = some r) ∧ Aside0 (kq ≤ k) ∧ Aside0 (Below w.heap.size w w'))
  case atStart => exact ⟨((⟨#[]⟩ : ByteArray)), (0), (by first | rfl | (simp; done) | (simp [*]; done)), (by first | rfl | (simp; done) | (simp [*]; done)), H', ⟨Nat.le_refl _⟩, ⟨by repeat (first | (with_reducible first | exact HB.out | apply below_alloc | apply pw_below_drewN | apply below_drew1) | exact HB.out)⟩⟩
  case round =>
    clear H'
    obtain ⟨x3_1, x4_1, rfl, rfl, HA, HK1, HB⟩ := hrel
    cases gk with
    | zero => exact absurd HA.out (by simp [billetlaw04_Selector.l0])
    | succ k1 =>
      have H := HA.out
      clear HA
      simp only [billetlaw04_Selector.l0] at H
      have HC2 := Aside0.mk H
      clear H
      go_upto_region 3 with (fail)
      go_cut [12] (fun v12 wc => ∃ (kq : Nat) (x12_1 : Bool), v12 = .bool x12_1 ∧ Aside0 (billetlaw04_Selector.j1 kq l0 x3_1 x4_1 x12_1 = some r) ∧ Aside0 (kq ≤ k1) ∧ Aside0 (Below w.heap.size w wc))
      case first =>
        have H := HC2.out
        clear HC2
        by_cases c3 : x4_1 < (l0.length : Int)
        · rw [if_pos c3] at H
          have c3b0 : decide (x4_1 < (l0.length : Int)) = true := decide_eq_true c3
          clear c3
          (first | rw [c3b0] | (simp only [i64_w, i32_w]; rw [c3b0]) | skip)
          have H' := Aside0.mk H
          clear H
          go_wp2
          go_meet
          case rel => exact ⟨_, (decide (x4_1 < 4)), (by first | rfl | (simp; done) | (simp [*]; done)), H', ⟨by have := HK1.out; first | omega | exact Nat.le_refl _⟩, ⟨by repeat (first | (with_reducible first | exact HB.out | apply below_alloc | apply pw_below_drewN | apply below_drew1) | exact HB.out)⟩⟩
        · rw [if_neg c3] at H
          have c3b0 : decide (x4_1 < (l0.length : Int)) = false := decide_eq_false c3
          clear c3
          (first | rw [c3b0] | (simp only [i64_w, i32_w]; rw [c3b0]) | skip)
          have H' := Aside0.mk H
          clear H
          go_wp2
          go_meet
          case rel => exact ⟨_, (false), (by first | rfl | (simp; done) | (simp [*]; done)), H', ⟨by have := HK1.out; first | omega | exact Nat.le_refl _⟩, ⟨by repeat (first | (with_reducible first | exact HB.out | apply below_alloc | apply pw_below_drewN | apply below_drew1) | exact HB.out)⟩⟩
      case rest =>
        clear HC2
        try clear p2
        try clear c3
        try clear c3b0
        obtain ⟨kq, x12_1, rfl, HA, HJ1, HB⟩ := hcut
        cases kq with
        | zero => exact absurd HA.out (by simp [billetlaw04_Selector.j1])
        | succ kj1 =>
          have H := HA.out
          clear HA
          simp only [billetlaw04_Selector.j1] at H
          by_cases c4 : x12_1 = true
          · subst c4
            have H1 : (if x4_1 > 0 then (if x3_1.size + 1 ≤ 9223372036854775807 then (if 0 ≤ x4_1 then (if x4_1 < (l0.length : Int) then ((billetlaw04_Term.f (rd l0 x4_1)).bind fun t111 => (if x3_1.size + 1 + t111.size ≤ 9223372036854775807 then (billetlaw04_Selector.l0 kj1 l0 ((x3_1 ++ (⟨#[44]⟩ : ByteArray)) ++ t111) (wrap64 (x4_1 + 1))) else (none))) else (none)) else (none)) else (none)) else (if 0 ≤ x4_1 then (if x4_1 < (l0.length : Int) then ((billetlaw04_Term.f (rd l0 x4_1)).bind fun t113 => (if x3_1.size + t113.size ≤ 9223372036854775807 then (billetlaw04_Selector.l0 kj1 l0 (x3_1 ++ t113) (wrap64 (x4_1 + 1))) else (none))) else (none)) else (none))) = some r := by rw [if_pos rfl] at H; exact H
            clear H
            have H := H1
            clear H1
            by_cases c5 : x4_1 > 0
            · rw [if_pos c5] at H
              have c5b0 : decide (0 < x4_1) = true := decide_eq_true c5
              clear c5
              by_cases c6 : x3_1.size + 1 ≤ 9223372036854775807
              · rw [if_pos c6] at H
                have c6b0 := eq_true c6
                have c6b1 : decide (x3_1.size + 1 ≤ 9223372036854775807) = true := decide_eq_true c6
                try have c6b2 : (9223372036854775807 < x3_1.size + 1) = False := eq_false (Nat.not_lt.2 c6)
                by_cases c7 : 0 ≤ x4_1
                · rw [if_pos c7] at H
                  have c7b0 : decide (0 ≤ x4_1) = true := decide_eq_true c7
                  clear c7
                  by_cases c8 : x4_1 < (l0.length : Int)
                  · rw [if_pos c8] at H
                    have c8b0 : decide (x4_1 < (l0.length : Int)) = true := decide_eq_true c8
                    clear c8
                    replace H := Option.bind_eq_some_iff.mp H
                    obtain ⟨t111, A90, H⟩ := H
                    replace H : (if x3_1.size + 1 + t111.size ≤ 9223372036854775807 then (billetlaw04_Selector.l0 kj1 l0 ((x3_1 ++ (⟨#[44]⟩ : ByteArray)) ++ t111) (wrap64 (x4_1 + 1))) else (none)) = some r := H
                    have A9 := Aside0.mk A90
                    clear A90
                    by_cases c10 : x3_1.size + 1 + t111.size ≤ 9223372036854775807
                    · rw [if_pos c10] at H
                      have c10b0 := eq_true c10
                      have c10b1 : decide (x3_1.size + 1 + t111.size ≤ 9223372036854775807) = true := decide_eq_true c10
                      try have c10b2 : (9223372036854775807 < x3_1.size + 1 + t111.size) = False := eq_false (Nat.not_lt.2 c10)
                      have H' := Aside0.mk H
                      clear H
                      have p110 : 0 ≤ (x4_1 : Int) := of_decide_eq_true (by first | (with_reducible assumption) | assumption)
                      have q110 : x4_1 < (l0.length : Int) := of_decide_eq_true (by first | (with_reducible assumption) | assumption)
                      obtain ⟨ad110, e110, hx110_0⟩ := Kd.at_int HR0.out x4_1 p110 q110
                      cases e110
                      replace hx110_0 := (HB.out.cell (World.block_lt_of_cell? w _ hx110_0)).trans hx110_0
                      replace p110 := eq_true p110
                      replace q110 := eq_true q110
                      go_wp2_with (first | ((with_reducible refine gate_callee (f := 10) rfl ?_); refine goesL_ (some 24) rfl rfl Tryz.func10 (by kernel_rfl) rfl #[.int .i64 (rd l0 x4_1)] rfl (by (try simp only [List.map_toArray, List.map_cons, List.map_nil]); first | done | rfl | (simp only [List.length_drop, List.length_take]; rfl)) ?_; (with_reducible refine (billetlaw04_Term.calls (rd l0 x4_1) t111 _ A9.out).mono ?_); rintro e w11 ⟨rfl, hb⟩; refine ⟨_, rfl, ?_⟩; have n0_ := Aside0.mk (below_step (by repeat (first | (with_reducible first | exact HB.out | apply below_alloc | apply pw_below_drewN | apply below_drew1) | exact HB.out)) hb); clear HB; have HB := n0_; clear n0_; (try clear hb); (try clear hb2); (try clear hk); (try clear hi)))
                      go_roundg kj1
                      case measure => have := HK1.out; have := HJ1.out; omega
                      case rel => exact ⟨((x3_1 ++ (⟨#[44]⟩ : ByteArray)) ++ t111), (wrap64 (x4_1 + 1)), (by first | rfl | (simp; done) | (simp [*]; done)), (by first | rfl | (simp; done) | (simp [*]; done)), H', ⟨by have := HK1.out; have := HJ1.out; omega⟩, ⟨by repeat (first | (with_reducible first | exact HB.out | apply below_alloc | apply pw_below_drewN | apply below_drew1) | exact HB.out)⟩⟩
                    · rw [if_neg c10] at H
                      exact absurd H (by simp)
                  · rw [if_neg c8] at H
                    exact absurd H (by simp)
                · rw [if_neg c7] at H
                  exact absurd H (by simp)
              · rw [if_neg c6] at H
                exact absurd H (by simp)
            · rw [if_neg c5] at H
              have c5b0 : decide (0 < x4_1) = false := decide_eq_false c5
              clear c5
              by_cases c12 : 0 ≤ x4_1
              · rw [if_pos c12] at H
                have c12b0 : decide (0 ≤ x4_1) = true := decide_eq_true c12
                clear c12
                by_cases c13 : x4_1 < (l0.length : Int)
                · rw [if_pos c13] at H
                  have c13b0 : decide (x4_1 < (l0.length : Int)) = true := decide_eq_true c13
                  clear c13
                  replace H := Option.bind_eq_some_iff.mp H
                  obtain ⟨t113, A140, H⟩ := H
                  replace H : (if x3_1.size + t113.size ≤ 9223372036854775807 then (billetlaw04_Selector.l0 kj1 l0 (x3_1 ++ t113) (wrap64 (x4_1 + 1))) else (none)) = some r := H
                  have A14 := Aside0.mk A140
                  clear A140
                  by_cases c15 : x3_1.size + t113.size ≤ 9223372036854775807
                  · rw [if_pos c15] at H
                    have c15b0 := eq_true c15
                    have c15b1 : decide (x3_1.size + t113.size ≤ 9223372036854775807) = true := decide_eq_true c15
                    try have c15b2 : (9223372036854775807 < x3_1.size + t113.size) = False := eq_false (Nat.not_lt.2 c15)
                    have H' := Aside0.mk H
                    clear H
                    have p112 : 0 ≤ (x4_1 : Int) := of_decide_eq_true (by first | (with_reducible assumption) | assumption)
                    have q112 : x4_1 < (l0.length : Int) := of_decide_eq_true (by first | (with_reducible assumption) | assumption)
                    obtain ⟨ad112, e112, hx112_0⟩ := Kd.at_int HR0.out x4_1 p112 q112
                    cases e112
                    replace hx112_0 := (HB.out.cell (World.block_lt_of_cell? w _ hx112_0)).trans hx112_0
                    replace p112 := eq_true p112
                    replace q112 := eq_true q112
                    go_wp2_with (first | ((with_reducible refine gate_callee (f := 10) rfl ?_); refine goesL_ (some 24) rfl rfl Tryz.func10 (by kernel_rfl) rfl #[.int .i64 (rd l0 x4_1)] rfl (by (try simp only [List.map_toArray, List.map_cons, List.map_nil]); first | done | rfl | (simp only [List.length_drop, List.length_take]; rfl)) ?_; (with_reducible refine (billetlaw04_Term.calls (rd l0 x4_1) t113 _ A14.out).mono ?_); rintro e w16 ⟨rfl, hb⟩; refine ⟨_, rfl, ?_⟩; have n0_ := Aside0.mk (below_step (by repeat (first | (with_reducible first | exact HB.out | apply below_alloc | apply pw_below_drewN | apply below_drew1) | exact HB.out)) hb); clear HB; have HB := n0_; clear n0_; (try clear hb); (try clear hb2); (try clear hk); (try clear hi)))
                    go_roundg kj1
                    case measure => have := HK1.out; have := HJ1.out; omega
                    case rel => exact ⟨(x3_1 ++ t113), (wrap64 (x4_1 + 1)), (by first | rfl | (simp; done) | (simp [*]; done)), (by first | rfl | (simp; done) | (simp [*]; done)), H', ⟨by have := HK1.out; have := HJ1.out; omega⟩, ⟨by repeat (first | (with_reducible first | exact HB.out | apply below_alloc | apply pw_below_drewN | apply below_drew1) | exact HB.out)⟩⟩
                  · rw [if_neg c15] at H
                    exact absurd H (by simp)
                · rw [if_neg c13] at H
                  exact absurd H (by simp)
              · rw [if_neg c12] at H
                exact absurd H (by simp)
          · replace c4 := Bool.eq_false_iff.mpr c4
            subst c4
            have H1 : (some x3_1) = some r := by rw [if_neg (show ¬ (false = true) by decide)] at H; exact H
            clear H
            have H := H1
            clear H1
            obtain rfl := Option.some.inj H
            go_wp2
            go_ret
            exact ⟨by first | rfl | (simp [errW_none, errW_some] <;> rfl) | (simp [*, errW_none, errW_some] <;> rfl), by repeat (first | (with_reducible first | exact HB.out | apply below_alloc | apply pw_below_drewN | apply below_drew1) | exact HB.out)⟩

-- NOT PRINTED: function 94 (utf8_decodeRuneInStringSlow)

-- NOT PRINTED: function 74 (utf8_DecodeRuneInString)

-- NOT PRINTED: function 90 (utf8_RuneCountInString)

-- NOT PRINTED: function 65 (strings_explode)

-- NOT PRINTED: function 92 (bytealg_IndexByteString)

-- NOT PRINTED: function 69 (stringslite_IndexByte)

-- NOT PRINTED: function 70 (bytealg_IndexString)

/-! ### bytealg_Cutover: function 71 -/
def bytealg_Cutover.f (a0 : Int) : Option (Int) := some (wrap64 (Int.tdiv (wrap64 (a0 + 16)) 8))
set_option maxHeartbeats 8000000 in
set_option maxRecDepth 100000 in
theorem bytealg_Cutover.calls (a0 : Int) (r : Int) (w : World) (h : bytealg_Cutover.f a0 = some r) :
    Calls Tryz.prog 71 #[.int .i64 a0] w fun e w' => e = .returned (.int .i64 r) ∧ Drawn0 w w' := by
  have H : (some (wrap64 (Int.tdiv (wrap64 (a0 + 16)) 8))) = some r := h
  clear h
  obtain rfl := Option.some.inj H
  go_enter Tryz.func71, Tryz.ntmps71
  go_wp2
  go_ret
  exact ⟨by first | rfl | (simp; done) | (simp [*]; done), by repeat (first | exact Drawn0.refl _ | apply Drawn0.step)⟩

/-! ### bytealg_hashStr_string: function 93 -/
mutual
def bytealg_hashStr_string.l0 : Nat → ByteArray → Int → Int → Option (Int × Int)
  | 0, _, _, _ => none
  | k + 1, x0, x4, x5 => if x5 < (x0.size : Int) then (if 0 ≤ x5 then (bytealg_hashStr_string.l0 k x0 ((((x4 * 16777619) % 4294967296) + ((bt x0 x5) % 4294967296)) % 4294967296) (wrap64 (x5 + 1))) else (none)) else (bytealg_hashStr_string.l1 k x4 1 16777619 (x0.size : Int))
def bytealg_hashStr_string.l1 : Nat → Int → Int → Int → Int → Option (Int × Int)
  | 0, _, _, _, _ => none
  | k + 1, x4, x6, x7, x8 => if x8 > 0 then (if (Go.bits .and .i64 x8 1) = 0 then (bytealg_hashStr_string.l1 k x4 x6 ((x7 * x7) % 4294967296) (x8 / 2)) else (bytealg_hashStr_string.l1 k x4 ((x6 * x7) % 4294967296) ((x7 * x7) % 4294967296) (x8 / 2))) else (some (x4, x6))
end
def bytealg_hashStr_string.f (k : Nat) (a0 : ByteArray) : Option (Int × Int) := bytealg_hashStr_string.l0 k a0 0 0
theorem bytealg_hashStr_string.mono_l : ∀ k, (∀ y0 y1 y2, LeO (bytealg_hashStr_string.l0 k y0 y1 y2) (bytealg_hashStr_string.l0 (k + 1) y0 y1 y2)) ∧ (∀ y0 y1 y2 y3, LeO (bytealg_hashStr_string.l1 k y0 y1 y2 y3) (bytealg_hashStr_string.l1 (k + 1) y0 y1 y2 y3))
  | 0 => ⟨fun _ _ _ r h => by simp [bytealg_hashStr_string.l0] at h, fun _ _ _ _ r h => by simp [bytealg_hashStr_string.l1] at h⟩
  | k + 1 => by
    obtain ⟨ih0, ih1⟩ := bytealg_hashStr_string.mono_l k
    refine ⟨?_, ?_⟩
    · intro y0 y1 y2
      unfold bytealg_hashStr_string.l0
      repeat' first
      | (with_reducible exact ih0 _ _ _)
      | (with_reducible exact ih1 _ _ _ _)
      | (with_reducible exact LeO.refl _)
      | (with_reducible exact LeO.none _)
      | (with_reducible refine LeO.ite ?_ ?_)
      | (with_reducible refine LeO.bind ?_ (fun _ => ?_))
      | exact ih0 _ _ _
      | exact ih1 _ _ _ _
      | exact LeO.none _
      | refine LeO.ite ?_ ?_
      | refine LeO.bind ?_ (fun _ => ?_)
    · intro y0 y1 y2 y3
      unfold bytealg_hashStr_string.l1
      repeat' first
      | (with_reducible exact ih0 _ _ _)
      | (with_reducible exact ih1 _ _ _ _)
      | (with_reducible exact LeO.refl _)
      | (with_reducible exact LeO.none _)
      | (with_reducible refine LeO.ite ?_ ?_)
      | (with_reducible refine LeO.bind ?_ (fun _ => ?_))
      | exact ih0 _ _ _
      | exact ih1 _ _ _ _
      | exact LeO.none _
      | refine LeO.ite ?_ ?_
      | refine LeO.bind ?_ (fun _ => ?_)
theorem bytealg_hashStr_string.mono : ∀ a0 k, LeO (bytealg_hashStr_string.f k a0) (bytealg_hashStr_string.f (k + 1) a0) := by
  intro a0 k
  obtain ⟨ih0, ih1⟩ := bytealg_hashStr_string.mono_l k
  unfold bytealg_hashStr_string.f
  repeat' first
      | (with_reducible exact ih0 _ _ _)
      | (with_reducible exact ih1 _ _ _ _)
      | (with_reducible exact LeO.refl _)
      | (with_reducible exact LeO.none _)
      | (with_reducible refine LeO.ite ?_ ?_)
      | (with_reducible refine LeO.bind ?_ (fun _ => ?_))
      | exact ih0 _ _ _
      | exact ih1 _ _ _ _
      | exact LeO.none _
      | refine LeO.ite ?_ ?_
      | refine LeO.bind ?_ (fun _ => ?_)
set_option maxHeartbeats 8000000 in
set_option maxRecDepth 100000 in
theorem bytealg_hashStr_string.calls (k : Nat) (a0 : ByteArray) (r1 : Int) (r2 : Int) (w : World) (h : bytealg_hashStr_string.f k a0 = some (r1, r2)) :
    Calls Tryz.prog 93 #[.string a0] w fun e w' => e = .returned (.tuple #[.int .u32 r1, .int .u32 r2]) ∧ Drawn0 w w' := by
  have H : (bytealg_hashStr_string.l0 k a0 0 0) = some (r1, r2) := h
  clear h
  have H' := Aside0.mk H
  clear H
  go_enter Tryz.func93, Tryz.ntmps93
  go_wp2
  go_loopg [4, 5] k (fun kq v4 v5 w' => ∃ (x4_1 : Int) (x5_1 : Int), v4 = .int .u32 x4_1 ∧ v5 = .int .i64 x5_1 ∧ Aside0 (bytealg_hashStr_string.l0 kq a0 x4_1 x5_1 = some (r1, r2)) ∧ Aside0 (kq ≤ k) ∧ Drawn0 w w')
  case atStart => exact ⟨(0), (0), (by first | rfl | (simp; done) | (simp [*]; done)), (by first | rfl | (simp; done) | (simp [*]; done)), H', ⟨Nat.le_refl _⟩, by repeat (first | exact Drawn0.refl _ | apply Drawn0.step)⟩
  case round =>
    clear H'
    obtain ⟨x4_1, x5_1, rfl, rfl, HA, HK1, ⟨m1, rfl⟩⟩ := hrel
    cases gk with
    | zero => exact absurd HA.out (by simp [bytealg_hashStr_string.l0])
    | succ k1 =>
      have H := HA.out
      clear HA
      simp only [bytealg_hashStr_string.l0] at H
      by_cases c2 : x5_1 < (a0.size : Int)
      · rw [if_pos c2] at H
        have c2b0 : decide (x5_1 < (a0.size : Int)) = true := decide_eq_true c2
        clear c2
        by_cases c3 : 0 ≤ x5_1
        · rw [if_pos c3] at H
          have c3b0 : decide (0 ≤ x5_1) = true := decide_eq_true c3
          clear c3
          have H' := Aside0.mk H
          clear H
          have p4 : 0 ≤ (x5_1 : Int) := of_decide_eq_true (by first | (with_reducible assumption) | assumption)
          have q4 : x5_1 < (a0.size : Int) := of_decide_eq_true (by first | (with_reducible assumption) | assumption)
          have hx4 := bt_at a0 x5_1
          replace p4 := eq_true p4
          replace q4 := eq_true q4
          go_wp2
          go_roundg k1
          case measure => have := HK1.out; omega
          case rel => exact ⟨((((x4_1 * 16777619) % 4294967296) + ((bt a0 x5_1) % 4294967296)) % 4294967296), (wrap64 (x5_1 + 1)), (by first | rfl | (simp; done) | (simp [*]; done)), (by first | rfl | (simp; done) | (simp [*]; done)), H', ⟨by have := HK1.out; omega⟩, by repeat (first | exact Drawn0.refl _ | apply Drawn0.step)⟩
        · rw [if_neg c3] at H
          exact absurd H (by simp)
      · rw [if_neg c2] at H
        have c2b0 : decide (x5_1 < (a0.size : Int)) = false := decide_eq_false c2
        clear c2
        have H' := Aside0.mk H
        clear H
        go_wp2
        go_loopg [6, 7, 8] k1 (fun kq v6 v7 v8 w' => ∃ (x6_2 : Int) (x7_2 : Int) (x8_2 : Int), v6 = .int .u32 x6_2 ∧ v7 = .int .u32 x7_2 ∧ v8 = .int .i64 x8_2 ∧ Aside0 (bytealg_hashStr_string.l1 kq x4_1 x6_2 x7_2 x8_2 = some (r1, r2)) ∧ Aside0 (kq ≤ k1) ∧ Drawn0 w w')
        case atStart => exact ⟨(1), (16777619), ((a0.size : Int)), (by first | rfl | (simp; done) | (simp [*]; done)), (by first | rfl | (simp; done) | (simp [*]; done)), (by first | rfl | (simp; done) | (simp [*]; done)), H', ⟨Nat.le_refl _⟩, by repeat (first | exact Drawn0.refl _ | apply Drawn0.step)⟩
        case round =>
          clear H'
          try clear c2
          try clear c2b0
          try clear p2
          try clear c3
          try clear c3b0
          try clear p4
          try clear q4
          try clear hx4
          try clear p4
          try clear q4
          obtain ⟨x6_2, x7_2, x8_2, rfl, rfl, rfl, HA, HK2, ⟨m2, rfl⟩⟩ := hrel
          cases gk with
          | zero => exact absurd HA.out (by simp [bytealg_hashStr_string.l1])
          | succ k2 =>
            have H := HA.out
            clear HA
            simp only [bytealg_hashStr_string.l1] at H
            by_cases c5 : x8_2 > 0
            · rw [if_pos c5] at H
              have c5b0 : decide (0 < x8_2) = true := decide_eq_true c5
              clear c5
              by_cases c6 : (Go.bits .and .i64 x8_2 1) = 0
              · rw [if_pos c6] at H
                have c6b0 : ((Go.bits .and .i64 x8_2 1) == 0) = true := beq_iff_eq.mpr c6
                have c6b1 : ((Go.bits .and .i64 x8_2 1) != 0) = false := bne_eq_false_iff_eq.mpr c6
                clear c6
                have H' := Aside0.mk H
                clear H
                go_wp2
                go_roundg k2
                case measure => have := HK1.out; have := HK2.out; omega
                case rel => exact ⟨(x6_2), ((x7_2 * x7_2) % 4294967296), (x8_2 / 2), (by first | rfl | (simp; done) | (simp [*]; done)), (by first | rfl | (simp; done) | (simp [*]; done)), (by first | rfl | (simp; done) | (simp [*]; done)), H', ⟨by have := HK1.out; have := HK2.out; omega⟩, by repeat (first | exact Drawn0.refl _ | apply Drawn0.step)⟩
              · rw [if_neg c6] at H
                have c6b0 : ((Go.bits .and .i64 x8_2 1) == 0) = false := beq_eq_false_iff_ne.mpr c6
                have c6b1 : ((Go.bits .and .i64 x8_2 1) != 0) = true := bne_iff_ne.mpr c6
                have H' := Aside0.mk H
                clear H
                go_wp2
                go_roundg k2
                case measure => have := HK1.out; have := HK2.out; omega
                case rel => exact ⟨((x6_2 * x7_2) % 4294967296), ((x7_2 * x7_2) % 4294967296), (x8_2 / 2), (by first | rfl | (simp; done) | (simp [*]; done)), (by first | rfl | (simp; done) | (simp [*]; done)), (by first | rfl | (simp; done) | (simp [*]; done)), H', ⟨by have := HK1.out; have := HK2.out; omega⟩, by repeat (first | exact Drawn0.refl _ | apply Drawn0.step)⟩
            · rw [if_neg c5] at H
              have c5b0 : decide (0 < x8_2) = false := decide_eq_false c5
              clear c5
              simp only [Option.some.injEq, Prod.mk.injEq] at H
              obtain ⟨rfl, rfl⟩ := H
              go_wp2
              go_ret2
              exact ⟨by first | rfl | (simp; done) | (simp [*]; done), by repeat (first | exact Drawn0.refl _ | apply Drawn0.step)⟩

end Go.Proofs.YtfafdcdmaimghaaGreatDoor.PR

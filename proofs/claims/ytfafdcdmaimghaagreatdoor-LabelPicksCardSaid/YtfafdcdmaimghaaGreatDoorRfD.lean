/- Functions of the statements' own, as the kit's print tells them, and that the code computes them. -/
import Derived.Test.YtfafdcdmaimghaaGreatDoorRfO
import Derived.Test.YtfafdcdmaimghaaGreatDoorRfA
import Derived.Test.YtfafdcdmaimghaaGreatDoorRfB
import Derived.Test.YtfafdcdmaimghaaGreatDoorRfC
namespace Go.Proofs.YtfafdcdmaimghaaGreatDoor.PR
open Go.RowKit Go.Proofs.YtfafdcdmaimghaaGreatDoorW.PrintWords Go.Proofs.YtfafdcdmaimghaaGreatDoorW.PrintLast Go.Proofs.YtfafdcdmaimghaaGreatDoorW.PrintMore
attribute [local go_sem] max2_int min2_int max_two min_two max_three min_three max_four min_four   -- for this text's walks alone
set_option linter.unusedVariables false
set_option linter.unusedSimpArgs false

/-! ### billetref04_Match: function 20 -/
mutual
def billetref04_Match.j0 : Nat → ByteArray → ByteArray → Bool → Option (Bool × Int)
  | 0, _, _, _ => none
  | k + 1, x0, x1, x27 => if x27 = true then (some (false, 40)) else (if x0.toList = ([] : List UInt8) then (some (true, 0)) else ((billetref04_split.f k x0).bind fun t309 => (billetref04_Match.l0 k x1 t309 0)))
def billetref04_Match.l0 : Nat → ByteArray → List ByteArray → Int → Option (Bool × Int)
  | 0, _, _, _ => none
  | k + 1, x1, x8, x9 => if x9 < (x8.length : Int) then (if 0 ≤ x9 then ((billetref04_term.f k (rdOf ByteArray.empty x8 x9)).bind fun bt313 => ((billetref04_Value.f k x1 bt313.1).bind fun bt318 => (if bt318.2 = true then (if bt313.2.2.1 = true then (if ((bt318.1.toList == bt313.2.1.toList) == bt313.2.2.2.1) = true then (some (false, 0)) else (billetref04_Match.l0 k x1 x8 (wrap64 (x9 + 1)))) else (if (true == bt313.2.2.2.1) = true then (some (false, 0)) else (billetref04_Match.l0 k x1 x8 (wrap64 (x9 + 1))))) else (if (false == bt313.2.2.2.1) = true then (some (false, 0)) else (billetref04_Match.l0 k x1 x8 (wrap64 (x9 + 1))))))) else (none)) else (some (true, 0))
end
def billetref04_Match.f (k : Nat) (a0 : ByteArray) (a1 : ByteArray) : Option (Bool × Int) := (billetref04_IsSelector.f k a0).bind fun t307 => ((billetref04_IsLabels.f k a1).bind fun t308 => (if t307 = true then (billetref04_Match.j0 k a0 a1 (!t308)) else (billetref04_Match.j0 k a0 a1 true)))
theorem billetref04_Match.mono_l : ∀ k, (∀ y0 y1 y2, LeO (billetref04_Match.j0 k y0 y1 y2) (billetref04_Match.j0 (k + 1) y0 y1 y2)) ∧ (∀ y0 y1 y2, LeO (billetref04_Match.l0 k y0 y1 y2) (billetref04_Match.l0 (k + 1) y0 y1 y2))
  | 0 => ⟨fun _ _ _ r h => by simp [billetref04_Match.j0] at h, fun _ _ _ r h => by simp [billetref04_Match.l0] at h⟩
  | k + 1 => by
    obtain ⟨ih0, ih1⟩ := billetref04_Match.mono_l k
    refine ⟨?_, ?_⟩
    · intro y0 y1 y2
      unfold billetref04_Match.j0
      repeat' first
      | (with_reducible exact ih0 _ _ _)
      | (with_reducible exact ih1 _ _ _)
      | (with_reducible exact billetref04_IsLabels.mono _ _)
      | (with_reducible exact billetref04_IsSelector.mono _ _)
      | (with_reducible exact billetref04_Value.mono _ _ _)
      | (with_reducible exact billetref04_split.mono _ _)
      | (with_reducible exact billetref04_term.mono _ _)
      | (with_reducible exact LeO.refl _)
      | (with_reducible exact LeO.none _)
      | (with_reducible refine LeO.ite ?_ ?_)
      | (with_reducible refine LeO.bind ?_ (fun _ => ?_))
      | exact ih0 _ _ _
      | exact ih1 _ _ _
      | exact billetref04_IsLabels.mono _ _
      | exact billetref04_IsSelector.mono _ _
      | exact billetref04_Value.mono _ _ _
      | exact billetref04_split.mono _ _
      | exact billetref04_term.mono _ _
      | exact LeO.none _
      | refine LeO.ite ?_ ?_
      | refine LeO.bind ?_ (fun _ => ?_)
    · intro y0 y1 y2
      unfold billetref04_Match.l0
      repeat' first
      | (with_reducible exact ih0 _ _ _)
      | (with_reducible exact ih1 _ _ _)
      | (with_reducible exact billetref04_IsLabels.mono _ _)
      | (with_reducible exact billetref04_IsSelector.mono _ _)
      | (with_reducible exact billetref04_Value.mono _ _ _)
      | (with_reducible exact billetref04_split.mono _ _)
      | (with_reducible exact billetref04_term.mono _ _)
      | (with_reducible exact LeO.refl _)
      | (with_reducible exact LeO.none _)
      | (with_reducible refine LeO.ite ?_ ?_)
      | (with_reducible refine LeO.bind ?_ (fun _ => ?_))
      | exact ih0 _ _ _
      | exact ih1 _ _ _
      | exact billetref04_IsLabels.mono _ _
      | exact billetref04_IsSelector.mono _ _
      | exact billetref04_Value.mono _ _ _
      | exact billetref04_split.mono _ _
      | exact billetref04_term.mono _ _
      | exact LeO.none _
      | refine LeO.ite ?_ ?_
      | refine LeO.bind ?_ (fun _ => ?_)
theorem billetref04_Match.mono : ∀ a0 a1 k, LeO (billetref04_Match.f k a0 a1) (billetref04_Match.f (k + 1) a0 a1) := by
  intro a0 a1 k
  obtain ⟨ih0, ih1⟩ := billetref04_Match.mono_l k
  unfold billetref04_Match.f
  repeat' first
      | (with_reducible exact ih0 _ _ _)
      | (with_reducible exact ih1 _ _ _)
      | (with_reducible exact billetref04_IsLabels.mono _ _)
      | (with_reducible exact billetref04_IsSelector.mono _ _)
      | (with_reducible exact billetref04_Value.mono _ _ _)
      | (with_reducible exact billetref04_split.mono _ _)
      | (with_reducible exact billetref04_term.mono _ _)
      | (with_reducible exact LeO.refl _)
      | (with_reducible exact LeO.none _)
      | (with_reducible refine LeO.ite ?_ ?_)
      | (with_reducible refine LeO.bind ?_ (fun _ => ?_))
      | exact ih0 _ _ _
      | exact ih1 _ _ _
      | exact billetref04_IsLabels.mono _ _
      | exact billetref04_IsSelector.mono _ _
      | exact billetref04_Value.mono _ _ _
      | exact billetref04_split.mono _ _
      | exact billetref04_term.mono _ _
      | exact LeO.none _
      | refine LeO.ite ?_ ?_
      | refine LeO.bind ?_ (fun _ => ?_)
set_option maxHeartbeats 8000000 in
set_option maxRecDepth 100000 in
theorem billetref04_Match.calls (k : Nat) (a0 : ByteArray) (a1 : ByteArray) (r1 : Bool) (r2 : Int) (w : World) (h : billetref04_Match.f k a0 a1 = some (r1, r2)) :
    Calls Tryz.prog 20 #[.string a0, .string a1] w fun e w' => e = .returned (.tuple #[.bool r1, .int .i64 r2]) ∧ Below w.heap.size w w' := by
  have HB := Aside0.mk (Below.refl w.heap.size w)
  have H : ((billetref04_IsSelector.f k a0).bind fun t307 => ((billetref04_IsLabels.f k a1).bind fun t308 => (if t307 = true then (billetref04_Match.j0 k a0 a1 (!t308)) else (billetref04_Match.j0 k a0 a1 true)))) = some (r1, r2) := h
  clear h
  replace H := Option.bind_eq_some_iff.mp H
  obtain ⟨t307, A30, H⟩ := H
  replace H : ((billetref04_IsLabels.f k a1).bind fun t308 => (if t307 = true then (billetref04_Match.j0 k a0 a1 (!t308)) else (billetref04_Match.j0 k a0 a1 true))) = some (r1, r2) := H
  have A3 := Aside0.mk A30
  clear A30
  replace H := Option.bind_eq_some_iff.mp H
  obtain ⟨t308, A40, H⟩ := H
  replace H : (if t307 = true then (billetref04_Match.j0 k a0 a1 (!t308)) else (billetref04_Match.j0 k a0 a1 true)) = some (r1, r2) := H
  have A4 := Aside0.mk A40
  clear A40
  have HC5 := Aside0.mk H
  clear H
  go_enter Tryz.func20, Tryz.ntmps20
  go_upto_region 3 with (first | ((with_reducible refine gate_callee (f := 29) rfl ?_); refine goesL_ (some 19) rfl rfl Tryz.func29 (by kernel_rfl) rfl #[.string a0] rfl (by (try simp only [List.map_toArray, List.map_cons, List.map_nil]); first | done | rfl | (simp only [List.length_drop, List.length_take]; rfl)) ?_; (with_reducible refine (billetref04_IsSelector.calls k a0 t307 _ A3.out).mono ?_); rintro e w6 ⟨rfl, hb⟩; refine ⟨_, rfl, ?_⟩; have n0_ := Aside0.mk (below_step (by repeat (first | (with_reducible first | exact HB.out | apply below_alloc | apply pw_below_drewN | apply below_drew1) | exact HB.out)) hb); clear HB; have HB := n0_; clear n0_; (try clear hb); (try clear hb2); (try clear hk); (try clear hi)) | ((with_reducible refine gate_callee (f := 28) rfl ?_); refine goesL_ (some 21) rfl rfl Tryz.func28 (by kernel_rfl) rfl #[.string a1] rfl (by (try simp only [List.map_toArray, List.map_cons, List.map_nil]); first | done | rfl | (simp only [List.length_drop, List.length_take]; rfl)) ?_; (with_reducible refine (billetref04_IsLabels.calls k a1 t308 _ A4.out).mono ?_); rintro e w7 ⟨rfl, hb⟩; refine ⟨_, rfl, ?_⟩; have n0_ := Aside0.mk (below_step (by repeat (first | (with_reducible first | exact HB.out | apply below_alloc | apply pw_below_drewN | apply below_drew1) | exact HB.out)) hb); clear HB; have HB := n0_; clear n0_; (try clear hb); (try clear hb2); (try clear hk); (try clear hi)))
  (try simp only [Act.put, List.setIfInBounds_toArray, List.set_cons_zero, List.set_cons_succ])
  go_cut [27] (fun v27 wc => ∃ (kq : Nat) (x27_4 : Bool), v27 = .bool x27_4 ∧ Aside0 (billetref04_Match.j0 kq a0 a1 x27_4 = some (r1, r2)) ∧ Aside0 (kq ≤ k) ∧ Aside0 (Below w.heap.size w wc))
  case first =>
    have H := HC5.out
    clear HC5
    by_cases c8 : t307 = true
    · subst c8
      have H1 : (billetref04_Match.j0 k a0 a1 (!t308)) = some (r1, r2) := by rw [if_pos rfl] at H; exact H
      clear H
      have H := H1
      clear H1
      have H' := Aside0.mk H
      clear H
      go_wp2
      go_meet
      case rel => exact ⟨_, (!t308), (by first | rfl | (simp; done) | (simp [*]; done)), H', ⟨by first | omega | exact Nat.le_refl _⟩, ⟨by repeat (first | (with_reducible first | exact HB.out | apply below_alloc | apply pw_below_drewN | apply below_drew1) | exact HB.out)⟩⟩
    · replace c8 := Bool.eq_false_iff.mpr c8
      subst c8
      have H1 : (billetref04_Match.j0 k a0 a1 true) = some (r1, r2) := by rw [if_neg (show ¬ (false = true) by decide)] at H; exact H
      clear H
      have H := H1
      clear H1
      have H' := Aside0.mk H
      clear H
      go_wp2
      go_meet
      case rel => exact ⟨_, (true), (by first | rfl | (simp; done) | (simp [*]; done)), H', ⟨by first | omega | exact Nat.le_refl _⟩, ⟨by repeat (first | (with_reducible first | exact HB.out | apply below_alloc | apply pw_below_drewN | apply below_drew1) | exact HB.out)⟩⟩
  case rest =>
    clear HC5
    try clear c2
    try clear p2
    try clear c8
    obtain ⟨kq, x27_4, rfl, HA, HJ4, HB⟩ := hcut
    cases kq with
    | zero => exact absurd HA.out (by simp [billetref04_Match.j0])
    | succ kj4 =>
      have H := HA.out
      clear HA
      simp only [billetref04_Match.j0] at H
      by_cases c9 : x27_4 = true
      · subst c9
        have H1 : (some (false, 40)) = some (r1, r2) := by rw [if_pos rfl] at H; exact H
        clear H
        have H := H1
        clear H1
        simp only [Option.some.injEq, Prod.mk.injEq] at H
        obtain ⟨rfl, rfl⟩ := H
        go_wp2
        go_ret2
        exact ⟨by first | rfl | (simp [errW_none, errW_some] <;> rfl) | (simp [*, errW_none, errW_some] <;> rfl), by repeat (first | (with_reducible first | exact HB.out | apply below_alloc | apply pw_below_drewN | apply below_drew1) | exact HB.out)⟩
      · replace c9 := Bool.eq_false_iff.mpr c9
        subst c9
        have H1 : (if a0.toList = ([] : List UInt8) then (some (true, 0)) else ((billetref04_split.f kj4 a0).bind fun t309 => (billetref04_Match.l0 kj4 a1 t309 0))) = some (r1, r2) := by rw [if_neg (show ¬ (false = true) by decide)] at H; exact H
        clear H
        have H := H1
        clear H1
        by_cases c10 : a0.toList = ([] : List UInt8)
        · rw [if_pos c10] at H
          have c10b0 : (a0.toList == ([] : List UInt8)) = true := beq_iff_eq.mpr c10
          have c10b1 : (a0.toList != ([] : List UInt8)) = false := bne_eq_false_iff_eq.mpr c10
          clear c10
          simp only [Option.some.injEq, Prod.mk.injEq] at H
          obtain ⟨rfl, rfl⟩ := H
          go_wp2
          go_ret2
          exact ⟨by first | rfl | (simp [errW_none, errW_some] <;> rfl) | (simp [*, errW_none, errW_some] <;> rfl), by repeat (first | (with_reducible first | exact HB.out | apply below_alloc | apply pw_below_drewN | apply below_drew1) | exact HB.out)⟩
        · rw [if_neg c10] at H
          have c10b0 : (a0.toList == ([] : List UInt8)) = false := beq_eq_false_iff_ne.mpr c10
          have c10b1 : (a0.toList != ([] : List UInt8)) = true := bne_iff_ne.mpr c10
          replace H := Option.bind_eq_some_iff.mp H
          obtain ⟨t309, A110, H⟩ := H
          replace H : (billetref04_Match.l0 kj4 a1 t309 0) = some (r1, r2) := H
          have A11 := Aside0.mk A110
          clear A110
          have H' := Aside0.mk H
          clear H
          go_wp2_with (first | ((with_reducible refine gate_callee (f := 38) rfl ?_); refine goesL_ (some 31) rfl rfl Tryz.func38 (by kernel_rfl) rfl #[.string a0] rfl (by (try simp only [List.map_toArray, List.map_cons, List.map_nil]); first | done | rfl | (simp only [List.length_drop, List.length_take]; rfl)) ?_; (with_reducible refine (billetref04_split.calls kj4 a0 t309 _ A11.out).mono ?_); rintro e w12 ⟨v310, rfl, ho0, hb⟩; refine ⟨_, rfl, ?_⟩; have n0_ := Aside0.mk (Kd.R_lower ho0 (below_size (by repeat (first | (with_reducible first | exact HB.out | apply below_alloc | apply pw_below_drewN | apply below_drew1) | exact HB.out)))); have n1_ := Aside0.mk (below_step (by repeat (first | (with_reducible first | exact HB.out | apply below_alloc | apply pw_below_drewN | apply below_drew1) | exact HB.out)) hb); clear HB; have HO311 := n0_; have HB := n1_; clear n0_ n1_; (try clear hb); (try clear hb2); (try clear hk); (try clear hi); (try clear ho0)))
          go_loopg [9] kj4 (fun kq v9 w' => ∃ (x9_2 : Int), v9 = .int .i64 x9_2 ∧ Aside0 (billetref04_Match.l0 kq a1 t309 x9_2 = some (r1, r2)) ∧ Aside0 (kq ≤ kj4) ∧ Aside0 (Kd.R Kd.string 9 w' w.heap.size (fun _ => True) v310 t309) ∧ Aside0 (Below w.heap.size w w'))
          case atStart => exact ⟨(0), (by first | rfl | (simp; done) | (simp [*]; done)), H', ⟨Nat.le_refl _⟩, ⟨by (with_reducible repeat (first | apply Kd.R_alloc | apply Kd.R_drewN | apply Kd.R_drew)); exact HO311.out⟩, ⟨by repeat (first | (with_reducible first | exact HB.out | apply below_alloc | apply pw_below_drewN | apply below_drew1) | exact HB.out)⟩⟩
          case round =>
            clear H'
            try clear c1
            try clear c2
            try clear p2
            try clear c3
            try clear c8
            try clear c9
            try clear c10
            try clear c10b0
            try clear c10b1
            try clear p2
            obtain ⟨x9_2, rfl, HA, HK2, HO_8, HB⟩ := hrel
            cases gk with
            | zero => exact absurd HA.out (by simp [billetref04_Match.l0])
            | succ k2 =>
              have H := HA.out
              clear HA
              simp only [billetref04_Match.l0] at H
              by_cases c13 : x9_2 < (t309.length : Int)
              · rw [if_pos c13] at H
                have c13b0 : decide (x9_2 < (t309.length : Int)) = true := decide_eq_true c13
                clear c13
                by_cases c14 : 0 ≤ x9_2
                · rw [if_pos c14] at H
                  have c14b0 : decide (0 ≤ x9_2) = true := decide_eq_true c14
                  clear c14
                  replace H := Option.bind_eq_some_iff.mp H
                  obtain ⟨⟨t313, t314, t315, t316, t317⟩, A150, H⟩ := H
                  replace H : ((billetref04_Value.f k2 a1 t313).bind fun bt318 => (if bt318.2 = true then (if t315 = true then (if ((bt318.1.toList == t314.toList) == t316) = true then (some (false, 0)) else (billetref04_Match.l0 k2 a1 t309 (wrap64 (x9_2 + 1)))) else (if (true == t316) = true then (some (false, 0)) else (billetref04_Match.l0 k2 a1 t309 (wrap64 (x9_2 + 1))))) else (if (false == t316) = true then (some (false, 0)) else (billetref04_Match.l0 k2 a1 t309 (wrap64 (x9_2 + 1)))))) = some (r1, r2) := H
                  have A15 := Aside0.mk A150
                  clear A150
                  replace H := Option.bind_eq_some_iff.mp H
                  obtain ⟨⟨t318, t319⟩, A160, H⟩ := H
                  replace H : (if t319 = true then (if t315 = true then (if ((t318.toList == t314.toList) == t316) = true then (some (false, 0)) else (billetref04_Match.l0 k2 a1 t309 (wrap64 (x9_2 + 1)))) else (if (true == t316) = true then (some (false, 0)) else (billetref04_Match.l0 k2 a1 t309 (wrap64 (x9_2 + 1))))) else (if (false == t316) = true then (some (false, 0)) else (billetref04_Match.l0 k2 a1 t309 (wrap64 (x9_2 + 1))))) = some (r1, r2) := H
                  have A16 := Aside0.mk A160
                  clear A160
                  by_cases c17 : t319 = true
                  · subst c17
                    have H1 : (if t315 = true then (if ((t318.toList == t314.toList) == t316) = true then (some (false, 0)) else (billetref04_Match.l0 k2 a1 t309 (wrap64 (x9_2 + 1)))) else (if (true == t316) = true then (some (false, 0)) else (billetref04_Match.l0 k2 a1 t309 (wrap64 (x9_2 + 1))))) = some (r1, r2) := by rw [if_pos rfl] at H; exact H
                    clear H
                    have H := H1
                    clear H1
                    by_cases c18 : t315 = true
                    · subst c18
                      have H1 : (if ((t318.toList == t314.toList) == t316) = true then (some (false, 0)) else (billetref04_Match.l0 k2 a1 t309 (wrap64 (x9_2 + 1)))) = some (r1, r2) := by rw [if_pos rfl] at H; exact H
                      clear H
                      have H := H1
                      clear H1
                      by_cases c19 : ((t318.toList == t314.toList) == t316) = true
                      · rw [if_pos c19] at H
                        have c19b0 : ((t318.toList == t314.toList) == t316) = true := c19
                        (try (have c19b1 : decide ((t318.toList == t314.toList) = t316) = true := by simpa using c19))
                        (try (have c19b2 : ((t318.toList == t314.toList) == t316) = true := by simpa using c19))
                        clear c19
                        simp only [Option.some.injEq, Prod.mk.injEq] at H
                        obtain ⟨rfl, rfl⟩ := H
                        obtain ⟨Ao20, co20, eo20⟩ := Kd.R_slice HO_8.out
                        subst eo20
                        have p312 : 0 ≤ (x9_2 : Int) := of_decide_eq_true (by first | (with_reducible assumption) | assumption)
                        have q312 : x9_2 < (t309.length : Int) := of_decide_eq_true (by first | (with_reducible assumption) | assumption)
                        obtain ⟨ad312, e312, hx312_0⟩ := Kd.at_string (Kd.R_reads' HO_8.out).2.2 x9_2 p312 q312
                        cases e312
                        replace p312 := eq_true p312
                        replace q312 := eq_true q312
                        go_wp2_with (first | ((with_reducible refine gate_callee (f := 39) rfl ?_); refine goesL_ (some 43) rfl rfl Tryz.func39 (by kernel_rfl) rfl #[.string (rdOf ByteArray.empty t309 x9_2)] rfl (by (try simp only [List.map_toArray, List.map_cons, List.map_nil]); first | done | rfl | (simp only [List.length_drop, List.length_take]; rfl)) ?_; (with_reducible refine (billetref04_term.calls k2 (rdOf ByteArray.empty t309 x9_2) t313 t314 true t316 t317 _ A15.out).mono ?_); rintro e w' ⟨rfl, ⟨nd, rfl⟩⟩; refine ⟨_, rfl, ?_⟩) | ((with_reducible refine gate_callee (f := 26) rfl ?_); refine goesL_ (some 52) rfl rfl Tryz.func26 (by kernel_rfl) rfl #[.string a1, .string t313] rfl (by (try simp only [List.map_toArray, List.map_cons, List.map_nil]); first | done | rfl | (simp only [List.length_drop, List.length_take]; rfl)) ?_; (with_reducible refine (billetref04_Value.calls k2 a1 t313 t318 true _ A16.out).mono ?_); rintro e w21 ⟨rfl, hb⟩; refine ⟨_, rfl, ?_⟩; have n0_ := Aside0.mk (Kd.R_below (by (with_reducible repeat (first | apply Kd.R_alloc | apply Kd.R_drewN | apply Kd.R_drew)); exact HO_8.out) hb); have n1_ := Aside0.mk (below_step (by repeat (first | (with_reducible first | exact HB.out | apply below_alloc | apply pw_below_drewN | apply below_drew1) | exact HB.out)) hb); clear HO_8; clear HB; have HO_8 := n0_; have HB := n1_; clear n0_ n1_; (try clear hb); (try clear hb2); (try clear hk); (try clear hi)))
                        go_ret2
                        exact ⟨by first | rfl | (simp [errW_none, errW_some] <;> rfl) | (simp [*, errW_none, errW_some] <;> rfl), by repeat (first | (with_reducible first | exact HB.out | apply below_alloc | apply pw_below_drewN | apply below_drew1) | exact HB.out)⟩
                      · rw [if_neg c19] at H
                        have c19b0 : ((t318.toList == t314.toList) == t316) = false := by simpa using c19
                        (try (have c19b1 : decide ((t318.toList == t314.toList) = t316) = false := by simpa using c19))
                        (try (have c19b2 : ((t318.toList == t314.toList) == t316) = false := by simpa using c19))
                        (try (have c19b3 : ¬ ((t318.toList == t314.toList) = t316) := by simpa using c19))
                        clear c19
                        have H' := Aside0.mk H
                        clear H
                        obtain ⟨Ao22, co22, eo22⟩ := Kd.R_slice HO_8.out
                        subst eo22
                        have p312 : 0 ≤ (x9_2 : Int) := of_decide_eq_true (by first | (with_reducible assumption) | assumption)
                        have q312 : x9_2 < (t309.length : Int) := of_decide_eq_true (by first | (with_reducible assumption) | assumption)
                        obtain ⟨ad312, e312, hx312_0⟩ := Kd.at_string (Kd.R_reads' HO_8.out).2.2 x9_2 p312 q312
                        cases e312
                        replace p312 := eq_true p312
                        replace q312 := eq_true q312
                        go_wp2_with (first | ((with_reducible refine gate_callee (f := 39) rfl ?_); refine goesL_ (some 43) rfl rfl Tryz.func39 (by kernel_rfl) rfl #[.string (rdOf ByteArray.empty t309 x9_2)] rfl (by (try simp only [List.map_toArray, List.map_cons, List.map_nil]); first | done | rfl | (simp only [List.length_drop, List.length_take]; rfl)) ?_; (with_reducible refine (billetref04_term.calls k2 (rdOf ByteArray.empty t309 x9_2) t313 t314 true t316 t317 _ A15.out).mono ?_); rintro e w' ⟨rfl, ⟨nd, rfl⟩⟩; refine ⟨_, rfl, ?_⟩) | ((with_reducible refine gate_callee (f := 26) rfl ?_); refine goesL_ (some 52) rfl rfl Tryz.func26 (by kernel_rfl) rfl #[.string a1, .string t313] rfl (by (try simp only [List.map_toArray, List.map_cons, List.map_nil]); first | done | rfl | (simp only [List.length_drop, List.length_take]; rfl)) ?_; (with_reducible refine (billetref04_Value.calls k2 a1 t313 t318 true _ A16.out).mono ?_); rintro e w23 ⟨rfl, hb⟩; refine ⟨_, rfl, ?_⟩; have n0_ := Aside0.mk (Kd.R_below (by (with_reducible repeat (first | apply Kd.R_alloc | apply Kd.R_drewN | apply Kd.R_drew)); exact HO_8.out) hb); have n1_ := Aside0.mk (below_step (by repeat (first | (with_reducible first | exact HB.out | apply below_alloc | apply pw_below_drewN | apply below_drew1) | exact HB.out)) hb); clear HO_8; clear HB; have HO_8 := n0_; have HB := n1_; clear n0_ n1_; (try clear hb); (try clear hb2); (try clear hk); (try clear hi)))
                        go_roundg k2
                        case measure => have := HJ4.out; have := HK2.out; omega
                        case rel => exact ⟨(wrap64 (x9_2 + 1)), (by first | rfl | (simp; done) | (simp [*]; done)), H', ⟨by have := HJ4.out; have := HK2.out; omega⟩, ⟨by (with_reducible repeat (first | apply Kd.R_alloc | apply Kd.R_drewN | apply Kd.R_drew)); exact HO_8.out⟩, ⟨by repeat (first | (with_reducible first | exact HB.out | apply below_alloc | apply pw_below_drewN | apply below_drew1) | exact HB.out)⟩⟩
                    · replace c18 := Bool.eq_false_iff.mpr c18
                      subst c18
                      have H1 : (if (true == t316) = true then (some (false, 0)) else (billetref04_Match.l0 k2 a1 t309 (wrap64 (x9_2 + 1)))) = some (r1, r2) := by rw [if_neg (show ¬ (false = true) by decide)] at H; exact H
                      clear H
                      have H := H1
                      clear H1
                      by_cases c24 : (true == t316) = true
                      · rw [if_pos c24] at H
                        have c24b0 : (true == t316) = true := c24
                        (try (have c24b1 : decide (true = t316) = true := by simpa using c24))
                        (try (have c24b2 : (true == t316) = true := by simpa using c24))
                        clear c24
                        simp only [Option.some.injEq, Prod.mk.injEq] at H
                        obtain ⟨rfl, rfl⟩ := H
                        obtain ⟨Ao25, co25, eo25⟩ := Kd.R_slice HO_8.out
                        subst eo25
                        have p312 : 0 ≤ (x9_2 : Int) := of_decide_eq_true (by first | (with_reducible assumption) | assumption)
                        have q312 : x9_2 < (t309.length : Int) := of_decide_eq_true (by first | (with_reducible assumption) | assumption)
                        obtain ⟨ad312, e312, hx312_0⟩ := Kd.at_string (Kd.R_reads' HO_8.out).2.2 x9_2 p312 q312
                        cases e312
                        replace p312 := eq_true p312
                        replace q312 := eq_true q312
                        go_wp2_with (first | ((with_reducible refine gate_callee (f := 39) rfl ?_); refine goesL_ (some 43) rfl rfl Tryz.func39 (by kernel_rfl) rfl #[.string (rdOf ByteArray.empty t309 x9_2)] rfl (by (try simp only [List.map_toArray, List.map_cons, List.map_nil]); first | done | rfl | (simp only [List.length_drop, List.length_take]; rfl)) ?_; (with_reducible refine (billetref04_term.calls k2 (rdOf ByteArray.empty t309 x9_2) t313 t314 false t316 t317 _ A15.out).mono ?_); rintro e w' ⟨rfl, ⟨nd, rfl⟩⟩; refine ⟨_, rfl, ?_⟩) | ((with_reducible refine gate_callee (f := 26) rfl ?_); refine goesL_ (some 52) rfl rfl Tryz.func26 (by kernel_rfl) rfl #[.string a1, .string t313] rfl (by (try simp only [List.map_toArray, List.map_cons, List.map_nil]); first | done | rfl | (simp only [List.length_drop, List.length_take]; rfl)) ?_; (with_reducible refine (billetref04_Value.calls k2 a1 t313 t318 true _ A16.out).mono ?_); rintro e w26 ⟨rfl, hb⟩; refine ⟨_, rfl, ?_⟩; have n0_ := Aside0.mk (Kd.R_below (by (with_reducible repeat (first | apply Kd.R_alloc | apply Kd.R_drewN | apply Kd.R_drew)); exact HO_8.out) hb); have n1_ := Aside0.mk (below_step (by repeat (first | (with_reducible first | exact HB.out | apply below_alloc | apply pw_below_drewN | apply below_drew1) | exact HB.out)) hb); clear HO_8; clear HB; have HO_8 := n0_; have HB := n1_; clear n0_ n1_; (try clear hb); (try clear hb2); (try clear hk); (try clear hi)))
                        go_ret2
                        exact ⟨by first | rfl | (simp [errW_none, errW_some] <;> rfl) | (simp [*, errW_none, errW_some] <;> rfl), by repeat (first | (with_reducible first | exact HB.out | apply below_alloc | apply pw_below_drewN | apply below_drew1) | exact HB.out)⟩
                      · rw [if_neg c24] at H
                        have c24b0 : (true == t316) = false := by simpa using c24
                        (try (have c24b1 : decide (true = t316) = false := by simpa using c24))
                        (try (have c24b2 : (true == t316) = false := by simpa using c24))
                        (try (have c24b3 : ¬ (true = t316) := by simpa using c24))
                        clear c24
                        have H' := Aside0.mk H
                        clear H
                        obtain ⟨Ao27, co27, eo27⟩ := Kd.R_slice HO_8.out
                        subst eo27
                        have p312 : 0 ≤ (x9_2 : Int) := of_decide_eq_true (by first | (with_reducible assumption) | assumption)
                        have q312 : x9_2 < (t309.length : Int) := of_decide_eq_true (by first | (with_reducible assumption) | assumption)
                        obtain ⟨ad312, e312, hx312_0⟩ := Kd.at_string (Kd.R_reads' HO_8.out).2.2 x9_2 p312 q312
                        cases e312
                        replace p312 := eq_true p312
                        replace q312 := eq_true q312
                        go_wp2_with (first | ((with_reducible refine gate_callee (f := 39) rfl ?_); refine goesL_ (some 43) rfl rfl Tryz.func39 (by kernel_rfl) rfl #[.string (rdOf ByteArray.empty t309 x9_2)] rfl (by (try simp only [List.map_toArray, List.map_cons, List.map_nil]); first | done | rfl | (simp only [List.length_drop, List.length_take]; rfl)) ?_; (with_reducible refine (billetref04_term.calls k2 (rdOf ByteArray.empty t309 x9_2) t313 t314 false t316 t317 _ A15.out).mono ?_); rintro e w' ⟨rfl, ⟨nd, rfl⟩⟩; refine ⟨_, rfl, ?_⟩) | ((with_reducible refine gate_callee (f := 26) rfl ?_); refine goesL_ (some 52) rfl rfl Tryz.func26 (by kernel_rfl) rfl #[.string a1, .string t313] rfl (by (try simp only [List.map_toArray, List.map_cons, List.map_nil]); first | done | rfl | (simp only [List.length_drop, List.length_take]; rfl)) ?_; (with_reducible refine (billetref04_Value.calls k2 a1 t313 t318 true _ A16.out).mono ?_); rintro e w28 ⟨rfl, hb⟩; refine ⟨_, rfl, ?_⟩; have n0_ := Aside0.mk (Kd.R_below (by (with_reducible repeat (first | apply Kd.R_alloc | apply Kd.R_drewN | apply Kd.R_drew)); exact HO_8.out) hb); have n1_ := Aside0.mk (below_step (by repeat (first | (with_reducible first | exact HB.out | apply below_alloc | apply pw_below_drewN | apply below_drew1) | exact HB.out)) hb); clear HO_8; clear HB; have HO_8 := n0_; have HB := n1_; clear n0_ n1_; (try clear hb); (try clear hb2); (try clear hk); (try clear hi)))
                        go_roundg k2
                        case measure => have := HJ4.out; have := HK2.out; omega
                        case rel => exact ⟨(wrap64 (x9_2 + 1)), (by first | rfl | (simp; done) | (simp [*]; done)), H', ⟨by have := HJ4.out; have := HK2.out; omega⟩, ⟨by (with_reducible repeat (first | apply Kd.R_alloc | apply Kd.R_drewN | apply Kd.R_drew)); exact HO_8.out⟩, ⟨by repeat (first | (with_reducible first | exact HB.out | apply below_alloc | apply pw_below_drewN | apply below_drew1) | exact HB.out)⟩⟩
                  · replace c17 := Bool.eq_false_iff.mpr c17
                    subst c17
                    have H1 : (if (false == t316) = true then (some (false, 0)) else (billetref04_Match.l0 k2 a1 t309 (wrap64 (x9_2 + 1)))) = some (r1, r2) := by rw [if_neg (show ¬ (false = true) by decide)] at H; exact H
                    clear H
                    have H := H1
                    clear H1
                    by_cases c29 : (false == t316) = true
                    · rw [if_pos c29] at H
                      have c29b0 : (false == t316) = true := c29
                      (try (have c29b1 : decide (false = t316) = true := by simpa using c29))
                      (try (have c29b2 : (false == t316) = true := by simpa using c29))
                      clear c29
                      simp only [Option.some.injEq, Prod.mk.injEq] at H
                      obtain ⟨rfl, rfl⟩ := H
                      obtain ⟨Ao30, co30, eo30⟩ := Kd.R_slice HO_8.out
                      subst eo30
                      have p312 : 0 ≤ (x9_2 : Int) := of_decide_eq_true (by first | (with_reducible assumption) | assumption)
                      have q312 : x9_2 < (t309.length : Int) := of_decide_eq_true (by first | (with_reducible assumption) | assumption)
                      obtain ⟨ad312, e312, hx312_0⟩ := Kd.at_string (Kd.R_reads' HO_8.out).2.2 x9_2 p312 q312
                      cases e312
                      replace p312 := eq_true p312
                      replace q312 := eq_true q312
                      go_wp2_with (first | ((with_reducible refine gate_callee (f := 39) rfl ?_); refine goesL_ (some 43) rfl rfl Tryz.func39 (by kernel_rfl) rfl #[.string (rdOf ByteArray.empty t309 x9_2)] rfl (by (try simp only [List.map_toArray, List.map_cons, List.map_nil]); first | done | rfl | (simp only [List.length_drop, List.length_take]; rfl)) ?_; (with_reducible refine (billetref04_term.calls k2 (rdOf ByteArray.empty t309 x9_2) t313 t314 t315 t316 t317 _ A15.out).mono ?_); rintro e w' ⟨rfl, ⟨nd, rfl⟩⟩; refine ⟨_, rfl, ?_⟩) | ((with_reducible refine gate_callee (f := 26) rfl ?_); refine goesL_ (some 52) rfl rfl Tryz.func26 (by kernel_rfl) rfl #[.string a1, .string t313] rfl (by (try simp only [List.map_toArray, List.map_cons, List.map_nil]); first | done | rfl | (simp only [List.length_drop, List.length_take]; rfl)) ?_; (with_reducible refine (billetref04_Value.calls k2 a1 t313 t318 false _ A16.out).mono ?_); rintro e w31 ⟨rfl, hb⟩; refine ⟨_, rfl, ?_⟩; have n0_ := Aside0.mk (Kd.R_below (by (with_reducible repeat (first | apply Kd.R_alloc | apply Kd.R_drewN | apply Kd.R_drew)); exact HO_8.out) hb); have n1_ := Aside0.mk (below_step (by repeat (first | (with_reducible first | exact HB.out | apply below_alloc | apply pw_below_drewN | apply below_drew1) | exact HB.out)) hb); clear HO_8; clear HB; have HO_8 := n0_; have HB := n1_; clear n0_ n1_; (try clear hb); (try clear hb2); (try clear hk); (try clear hi)))
                      go_ret2
                      exact ⟨by first | rfl | (simp [errW_none, errW_some] <;> rfl) | (simp [*, errW_none, errW_some] <;> rfl), by repeat (first | (with_reducible first | exact HB.out | apply below_alloc | apply pw_below_drewN | apply below_drew1) | exact HB.out)⟩
                    · rw [if_neg c29] at H
                      have c29b0 : (false == t316) = false := by simpa using c29
                      (try (have c29b1 : decide (false = t316) = false := by simpa using c29))
                      (try (have c29b2 : (false == t316) = false := by simpa using c29))
                      (try (have c29b3 : ¬ (false = t316) := by simpa using c29))
                      clear c29
                      have H' := Aside0.mk H
                      clear H
                      obtain ⟨Ao32, co32, eo32⟩ := Kd.R_slice HO_8.out
                      subst eo32
                      have p312 : 0 ≤ (x9_2 : Int) := of_decide_eq_true (by first | (with_reducible assumption) | assumption)
                      have q312 : x9_2 < (t309.length : Int) := of_decide_eq_true (by first | (with_reducible assumption) | assumption)
                      obtain ⟨ad312, e312, hx312_0⟩ := Kd.at_string (Kd.R_reads' HO_8.out).2.2 x9_2 p312 q312
                      cases e312
                      replace p312 := eq_true p312
                      replace q312 := eq_true q312
                      go_wp2_with (first | ((with_reducible refine gate_callee (f := 39) rfl ?_); refine goesL_ (some 43) rfl rfl Tryz.func39 (by kernel_rfl) rfl #[.string (rdOf ByteArray.empty t309 x9_2)] rfl (by (try simp only [List.map_toArray, List.map_cons, List.map_nil]); first | done | rfl | (simp only [List.length_drop, List.length_take]; rfl)) ?_; (with_reducible refine (billetref04_term.calls k2 (rdOf ByteArray.empty t309 x9_2) t313 t314 t315 t316 t317 _ A15.out).mono ?_); rintro e w' ⟨rfl, ⟨nd, rfl⟩⟩; refine ⟨_, rfl, ?_⟩) | ((with_reducible refine gate_callee (f := 26) rfl ?_); refine goesL_ (some 52) rfl rfl Tryz.func26 (by kernel_rfl) rfl #[.string a1, .string t313] rfl (by (try simp only [List.map_toArray, List.map_cons, List.map_nil]); first | done | rfl | (simp only [List.length_drop, List.length_take]; rfl)) ?_; (with_reducible refine (billetref04_Value.calls k2 a1 t313 t318 false _ A16.out).mono ?_); rintro e w33 ⟨rfl, hb⟩; refine ⟨_, rfl, ?_⟩; have n0_ := Aside0.mk (Kd.R_below (by (with_reducible repeat (first | apply Kd.R_alloc | apply Kd.R_drewN | apply Kd.R_drew)); exact HO_8.out) hb); have n1_ := Aside0.mk (below_step (by repeat (first | (with_reducible first | exact HB.out | apply below_alloc | apply pw_below_drewN | apply below_drew1) | exact HB.out)) hb); clear HO_8; clear HB; have HO_8 := n0_; have HB := n1_; clear n0_ n1_; (try clear hb); (try clear hb2); (try clear hk); (try clear hi)))
                      go_roundg k2
                      case measure => have := HJ4.out; have := HK2.out; omega
                      case rel => exact ⟨(wrap64 (x9_2 + 1)), (by first | rfl | (simp; done) | (simp [*]; done)), H', ⟨by have := HJ4.out; have := HK2.out; omega⟩, ⟨by (with_reducible repeat (first | apply Kd.R_alloc | apply Kd.R_drewN | apply Kd.R_drew)); exact HO_8.out⟩, ⟨by repeat (first | (with_reducible first | exact HB.out | apply below_alloc | apply pw_below_drewN | apply below_drew1) | exact HB.out)⟩⟩
                · rw [if_neg c14] at H
                  exact absurd H (by simp)
              · rw [if_neg c13] at H
                have c13b0 : decide (x9_2 < (t309.length : Int)) = false := decide_eq_false c13
                clear c13
                simp only [Option.some.injEq, Prod.mk.injEq] at H
                obtain ⟨rfl, rfl⟩ := H
                obtain ⟨Ao34, co34, eo34⟩ := Kd.R_slice HO_8.out
                subst eo34
                go_wp2
                go_ret2
                exact ⟨by first | rfl | (simp [errW_none, errW_some] <;> rfl) | (simp [*, errW_none, errW_some] <;> rfl), by repeat (first | (with_reducible first | exact HB.out | apply below_alloc | apply pw_below_drewN | apply below_drew1) | exact HB.out)⟩

/-! ### billetref04_terms: function 44 -/
def billetref04_terms.f (k : Nat) (a0 : ByteArray) : Option (List ByteArray) := if a0.toList = ([] : List UInt8) then (some ([] : List ByteArray)) else ((billetref04_split.f k a0).bind fun t320 => (some t320))
theorem billetref04_terms.mono : ∀ a0 k, LeO (billetref04_terms.f k a0) (billetref04_terms.f (k + 1) a0) := by
  intro a0 k
  unfold billetref04_terms.f
  repeat' first
      | (with_reducible exact billetref04_split.mono _ _)
      | (with_reducible exact LeO.refl _)
      | (with_reducible exact LeO.none _)
      | (with_reducible refine LeO.ite ?_ ?_)
      | (with_reducible refine LeO.bind ?_ (fun _ => ?_))
      | exact billetref04_split.mono _ _
      | exact LeO.none _
      | refine LeO.ite ?_ ?_
      | refine LeO.bind ?_ (fun _ => ?_)
set_option maxHeartbeats 8000000 in
set_option maxRecDepth 100000 in
theorem billetref04_terms.calls (k : Nat) (a0 : ByteArray) (r : List ByteArray) (w : World) (h : billetref04_terms.f k a0 = some r) :
    Calls Tryz.prog 44 #[.string a0] w fun e w' => ∃ v0_ : Value, e = .returned (v0_) ∧ Kd.R Kd.string 9 w' w.heap.size (fun _ => True) v0_ r ∧ Below w.heap.size w w' := by
  have HB := Aside0.mk (Below.refl w.heap.size w)
  have H : (if a0.toList = ([] : List UInt8) then (some ([] : List ByteArray)) else ((billetref04_split.f k a0).bind fun t320 => (some t320))) = some r := h
  clear h
  by_cases c2 : a0.toList = ([] : List UInt8)
  · rw [if_pos c2] at H
    have c2b0 : (a0.toList == ([] : List UInt8)) = true := beq_iff_eq.mpr c2
    have c2b1 : (a0.toList != ([] : List UInt8)) = false := bne_eq_false_iff_eq.mpr c2
    clear c2
    obtain rfl := Option.some.inj H
    go_enter Tryz.func44, Tryz.ntmps44
    go_wp2
    go_ret
    exact ⟨_, by first | rfl | (simp [errW_none, errW_some] <;> rfl) | (simp [*, errW_none, errW_some] <;> rfl), by first | exact Kd.R_nil _ _ _ _ _ | exact Kd.N_nil _ _ _ _ _ | exact Kd.V_nil _ _ _ _ _ | exact Kd.Q_nil _ _ _ _ _ | exact Kd.S_nil _ _ _ _ _, by repeat (first | (with_reducible first | exact HB.out | apply below_alloc | apply pw_below_drewN | apply below_drew1) | exact HB.out)⟩
  · rw [if_neg c2] at H
    have c2b0 : (a0.toList == ([] : List UInt8)) = false := beq_eq_false_iff_ne.mpr c2
    have c2b1 : (a0.toList != ([] : List UInt8)) = true := bne_iff_ne.mpr c2
    replace H := Option.bind_eq_some_iff.mp H
    obtain ⟨t320, A30, H⟩ := H
    replace H : (some t320) = some r := H
    have A3 := Aside0.mk A30
    clear A30
    obtain rfl := Option.some.inj H
    go_enter Tryz.func44, Tryz.ntmps44
    go_wp2_with (first | ((with_reducible refine gate_callee (f := 38) rfl ?_); refine goesL_ (some 6) rfl rfl Tryz.func38 (by kernel_rfl) rfl #[.string a0] rfl (by (try simp only [List.map_toArray, List.map_cons, List.map_nil]); first | done | rfl | (simp only [List.length_drop, List.length_take]; rfl)) ?_; (with_reducible refine (billetref04_split.calls k a0 t320 _ A3.out).mono ?_); rintro e w4 ⟨v321, rfl, ho0, hb⟩; refine ⟨_, rfl, ?_⟩; have n0_ := Aside0.mk (Kd.R_lower ho0 (below_size (by repeat (first | (with_reducible first | exact HB.out | apply below_alloc | apply pw_below_drewN | apply below_drew1) | exact HB.out)))); have n1_ := Aside0.mk (below_step (by repeat (first | (with_reducible first | exact HB.out | apply below_alloc | apply pw_below_drewN | apply below_drew1) | exact HB.out)) hb); clear HB; have HO322 := n0_; have HB := n1_; clear n0_ n1_; (try clear hb); (try clear hb2); (try clear hk); (try clear hi); (try clear ho0)))
    go_ret
    exact ⟨_, by first | rfl | (simp [errW_none, errW_some] <;> rfl) | (simp [*, errW_none, errW_some] <;> rfl), by (with_reducible repeat (first | apply Kd.R_alloc | apply Kd.R_drewN | apply Kd.R_drew)); exact HO322.out, by repeat (first | (with_reducible first | exact HB.out | apply below_alloc | apply pw_below_drewN | apply below_drew1) | exact HB.out)⟩

end Go.Proofs.YtfafdcdmaimghaaGreatDoor.PR

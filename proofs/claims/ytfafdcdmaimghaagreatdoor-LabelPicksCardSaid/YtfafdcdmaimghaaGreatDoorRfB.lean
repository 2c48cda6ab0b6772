/- Functions of the statements' own, as the kit's print tells them, and that the code computes them. -/
import Derived.Test.YtfafdcdmaimghaaGreatDoorStrW
import Derived.Test.YtfafdcdmaimghaaGreatDoorRfO
import Derived.Test.YtfafdcdmaimghaaGreatDoorRfA
namespace Go.Proofs.YtfafdcdmaimghaaGreatDoor.PR
open Go.RowKit Go.Proofs.YtfafdcdmaimghaaGreatDoorW.PrintWords Go.Proofs.YtfafdcdmaimghaaGreatDoorW.PrintLast Go.Proofs.YtfafdcdmaimghaaGreatDoorW.PrintMore
attribute [local go_sem] Go.Proofs.YtfafdcdmaimghaaGreatDoor.leq_flip Go.Proofs.YtfafdcdmaimghaaGreatDoor.gtr_flip Go.Proofs.YtfafdcdmaimghaaGreatDoor.geq_as max2_int min2_int max_two min_two max_three min_three max_four min_four   -- for this text's walks alone
set_option linter.unusedVariables false
set_option linter.unusedSimpArgs false

/-! ### billetref04_IsLabels: function 28 -/
def billetref04_IsLabels.l0 : Nat → List ByteArray → ByteArray → Int → Option (Bool)
  | 0, _, _, _ => none
  | k + 1, x3, x4, x5 => if x5 < (x3.length : Int) then (if 0 ≤ x5 then ((billetref04_cut.f k (rdOf ByteArray.empty x3 x5)).bind fun bt278 => ((billetref04_IsName.f k bt278.1).bind fun t281 => ((billetref04_IsName.f k bt278.2.1).bind fun t282 => (if bt278.2.2 = true then (if t281 = true then (if t282 = true then (if ((Op.bytesLess x4.toList bt278.1.toList) = true) then (billetref04_IsLabels.l0 k x3 bt278.1 (wrap64 (x5 + 1))) else (some false)) else (some false)) else (some false)) else (some false))))) else (none)) else (some (decide ((x3.length : Int) ≤ 4)))
def billetref04_IsLabels.f (k : Nat) (a0 : ByteArray) : Option (Bool) := if a0.toList = ([] : List UInt8) then (some true) else ((billetref04_split.f k a0).bind fun t274 => (billetref04_IsLabels.l0 k t274 (⟨#[]⟩ : ByteArray) 0))
theorem billetref04_IsLabels.mono_l : ∀ k, (∀ y0 y1 y2, LeO (billetref04_IsLabels.l0 k y0 y1 y2) (billetref04_IsLabels.l0 (k + 1) y0 y1 y2))
  | 0 => fun _ _ _ r h => by simp [billetref04_IsLabels.l0] at h
  | k + 1 => by
    have ih0 := billetref04_IsLabels.mono_l k
    · intro y0 y1 y2
      unfold billetref04_IsLabels.l0
      repeat' first
      | (with_reducible exact ih0 _ _ _)
      | (with_reducible exact billetref04_IsName.mono _ _)
      | (with_reducible exact billetref04_cut.mono _ _)
      | (with_reducible exact billetref04_split.mono _ _)
      | (with_reducible exact LeO.refl _)
      | (with_reducible exact LeO.none _)
      | (with_reducible refine LeO.ite ?_ ?_)
      | (with_reducible refine LeO.bind ?_ (fun _ => ?_))
      | exact ih0 _ _ _
      | exact billetref04_IsName.mono _ _
      | exact billetref04_cut.mono _ _
      | exact billetref04_split.mono _ _
      | exact LeO.none _
      | refine LeO.ite ?_ ?_
      | refine LeO.bind ?_ (fun _ => ?_)
theorem billetref04_IsLabels.mono : ∀ a0 k, LeO (billetref04_IsLabels.f k a0) (billetref04_IsLabels.f (k + 1) a0) := by
  intro a0 k
  have ih0 := billetref04_IsLabels.mono_l k
  unfold billetref04_IsLabels.f
  repeat' first
      | (with_reducible exact ih0 _ _ _)
      | (with_reducible exact billetref04_IsName.mono _ _)
      | (with_reducible exact billetref04_cut.mono _ _)
      | (with_reducible exact billetref04_split.mono _ _)
      | (with_reducible exact LeO.refl _)
      | (with_reducible exact LeO.none _)
      | (with_reducible refine LeO.ite ?_ ?_)
      | (with_reducible refine LeO.bind ?_ (fun _ => ?_))
      | exact ih0 _ _ _
      | exact billetref04_IsName.mono _ _
      | exact billetref04_cut.mono _ _
      | exact billetref04_split.mono _ _
      | exact LeO.none _
      | refine LeO.ite ?_ ?_
      | refine LeO.bind ?_ (fun _ => ?_)
set_option maxHeartbeats 8000000 in
set_option maxRecDepth 100000 in
theorem billetref04_IsLabels.calls (k : Nat) (a0 : ByteArray) (r : Bool) (w : World) (h : billetref04_IsLabels.f k a0 = some r) :
    Calls Tryz.prog 28 #[.string a0] w fun e w' => e = .returned (.bool r) ∧ Below w.heap.size w w' := by
  have HB := Aside0.mk (Below.refl w.heap.size w)
  have H : (if a0.toList = ([] : List UInt8) then (some true) else ((billetref04_split.f k a0).bind fun t274 => (billetref04_IsLabels.l0 k t274 (⟨#[]⟩ : ByteArray) 0))) = some r := h
  clear h
  by_cases c2 : a0.toList = ([] : List UInt8)
  · rw [if_pos c2] at H
    have c2b0 : (a0.toList == ([] : List UInt8)) = true := beq_iff_eq.mpr c2
    have c2b1 : (a0.toList != ([] : List UInt8)) = false := bne_eq_false_iff_eq.mpr c2
    clear c2
    obtain rfl := Option.some.inj H
    go_enter Tryz.func28, Tryz.ntmps28
    go_wp2
    go_ret
    exact ⟨by first | rfl | (simp [errW_none, errW_some] <;> rfl) | (simp [*, errW_none, errW_some] <;> rfl), by repeat (first | (with_reducible first | exact HB.out | apply below_alloc | apply pw_below_drewN | apply below_drew1) | exact HB.out)⟩
  · rw [if_neg c2] at H
    have c2b0 : (a0.toList == ([] : List UInt8)) = false := beq_eq_false_iff_ne.mpr c2
    have c2b1 : (a0.toList != ([] : List UInt8)) = true := bne_iff_ne.mpr c2
    replace H := Option.bind_eq_some_iff.mp H
    obtain ⟨t274, A30, H⟩ := H
    replace H : (billetref04_IsLabels.l0 k t274 (⟨#[]⟩ : ByteArray) 0) = some r := H
    have A3 := Aside0.mk A30
    clear A30
    have H' := Aside0.mk H
    clear H
    go_enter Tryz.func28, Tryz.ntmps28
    go_wp2_with (first | ((with_reducible refine gate_callee (f := 38) rfl ?_); refine goesL_ (some 14) rfl rfl Tryz.func38 (by kernel_rfl) rfl #[.string a0] rfl (by (try simp only [List.map_toArray, List.map_cons, List.map_nil]); first | done | rfl | (simp only [List.length_drop, List.length_take]; rfl)) ?_; (with_reducible refine (billetref04_split.calls k a0 t274 _ A3.out).mono ?_); rintro e w4 ⟨v275, rfl, ho0, hb⟩; refine ⟨_, rfl, ?_⟩; have n0_ := Aside0.mk (Kd.R_lower ho0 (below_size (by repeat (first | (with_reducible first | exact HB.out | apply below_alloc | apply pw_below_drewN | apply below_drew1) | exact HB.out)))); have n1_ := Aside0.mk (below_step (by repeat (first | (with_reducible first | exact HB.out | apply below_alloc | apply pw_below_drewN | apply below_drew1) | exact HB.out)) hb); clear HB; have HO276 := n0_; have HB := n1_; clear n0_ n1_; (try clear hb); (try clear hb2); (try clear hk); (try clear hi); (try clear ho0)))
    go_loopg [4, 5] k (fun kq v4 v5 w' => ∃ (x4_1 : ByteArray) (x5_1 : Int), v4 = .string x4_1 ∧ v5 = .int .i64 x5_1 ∧ Aside0 (billetref04_IsLabels.l0 kq t274 x4_1 x5_1 = some r) ∧ Aside0 (kq ≤ k) ∧ Aside0 (Kd.R Kd.string 9 w' w.heap.size (fun _ => True) v275 t274) ∧ Aside0 (Below w.heap.size w w'))
    case atStart => exact ⟨((⟨#[]⟩ : ByteArray)), (0), (by first | rfl | (simp; done) | (simp [*]; done)), (by first | rfl | (simp; done) | (simp [*]; done)), H', ⟨Nat.le_refl _⟩, ⟨by (with_reducible repeat (first | apply Kd.R_alloc | apply Kd.R_drewN | apply Kd.R_drew)); exact HO276.out⟩, ⟨by repeat (first | (with_reducible first | exact HB.out | apply below_alloc | apply pw_below_drewN | apply below_drew1) | exact HB.out)⟩⟩
    case round =>
      clear H'
      try clear c2
      try clear c2b0
      try clear c2b1
      try clear p2
      try clear c3
      obtain ⟨x4_1, x5_1, rfl, rfl, HA, HK1, HO_3, HB⟩ := hrel
      cases gk with
      | zero => exact absurd HA.out (by simp [billetref04_IsLabels.l0])
      | succ k1 =>
        have H := HA.out
        clear HA
        simp only [billetref04_IsLabels.l0] at H
        by_cases c5 : x5_1 < (t274.length : Int)
        · rw [if_pos c5] at H
          have c5b0 : decide (x5_1 < (t274.length : Int)) = true := decide_eq_true c5
          clear c5
          by_cases c6 : 0 ≤ x5_1
          · rw [if_pos c6] at H
            have c6b0 : decide (0 ≤ x5_1) = true := decide_eq_true c6
            clear c6
            replace H := Option.bind_eq_some_iff.mp H
            obtain ⟨⟨t278, t279, t280⟩, A70, H⟩ := H
            replace H : ((billetref04_IsName.f k1 t278).bind fun t281 => ((billetref04_IsName.f k1 t279).bind fun t282 => (if t280 = true then (if t281 = true then (if t282 = true then (if ((Op.bytesLess x4_1.toList t278.toList) = true) then (billetref04_IsLabels.l0 k1 t274 t278 (wrap64 (x5_1 + 1))) else (some false)) else (some false)) else (some false)) else (some false)))) = some r := H
            have A7 := Aside0.mk A70
            clear A70
            replace H := Option.bind_eq_some_iff.mp H
            obtain ⟨t281, A80, H⟩ := H
            replace H : ((billetref04_IsName.f k1 t279).bind fun t282 => (if t280 = true then (if t281 = true then (if t282 = true then (if ((Op.bytesLess x4_1.toList t278.toList) = true) then (billetref04_IsLabels.l0 k1 t274 t278 (wrap64 (x5_1 + 1))) else (some false)) else (some false)) else (some false)) else (some false))) = some r := H
            have A8 := Aside0.mk A80
            clear A80
            replace H := Option.bind_eq_some_iff.mp H
            obtain ⟨t282, A90, H⟩ := H
            replace H : (if t280 = true then (if t281 = true then (if t282 = true then (if ((Op.bytesLess x4_1.toList t278.toList) = true) then (billetref04_IsLabels.l0 k1 t274 t278 (wrap64 (x5_1 + 1))) else (some false)) else (some false)) else (some false)) else (some false)) = some r := H
            have A9 := Aside0.mk A90
            clear A90
            by_cases c10 : t280 = true
            · subst c10
              have H1 : (if t281 = true then (if t282 = true then (if ((Op.bytesLess x4_1.toList t278.toList) = true) then (billetref04_IsLabels.l0 k1 t274 t278 (wrap64 (x5_1 + 1))) else (some false)) else (some false)) else (some false)) = some r := by rw [if_pos rfl] at H; exact H
              clear H
              have H := H1
              clear H1
              by_cases c11 : t281 = true
              · subst c11
                have H1 : (if t282 = true then (if ((Op.bytesLess x4_1.toList t278.toList) = true) then (billetref04_IsLabels.l0 k1 t274 t278 (wrap64 (x5_1 + 1))) else (some false)) else (some false)) = some r := by rw [if_pos rfl] at H; exact H
                clear H
                have H := H1
                clear H1
                by_cases c12 : t282 = true
                · subst c12
                  have H1 : (if ((Op.bytesLess x4_1.toList t278.toList) = true) then (billetref04_IsLabels.l0 k1 t274 t278 (wrap64 (x5_1 + 1))) else (some false)) = some r := by rw [if_pos rfl] at H; exact H
                  clear H
                  have H := H1
                  clear H1
                  by_cases c13 : ((Op.bytesLess x4_1.toList t278.toList) = true)
                  · rw [if_pos c13] at H
                    have c13b0 : (Op.bytesLess x4_1.toList t278.toList) = true := c13
                    clear c13
                    have H' := Aside0.mk H
                    clear H
                    obtain ⟨Ao14, co14, eo14⟩ := Kd.R_slice HO_3.out
                    subst eo14
                    have p277 : 0 ≤ (x5_1 : Int) := of_decide_eq_true (by first | (with_reducible assumption) | assumption)
                    have q277 : x5_1 < (t274.length : Int) := of_decide_eq_true (by first | (with_reducible assumption) | assumption)
                    obtain ⟨ad277, e277, hx277_0⟩ := Kd.at_string (Kd.R_reads' HO_3.out).2.2 x5_1 p277 q277
                    cases e277
                    replace p277 := eq_true p277
                    replace q277 := eq_true q277
                    go_wp2_with (first | ((with_reducible refine gate_callee (f := 47) rfl ?_); refine goesL_ (some 26) rfl rfl Tryz.func47 (by kernel_rfl) rfl #[.string (rdOf ByteArray.empty t274 x5_1)] rfl (by (try simp only [List.map_toArray, List.map_cons, List.map_nil]); first | done | rfl | (simp only [List.length_drop, List.length_take]; rfl)) ?_; (with_reducible refine (billetref04_cut.calls k1 (rdOf ByteArray.empty t274 x5_1) t278 t279 true _ A7.out).mono ?_); rintro e w' ⟨rfl, ⟨nd, rfl⟩⟩; refine ⟨_, rfl, ?_⟩) | ((with_reducible refine gate_callee (f := 27) rfl ?_); refine goesL_ (some 31) rfl rfl Tryz.func27 (by kernel_rfl) rfl #[.string t278] rfl (by (try simp only [List.map_toArray, List.map_cons, List.map_nil]); first | done | rfl | (simp only [List.length_drop, List.length_take]; rfl)) ?_; (with_reducible refine (billetref04_IsName.calls k1 t278 true _ A8.out).mono ?_); rintro e w' ⟨rfl, ⟨nd, rfl⟩⟩; refine ⟨_, rfl, ?_⟩) | ((with_reducible refine gate_callee (f := 27) rfl ?_); refine goesL_ (some 33) rfl rfl Tryz.func27 (by kernel_rfl) rfl #[.string t279] rfl (by (try simp only [List.map_toArray, List.map_cons, List.map_nil]); first | done | rfl | (simp only [List.length_drop, List.length_take]; rfl)) ?_; (with_reducible refine (billetref04_IsName.calls k1 t279 true _ A9.out).mono ?_); rintro e w' ⟨rfl, ⟨nd, rfl⟩⟩; refine ⟨_, rfl, ?_⟩))
                    go_roundg k1
                    case measure => have := HK1.out; omega
                    case rel => exact ⟨(t278), (wrap64 (x5_1 + 1)), (by first | rfl | (simp; done) | (simp [*]; done)), (by first | rfl | (simp; done) | (simp [*]; done)), H', ⟨by have := HK1.out; omega⟩, ⟨by (with_reducible repeat (first | apply Kd.R_alloc | apply Kd.R_drewN | apply Kd.R_drew)); exact HO_3.out⟩, ⟨by repeat (first | (with_reducible first | exact HB.out | apply below_alloc | apply pw_below_drewN | apply below_drew1) | exact HB.out)⟩⟩
                  · rw [if_neg c13] at H
                    have c13b0 : (Op.bytesLess x4_1.toList t278.toList) = false := by simpa using c13
                    clear c13
                    obtain rfl := Option.some.inj H
                    obtain ⟨Ao15, co15, eo15⟩ := Kd.R_slice HO_3.out
                    subst eo15
                    have p277 : 0 ≤ (x5_1 : Int) := of_decide_eq_true (by first | (with_reducible assumption) | assumption)
                    have q277 : x5_1 < (t274.length : Int) := of_decide_eq_true (by first | (with_reducible assumption) | assumption)
                    obtain ⟨ad277, e277, hx277_0⟩ := Kd.at_string (Kd.R_reads' HO_3.out).2.2 x5_1 p277 q277
                    cases e277
                    replace p277 := eq_true p277
                    replace q277 := eq_true q277
                    go_wp2_with (first | ((with_reducible refine gate_callee (f := 47) rfl ?_); refine goesL_ (some 26) rfl rfl Tryz.func47 (by kernel_rfl) rfl #[.string (rdOf ByteArray.empty t274 x5_1)] rfl (by (try simp only [List.map_toArray, List.map_cons, List.map_nil]); first | done | rfl | (simp only [List.length_drop, List.length_take]; rfl)) ?_; (with_reducible refine (billetref04_cut.calls k1 (rdOf ByteArray.empty t274 x5_1) t278 t279 true _ A7.out).mono ?_); rintro e w' ⟨rfl, ⟨nd, rfl⟩⟩; refine ⟨_, rfl, ?_⟩) | ((with_reducible refine gate_callee (f := 27) rfl ?_); refine goesL_ (some 31) rfl rfl Tryz.func27 (by kernel_rfl) rfl #[.string t278] rfl (by (try simp only [List.map_toArray, List.map_cons, List.map_nil]); first | done | rfl | (simp only [List.length_drop, List.length_take]; rfl)) ?_; (with_reducible refine (billetref04_IsName.calls k1 t278 true _ A8.out).mono ?_); rintro e w' ⟨rfl, ⟨nd, rfl⟩⟩; refine ⟨_, rfl, ?_⟩) | ((with_reducible refine gate_callee (f := 27) rfl ?_); refine goesL_ (some 33) rfl rfl Tryz.func27 (by kernel_rfl) rfl #[.string t279] rfl (by (try simp only [List.map_toArray, List.map_cons, List.map_nil]); first | done | rfl | (simp only [List.length_drop, List.length_take]; rfl)) ?_; (with_reducible refine (billetref04_IsName.calls k1 t279 true _ A9.out).mono ?_); rintro e w' ⟨rfl, ⟨nd, rfl⟩⟩; refine ⟨_, rfl, ?_⟩))
                    go_ret
                    exact ⟨by first | rfl | (simp [errW_none, errW_some] <;> rfl) | (simp [*, errW_none, errW_some] <;> rfl), by repeat (first | (with_reducible first | exact HB.out | apply below_alloc | apply pw_below_drewN | apply below_drew1) | exact HB.out)⟩
                · replace c12 := Bool.eq_false_iff.mpr c12
                  subst c12
                  have H1 : (some false) = some r := by rw [if_neg (show ¬ (false = true) by decide)] at H; exact H
                  clear H
                  have H := H1
                  clear H1
                  obtain rfl := Option.some.inj H
                  obtain ⟨Ao16, co16, eo16⟩ := Kd.R_slice HO_3.out
                  subst eo16
                  have p277 : 0 ≤ (x5_1 : Int) := of_decide_eq_true (by first | (with_reducible assumption) | assumption)
                  have q277 : x5_1 < (t274.length : Int) := of_decide_eq_true (by first | (with_reducible assumption) | assumption)
                  obtain ⟨ad277, e277, hx277_0⟩ := Kd.at_string (Kd.R_reads' HO_3.out).2.2 x5_1 p277 q277
                  cases e277
                  replace p277 := eq_true p277
                  replace q277 := eq_true q277
                  go_wp2_with (first | ((with_reducible refine gate_callee (f := 47) rfl ?_); refine goesL_ (some 26) rfl rfl Tryz.func47 (by kernel_rfl) rfl #[.string (rdOf ByteArray.empty t274 x5_1)] rfl (by (try simp only [List.map_toArray, List.map_cons, List.map_nil]); first | done | rfl | (simp only [List.length_drop, List.length_take]; rfl)) ?_; (with_reducible refine (billetref04_cut.calls k1 (rdOf ByteArray.empty t274 x5_1) t278 t279 true _ A7.out).mono ?_); rintro e w' ⟨rfl, ⟨nd, rfl⟩⟩; refine ⟨_, rfl, ?_⟩) | ((with_reducible refine gate_callee (f := 27) rfl ?_); refine goesL_ (some 31) rfl rfl Tryz.func27 (by kernel_rfl) rfl #[.string t278] rfl (by (try simp only [List.map_toArray, List.map_cons, List.map_nil]); first | done | rfl | (simp only [List.length_drop, List.length_take]; rfl)) ?_; (with_reducible refine (billetref04_IsName.calls k1 t278 true _ A8.out).mono ?_); rintro e w' ⟨rfl, ⟨nd, rfl⟩⟩; refine ⟨_, rfl, ?_⟩) | ((with_reducible refine gate_callee (f := 27) rfl ?_); refine goesL_ (some 33) rfl rfl Tryz.func27 (by kernel_rfl) rfl #[.string t279] rfl (by (try simp only [List.map_toArray, List.map_cons, List.map_nil]); first | done | rfl | (simp only [List.length_drop, List.length_take]; rfl)) ?_; (with_reducible refine (billetref04_IsName.calls k1 t279 false _ A9.out).mono ?_); rintro e w' ⟨rfl, ⟨nd, rfl⟩⟩; refine ⟨_, rfl, ?_⟩))
                  go_ret
                  exact ⟨by first | rfl | (simp [errW_none, errW_some] <;> rfl) | (simp [*, errW_none, errW_some] <;> rfl), by repeat (first | (with_reducible first | exact HB.out | apply below_alloc | apply pw_below_drewN | apply below_drew1) | exact HB.out)⟩
              · replace c11 := Bool.eq_false_iff.mpr c11
                subst c11
                have H1 : (some false) = some r := by rw [if_neg (show ¬ (false = true) by decide)] at H; exact H
                clear H
                have H := H1
                clear H1
                obtain rfl := Option.some.inj H
                obtain ⟨Ao17, co17, eo17⟩ := Kd.R_slice HO_3.out
                subst eo17
                have p277 : 0 ≤ (x5_1 : Int) := of_decide_eq_true (by first | (with_reducible assumption) | assumption)
                have q277 : x5_1 < (t274.length : Int) := of_decide_eq_true (by first | (with_reducible assumption) | assumption)
                obtain ⟨ad277, e277, hx277_0⟩ := Kd.at_string (Kd.R_reads' HO_3.out).2.2 x5_1 p277 q277
                cases e277
                replace p277 := eq_true p277
                replace q277 := eq_true q277
                go_wp2_with (first | ((with_reducible refine gate_callee (f := 47) rfl ?_); refine goesL_ (some 26) rfl rfl Tryz.func47 (by kernel_rfl) rfl #[.string (rdOf ByteArray.empty t274 x5_1)] rfl (by (try simp only [List.map_toArray, List.map_cons, List.map_nil]); first | done | rfl | (simp only [List.length_drop, List.length_take]; rfl)) ?_; (with_reducible refine (billetref04_cut.calls k1 (rdOf ByteArray.empty t274 x5_1) t278 t279 true _ A7.out).mono ?_); rintro e w' ⟨rfl, ⟨nd, rfl⟩⟩; refine ⟨_, rfl, ?_⟩) | ((with_reducible refine gate_callee (f := 27) rfl ?_); refine goesL_ (some 31) rfl rfl Tryz.func27 (by kernel_rfl) rfl #[.string t278] rfl (by (try simp only [List.map_toArray, List.map_cons, List.map_nil]); first | done | rfl | (simp only [List.length_drop, List.length_take]; rfl)) ?_; (with_reducible refine (billetref04_IsName.calls k1 t278 false _ A8.out).mono ?_); rintro e w' ⟨rfl, ⟨nd, rfl⟩⟩; refine ⟨_, rfl, ?_⟩) | ((with_reducible refine gate_callee (f := 27) rfl ?_); refine goesL_ (some 33) rfl rfl Tryz.func27 (by kernel_rfl) rfl #[.string t279] rfl (by (try simp only [List.map_toArray, List.map_cons, List.map_nil]); first | done | rfl | (simp only [List.length_drop, List.length_take]; rfl)) ?_; (with_reducible refine (billetref04_IsName.calls k1 t279 t282 _ A9.out).mono ?_); rintro e w' ⟨rfl, ⟨nd, rfl⟩⟩; refine ⟨_, rfl, ?_⟩))
                go_ret
                exact ⟨by first | rfl | (simp [errW_none, errW_some] <;> rfl) | (simp [*, errW_none, errW_some] <;> rfl), by repeat (first | (with_reducible first | exact HB.out | apply below_alloc | apply pw_below_drewN | apply below_drew1) | exact HB.out)⟩
            · replace c10 := Bool.eq_false_iff.mpr c10
              subst c10
              have H1 : (some false) = some r := by rw [if_neg (show ¬ (false = true) by decide)] at H; exact H
              clear H
              have H := H1
              clear H1
              obtain rfl := Option.some.inj H
              obtain ⟨Ao18, co18, eo18⟩ := Kd.R_slice HO_3.out
              subst eo18
              have p277 : 0 ≤ (x5_1 : Int) := of_decide_eq_true (by first | (with_reducible assumption) | assumption)
              have q277 : x5_1 < (t274.length : Int) := of_decide_eq_true (by first | (with_reducible assumption) | assumption)
              obtain ⟨ad277, e277, hx277_0⟩ := Kd.at_string (Kd.R_reads' HO_3.out).2.2 x5_1 p277 q277
              cases e277
              replace p277 := eq_true p277
              replace q277 := eq_true q277
              go_wp2_with (first | ((with_reducible refine gate_callee (f := 47) rfl ?_); refine goesL_ (some 26) rfl rfl Tryz.func47 (by kernel_rfl) rfl #[.string (rdOf ByteArray.empty t274 x5_1)] rfl (by (try simp only [List.map_toArray, List.map_cons, List.map_nil]); first | done | rfl | (simp only [List.length_drop, List.length_take]; rfl)) ?_; (with_reducible refine (billetref04_cut.calls k1 (rdOf ByteArray.empty t274 x5_1) t278 t279 false _ A7.out).mono ?_); rintro e w' ⟨rfl, ⟨nd, rfl⟩⟩; refine ⟨_, rfl, ?_⟩) | ((with_reducible refine gate_callee (f := 27) rfl ?_); refine goesL_ (some 31) rfl rfl Tryz.func27 (by kernel_rfl) rfl #[.string t278] rfl (by (try simp only [List.map_toArray, List.map_cons, List.map_nil]); first | done | rfl | (simp only [List.length_drop, List.length_take]; rfl)) ?_; (with_reducible refine (billetref04_IsName.calls k1 t278 t281 _ A8.out).mono ?_); rintro e w' ⟨rfl, ⟨nd, rfl⟩⟩; refine ⟨_, rfl, ?_⟩) | ((with_reducible refine gate_callee (f := 27) rfl ?_); refine goesL_ (some 33) rfl rfl Tryz.func27 (by kernel_rfl) rfl #[.string t279] rfl (by (try simp only [List.map_toArray, List.map_cons, List.map_nil]); first | done | rfl | (simp only [List.length_drop, List.length_take]; rfl)) ?_; (with_reducible refine (billetref04_IsName.calls k1 t279 t282 _ A9.out).mono ?_); rintro e w' ⟨rfl, ⟨nd, rfl⟩⟩; refine ⟨_, rfl, ?_⟩))
              go_ret
              exact ⟨by first | rfl | (simp [errW_none, errW_some] <;> rfl) | (simp [*, errW_none, errW_some] <;> rfl), by repeat (first | (with_reducible first | exact HB.out | apply below_alloc | apply pw_below_drewN | apply below_drew1) | exact HB.out)⟩
          · rw [if_neg c6] at H
            exact absurd H (by simp)
        · rw [if_neg c5] at H
          have c5b0 : decide (x5_1 < (t274.length : Int)) = false := decide_eq_false c5
          clear c5
          obtain rfl := Option.some.inj H
          obtain ⟨Ao19, co19, eo19⟩ := Kd.R_slice HO_3.out
          subst eo19
          go_wp2
          go_ret
          exact ⟨by first | rfl | (simp [errW_none, errW_some] <;> rfl) | (simp [*, errW_none, errW_some] <;> rfl), by repeat (first | (with_reducible first | exact HB.out | apply below_alloc | apply pw_below_drewN | apply below_drew1) | exact HB.out)⟩

/-! ### billetref04_Value: function 26 -/
mutual
def billetref04_Value.j0 : Nat → ByteArray → ByteArray → Bool → Option (ByteArray × Bool)
  | 0, _, _, _ => none
  | k + 1, x0, x1, x19 => if x19 = true then (some ((⟨#[]⟩ : ByteArray), false)) else ((billetref04_split.f k x0).bind fun t284 => (billetref04_Value.l0 k x1 t284 0))
def billetref04_Value.l0 : Nat → ByteArray → List ByteArray → Int → Option (ByteArray × Bool)
  | 0, _, _, _ => none
  | k + 1, x1, x7, x8 => if x8 < (x7.length : Int) then (if 0 ≤ x8 then ((billetref04_cut.f k (rdOf ByteArray.empty x7 x8)).bind fun bt288 => (if bt288.1.toList = x1.toList then (some (bt288.2.1, true)) else (billetref04_Value.l0 k x1 x7 (wrap64 (x8 + 1))))) else (none)) else (some ((⟨#[]⟩ : ByteArray), false))
end
def billetref04_Value.f (k : Nat) (a0 : ByteArray) (a1 : ByteArray) : Option (ByteArray × Bool) := (billetref04_IsLabels.f k a0).bind fun t283 => (if t283 = true then (billetref04_Value.j0 k a0 a1 (a0.toList == ([] : List UInt8))) else (billetref04_Value.j0 k a0 a1 true))
theorem billetref04_Value.mono_l : ∀ k, (∀ y0 y1 y2, LeO (billetref04_Value.j0 k y0 y1 y2) (billetref04_Value.j0 (k + 1) y0 y1 y2)) ∧ (∀ y0 y1 y2, LeO (billetref04_Value.l0 k y0 y1 y2) (billetref04_Value.l0 (k + 1) y0 y1 y2))
  | 0 => ⟨fun _ _ _ r h => by simp [billetref04_Value.j0] at h, fun _ _ _ r h => by simp [billetref04_Value.l0] at h⟩
  | k + 1 => by
    obtain ⟨ih0, ih1⟩ := billetref04_Value.mono_l k
    refine ⟨?_, ?_⟩
    · intro y0 y1 y2
      unfold billetref04_Value.j0
      repeat' first
      | (with_reducible exact ih0 _ _ _)
      | (with_reducible exact ih1 _ _ _)
      | (with_reducible exact billetref04_IsLabels.mono _ _)
      | (with_reducible exact billetref04_cut.mono _ _)
      | (with_reducible exact billetref04_split.mono _ _)
      | (with_reducible exact LeO.refl _)
      | (with_reducible exact LeO.none _)
      | (with_reducible refine LeO.ite ?_ ?_)
      | (with_reducible refine LeO.bind ?_ (fun _ => ?_))
      | exact ih0 _ _ _
      | exact ih1 _ _ _
      | exact billetref04_IsLabels.mono _ _
      | exact billetref04_cut.mono _ _
      | exact billetref04_split.mono _ _
      | exact LeO.none _
      | refine LeO.ite ?_ ?_
      | refine LeO.bind ?_ (fun _ => ?_)
    · intro y0 y1 y2
      unfold billetref04_Value.l0
      repeat' first
      | (with_reducible exact ih0 _ _ _)
      | (with_reducible exact ih1 _ _ _)
      | (with_reducible exact billetref04_IsLabels.mono _ _)
      | (with_reducible exact billetref04_cut.mono _ _)
      | (with_reducible exact billetref04_split.mono _ _)
      | (with_reducible exact LeO.refl _)
      | (with_reducible exact LeO.none _)
      | (with_reducible refine LeO.ite ?_ ?_)
      | (with_reducible refine LeO.bind ?_ (fun _ => ?_))
      | exact ih0 _ _ _
      | exact ih1 _ _ _
      | exact billetref04_IsLabels.mono _ _
      | exact billetref04_cut.mono _ _
      | exact billetref04_split.mono _ _
      | exact LeO.none _
      | refine LeO.ite ?_ ?_
      | refine LeO.bind ?_ (fun _ => ?_)
theorem billetref04_Value.mono : ∀ a0 a1 k, LeO (billetref04_Value.f k a0 a1) (billetref04_Value.f (k + 1) a0 a1) := by
  intro a0 a1 k
  obtain ⟨ih0, ih1⟩ := billetref04_Value.mono_l k
  unfold billetref04_Value.f
  repeat' first
      | (with_reducible exact ih0 _ _ _)
      | (with_reducible exact ih1 _ _ _)
      | (with_reducible exact billetref04_IsLabels.mono _ _)
      | (with_reducible exact billetref04_cut.mono _ _)
      | (with_reducible exact billetref04_split.mono _ _)
      | (with_reducible exact LeO.refl _)
      | (with_reducible exact LeO.none _)
      | (with_reducible refine LeO.ite ?_ ?_)
      | (with_reducible refine LeO.bind ?_ (fun _ => ?_))
      | exact ih0 _ _ _
      | exact ih1 _ _ _
      | exact billetref04_IsLabels.mono _ _
      | exact billetref04_cut.mono _ _
      | exact billetref04_split.mono _ _
      | exact LeO.none _
      | refine LeO.ite ?_ ?_
      | refine LeO.bind ?_ (fun _ => ?_)
set_option maxHeartbeats 8000000 in
set_option maxRecDepth 100000 in
theorem billetref04_Value.calls (k : Nat) (a0 : ByteArray) (a1 : ByteArray) (r1 : ByteArray) (r2 : Bool) (w : World) (h : billetref04_Value.f k a0 a1 = some (r1, r2)) :
    Calls Tryz.prog 26 #[.string a0, .string a1] w fun e w' => e = .returned (.tuple #[.string r1, .bool r2]) ∧ Below w.heap.size w w' := by
  have HB := Aside0.mk (Below.refl w.heap.size w)
  have H : ((billetref04_IsLabels.f k a0).bind fun t283 => (if t283 = true then (billetref04_Value.j0 k a0 a1 (a0.toList == ([] : List UInt8))) else (billetref04_Value.j0 k a0 a1 true))) = some (r1, r2) := h
  clear h
  replace H := Option.bind_eq_some_iff.mp H
  obtain ⟨t283, A30, H⟩ := H
  replace H : (if t283 = true then (billetref04_Value.j0 k a0 a1 (a0.toList == ([] : List UInt8))) else (billetref04_Value.j0 k a0 a1 true)) = some (r1, r2) := H
  have A3 := Aside0.mk A30
  clear A30
  have HC4 := Aside0.mk H
  clear H
  go_enter Tryz.func26, Tryz.ntmps26
  go_upto_region 2 with (first | ((with_reducible refine gate_callee (f := 28) rfl ?_); refine goesL_ (some 13) rfl rfl Tryz.func28 (by kernel_rfl) rfl #[.string a0] rfl (by (try simp only [List.map_toArray, List.map_cons, List.map_nil]); first | done | rfl | (simp only [List.length_drop, List.length_take]; rfl)) ?_; (with_reducible refine (billetref04_IsLabels.calls k a0 t283 _ A3.out).mono ?_); rintro e w5 ⟨rfl, hb⟩; refine ⟨_, rfl, ?_⟩; have n0_ := Aside0.mk (below_step (by repeat (first | (with_reducible first | exact HB.out | apply below_alloc | apply pw_below_drewN | apply below_drew1) | exact HB.out)) hb); clear HB; have HB := n0_; clear n0_; (try clear hb); (try clear hb2); (try clear hk); (try clear hi)))
  (try simp only [Act.put, List.setIfInBounds_toArray, List.set_cons_zero, List.set_cons_succ])
  go_cut [19] (fun v19 wc => ∃ (kq : Nat) (x19_3 : Bool), v19 = .bool x19_3 ∧ Aside0 (billetref04_Value.j0 kq a0 a1 x19_3 = some (r1, r2)) ∧ Aside0 (kq ≤ k) ∧ Aside0 (Below w.heap.size w wc))
  case first =>
    have H := HC4.out
    clear HC4
    by_cases c6 : t283 = true
    · subst c6
      have H1 : (billetref04_Value.j0 k a0 a1 (a0.toList == ([] : List UInt8))) = some (r1, r2) := by rw [if_pos rfl] at H; exact H
      clear H
      have H := H1
      clear H1
      have H' := Aside0.mk H
      clear H
      go_wp2
      go_meet
      case rel => exact ⟨_, ((a0.toList == ([] : List UInt8))), (by first | rfl | (simp; done) | (simp [*]; done)), H', ⟨by first | omega | exact Nat.le_refl _⟩, ⟨by repeat (first | (with_reducible first | exact HB.out | apply below_alloc | apply pw_below_drewN | apply below_drew1) | exact HB.out)⟩⟩
    · replace c6 := Bool.eq_false_iff.mpr c6
      subst c6
      have H1 : (billetref04_Value.j0 k a0 a1 true) = some (r1, r2) := by rw [if_neg (show ¬ (false = true) by decide)] at H; exact H
      clear H
      have H := H1
      clear H1
      have H' := Aside0.mk H
      clear H
      go_wp2
      go_meet
      case rel => exact ⟨_, (true), (by first | rfl | (simp; done) | (simp [*]; done)), H', ⟨by first | omega | exact Nat.le_refl _⟩, ⟨by repeat (first | (with_reducible first | exact HB.out | apply below_alloc | apply pw_below_drewN | apply below_drew1) | exact HB.out)⟩⟩
  case rest =>
    clear HC4
    try clear c2
    try clear p2
    try clear c6
    obtain ⟨kq, x19_3, rfl, HA, HJ3, HB⟩ := hcut
    cases kq with
    | zero => exact absurd HA.out (by simp [billetref04_Value.j0])
    | succ kj3 =>
      have H := HA.out
      clear HA
      simp only [billetref04_Value.j0] at H
      by_cases c7 : x19_3 = true
      · subst c7
        have H1 : (some ((⟨#[]⟩ : ByteArray), false)) = some (r1, r2) := by rw [if_pos rfl] at H; exact H
        clear H
        have H := H1
        clear H1
        simp only [Option.some.injEq, Prod.mk.injEq] at H
        obtain ⟨rfl, rfl⟩ := H
        go_wp2
        go_ret2
        exact ⟨by first | rfl | (simp [errW_none, errW_some] <;> rfl) | (simp [*, errW_none, errW_some] <;> rfl), by repeat (first | (with_reducible first | exact HB.out | apply below_alloc | apply pw_below_drewN | apply below_drew1) | exact HB.out)⟩
      · replace c7 := Bool.eq_false_iff.mpr c7
        subst c7
        have H1 : ((billetref04_split.f kj3 a0).bind fun t284 => (billetref04_Value.l0 kj3 a1 t284 0)) = some (r1, r2) := by rw [if_neg (show ¬ (false = true) by decide)] at H; exact H
        clear H
        have H := H1
        clear H1
        replace H := Option.bind_eq_some_iff.mp H
        obtain ⟨t284, A80, H⟩ := H
        replace H : (billetref04_Value.l0 kj3 a1 t284 0) = some (r1, r2) := H
        have A8 := Aside0.mk A80
        clear A80
        have H' := Aside0.mk H
        clear H
        go_wp2_with (first | ((with_reducible refine gate_callee (f := 38) rfl ?_); refine goesL_ (some 21) rfl rfl Tryz.func38 (by kernel_rfl) rfl #[.string a0] rfl (by (try simp only [List.map_toArray, List.map_cons, List.map_nil]); first | done | rfl | (simp only [List.length_drop, List.length_take]; rfl)) ?_; (with_reducible refine (billetref04_split.calls kj3 a0 t284 _ A8.out).mono ?_); rintro e w9 ⟨v285, rfl, ho0, hb⟩; refine ⟨_, rfl, ?_⟩; have n0_ := Aside0.mk (Kd.R_lower ho0 (below_size (by repeat (first | (with_reducible first | exact HB.out | apply below_alloc | apply pw_below_drewN | apply below_drew1) | exact HB.out)))); have n1_ := Aside0.mk (below_step (by repeat (first | (with_reducible first | exact HB.out | apply below_alloc | apply pw_below_drewN | apply below_drew1) | exact HB.out)) hb); clear HB; have HO286 := n0_; have HB := n1_; clear n0_ n1_; (try clear hb); (try clear hb2); (try clear hk); (try clear hi); (try clear ho0)))
        go_loopg [8] kj3 (fun kq v8 w' => ∃ (x8_2 : Int), v8 = .int .i64 x8_2 ∧ Aside0 (billetref04_Value.l0 kq a1 t284 x8_2 = some (r1, r2)) ∧ Aside0 (kq ≤ kj3) ∧ Aside0 (Kd.R Kd.string 9 w' w.heap.size (fun _ => True) v285 t284) ∧ Aside0 (Below w.heap.size w w'))
        case atStart => exact ⟨(0), (by first | rfl | (simp; done) | (simp [*]; done)), H', ⟨Nat.le_refl _⟩, ⟨by (with_reducible repeat (first | apply Kd.R_alloc | apply Kd.R_drewN | apply Kd.R_drew)); exact HO286.out⟩, ⟨by repeat (first | (with_reducible first | exact HB.out | apply below_alloc | apply pw_below_drewN | apply below_drew1) | exact HB.out)⟩⟩
        case round =>
          clear H'
          try clear c2
          try clear p2
          try clear c3
          try clear c6
          try clear c7
          try clear p2
          obtain ⟨x8_2, rfl, HA, HK2, HO_7, HB⟩ := hrel
          cases gk with
          | zero => exact absurd HA.out (by simp [billetref04_Value.l0])
          | succ k2 =>
            have H := HA.out
            clear HA
            simp only [billetref04_Value.l0] at H
            by_cases c10 : x8_2 < (t284.length : Int)
            · rw [if_pos c10] at H
              have c10b0 : decide (x8_2 < (t284.length : Int)) = true := decide_eq_true c10
              clear c10
              by_cases c11 : 0 ≤ x8_2
              · rw [if_pos c11] at H
                have c11b0 : decide (0 ≤ x8_2) = true := decide_eq_true c11
                clear c11
                replace H := Option.bind_eq_some_iff.mp H
                obtain ⟨⟨t288, t289, t290⟩, A120, H⟩ := H
                replace H : (if t288.toList = a1.toList then (some (t289, true)) else (billetref04_Value.l0 k2 a1 t284 (wrap64 (x8_2 + 1)))) = some (r1, r2) := H
                have A12 := Aside0.mk A120
                clear A120
                by_cases c13 : t288.toList = a1.toList
                · rw [if_pos c13] at H
                  have c13b0 : (t288.toList == a1.toList) = true := beq_iff_eq.mpr c13
                  have c13b1 : (t288.toList != a1.toList) = false := bne_eq_false_iff_eq.mpr c13
                  clear c13
                  simp only [Option.some.injEq, Prod.mk.injEq] at H
                  obtain ⟨rfl, rfl⟩ := H
                  obtain ⟨Ao14, co14, eo14⟩ := Kd.R_slice HO_7.out
                  subst eo14
                  have p287 : 0 ≤ (x8_2 : Int) := of_decide_eq_true (by first | (with_reducible assumption) | assumption)
                  have q287 : x8_2 < (t284.length : Int) := of_decide_eq_true (by first | (with_reducible assumption) | assumption)
                  obtain ⟨ad287, e287, hx287_0⟩ := Kd.at_string (Kd.R_reads' HO_7.out).2.2 x8_2 p287 q287
                  cases e287
                  replace p287 := eq_true p287
                  replace q287 := eq_true q287
                  go_wp2_with (first | ((with_reducible refine gate_callee (f := 47) rfl ?_); refine goesL_ (some 33) rfl rfl Tryz.func47 (by kernel_rfl) rfl #[.string (rdOf ByteArray.empty t284 x8_2)] rfl (by (try simp only [List.map_toArray, List.map_cons, List.map_nil]); first | done | rfl | (simp only [List.length_drop, List.length_take]; rfl)) ?_; (with_reducible refine (billetref04_cut.calls k2 (rdOf ByteArray.empty t284 x8_2) t288 t289 t290 _ A12.out).mono ?_); rintro e w' ⟨rfl, ⟨nd, rfl⟩⟩; refine ⟨_, rfl, ?_⟩))
                  go_ret2
                  exact ⟨by first | rfl | (simp [errW_none, errW_some] <;> rfl) | (simp [*, errW_none, errW_some] <;> rfl), by repeat (first | (with_reducible first | exact HB.out | apply below_alloc | apply pw_below_drewN | apply below_drew1) | exact HB.out)⟩
                · rw [if_neg c13] at H
                  have c13b0 : (t288.toList == a1.toList) = false := beq_eq_false_iff_ne.mpr c13
                  have c13b1 : (t288.toList != a1.toList) = true := bne_iff_ne.mpr c13
                  have H' := Aside0.mk H
                  clear H
                  obtain ⟨Ao15, co15, eo15⟩ := Kd.R_slice HO_7.out
                  subst eo15
                  have p287 : 0 ≤ (x8_2 : Int) := of_decide_eq_true (by first | (with_reducible assumption) | assumption)
                  have q287 : x8_2 < (t284.length : Int) := of_decide_eq_true (by first | (with_reducible assumption) | assumption)
                  obtain ⟨ad287, e287, hx287_0⟩ := Kd.at_string (Kd.R_reads' HO_7.out).2.2 x8_2 p287 q287
                  cases e287
                  replace p287 := eq_true p287
                  replace q287 := eq_true q287
                  go_wp2_with (first | ((with_reducible refine gate_callee (f := 47) rfl ?_); refine goesL_ (some 33) rfl rfl Tryz.func47 (by kernel_rfl) rfl #[.string (rdOf ByteArray.empty t284 x8_2)] rfl (by (try simp only [List.map_toArray, List.map_cons, List.map_nil]); first | done | rfl | (simp only [List.length_drop, List.length_take]; rfl)) ?_; (with_reducible refine (billetref04_cut.calls k2 (rdOf ByteArray.empty t284 x8_2) t288 t289 t290 _ A12.out).mono ?_); rintro e w' ⟨rfl, ⟨nd, rfl⟩⟩; refine ⟨_, rfl, ?_⟩))
                  go_roundg k2
                  case measure => have := HJ3.out; have := HK2.out; omega
                  case rel => exact ⟨(wrap64 (x8_2 + 1)), (by first | rfl | (simp; done) | (simp [*]; done)), H', ⟨by have := HJ3.out; have := HK2.out; omega⟩, ⟨by (with_reducible repeat (first | apply Kd.R_alloc | apply Kd.R_drewN | apply Kd.R_drew)); exact HO_7.out⟩, ⟨by repeat (first | (with_reducible first | exact HB.out | apply below_alloc | apply pw_below_drewN | apply below_drew1) | exact HB.out)⟩⟩
              · rw [if_neg c11] at H
                exact absurd H (by simp)
            · rw [if_neg c10] at H
              have c10b0 : decide (x8_2 < (t284.length : Int)) = false := decide_eq_false c10
              clear c10
              simp only [Option.some.injEq, Prod.mk.injEq] at H
              obtain ⟨rfl, rfl⟩ := H
              obtain ⟨Ao16, co16, eo16⟩ := Kd.R_slice HO_7.out
              subst eo16
              go_wp2
              go_ret2
              exact ⟨by first | rfl | (simp [errW_none, errW_some] <;> rfl) | (simp [*, errW_none, errW_some] <;> rfl), by repeat (first | (with_reducible first | exact HB.out | apply below_alloc | apply pw_below_drewN | apply below_drew1) | exact HB.out)⟩

end Go.Proofs.YtfafdcdmaimghaaGreatDoor.PR

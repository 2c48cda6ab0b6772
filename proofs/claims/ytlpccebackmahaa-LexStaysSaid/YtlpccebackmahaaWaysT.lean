/- Functions of the statements' own, as the kit's print tells them, and that the code computes them. -/
import Derived.Test.YtlpccebackmahaaWaysA
namespace Go.Proofs.Ytlpccebackmahaa.PW
open Go.RowKit Go.Proofs.YtlpccebackmahaaW.PrintWords Go.Proofs.YtlpccebackmahaaW.PrintLast Go.Proofs.YtlpccebackmahaaW.PrintMore
attribute [local go_sem] max2_int min2_int max_two min_two max_three min_three max_four min_four   -- for this text's walks alone
set_option linter.unusedVariables false
set_option linter.unusedSimpArgs false

/-! ### billetlaw07_taken: function 20 -/
mutual
def billetlaw07_taken.l0 : Nat → List Int → List Bool → Int → Int → List (S50) → List Int → Int → Option (List Int × Int × Bool × List Int)
  | 0, _, _, _, _, _, _, _ => none
  | k + 1, x1, x9, x10, x369000, x369001, x374000, x374001 => if x10 = 1 then (billetlaw07_taken.l2 k x1 0 x374000 x374001) else (billetlaw07_taken.l1 k x1 x9 x10 (-1) 0 x369000 x369001 x374000 x374001)
def billetlaw07_taken.l2 : Nat → List Int → Int → List Int → Int → Option (List Int × Int × Bool × List Int)
  | 0, _, _, _, _ => none
  | k + 1, x1, x13, x374000, x374001 => if x13 < (x374000.length : Int) then (if 0 ≤ x13 then (if 0 ≤ (rd x374000 x13) then (if (rd x374000 x13) < (x1.length : Int) then (billetlaw07_taken.l2 k (x1.set ((rd x374000 x13) : Int).toNat (wrap64 ((rd x1 (rd x374000 x13)) - 1))) (wrap64 (x13 + 1)) x374000 x374001) else (none)) else (none)) else (none)) else (some (x374000, x374001, true, x1))
def billetlaw07_taken.l1 : Nat → List Int → List Bool → Int → Int → Int → Int → List (S50) → List Int → Int → Option (List Int × Int × Bool × List Int)
  | 0, _, _, _, _, _, _, _, _, _ => none
  | k + 1, x1, x9, x10, x11, x12, x369000, x369001, x374000, x374001 => if x12 < (x1.length : Int) then (if x11 < 0 then (if 0 ≤ x12 then (if x12 < (x369001.length : Int) then (if ((rd_T50 x369001 x12).f0) = x10 then (if (rd x1 x12) > 0 then (billetlaw07_taken.l1 k x1 x9 x10 x12 (wrap64 (x12 + 1)) x369000 x369001 x374000 x374001) else (billetlaw07_taken.l1 k x1 x9 x10 x11 (wrap64 (x12 + 1)) x369000 x369001 x374000 x374001)) else (billetlaw07_taken.l1 k x1 x9 x10 x11 (wrap64 (x12 + 1)) x369000 x369001 x374000 x374001)) else (none)) else (none)) else (billetlaw07_taken.l1 k x1 x9 x10 x11 (wrap64 (x12 + 1)) x369000 x369001 x374000 x374001)) else (if x11 < 0 then (some (x374000, x374001, false, x1)) else (if 0 ≤ x11 then (if x11 < (x369001.length : Int) then (if 0 ≤ ((rd_T50 x369001 x11).f1) then (if ((rd_T50 x369001 x11).f1) < (x9.length : Int) then (if rdOf false x9 ((rd_T50 x369001 x11).f1) = true then (some (x374000, x374001, false, x1)) else (if x374000.length < 17592186044416 then (billetlaw07_taken.l0 k x1 (x9.set (((rd_T50 x369001 x11).f1) : Int).toNat true) ((rd_T50 x369001 x11).f1) x369000 x369001 (x374000 ++ [x11]) x374001) else (none))) else (none)) else (none)) else (none)) else (none)))
end
def billetlaw07_taken.f (k : Nat) (a0_0 : Int) (l0_1 : List (S50)) (l1 : List Int) (a2 : Int) : Option (List Int × Int × Bool × List Int) := if 0 ≤ a0_0 then (if (a0_0 : Int).toNat ≤ 281474976710656 then ((some (List.replicate (a0_0 : Int).toNat false : List Bool)).bind fun y374 => (if 0 < (y374.length : Int) then (if 0 ≤ a2 then (if a2 < (l0_1.length : Int) then (if 0 ≤ ((rd_T50 l0_1 a2).f1) then (if ((rd_T50 l0_1 a2).f1) < (y374.length : Int) then (billetlaw07_taken.l0 k l1 ((y374.set (0 : Int).toNat true).set (((rd_T50 l0_1 a2).f1) : Int).toNat true) ((rd_T50 l0_1 a2).f1) a0_0 l0_1 (([a2] : List Int)) 1) else (none)) else (none)) else (none)) else (none)) else (none))) else (none)) else (none)
theorem billetlaw07_taken.mono_l : ∀ k, (∀ y0 y1 y2 y3 y4 y5 y6, LeO (billetlaw07_taken.l0 k y0 y1 y2 y3 y4 y5 y6) (billetlaw07_taken.l0 (k + 1) y0 y1 y2 y3 y4 y5 y6)) ∧ (∀ y0 y1 y2 y3, LeO (billetlaw07_taken.l2 k y0 y1 y2 y3) (billetlaw07_taken.l2 (k + 1) y0 y1 y2 y3)) ∧ (∀ y0 y1 y2 y3 y4 y5 y6 y7 y8, LeO (billetlaw07_taken.l1 k y0 y1 y2 y3 y4 y5 y6 y7 y8) (billetlaw07_taken.l1 (k + 1) y0 y1 y2 y3 y4 y5 y6 y7 y8))
  | 0 => ⟨fun _ _ _ _ _ _ _ r h => by simp [billetlaw07_taken.l0] at h, fun _ _ _ _ r h => by simp [billetlaw07_taken.l2] at h, fun _ _ _ _ _ _ _ _ _ r h => by simp [billetlaw07_taken.l1] at h⟩
  | k + 1 => by
    obtain ⟨ih0, ih1, ih2⟩ := billetlaw07_taken.mono_l k
    refine ⟨?_, ?_, ?_⟩
    · intro y0 y1 y2 y3 y4 y5 y6
      unfold billetlaw07_taken.l0
      repeat' first
      | (with_reducible exact ih0 _ _ _ _ _ _ _)
      | (with_reducible exact ih1 _ _ _ _)
      | (with_reducible exact ih2 _ _ _ _ _ _ _ _ _)
      | (with_reducible exact LeO.refl _)
      | (with_reducible exact LeO.none _)
      | (with_reducible refine LeO.ite ?_ ?_)
      | (with_reducible refine LeO.bind ?_ (fun _ => ?_))
      | exact ih0 _ _ _ _ _ _ _
      | exact ih1 _ _ _ _
      | exact ih2 _ _ _ _ _ _ _ _ _
      | exact LeO.none _
      | refine LeO.ite ?_ ?_
      | refine LeO.bind ?_ (fun _ => ?_)
    · intro y0 y1 y2 y3
      unfold billetlaw07_taken.l2
      repeat' first
      | (with_reducible exact ih0 _ _ _ _ _ _ _)
      | (with_reducible exact ih1 _ _ _ _)
      | (with_reducible exact ih2 _ _ _ _ _ _ _ _ _)
      | (with_reducible exact LeO.refl _)
      | (with_reducible exact LeO.none _)
      | (with_reducible refine LeO.ite ?_ ?_)
      | (with_reducible refine LeO.bind ?_ (fun _ => ?_))
      | exact ih0 _ _ _ _ _ _ _
      | exact ih1 _ _ _ _
      | exact ih2 _ _ _ _ _ _ _ _ _
      | exact LeO.none _
      | refine LeO.ite ?_ ?_
      | refine LeO.bind ?_ (fun _ => ?_)
    · intro y0 y1 y2 y3 y4 y5 y6 y7 y8
      unfold billetlaw07_taken.l1
      repeat' first
      | (with_reducible exact ih0 _ _ _ _ _ _ _)
      | (with_reducible exact ih1 _ _ _ _)
      | (with_reducible exact ih2 _ _ _ _ _ _ _ _ _)
      | (with_reducible exact LeO.refl _)
      | (with_reducible exact LeO.none _)
      | (with_reducible refine LeO.ite ?_ ?_)
      | (with_reducible refine LeO.bind ?_ (fun _ => ?_))
      | exact ih0 _ _ _ _ _ _ _
      | exact ih1 _ _ _ _
      | exact ih2 _ _ _ _ _ _ _ _ _
      | exact LeO.none _
      | refine LeO.ite ?_ ?_
      | refine LeO.bind ?_ (fun _ => ?_)
theorem billetlaw07_taken.mono : ∀ a0 a1 a2 a3 k, LeO (billetlaw07_taken.f k a0 a1 a2 a3) (billetlaw07_taken.f (k + 1) a0 a1 a2 a3) := by
  intro a0 a1 a2 a3 k
  obtain ⟨ih0, ih1, ih2⟩ := billetlaw07_taken.mono_l k
  unfold billetlaw07_taken.f
  repeat' first
      | (with_reducible exact ih0 _ _ _ _ _ _ _)
      | (with_reducible exact ih1 _ _ _ _)
      | (with_reducible exact ih2 _ _ _ _ _ _ _ _ _)
      | (with_reducible exact LeO.refl _)
      | (with_reducible exact LeO.none _)
      | (with_reducible refine LeO.ite ?_ ?_)
      | (with_reducible refine LeO.bind ?_ (fun _ => ?_))
      | exact ih0 _ _ _ _ _ _ _
      | exact ih1 _ _ _ _
      | exact ih2 _ _ _ _ _ _ _ _ _
      | exact LeO.none _
      | refine LeO.ite ?_ ?_
      | refine LeO.bind ?_ (fun _ => ?_)
set_option maxHeartbeats 8000000 in
set_option maxRecDepth 100000 in
theorem billetlaw07_taken.calls (k : Nat) (a0_0 : Int) (A0_1 : Option Addr) (c0_1 : Nat) (l0_1 : List (S50)) (P1_ : Nat → Prop) (u9000_ : Value) (l1 : List Int) (a2 : Int) (r1 : List Int) (r2 : Int) (r3 : Bool) (r4 : List Int) (w0 w : World) (hB : Below w0.heap.size w0 w) (hr0_1 : ∀ W_, Kept w W_ (fun k_ => P1_ k_) → Kd.C k50 W_ A0_1 l0_1.length l0_1) (hc0_1 : l0_1.length ≤ c0_1) (ho1 : Kd.R (Kd.int .i64) 3 w w0.heap.size P1_ u9000_ l1) (h : billetlaw07_taken.f k a0_0 l0_1 l1 a2 = some (r1, r2, r3, r4)) :
    Calls Try.prog 20 #[.agg #[.int .i64 a0_0, .slice A0_1 l0_1.length c0_1], u9000_, .int .i64 a2] w fun e w' => ∃ v0_ : Value, e = .returned (.tuple #[.agg #[v0_, .int .i64 r2], .bool r3]) ∧ Kd.R (Kd.int .i64) 3 w' w0.heap.size (fun k_ => (P1_ k_ ∨ w.heap.size ≤ k_) ∧ some k_ ≠ (u9000_ : Value).ownBlock) v0_ r1 ∧ Kd.R (Kd.int .i64) 3 w' w0.heap.size (fun k_ => (P1_ k_ ∨ w.heap.size ≤ k_)) u9000_ r4 ∧ Below w0.heap.size w0 w' ∧ Kept w w' (fun k_ => P1_ k_) := by
  have hu24 := Try.underlying24
  have hu44 := Try.underlying44
  have HR0_1 := Aside0.mk hr0_1
  have HC0_1 := Aside0.mk hc0_1
  clear hr0_1 hc0_1
  have HO1 := Aside0.mk (show Kd.R (Kd.int .i64) 3 w w0.heap.size (fun k_ => (P1_ k_ ∨ w.heap.size ≤ k_)) u9000_ l1 from Kd.R_mono ho1 (fun k_ hk => (.inl hk)))
  have HK := Aside0.mk (Kept.refl w (fun k_ => P1_ k_))
  have HW0 := Aside0.mk hB.size
  have HB := Aside0.mk hB
  clear hB
  have H : (if 0 ≤ a0_0 then (if (a0_0 : Int).toNat ≤ 281474976710656 then ((some (List.replicate (a0_0 : Int).toNat false : List Bool)).bind fun y374 => (if 0 < (y374.length : Int) then (if 0 ≤ a2 then (if a2 < (l0_1.length : Int) then (if 0 ≤ ((rd_T50 l0_1 a2).f1) then (if ((rd_T50 l0_1 a2).f1) < (y374.length : Int) then (billetlaw07_taken.l0 k l1 ((y374.set (0 : Int).toNat true).set (((rd_T50 l0_1 a2).f1) : Int).toNat true) ((rd_T50 l0_1 a2).f1) a0_0 l0_1 (([a2] : List Int)) 1) else (none)) else (none)) else (none)) else (none)) else (none))) else (none)) else (none)) = some (r1, r2, r3, r4) := h
  clear h
  obtain ⟨y370, hy370⟩ : ∃ y_ : List Int, y_ = (([a2] : List Int)) := ⟨_, rfl⟩
  replace H : (if 0 ≤ a0_0 then (if (a0_0 : Int).toNat ≤ 281474976710656 then ((some (List.replicate (a0_0 : Int).toNat false : List Bool)).bind fun y374 => (if 0 < (y374.length : Int) then (if 0 ≤ a2 then (if a2 < (l0_1.length : Int) then (if 0 ≤ ((rd_T50 l0_1 a2).f1) then (if ((rd_T50 l0_1 a2).f1) < (y374.length : Int) then (billetlaw07_taken.l0 k l1 ((y374.set (0 : Int).toNat true).set (((rd_T50 l0_1 a2).f1) : Int).toNat true) ((rd_T50 l0_1 a2).f1) a0_0 l0_1 y370 1) else (none)) else (none)) else (none)) else (none)) else (none))) else (none)) else (none)) = some (r1, r2, r3, r4) := by first | (rw [hy370]; with_reducible exact H) | (have H2_ := (Option.bind_some _ _).symm.trans H; rw [hy370]; with_reducible exact H2_) | (have H2_ := (Option.bind_some _ _).symm.trans H; with_reducible exact H2_) | with_reducible exact H | (rw [hy370]; exact H) | exact H
  have Ny370 := Aside0.mk hy370
  clear hy370
  by_cases c4 : 0 ≤ a0_0
  · rw [if_pos c4] at H
    have c4b0 := eq_true c4
    have c4b1 : decide (0 ≤ a0_0) = true := decide_eq_true c4
    clear c4
    by_cases c5 : (a0_0 : Int).toNat ≤ 281474976710656
    · rw [if_pos c5] at H
      have c5b0 := eq_true c5
      have c5b1 : decide ((a0_0 : Int).toNat ≤ 281474976710656) = true := decide_eq_true c5
      clear c5
      obtain ⟨y374, hy374⟩ : ∃ y_ : List Bool, y_ = (List.replicate (a0_0 : Int).toNat false) := ⟨_, rfl⟩
      replace H : (if 0 < (y374.length : Int) then (if 0 ≤ a2 then (if a2 < (l0_1.length : Int) then (if 0 ≤ ((rd_T50 l0_1 a2).f1) then (if ((rd_T50 l0_1 a2).f1) < (y374.length : Int) then (billetlaw07_taken.l0 k l1 ((y374.set (0 : Int).toNat true).set (((rd_T50 l0_1 a2).f1) : Int).toNat true) ((rd_T50 l0_1 a2).f1) a0_0 l0_1 y370 1) else (none)) else (none)) else (none)) else (none)) else (none)) = some (r1, r2, r3, r4) := by first | (rw [hy374]; with_reducible exact H) | (have H2_ := (Option.bind_some _ _).symm.trans H; rw [hy374]; with_reducible exact H2_) | (have H2_ := (Option.bind_some _ _).symm.trans H; with_reducible exact H2_) | with_reducible exact H | (rw [hy374]; exact H) | exact H
      have Ny374 := Aside0.mk hy374
      clear hy374
      by_cases c6 : 0 < (y374.length : Int)
      · rw [if_pos c6] at H
        have c6b0 : decide (0 < (y374.length : Int)) = true := decide_eq_true c6
        have c6b1 : decide (0 < y374.length) = true := decide_eq_true (by omega)
        clear c6
        obtain ⟨y377, hy377⟩ : ∃ y_ : List Bool, y_ = (y374.set (0 : Int).toNat true) := ⟨_, rfl⟩
        replace H : (if 0 ≤ a2 then (if a2 < (l0_1.length : Int) then (if 0 ≤ ((rd_T50 l0_1 a2).f1) then (if ((rd_T50 l0_1 a2).f1) < (y374.length : Int) then (billetlaw07_taken.l0 k l1 (y377.set (((rd_T50 l0_1 a2).f1) : Int).toNat true) ((rd_T50 l0_1 a2).f1) a0_0 l0_1 y370 1) else (none)) else (none)) else (none)) else (none)) = some (r1, r2, r3, r4) := by first | (rw [hy377]; with_reducible exact H) | (have H2_ := (Option.bind_some _ _).symm.trans H; rw [hy377]; with_reducible exact H2_) | (have H2_ := (Option.bind_some _ _).symm.trans H; with_reducible exact H2_) | with_reducible exact H | (rw [hy377]; exact H) | exact H
        have Ny377 := Aside0.mk hy377
        clear hy377
        by_cases c8 : 0 ≤ a2
        · rw [if_pos c8] at H
          have c8b0 : decide (0 ≤ a2) = true := decide_eq_true c8
          clear c8
          by_cases c9 : a2 < (l0_1.length : Int)
          · rw [if_pos c9] at H
            have c9b0 : decide (a2 < (l0_1.length : Int)) = true := decide_eq_true c9
            clear c9
            by_cases c10 : 0 ≤ ((rd_T50 l0_1 a2).f1)
            · rw [if_pos c10] at H
              have c10b0 : decide (0 ≤ ((rd_T50 l0_1 a2).f1)) = true := decide_eq_true c10
              clear c10
              by_cases c11 : ((rd_T50 l0_1 a2).f1) < (y374.length : Int)
              · rw [if_pos c11] at H
                have c11b0 : decide (((rd_T50 l0_1 a2).f1) < (y374.length : Int)) = true := decide_eq_true c11
                clear c11
                obtain ⟨y379, hy379⟩ : ∃ y_ : List Bool, y_ = (y377.set (((rd_T50 l0_1 a2).f1) : Int).toNat true) := ⟨_, rfl⟩
                replace H : (billetlaw07_taken.l0 k l1 y379 ((rd_T50 l0_1 a2).f1) a0_0 l0_1 y370 1) = some (r1, r2, r3, r4) := by first | (rw [hy379]; with_reducible exact H) | (have H2_ := (Option.bind_some _ _).symm.trans H; rw [hy379]; with_reducible exact H2_) | (have H2_ := (Option.bind_some _ _).symm.trans H; with_reducible exact H2_) | with_reducible exact H | (rw [hy379]; exact H) | exact H
                have Ny379 := Aside0.mk hy379
                clear hy379
                have H' := Aside0.mk H
                clear H
                go_enter Try.func20, Try.ntmps20
                go_wp2_with (first | ((with_reducible refine gate_dst (N := 3) rfl ?_); refine box_event ?hg (N := 3) ?hd (cs := #[.int .i64 a0_0, .slice A0_1 l0_1.length c0_1]) (t := 24) ?hr ?_; (case hd => rfl); (case hg => rfl); (case hr => first | (go_simp; done) | (go_simp; rfl)); intro gb368 hg w13 hbox hb; have n0_ := Aside0.mk (Kd.R_below (by (with_reducible repeat (first | apply Kd.R_alloc | apply Kd.R_drewN | apply Kd.R_drew)); exact HO1.out) hb); have n1_ := Aside0.mk (Kept.below (S := (fun k_ => P1_ k_)) (by repeat (first | (with_reducible first | exact HK.out | apply Kept.alloc | apply Kept.drewN | apply Kept.drew) | exact HK.out)) hb); have n2_ := Aside0.mk (below_step (by repeat (first | (with_reducible first | exact HB.out | apply below_alloc | apply pw_below_drewN | apply below_drew1) | exact HB.out)) hb); have n3_ := Aside0.mk (hbox); have n4_ := Aside0.mk ((by rw [hg]; exact (by first | exact HK.out.1 | exact (show Kept w _ (fun k_ => P1_ k_) from by repeat (first | (with_reducible first | exact HK.out | apply Kept.alloc | apply Kept.drewN | apply Kept.drew) | exact HK.out)).1) : w.heap.size ≤ gb368)); have n5_ := Aside0.mk ((by rw [hg]; exact (below_size (by repeat (first | (with_reducible first | exact HB.out | apply below_alloc | apply pw_below_drewN | apply below_drew1) | exact HB.out))) : w0.heap.size ≤ gb368)); clear HO1; clear HK; clear HB; have HO1 := n0_; have HK := n1_; have HB := n2_; have BK368 := n3_; have GW368 := n4_; have GE368 := n5_; clear n0_ n1_ n2_ n3_ n4_ n5_; clear hb hbox hg) | ((with_reducible refine gate_dst (N := 6) rfl ?_); refine box_event ?hg (N := 6) ?hd (cs := #[.slice none 0 0, .int .i64 0]) (t := 44) ?hr ?_; (case hd => rfl); (case hg => rfl); (case hr => first | (go_simp; done) | (go_simp; rfl)); intro gb369 hg w14 hbox hb; have n0_ := Aside0.mk (Kd.R_below (by (with_reducible repeat (first | apply Kd.R_alloc | apply Kd.R_drewN | apply Kd.R_drew)); exact HO1.out) hb); have n1_ := Aside0.mk (blk_below (g := gb368) (o := .cells #[.int .i64 a0_0, .slice A0_1 l0_1.length c0_1] 24 (0, 0)) (by (with_reducible repeat (first | refine blk_drewN ?_ _ | refine blk_drew ?_ | refine blk_alloc ?_ _)); exact BK368.out) hb); have n2_ := Aside0.mk (Kept.below (S := (fun k_ => P1_ k_)) (by repeat (first | (with_reducible first | exact HK.out | apply Kept.alloc | apply Kept.drewN | apply Kept.drew | refine Kept.setCell ?_ (.inr GW368.out) _) | exact HK.out)) hb); have n3_ := Aside0.mk (below_step (by repeat (first | (with_reducible first | exact HB.out | apply below_alloc | apply pw_below_drewN | apply below_drew1 | refine below_set ?_ GE368.out) | exact HB.out)) hb); have n4_ := Aside0.mk (hbox); have n5_ := Aside0.mk ((by rw [hg]; exact (by first | exact HK.out.1 | exact (show Kept w _ (fun k_ => P1_ k_) from by repeat (first | (with_reducible first | exact HK.out | apply Kept.alloc | apply Kept.drewN | apply Kept.drew | refine Kept.setCell ?_ (.inr GW368.out) _) | exact HK.out)).1) : w.heap.size ≤ gb369)); have n6_ := Aside0.mk ((by rw [hg]; exact (below_size (by repeat (first | (with_reducible first | exact HB.out | apply below_alloc | apply pw_below_drewN | apply below_drew1 | refine below_set ?_ GE368.out) | exact HB.out))) : w0.heap.size ≤ gb369)); have n7_ := Aside0.mk ((by rw [hg]; exact Nat.ne_of_lt (blk_lt (g := gb368) (o := .cells #[.int .i64 a0_0, .slice A0_1 l0_1.length c0_1] 24 (0, 0)) (by (with_reducible repeat (first | refine blk_drewN ?_ _ | refine blk_drew ?_ | refine blk_alloc ?_ _)); exact BK368.out)) : gb368 ≠ gb369)); have n8_ := Aside0.mk ((by rw [hg]; exact Nat.ne_of_gt (blk_lt (g := gb368) (o := .cells #[.int .i64 a0_0, .slice A0_1 l0_1.length c0_1] 24 (0, 0)) (by (with_reducible repeat (first | refine blk_drewN ?_ _ | refine blk_drew ?_ | refine blk_alloc ?_ _)); exact BK368.out)) : gb369 ≠ gb368)); clear HO1; clear BK368; clear HK; clear HB; have HO1 := n0_; have BK368 := n1_; have HK := n2_; have HB := n3_; have BK369 := n4_; have GW369 := n5_; have GE369 := n6_; have NB368_369 := n7_; have NB369_368 := n8_; clear n0_ n1_ n2_ n3_ n4_ n5_ n6_ n7_ n8_; clear hb hbox hg) | ((with_reducible refine gate_dst (N := 15) rfl ?_); refine Kd.R_lit (Kd.int .i64) _ 3 ?hg (N := 15) ?hd (xs := ([a2] : List Int)) (inner := [.int .i64 a2]) (ok := fun _ => True) (okp := fun _ => True) ?hr ?hp (fun _ hk => hk) trivial (Below.refl _ _) (Nat.le_refl _) (by simp) ?_; (case hd => rfl); (case hg => rfl); (case hr => first | (go_simp; done) | (go_simp; rfl)); (case hp => exact (Reps.one (show Kd.M (Kd.int .i64) _ _ _ a2 [.int .i64 a2] from rfl) (Reps.none _ _))); intro v371 w15 ho16 hb hg_ hnew_; clear hg_ hnew_; (first | rw [← Ny370.out] at ho16 | (simp only [Int.reduceToNat] at ho16; rw [← Ny370.out] at ho16)); have n0_ := Aside0.mk (Kd.R_elder' (by (with_reducible repeat (first | apply Kd.R_alloc | apply Kd.R_drewN | apply Kd.R_drew)); exact HO1.out) (Kd.R_base ho16) hb); have n1_ := Aside0.mk (Kd.R_lower (Kd.R_new' (Kd.R_newM (M := fun k_ => (P1_ k_ ∨ w.heap.size ≤ k_)) ho16 (by first | exact HK.out.1 | exact (show Kept w _ (fun k_ => P1_ k_) from by repeat (first | (with_reducible first | exact HK.out | apply Kept.alloc | apply Kept.drewN | apply Kept.drew | refine Kept.setCell ?_ (.inr GW368.out) _ | refine Kept.setCell ?_ (.inr GW369.out) _) | exact HK.out)).1) (fun k_ h_ => .inr h_)) (Kd.R_lt (by (with_reducible repeat (first | apply Kd.R_alloc | apply Kd.R_drewN | apply Kd.R_drew)); exact HO1.out))) (below_size (by repeat (first | (with_reducible first | exact HB.out | apply below_alloc | apply pw_below_drewN | apply below_drew1 | refine below_set ?_ GE368.out | refine below_set ?_ GE369.out) | exact HB.out)))); have n2_ := Aside0.mk (blk_below (g := gb368) (o := .cells #[.int .i64 a0_0, .slice A0_1 l0_1.length c0_1] 24 (0, 0)) (by (with_reducible repeat (first | refine blk_drewN ?_ _ | refine blk_drew ?_ | refine blk_alloc ?_ _)); exact BK368.out) hb); have n3_ := Aside0.mk (blk_below (g := gb369) (o := .cells #[.slice none 0 0, .int .i64 0] 44 (0, 0)) (by (with_reducible repeat (first | refine blk_drewN ?_ _ | refine blk_drew ?_ | refine blk_alloc ?_ _)); exact BK369.out) hb); have n4_ := Aside0.mk (Kept.below (S := (fun k_ => P1_ k_)) (by repeat (first | (with_reducible first | exact HK.out | apply Kept.alloc | apply Kept.drewN | apply Kept.drew | refine Kept.setCell ?_ (.inr GW368.out) _ | refine Kept.setCell ?_ (.inr GW369.out) _) | exact HK.out)) hb); have n5_ := Aside0.mk (below_step (by repeat (first | (with_reducible first | exact HB.out | apply below_alloc | apply pw_below_drewN | apply below_drew1 | refine below_set ?_ GE368.out | refine below_set ?_ GE369.out) | exact HB.out)) hb); clear HO1; clear BK368; clear BK369; clear HK; clear HB; have HO1 := n0_; have HO372 := n1_; have BK368 := n2_; have BK369 := n3_; have HK := n4_; have HB := n5_; clear n0_ n1_ n2_ n3_ n4_ n5_; clear hb ho16; obtain ⟨Ao17, co17, eo17⟩ := Kd.R_slice HO372.out; subst eo17) | ((with_reducible refine gate_dst (N := 8) rfl ?_); refine box_event ?hg (N := 8) ?hd (cs := #[.slice none 0 0, .int .i64 0]) (t := 44) ?hr ?_; (case hd => rfl); (case hg => rfl); (case hr => first | (go_simp; done) | (go_simp; rfl)); intro gb373 hg w18 hbox hb; have n0_ := Aside0.mk (Kd.R_below (by (with_reducible repeat (first | apply Kd.R_alloc | apply Kd.R_drewN | apply Kd.R_drew)); exact HO1.out) hb); have n1_ := Aside0.mk (Kd.R_below (by (with_reducible repeat (first | apply Kd.R_alloc | apply Kd.R_drewN | apply Kd.R_drew)); exact HO372.out) hb); have n2_ := Aside0.mk (blk_below (g := gb368) (o := .cells #[.int .i64 a0_0, .slice A0_1 l0_1.length c0_1] 24 (0, 0)) (by (with_reducible repeat (first | refine blk_drewN ?_ _ | refine blk_drew ?_ | refine blk_alloc ?_ _)); exact BK368.out) hb); have n3_ := Aside0.mk (blk_below (g := gb369) (o := .cells #[.slice none 0 0, .int .i64 0] 44 (0, 0)) (by (with_reducible repeat (first | refine blk_drewN ?_ _ | refine blk_drew ?_ | refine blk_alloc ?_ _)); exact BK369.out) hb); have n4_ := Aside0.mk (Kept.below (S := (fun k_ => P1_ k_)) (by repeat (first | (with_reducible first | exact HK.out | apply Kept.alloc | apply Kept.drewN | apply Kept.drew | refine Kept.setCell ?_ (.inr GW368.out) _ | refine Kept.setCell ?_ (.inr GW369.out) _) | exact HK.out)) hb); have n5_ := Aside0.mk (below_step (by repeat (first | (with_reducible first | exact HB.out | apply below_alloc | apply pw_below_drewN | apply below_drew1 | refine below_set ?_ GE368.out | refine below_set ?_ GE369.out) | exact HB.out)) hb); have n6_ := Aside0.mk (hbox); have n7_ := Aside0.mk ((by rw [hg]; exact (by first | exact HK.out.1 | exact (show Kept w _ (fun k_ => P1_ k_) from by repeat (first | (with_reducible first | exact HK.out | apply Kept.alloc | apply Kept.drewN | apply Kept.drew | refine Kept.setCell ?_ (.inr GW368.out) _ | refine Kept.setCell ?_ (.inr GW369.out) _) | exact HK.out)).1) : w.heap.size ≤ gb373)); have n8_ := Aside0.mk ((by rw [hg]; exact (below_size (by repeat (first | (with_reducible first | exact HB.out | apply below_alloc | apply pw_below_drewN | apply below_drew1 | refine below_set ?_ GE368.out | refine below_set ?_ GE369.out) | exact HB.out))) : w0.heap.size ≤ gb373)); have n9_ := Aside0.mk ((by rw [hg]; exact Nat.ne_of_lt (blk_lt (g := gb368) (o := .cells #[.int .i64 a0_0, .slice A0_1 l0_1.length c0_1] 24 (0, 0)) (by (with_reducible repeat (first | refine blk_drewN ?_ _ | refine blk_drew ?_ | refine blk_alloc ?_ _)); exact BK368.out)) : gb368 ≠ gb373)); have n10_ := Aside0.mk ((by rw [hg]; exact Nat.ne_of_gt (blk_lt (g := gb368) (o := .cells #[.int .i64 a0_0, .slice A0_1 l0_1.length c0_1] 24 (0, 0)) (by (with_reducible repeat (first | refine blk_drewN ?_ _ | refine blk_drew ?_ | refine blk_alloc ?_ _)); exact BK368.out)) : gb373 ≠ gb368)); have n11_ := Aside0.mk ((by rw [hg]; exact Nat.ne_of_lt (blk_lt (g := gb369) (o := .cells #[.slice none 0 0, .int .i64 0] 44 (0, 0)) (by (with_reducible repeat (first | refine blk_drewN ?_ _ | refine blk_drew ?_ | refine blk_alloc ?_ _)); exact BK369.out)) : gb369 ≠ gb373)); have n12_ := Aside0.mk ((by rw [hg]; exact Nat.ne_of_gt (blk_lt (g := gb369) (o := .cells #[.slice none 0 0, .int .i64 0] 44 (0, 0)) (by (with_reducible repeat (first | refine blk_drewN ?_ _ | refine blk_drew ?_ | refine blk_alloc ?_ _)); exact BK369.out)) : gb373 ≠ gb369)); clear HO1; clear HO372; clear BK368; clear BK369; clear HK; clear HB; have HO1 := n0_; have HO372 := n1_; have BK368 := n2_; have BK369 := n3_; have HK := n4_; have HB := n5_; have BK373 := n6_; have GW373 := n7_; have GE373 := n8_; have NB368_373 := n9_; have NB373_368 := n10_; have NB369_373 := n11_; have NB373_369 := n12_; clear n0_ n1_ n2_ n3_ n4_ n5_ n6_ n7_ n8_ n9_ n10_ n11_ n12_; clear hb hbox hg; have hnb19 := NB373_368.out; have hnc19 := NB368_373.out; have hnb20 := NB373_369.out; have hnc20 := NB369_373.out; have hcz21_0 : w18.cell? ⟨gb373, 0, none⟩ = some (.slice none 0 0) := (blk_cell BK373.out 0).trans rfl; have hcz21_1 : w18.cell? ⟨gb373, 1, none⟩ = some (.int .i64 0) := (blk_cell BK373.out 1).trans rfl; have hfz21_0 := blk_frozen BK373.out 0; have hfz21_1 := blk_frozen BK373.out 1; have hnb22 := NB368_369.out; have hnc22 := NB369_368.out; have hcz23_0 : w18.cell? ⟨gb368, 0, none⟩ = some (.int .i64 a0_0) := (blk_cell BK368.out 0).trans rfl; have hcz23_1 : w18.cell? ⟨gb368, 1, none⟩ = some (.slice A0_1 l0_1.length c0_1) := (blk_cell BK368.out 1).trans rfl; have hfz23_0 := blk_frozen BK368.out 0; have hfz23_1 := blk_frozen BK368.out 1) | ((with_reducible refine gate_dst (N := 19) rfl ?_); refine Kd.R_make Kd.bool _ 4 rfl (N := 19) rfl 61 _ _ rfl a0_0 rfl rfl Try.underlying61 (.bool false) 1 info4 rfl (by decide) (by omega) false (ok := fun _ => True) (okp := fun _ => True) rfl (fun _ hk => hk) trivial (of_decide_eq_true (by first | (with_reducible assumption) | assumption)) (Nat.le_trans (Nat.mul_le_mul_right _ (of_decide_eq_true (by first | (with_reducible assumption) | assumption) : a0_0.toNat ≤ 281474976710656)) (by omega)) (Below.refl _ _) (Nat.le_refl _) ?_; intro v375 w24 ho25 hb hg_ hnew_; clear hg_ hnew_; (first | rw [← Ny374.out] at ho25 | (simp only [Int.reduceToNat] at ho25; rw [← Ny374.out] at ho25)); have n0_ := Aside0.mk (Kd.R_below (by (with_reducible repeat (first | apply Kd.R_alloc | apply Kd.R_drewN | apply Kd.R_drew)); exact (Kd.R_mono (Kd.R_far (p := ⟨gb373, 1, none⟩) (Kd.R_far (p := ⟨gb373, 0, none⟩) (Kd.R_types HO1.out BK373.out (by decide)) (fun _ hk => hk.2) (.slice Ao17 y370.length co17)) (fun _ hk => hk.2) (.int .i64 1)) (fun _ h_ => h_.1))) hb); have n1_ := Aside0.mk (Kd.R_below (by (with_reducible repeat (first | apply Kd.R_alloc | apply Kd.R_drewN | apply Kd.R_drew)); exact (Kd.R_mono (Kd.R_far (p := ⟨gb373, 1, none⟩) (Kd.R_far (p := ⟨gb373, 0, none⟩) (Kd.R_types HO372.out BK373.out (by decide)) (fun _ hk => hk.2) (.slice Ao17 y370.length co17)) (fun _ hk => hk.2) (.int .i64 1)) (fun _ h_ => h_.1))) hb); have n2_ := Aside0.mk (Kd.R_lower (Kd.R_newM (M := fun k_ => (P1_ k_ ∨ w.heap.size ≤ k_)) ho25 (show Kept w _ (fun k_ => P1_ k_) from by repeat (first | (with_reducible first | exact HK.out | apply Kept.alloc | apply Kept.drewN | apply Kept.drew | refine Kept.setCell ?_ (.inr GW368.out) _ | refine Kept.setCell ?_ (.inr GW369.out) _ | refine Kept.setCell ?_ (.inr GW373.out) _) | exact HK.out)).1 (fun k_ h_ => .inr h_)) (below_size (by repeat (first | (with_reducible first | exact HB.out | apply below_alloc | apply pw_below_drewN | apply below_drew1 | refine below_set ?_ GE368.out | refine below_set ?_ GE369.out | refine below_set ?_ GE373.out) | exact HB.out)))); have n3_ := Aside0.mk (blk_below (g := gb368) (o := .cells #[.int .i64 a0_0, .slice A0_1 l0_1.length c0_1] 24 (0, 0)) (by (with_reducible repeat (first | refine blk_drewN ?_ _ | refine blk_drew ?_ | refine blk_alloc ?_ _)); refine blk_far ?_ NB368_373.out _; (with_reducible repeat (first | refine blk_drewN ?_ _ | refine blk_drew ?_ | refine blk_alloc ?_ _)); refine blk_far ?_ NB368_373.out _; (with_reducible repeat (first | refine blk_drewN ?_ _ | refine blk_drew ?_ | refine blk_alloc ?_ _)); exact BK368.out) hb); have n4_ := Aside0.mk (blk_below (g := gb369) (o := .cells #[.slice none 0 0, .int .i64 0] 44 (0, 0)) (by (with_reducible repeat (first | refine blk_drewN ?_ _ | refine blk_drew ?_ | refine blk_alloc ?_ _)); refine blk_far ?_ NB369_373.out _; (with_reducible repeat (first | refine blk_drewN ?_ _ | refine blk_drew ?_ | refine blk_alloc ?_ _)); refine blk_far ?_ NB369_373.out _; (with_reducible repeat (first | refine blk_drewN ?_ _ | refine blk_drew ?_ | refine blk_alloc ?_ _)); exact BK369.out) hb); have n5_ := Aside0.mk (blk_below (g := gb373) (o := .cells #[.slice Ao17 y370.length co17, .int .i64 1] 44 (0, 0)) (by (with_reducible repeat (first | refine blk_drewN ?_ _ | refine blk_drew ?_ | refine blk_alloc ?_ _)); refine blk_put (cs := #[.slice Ao17 y370.length co17, .int .i64 0]) ?_ 1 _ rfl; (with_reducible repeat (first | refine blk_drewN ?_ _ | refine blk_drew ?_ | refine blk_alloc ?_ _)); refine blk_put (cs := #[.slice none 0 0, .int .i64 0]) ?_ 0 _ rfl; (with_reducible repeat (first | refine blk_drewN ?_ _ | refine blk_drew ?_ | refine blk_alloc ?_ _)); exact BK373.out) hb); have n6_ := Aside0.mk (Kept.below (S := (fun k_ => P1_ k_)) (by repeat (first | (with_reducible first | exact HK.out | apply Kept.alloc | apply Kept.drewN | apply Kept.drew | refine Kept.setCell ?_ (.inr GW368.out) _ | refine Kept.setCell ?_ (.inr GW369.out) _ | refine Kept.setCell ?_ (.inr GW373.out) _) | exact HK.out)) hb); have n7_ := Aside0.mk (below_step (by repeat (first | (with_reducible first | exact HB.out | apply below_alloc | apply pw_below_drewN | apply below_drew1 | refine below_set ?_ GE368.out | refine below_set ?_ GE369.out | refine below_set ?_ GE373.out) | exact HB.out)) hb); clear HO1; clear HO372; clear BK368; clear BK369; clear BK373; clear HK; clear HB; have HO1 := n0_; have HO372 := n1_; have HO376 := n2_; have BK368 := n3_; have BK369 := n4_; have BK373 := n5_; have HK := n6_; have HB := n7_; clear n0_ n1_ n2_ n3_ n4_ n5_ n6_ n7_; clear hb ho25; have p7 : 0 ≤ (0 : Int) := (by omega); have q7 : (0 : Int) < ((y374.length : Int) : Int) := of_decide_eq_true (by first | (with_reducible assumption) | assumption); have qi7 : (0 < y374.length) = True := eq_true (by omega); obtain ⟨go7, co7, eo7, gb7, gl7, cl7, HG7⟩ := Kd.R_form HO376.out (by omega); (first | cases eo7 | (injection eo7 with ea_ en_ ec_; (first | subst ea_ | (injection ea_ with ea_; subst ea_)); subst ec_; clear en_)); have GB7 := Aside0.mk gb7; have GG7 := Aside0.mk HG7; clear gb7 gl7 HG7; have HMgo7 := Aside0.mk (show (P1_ go7 ∨ w.heap.size ≤ go7) from (HO376.out.1 _ rfl).1); obtain ⟨hx7_0, hf7_0⟩ := Kd.R_celln false HO376.out (0 : Int) p7 q7; (try rw [show ((0 : Int)).toNat = 0 from rfl] at hx7_0); (try simp only [Nat.reduceMul, Nat.zero_mul, Nat.zero_add, Nat.reduceAdd] at hx7_0); (try rw [show ((0 : Int)).toNat = 0 from rfl] at hf7_0); (try simp only [Nat.reduceMul, Nat.zero_mul, Nat.zero_add, Nat.reduceAdd] at hf7_0); replace p7 := eq_true p7; replace q7 := eq_true q7; have n_ := Aside0.mk (Kd.R_mono (ok' := (fun k_ => (P1_ k_ ∨ w.heap.size ≤ k_))) HO376.out (fun k_ hk => hk.1)); clear HO376; have HO376 := n_; clear n_; obtain ⟨hy26_, hz26_⟩ := Kd.R_celln false HO376.out (0 : Int) (by omega) (of_decide_eq_true (by first | (with_reducible assumption) | assumption)); (try simp only [Int.reduceToNat, Int.toNat_zero, Int.toNat_ofNat, Nat.reduceMul, Nat.zero_mul, Nat.zero_add] at hy26_ hz26_); (try rw [show ((0 : Int)).toNat = 0 from rfl] at hy26_); (try rw [show ((0 : Int)).toNat = 0 from rfl] at hz26_); have HP26 := Kd.R_putg HO376.out (0 : Int) true) | ((with_reducible refine gate_store (t := 4) (p := 21) rfl ?_); refine store_event (t := 4) (p := 21) (v := ?vo_w27) (w1 := (w24.setCell ⟨go7, (0 : Int).toNat, none⟩ (.bool true))) ?hg ?ho ?hn ?hr ?_; (case ho => rfl); (case hg => rfl); (case hn => rfl); (case hr => first | (go_simp; done) | (go_simp; rfl)); intro w27 hw; have hg : w24.grownBy w27 (some go7) := (by rw [hw]; exact HP26.2); have hp_ : Kd.R Kd.bool 4 w27 w0.heap.size (fun k_ => (P1_ k_ ∨ w.heap.size ≤ k_)) (.slice (some ⟨go7, 0, none⟩) y374.length co7) y377 := (by rw [hw, Ny377.out]; exact HP26.1); clear HP26; have n0_ := Aside0.mk (Kd.R_over' (v := (.slice (some ⟨go7, 0, none⟩) y374.length co7)) (by (with_reducible repeat (first | apply Kd.R_alloc | apply Kd.R_drewN | apply Kd.R_drew)); exact HO1.out) (Kd.R_typed HO376.out) (by decide) hg); have n1_ := Aside0.mk (blk_grown (g := gb368) (o := .cells #[.int .i64 a0_0, .slice A0_1 l0_1.length c0_1] 24 (0, 0)) (by (with_reducible repeat (first | refine blk_drewN ?_ _ | refine blk_drew ?_ | refine blk_alloc ?_ _)); exact BK368.out) hg (Kd.R_ne HO376.out BK368.out (by decide))); have n2_ := Aside0.mk (blk_grown (g := gb369) (o := .cells #[.slice none 0 0, .int .i64 0] 44 (0, 0)) (by (with_reducible repeat (first | refine blk_drewN ?_ _ | refine blk_drew ?_ | refine blk_alloc ?_ _)); exact BK369.out) hg (Kd.R_ne HO376.out BK369.out (by decide))); have n3_ := Aside0.mk (Kd.R_over' (v := (.slice (some ⟨go7, 0, none⟩) y374.length co7)) (by (with_reducible repeat (first | apply Kd.R_alloc | apply Kd.R_drewN | apply Kd.R_drew)); exact HO372.out) (Kd.R_typed HO376.out) (by decide) hg); have n4_ := Aside0.mk (blk_grown (g := gb373) (o := .cells #[.slice Ao17 y370.length co17, .int .i64 1] 44 (0, 0)) (by (with_reducible repeat (first | refine blk_drewN ?_ _ | refine blk_drew ?_ | refine blk_alloc ?_ _)); exact BK373.out) hg (Kd.R_ne HO376.out BK373.out (by decide))); have n5_ := Aside0.mk (hp_); have n6_ := Aside0.mk ((by rw [hw]; exact below_set (HB.out) GB7.out : Below w0.heap.size w0 w27)); have n7_ := Aside0.mk (Kept.of_grown (S := (fun k_ => P1_ k_)) hg (by repeat (first | (with_reducible first | exact HK.out | apply Kept.alloc | apply Kept.drewN | apply Kept.drew | refine Kept.setCell ?_ (.inr GW368.out) _ | refine Kept.setCell ?_ (.inr GW369.out) _ | refine Kept.setCell ?_ (.inr GW373.out) _) | exact HK.out)) (fun k_ e_ => (HO376.out.1 k_ e_))); clear HO1; clear BK368; clear BK369; clear HO372; clear BK373; clear HO376; clear HB; clear HK; have HO1 := n0_; have BK368 := n1_; have BK369 := n2_; have HO372 := n3_; have BK373 := n4_; have HO376 := n5_; have HB := n6_; have HK := n7_; clear n0_ n1_ n2_ n3_ n4_ n5_ n6_ n7_; clear hg hw hp_; have hcz28_0 : w27.cell? ⟨gb368, 0, none⟩ = some (.int .i64 a0_0) := (blk_cell BK368.out 0).trans rfl; have hcz28_1 : w27.cell? ⟨gb368, 1, none⟩ = some (.slice A0_1 l0_1.length c0_1) := (blk_cell BK368.out 1).trans rfl; have hfz28_0 := blk_frozen BK368.out 0; have hfz28_1 := blk_frozen BK368.out 1; have p378 : 0 ≤ (a2 : Int) := of_decide_eq_true (by first | (with_reducible assumption) | assumption); have q378 : a2 < (l0_1.length : Int) := of_decide_eq_true (by first | (with_reducible assumption) | assumption); obtain ⟨ad378, e378, hx378_0, hx378_1, hx378_2⟩ := at_T50 (Kd.C_kept_now HR0_1.out HK.out) a2 p378 q378; cases e378; replace p378 := eq_true p378; replace q378 := eq_true q378; have p12 : 0 ≤ (((rd_T50 l0_1 a2).f1) : Int) := of_decide_eq_true (by first | (with_reducible assumption) | assumption); have q12 : (((rd_T50 l0_1 a2).f1) : Int) < ((y374.length : Int) : Int) := of_decide_eq_true (by first | (with_reducible assumption) | assumption); obtain ⟨hx12_0, hf12_0⟩ := Kd.R_celln false HO376.out (((rd_T50 l0_1 a2).f1) : Int) p12 q12; replace p12 := eq_true p12; replace q12 := eq_true q12; obtain ⟨hy29_, hz29_⟩ := Kd.R_celln false HO376.out (((rd_T50 l0_1 a2).f1) : Int) (of_decide_eq_true (by first | (with_reducible assumption) | assumption)) (of_decide_eq_true (by first | (with_reducible assumption) | assumption)); have HP29 := Kd.R_putg HO376.out (((rd_T50 l0_1 a2).f1) : Int) true) | ((with_reducible refine gate_store (t := 4) (p := 30) rfl ?_); refine store_event (t := 4) (p := 30) (v := ?vo_w30) (w1 := (w27.setCell ⟨go7, (((rd_T50 l0_1 a2).f1) : Int).toNat, none⟩ (.bool true))) ?hg ?ho ?hn ?hr ?_; (case ho => rfl); (case hg => rfl); (case hn => rfl); (case hr => first | (go_simp; done) | (go_simp; rfl)); intro w30 hw; have hg : w27.grownBy w30 (some go7) := (by rw [hw]; exact HP29.2); have hp_ : Kd.R Kd.bool 4 w30 w0.heap.size (fun k_ => (P1_ k_ ∨ w.heap.size ≤ k_)) (.slice (some ⟨go7, 0, none⟩) y374.length co7) y379 := (by rw [hw, Ny379.out]; exact HP29.1); clear HP29; have n0_ := Aside0.mk (Kd.R_over' (v := (.slice (some ⟨go7, 0, none⟩) y374.length co7)) (by (with_reducible repeat (first | apply Kd.R_alloc | apply Kd.R_drewN | apply Kd.R_drew)); exact HO1.out) (Kd.R_typed HO376.out) (by decide) hg); have n1_ := Aside0.mk (blk_grown (g := gb368) (o := .cells #[.int .i64 a0_0, .slice (some ad378) l0_1.length c0_1] 24 (0, 0)) (by (with_reducible repeat (first | refine blk_drewN ?_ _ | refine blk_drew ?_ | refine blk_alloc ?_ _)); exact BK368.out) hg (Kd.R_ne HO376.out BK368.out (by decide))); have n2_ := Aside0.mk (blk_grown (g := gb369) (o := .cells #[.slice none 0 0, .int .i64 0] 44 (0, 0)) (by (with_reducible repeat (first | refine blk_drewN ?_ _ | refine blk_drew ?_ | refine blk_alloc ?_ _)); exact BK369.out) hg (Kd.R_ne HO376.out BK369.out (by decide))); have n3_ := Aside0.mk (Kd.R_over' (v := (.slice (some ⟨go7, 0, none⟩) y374.length co7)) (by (with_reducible repeat (first | apply Kd.R_alloc | apply Kd.R_drewN | apply Kd.R_drew)); exact HO372.out) (Kd.R_typed HO376.out) (by decide) hg); have n4_ := Aside0.mk (blk_grown (g := gb373) (o := .cells #[.slice Ao17 y370.length co17, .int .i64 1] 44 (0, 0)) (by (with_reducible repeat (first | refine blk_drewN ?_ _ | refine blk_drew ?_ | refine blk_alloc ?_ _)); exact BK373.out) hg (Kd.R_ne HO376.out BK373.out (by decide))); have n5_ := Aside0.mk (hp_); have n6_ := Aside0.mk ((by rw [hw]; exact below_set (HB.out) GB7.out : Below w0.heap.size w0 w30)); have n7_ := Aside0.mk (Kept.of_grown (S := (fun k_ => P1_ k_)) hg (by repeat (first | (with_reducible first | exact HK.out | apply Kept.alloc | apply Kept.drewN | apply Kept.drew | refine Kept.setCell ?_ (.inr GW368.out) _ | refine Kept.setCell ?_ (.inr GW369.out) _ | refine Kept.setCell ?_ (.inr GW373.out) _) | exact HK.out)) (fun k_ e_ => (HO376.out.1 k_ e_))); clear HO1; clear BK368; clear BK369; clear HO372; clear BK373; clear HO376; clear HB; clear HK; have HO1 := n0_; have BK368 := n1_; have BK369 := n2_; have HO372 := n3_; have BK373 := n4_; have HO376 := n5_; have HB := n6_; have HK := n7_; clear n0_ n1_ n2_ n3_ n4_ n5_ n6_ n7_; clear hg hw hp_))
                go_loopg [10] k (fun kq v10 w' => ∃ (x9_1 : List Bool) (x10_1 : Int) (x370001_1 : Int) (x374000_1 : List Int) (u374000 : Value), v10 = .int .i64 x10_1 ∧ Aside0 (billetlaw07_taken.l0 kq l1 x9_1 x10_1 a0_0 l0_1 x374000_1 1 = some (r1, r2, r3, r4)) ∧ Aside0 (kq ≤ k) ∧ Aside0 (Kd.R (Kd.int .i64) 3 w' w0.heap.size (fun k_ => (P1_ k_ ∨ w.heap.size ≤ k_) ∧ some k_ ≠ (u374000 : Value).ownBlock) u9000_ l1) ∧ Aside0 (Kd.R Kd.bool 4 w' w0.heap.size (fun k_ => (P1_ k_ ∨ w.heap.size ≤ k_)) (.slice (some ⟨go7, 0, none⟩) y374.length co7) x9_1) ∧ Aside0 (Kd.R (Kd.int .i64) 3 w' w0.heap.size (fun k_ => (P1_ k_ ∨ w.heap.size ≤ k_) ∧ some k_ ≠ (u9000_ : Value).ownBlock) u374000 x374000_1) ∧ Aside0 (w'.heap[gb368]? = some (.cells #[.int .i64 a0_0, (.slice (some ad378) l0_1.length c0_1)] 24 (0, 0))) ∧ Aside0 (w'.heap[gb369]? = some (.cells #[(.slice none 0 0), .int .i64 x370001_1] 44 (0, 0))) ∧ Aside0 (w'.heap[gb373]? = some (.cells #[u374000, .int .i64 1] 44 (0, 0))) ∧ Aside0 (Kept w w' (fun k_ => P1_ k_)) ∧ Aside0 (Below w0.heap.size w0 w'))
                case atStart => exact ⟨(y379), ((rd_T50 l0_1 a2).f1), (0), (y370), (.slice Ao17 y370.length co17), (by first | rfl | (simp; done) | (simp [*]; done)), H', ⟨Nat.le_refl _⟩, ⟨by (with_reducible repeat (first | apply Kd.R_alloc | apply Kd.R_drewN | apply Kd.R_drew)); exact HO1.out⟩, ⟨by (with_reducible repeat (first | apply Kd.R_alloc | apply Kd.R_drewN | apply Kd.R_drew)); exact HO376.out⟩, ⟨by (with_reducible repeat (first | apply Kd.R_alloc | apply Kd.R_drewN | apply Kd.R_drew)); exact Kd.R_mono HO372.out (fun _ hk => ⟨hk.1.1, hk.2⟩)⟩, ⟨by (with_reducible repeat (first | refine blk_drewN ?_ _ | refine blk_drew ?_ | refine blk_alloc ?_ _)); exact BK368.out⟩, ⟨by (with_reducible repeat (first | refine blk_drewN ?_ _ | refine blk_drew ?_ | refine blk_alloc ?_ _)); exact BK369.out⟩, ⟨by (with_reducible repeat (first | refine blk_drewN ?_ _ | refine blk_drew ?_ | refine blk_alloc ?_ _)); exact BK373.out⟩, ⟨by repeat (first | (with_reducible first | exact HK.out | apply Kept.alloc | apply Kept.drewN | apply Kept.drew | refine Kept.setCell ?_ (.inr GW368.out) _ | refine Kept.setCell ?_ (.inr GW369.out) _ | refine Kept.setCell ?_ (.inr GW373.out) _) | exact HK.out)⟩, ⟨by repeat (first | (with_reducible first | exact HB.out | apply below_alloc | apply pw_below_drewN | apply below_drew1 | refine below_set ?_ GE368.out | refine below_set ?_ GE369.out | refine below_set ?_ GE373.out) | exact HB.out)⟩⟩
                case round =>
                  clear H'
                  try clear c1
                  try clear p1
                  try clear q1
                  try clear hx1
                  try clear c2
                  try clear p2
                  try clear p3
                  try clear q3
                  try clear hx3
                  try clear c4
                  try clear c4b0
                  try clear c4b1
                  try clear c5
                  try clear c5b0
                  try clear c5b1
                  try clear c6
                  try clear c6b0
                  try clear c6b1
                  try clear p7
                  try clear q7
                  try clear hx7
                  try clear qi7
                  try clear hf7
                  try clear c8
                  try clear c8b0
                  try clear c9
                  try clear c9b0
                  try clear c10
                  try clear c10b0
                  try clear c11
                  try clear c11b0
                  try clear p12
                  try clear q12
                  try clear hx12
                  try clear hf12
                  try clear c19
                  try clear c20
                  try clear c22
                  try clear hcz21_0
                  try clear hcz21_1
                  try clear hcz23_0
                  try clear hcz23_1
                  try clear hcz28_0
                  try clear hcz28_1
                  try clear hfz21_0
                  try clear hfz21_1
                  try clear hfz23_0
                  try clear hfz23_1
                  try clear hfz28_0
                  try clear hfz28_1
                  try clear hx12_0
                  try clear hx378_0
                  try clear hx378_1
                  try clear hx378_2
                  try clear hx7_0
                  try clear p12
                  try clear p378
                  try clear p7
                  try clear q12
                  try clear q378
                  try clear q7
                  obtain ⟨x9_1, x10_1, x370001_1, x374000_1, u374000, rfl, HA, HK1, HO_1, HO_9, HO_374000, BK368, BK369, BK373, HK, HB⟩ := hrel
                  have hl9_1 := (Kd.R_reads' HO_9.out).1
                  rw [hl9_1] at HO_9
                  (try simp only [hl9_1])
                  (try simp only [hl9_1] at BK368)
                  (try simp only [hl9_1] at BK369)
                  (try simp only [hl9_1] at BK373)
                  (try simp only [hl9_1] at HO_1)
                  (try simp only [hl9_1] at HO_374000)
                  cases gk with
                  | zero => exact absurd HA.out (by simp [billetlaw07_taken.l0])
                  | succ k1 =>
                    have H := HA.out
                    clear HA
                    simp only [billetlaw07_taken.l0] at H
                    by_cases c31 : x10_1 = 1
                    · rw [if_pos c31] at H
                      have c31b0 : (x10_1 == 1) = true := beq_iff_eq.mpr c31
                      have c31b1 : (x10_1 != 1) = false := bne_eq_false_iff_eq.mpr c31
                      clear c31
                      have H' := Aside0.mk H
                      clear H
                      go_wp2
                      go_loopg [13] k1 (fun kq v13 w' => ∃ (x1_2 : List Int) (x13_2 : Int), v13 = .int .i64 x13_2 ∧ Aside0 (billetlaw07_taken.l2 kq x1_2 x13_2 x374000_1 1 = some (r1, r2, r3, r4)) ∧ Aside0 (kq ≤ k1) ∧ Aside0 (Kd.R (Kd.int .i64) 3 w' w0.heap.size (fun k_ => (P1_ k_ ∨ w.heap.size ≤ k_) ∧ some k_ ≠ (u374000 : Value).ownBlock) u9000_ x1_2) ∧ Aside0 (Kd.R (Kd.int .i64) 3 w' w0.heap.size (fun k_ => (P1_ k_ ∨ w.heap.size ≤ k_) ∧ some k_ ≠ (u9000_ : Value).ownBlock) u374000 x374000_1) ∧ Aside0 (w'.heap[gb368]? = some (.cells #[.int .i64 a0_0, (.slice (some ad378) l0_1.length c0_1)] 24 (0, 0))) ∧ Aside0 (w'.heap[gb369]? = some (.cells #[(.slice none 0 0), .int .i64 x370001_1] 44 (0, 0))) ∧ Aside0 (w'.heap[gb373]? = some (.cells #[u374000, .int .i64 1] 44 (0, 0))) ∧ Aside0 (Kept w w' (fun k_ => P1_ k_)) ∧ Aside0 (Below w0.heap.size w0 w'))
                      case atStart => exact ⟨(l1), (0), (by first | rfl | (simp; done) | (simp [*]; done)), H', ⟨Nat.le_refl _⟩, ⟨by (try simp only [hl9_1]); (with_reducible repeat (first | apply Kd.R_alloc | apply Kd.R_drewN | apply Kd.R_drew)); exact HO_1.out⟩, ⟨by (try simp only [hl9_1]); (with_reducible repeat (first | apply Kd.R_alloc | apply Kd.R_drewN | apply Kd.R_drew)); exact HO_374000.out⟩, ⟨by (try simp only [hl9_1]); (with_reducible repeat (first | refine blk_drewN ?_ _ | refine blk_drew ?_ | refine blk_alloc ?_ _)); exact BK368.out⟩, ⟨by (try simp only [hl9_1]); (with_reducible repeat (first | refine blk_drewN ?_ _ | refine blk_drew ?_ | refine blk_alloc ?_ _)); exact BK369.out⟩, ⟨by (try simp only [hl9_1]); (with_reducible repeat (first | refine blk_drewN ?_ _ | refine blk_drew ?_ | refine blk_alloc ?_ _)); exact BK373.out⟩, ⟨by repeat (first | (with_reducible first | exact HK.out | apply Kept.alloc | apply Kept.drewN | apply Kept.drew | refine Kept.setCell ?_ (.inr GW368.out) _ | refine Kept.setCell ?_ (.inr GW369.out) _ | refine Kept.setCell ?_ (.inr GW373.out) _) | exact HK.out)⟩, ⟨by repeat (first | (with_reducible first | exact HB.out | apply below_alloc | apply pw_below_drewN | apply below_drew1 | refine below_set ?_ GE368.out | refine below_set ?_ GE369.out | refine below_set ?_ GE373.out) | exact HB.out)⟩⟩
                      case round =>
                        clear H'
                        try clear c1
                        try clear p1
                        try clear q1
                        try clear hx1
                        try clear c2
                        try clear p2
                        try clear c3
                        try clear p3
                        try clear q3
                        try clear hx3
                        try clear c4
                        try clear c4b0
                        try clear c4b1
                        try clear c5
                        try clear c5b0
                        try clear c5b1
                        try clear c6
                        try clear c6b0
                        try clear c6b1
                        try clear p7
                        try clear q7
                        try clear hx7
                        try clear qi7
                        try clear hf7
                        try clear c8
                        try clear c8b0
                        try clear c9
                        try clear c9b0
                        try clear c10
                        try clear c10b0
                        try clear c11
                        try clear c11b0
                        try clear p12
                        try clear q12
                        try clear hx12
                        try clear hf12
                        try clear c19
                        try clear c20
                        try clear c22
                        try clear c31
                        try clear c31b0
                        try clear c31b1
                        try clear hcz21_0
                        try clear hcz21_1
                        try clear hcz23_0
                        try clear hcz23_1
                        try clear hcz28_0
                        try clear hcz28_1
                        try clear hfz21_0
                        try clear hfz21_1
                        try clear hfz23_0
                        try clear hfz23_1
                        try clear hfz28_0
                        try clear hfz28_1
                        try clear hx12_0
                        try clear hx378_0
                        try clear hx378_1
                        try clear hx378_2
                        try clear hx7_0
                        try clear p1
                        try clear p12
                        try clear p2
                        try clear p3
                        try clear p378
                        try clear p7
                        try clear q1
                        try clear q12
                        try clear q3
                        try clear q378
                        try clear q7
                        obtain ⟨x1_2, x13_2, rfl, HA, HK2, HO_1, HO_374000, BK368, BK369, BK373, HK, HB⟩ := hrel
                        cases gk with
                        | zero => exact absurd HA.out (by simp [billetlaw07_taken.l2])
                        | succ k2 =>
                          have H := HA.out
                          clear HA
                          simp only [billetlaw07_taken.l2] at H
                          by_cases c32 : x13_2 < (x374000_1.length : Int)
                          · rw [if_pos c32] at H
                            have c32b0 : decide (x13_2 < (x374000_1.length : Int)) = true := decide_eq_true c32
                            clear c32
                            by_cases c33 : 0 ≤ x13_2
                            · rw [if_pos c33] at H
                              have c33b0 : decide (0 ≤ x13_2) = true := decide_eq_true c33
                              clear c33
                              by_cases c34 : 0 ≤ (rd x374000_1 x13_2)
                              · rw [if_pos c34] at H
                                have c34b0 : decide (0 ≤ (rd x374000_1 x13_2)) = true := decide_eq_true c34
                                clear c34
                                by_cases c35 : (rd x374000_1 x13_2) < (x1_2.length : Int)
                                · rw [if_pos c35] at H
                                  have c35b0 : decide ((rd x374000_1 x13_2) < (x1_2.length : Int)) = true := decide_eq_true c35
                                  clear c35
                                  obtain ⟨y391, hy391⟩ : ∃ y_ : List Int, y_ = (x1_2.set ((rd x374000_1 x13_2) : Int).toNat (wrap64 ((rd x1_2 (rd x374000_1 x13_2)) - 1))) := ⟨_, rfl⟩
                                  replace H : (billetlaw07_taken.l2 k2 y391 (wrap64 (x13_2 + 1)) x374000_1 1) = some (r1, r2, r3, r4) := by first | (rw [hy391]; with_reducible exact H) | (have H2_ := (Option.bind_some _ _).symm.trans H; rw [hy391]; with_reducible exact H2_) | (have H2_ := (Option.bind_some _ _).symm.trans H; with_reducible exact H2_) | with_reducible exact H | (rw [hy391]; exact H) | exact H
                                  have Ny391 := Aside0.mk hy391
                                  clear hy391
                                  have H' := Aside0.mk H
                                  clear H
                                  have hnb37 := NB373_368.out
                                  have hnc37 := NB368_373.out
                                  have hnb38 := NB373_369.out
                                  have hnc38 := NB369_373.out
                                  have hcz39_0 : wr.cell? ⟨gb373, 0, none⟩ = some (u374000) := (blk_cell BK373.out 0).trans rfl
                                  have hcz39_1 : wr.cell? ⟨gb373, 1, none⟩ = some (.int .i64 1) := (blk_cell BK373.out 1).trans rfl
                                  have hfz39_0 := blk_frozen BK373.out 0
                                  have hfz39_1 := blk_frozen BK373.out 1
                                  obtain ⟨Ao40, co40, eo40⟩ := Kd.R_slice HO_374000.out
                                  subst eo40
                                  have p389 : 0 ≤ (x13_2 : Int) := of_decide_eq_true (by first | (with_reducible assumption) | assumption)
                                  have q389 : x13_2 < (x374000_1.length : Int) := of_decide_eq_true (by first | (with_reducible assumption) | assumption)
                                  obtain ⟨ad389, e389, hx389_0⟩ := Kd.at_int (Kd.R_reads' HO_374000.out).2.2 x13_2 p389 q389
                                  cases e389
                                  replace p389 := eq_true p389
                                  replace q389 := eq_true q389
                                  obtain ⟨Ao41, co41, eo41⟩ := Kd.R_slice HO_1.out
                                  subst eo41
                                  have p390 : 0 ≤ ((rd x374000_1 x13_2) : Int) := of_decide_eq_true (by first | (with_reducible assumption) | assumption)
                                  have q390 : (rd x374000_1 x13_2) < (x1_2.length : Int) := of_decide_eq_true (by first | (with_reducible assumption) | assumption)
                                  obtain ⟨ad390, e390, hx390_0⟩ := Kd.at_int (Kd.R_reads' HO_1.out).2.2 (rd x374000_1 x13_2) p390 q390
                                  cases e390
                                  replace p390 := eq_true p390
                                  replace q390 := eq_true q390
                                  have p36 : 0 ≤ ((rd x374000_1 x13_2) : Int) := of_decide_eq_true (by first | (with_reducible assumption) | assumption)
                                  have q36 : ((rd x374000_1 x13_2) : Int) < ((x1_2.length : Int) : Int) := of_decide_eq_true (by first | (with_reducible assumption) | assumption)
                                  obtain ⟨go36, co36, eo36, gb36, gl36, cl36, HG36⟩ := Kd.R_form HO_1.out (by omega)
                                  (first | cases eo36 | (injection eo36 with ea_ en_ ec_; (first | subst ea_ | (injection ea_ with ea_; subst ea_)); subst ec_; clear en_))
                                  have GB36 := Aside0.mk gb36
                                  have GG36 := Aside0.mk HG36
                                  clear gb36 gl36 HG36
                                  have HMgo36 := Aside0.mk (show (P1_ go36 ∨ w.heap.size ≤ go36) from (HO_1.out.1 _ rfl).1)
                                  (first | simp only [add_plain] at hx390_0 | skip)
                                  obtain ⟨hx36_0, hf36_0⟩ := Kd.R_celln 0 HO_1.out ((rd x374000_1 x13_2) : Int) p36 q36
                                  replace p36 := eq_true p36
                                  replace q36 := eq_true q36
                                  have HP42 := Kd.R_putg HO_1.out ((rd x374000_1 x13_2) : Int) (wrap64 ((rd x1_2 (rd x374000_1 x13_2)) - 1))
                                  go_wp2_with (first | ((with_reducible refine gate_store (t := 3) (p := 104) rfl ?_); refine store_event (t := 3) (p := 104) (v := ?vo_w43) (w1 := (wr.setCell ⟨go36, ((rd x374000_1 x13_2) : Int).toNat, none⟩ (.int .i64 (wrap64 ((rd x1_2 (rd x374000_1 x13_2)) - 1))))) ?hg ?ho ?hn ?hr ?_; (case ho => rfl); (case hg => rfl); (case hn => rfl); (case hr => first | (go_simp; done) | (go_simp; rfl)); intro w43 hw; have hg : wr.grownBy w43 (some go36) := (by rw [hw]; exact HP42.2); have hp_ : Kd.R (Kd.int .i64) 3 w43 w0.heap.size (fun k_ => (P1_ k_ ∨ w.heap.size ≤ k_) ∧ some k_ ≠ (.slice (some ad389) x374000_1.length co40 : Value).ownBlock) (.slice (some ⟨go36, 0, none⟩) x1_2.length co41) y391 := (by rw [hw, Ny391.out]; exact HP42.1); clear HP42; have n0_ := Aside0.mk (hp_); have n1_ := Aside0.mk (Kd.R_after (v := (.slice (some ⟨go36, 0, none⟩) x1_2.length co41)) (v1 := (.slice (some ⟨go36, 0, none⟩) x1_2.length co41)) (ok := (fun k_ => (P1_ k_ ∨ w.heap.size ≤ k_))) (by (with_reducible repeat (first | apply Kd.R_alloc | apply Kd.R_drewN | apply Kd.R_drew)); exact HO_374000.out) hg (.inl rfl)); have n2_ := Aside0.mk (blk_grown (g := gb368) (o := .cells #[.int .i64 a0_0, .slice (some ad378) l0_1.length c0_1] 24 (0, 0)) (by (with_reducible repeat (first | refine blk_drewN ?_ _ | refine blk_drew ?_ | refine blk_alloc ?_ _)); exact BK368.out) hg (Kd.R_ne HO_1.out BK368.out (by decide))); have n3_ := Aside0.mk (blk_grown (g := gb369) (o := .cells #[.slice none 0 0, .int .i64 x370001_1] 44 (0, 0)) (by (with_reducible repeat (first | refine blk_drewN ?_ _ | refine blk_drew ?_ | refine blk_alloc ?_ _)); exact BK369.out) hg (Kd.R_ne HO_1.out BK369.out (by decide))); have n4_ := Aside0.mk (blk_grown (g := gb373) (o := .cells #[.slice (some ad389) x374000_1.length co40, .int .i64 1] 44 (0, 0)) (by (with_reducible repeat (first | refine blk_drewN ?_ _ | refine blk_drew ?_ | refine blk_alloc ?_ _)); exact BK373.out) hg (Kd.R_ne HO_1.out BK373.out (by decide))); have n5_ := Aside0.mk ((by rw [hw]; exact below_set (HB.out) GB36.out : Below w0.heap.size w0 w43)); have n6_ := Aside0.mk (Kept.of_grown (S := (fun k_ => P1_ k_)) hg (by repeat (first | (with_reducible first | exact HK.out | apply Kept.alloc | apply Kept.drewN | apply Kept.drew | refine Kept.setCell ?_ (.inr GW368.out) _ | refine Kept.setCell ?_ (.inr GW369.out) _ | refine Kept.setCell ?_ (.inr GW373.out) _) | exact HK.out)) (fun k_ e_ => (HO_1.out.1 k_ e_).1)); clear HO_1; clear HO_374000; clear BK368; clear BK369; clear BK373; clear HB; clear HK; have HO_1 := n0_; have HO_374000 := n1_; have BK368 := n2_; have BK369 := n3_; have BK373 := n4_; have HB := n5_; have HK := n6_; clear n0_ n1_ n2_ n3_ n4_ n5_ n6_; clear hg hw hp_))
                                  go_roundg k2
                                  case measure => have := HK1.out; have := HK2.out; omega
                                  case rel => exact ⟨(y391), (wrap64 (x13_2 + 1)), (by first | rfl | (simp; done) | (simp [*]; done)), H', ⟨by have := HK1.out; have := HK2.out; omega⟩, ⟨by (try simp only [hl9_1]); (with_reducible repeat (first | apply Kd.R_alloc | apply Kd.R_drewN | apply Kd.R_drew)); exact HO_1.out⟩, ⟨by (try simp only [hl9_1]); (with_reducible repeat (first | apply Kd.R_alloc | apply Kd.R_drewN | apply Kd.R_drew)); exact HO_374000.out⟩, ⟨by (try simp only [hl9_1]); (with_reducible repeat (first | refine blk_drewN ?_ _ | refine blk_drew ?_ | refine blk_alloc ?_ _)); exact BK368.out⟩, ⟨by (try simp only [hl9_1]); (with_reducible repeat (first | refine blk_drewN ?_ _ | refine blk_drew ?_ | refine blk_alloc ?_ _)); exact BK369.out⟩, ⟨by (try simp only [hl9_1]); (with_reducible repeat (first | refine blk_drewN ?_ _ | refine blk_drew ?_ | refine blk_alloc ?_ _)); exact BK373.out⟩, ⟨by repeat (first | (with_reducible first | exact HK.out | apply Kept.alloc | apply Kept.drewN | apply Kept.drew | refine Kept.setCell ?_ (.inr GW368.out) _ | refine Kept.setCell ?_ (.inr GW369.out) _ | refine Kept.setCell ?_ (.inr GW373.out) _) | exact HK.out)⟩, ⟨by repeat (first | (with_reducible first | exact HB.out | apply below_alloc | apply pw_below_drewN | apply below_drew1 | refine below_set ?_ GE368.out | refine below_set ?_ GE369.out | refine below_set ?_ GE373.out) | exact HB.out)⟩⟩
                                · rw [if_neg c35] at H
                                  exact absurd H (by simp)
                              · rw [if_neg c34] at H
                                exact absurd H (by simp)
                            · rw [if_neg c33] at H
                              exact absurd H (by simp)
                          · rw [if_neg c32] at H
                            have c32b0 : decide (x13_2 < (x374000_1.length : Int)) = false := decide_eq_false c32
                            clear c32
                            simp only [Option.some.injEq, Prod.mk.injEq] at H
                            obtain ⟨rfl, rfl, rfl, rfl⟩ := H
                            have hnb44 := NB373_368.out
                            have hnc44 := NB368_373.out
                            have hnb45 := NB373_369.out
                            have hnc45 := NB369_373.out
                            have hcz46_0 : wr.cell? ⟨gb373, 0, none⟩ = some (u374000) := (blk_cell BK373.out 0).trans rfl
                            have hcz46_1 : wr.cell? ⟨gb373, 1, none⟩ = some (.int .i64 1) := (blk_cell BK373.out 1).trans rfl
                            have hfz46_0 := blk_frozen BK373.out 0
                            have hfz46_1 := blk_frozen BK373.out 1
                            obtain ⟨Ao47, co47, eo47⟩ := Kd.R_slice HO_374000.out
                            subst eo47
                            have hnb48 := NB369_368.out
                            have hnc48 := NB368_369.out
                            have hcz49_0 : wr.cell? ⟨gb369, 0, none⟩ = some (.slice none 0 0) := (blk_cell BK369.out 0).trans rfl
                            have hcz49_1 : wr.cell? ⟨gb369, 1, none⟩ = some (.int .i64 x370001_1) := (blk_cell BK369.out 1).trans rfl
                            have hfz49_0 := blk_frozen BK369.out 0
                            have hfz49_1 := blk_frozen BK369.out 1
                            go_wp2
                            refine bodyPost_ret (results_ct rfl _ _ gb369 44 #[.slice Ao47 x374000_1.length co47, .int .i64 1] (0, 0) _ rfl (by (with_reducible repeat (first | refine blk_drewN ?_ _ | refine blk_drew ?_ | refine blk_alloc ?_ _)); refine blk_put (cs := #[.slice Ao47 x374000_1.length co47, .int .i64 x370001_1]) ?_ 1 _ rfl; (with_reducible repeat (first | refine blk_drewN ?_ _ | refine blk_drew ?_ | refine blk_alloc ?_ _)); refine blk_put (cs := #[.slice none 0 0, .int .i64 x370001_1]) ?_ 0 _ rfl; (with_reducible repeat (first | refine blk_drewN ?_ _ | refine blk_drew ?_ | refine blk_alloc ?_ _)); exact BK369.out) Try.underlying44 rfl (by kernel_rfl)) rfl ?_
                            exact ⟨_, by first | rfl | (simp [errW_none, errW_some] <;> rfl) | (simp [*, errW_none, errW_some] <;> rfl), by (with_reducible repeat (first | apply Kd.R_alloc | apply Kd.R_drewN | apply Kd.R_drew)); exact Kd.R_mono (Kd.R_far (p := ⟨gb369, 1, none⟩) (Kd.R_far (p := ⟨gb369, 0, none⟩) (Kd.R_types HO_374000.out BK369.out (by decide)) (fun _ hk => hk.2) (.slice Ao47 x374000_1.length co47)) (fun _ hk => hk.2) (.int .i64 1)) (fun _ hk => ⟨hk.1.1, hk.1.2⟩), (by first | exact (by (with_reducible repeat (first | apply Kd.R_alloc | apply Kd.R_drewN | apply Kd.R_drew)); exact Kd.R_mono (Kd.R_far (p := ⟨gb369, 1, none⟩) (Kd.R_far (p := ⟨gb369, 0, none⟩) (Kd.R_types HO_1.out BK369.out (by decide)) (fun _ hk => hk.2) (.slice Ao47 x374000_1.length co47)) (fun _ hk => hk.2) (.int .i64 1)) (fun _ hk => hk.1.1)) | (simp only [hl9_1]; exact (by (with_reducible repeat (first | apply Kd.R_alloc | apply Kd.R_drewN | apply Kd.R_drew)); exact Kd.R_mono (Kd.R_far (p := ⟨gb369, 1, none⟩) (Kd.R_far (p := ⟨gb369, 0, none⟩) (Kd.R_types HO_1.out BK369.out (by decide)) (fun _ hk => hk.2) (.slice Ao47 x374000_1.length co47)) (fun _ hk => hk.2) (.int .i64 1)) (fun _ hk => hk.1.1)))), by repeat (first | (with_reducible first | exact HB.out | apply below_alloc | apply pw_below_drewN | apply below_drew1 | refine below_set ?_ GE368.out | refine below_set ?_ GE369.out | refine below_set ?_ GE373.out) | exact HB.out), by repeat (first | (with_reducible first | exact HK.out | apply Kept.alloc | apply Kept.drewN | apply Kept.drew | refine Kept.setCell ?_ (.inr GW368.out) _ | refine Kept.setCell ?_ (.inr GW369.out) _ | refine Kept.setCell ?_ (.inr GW373.out) _) | exact HK.out)⟩
                    · rw [if_neg c31] at H
                      have c31b0 : (x10_1 == 1) = false := beq_eq_false_iff_ne.mpr c31
                      have c31b1 : (x10_1 != 1) = true := bne_iff_ne.mpr c31
                      have H' := Aside0.mk H
                      clear H
                      go_wp2
                      go_loopg [11, 12] k1 (fun kq v11 v12 w' => ∃ (x11_2 : Int) (x12_2 : Int), v11 = .int .i64 x11_2 ∧ v12 = .int .i64 x12_2 ∧ Aside0 (billetlaw07_taken.l1 kq l1 x9_1 x10_1 x11_2 x12_2 a0_0 l0_1 x374000_1 1 = some (r1, r2, r3, r4)) ∧ Aside0 (kq ≤ k1) ∧ Aside0 (Kd.R (Kd.int .i64) 3 w' w0.heap.size (fun k_ => (P1_ k_ ∨ w.heap.size ≤ k_) ∧ some k_ ≠ (u374000 : Value).ownBlock) u9000_ l1) ∧ Aside0 (Kd.R Kd.bool 4 w' w0.heap.size (fun k_ => (P1_ k_ ∨ w.heap.size ≤ k_)) (.slice (some ⟨go7, 0, none⟩) x9_1.length co7) x9_1) ∧ Aside0 (Kd.R (Kd.int .i64) 3 w' w0.heap.size (fun k_ => (P1_ k_ ∨ w.heap.size ≤ k_) ∧ some k_ ≠ (u9000_ : Value).ownBlock) u374000 x374000_1) ∧ Aside0 (w'.heap[gb368]? = some (.cells #[.int .i64 a0_0, (.slice (some ad378) l0_1.length c0_1)] 24 (0, 0))) ∧ Aside0 (w'.heap[gb369]? = some (.cells #[(.slice none 0 0), .int .i64 x370001_1] 44 (0, 0))) ∧ Aside0 (w'.heap[gb373]? = some (.cells #[u374000, .int .i64 1] 44 (0, 0))) ∧ Aside0 (Kept w w' (fun k_ => P1_ k_)) ∧ Aside0 (Below w0.heap.size w0 w'))
                      case atStart => exact ⟨((-1)), (0), (by first | rfl | (simp; done) | (simp [*]; done)), (by first | rfl | (simp; done) | (simp [*]; done)), H', ⟨Nat.le_refl _⟩, ⟨by (try simp only [hl9_1]); (with_reducible repeat (first | apply Kd.R_alloc | apply Kd.R_drewN | apply Kd.R_drew)); exact HO_1.out⟩, ⟨by (try simp only [hl9_1]); (with_reducible repeat (first | apply Kd.R_alloc | apply Kd.R_drewN | apply Kd.R_drew)); exact HO_9.out⟩, ⟨by (try simp only [hl9_1]); (with_reducible repeat (first | apply Kd.R_alloc | apply Kd.R_drewN | apply Kd.R_drew)); exact HO_374000.out⟩, ⟨by (try simp only [hl9_1]); (with_reducible repeat (first | refine blk_drewN ?_ _ | refine blk_drew ?_ | refine blk_alloc ?_ _)); exact BK368.out⟩, ⟨by (try simp only [hl9_1]); (with_reducible repeat (first | refine blk_drewN ?_ _ | refine blk_drew ?_ | refine blk_alloc ?_ _)); exact BK369.out⟩, ⟨by (try simp only [hl9_1]); (with_reducible repeat (first | refine blk_drewN ?_ _ | refine blk_drew ?_ | refine blk_alloc ?_ _)); exact BK373.out⟩, ⟨by repeat (first | (with_reducible first | exact HK.out | apply Kept.alloc | apply Kept.drewN | apply Kept.drew | refine Kept.setCell ?_ (.inr GW368.out) _ | refine Kept.setCell ?_ (.inr GW369.out) _ | refine Kept.setCell ?_ (.inr GW373.out) _) | exact HK.out)⟩, ⟨by repeat (first | (with_reducible first | exact HB.out | apply below_alloc | apply pw_below_drewN | apply below_drew1 | refine below_set ?_ GE368.out | refine below_set ?_ GE369.out | refine below_set ?_ GE373.out) | exact HB.out)⟩⟩
                      case round =>
                        clear H'
                        try clear c1
                        try clear p1
                        try clear q1
                        try clear hx1
                        try clear c2
                        try clear p2
                        try clear c3
                        try clear p3
                        try clear q3
                        try clear hx3
                        try clear hf3
                        try clear c4
                        try clear c4b0
                        try clear c4b1
                        try clear c5
                        try clear c5b0
                        try clear c5b1
                        try clear c6
                        try clear c6b0
                        try clear c6b1
                        try clear p6
                        try clear p7
                        try clear q7
                        try clear hx7
                        try clear qi7
                        try clear hf7
                        try clear c8
                        try clear c8b0
                        try clear c9
                        try clear c9b0
                        try clear c10
                        try clear c10b0
                        try clear c11
                        try clear c11b0
                        try clear p12
                        try clear q12
                        try clear hx12
                        try clear hf12
                        try clear c19
                        try clear c20
                        try clear c22
                        try clear c31
                        try clear c31b0
                        try clear c31b1
                        try clear c32
                        try clear c32b0
                        try clear c33
                        try clear c33b0
                        try clear c34
                        try clear c34b0
                        try clear c35
                        try clear c35b0
                        try clear p36
                        try clear q36
                        try clear hx36
                        try clear hf36
                        try clear c37
                        try clear p37
                        try clear q37
                        try clear hx37
                        try clear c38
                        try clear p38
                        try clear q38
                        try clear hx38
                        try clear p39
                        try clear q39
                        try clear hx39
                        try clear c44
                        try clear c45
                        try clear c48
                        try clear hcz21_0
                        try clear hcz21_1
                        try clear hcz23_0
                        try clear hcz23_1
                        try clear hcz28_0
                        try clear hcz28_1
                        try clear hcz39_0
                        try clear hcz39_1
                        try clear hcz46_0
                        try clear hcz46_1
                        try clear hcz49_0
                        try clear hcz49_1
                        try clear hfz21_0
                        try clear hfz21_1
                        try clear hfz23_0
                        try clear hfz23_1
                        try clear hfz28_0
                        try clear hfz28_1
                        try clear hfz39_0
                        try clear hfz39_1
                        try clear hfz46_0
                        try clear hfz46_1
                        try clear hfz49_0
                        try clear hfz49_1
                        try clear hx12_0
                        try clear hx36_0
                        try clear hx378_0
                        try clear hx378_1
                        try clear hx378_2
                        try clear hx389_0
                        try clear hx390_0
                        try clear hx7_0
                        try clear p1
                        try clear p12
                        try clear p2
                        try clear p3
                        try clear p36
                        try clear p378
                        try clear p389
                        try clear p390
                        try clear p7
                        try clear q1
                        try clear q12
                        try clear q3
                        try clear q36
                        try clear q378
                        try clear q389
                        try clear q390
                        try clear q7
                        obtain ⟨x11_2, x12_2, rfl, rfl, HA, HK2, HO_1, HO_9, HO_374000, BK368, BK369, BK373, HK, HB⟩ := hrel
                        cases gk with
                        | zero => exact absurd HA.out (by simp [billetlaw07_taken.l1])
                        | succ k2 =>
                          have H := HA.out
                          clear HA
                          simp only [billetlaw07_taken.l1] at H
                          by_cases c50 : x12_2 < (l1.length : Int)
                          · rw [if_pos c50] at H
                            have c50b0 : decide (x12_2 < (l1.length : Int)) = true := decide_eq_true c50
                            clear c50
                            by_cases c51 : x11_2 < 0
                            · rw [if_pos c51] at H
                              have c51b0 : decide (x11_2 < 0) = true := decide_eq_true c51
                              clear c51
                              by_cases c52 : 0 ≤ x12_2
                              · rw [if_pos c52] at H
                                have c52b0 : decide (0 ≤ x12_2) = true := decide_eq_true c52
                                clear c52
                                by_cases c53 : x12_2 < (l0_1.length : Int)
                                · rw [if_pos c53] at H
                                  have c53b0 : decide (x12_2 < (l0_1.length : Int)) = true := decide_eq_true c53
                                  clear c53
                                  by_cases c54 : ((rd_T50 l0_1 x12_2).f0) = x10_1
                                  · rw [if_pos c54] at H
                                    have c54b0 : (((rd_T50 l0_1 x12_2).f0) == x10_1) = true := beq_iff_eq.mpr c54
                                    have c54b1 : (((rd_T50 l0_1 x12_2).f0) != x10_1) = false := bne_eq_false_iff_eq.mpr c54
                                    clear c54
                                    by_cases c55 : (rd l1 x12_2) > 0
                                    · rw [if_pos c55] at H
                                      have c55b0 : decide (0 < (rd l1 x12_2)) = true := decide_eq_true c55
                                      clear c55
                                      have H' := Aside0.mk H
                                      clear H
                                      obtain ⟨Ao56, co56, eo56⟩ := Kd.R_slice HO_1.out
                                      subst eo56
                                      have hnb57 := NB368_369.out
                                      have hnc57 := NB369_368.out
                                      have hnb58 := NB368_373.out
                                      have hnc58 := NB373_368.out
                                      have hcz59_0 : wr.cell? ⟨gb368, 0, none⟩ = some (.int .i64 a0_0) := (blk_cell BK368.out 0).trans rfl
                                      have hcz59_1 : wr.cell? ⟨gb368, 1, none⟩ = some (.slice (some ad378) l0_1.length c0_1) := (blk_cell BK368.out 1).trans rfl
                                      have hfz59_0 := blk_frozen BK368.out 0
                                      have hfz59_1 := blk_frozen BK368.out 1
                                      have p380 : 0 ≤ (x12_2 : Int) := of_decide_eq_true (by first | (with_reducible assumption) | assumption)
                                      have q380 : x12_2 < (l0_1.length : Int) := of_decide_eq_true (by first | (with_reducible assumption) | assumption)
                                      obtain ⟨ad380, e380, hx380_0, hx380_1, hx380_2⟩ := at_T50 (Kd.C_kept_now HR0_1.out HK.out) x12_2 p380 q380
                                      obtain rfl : ad378 = ad380 := (by injection e380)
                                      replace p380 := eq_true p380
                                      replace q380 := eq_true q380
                                      have p381 : 0 ≤ (x12_2 : Int) := of_decide_eq_true (by first | (with_reducible assumption) | assumption)
                                      have q381 : x12_2 < (l1.length : Int) := of_decide_eq_true (by first | (with_reducible assumption) | assumption)
                                      obtain ⟨ad381, e381, hx381_0⟩ := Kd.at_int (Kd.R_reads' HO_1.out).2.2 x12_2 p381 q381
                                      cases e381
                                      replace p381 := eq_true p381
                                      replace q381 := eq_true q381
                                      go_wp2
                                      go_roundg k2
                                      case measure => have := HK1.out; have := HK2.out; omega
                                      case rel => exact ⟨(x12_2), (wrap64 (x12_2 + 1)), (by first | rfl | (simp; done) | (simp [*]; done)), (by first | rfl | (simp; done) | (simp [*]; done)), H', ⟨by have := HK1.out; have := HK2.out; omega⟩, ⟨by (try simp only [hl9_1]); (with_reducible repeat (first | apply Kd.R_alloc | apply Kd.R_drewN | apply Kd.R_drew)); exact HO_1.out⟩, ⟨by (try simp only [hl9_1]); (with_reducible repeat (first | apply Kd.R_alloc | apply Kd.R_drewN | apply Kd.R_drew)); exact HO_9.out⟩, ⟨by (try simp only [hl9_1]); (with_reducible repeat (first | apply Kd.R_alloc | apply Kd.R_drewN | apply Kd.R_drew)); exact HO_374000.out⟩, ⟨by (try simp only [hl9_1]); (with_reducible repeat (first | refine blk_drewN ?_ _ | refine blk_drew ?_ | refine blk_alloc ?_ _)); exact BK368.out⟩, ⟨by (try simp only [hl9_1]); (with_reducible repeat (first | refine blk_drewN ?_ _ | refine blk_drew ?_ | refine blk_alloc ?_ _)); exact BK369.out⟩, ⟨by (try simp only [hl9_1]); (with_reducible repeat (first | refine blk_drewN ?_ _ | refine blk_drew ?_ | refine blk_alloc ?_ _)); exact BK373.out⟩, ⟨by repeat (first | (with_reducible first | exact HK.out | apply Kept.alloc | apply Kept.drewN | apply Kept.drew | refine Kept.setCell ?_ (.inr GW368.out) _ | refine Kept.setCell ?_ (.inr GW369.out) _ | refine Kept.setCell ?_ (.inr GW373.out) _) | exact HK.out)⟩, ⟨by repeat (first | (with_reducible first | exact HB.out | apply below_alloc | apply pw_below_drewN | apply below_drew1 | refine below_set ?_ GE368.out | refine below_set ?_ GE369.out | refine below_set ?_ GE373.out) | exact HB.out)⟩⟩
                                    · rw [if_neg c55] at H
                                      have c55b0 : decide (0 < (rd l1 x12_2)) = false := decide_eq_false c55
                                      clear c55
                                      have H' := Aside0.mk H
                                      clear H
                                      obtain ⟨Ao60, co60, eo60⟩ := Kd.R_slice HO_1.out
                                      subst eo60
                                      have hnb61 := NB368_369.out
                                      have hnc61 := NB369_368.out
                                      have hnb62 := NB368_373.out
                                      have hnc62 := NB373_368.out
                                      have hcz63_0 : wr.cell? ⟨gb368, 0, none⟩ = some (.int .i64 a0_0) := (blk_cell BK368.out 0).trans rfl
                                      have hcz63_1 : wr.cell? ⟨gb368, 1, none⟩ = some (.slice (some ad378) l0_1.length c0_1) := (blk_cell BK368.out 1).trans rfl
                                      have hfz63_0 := blk_frozen BK368.out 0
                                      have hfz63_1 := blk_frozen BK368.out 1
                                      have p380 : 0 ≤ (x12_2 : Int) := of_decide_eq_true (by first | (with_reducible assumption) | assumption)
                                      have q380 : x12_2 < (l0_1.length : Int) := of_decide_eq_true (by first | (with_reducible assumption) | assumption)
                                      obtain ⟨ad380, e380, hx380_0, hx380_1, hx380_2⟩ := at_T50 (Kd.C_kept_now HR0_1.out HK.out) x12_2 p380 q380
                                      obtain rfl : ad378 = ad380 := (by injection e380)
                                      replace p380 := eq_true p380
                                      replace q380 := eq_true q380
                                      have p381 : 0 ≤ (x12_2 : Int) := of_decide_eq_true (by first | (with_reducible assumption) | assumption)
                                      have q381 : x12_2 < (l1.length : Int) := of_decide_eq_true (by first | (with_reducible assumption) | assumption)
                                      obtain ⟨ad381, e381, hx381_0⟩ := Kd.at_int (Kd.R_reads' HO_1.out).2.2 x12_2 p381 q381
                                      cases e381
                                      replace p381 := eq_true p381
                                      replace q381 := eq_true q381
                                      go_wp2
                                      go_roundg k2
                                      case measure => have := HK1.out; have := HK2.out; omega
                                      case rel => exact ⟨(x11_2), (wrap64 (x12_2 + 1)), (by first | rfl | (simp; done) | (simp [*]; done)), (by first | rfl | (simp; done) | (simp [*]; done)), H', ⟨by have := HK1.out; have := HK2.out; omega⟩, ⟨by (try simp only [hl9_1]); (with_reducible repeat (first | apply Kd.R_alloc | apply Kd.R_drewN | apply Kd.R_drew)); exact HO_1.out⟩, ⟨by (try simp only [hl9_1]); (with_reducible repeat (first | apply Kd.R_alloc | apply Kd.R_drewN | apply Kd.R_drew)); exact HO_9.out⟩, ⟨by (try simp only [hl9_1]); (with_reducible repeat (first | apply Kd.R_alloc | apply Kd.R_drewN | apply Kd.R_drew)); exact HO_374000.out⟩, ⟨by (try simp only [hl9_1]); (with_reducible repeat (first | refine blk_drewN ?_ _ | refine blk_drew ?_ | refine blk_alloc ?_ _)); exact BK368.out⟩, ⟨by (try simp only [hl9_1]); (with_reducible repeat (first | refine blk_drewN ?_ _ | refine blk_drew ?_ | refine blk_alloc ?_ _)); exact BK369.out⟩, ⟨by (try simp only [hl9_1]); (with_reducible repeat (first | refine blk_drewN ?_ _ | refine blk_drew ?_ | refine blk_alloc ?_ _)); exact BK373.out⟩, ⟨by repeat (first | (with_reducible first | exact HK.out | apply Kept.alloc | apply Kept.drewN | apply Kept.drew | refine Kept.setCell ?_ (.inr GW368.out) _ | refine Kept.setCell ?_ (.inr GW369.out) _ | refine Kept.setCell ?_ (.inr GW373.out) _) | exact HK.out)⟩, ⟨by repeat (first | (with_reducible first | exact HB.out | apply below_alloc | apply pw_below_drewN | apply below_drew1 | refine below_set ?_ GE368.out | refine below_set ?_ GE369.out | refine below_set ?_ GE373.out) | exact HB.out)⟩⟩
                                  · rw [if_neg c54] at H
                                    have c54b0 : (((rd_T50 l0_1 x12_2).f0) == x10_1) = false := beq_eq_false_iff_ne.mpr c54
                                    have c54b1 : (((rd_T50 l0_1 x12_2).f0) != x10_1) = true := bne_iff_ne.mpr c54
                                    have H' := Aside0.mk H
                                    clear H
                                    obtain ⟨Ao64, co64, eo64⟩ := Kd.R_slice HO_1.out
                                    subst eo64
                                    have hnb65 := NB368_369.out
                                    have hnc65 := NB369_368.out
                                    have hnb66 := NB368_373.out
                                    have hnc66 := NB373_368.out
                                    have hcz67_0 : wr.cell? ⟨gb368, 0, none⟩ = some (.int .i64 a0_0) := (blk_cell BK368.out 0).trans rfl
                                    have hcz67_1 : wr.cell? ⟨gb368, 1, none⟩ = some (.slice (some ad378) l0_1.length c0_1) := (blk_cell BK368.out 1).trans rfl
                                    have hfz67_0 := blk_frozen BK368.out 0
                                    have hfz67_1 := blk_frozen BK368.out 1
                                    have p380 : 0 ≤ (x12_2 : Int) := of_decide_eq_true (by first | (with_reducible assumption) | assumption)
                                    have q380 : x12_2 < (l0_1.length : Int) := of_decide_eq_true (by first | (with_reducible assumption) | assumption)
                                    obtain ⟨ad380, e380, hx380_0, hx380_1, hx380_2⟩ := at_T50 (Kd.C_kept_now HR0_1.out HK.out) x12_2 p380 q380
                                    obtain rfl : ad378 = ad380 := (by injection e380)
                                    replace p380 := eq_true p380
                                    replace q380 := eq_true q380
                                    go_wp2
                                    go_roundg k2
                                    case measure => have := HK1.out; have := HK2.out; omega
                                    case rel => exact ⟨(x11_2), (wrap64 (x12_2 + 1)), (by first | rfl | (simp; done) | (simp [*]; done)), (by first | rfl | (simp; done) | (simp [*]; done)), H', ⟨by have := HK1.out; have := HK2.out; omega⟩, ⟨by (try simp only [hl9_1]); (with_reducible repeat (first | apply Kd.R_alloc | apply Kd.R_drewN | apply Kd.R_drew)); exact HO_1.out⟩, ⟨by (try simp only [hl9_1]); (with_reducible repeat (first | apply Kd.R_alloc | apply Kd.R_drewN | apply Kd.R_drew)); exact HO_9.out⟩, ⟨by (try simp only [hl9_1]); (with_reducible repeat (first | apply Kd.R_alloc | apply Kd.R_drewN | apply Kd.R_drew)); exact HO_374000.out⟩, ⟨by (try simp only [hl9_1]); (with_reducible repeat (first | refine blk_drewN ?_ _ | refine blk_drew ?_ | refine blk_alloc ?_ _)); exact BK368.out⟩, ⟨by (try simp only [hl9_1]); (with_reducible repeat (first | refine blk_drewN ?_ _ | refine blk_drew ?_ | refine blk_alloc ?_ _)); exact BK369.out⟩, ⟨by (try simp only [hl9_1]); (with_reducible repeat (first | refine blk_drewN ?_ _ | refine blk_drew ?_ | refine blk_alloc ?_ _)); exact BK373.out⟩, ⟨by repeat (first | (with_reducible first | exact HK.out | apply Kept.alloc | apply Kept.drewN | apply Kept.drew | refine Kept.setCell ?_ (.inr GW368.out) _ | refine Kept.setCell ?_ (.inr GW369.out) _ | refine Kept.setCell ?_ (.inr GW373.out) _) | exact HK.out)⟩, ⟨by repeat (first | (with_reducible first | exact HB.out | apply below_alloc | apply pw_below_drewN | apply below_drew1 | refine below_set ?_ GE368.out | refine below_set ?_ GE369.out | refine below_set ?_ GE373.out) | exact HB.out)⟩⟩
                                · rw [if_neg c53] at H
                                  exact absurd H (by simp)
                              · rw [if_neg c52] at H
                                exact absurd H (by simp)
                            · rw [if_neg c51] at H
                              have c51b0 : decide (x11_2 < 0) = false := decide_eq_false c51
                              clear c51
                              have H' := Aside0.mk H
                              clear H
                              obtain ⟨Ao68, co68, eo68⟩ := Kd.R_slice HO_1.out
                              subst eo68
                              go_wp2
                              go_roundg k2
                              case measure => have := HK1.out; have := HK2.out; omega
                              case rel => exact ⟨(x11_2), (wrap64 (x12_2 + 1)), (by first | rfl | (simp; done) | (simp [*]; done)), (by first | rfl | (simp; done) | (simp [*]; done)), H', ⟨by have := HK1.out; have := HK2.out; omega⟩, ⟨by (try simp only [hl9_1]); (with_reducible repeat (first | apply Kd.R_alloc | apply Kd.R_drewN | apply Kd.R_drew)); exact HO_1.out⟩, ⟨by (try simp only [hl9_1]); (with_reducible repeat (first | apply Kd.R_alloc | apply Kd.R_drewN | apply Kd.R_drew)); exact HO_9.out⟩, ⟨by (try simp only [hl9_1]); (with_reducible repeat (first | apply Kd.R_alloc | apply Kd.R_drewN | apply Kd.R_drew)); exact HO_374000.out⟩, ⟨by (try simp only [hl9_1]); (with_reducible repeat (first | refine blk_drewN ?_ _ | refine blk_drew ?_ | refine blk_alloc ?_ _)); exact BK368.out⟩, ⟨by (try simp only [hl9_1]); (with_reducible repeat (first | refine blk_drewN ?_ _ | refine blk_drew ?_ | refine blk_alloc ?_ _)); exact BK369.out⟩, ⟨by (try simp only [hl9_1]); (with_reducible repeat (first | refine blk_drewN ?_ _ | refine blk_drew ?_ | refine blk_alloc ?_ _)); exact BK373.out⟩, ⟨by repeat (first | (with_reducible first | exact HK.out | apply Kept.alloc | apply Kept.drewN | apply Kept.drew | refine Kept.setCell ?_ (.inr GW368.out) _ | refine Kept.setCell ?_ (.inr GW369.out) _ | refine Kept.setCell ?_ (.inr GW373.out) _) | exact HK.out)⟩, ⟨by repeat (first | (with_reducible first | exact HB.out | apply below_alloc | apply pw_below_drewN | apply below_drew1 | refine below_set ?_ GE368.out | refine below_set ?_ GE369.out | refine below_set ?_ GE373.out) | exact HB.out)⟩⟩
                          · rw [if_neg c50] at H
                            have c50b0 : decide (x12_2 < (l1.length : Int)) = false := decide_eq_false c50
                            clear c50
                            by_cases c69 : x11_2 < 0
                            · rw [if_pos c69] at H
                              have c69b0 : decide (x11_2 < 0) = true := decide_eq_true c69
                              clear c69
                              simp only [Option.some.injEq, Prod.mk.injEq] at H
                              obtain ⟨rfl, rfl, rfl, rfl⟩ := H
                              obtain ⟨Ao70, co70, eo70⟩ := Kd.R_slice HO_1.out
                              subst eo70
                              have hnb71 := NB373_368.out
                              have hnc71 := NB368_373.out
                              have hnb72 := NB373_369.out
                              have hnc72 := NB369_373.out
                              have hcz73_0 : wr.cell? ⟨gb373, 0, none⟩ = some (u374000) := (blk_cell BK373.out 0).trans rfl
                              have hcz73_1 : wr.cell? ⟨gb373, 1, none⟩ = some (.int .i64 1) := (blk_cell BK373.out 1).trans rfl
                              have hfz73_0 := blk_frozen BK373.out 0
                              have hfz73_1 := blk_frozen BK373.out 1
                              obtain ⟨Ao74, co74, eo74⟩ := Kd.R_slice HO_374000.out
                              subst eo74
                              have hnb75 := NB369_368.out
                              have hnc75 := NB368_369.out
                              have hcz76_0 : wr.cell? ⟨gb369, 0, none⟩ = some (.slice none 0 0) := (blk_cell BK369.out 0).trans rfl
                              have hcz76_1 : wr.cell? ⟨gb369, 1, none⟩ = some (.int .i64 x370001_1) := (blk_cell BK369.out 1).trans rfl
                              have hfz76_0 := blk_frozen BK369.out 0
                              have hfz76_1 := blk_frozen BK369.out 1
                              go_wp2
                              refine bodyPost_ret (results_ct rfl _ _ gb369 44 #[.slice Ao74 x374000_1.length co74, .int .i64 1] (0, 0) _ rfl (by (with_reducible repeat (first | refine blk_drewN ?_ _ | refine blk_drew ?_ | refine blk_alloc ?_ _)); refine blk_put (cs := #[.slice Ao74 x374000_1.length co74, .int .i64 x370001_1]) ?_ 1 _ rfl; (with_reducible repeat (first | refine blk_drewN ?_ _ | refine blk_drew ?_ | refine blk_alloc ?_ _)); refine blk_put (cs := #[.slice none 0 0, .int .i64 x370001_1]) ?_ 0 _ rfl; (with_reducible repeat (first | refine blk_drewN ?_ _ | refine blk_drew ?_ | refine blk_alloc ?_ _)); exact BK369.out) Try.underlying44 rfl (by kernel_rfl)) rfl ?_
                              exact ⟨_, by first | rfl | (simp [errW_none, errW_some] <;> rfl) | (simp [*, errW_none, errW_some] <;> rfl), by (with_reducible repeat (first | apply Kd.R_alloc | apply Kd.R_drewN | apply Kd.R_drew)); exact Kd.R_mono (Kd.R_far (p := ⟨gb369, 1, none⟩) (Kd.R_far (p := ⟨gb369, 0, none⟩) (Kd.R_types HO_374000.out BK369.out (by decide)) (fun _ hk => hk.2) (.slice Ao74 x374000_1.length co74)) (fun _ hk => hk.2) (.int .i64 1)) (fun _ hk => ⟨hk.1.1, hk.1.2⟩), (by first | exact (by (with_reducible repeat (first | apply Kd.R_alloc | apply Kd.R_drewN | apply Kd.R_drew)); exact Kd.R_mono (Kd.R_far (p := ⟨gb369, 1, none⟩) (Kd.R_far (p := ⟨gb369, 0, none⟩) (Kd.R_types HO_1.out BK369.out (by decide)) (fun _ hk => hk.2) (.slice Ao74 x374000_1.length co74)) (fun _ hk => hk.2) (.int .i64 1)) (fun _ hk => hk.1.1)) | (simp only [hl9_1]; exact (by (with_reducible repeat (first | apply Kd.R_alloc | apply Kd.R_drewN | apply Kd.R_drew)); exact Kd.R_mono (Kd.R_far (p := ⟨gb369, 1, none⟩) (Kd.R_far (p := ⟨gb369, 0, none⟩) (Kd.R_types HO_1.out BK369.out (by decide)) (fun _ hk => hk.2) (.slice Ao74 x374000_1.length co74)) (fun _ hk => hk.2) (.int .i64 1)) (fun _ hk => hk.1.1)))), by repeat (first | (with_reducible first | exact HB.out | apply below_alloc | apply pw_below_drewN | apply below_drew1 | refine below_set ?_ GE368.out | refine below_set ?_ GE369.out | refine below_set ?_ GE373.out) | exact HB.out), by repeat (first | (with_reducible first | exact HK.out | apply Kept.alloc | apply Kept.drewN | apply Kept.drew | refine Kept.setCell ?_ (.inr GW368.out) _ | refine Kept.setCell ?_ (.inr GW369.out) _ | refine Kept.setCell ?_ (.inr GW373.out) _) | exact HK.out)⟩
                            · rw [if_neg c69] at H
                              have c69b0 : decide (x11_2 < 0) = false := decide_eq_false c69
                              clear c69
                              by_cases c77 : 0 ≤ x11_2
                              · rw [if_pos c77] at H
                                have c77b0 : decide (0 ≤ x11_2) = true := decide_eq_true c77
                                clear c77
                                by_cases c78 : x11_2 < (l0_1.length : Int)
                                · rw [if_pos c78] at H
                                  have c78b0 : decide (x11_2 < (l0_1.length : Int)) = true := decide_eq_true c78
                                  clear c78
                                  by_cases c79 : 0 ≤ ((rd_T50 l0_1 x11_2).f1)
                                  · rw [if_pos c79] at H
                                    have c79b0 : decide (0 ≤ ((rd_T50 l0_1 x11_2).f1)) = true := decide_eq_true c79
                                    clear c79
                                    by_cases c80 : ((rd_T50 l0_1 x11_2).f1) < (x9_1.length : Int)
                                    · rw [if_pos c80] at H
                                      have c80b0 : decide (((rd_T50 l0_1 x11_2).f1) < (x9_1.length : Int)) = true := decide_eq_true c80
                                      clear c80
                                      obtain ⟨bq81, hbq81⟩ : ∃ b_ : Bool, b_ = (rdOf false x9_1 ((rd_T50 l0_1 x11_2).f1)) := ⟨_, rfl⟩
                                      replace H : (if bq81 = true then (some (x374000_1, 1, false, l1)) else (if x374000_1.length < 17592186044416 then (billetlaw07_taken.l0 k2 l1 (x9_1.set (((rd_T50 l0_1 x11_2).f1) : Int).toNat true) ((rd_T50 l0_1 x11_2).f1) a0_0 l0_1 (x374000_1 ++ [x11_2]) 1) else (none))) = some (r1, r2, r3, r4) := by rw [← hbq81] at H; exact H
                                      have Nbq81 := Aside0.mk hbq81
                                      clear hbq81
                                      by_cases c82 : bq81 = true
                                      · subst c82
                                        have H1 : (some (x374000_1, 1, false, l1)) = some (r1, r2, r3, r4) := by rw [if_pos rfl] at H; exact H
                                        clear H
                                        have H := H1
                                        clear H1
                                        simp only [Option.some.injEq, Prod.mk.injEq] at H
                                        obtain ⟨rfl, rfl, rfl, rfl⟩ := H
                                        obtain ⟨Ao83, co83, eo83⟩ := Kd.R_slice HO_1.out
                                        subst eo83
                                        have hnb84 := NB368_369.out
                                        have hnc84 := NB369_368.out
                                        have hnb85 := NB368_373.out
                                        have hnc85 := NB373_368.out
                                        have hcz86_0 : wr.cell? ⟨gb368, 0, none⟩ = some (.int .i64 a0_0) := (blk_cell BK368.out 0).trans rfl
                                        have hcz86_1 : wr.cell? ⟨gb368, 1, none⟩ = some (.slice (some ad378) l0_1.length c0_1) := (blk_cell BK368.out 1).trans rfl
                                        have hfz86_0 := blk_frozen BK368.out 0
                                        have hfz86_1 := blk_frozen BK368.out 1
                                        have p382 : 0 ≤ (x11_2 : Int) := of_decide_eq_true (by first | (with_reducible assumption) | assumption)
                                        have q382 : x11_2 < (l0_1.length : Int) := of_decide_eq_true (by first | (with_reducible assumption) | assumption)
                                        obtain ⟨ad382, e382, hx382_0, hx382_1, hx382_2⟩ := at_T50 (Kd.C_kept_now HR0_1.out HK.out) x11_2 p382 q382
                                        obtain rfl : ad378 = ad382 := (by injection e382)
                                        replace p382 := eq_true p382
                                        replace q382 := eq_true q382
                                        have p383 : 0 ≤ (((rd_T50 l0_1 x11_2).f1) : Int) := of_decide_eq_true (by first | (with_reducible assumption) | assumption)
                                        have q383 : ((rd_T50 l0_1 x11_2).f1) < (x9_1.length : Int) := of_decide_eq_true (by first | (with_reducible assumption) | assumption)
                                        obtain ⟨ad383, e383, hx383_0⟩ := Kd.at_bool (Kd.R_reads' HO_9.out).2.2 ((rd_T50 l0_1 x11_2).f1) p383 q383
                                        (try rw [← Nbq81.out] at hx383_0)
                                        obtain rfl : (⟨go7, 0, none⟩ : Addr) = ad383 := (by injection e383)
                                        (first | simp only [add_plain] at hx383_0 | simp only [add_at] at hx383_0 | simp only [Addr.add, Nat.zero_add] at hx383_0 | skip)
                                        replace p383 := eq_true p383
                                        replace q383 := eq_true q383
                                        have hnb87 := NB373_369.out
                                        have hnc87 := NB369_373.out
                                        have hcz88_0 : wr.cell? ⟨gb373, 0, none⟩ = some (u374000) := (blk_cell BK373.out 0).trans rfl
                                        have hcz88_1 : wr.cell? ⟨gb373, 1, none⟩ = some (.int .i64 1) := (blk_cell BK373.out 1).trans rfl
                                        have hfz88_0 := blk_frozen BK373.out 0
                                        have hfz88_1 := blk_frozen BK373.out 1
                                        obtain ⟨Ao89, co89, eo89⟩ := Kd.R_slice HO_374000.out
                                        subst eo89
                                        have hcz90_0 : wr.cell? ⟨gb369, 0, none⟩ = some (.slice none 0 0) := (blk_cell BK369.out 0).trans rfl
                                        have hcz90_1 : wr.cell? ⟨gb369, 1, none⟩ = some (.int .i64 x370001_1) := (blk_cell BK369.out 1).trans rfl
                                        have hfz90_0 := blk_frozen BK369.out 0
                                        have hfz90_1 := blk_frozen BK369.out 1
                                        go_wp2
                                        refine bodyPost_ret (results_ct rfl _ _ gb369 44 #[.slice Ao89 x374000_1.length co89, .int .i64 1] (0, 0) _ rfl (by (with_reducible repeat (first | refine blk_drewN ?_ _ | refine blk_drew ?_ | refine blk_alloc ?_ _)); refine blk_put (cs := #[.slice Ao89 x374000_1.length co89, .int .i64 x370001_1]) ?_ 1 _ rfl; (with_reducible repeat (first | refine blk_drewN ?_ _ | refine blk_drew ?_ | refine blk_alloc ?_ _)); refine blk_put (cs := #[.slice none 0 0, .int .i64 x370001_1]) ?_ 0 _ rfl; (with_reducible repeat (first | refine blk_drewN ?_ _ | refine blk_drew ?_ | refine blk_alloc ?_ _)); exact BK369.out) Try.underlying44 rfl (by kernel_rfl)) rfl ?_
                                        exact ⟨_, by first | rfl | (simp [errW_none, errW_some] <;> rfl) | (simp [*, errW_none, errW_some] <;> rfl), by (with_reducible repeat (first | apply Kd.R_alloc | apply Kd.R_drewN | apply Kd.R_drew)); exact Kd.R_mono (Kd.R_far (p := ⟨gb369, 1, none⟩) (Kd.R_far (p := ⟨gb369, 0, none⟩) (Kd.R_types HO_374000.out BK369.out (by decide)) (fun _ hk => hk.2) (.slice Ao89 x374000_1.length co89)) (fun _ hk => hk.2) (.int .i64 1)) (fun _ hk => ⟨hk.1.1, hk.1.2⟩), (by first | exact (by (with_reducible repeat (first | apply Kd.R_alloc | apply Kd.R_drewN | apply Kd.R_drew)); exact Kd.R_mono (Kd.R_far (p := ⟨gb369, 1, none⟩) (Kd.R_far (p := ⟨gb369, 0, none⟩) (Kd.R_types HO_1.out BK369.out (by decide)) (fun _ hk => hk.2) (.slice Ao89 x374000_1.length co89)) (fun _ hk => hk.2) (.int .i64 1)) (fun _ hk => hk.1.1)) | (simp only [hl9_1]; exact (by (with_reducible repeat (first | apply Kd.R_alloc | apply Kd.R_drewN | apply Kd.R_drew)); exact Kd.R_mono (Kd.R_far (p := ⟨gb369, 1, none⟩) (Kd.R_far (p := ⟨gb369, 0, none⟩) (Kd.R_types HO_1.out BK369.out (by decide)) (fun _ hk => hk.2) (.slice Ao89 x374000_1.length co89)) (fun _ hk => hk.2) (.int .i64 1)) (fun _ hk => hk.1.1)))), by repeat (first | (with_reducible first | exact HB.out | apply below_alloc | apply pw_below_drewN | apply below_drew1 | refine below_set ?_ GE368.out | refine below_set ?_ GE369.out | refine below_set ?_ GE373.out) | exact HB.out), by repeat (first | (with_reducible first | exact HK.out | apply Kept.alloc | apply Kept.drewN | apply Kept.drew | refine Kept.setCell ?_ (.inr GW368.out) _ | refine Kept.setCell ?_ (.inr GW369.out) _ | refine Kept.setCell ?_ (.inr GW373.out) _) | exact HK.out)⟩
                                      · replace c82 := Bool.eq_false_iff.mpr c82
                                        subst c82
                                        have H1 : (if x374000_1.length < 17592186044416 then (billetlaw07_taken.l0 k2 l1 (x9_1.set (((rd_T50 l0_1 x11_2).f1) : Int).toNat true) ((rd_T50 l0_1 x11_2).f1) a0_0 l0_1 (x374000_1 ++ [x11_2]) 1) else (none)) = some (r1, r2, r3, r4) := by rw [if_neg (show ¬ (false = true) by decide)] at H; exact H
                                        clear H
                                        have H := H1
                                        clear H1
                                        by_cases c91 : x374000_1.length < 17592186044416
                                        · rw [if_pos c91] at H
                                          have LMc91 := Aside0.mk c91
                                          clear c91
                                          obtain ⟨y384, hy384⟩ : ∃ y_ : List Int, y_ = (x374000_1 ++ [x11_2]) := ⟨_, rfl⟩
                                          replace H : (billetlaw07_taken.l0 k2 l1 (x9_1.set (((rd_T50 l0_1 x11_2).f1) : Int).toNat true) ((rd_T50 l0_1 x11_2).f1) a0_0 l0_1 y384 1) = some (r1, r2, r3, r4) := by first | (rw [hy384]; with_reducible exact H) | (have H2_ := (Option.bind_some _ _).symm.trans H; rw [hy384]; with_reducible exact H2_) | (have H2_ := (Option.bind_some _ _).symm.trans H; with_reducible exact H2_) | with_reducible exact H | (rw [hy384]; exact H) | exact H
                                          have Ny384 := Aside0.mk hy384
                                          clear hy384
                                          obtain ⟨y388, hy388⟩ : ∃ y_ : List Bool, y_ = (x9_1.set (((rd_T50 l0_1 x11_2).f1) : Int).toNat true) := ⟨_, rfl⟩
                                          replace H : (billetlaw07_taken.l0 k2 l1 y388 ((rd_T50 l0_1 x11_2).f1) a0_0 l0_1 y384 1) = some (r1, r2, r3, r4) := by first | (rw [hy388]; with_reducible exact H) | (have H2_ := (Option.bind_some _ _).symm.trans H; rw [hy388]; with_reducible exact H2_) | (have H2_ := (Option.bind_some _ _).symm.trans H; with_reducible exact H2_) | with_reducible exact H | (rw [hy388]; exact H) | exact H
                                          have Ny388 := Aside0.mk hy388
                                          clear hy388
                                          have H' := Aside0.mk H
                                          clear H
                                          obtain ⟨Ao93, co93, eo93⟩ := Kd.R_slice HO_1.out
                                          subst eo93
                                          have hnb94 := NB368_369.out
                                          have hnc94 := NB369_368.out
                                          have hnb95 := NB368_373.out
                                          have hnc95 := NB373_368.out
                                          have hcz96_0 : wr.cell? ⟨gb368, 0, none⟩ = some (.int .i64 a0_0) := (blk_cell BK368.out 0).trans rfl
                                          have hcz96_1 : wr.cell? ⟨gb368, 1, none⟩ = some (.slice (some ad378) l0_1.length c0_1) := (blk_cell BK368.out 1).trans rfl
                                          have hfz96_0 := blk_frozen BK368.out 0
                                          have hfz96_1 := blk_frozen BK368.out 1
                                          have p382 : 0 ≤ (x11_2 : Int) := of_decide_eq_true (by first | (with_reducible assumption) | assumption)
                                          have q382 : x11_2 < (l0_1.length : Int) := of_decide_eq_true (by first | (with_reducible assumption) | assumption)
                                          obtain ⟨ad382, e382, hx382_0, hx382_1, hx382_2⟩ := at_T50 (Kd.C_kept_now HR0_1.out HK.out) x11_2 p382 q382
                                          obtain rfl : ad378 = ad382 := (by injection e382)
                                          replace p382 := eq_true p382
                                          replace q382 := eq_true q382
                                          have p383 : 0 ≤ (((rd_T50 l0_1 x11_2).f1) : Int) := of_decide_eq_true (by first | (with_reducible assumption) | assumption)
                                          have q383 : ((rd_T50 l0_1 x11_2).f1) < (x9_1.length : Int) := of_decide_eq_true (by first | (with_reducible assumption) | assumption)
                                          obtain ⟨ad383, e383, hx383_0⟩ := Kd.at_bool (Kd.R_reads' HO_9.out).2.2 ((rd_T50 l0_1 x11_2).f1) p383 q383
                                          (try rw [← Nbq81.out] at hx383_0)
                                          obtain rfl : (⟨go7, 0, none⟩ : Addr) = ad383 := (by injection e383)
                                          (first | simp only [add_plain] at hx383_0 | simp only [add_at] at hx383_0 | simp only [Addr.add, Nat.zero_add] at hx383_0 | skip)
                                          replace p383 := eq_true p383
                                          replace q383 := eq_true q383
                                          have hnb97 := NB373_369.out
                                          have hnc97 := NB369_373.out
                                          have hcz98_0 : wr.cell? ⟨gb373, 0, none⟩ = some (u374000) := (blk_cell BK373.out 0).trans rfl
                                          have hcz98_1 : wr.cell? ⟨gb373, 1, none⟩ = some (.int .i64 1) := (blk_cell BK373.out 1).trans rfl
                                          have hfz98_0 := blk_frozen BK373.out 0
                                          have hfz98_1 := blk_frozen BK373.out 1
                                          go_wp2_with (first | ((with_reducible refine gate_builtin (b := .append) (xs := #[.tmp 74, .tmp 76]) rfl ?_); at_builtin; refine Kd.R_append (Kd.int .i64) (w0 := w0) w0.heap.size rfl (.tmp 74) (.tmp 76) 25 3 (.int .i64 0) 8 rfl Try.underlying25 info3 rfl (by decide) (by omega) u374000 x374000_1 x11_2 [.int .i64 x11_2] (fun k_ => (P1_ k_ ∨ w.heap.size ≤ k_) ∧ some k_ ≠ (.slice Ao93 l1.length co93 : Value).ownBlock) (fun _ => False) rfl rfl ?aP (fun _ hk => hk.elim) ?aF ?aO ?aB ?aS ?aL ?_; (case aP => exact rfl); (case aB => exact (by repeat (first | (with_reducible first | exact HB.out | apply below_alloc | apply pw_below_drewN | apply below_drew1 | refine below_set ?_ GE368.out | refine below_set ?_ GE369.out | refine below_set ?_ GE373.out) | exact HB.out))); (case aF => exact (fun k_ hk => ⟨(.inr (Nat.le_trans (by first | exact HK.out.1 | exact (show Kept w _ (fun k_ => P1_ k_) from by repeat (first | (with_reducible first | exact HK.out | apply Kept.alloc | apply Kept.drewN | apply Kept.drew | refine Kept.setCell ?_ (.inr GW368.out) _ | refine Kept.setCell ?_ (.inr GW369.out) _ | refine Kept.setCell ?_ (.inr GW373.out) _) | exact HK.out)).1) hk)), Kd.fresh' (Kd.R_lt (by (with_reducible repeat (first | apply Kd.R_alloc | apply Kd.R_drewN | apply Kd.R_drew)); exact HO_1.out)) k_ hk⟩)); (case aO => exact (by (with_reducible repeat (first | apply Kd.R_alloc | apply Kd.R_drewN | apply Kd.R_drew)); exact HO_374000.out)); (case aS => exact (below_size (by repeat (first | (with_reducible first | exact HB.out | apply below_alloc | apply pw_below_drewN | apply below_drew1 | refine below_set ?_ GE368.out | refine below_set ?_ GE369.out | refine below_set ?_ GE373.out) | exact HB.out)))); (case aL => have := LMc91.out; omega); intro v385 w99 ho hb hg hat; rw [← Ny384.out] at ho; have n0_ := Aside0.mk (Kd.R_after (ok := (fun k_ => (P1_ k_ ∨ w.heap.size ≤ k_))) (by (with_reducible repeat (first | apply Kd.R_alloc | apply Kd.R_drewN | apply Kd.R_drew)); exact HO_1.out) hg hat); have n1_ := Aside0.mk (Kd.R_over' (by (with_reducible repeat (first | apply Kd.R_alloc | apply Kd.R_drewN | apply Kd.R_drew)); exact HO_9.out) (Kd.R_typed (by (with_reducible repeat (first | apply Kd.R_alloc | apply Kd.R_drewN | apply Kd.R_drew)); exact HO_374000.out)) (by decide) hg); have n2_ := Aside0.mk (blk_grown (g := gb368) (o := .cells #[.int .i64 a0_0, .slice (some ad378) l0_1.length c0_1] 24 (0, 0)) (by (with_reducible repeat (first | refine blk_drewN ?_ _ | refine blk_drew ?_ | refine blk_alloc ?_ _)); exact BK368.out) hg (Kd.R_ne HO_374000.out BK368.out (by decide))); have n3_ := Aside0.mk (blk_grown (g := gb369) (o := .cells #[.slice none 0 0, .int .i64 x370001_1] 44 (0, 0)) (by (with_reducible repeat (first | refine blk_drewN ?_ _ | refine blk_drew ?_ | refine blk_alloc ?_ _)); exact BK369.out) hg (Kd.R_ne HO_374000.out BK369.out (by decide))); have n4_ := Aside0.mk (blk_grown (g := gb373) (o := .cells #[u374000, .int .i64 1] 44 (0, 0)) (by (with_reducible repeat (first | refine blk_drewN ?_ _ | refine blk_drew ?_ | refine blk_alloc ?_ _)); exact BK373.out) hg (Kd.R_ne HO_374000.out BK373.out (by decide))); have n5_ := Aside0.mk (hb); have n6_ := Aside0.mk (Kept.of_grown (S := (fun k_ => P1_ k_)) hg (by repeat (first | (with_reducible first | exact HK.out | apply Kept.alloc | apply Kept.drewN | apply Kept.drew | refine Kept.setCell ?_ (.inr GW368.out) _ | refine Kept.setCell ?_ (.inr GW369.out) _ | refine Kept.setCell ?_ (.inr GW373.out) _) | exact HK.out)) (fun k_ e_ => (HO_374000.out.1 k_ e_).1)); have n7_ := Aside0.mk (ho); clear HO_1; clear HO_9; clear BK368; clear BK369; clear BK373; clear HB; clear HK; clear HO_374000; have HO_1 := n0_; have HO_9 := n1_; have BK368 := n2_; have BK369 := n3_; have BK373 := n4_; have HB := n5_; have HK := n6_; have HO386 := n7_; clear n0_ n1_ n2_ n3_ n4_ n5_ n6_ n7_; clear ho hb hg hat; obtain ⟨Ao100, co100, eo100⟩ := Kd.R_slice HO386.out; subst eo100; have hcz101_0 : w99.cell? ⟨gb373, 0, none⟩ = some (u374000) := (blk_cell BK373.out 0).trans rfl; have hcz101_1 : w99.cell? ⟨gb373, 1, none⟩ = some (.int .i64 1) := (blk_cell BK373.out 1).trans rfl; have hfz101_0 := blk_frozen BK373.out 0; have hfz101_1 := blk_frozen BK373.out 1) | ((with_reducible refine gate_store (t := 25) (p := 78) rfl ?_); refine store_event (t := 25) (p := 78) (v := ?vo_w102) (w1 := (w99.setCell ⟨gb373, 0, none⟩ (.slice Ao100 y384.length co100))) ?hg ?ho ?hn ?hr ?_; (case ho => rfl); (case hg => rfl); (case hn => rfl); (case hr => first | (go_simp; done) | (go_simp; rfl)); intro w102 hw; have n0_ : Aside0 (Kd.R (Kd.int .i64) 3 w102 w0.heap.size (fun k_ => (P1_ k_ ∨ w.heap.size ≤ k_) ∧ some k_ ≠ (.slice Ao100 y384.length co100 : Value).ownBlock) (.slice Ao93 l1.length co93) l1) := ⟨(by rw [hw]; exact (by (with_reducible repeat (first | apply Kd.R_alloc | apply Kd.R_drewN | apply Kd.R_drew)); exact Kd.R_mono (Kd.R_far (p := ⟨gb373, 0, none⟩) (Kd.R_types HO_1.out BK373.out (by decide)) (fun _ hk => hk.2) (.slice Ao100 y384.length co100)) (fun _ hk => ⟨hk.1.1, hk.1.2⟩)))⟩; have n1_ : Aside0 (Kd.R Kd.bool 4 w102 w0.heap.size (fun k_ => (P1_ k_ ∨ w.heap.size ≤ k_)) (.slice (some ⟨go7, 0, none⟩) x9_1.length co7) x9_1) := ⟨(by rw [hw]; exact (by (with_reducible repeat (first | apply Kd.R_alloc | apply Kd.R_drewN | apply Kd.R_drew)); exact Kd.R_mono (Kd.R_far (p := ⟨gb373, 0, none⟩) (Kd.R_types HO_9.out BK373.out (by decide)) (fun _ hk => hk.2) (.slice Ao100 y384.length co100)) (fun _ hk => hk.1)))⟩; have n2_ : Aside0 (Kd.R (Kd.int .i64) 3 w102 w0.heap.size (fun k_ => (P1_ k_ ∨ w.heap.size ≤ k_) ∧ some k_ ≠ (.slice Ao93 l1.length co93 : Value).ownBlock) (.slice Ao100 y384.length co100) y384) := ⟨(by rw [hw]; exact (by (with_reducible repeat (first | apply Kd.R_alloc | apply Kd.R_drewN | apply Kd.R_drew)); exact Kd.R_mono (Kd.R_far (p := ⟨gb373, 0, none⟩) (Kd.R_types HO386.out BK373.out (by decide)) (fun _ hk => hk.2) (.slice Ao100 y384.length co100)) (fun _ hk => ⟨hk.1.1, hk.1.2⟩)))⟩; have n3_ : Aside0 (w102.heap[gb368]? = some (.cells #[.int .i64 a0_0, .slice (some ad378) l0_1.length c0_1] 24 (0, 0))) := ⟨(by rw [hw]; exact (by (with_reducible repeat (first | refine blk_drewN ?_ _ | refine blk_drew ?_ | refine blk_alloc ?_ _)); refine blk_far ?_ NB368_373.out _; (with_reducible repeat (first | refine blk_drewN ?_ _ | refine blk_drew ?_ | refine blk_alloc ?_ _)); exact BK368.out))⟩; have n4_ : Aside0 (w102.heap[gb369]? = some (.cells #[.slice none 0 0, .int .i64 x370001_1] 44 (0, 0))) := ⟨(by rw [hw]; exact (by (with_reducible repeat (first | refine blk_drewN ?_ _ | refine blk_drew ?_ | refine blk_alloc ?_ _)); refine blk_far ?_ NB369_373.out _; (with_reducible repeat (first | refine blk_drewN ?_ _ | refine blk_drew ?_ | refine blk_alloc ?_ _)); exact BK369.out))⟩; have n5_ : Aside0 (w102.heap[gb373]? = some (.cells #[.slice Ao100 y384.length co100, .int .i64 1] 44 (0, 0))) := ⟨(by rw [hw]; exact (by (with_reducible repeat (first | refine blk_drewN ?_ _ | refine blk_drew ?_ | refine blk_alloc ?_ _)); refine blk_put (cs := #[u374000, .int .i64 1]) ?_ 0 _ rfl; (with_reducible repeat (first | refine blk_drewN ?_ _ | refine blk_drew ?_ | refine blk_alloc ?_ _)); exact BK373.out))⟩; have n6_ : Aside0 (Kept w w102 (fun k_ => P1_ k_)) := ⟨(by rw [hw]; exact (by repeat (first | (with_reducible first | exact HK.out | apply Kept.alloc | apply Kept.drewN | apply Kept.drew | refine Kept.setCell ?_ (.inr GW368.out) _ | refine Kept.setCell ?_ (.inr GW369.out) _ | refine Kept.setCell ?_ (.inr GW373.out) _) | exact HK.out)))⟩; have n7_ : Aside0 (Below w0.heap.size w0 w102) := ⟨(by rw [hw]; exact (by repeat (first | (with_reducible first | exact HB.out | apply below_alloc | apply pw_below_drewN | apply below_drew1 | refine below_set ?_ GE368.out | refine below_set ?_ GE369.out | refine below_set ?_ GE373.out) | exact HB.out)))⟩; clear hw; clear HO_1; clear HO_9; clear HO386; clear BK368; clear BK369; clear BK373; clear HK; clear HB; have HO_1 := n0_; have HO_9 := n1_; have HO386 := n2_; have BK368 := n3_; have BK369 := n4_; have BK373 := n5_; have HK := n6_; have HB := n7_; clear n0_ n1_ n2_ n3_ n4_ n5_ n6_ n7_; have hcz103_0 : w102.cell? ⟨gb368, 0, none⟩ = some (.int .i64 a0_0) := (blk_cell BK368.out 0).trans rfl; have hcz103_1 : w102.cell? ⟨gb368, 1, none⟩ = some (.slice (some ad378) l0_1.length c0_1) := (blk_cell BK368.out 1).trans rfl; have hfz103_0 := blk_frozen BK368.out 0; have hfz103_1 := blk_frozen BK368.out 1; have p387 : 0 ≤ (x11_2 : Int) := of_decide_eq_true (by first | (with_reducible assumption) | assumption); have q387 : x11_2 < (l0_1.length : Int) := of_decide_eq_true (by first | (with_reducible assumption) | assumption); obtain ⟨ad387, e387, hx387_0, hx387_1, hx387_2⟩ := at_T50 (Kd.C_kept_now HR0_1.out HK.out) x11_2 p387 q387; obtain rfl : ad378 = ad387 := (by injection e387); replace p387 := eq_true p387; replace q387 := eq_true q387; have p92 : 0 ≤ (((rd_T50 l0_1 x11_2).f1) : Int) := of_decide_eq_true (by first | (with_reducible assumption) | assumption); have q92 : (((rd_T50 l0_1 x11_2).f1) : Int) < ((x9_1.length : Int) : Int) := of_decide_eq_true (by first | (with_reducible assumption) | assumption); obtain ⟨hx92_0, hf92_0⟩ := Kd.R_celln false HO_9.out (((rd_T50 l0_1 x11_2).f1) : Int) p92 q92; replace p92 := eq_true p92; replace q92 := eq_true q92; obtain ⟨hy104_, hz104_⟩ := Kd.R_celln false HO_9.out (((rd_T50 l0_1 x11_2).f1) : Int) (of_decide_eq_true (by first | (with_reducible assumption) | assumption)) (of_decide_eq_true (by first | (with_reducible assumption) | assumption)); have HP104 := Kd.R_putg HO_9.out (((rd_T50 l0_1 x11_2).f1) : Int) true) | ((with_reducible refine gate_store (t := 4) (p := 87) rfl ?_); refine store_event (t := 4) (p := 87) (v := ?vo_w105) (w1 := (w102.setCell ⟨go7, (((rd_T50 l0_1 x11_2).f1) : Int).toNat, none⟩ (.bool true))) ?hg ?ho ?hn ?hr ?_; (case ho => rfl); (case hg => rfl); (case hn => rfl); (case hr => first | (go_simp; done) | (go_simp; rfl)); intro w105 hw; have hg : w102.grownBy w105 (some go7) := (by rw [hw]; exact HP104.2); have hp_ : Kd.R Kd.bool 4 w105 w0.heap.size (fun k_ => (P1_ k_ ∨ w.heap.size ≤ k_)) (.slice (some ⟨go7, 0, none⟩) x9_1.length co7) y388 := (by rw [hw, Ny388.out]; exact HP104.1); clear HP104; have n0_ := Aside0.mk (Kd.R_over' (v := (.slice (some ⟨go7, 0, none⟩) x9_1.length co7)) (by (with_reducible repeat (first | apply Kd.R_alloc | apply Kd.R_drewN | apply Kd.R_drew)); exact HO_1.out) (Kd.R_typed HO_9.out) (by decide) hg); have n1_ := Aside0.mk (hp_); have n2_ := Aside0.mk (blk_grown (g := gb368) (o := .cells #[.int .i64 a0_0, .slice (some ad378) l0_1.length c0_1] 24 (0, 0)) (by (with_reducible repeat (first | refine blk_drewN ?_ _ | refine blk_drew ?_ | refine blk_alloc ?_ _)); exact BK368.out) hg (Kd.R_ne HO_9.out BK368.out (by decide))); have n3_ := Aside0.mk (blk_grown (g := gb369) (o := .cells #[.slice none 0 0, .int .i64 x370001_1] 44 (0, 0)) (by (with_reducible repeat (first | refine blk_drewN ?_ _ | refine blk_drew ?_ | refine blk_alloc ?_ _)); exact BK369.out) hg (Kd.R_ne HO_9.out BK369.out (by decide))); have n4_ := Aside0.mk (blk_grown (g := gb373) (o := .cells #[.slice Ao100 y384.length co100, .int .i64 1] 44 (0, 0)) (by (with_reducible repeat (first | refine blk_drewN ?_ _ | refine blk_drew ?_ | refine blk_alloc ?_ _)); exact BK373.out) hg (Kd.R_ne HO_9.out BK373.out (by decide))); have n5_ := Aside0.mk (Kd.R_over' (v := (.slice (some ⟨go7, 0, none⟩) x9_1.length co7)) (by (with_reducible repeat (first | apply Kd.R_alloc | apply Kd.R_drewN | apply Kd.R_drew)); exact HO386.out) (Kd.R_typed HO_9.out) (by decide) hg); have n6_ := Aside0.mk ((by rw [hw]; exact below_set (HB.out) GB7.out : Below w0.heap.size w0 w105)); have n7_ := Aside0.mk (Kept.of_grown (S := (fun k_ => P1_ k_)) hg (by repeat (first | (with_reducible first | exact HK.out | apply Kept.alloc | apply Kept.drewN | apply Kept.drew | refine Kept.setCell ?_ (.inr GW368.out) _ | refine Kept.setCell ?_ (.inr GW369.out) _ | refine Kept.setCell ?_ (.inr GW373.out) _) | exact HK.out)) (fun k_ e_ => (HO_9.out.1 k_ e_))); clear HO_1; clear HO_9; clear BK368; clear BK369; clear BK373; clear HO386; clear HB; clear HK; have HO_1 := n0_; have HO_9 := n1_; have BK368 := n2_; have BK369 := n3_; have BK373 := n4_; have HO386 := n5_; have HB := n6_; have HK := n7_; clear n0_ n1_ n2_ n3_ n4_ n5_ n6_ n7_; clear hg hw hp_))
                                          (try simp only [← hl9_1])
                                          go_roundg k2
                                          case measure => have := HK1.out; have := HK2.out; omega
                                          case rel => exact ⟨(y388), ((rd_T50 l0_1 x11_2).f1), (x370001_1), (y384), (.slice Ao100 y384.length co100), (by first | rfl | (simp; done) | (simp [*]; done)), H', ⟨by have := HK1.out; have := HK2.out; omega⟩, ⟨by (try simp only [hl9_1]); (with_reducible repeat (first | apply Kd.R_alloc | apply Kd.R_drewN | apply Kd.R_drew)); exact HO_1.out⟩, ⟨by (try simp only [hl9_1]); (with_reducible repeat (first | apply Kd.R_alloc | apply Kd.R_drewN | apply Kd.R_drew)); exact HO_9.out⟩, ⟨by (try simp only [hl9_1]); (with_reducible repeat (first | apply Kd.R_alloc | apply Kd.R_drewN | apply Kd.R_drew)); exact HO386.out⟩, ⟨by (try simp only [hl9_1]); (with_reducible repeat (first | refine blk_drewN ?_ _ | refine blk_drew ?_ | refine blk_alloc ?_ _)); exact BK368.out⟩, ⟨by (try simp only [hl9_1]); (with_reducible repeat (first | refine blk_drewN ?_ _ | refine blk_drew ?_ | refine blk_alloc ?_ _)); exact BK369.out⟩, ⟨by (try simp only [hl9_1]); (with_reducible repeat (first | refine blk_drewN ?_ _ | refine blk_drew ?_ | refine blk_alloc ?_ _)); exact BK373.out⟩, ⟨by repeat (first | (with_reducible first | exact HK.out | apply Kept.alloc | apply Kept.drewN | apply Kept.drew | refine Kept.setCell ?_ (.inr GW368.out) _ | refine Kept.setCell ?_ (.inr GW369.out) _ | refine Kept.setCell ?_ (.inr GW373.out) _) | exact HK.out)⟩, ⟨by repeat (first | (with_reducible first | exact HB.out | apply below_alloc | apply pw_below_drewN | apply below_drew1 | refine below_set ?_ GE368.out | refine below_set ?_ GE369.out | refine below_set ?_ GE373.out) | exact HB.out)⟩⟩
                                        · rw [if_neg c91] at H
                                          exact absurd H (by simp)
                                    · rw [if_neg c80] at H
                                      exact absurd H (by simp)
                                  · rw [if_neg c79] at H
                                    exact absurd H (by simp)
                                · rw [if_neg c78] at H
                                  exact absurd H (by simp)
                              · rw [if_neg c77] at H
                                exact absurd H (by simp)
              · rw [if_neg c11] at H
                exact absurd H (by simp)
            · rw [if_neg c10] at H
              exact absurd H (by simp)
          · rw [if_neg c9] at H
            exact absurd H (by simp)
        · rw [if_neg c8] at H
          exact absurd H (by simp)
      · rw [if_neg c6] at H
        exact absurd H (by simp)
    · rw [if_neg c5] at H
      exact absurd H (by simp)
  · rw [if_neg c4] at H
    exact absurd H (by simp)

-- NOT PRINTED: function 6 (billetlaw07_LexStays)

end Go.Proofs.Ytlpccebackmahaa.PW

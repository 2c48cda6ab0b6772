/- Functions as the kit's print tells them, and that the code computes them. -/
import Derived.Test.YtlmnmjnmilaipaaGreatDoorRfO
import Derived.Test.YtlmnmjnmilaipaaGreatDoorVrA
import Derived.Test.YtlmnmjnmilaipaaGreatDoorVrB
namespace Go.Proofs.YtlmnmjnmilaipaaGreatDoor.PR
open Go.RowKit Go.Proofs.YtlmnmjnmilaipaaGreatDoorW.PrintWords Go.Proofs.YtlmnmjnmilaipaaGreatDoorW.PrintLast Go.Proofs.YtlmnmjnmilaipaaGreatDoorW.PrintMore
attribute [local go_sem] max2_int min2_int max_two min_two max_three min_three max_four min_four   -- for this text's walks alone
set_option linter.unusedVariables false
set_option linter.unusedSimpArgs false

/-! ### frame_Take: function 108 -/
mutual
def frame_Take.j0 : Nat → ByteArray → Int → Int → Int → Bool → ByteArray → Int → Bool → Option (ByteArray × Int × Int)
  | 0, _, _, _, _, _, _, _, _ => none
  | k + 1, x0, x5, x7, x8, x21, x258000, x258001, x258002 => if x21 = true then (some ((⟨#[]⟩ : ByteArray), 0, 30)) else ((varint_Reader_Bad.f x258000 x258001 x258002).bind fun bt270 => (if bt270.1 = true then (frame_Take.j1 k x0 x5 x7 x8 false bt270.2.1 bt270.2.2.1 bt270.2.2.2) else (if x7 ≥ 0 then (if x7 ≤ 4096 then ((varint_Reader_Left.f bt270.2.1 bt270.2.2.1 bt270.2.2.2).bind fun bt274 => (frame_Take.j1 k x0 x5 x7 x8 (decide (bt274.1 < (wrap64 (x7 + 4)))) bt274.2.1 bt274.2.2.1 bt274.2.2.2)) else (frame_Take.j1 k x0 x5 x7 x8 false bt270.2.1 bt270.2.2.1 bt270.2.2.2)) else (frame_Take.j1 k x0 x5 x7 x8 false bt270.2.1 bt270.2.2.1 bt270.2.2.2))))
def frame_Take.j1 : Nat → ByteArray → Int → Int → Int → Bool → ByteArray → Int → Bool → Option (ByteArray × Int × Int)
  | 0, _, _, _, _, _, _, _, _ => none
  | k + 1, x0, x5, x7, x8, x34, x258000, x258001, x258002 => if x34 = true then (some ((⟨#[]⟩ : ByteArray), 0, 30)) else ((varint_Reader_Bad.f x258000 x258001 x258002).bind fun bt278 => (if bt278.1 = true then (some ((⟨#[]⟩ : ByteArray), 0, x5)) else (if x7 < 0 then (some ((⟨#[]⟩ : ByteArray), 0, x5)) else (if x7 > 4096 then (some ((⟨#[]⟩ : ByteArray), 0, x5)) else (if 0 ≤ (wrap64 (x8 + x7)) then (if (wrap64 (x8 + x7)) ≤ (x0.size : Int) then ((frame_sealed.f k (x0.extract 0 ((wrap64 (x8 + x7)) : Int).toNat)).bind fun t282 => (if 0 ≤ (wrap64 ((wrap64 (x8 + x7)) + 4)) then (if (wrap64 ((wrap64 (x8 + x7)) + 4)) ≤ (x0.size : Int) then (if t282.toList = (x0.extract 0 ((wrap64 ((wrap64 (x8 + x7)) + 4)) : Int).toNat).toList then (if 0 ≤ x8 then (if x8 ≤ (wrap64 (x8 + x7)) then (some (x0.extract (x8 : Int).toNat ((wrap64 (x8 + x7)) : Int).toNat, wrap64 ((wrap64 (x8 + x7)) + 4), 0)) else (none)) else (none)) else (some ((⟨#[]⟩ : ByteArray), 0, x5))) else (none)) else (none))) else (none)) else (none))))))
end
def frame_Take.f (k : Nat) (a0 : ByteArray) : Option (ByteArray × Int × Int) := (varint_New.f a0).bind fun bt254 => ((varint_Reader_Num.f k bt254.1 bt254.2.1 bt254.2.2).bind fun bt258 => ((varint_Reader_Left.f bt258.2.1 bt258.2.2.1 bt258.2.2.2).bind fun bt262 => (if a0.toList = ([] : List UInt8) then (some ((⟨#[]⟩ : ByteArray), 0, 30)) else (if (a0.size : Int) = 1 then ((varint_Reader_Bad.f bt262.2.1 bt262.2.2.1 bt262.2.2.2).bind fun bt266 => (if bt266.1 = true then (if 0 < (a0.size : Int) then (frame_Take.j0 k a0 31 bt258.1 (wrap64 ((a0.size : Int) - bt262.1)) (decide ((bt a0 0) ≥ 128)) bt266.2.1 bt266.2.2.1 bt266.2.2.2) else (none)) else (frame_Take.j0 k a0 31 bt258.1 (wrap64 ((a0.size : Int) - bt262.1)) false bt266.2.1 bt266.2.2.1 bt266.2.2.2))) else (frame_Take.j0 k a0 31 bt258.1 (wrap64 ((a0.size : Int) - bt262.1)) false bt262.2.1 bt262.2.2.1 bt262.2.2.2)))))
theorem frame_Take.mono_l : ∀ k, (∀ y0 y1 y2 y3 y4 y5 y6 y7, LeO (frame_Take.j0 k y0 y1 y2 y3 y4 y5 y6 y7) (frame_Take.j0 (k + 1) y0 y1 y2 y3 y4 y5 y6 y7)) ∧ (∀ y0 y1 y2 y3 y4 y5 y6 y7, LeO (frame_Take.j1 k y0 y1 y2 y3 y4 y5 y6 y7) (frame_Take.j1 (k + 1) y0 y1 y2 y3 y4 y5 y6 y7))
  | 0 => ⟨fun _ _ _ _ _ _ _ _ r h => by simp [frame_Take.j0] at h, fun _ _ _ _ _ _ _ _ r h => by simp [frame_Take.j1] at h⟩
  | k + 1 => by
    obtain ⟨ih0, ih1⟩ := frame_Take.mono_l k
    refine ⟨?_, ?_⟩
    · intro y0 y1 y2 y3 y4 y5 y6 y7
      unfold frame_Take.j0
      repeat' first
      | (with_reducible exact ih0 _ _ _ _ _ _ _ _)
      | (with_reducible exact ih1 _ _ _ _ _ _ _ _)
      | (with_reducible exact frame_sealed.mono _ _)
      | (with_reducible exact varint_Reader_Num.mono _ _ _ _)
      | (with_reducible exact LeO.refl _)
      | (with_reducible exact LeO.none _)
      | (with_reducible refine LeO.ite ?_ ?_)
      | (with_reducible refine LeO.bind ?_ (fun _ => ?_))
      | exact ih0 _ _ _ _ _ _ _ _
      | exact ih1 _ _ _ _ _ _ _ _
      | exact frame_sealed.mono _ _
      | exact varint_Reader_Num.mono _ _ _ _
      | exact LeO.none _
      | refine LeO.ite ?_ ?_
      | refine LeO.bind ?_ (fun _ => ?_)
    · intro y0 y1 y2 y3 y4 y5 y6 y7
      unfold frame_Take.j1
      repeat' first
      | (with_reducible exact ih0 _ _ _ _ _ _ _ _)
      | (with_reducible exact ih1 _ _ _ _ _ _ _ _)
      | (with_reducible exact frame_sealed.mono _ _)
      | (with_reducible exact varint_Reader_Num.mono _ _ _ _)
      | (with_reducible exact LeO.refl _)
      | (with_reducible exact LeO.none _)
      | (with_reducible refine LeO.ite ?_ ?_)
      | (with_reducible refine LeO.bind ?_ (fun _ => ?_))
      | exact ih0 _ _ _ _ _ _ _ _
      | exact ih1 _ _ _ _ _ _ _ _
      | exact frame_sealed.mono _ _
      | exact varint_Reader_Num.mono _ _ _ _
      | exact LeO.none _
      | refine LeO.ite ?_ ?_
      | refine LeO.bind ?_ (fun _ => ?_)
theorem frame_Take.mono : ∀ a0 k, LeO (frame_Take.f k a0) (frame_Take.f (k + 1) a0) := by
  intro a0 k
  obtain ⟨ih0, ih1⟩ := frame_Take.mono_l k
  unfold frame_Take.f
  repeat' first
      | (with_reducible exact ih0 _ _ _ _ _ _ _ _)
      | (with_reducible exact ih1 _ _ _ _ _ _ _ _)
      | (with_reducible exact frame_sealed.mono _ _)
      | (with_reducible exact varint_Reader_Num.mono _ _ _ _)
      | (with_reducible exact LeO.refl _)
      | (with_reducible exact LeO.none _)
      | (with_reducible refine LeO.ite ?_ ?_)
      | (with_reducible refine LeO.bind ?_ (fun _ => ?_))
      | exact ih0 _ _ _ _ _ _ _ _
      | exact ih1 _ _ _ _ _ _ _ _
      | exact frame_sealed.mono _ _
      | exact varint_Reader_Num.mono _ _ _ _
      | exact LeO.none _
      | refine LeO.ite ?_ ?_
      | refine LeO.bind ?_ (fun _ => ?_)
def frame_Take.T8 : Bool × List (List Nat × List Nat) := (true, [([], []), ([0], [0]), ([1, 1], [1]), ([2], [2]), ([3, 2], [2, 3]), ([2, 4], [2, 4]), ([5, 2], [5]), ([6], [6]), ([7, 6], [6, 7]), ([6, 8], [6, 8]), ([9, 6], [9]), ([10], [10]), ([10], [10]), ([10], [10]), ([12, 13, 10], [10, 12, 13]), ([11, 14, 10], [10, 11, 14]), ([15, 10, 10], [10, 15]), ([10], [10]), ([10], [10]), ([10], [10]), ([18, 19, 10], [10, 18, 19]), ([20, 10], [10, 20]), ([17, 21, 10], [10, 17, 21]), ([16, 22, 10], [10, 16, 22]), ([10, 23], [10, 23]), ([24, 16], [24])])
def frame_Take.B8 : List Nat := [0, 1, 3, 7, 15, 31, 63, 127, 255, 511, 1023, 2047, 2047, 2047, 14335, 32767, 65535, 2047, 2047, 2047, 788479, 1837055, 4065279, 8388607, 16777215, 33554431]
theorem frame_Take.tab8 : rtab .any (opsOf Tryz.f108 8) = frame_Take.T8 := by kernel_rfl
theorem frame_Take.bits8 : waitsOk frame_Take.T8.2 frame_Take.B8 = true := by kernel_rfl
set_option maxHeartbeats 8000000 in
set_option maxRecDepth 100000 in
theorem frame_Take.calls (k : Nat) (a0 : ByteArray) (r1 : ByteArray) (r2 : Int) (r3 : Int) (w : World) (h : frame_Take.f k a0 = some (r1, r2, r3)) :
    Calls Tryz.prog 108 #[.string a0] w fun e w' => e = .returned (.tuple #[.string r1, .int .i64 r2, .int .i64 r3]) ∧ Below w.heap.size w w' := by
  have HB := Aside0.mk (Below.refl w.heap.size w)
  have H : ((varint_New.f a0).bind fun bt254 => ((varint_Reader_Num.f k bt254.1 bt254.2.1 bt254.2.2).bind fun bt258 => ((varint_Reader_Left.f bt258.2.1 bt258.2.2.1 bt258.2.2.2).bind fun bt262 => (if a0.toList = ([] : List UInt8) then (some ((⟨#[]⟩ : ByteArray), 0, 30)) else (if (a0.size : Int) = 1 then ((varint_Reader_Bad.f bt262.2.1 bt262.2.2.1 bt262.2.2.2).bind fun bt266 => (if bt266.1 = true then (if 0 < (a0.size : Int) then (frame_Take.j0 k a0 31 bt258.1 (wrap64 ((a0.size : Int) - bt262.1)) (decide ((bt a0 0) ≥ 128)) bt266.2.1 bt266.2.2.1 bt266.2.2.2) else (none)) else (frame_Take.j0 k a0 31 bt258.1 (wrap64 ((a0.size : Int) - bt262.1)) false bt266.2.1 bt266.2.2.1 bt266.2.2.2))) else (frame_Take.j0 k a0 31 bt258.1 (wrap64 ((a0.size : Int) - bt262.1)) false bt262.2.1 bt262.2.2.1 bt262.2.2.2)))))) = some (r1, r2, r3) := h
  clear h
  replace H := Option.bind_eq_some_iff.mp H
  obtain ⟨⟨t254, t255, t256⟩, A20, H⟩ := H
  replace H : ((varint_Reader_Num.f k t254 t255 t256).bind fun bt258 => ((varint_Reader_Left.f bt258.2.1 bt258.2.2.1 bt258.2.2.2).bind fun bt262 => (if a0.toList = ([] : List UInt8) then (some ((⟨#[]⟩ : ByteArray), 0, 30)) else (if (a0.size : Int) = 1 then ((varint_Reader_Bad.f bt262.2.1 bt262.2.2.1 bt262.2.2.2).bind fun bt266 => (if bt266.1 = true then (if 0 < (a0.size : Int) then (frame_Take.j0 k a0 31 bt258.1 (wrap64 ((a0.size : Int) - bt262.1)) (decide ((bt a0 0) ≥ 128)) bt266.2.1 bt266.2.2.1 bt266.2.2.2) else (none)) else (frame_Take.j0 k a0 31 bt258.1 (wrap64 ((a0.size : Int) - bt262.1)) false bt266.2.1 bt266.2.2.1 bt266.2.2.2))) else (frame_Take.j0 k a0 31 bt258.1 (wrap64 ((a0.size : Int) - bt262.1)) false bt262.2.1 bt262.2.2.1 bt262.2.2.2))))) = some (r1, r2, r3) := H
  have A2 := Aside0.mk A20
  clear A20
  replace H := Option.bind_eq_some_iff.mp H
  obtain ⟨⟨t258, t259, t260, t261⟩, A30, H⟩ := H
  replace H : ((varint_Reader_Left.f t259 t260 t261).bind fun bt262 => (if a0.toList = ([] : List UInt8) then (some ((⟨#[]⟩ : ByteArray), 0, 30)) else (if (a0.size : Int) = 1 then ((varint_Reader_Bad.f bt262.2.1 bt262.2.2.1 bt262.2.2.2).bind fun bt266 => (if bt266.1 = true then (if 0 < (a0.size : Int) then (frame_Take.j0 k a0 31 t258 (wrap64 ((a0.size : Int) - bt262.1)) (decide ((bt a0 0) ≥ 128)) bt266.2.1 bt266.2.2.1 bt266.2.2.2) else (none)) else (frame_Take.j0 k a0 31 t258 (wrap64 ((a0.size : Int) - bt262.1)) false bt266.2.1 bt266.2.2.1 bt266.2.2.2))) else (frame_Take.j0 k a0 31 t258 (wrap64 ((a0.size : Int) - bt262.1)) false bt262.2.1 bt262.2.2.1 bt262.2.2.2)))) = some (r1, r2, r3) := H
  have A3 := Aside0.mk A30
  clear A30
  replace H := Option.bind_eq_some_iff.mp H
  obtain ⟨⟨t262, t263, t264, t265⟩, A40, H⟩ := H
  replace H : (if a0.toList = ([] : List UInt8) then (some ((⟨#[]⟩ : ByteArray), 0, 30)) else (if (a0.size : Int) = 1 then ((varint_Reader_Bad.f t263 t264 t265).bind fun bt266 => (if bt266.1 = true then (if 0 < (a0.size : Int) then (frame_Take.j0 k a0 31 t258 (wrap64 ((a0.size : Int) - t262)) (decide ((bt a0 0) ≥ 128)) bt266.2.1 bt266.2.2.1 bt266.2.2.2) else (none)) else (frame_Take.j0 k a0 31 t258 (wrap64 ((a0.size : Int) - t262)) false bt266.2.1 bt266.2.2.1 bt266.2.2.2))) else (frame_Take.j0 k a0 31 t258 (wrap64 ((a0.size : Int) - t262)) false t263 t264 t265))) = some (r1, r2, r3) := H
  have A4 := Aside0.mk A40
  clear A40
  by_cases c5 : a0.toList = ([] : List UInt8)
  · rw [if_pos c5] at H
    have c5b0 : (a0.toList == ([] : List UInt8)) = true := beq_iff_eq.mpr c5
    have c5b1 : (a0.toList != ([] : List UInt8)) = false := bne_eq_false_iff_eq.mpr c5
    clear c5
    simp only [Option.some.injEq, Prod.mk.injEq] at H
    obtain ⟨rfl, rfl, rfl⟩ := H
    go_enter Tryz.func108, Tryz.ntmps108
    go_wp2_with (first | ((with_reducible refine gate_callee (f := 109) rfl ?_); refine goesL_ (some 10) rfl rfl Tryz.func109 (by kernel_rfl) rfl #[.string a0] rfl (by (try simp only [List.map_toArray, List.map_cons, List.map_nil]); first | done | rfl | (simp only [List.length_drop, List.length_take]; rfl)) ?_; (with_reducible refine (varint_New.calls a0 t254 t255 t256 w _ ?side1 A2.out).mono ?_); (case side1 => repeat (first | (with_reducible first | exact HB.out | apply below_alloc | apply pw_below_drewN | apply below_drew1) | exact HB.out)); rintro e w6 ⟨g257, rfl, hi, hb, hb2⟩; refine ⟨_, rfl, ?_⟩; have n0_ := Aside0.mk (hb); have n1_ := Aside0.mk (hi); clear HB; have HB := n0_; have HI257 := n1_; clear n0_ n1_; (try clear hb); (try clear hb2); (try clear hk); (try clear hi)) | ((with_reducible refine gate_callee (f := 110) rfl ?_); refine goesL_ (some 12) rfl rfl Tryz.func110 (by kernel_rfl) rfl #[.pointer (some ⟨g257, 0, none⟩)] rfl (by (try simp only [List.map_toArray, List.map_cons, List.map_nil]); first | done | rfl | (simp only [List.length_drop, List.length_take]; rfl)) ?_; (with_reducible refine (varint_Reader_Num.calls k g257 t254 t255 t256 t258 t259 t260 t261 w _ ?side1 ?side2 A3.out).mono ?_); (case side1 => repeat (first | (with_reducible first | exact HI257.out | apply IsS192.alloc | apply IsS192.drewN | apply IsS192.drew | apply IsS192.set_0 | apply IsS192.set_1 | apply IsS192.set_2) | exact HI257.out)); (case side2 => repeat (first | (with_reducible first | exact HB.out | apply below_alloc | apply pw_below_drewN | apply below_drew1 | refine below_set ?_ (IsS192.ge HI257.out)) | exact HB.out)); rintro e w7 ⟨rfl, hi, hb, hk⟩; refine ⟨_, rfl, ?_⟩; have n0_ := Aside0.mk (hb); have n1_ := Aside0.mk (hi); clear HB; clear HI257; have HB := n0_; have HI257 := n1_; clear n0_ n1_; (try clear hb); (try clear hb2); (try clear hk); (try clear hi)) | ((with_reducible refine gate_callee (f := 112) rfl ?_); refine goesL_ (some 16) rfl rfl Tryz.func112 (by kernel_rfl) rfl #[.pointer (some ⟨g257, 0, none⟩)] rfl (by (try simp only [List.map_toArray, List.map_cons, List.map_nil]); first | done | rfl | (simp only [List.length_drop, List.length_take]; rfl)) ?_; (with_reducible refine (varint_Reader_Left.calls g257 t259 t260 t261 t262 t263 t264 t265 w _ ?side1 ?side2 A4.out).mono ?_); (case side1 => repeat (first | (with_reducible first | exact HI257.out | apply IsS192.alloc | apply IsS192.drewN | apply IsS192.drew | apply IsS192.set_0 | apply IsS192.set_1 | apply IsS192.set_2) | exact HI257.out)); (case side2 => repeat (first | (with_reducible first | exact HB.out | apply below_alloc | apply pw_below_drewN | apply below_drew1 | refine below_set ?_ (IsS192.ge HI257.out)) | exact HB.out)); rintro e w8 ⟨rfl, hi, hb, hk⟩; refine ⟨_, rfl, ?_⟩; have n0_ := Aside0.mk (hb); have n1_ := Aside0.mk (hi); clear HB; clear HI257; have HB := n0_; have HI257 := n1_; clear n0_ n1_; (try clear hb); (try clear hb2); (try clear hk); (try clear hi)))
    go_ret3
    exact ⟨by first | rfl | (simp [errW_none, errW_some] <;> rfl) | (simp [*, errW_none, errW_some] <;> rfl), by repeat (first | (with_reducible first | exact HB.out | apply below_alloc | apply pw_below_drewN | apply below_drew1 | refine below_set ?_ (IsS192.ge HI257.out)) | exact HB.out)⟩
  · rw [if_neg c5] at H
    have c5b0 : (a0.toList == ([] : List UInt8)) = false := beq_eq_false_iff_ne.mpr c5
    have c5b1 : (a0.toList != ([] : List UInt8)) = true := bne_iff_ne.mpr c5
    have HC9 := Aside0.mk H
    clear H
    go_enter Tryz.func108, Tryz.ntmps108
    go_upto_region 6 with (first | ((with_reducible refine gate_callee (f := 109) rfl ?_); refine goesL_ (some 10) rfl rfl Tryz.func109 (by kernel_rfl) rfl #[.string a0] rfl (by (try simp only [List.map_toArray, List.map_cons, List.map_nil]); first | done | rfl | (simp only [List.length_drop, List.length_take]; rfl)) ?_; (with_reducible refine (varint_New.calls a0 t254 t255 t256 w _ ?side1 A2.out).mono ?_); (case side1 => repeat (first | (with_reducible first | exact HB.out | apply below_alloc | apply pw_below_drewN | apply below_drew1) | exact HB.out)); rintro e w10 ⟨g257, rfl, hi, hb, hb2⟩; refine ⟨_, rfl, ?_⟩; have n0_ := Aside0.mk (hb); have n1_ := Aside0.mk (hi); clear HB; have HB := n0_; have HI257 := n1_; clear n0_ n1_; (try clear hb); (try clear hb2); (try clear hk); (try clear hi)) | ((with_reducible refine gate_callee (f := 110) rfl ?_); refine goesL_ (some 12) rfl rfl Tryz.func110 (by kernel_rfl) rfl #[.pointer (some ⟨g257, 0, none⟩)] rfl (by (try simp only [List.map_toArray, List.map_cons, List.map_nil]); first | done | rfl | (simp only [List.length_drop, List.length_take]; rfl)) ?_; (with_reducible refine (varint_Reader_Num.calls k g257 t254 t255 t256 t258 t259 t260 t261 w _ ?side1 ?side2 A3.out).mono ?_); (case side1 => repeat (first | (with_reducible first | exact HI257.out | apply IsS192.alloc | apply IsS192.drewN | apply IsS192.drew | apply IsS192.set_0 | apply IsS192.set_1 | apply IsS192.set_2) | exact HI257.out)); (case side2 => repeat (first | (with_reducible first | exact HB.out | apply below_alloc | apply pw_below_drewN | apply below_drew1 | refine below_set ?_ (IsS192.ge HI257.out)) | exact HB.out)); rintro e w11 ⟨rfl, hi, hb, hk⟩; refine ⟨_, rfl, ?_⟩; have n0_ := Aside0.mk (hb); have n1_ := Aside0.mk (hi); clear HB; clear HI257; have HB := n0_; have HI257 := n1_; clear n0_ n1_; (try clear hb); (try clear hb2); (try clear hk); (try clear hi)) | ((with_reducible refine gate_callee (f := 112) rfl ?_); refine goesL_ (some 16) rfl rfl Tryz.func112 (by kernel_rfl) rfl #[.pointer (some ⟨g257, 0, none⟩)] rfl (by (try simp only [List.map_toArray, List.map_cons, List.map_nil]); first | done | rfl | (simp only [List.length_drop, List.length_take]; rfl)) ?_; (with_reducible refine (varint_Reader_Left.calls g257 t259 t260 t261 t262 t263 t264 t265 w _ ?side1 ?side2 A4.out).mono ?_); (case side1 => repeat (first | (with_reducible first | exact HI257.out | apply IsS192.alloc | apply IsS192.drewN | apply IsS192.drew | apply IsS192.set_0 | apply IsS192.set_1 | apply IsS192.set_2) | exact HI257.out)); (case side2 => repeat (first | (with_reducible first | exact HB.out | apply below_alloc | apply pw_below_drewN | apply below_drew1 | refine below_set ?_ (IsS192.ge HI257.out)) | exact HB.out)); rintro e w12 ⟨rfl, hi, hb, hk⟩; refine ⟨_, rfl, ?_⟩; have n0_ := Aside0.mk (hb); have n1_ := Aside0.mk (hi); clear HB; clear HI257; have HB := n0_; have HI257 := n1_; clear n0_ n1_; (try clear hb); (try clear hb2); (try clear hk); (try clear hi)))
    (try simp only [Act.put, List.setIfInBounds_toArray, List.set_cons_zero, List.set_cons_succ])
    go_cut [21] (fun v21 wc => ∃ (kq : Nat) (x21_8 : Bool) (x258000_8 : ByteArray) (x258001_8 : Int) (x258002_8 : Bool), v21 = .bool x21_8 ∧ Aside0 (frame_Take.j0 kq a0 31 t258 (wrap64 ((a0.size : Int) - t262)) x21_8 x258000_8 x258001_8 x258002_8 = some (r1, r2, r3)) ∧ Aside0 (kq ≤ k) ∧ Aside0 (IsS192 w wc g257 x258000_8 x258001_8 x258002_8) ∧ Aside0 (Below w.heap.size w wc))
    case first =>
      have H := HC9.out
      clear HC9
      by_cases c13 : (a0.size : Int) = 1
      · rw [if_pos c13] at H
        have c13b0 : ((a0.size : Int) == 1) = true := beq_iff_eq.mpr c13
        have c13b1 : ((a0.size : Int) != 1) = false := bne_eq_false_iff_eq.mpr c13
        clear c13
        (first | rw [c13b0] | (simp only [i64_w, i32_w]; rw [c13b0]) | skip)
        replace H := Option.bind_eq_some_iff.mp H
        obtain ⟨⟨t266, t267, t268, t269⟩, A140, H⟩ := H
        replace H : (if t266 = true then (if 0 < (a0.size : Int) then (frame_Take.j0 k a0 31 t258 (wrap64 ((a0.size : Int) - t262)) (decide ((bt a0 0) ≥ 128)) t267 t268 t269) else (none)) else (frame_Take.j0 k a0 31 t258 (wrap64 ((a0.size : Int) - t262)) false t267 t268 t269)) = some (r1, r2, r3) := H
        have A14 := Aside0.mk A140
        clear A140
        by_cases c15 : t266 = true
        · subst c15
          have H1 : (if 0 < (a0.size : Int) then (frame_Take.j0 k a0 31 t258 (wrap64 ((a0.size : Int) - t262)) (decide ((bt a0 0) ≥ 128)) t267 t268 t269) else (none)) = some (r1, r2, r3) := by rw [if_pos rfl] at H; exact H
          clear H
          have H := H1
          clear H1
          by_cases c16 : 0 < (a0.size : Int)
          · rw [if_pos c16] at H
            have c16b0 : decide (0 < (a0.size : Int)) = true := decide_eq_true c16
            have c16b1 : decide (0 < a0.size) = true := decide_eq_true (by omega)
            clear c16
            have H' := Aside0.mk H
            clear H
            go_wp2_with (first | (go_at_call 111; (with_reducible refine (varint_Reader_Bad.calls g257 t263 t264 t265 true t267 t268 t269 w _ ?side1 ?side2 A14.out).mono ?_); (case side1 => repeat (first | (with_reducible first | exact HI257.out | apply IsS192.alloc | apply IsS192.drewN | apply IsS192.drew | apply IsS192.set_0 | apply IsS192.set_1 | apply IsS192.set_2) | exact HI257.out)); (case side2 => repeat (first | (with_reducible first | exact HB.out | apply below_alloc | apply pw_below_drewN | apply below_drew1 | refine below_set ?_ (IsS192.ge HI257.out)) | exact HB.out)); rintro e w18 ⟨rfl, hi, hb, hk⟩; have n0_ := Aside0.mk (hb); have n1_ := Aside0.mk (hi); clear HB; clear HI257; have HB := n0_; have HI257 := n1_; clear n0_ n1_; (try clear hb); (try clear hb2); (try clear hk); (try clear hi); have p17 : 0 ≤ (0 : Int) := (by omega); have q17 : 0 < a0.size := (by have : (0 : Int) < (a0.size : Int) := of_decide_eq_true (by first | (with_reducible assumption) | assumption); omega); have hx17 : ∀ h : 0 < a0.size, ((a0[0]'h).toNat : Int) = bt a0 0 := bt_at a0 0; clear p17; have qi17 : (0 < (a0.size : Int)) = True := eq_true (of_decide_eq_true (by first | (with_reducible assumption) | assumption)); replace q17 := eq_true q17))
            go_meet
            case rel => exact ⟨_, (decide ((bt a0 0) ≥ 128)), (t267), (t268), (t269), (by first | rfl | (simp; done) | (simp [*]; done)), H', ⟨by first | omega | exact Nat.le_refl _⟩, ⟨by repeat (first | (with_reducible first | exact HI257.out | apply IsS192.alloc | apply IsS192.drewN | apply IsS192.drew | apply IsS192.set_0 | apply IsS192.set_1 | apply IsS192.set_2) | exact HI257.out)⟩, ⟨by repeat (first | (with_reducible first | exact HB.out | apply below_alloc | apply pw_below_drewN | apply below_drew1 | refine below_set ?_ (IsS192.ge HI257.out)) | exact HB.out)⟩⟩
          · rw [if_neg c16] at H
            exact absurd H (by simp)
        · replace c15 := Bool.eq_false_iff.mpr c15
          subst c15
          have H1 : (frame_Take.j0 k a0 31 t258 (wrap64 ((a0.size : Int) - t262)) false t267 t268 t269) = some (r1, r2, r3) := by rw [if_neg (show ¬ (false = true) by decide)] at H; exact H
          clear H
          have H := H1
          clear H1
          have H' := Aside0.mk H
          clear H
          go_wp2_with (first | (go_at_call 111; (with_reducible refine (varint_Reader_Bad.calls g257 t263 t264 t265 false t267 t268 t269 w _ ?side1 ?side2 A14.out).mono ?_); (case side1 => repeat (first | (with_reducible first | exact HI257.out | apply IsS192.alloc | apply IsS192.drewN | apply IsS192.drew | apply IsS192.set_0 | apply IsS192.set_1 | apply IsS192.set_2) | exact HI257.out)); (case side2 => repeat (first | (with_reducible first | exact HB.out | apply below_alloc | apply pw_below_drewN | apply below_drew1 | refine below_set ?_ (IsS192.ge HI257.out)) | exact HB.out)); rintro e w19 ⟨rfl, hi, hb, hk⟩; have n0_ := Aside0.mk (hb); have n1_ := Aside0.mk (hi); clear HB; clear HI257; have HB := n0_; have HI257 := n1_; clear n0_ n1_; (try clear hb); (try clear hb2); (try clear hk); (try clear hi)))
          go_meet
          case rel => exact ⟨_, (false), (t267), (t268), (t269), (by first | rfl | (simp; done) | (simp [*]; done)), H', ⟨by first | omega | exact Nat.le_refl _⟩, ⟨by repeat (first | (with_reducible first | exact HI257.out | apply IsS192.alloc | apply IsS192.drewN | apply IsS192.drew | apply IsS192.set_0 | apply IsS192.set_1 | apply IsS192.set_2) | exact HI257.out)⟩, ⟨by repeat (first | (with_reducible first | exact HB.out | apply below_alloc | apply pw_below_drewN | apply below_drew1 | refine below_set ?_ (IsS192.ge HI257.out)) | exact HB.out)⟩⟩
      · rw [if_neg c13] at H
        have c13b0 : ((a0.size : Int) == 1) = false := beq_eq_false_iff_ne.mpr c13
        have c13b1 : ((a0.size : Int) != 1) = true := bne_iff_ne.mpr c13
        (first | rw [c13b0] | (simp only [i64_w, i32_w]; rw [c13b0]) | skip)
        have H' := Aside0.mk H
        clear H
        go_wp2
        go_meet
        case rel => exact ⟨_, (false), (t263), (t264), (t265), (by first | rfl | (simp; done) | (simp [*]; done)), H', ⟨by first | omega | exact Nat.le_refl _⟩, ⟨by repeat (first | (with_reducible first | exact HI257.out | apply IsS192.alloc | apply IsS192.drewN | apply IsS192.drew | apply IsS192.set_0 | apply IsS192.set_1 | apply IsS192.set_2) | exact HI257.out)⟩, ⟨by repeat (first | (with_reducible first | exact HB.out | apply below_alloc | apply pw_below_drewN | apply below_drew1 | refine below_set ?_ (IsS192.ge HI257.out)) | exact HB.out)⟩⟩
    case rest =>
      clear HC9
      try clear c1
      try clear p1
      try clear q1
      try clear hx1
      try clear qi1
      try clear p2
      try clear c5
      try clear c5b0
      try clear c5b1
      try clear p6
      try clear c10
      try clear c11
      try clear c13
      try clear c13b0
      try clear c13b1
      try clear c15
      try clear c16
      try clear c16b0
      try clear c16b1
      try clear p17
      try clear q17
      try clear hx17
      try clear qi17
      try clear p17
      try clear q17
      obtain ⟨kq, x21_8, x258000_8, x258001_8, x258002_8, rfl, HA, HJ8, HI257, HB⟩ := hcut
      cases kq with
      | zero => exact absurd HA.out (by simp [frame_Take.j0])
      | succ kj8 =>
        have H := HA.out
        clear HA
        simp only [frame_Take.j0] at H
        by_cases c20 : x21_8 = true
        · subst c20
          have H1 : (some ((⟨#[]⟩ : ByteArray), 0, 30)) = some (r1, r2, r3) := by rw [if_pos rfl] at H; exact H
          clear H
          have H := H1
          clear H1
          simp only [Option.some.injEq, Prod.mk.injEq] at H
          obtain ⟨rfl, rfl, rfl⟩ := H
          go_wp2
          go_ret3
          exact ⟨by first | rfl | (simp [errW_none, errW_some] <;> rfl) | (simp [*, errW_none, errW_some] <;> rfl), by repeat (first | (with_reducible first | exact HB.out | apply below_alloc | apply pw_below_drewN | apply below_drew1 | refine below_set ?_ (IsS192.ge HI257.out)) | exact HB.out)⟩
        · replace c20 := Bool.eq_false_iff.mpr c20
          subst c20
          have H1 : ((varint_Reader_Bad.f x258000_8 x258001_8 x258002_8).bind fun bt270 => (if bt270.1 = true then (frame_Take.j1 kj8 a0 31 t258 (wrap64 ((a0.size : Int) - t262)) false bt270.2.1 bt270.2.2.1 bt270.2.2.2) else (if t258 ≥ 0 then (if t258 ≤ 4096 then ((varint_Reader_Left.f bt270.2.1 bt270.2.2.1 bt270.2.2.2).bind fun bt274 => (frame_Take.j1 kj8 a0 31 t258 (wrap64 ((a0.size : Int) - t262)) (decide (bt274.1 < (wrap64 (t258 + 4)))) bt274.2.1 bt274.2.2.1 bt274.2.2.2)) else (frame_Take.j1 kj8 a0 31 t258 (wrap64 ((a0.size : Int) - t262)) false bt270.2.1 bt270.2.2.1 bt270.2.2.2)) else (frame_Take.j1 kj8 a0 31 t258 (wrap64 ((a0.size : Int) - t262)) false bt270.2.1 bt270.2.2.1 bt270.2.2.2)))) = some (r1, r2, r3) := by rw [if_neg (show ¬ (false = true) by decide)] at H; exact H
          clear H
          have H := H1
          clear H1
          have HC21 := Aside0.mk H
          clear H
          go_upto_region 7 with (fail)
          go_cut [34] (fun v34 wc => ∃ (kq : Nat) (x34_20 : Bool) (x258000_20 : ByteArray) (x258001_20 : Int) (x258002_20 : Bool), v34 = .bool x34_20 ∧ Aside0 (frame_Take.j1 kq a0 31 t258 (wrap64 ((a0.size : Int) - t262)) x34_20 x258000_20 x258001_20 x258002_20 = some (r1, r2, r3)) ∧ Aside0 (kq ≤ kj8) ∧ Aside0 (IsS192 w wc g257 x258000_20 x258001_20 x258002_20) ∧ Aside0 (Below w.heap.size w wc))
          case first =>
            have H := HC21.out
            clear HC21
            replace H := Option.bind_eq_some_iff.mp H
            obtain ⟨⟨t270, t271, t272, t273⟩, A220, H⟩ := H
            replace H : (if t270 = true then (frame_Take.j1 kj8 a0 31 t258 (wrap64 ((a0.size : Int) - t262)) false t271 t272 t273) else (if t258 ≥ 0 then (if t258 ≤ 4096 then ((varint_Reader_Left.f t271 t272 t273).bind fun bt274 => (frame_Take.j1 kj8 a0 31 t258 (wrap64 ((a0.size : Int) - t262)) (decide (bt274.1 < (wrap64 (t258 + 4)))) bt274.2.1 bt274.2.2.1 bt274.2.2.2)) else (frame_Take.j1 kj8 a0 31 t258 (wrap64 ((a0.size : Int) - t262)) false t271 t272 t273)) else (frame_Take.j1 kj8 a0 31 t258 (wrap64 ((a0.size : Int) - t262)) false t271 t272 t273))) = some (r1, r2, r3) := H
            have A22 := Aside0.mk A220
            clear A220
            by_cases c23 : t270 = true
            · subst c23
              have H1 : (frame_Take.j1 kj8 a0 31 t258 (wrap64 ((a0.size : Int) - t262)) false t271 t272 t273) = some (r1, r2, r3) := by rw [if_pos rfl] at H; exact H
              clear H
              have H := H1
              clear H1
              have H' := Aside0.mk H
              clear H
              go_wp2_with (first | ((with_reducible refine gate_callee (f := 111) rfl ?_); refine goesL_ (some 36) rfl rfl Tryz.func111 (by kernel_rfl) rfl #[.pointer (some ⟨g257, 0, none⟩)] rfl (by (try simp only [List.map_toArray, List.map_cons, List.map_nil]); first | done | rfl | (simp only [List.length_drop, List.length_take]; rfl)) ?_; (with_reducible refine (varint_Reader_Bad.calls g257 x258000_8 x258001_8 x258002_8 true t271 t272 t273 w _ ?side1 ?side2 A22.out).mono ?_); (case side1 => repeat (first | (with_reducible first | exact HI257.out | apply IsS192.alloc | apply IsS192.drewN | apply IsS192.drew | apply IsS192.set_0 | apply IsS192.set_1 | apply IsS192.set_2) | exact HI257.out)); (case side2 => repeat (first | (with_reducible first | exact HB.out | apply below_alloc | apply pw_below_drewN | apply below_drew1 | refine below_set ?_ (IsS192.ge HI257.out)) | exact HB.out)); rintro e w24 ⟨rfl, hi, hb, hk⟩; refine ⟨_, rfl, ?_⟩; have n0_ := Aside0.mk (hb); have n1_ := Aside0.mk (hi); clear HB; clear HI257; have HB := n0_; have HI257 := n1_; clear n0_ n1_; (try clear hb); (try clear hb2); (try clear hk); (try clear hi)))
              go_meet
              case rel => exact ⟨_, (false), (t271), (t272), (t273), (by first | rfl | (simp; done) | (simp [*]; done)), H', ⟨by have := HJ8.out; first | omega | exact Nat.le_refl _⟩, ⟨by repeat (first | (with_reducible first | exact HI257.out | apply IsS192.alloc | apply IsS192.drewN | apply IsS192.drew | apply IsS192.set_0 | apply IsS192.set_1 | apply IsS192.set_2) | exact HI257.out)⟩, ⟨by repeat (first | (with_reducible first | exact HB.out | apply below_alloc | apply pw_below_drewN | apply below_drew1 | refine below_set ?_ (IsS192.ge HI257.out)) | exact HB.out)⟩⟩
            · replace c23 := Bool.eq_false_iff.mpr c23
              subst c23
              have H1 : (if t258 ≥ 0 then (if t258 ≤ 4096 then ((varint_Reader_Left.f t271 t272 t273).bind fun bt274 => (frame_Take.j1 kj8 a0 31 t258 (wrap64 ((a0.size : Int) - t262)) (decide (bt274.1 < (wrap64 (t258 + 4)))) bt274.2.1 bt274.2.2.1 bt274.2.2.2)) else (frame_Take.j1 kj8 a0 31 t258 (wrap64 ((a0.size : Int) - t262)) false t271 t272 t273)) else (frame_Take.j1 kj8 a0 31 t258 (wrap64 ((a0.size : Int) - t262)) false t271 t272 t273)) = some (r1, r2, r3) := by rw [if_neg (show ¬ (false = true) by decide)] at H; exact H
              clear H
              have H := H1
              clear H1
              by_cases c25 : t258 ≥ 0
              · rw [if_pos c25] at H
                have c25b0 : decide (0 ≤ t258) = true := decide_eq_true c25
                clear c25
                (first | rw [c25b0] | (simp only [i64_w, i32_w]; rw [c25b0]) | skip)
                by_cases c26 : t258 ≤ 4096
                · rw [if_pos c26] at H
                  have c26b0 : decide (t258 ≤ 4096) = true := decide_eq_true c26
                  clear c26
                  replace H := Option.bind_eq_some_iff.mp H
                  obtain ⟨⟨t274, t275, t276, t277⟩, A270, H⟩ := H
                  replace H : (frame_Take.j1 kj8 a0 31 t258 (wrap64 ((a0.size : Int) - t262)) (decide (t274 < (wrap64 (t258 + 4)))) t275 t276 t277) = some (r1, r2, r3) := H
                  have A27 := Aside0.mk A270
                  clear A270
                  have H' := Aside0.mk H
                  clear H
                  go_wp2_with (first | ((with_reducible refine gate_callee (f := 111) rfl ?_); refine goesL_ (some 36) rfl rfl Tryz.func111 (by kernel_rfl) rfl #[.pointer (some ⟨g257, 0, none⟩)] rfl (by (try simp only [List.map_toArray, List.map_cons, List.map_nil]); first | done | rfl | (simp only [List.length_drop, List.length_take]; rfl)) ?_; (with_reducible refine (varint_Reader_Bad.calls g257 x258000_8 x258001_8 x258002_8 false t271 t272 t273 w _ ?side1 ?side2 A22.out).mono ?_); (case side1 => repeat (first | (with_reducible first | exact HI257.out | apply IsS192.alloc | apply IsS192.drewN | apply IsS192.drew | apply IsS192.set_0 | apply IsS192.set_1 | apply IsS192.set_2) | exact HI257.out)); (case side2 => repeat (first | (with_reducible first | exact HB.out | apply below_alloc | apply pw_below_drewN | apply below_drew1 | refine below_set ?_ (IsS192.ge HI257.out)) | exact HB.out)); rintro e w28 ⟨rfl, hi, hb, hk⟩; refine ⟨_, rfl, ?_⟩; have n0_ := Aside0.mk (hb); have n1_ := Aside0.mk (hi); clear HB; clear HI257; have HB := n0_; have HI257 := n1_; clear n0_ n1_; (try clear hb); (try clear hb2); (try clear hk); (try clear hi)) | (go_at_call 112; (with_reducible refine (varint_Reader_Left.calls g257 t271 t272 t273 t274 t275 t276 t277 w _ ?side1 ?side2 A27.out).mono ?_); (case side1 => repeat (first | (with_reducible first | exact HI257.out | apply IsS192.alloc | apply IsS192.drewN | apply IsS192.drew | apply IsS192.set_0 | apply IsS192.set_1 | apply IsS192.set_2) | exact HI257.out)); (case side2 => repeat (first | (with_reducible first | exact HB.out | apply below_alloc | apply pw_below_drewN | apply below_drew1 | refine below_set ?_ (IsS192.ge HI257.out)) | exact HB.out)); rintro e w29 ⟨rfl, hi, hb, hk⟩; have n0_ := Aside0.mk (hb); have n1_ := Aside0.mk (hi); clear HB; clear HI257; have HB := n0_; have HI257 := n1_; clear n0_ n1_; (try clear hb); (try clear hb2); (try clear hk); (try clear hi)))
                  go_meet
                  case rel => exact ⟨_, (decide (t274 < (wrap64 (t258 + 4)))), (t275), (t276), (t277), (by first | rfl | (simp; done) | (simp [*]; done)), H', ⟨by have := HJ8.out; first | omega | exact Nat.le_refl _⟩, ⟨by repeat (first | (with_reducible first | exact HI257.out | apply IsS192.alloc | apply IsS192.drewN | apply IsS192.drew | apply IsS192.set_0 | apply IsS192.set_1 | apply IsS192.set_2) | exact HI257.out)⟩, ⟨by repeat (first | (with_reducible first | exact HB.out | apply below_alloc | apply pw_below_drewN | apply below_drew1 | refine below_set ?_ (IsS192.ge HI257.out)) | exact HB.out)⟩⟩
                · rw [if_neg c26] at H
                  have c26b0 : decide (t258 ≤ 4096) = false := decide_eq_false c26
                  clear c26
                  have H' := Aside0.mk H
                  clear H
                  go_wp2_with (first | ((with_reducible refine gate_callee (f := 111) rfl ?_); refine goesL_ (some 36) rfl rfl Tryz.func111 (by kernel_rfl) rfl #[.pointer (some ⟨g257, 0, none⟩)] rfl (by (try simp only [List.map_toArray, List.map_cons, List.map_nil]); first | done | rfl | (simp only [List.length_drop, List.length_take]; rfl)) ?_; (with_reducible refine (varint_Reader_Bad.calls g257 x258000_8 x258001_8 x258002_8 false t271 t272 t273 w _ ?side1 ?side2 A22.out).mono ?_); (case side1 => repeat (first | (with_reducible first | exact HI257.out | apply IsS192.alloc | apply IsS192.drewN | apply IsS192.drew | apply IsS192.set_0 | apply IsS192.set_1 | apply IsS192.set_2) | exact HI257.out)); (case side2 => repeat (first | (with_reducible first | exact HB.out | apply below_alloc | apply pw_below_drewN | apply below_drew1 | refine below_set ?_ (IsS192.ge HI257.out)) | exact HB.out)); rintro e w30 ⟨rfl, hi, hb, hk⟩; refine ⟨_, rfl, ?_⟩; have n0_ := Aside0.mk (hb); have n1_ := Aside0.mk (hi); clear HB; clear HI257; have HB := n0_; have HI257 := n1_; clear n0_ n1_; (try clear hb); (try clear hb2); (try clear hk); (try clear hi)))
                  go_meet
                  case rel => exact ⟨_, (false), (t271), (t272), (t273), (by first | rfl | (simp; done) | (simp [*]; done)), H', ⟨by have := HJ8.out; first | omega | exact Nat.le_refl _⟩, ⟨by repeat (first | (with_reducible first | exact HI257.out | apply IsS192.alloc | apply IsS192.drewN | apply IsS192.drew | apply IsS192.set_0 | apply IsS192.set_1 | apply IsS192.set_2) | exact HI257.out)⟩, ⟨by repeat (first | (with_reducible first | exact HB.out | apply below_alloc | apply pw_below_drewN | apply below_drew1 | refine below_set ?_ (IsS192.ge HI257.out)) | exact HB.out)⟩⟩
              · rw [if_neg c25] at H
                have c25b0 : decide (0 ≤ t258) = false := decide_eq_false c25
                clear c25
                (first | rw [c25b0] | (simp only [i64_w, i32_w]; rw [c25b0]) | skip)
                have H' := Aside0.mk H
                clear H
                go_wp2_with (first | ((with_reducible refine gate_callee (f := 111) rfl ?_); refine goesL_ (some 36) rfl rfl Tryz.func111 (by kernel_rfl) rfl #[.pointer (some ⟨g257, 0, none⟩)] rfl (by (try simp only [List.map_toArray, List.map_cons, List.map_nil]); first | done | rfl | (simp only [List.length_drop, List.length_take]; rfl)) ?_; (with_reducible refine (varint_Reader_Bad.calls g257 x258000_8 x258001_8 x258002_8 false t271 t272 t273 w _ ?side1 ?side2 A22.out).mono ?_); (case side1 => repeat (first | (with_reducible first | exact HI257.out | apply IsS192.alloc | apply IsS192.drewN | apply IsS192.drew | apply IsS192.set_0 | apply IsS192.set_1 | apply IsS192.set_2) | exact HI257.out)); (case side2 => repeat (first | (with_reducible first | exact HB.out | apply below_alloc | apply pw_below_drewN | apply below_drew1 | refine below_set ?_ (IsS192.ge HI257.out)) | exact HB.out)); rintro e w31 ⟨rfl, hi, hb, hk⟩; refine ⟨_, rfl, ?_⟩; have n0_ := Aside0.mk (hb); have n1_ := Aside0.mk (hi); clear HB; clear HI257; have HB := n0_; have HI257 := n1_; clear n0_ n1_; (try clear hb); (try clear hb2); (try clear hk); (try clear hi)))
                go_meet
                case rel => exact ⟨_, (false), (t271), (t272), (t273), (by first | rfl | (simp; done) | (simp [*]; done)), H', ⟨by have := HJ8.out; first | omega | exact Nat.le_refl _⟩, ⟨by repeat (first | (with_reducible first | exact HI257.out | apply IsS192.alloc | apply IsS192.drewN | apply IsS192.drew | apply IsS192.set_0 | apply IsS192.set_1 | apply IsS192.set_2) | exact HI257.out)⟩, ⟨by repeat (first | (with_reducible first | exact HB.out | apply below_alloc | apply pw_below_drewN | apply below_drew1 | refine below_set ?_ (IsS192.ge HI257.out)) | exact HB.out)⟩⟩
          case rest =>
            clear HC21
            try clear c1
            try clear p1
            try clear q1
            try clear hx1
            try clear qi1
            try clear c2
            try clear p2
            try clear c5
            try clear c5b0
            try clear c5b1
            try clear p6
            try clear c10
            try clear c11
            try clear c13
            try clear c13b0
            try clear c13b1
            try clear c15
            try clear c16
            try clear c16b0
            try clear c16b1
            try clear p17
            try clear q17
            try clear hx17
            try clear qi17
            try clear c20
            try clear c23
            try clear c25
            try clear c25b0
            try clear c26
            try clear c26b0
            try clear p1
            try clear p17
            try clear p2
            try clear p6
            try clear q1
            try clear q17
            obtain ⟨kq, x34_20, x258000_20, x258001_20, x258002_20, rfl, HA, HJ20, HI257, HB⟩ := hcut
            cases kq with
            | zero => exact absurd HA.out (by simp [frame_Take.j1])
            | succ kj20 =>
              have H := HA.out
              clear HA
              simp only [frame_Take.j1] at H
              by_cases c32 : x34_20 = true
              · subst c32
                have H1 : (some ((⟨#[]⟩ : ByteArray), 0, 30)) = some (r1, r2, r3) := by rw [if_pos rfl] at H; exact H
                clear H
                have H := H1
                clear H1
                simp only [Option.some.injEq, Prod.mk.injEq] at H
                obtain ⟨rfl, rfl, rfl⟩ := H
                go_wp2
                go_ret3
                exact ⟨by first | rfl | (simp [errW_none, errW_some] <;> rfl) | (simp [*, errW_none, errW_some] <;> rfl), by repeat (first | (with_reducible first | exact HB.out | apply below_alloc | apply pw_below_drewN | apply below_drew1 | refine below_set ?_ (IsS192.ge HI257.out)) | exact HB.out)⟩
              · replace c32 := Bool.eq_false_iff.mpr c32
                subst c32
                have H1 : ((varint_Reader_Bad.f x258000_20 x258001_20 x258002_20).bind fun bt278 => (if bt278.1 = true then (some ((⟨#[]⟩ : ByteArray), 0, 31)) else (if t258 < 0 then (some ((⟨#[]⟩ : ByteArray), 0, 31)) else (if t258 > 4096 then (some ((⟨#[]⟩ : ByteArray), 0, 31)) else (if 0 ≤ (wrap64 ((wrap64 ((a0.size : Int) - t262)) + t258)) then (if (wrap64 ((wrap64 ((a0.size : Int) - t262)) + t258)) ≤ (a0.size : Int) then ((frame_sealed.f kj20 (a0.extract 0 ((wrap64 ((wrap64 ((a0.size : Int) - t262)) + t258)) : Int).toNat)).bind fun t282 => (if 0 ≤ (wrap64 ((wrap64 ((wrap64 ((a0.size : Int) - t262)) + t258)) + 4)) then (if (wrap64 ((wrap64 ((wrap64 ((a0.size : Int) - t262)) + t258)) + 4)) ≤ (a0.size : Int) then (if t282.toList = (a0.extract 0 ((wrap64 ((wrap64 ((wrap64 ((a0.size : Int) - t262)) + t258)) + 4)) : Int).toNat).toList then (if 0 ≤ (wrap64 ((a0.size : Int) - t262)) then (if (wrap64 ((a0.size : Int) - t262)) ≤ (wrap64 ((wrap64 ((a0.size : Int) - t262)) + t258)) then (some (a0.extract ((wrap64 ((a0.size : Int) - t262)) : Int).toNat ((wrap64 ((wrap64 ((a0.size : Int) - t262)) + t258)) : Int).toNat, wrap64 ((wrap64 ((wrap64 ((a0.size : Int) - t262)) + t258)) + 4), 0)) else (none)) else (none)) else (some ((⟨#[]⟩ : ByteArray), 0, 31))) else (none)) else (none))) else (none)) else (none)))))) = some (r1, r2, r3) := by rw [if_neg (show ¬ (false = true) by decide)] at H; exact H
                clear H
                have H := H1
                clear H1
                replace H := Option.bind_eq_some_iff.mp H
                obtain ⟨⟨t278, t279, t280, t281⟩, A330, H⟩ := H
                replace H : (if t278 = true then (some ((⟨#[]⟩ : ByteArray), 0, 31)) else (if t258 < 0 then (some ((⟨#[]⟩ : ByteArray), 0, 31)) else (if t258 > 4096 then (some ((⟨#[]⟩ : ByteArray), 0, 31)) else (if 0 ≤ (wrap64 ((wrap64 ((a0.size : Int) - t262)) + t258)) then (if (wrap64 ((wrap64 ((a0.size : Int) - t262)) + t258)) ≤ (a0.size : Int) then ((frame_sealed.f kj20 (a0.extract 0 ((wrap64 ((wrap64 ((a0.size : Int) - t262)) + t258)) : Int).toNat)).bind fun t282 => (if 0 ≤ (wrap64 ((wrap64 ((wrap64 ((a0.size : Int) - t262)) + t258)) + 4)) then (if (wrap64 ((wrap64 ((wrap64 ((a0.size : Int) - t262)) + t258)) + 4)) ≤ (a0.size : Int) then (if t282.toList = (a0.extract 0 ((wrap64 ((wrap64 ((wrap64 ((a0.size : Int) - t262)) + t258)) + 4)) : Int).toNat).toList then (if 0 ≤ (wrap64 ((a0.size : Int) - t262)) then (if (wrap64 ((a0.size : Int) - t262)) ≤ (wrap64 ((wrap64 ((a0.size : Int) - t262)) + t258)) then (some (a0.extract ((wrap64 ((a0.size : Int) - t262)) : Int).toNat ((wrap64 ((wrap64 ((a0.size : Int) - t262)) + t258)) : Int).toNat, wrap64 ((wrap64 ((wrap64 ((a0.size : Int) - t262)) + t258)) + 4), 0)) else (none)) else (none)) else (some ((⟨#[]⟩ : ByteArray), 0, 31))) else (none)) else (none))) else (none)) else (none))))) = some (r1, r2, r3) := H
                have A33 := Aside0.mk A330
                clear A330
                by_cases c34 : t278 = true
                · subst c34
                  have H1 : (some ((⟨#[]⟩ : ByteArray), 0, 31)) = some (r1, r2, r3) := by rw [if_pos rfl] at H; exact H
                  clear H
                  have H := H1
                  clear H1
                  simp only [Option.some.injEq, Prod.mk.injEq] at H
                  obtain ⟨rfl, rfl, rfl⟩ := H
                  try go_wp2
                  have n0_ := Aside0.mk (IsS192.drew HI257.out)
                  have n1_ := Aside0.mk (below_drew1 HB.out)
                  clear HI257
                  clear HB
                  have HI257 := n0_
                  have HB := n1_
                  clear n0_ n1_
                  refine start_ (n := 26) (S := fun w' => True) (ds := []) #[false, false, false, false, false, false, false, false, false, false, false, false, false, false, false, false, false, false, false, false, false, false, false, false, false, false] (by kernel_rfl) rfl rfl trivial (fun hHeld => ?_); refine with_tabW frame_Take.tab8 frame_Take.bits8 (fun HT_ HW_ => ?_)
                  generalize wc.drew = w35 at HI257 HB hHeld ⊢
                  refine pure_ (i := 0) (N := some 54) (v := ?_) (a' := ?_) #[true, false, false, false, false, false, false, false, false, false, false, false, false, false, false, false, false, false, false, false, false, false, false, false, false, false] rfl rfl (any_of HT_.out (by kernel_rfl)) (fun _ _ _ h => h) (Or.inl ⟨by rfl, ?_⟩) ?_ ?_
                  rotate_left
                  · intro w'
                    go_simp
                    first | with_reducible rfl | (rw [show wrap64 (ji51 + t258) = ji43 from by rw [← hji51]; exact hji43, hji47]; rw [if_pos ⟨of_eq_true c48b0, of_eq_true c49b0⟩]) | (rw [show wrap64 (ji51 + t258) = ji43 from by rw [← hji51]; exact hji43]; rw [if_pos ⟨of_eq_true c44b0, of_eq_true c45b0⟩])
                  rotate_left
                  · simp only [Act.put, List.setIfInBounds_toArray, List.set_cons_zero, List.set_cons_succ, i64_w, i32_w]
                    rfl
                  refine one_ (i := 1) (N := some 55) #[true, true, false, false, false, false, false, false, false, false, false, false, false, false, false, false, false, false, false, false, false, false, false, false, false, false] rfl rfl (one_of HT_.out (by kernel_rfl)) (by decide) (fun K hK => ?_)
                  refine goes_ Tryz.func111 (by kernel_rfl) rfl #[.pointer (some ⟨g257, 0, none⟩)] (by rfl) rfl rfl (by (try simp only [List.map_toArray, List.map_cons, List.map_nil]); first | done | rfl | (simp only [List.length_drop, List.length_take]; rfl)) ?_
                  with_reducible refine (varint_Reader_Bad.calls g257 x258000_20 x258001_20 x258002_20 true t279 t280 t281 w _ ?side1 ?side2 A33.out).mono ?_
                  (case side1 => repeat (first | (with_reducible first | exact HI257.out | apply IsS192.alloc | apply IsS192.drewN | apply IsS192.drew | apply IsS192.set_0 | apply IsS192.set_1 | apply IsS192.set_2) | exact HI257.out))
                  (case side2 => repeat (first | (with_reducible first | exact HB.out | apply below_alloc | apply pw_below_drewN | apply below_drew1 | refine below_set ?_ (IsS192.ge HI257.out)) | exact HB.out))
                  rintro e w36 ⟨rfl, hi, hb, hk⟩
                  refine ⟨_, rfl, ?_⟩
                  have n0_ := Aside0.mk (hb)
                  have n1_ := Aside0.mk (hi)
                  clear HB
                  clear HI257
                  have HB := n0_
                  have HI257 := n1_
                  clear n0_ n1_
                  (try clear hb)
                  (try clear hb2)
                  (try clear hk)
                  (try clear hi)
                  refine hK.out _ _ trivial (fun hHeld => ?_)
                  clear hK K
                  refine norm_ (a' := ?_) ?_ ?_
                  rotate_left
                  · show Act.put _ (some 55) _ = _
                    simp only [Act.put, List.setIfInBounds_toArray, List.set_cons_zero, List.set_cons_succ, i64_w, i32_w]
                    rfl
                  refine pure_ (i := 2) (N := some 56) (v := ?_) (a' := ?_) #[true, true, true, false, false, false, false, false, false, false, false, false, false, false, false, false, false, false, false, false, false, false, false, false, false, false] rfl rfl (any_of HT_.out (by kernel_rfl)) (fun _ _ _ h => h) (Or.inl ⟨by rfl, ?_⟩) ?_ ?_
                  rotate_left
                  · intro w'
                    go_simp
                    first | with_reducible rfl | (rw [show wrap64 (ji51 + t258) = ji43 from by rw [← hji51]; exact hji43, hji47]; rw [if_pos ⟨of_eq_true c48b0, of_eq_true c49b0⟩]) | (rw [show wrap64 (ji51 + t258) = ji43 from by rw [← hji51]; exact hji43]; rw [if_pos ⟨of_eq_true c44b0, of_eq_true c45b0⟩])
                  rotate_left
                  · simp only [Act.put, List.setIfInBounds_toArray, List.set_cons_zero, List.set_cons_succ, i64_w, i32_w]
                    rfl
                  refine pure_ (i := 3) (N := some 57) (v := undef) (a' := ?_) #[true, true, true, true, false, false, false, false, false, false, false, false, false, false, false, false, false, false, false, false, false, false, false, false, false, false] rfl rfl (any_of HT_.out (by kernel_rfl)) (fun _ _ _ h => h) (Or.inr ⟨by rfl, rfl⟩) ?_ ?_
                  rotate_left
                  · simp only [Act.put, List.setIfInBounds_toArray, List.set_cons_zero, List.set_cons_succ, i64_w, i32_w]
                    rfl
                  refine pure_ (i := 4) (N := some 58) (v := undef) (a' := ?_) #[true, true, true, true, true, false, false, false, false, false, false, false, false, false, false, false, false, false, false, false, false, false, false, false, false, false] rfl rfl (any_of HT_.out (by kernel_rfl)) (fun _ _ _ h => h) (Or.inr ⟨by rfl, rfl⟩) ?_ ?_
                  rotate_left
                  · simp only [Act.put, List.setIfInBounds_toArray, List.set_cons_zero, List.set_cons_succ, i64_w, i32_w]
                    rfl
                  refine pure_ (i := 5) (N := some 59) (v := ?_) (a' := ?_) #[true, true, true, true, true, true, false, false, false, false, false, false, false, false, false, false, false, false, false, false, false, false, false, false, false, false] rfl rfl (any_of HT_.out (by kernel_rfl)) (fun _ _ _ h => h) (Or.inl ⟨by rfl, ?_⟩) ?_ ?_
                  rotate_left
                  · intro w'
                    go_simp
                    first | with_reducible rfl | (rw [show wrap64 (ji51 + t258) = ji43 from by rw [← hji51]; exact hji43, hji47]; rw [if_pos ⟨of_eq_true c48b0, of_eq_true c49b0⟩]) | (rw [show wrap64 (ji51 + t258) = ji43 from by rw [← hji51]; exact hji43]; rw [if_pos ⟨of_eq_true c44b0, of_eq_true c45b0⟩])
                  rotate_left
                  · simp only [Act.put, List.setIfInBounds_toArray, List.set_cons_zero, List.set_cons_succ, i64_w, i32_w]
                    rfl
                  refine pure_ (i := 6) (N := some 60) (v := ?_) (a' := ?_) #[true, true, true, true, true, true, true, false, false, false, false, false, false, false, false, false, false, false, false, false, false, false, false, false, false, false] rfl rfl (any_of HT_.out (by kernel_rfl)) (fun _ _ _ h => h) (Or.inl ⟨by rfl, ?_⟩) ?_ ?_
                  rotate_left
                  · intro w'
                    go_simp
                    first | with_reducible rfl | (rw [show wrap64 (ji51 + t258) = ji43 from by rw [← hji51]; exact hji43, hji47]; rw [if_pos ⟨of_eq_true c48b0, of_eq_true c49b0⟩]) | (rw [show wrap64 (ji51 + t258) = ji43 from by rw [← hji51]; exact hji43]; rw [if_pos ⟨of_eq_true c44b0, of_eq_true c45b0⟩])
                  rotate_left
                  · simp only [Act.put, List.setIfInBounds_toArray, List.set_cons_zero, List.set_cons_succ, i64_w, i32_w]
                    rfl
                  refine pure_ (i := 7) (N := some 61) (v := undef) (a' := ?_) #[true, true, true, true, true, true, true, true, false, false, false, false, false, false, false, false, false, false, false, false, false, false, false, false, false, false] rfl rfl (any_of HT_.out (by kernel_rfl)) (fun _ _ _ h => h) (Or.inr ⟨by rfl, rfl⟩) ?_ ?_
                  rotate_left
                  · simp only [Act.put, List.setIfInBounds_toArray, List.set_cons_zero, List.set_cons_succ, i64_w, i32_w]
                    rfl
                  refine pure_ (i := 8) (N := some 62) (v := undef) (a' := ?_) #[true, true, true, true, true, true, true, true, true, false, false, false, false, false, false, false, false, false, false, false, false, false, false, false, false, false] rfl rfl (any_of HT_.out (by kernel_rfl)) (fun _ _ _ h => h) (Or.inr ⟨by rfl, rfl⟩) ?_ ?_
                  rotate_left
                  · simp only [Act.put, List.setIfInBounds_toArray, List.set_cons_zero, List.set_cons_succ, i64_w, i32_w]
                    rfl
                  refine pure_ (i := 9) (N := some 63) (v := ?_) (a' := ?_) #[true, true, true, true, true, true, true, true, true, true, false, false, false, false, false, false, false, false, false, false, false, false, false, false, false, false] rfl rfl (any_of HT_.out (by kernel_rfl)) (fun _ _ _ h => h) (Or.inl ⟨by rfl, ?_⟩) ?_ ?_
                  rotate_left
                  · intro w'
                    go_simp
                    first | with_reducible rfl | (rw [show wrap64 (ji51 + t258) = ji43 from by rw [← hji51]; exact hji43, hji47]; rw [if_pos ⟨of_eq_true c48b0, of_eq_true c49b0⟩]) | (rw [show wrap64 (ji51 + t258) = ji43 from by rw [← hji51]; exact hji43]; rw [if_pos ⟨of_eq_true c44b0, of_eq_true c45b0⟩])
                  rotate_left
                  · simp only [Act.put, List.setIfInBounds_toArray, List.set_cons_zero, List.set_cons_succ, i64_w, i32_w]
                    rfl
                  refine pure_ (i := 10) (N := some 64) (v := ?_) (a' := ?_) #[true, true, true, true, true, true, true, true, true, true, true, false, false, false, false, false, false, false, false, false, false, false, false, false, false, false] rfl rfl (any_of HT_.out (by kernel_rfl)) (fun _ _ _ h => h) (Or.inl ⟨by rfl, ?_⟩) ?_ ?_
                  rotate_left
                  · intro w'
                    go_simp
                    first | with_reducible rfl | (rw [show wrap64 (ji51 + t258) = ji43 from by rw [← hji51]; exact hji43, hji47]; rw [if_pos ⟨of_eq_true c48b0, of_eq_true c49b0⟩]) | (rw [show wrap64 (ji51 + t258) = ji43 from by rw [← hji51]; exact hji43]; rw [if_pos ⟨of_eq_true c44b0, of_eq_true c45b0⟩])
                  rotate_left
                  · simp only [Act.put, List.setIfInBounds_toArray, List.set_cons_zero, List.set_cons_succ, i64_w, i32_w]
                    rfl
                  refine pure_ (i := 11) (N := some 65) (v := undef) (a' := ?_) #[true, true, true, true, true, true, true, true, true, true, true, true, false, false, false, false, false, false, false, false, false, false, false, false, false, false] rfl rfl (any_of HT_.out (by kernel_rfl)) (fun _ _ _ h => h) (Or.inr ⟨by rfl, rfl⟩) ?_ ?_
                  rotate_left
                  · simp only [Act.put, List.setIfInBounds_toArray, List.set_cons_zero, List.set_cons_succ, i64_w, i32_w]
                    rfl
                  refine pure_ (i := 12) (N := some 66) (v := undef) (a' := ?_) #[true, true, true, true, true, true, true, true, true, true, true, true, true, false, false, false, false, false, false, false, false, false, false, false, false, false] rfl rfl (any_of HT_.out (by kernel_rfl)) (fun _ _ _ h => h) (Or.inr ⟨by rfl, rfl⟩) ?_ ?_
                  rotate_left
                  · simp only [Act.put, List.setIfInBounds_toArray, List.set_cons_zero, List.set_cons_succ, i64_w, i32_w]
                    rfl
                  refine pure_ (i := 13) (N := some 67) (v := undef) (a' := ?_) #[true, true, true, true, true, true, true, true, true, true, true, true, true, true, false, false, false, false, false, false, false, false, false, false, false, false] rfl rfl (any_of HT_.out (by kernel_rfl)) (fun _ _ _ h => h) (Or.inr ⟨by rfl, rfl⟩) ?_ ?_
                  rotate_left
                  · simp only [Act.put, List.setIfInBounds_toArray, List.set_cons_zero, List.set_cons_succ, i64_w, i32_w]
                    rfl
                  refine pure_ (i := 14) (N := some 68) (v := undef) (a' := ?_) #[true, true, true, true, true, true, true, true, true, true, true, true, true, true, true, false, false, false, false, false, false, false, false, false, false, false] rfl rfl (any_of HT_.out (by kernel_rfl)) (fun _ _ _ h => h) (Or.inr ⟨by rfl, rfl⟩) ?_ ?_
                  rotate_left
                  · simp only [Act.put, List.setIfInBounds_toArray, List.set_cons_zero, List.set_cons_succ, i64_w, i32_w]
                    rfl
                  refine pure_ (i := 15) (N := some 69) (v := undef) (a' := ?_) #[true, true, true, true, true, true, true, true, true, true, true, true, true, true, true, true, false, false, false, false, false, false, false, false, false, false] rfl rfl (any_of HT_.out (by kernel_rfl)) (fun _ _ _ h => h) (Or.inr ⟨by rfl, rfl⟩) ?_ ?_
                  rotate_left
                  · simp only [Act.put, List.setIfInBounds_toArray, List.set_cons_zero, List.set_cons_succ, i64_w, i32_w]
                    rfl
                  refine pure_ (i := 16) (N := some 70) (v := undef) (a' := ?_) #[true, true, true, true, true, true, true, true, true, true, true, true, true, true, true, true, true, false, false, false, false, false, false, false, false, false] rfl rfl (any_of HT_.out (by kernel_rfl)) (fun _ _ _ h => h) (Or.inr ⟨by rfl, rfl⟩) ?_ ?_
                  rotate_left
                  · simp only [Act.put, List.setIfInBounds_toArray, List.set_cons_zero, List.set_cons_succ, i64_w, i32_w]
                    rfl
                  refine pure_ (i := 17) (N := some 71) (v := undef) (a' := ?_) #[true, true, true, true, true, true, true, true, true, true, true, true, true, true, true, true, true, true, false, false, false, false, false, false, false, false] rfl rfl (any_of HT_.out (by kernel_rfl)) (fun _ _ _ h => h) (Or.inr ⟨by rfl, rfl⟩) ?_ ?_
                  rotate_left
                  · simp only [Act.put, List.setIfInBounds_toArray, List.set_cons_zero, List.set_cons_succ, i64_w, i32_w]
                    rfl
                  refine pure_ (i := 18) (N := some 72) (v := undef) (a' := ?_) #[true, true, true, true, true, true, true, true, true, true, true, true, true, true, true, true, true, true, true, false, false, false, false, false, false, false] rfl rfl (any_of HT_.out (by kernel_rfl)) (fun _ _ _ h => h) (Or.inr ⟨by rfl, rfl⟩) ?_ ?_
                  rotate_left
                  · simp only [Act.put, List.setIfInBounds_toArray, List.set_cons_zero, List.set_cons_succ, i64_w, i32_w]
                    rfl
                  refine pure_ (i := 19) (N := some 73) (v := undef) (a' := ?_) #[true, true, true, true, true, true, true, true, true, true, true, true, true, true, true, true, true, true, true, true, false, false, false, false, false, false] rfl rfl (any_of HT_.out (by kernel_rfl)) (fun _ _ _ h => h) (Or.inr ⟨by rfl, rfl⟩) ?_ ?_
                  rotate_left
                  · simp only [Act.put, List.setIfInBounds_toArray, List.set_cons_zero, List.set_cons_succ, i64_w, i32_w]
                    rfl
                  refine pure_ (i := 20) (N := some 74) (v := undef) (a' := ?_) #[true, true, true, true, true, true, true, true, true, true, true, true, true, true, true, true, true, true, true, true, true, false, false, false, false, false] rfl rfl (any_of HT_.out (by kernel_rfl)) (fun _ _ _ h => h) (Or.inr ⟨by rfl, rfl⟩) ?_ ?_
                  rotate_left
                  · simp only [Act.put, List.setIfInBounds_toArray, List.set_cons_zero, List.set_cons_succ, i64_w, i32_w]
                    rfl
                  refine pure_ (i := 21) (N := some 75) (v := undef) (a' := ?_) #[true, true, true, true, true, true, true, true, true, true, true, true, true, true, true, true, true, true, true, true, true, true, false, false, false, false] rfl rfl (any_of HT_.out (by kernel_rfl)) (fun _ _ _ h => h) (Or.inr ⟨by rfl, rfl⟩) ?_ ?_
                  rotate_left
                  · simp only [Act.put, List.setIfInBounds_toArray, List.set_cons_zero, List.set_cons_succ, i64_w, i32_w]
                    rfl
                  refine pure_ (i := 22) (N := some 76) (v := undef) (a' := ?_) #[true, true, true, true, true, true, true, true, true, true, true, true, true, true, true, true, true, true, true, true, true, true, true, false, false, false] rfl rfl (any_of HT_.out (by kernel_rfl)) (fun _ _ _ h => h) (Or.inr ⟨by rfl, rfl⟩) ?_ ?_
                  rotate_left
                  · simp only [Act.put, List.setIfInBounds_toArray, List.set_cons_zero, List.set_cons_succ, i64_w, i32_w]
                    rfl
                  refine pure_ (i := 23) (N := some 77) (v := undef) (a' := ?_) #[true, true, true, true, true, true, true, true, true, true, true, true, true, true, true, true, true, true, true, true, true, true, true, true, false, false] rfl rfl (any_of HT_.out (by kernel_rfl)) (fun _ _ _ h => h) (Or.inr ⟨by rfl, rfl⟩) ?_ ?_
                  rotate_left
                  · simp only [Act.put, List.setIfInBounds_toArray, List.set_cons_zero, List.set_cons_succ, i64_w, i32_w]
                    rfl
                  refine pure_ (i := 24) (N := some 78) (v := ?_) (a' := ?_) #[true, true, true, true, true, true, true, true, true, true, true, true, true, true, true, true, true, true, true, true, true, true, true, true, true, false] rfl rfl (any_of HT_.out (by kernel_rfl)) (fun _ _ _ h => h) (Or.inl ⟨by rfl, ?_⟩) ?_ ?_
                  rotate_left
                  · intro w'
                    go_simp
                    first | with_reducible rfl | (rw [show wrap64 (ji51 + t258) = ji43 from by rw [← hji51]; exact hji43, hji47]; rw [if_pos ⟨of_eq_true c48b0, of_eq_true c49b0⟩]) | (rw [show wrap64 (ji51 + t258) = ji43 from by rw [← hji51]; exact hji43]; rw [if_pos ⟨of_eq_true c44b0, of_eq_true c45b0⟩])
                  rotate_left
                  · simp only [Act.put, List.setIfInBounds_toArray, List.set_cons_zero, List.set_cons_succ, i64_w, i32_w]
                    rfl
                  refine pure_ (i := 25) (N := some 53) (v := ?_) (a' := ?_) #[true, true, true, true, true, true, true, true, true, true, true, true, true, true, true, true, true, true, true, true, true, true, true, true, true, true] rfl rfl (any_of HT_.out (by kernel_rfl)) (fun _ _ _ h => h) (Or.inl ⟨by rfl, ?_⟩) ?_ ?_
                  rotate_left
                  · intro w'
                    go_simp
                    first | with_reducible rfl | (rw [show wrap64 (ji51 + t258) = ji43 from by rw [← hji51]; exact hji43, hji47]; rw [if_pos ⟨of_eq_true c48b0, of_eq_true c49b0⟩]) | (rw [show wrap64 (ji51 + t258) = ji43 from by rw [← hji51]; exact hji43]; rw [if_pos ⟨of_eq_true c44b0, of_eq_true c45b0⟩])
                  rotate_left
                  · simp only [Act.put, List.setIfInBounds_toArray, List.set_cons_zero, List.set_cons_succ, i64_w, i32_w]
                    rfl
                  refine done_ (done_of HT_.out (by kernel_rfl)) ?_
                  try go_wp2
                  go_ret3
                  exact ⟨by first | rfl | (simp [errW_none, errW_some] <;> rfl) | (simp [*, errW_none, errW_some] <;> rfl), by repeat (first | (with_reducible first | exact HB.out | apply below_alloc | apply pw_below_drewN | apply below_drew1 | refine below_set ?_ (IsS192.ge HI257.out)) | exact HB.out)⟩
                · replace c34 := Bool.eq_false_iff.mpr c34
                  subst c34
                  have H1 : (if t258 < 0 then (some ((⟨#[]⟩ : ByteArray), 0, 31)) else (if t258 > 4096 then (some ((⟨#[]⟩ : ByteArray), 0, 31)) else (if 0 ≤ (wrap64 ((wrap64 ((a0.size : Int) - t262)) + t258)) then (if (wrap64 ((wrap64 ((a0.size : Int) - t262)) + t258)) ≤ (a0.size : Int) then ((frame_sealed.f kj20 (a0.extract 0 ((wrap64 ((wrap64 ((a0.size : Int) - t262)) + t258)) : Int).toNat)).bind fun t282 => (if 0 ≤ (wrap64 ((wrap64 ((wrap64 ((a0.size : Int) - t262)) + t258)) + 4)) then (if (wrap64 ((wrap64 ((wrap64 ((a0.size : Int) - t262)) + t258)) + 4)) ≤ (a0.size : Int) then (if t282.toList = (a0.extract 0 ((wrap64 ((wrap64 ((wrap64 ((a0.size : Int) - t262)) + t258)) + 4)) : Int).toNat).toList then (if 0 ≤ (wrap64 ((a0.size : Int) - t262)) then (if (wrap64 ((a0.size : Int) - t262)) ≤ (wrap64 ((wrap64 ((a0.size : Int) - t262)) + t258)) then (some (a0.extract ((wrap64 ((a0.size : Int) - t262)) : Int).toNat ((wrap64 ((wrap64 ((a0.size : Int) - t262)) + t258)) : Int).toNat, wrap64 ((wrap64 ((wrap64 ((a0.size : Int) - t262)) + t258)) + 4), 0)) else (none)) else (none)) else (some ((⟨#[]⟩ : ByteArray), 0, 31))) else (none)) else (none))) else (none)) else (none)))) = some (r1, r2, r3) := by rw [if_neg (show ¬ (false = true) by decide)] at H; exact H
                  clear H
                  have H := H1
                  clear H1
                  by_cases c37 : t258 < 0
                  · rw [if_pos c37] at H
                    have c37b0 : decide (t258 < 0) = true := decide_eq_true c37
                    clear c37
                    simp only [Option.some.injEq, Prod.mk.injEq] at H
                    obtain ⟨rfl, rfl, rfl⟩ := H
                    try go_wp2
                    have n0_ := Aside0.mk (IsS192.drew HI257.out)
                    have n1_ := Aside0.mk (below_drew1 HB.out)
                    clear HI257
                    clear HB
                    have HI257 := n0_
                    have HB := n1_
                    clear n0_ n1_
                    refine start_ (n := 26) (S := fun w' => True) (ds := []) #[false, false, false, false, false, false, false, false, false, false, false, false, false, false, false, false, false, false, false, false, false, false, false, false, false, false] (by kernel_rfl) rfl rfl trivial (fun hHeld => ?_); refine with_tabW frame_Take.tab8 frame_Take.bits8 (fun HT_ HW_ => ?_)
                    generalize wc.drew = w38 at HI257 HB hHeld ⊢
                    refine pure_ (i := 0) (N := some 54) (v := ?_) (a' := ?_) #[true, false, false, false, false, false, false, false, false, false, false, false, false, false, false, false, false, false, false, false, false, false, false, false, false, false] rfl rfl (any_of HT_.out (by kernel_rfl)) (fun _ _ _ h => h) (Or.inl ⟨by rfl, ?_⟩) ?_ ?_
                    rotate_left
                    · intro w'
                      go_simp
                      first | with_reducible rfl | (rw [show wrap64 (ji51 + t258) = ji43 from by rw [← hji51]; exact hji43, hji47]; rw [if_pos ⟨of_eq_true c48b0, of_eq_true c49b0⟩]) | (rw [show wrap64 (ji51 + t258) = ji43 from by rw [← hji51]; exact hji43]; rw [if_pos ⟨of_eq_true c44b0, of_eq_true c45b0⟩])
                    rotate_left
                    · simp only [Act.put, List.setIfInBounds_toArray, List.set_cons_zero, List.set_cons_succ, i64_w, i32_w]
                      rfl
                    refine one_ (i := 1) (N := some 55) #[true, true, false, false, false, false, false, false, false, false, false, false, false, false, false, false, false, false, false, false, false, false, false, false, false, false] rfl rfl (one_of HT_.out (by kernel_rfl)) (by decide) (fun K hK => ?_)
                    refine goes_ Tryz.func111 (by kernel_rfl) rfl #[.pointer (some ⟨g257, 0, none⟩)] (by rfl) rfl rfl (by (try simp only [List.map_toArray, List.map_cons, List.map_nil]); first | done | rfl | (simp only [List.length_drop, List.length_take]; rfl)) ?_
                    with_reducible refine (varint_Reader_Bad.calls g257 x258000_20 x258001_20 x258002_20 false t279 t280 t281 w _ ?side1 ?side2 A33.out).mono ?_
                    (case side1 => repeat (first | (with_reducible first | exact HI257.out | apply IsS192.alloc | apply IsS192.drewN | apply IsS192.drew | apply IsS192.set_0 | apply IsS192.set_1 | apply IsS192.set_2) | exact HI257.out))
                    (case side2 => repeat (first | (with_reducible first | exact HB.out | apply below_alloc | apply pw_below_drewN | apply below_drew1 | refine below_set ?_ (IsS192.ge HI257.out)) | exact HB.out))
                    rintro e w39 ⟨rfl, hi, hb, hk⟩
                    refine ⟨_, rfl, ?_⟩
                    have n0_ := Aside0.mk (hb)
                    have n1_ := Aside0.mk (hi)
                    clear HB
                    clear HI257
                    have HB := n0_
                    have HI257 := n1_
                    clear n0_ n1_
                    (try clear hb)
                    (try clear hb2)
                    (try clear hk)
                    (try clear hi)
                    refine hK.out _ _ trivial (fun hHeld => ?_)
                    clear hK K
                    refine norm_ (a' := ?_) ?_ ?_
                    rotate_left
                    · show Act.put _ (some 55) _ = _
                      simp only [Act.put, List.setIfInBounds_toArray, List.set_cons_zero, List.set_cons_succ, i64_w, i32_w]
                      rfl
                    refine pure_ (i := 2) (N := some 56) (v := ?_) (a' := ?_) #[true, true, true, false, false, false, false, false, false, false, false, false, false, false, false, false, false, false, false, false, false, false, false, false, false, false] rfl rfl (any_of HT_.out (by kernel_rfl)) (fun _ _ _ h => h) (Or.inl ⟨by rfl, ?_⟩) ?_ ?_
                    rotate_left
                    · intro w'
                      go_simp
                      first | with_reducible rfl | (rw [show wrap64 (ji51 + t258) = ji43 from by rw [← hji51]; exact hji43, hji47]; rw [if_pos ⟨of_eq_true c48b0, of_eq_true c49b0⟩]) | (rw [show wrap64 (ji51 + t258) = ji43 from by rw [← hji51]; exact hji43]; rw [if_pos ⟨of_eq_true c44b0, of_eq_true c45b0⟩])
                    rotate_left
                    · simp only [Act.put, List.setIfInBounds_toArray, List.set_cons_zero, List.set_cons_succ, i64_w, i32_w]
                      rfl
                    refine pure_ (i := 3) (N := some 57) (v := ?_) (a' := ?_) #[true, true, true, true, false, false, false, false, false, false, false, false, false, false, false, false, false, false, false, false, false, false, false, false, false, false] rfl rfl (any_of HT_.out (by kernel_rfl)) (fun _ _ _ h => h) (Or.inl ⟨by rfl, ?_⟩) ?_ ?_
                    rotate_left
                    · intro w'
                      go_simp
                      first | with_reducible rfl | (rw [show wrap64 (ji51 + t258) = ji43 from by rw [← hji51]; exact hji43, hji47]; rw [if_pos ⟨of_eq_true c48b0, of_eq_true c49b0⟩]) | (rw [show wrap64 (ji51 + t258) = ji43 from by rw [← hji51]; exact hji43]; rw [if_pos ⟨of_eq_true c44b0, of_eq_true c45b0⟩])
                    rotate_left
                    · simp only [Act.put, List.setIfInBounds_toArray, List.set_cons_zero, List.set_cons_succ, i64_w, i32_w]
                      rfl
                    refine pure_ (i := 4) (N := some 58) (v := ?_) (a' := ?_) #[true, true, true, true, true, false, false, false, false, false, false, false, false, false, false, false, false, false, false, false, false, false, false, false, false, false] rfl rfl (any_of HT_.out (by kernel_rfl)) (fun _ _ _ h => h) (Or.inl ⟨by rfl, ?_⟩) ?_ ?_
                    rotate_left
                    · intro w'
                      go_simp
                      first | with_reducible rfl | (rw [show wrap64 (ji51 + t258) = ji43 from by rw [← hji51]; exact hji43, hji47]; rw [if_pos ⟨of_eq_true c48b0, of_eq_true c49b0⟩]) | (rw [show wrap64 (ji51 + t258) = ji43 from by rw [← hji51]; exact hji43]; rw [if_pos ⟨of_eq_true c44b0, of_eq_true c45b0⟩])
                    rotate_left
                    · simp only [Act.put, List.setIfInBounds_toArray, List.set_cons_zero, List.set_cons_succ, i64_w, i32_w]
                      rfl
                    refine pure_ (i := 5) (N := some 59) (v := ?_) (a' := ?_) #[true, true, true, true, true, true, false, false, false, false, false, false, false, false, false, false, false, false, false, false, false, false, false, false, false, false] rfl rfl (any_of HT_.out (by kernel_rfl)) (fun _ _ _ h => h) (Or.inl ⟨by rfl, ?_⟩) ?_ ?_
                    rotate_left
                    · intro w'
                      go_simp
                      first | with_reducible rfl | (rw [show wrap64 (ji51 + t258) = ji43 from by rw [← hji51]; exact hji43, hji47]; rw [if_pos ⟨of_eq_true c48b0, of_eq_true c49b0⟩]) | (rw [show wrap64 (ji51 + t258) = ji43 from by rw [← hji51]; exact hji43]; rw [if_pos ⟨of_eq_true c44b0, of_eq_true c45b0⟩])
                    rotate_left
                    · simp only [Act.put, List.setIfInBounds_toArray, List.set_cons_zero, List.set_cons_succ, i64_w, i32_w]
                      rfl
                    refine pure_ (i := 6) (N := some 60) (v := ?_) (a' := ?_) #[true, true, true, true, true, true, true, false, false, false, false, false, false, false, false, false, false, false, false, false, false, false, false, false, false, false] rfl rfl (any_of HT_.out (by kernel_rfl)) (fun _ _ _ h => h) (Or.inl ⟨by rfl, ?_⟩) ?_ ?_
                    rotate_left
                    · intro w'
                      go_simp
                      first | with_reducible rfl | (rw [show wrap64 (ji51 + t258) = ji43 from by rw [← hji51]; exact hji43, hji47]; rw [if_pos ⟨of_eq_true c48b0, of_eq_true c49b0⟩]) | (rw [show wrap64 (ji51 + t258) = ji43 from by rw [← hji51]; exact hji43]; rw [if_pos ⟨of_eq_true c44b0, of_eq_true c45b0⟩])
                    rotate_left
                    · simp only [Act.put, List.setIfInBounds_toArray, List.set_cons_zero, List.set_cons_succ, i64_w, i32_w]
                      rfl
                    refine pure_ (i := 7) (N := some 61) (v := undef) (a' := ?_) #[true, true, true, true, true, true, true, true, false, false, false, false, false, false, false, false, false, false, false, false, false, false, false, false, false, false] rfl rfl (any_of HT_.out (by kernel_rfl)) (fun _ _ _ h => h) (Or.inr ⟨by rfl, rfl⟩) ?_ ?_
                    rotate_left
                    · simp only [Act.put, List.setIfInBounds_toArray, List.set_cons_zero, List.set_cons_succ, i64_w, i32_w]
                      rfl
                    refine pure_ (i := 8) (N := some 62) (v := undef) (a' := ?_) #[true, true, true, true, true, true, true, true, true, false, false, false, false, false, false, false, false, false, false, false, false, false, false, false, false, false] rfl rfl (any_of HT_.out (by kernel_rfl)) (fun _ _ _ h => h) (Or.inr ⟨by rfl, rfl⟩) ?_ ?_
                    rotate_left
                    · simp only [Act.put, List.setIfInBounds_toArray, List.set_cons_zero, List.set_cons_succ, i64_w, i32_w]
                      rfl
                    refine pure_ (i := 9) (N := some 63) (v := ?_) (a' := ?_) #[true, true, true, true, true, true, true, true, true, true, false, false, false, false, false, false, false, false, false, false, false, false, false, false, false, false] rfl rfl (any_of HT_.out (by kernel_rfl)) (fun _ _ _ h => h) (Or.inl ⟨by rfl, ?_⟩) ?_ ?_
                    rotate_left
                    · intro w'
                      go_simp
                      first | with_reducible rfl | (rw [show wrap64 (ji51 + t258) = ji43 from by rw [← hji51]; exact hji43, hji47]; rw [if_pos ⟨of_eq_true c48b0, of_eq_true c49b0⟩]) | (rw [show wrap64 (ji51 + t258) = ji43 from by rw [← hji51]; exact hji43]; rw [if_pos ⟨of_eq_true c44b0, of_eq_true c45b0⟩])
                    rotate_left
                    · simp only [Act.put, List.setIfInBounds_toArray, List.set_cons_zero, List.set_cons_succ, i64_w, i32_w]
                      rfl
                    refine pure_ (i := 10) (N := some 64) (v := ?_) (a' := ?_) #[true, true, true, true, true, true, true, true, true, true, true, false, false, false, false, false, false, false, false, false, false, false, false, false, false, false] rfl rfl (any_of HT_.out (by kernel_rfl)) (fun _ _ _ h => h) (Or.inl ⟨by rfl, ?_⟩) ?_ ?_
                    rotate_left
                    · intro w'
                      go_simp
                      first | with_reducible rfl | (rw [show wrap64 (ji51 + t258) = ji43 from by rw [← hji51]; exact hji43, hji47]; rw [if_pos ⟨of_eq_true c48b0, of_eq_true c49b0⟩]) | (rw [show wrap64 (ji51 + t258) = ji43 from by rw [← hji51]; exact hji43]; rw [if_pos ⟨of_eq_true c44b0, of_eq_true c45b0⟩])
                    rotate_left
                    · simp only [Act.put, List.setIfInBounds_toArray, List.set_cons_zero, List.set_cons_succ, i64_w, i32_w]
                      rfl
                    refine pure_ (i := 11) (N := some 65) (v := undef) (a' := ?_) #[true, true, true, true, true, true, true, true, true, true, true, true, false, false, false, false, false, false, false, false, false, false, false, false, false, false] rfl rfl (any_of HT_.out (by kernel_rfl)) (fun _ _ _ h => h) (Or.inr ⟨by rfl, rfl⟩) ?_ ?_
                    rotate_left
                    · simp only [Act.put, List.setIfInBounds_toArray, List.set_cons_zero, List.set_cons_succ, i64_w, i32_w]
                      rfl
                    refine pure_ (i := 12) (N := some 66) (v := undef) (a' := ?_) #[true, true, true, true, true, true, true, true, true, true, true, true, true, false, false, false, false, false, false, false, false, false, false, false, false, false] rfl rfl (any_of HT_.out (by kernel_rfl)) (fun _ _ _ h => h) (Or.inr ⟨by rfl, rfl⟩) ?_ ?_
                    rotate_left
                    · simp only [Act.put, List.setIfInBounds_toArray, List.set_cons_zero, List.set_cons_succ, i64_w, i32_w]
                      rfl
                    refine pure_ (i := 13) (N := some 67) (v := undef) (a' := ?_) #[true, true, true, true, true, true, true, true, true, true, true, true, true, true, false, false, false, false, false, false, false, false, false, false, false, false] rfl rfl (any_of HT_.out (by kernel_rfl)) (fun _ _ _ h => h) (Or.inr ⟨by rfl, rfl⟩) ?_ ?_
                    rotate_left
                    · simp only [Act.put, List.setIfInBounds_toArray, List.set_cons_zero, List.set_cons_succ, i64_w, i32_w]
                      rfl
                    refine pure_ (i := 14) (N := some 68) (v := undef) (a' := ?_) #[true, true, true, true, true, true, true, true, true, true, true, true, true, true, true, false, false, false, false, false, false, false, false, false, false, false] rfl rfl (any_of HT_.out (by kernel_rfl)) (fun _ _ _ h => h) (Or.inr ⟨by rfl, rfl⟩) ?_ ?_
                    rotate_left
                    · simp only [Act.put, List.setIfInBounds_toArray, List.set_cons_zero, List.set_cons_succ, i64_w, i32_w]
                      rfl
                    refine pure_ (i := 15) (N := some 69) (v := undef) (a' := ?_) #[true, true, true, true, true, true, true, true, true, true, true, true, true, true, true, true, false, false, false, false, false, false, false, false, false, false] rfl rfl (any_of HT_.out (by kernel_rfl)) (fun _ _ _ h => h) (Or.inr ⟨by rfl, rfl⟩) ?_ ?_
                    rotate_left
                    · simp only [Act.put, List.setIfInBounds_toArray, List.set_cons_zero, List.set_cons_succ, i64_w, i32_w]
                      rfl
                    refine pure_ (i := 16) (N := some 70) (v := undef) (a' := ?_) #[true, true, true, true, true, true, true, true, true, true, true, true, true, true, true, true, true, false, false, false, false, false, false, false, false, false] rfl rfl (any_of HT_.out (by kernel_rfl)) (fun _ _ _ h => h) (Or.inr ⟨by rfl, rfl⟩) ?_ ?_
                    rotate_left
                    · simp only [Act.put, List.setIfInBounds_toArray, List.set_cons_zero, List.set_cons_succ, i64_w, i32_w]
                      rfl
                    refine pure_ (i := 17) (N := some 71) (v := undef) (a' := ?_) #[true, true, true, true, true, true, true, true, true, true, true, true, true, true, true, true, true, true, false, false, false, false, false, false, false, false] rfl rfl (any_of HT_.out (by kernel_rfl)) (fun _ _ _ h => h) (Or.inr ⟨by rfl, rfl⟩) ?_ ?_
                    rotate_left
                    · simp only [Act.put, List.setIfInBounds_toArray, List.set_cons_zero, List.set_cons_succ, i64_w, i32_w]
                      rfl
                    refine pure_ (i := 18) (N := some 72) (v := undef) (a' := ?_) #[true, true, true, true, true, true, true, true, true, true, true, true, true, true, true, true, true, true, true, false, false, false, false, false, false, false] rfl rfl (any_of HT_.out (by kernel_rfl)) (fun _ _ _ h => h) (Or.inr ⟨by rfl, rfl⟩) ?_ ?_
                    rotate_left
                    · simp only [Act.put, List.setIfInBounds_toArray, List.set_cons_zero, List.set_cons_succ, i64_w, i32_w]
                      rfl
                    refine pure_ (i := 19) (N := some 73) (v := undef) (a' := ?_) #[true, true, true, true, true, true, true, true, true, true, true, true, true, true, true, true, true, true, true, true, false, false, false, false, false, false] rfl rfl (any_of HT_.out (by kernel_rfl)) (fun _ _ _ h => h) (Or.inr ⟨by rfl, rfl⟩) ?_ ?_
                    rotate_left
                    · simp only [Act.put, List.setIfInBounds_toArray, List.set_cons_zero, List.set_cons_succ, i64_w, i32_w]
                      rfl
                    refine pure_ (i := 20) (N := some 74) (v := undef) (a' := ?_) #[true, true, true, true, true, true, true, true, true, true, true, true, true, true, true, true, true, true, true, true, true, false, false, false, false, false] rfl rfl (any_of HT_.out (by kernel_rfl)) (fun _ _ _ h => h) (Or.inr ⟨by rfl, rfl⟩) ?_ ?_
                    rotate_left
                    · simp only [Act.put, List.setIfInBounds_toArray, List.set_cons_zero, List.set_cons_succ, i64_w, i32_w]
                      rfl
                    refine pure_ (i := 21) (N := some 75) (v := undef) (a' := ?_) #[true, true, true, true, true, true, true, true, true, true, true, true, true, true, true, true, true, true, true, true, true, true, false, false, false, false] rfl rfl (any_of HT_.out (by kernel_rfl)) (fun _ _ _ h => h) (Or.inr ⟨by rfl, rfl⟩) ?_ ?_
                    rotate_left
                    · simp only [Act.put, List.setIfInBounds_toArray, List.set_cons_zero, List.set_cons_succ, i64_w, i32_w]
                      rfl
                    refine pure_ (i := 22) (N := some 76) (v := undef) (a' := ?_) #[true, true, true, true, true, true, true, true, true, true, true, true, true, true, true, true, true, true, true, true, true, true, true, false, false, false] rfl rfl (any_of HT_.out (by kernel_rfl)) (fun _ _ _ h => h) (Or.inr ⟨by rfl, rfl⟩) ?_ ?_
                    rotate_left
                    · simp only [Act.put, List.setIfInBounds_toArray, List.set_cons_zero, List.set_cons_succ, i64_w, i32_w]
                      rfl
                    refine pure_ (i := 23) (N := some 77) (v := undef) (a' := ?_) #[true, true, true, true, true, true, true, true, true, true, true, true, true, true, true, true, true, true, true, true, true, true, true, true, false, false] rfl rfl (any_of HT_.out (by kernel_rfl)) (fun _ _ _ h => h) (Or.inr ⟨by rfl, rfl⟩) ?_ ?_
                    rotate_left
                    · simp only [Act.put, List.setIfInBounds_toArray, List.set_cons_zero, List.set_cons_succ, i64_w, i32_w]
                      rfl
                    refine pure_ (i := 24) (N := some 78) (v := ?_) (a' := ?_) #[true, true, true, true, true, true, true, true, true, true, true, true, true, true, true, true, true, true, true, true, true, true, true, true, true, false] rfl rfl (any_of HT_.out (by kernel_rfl)) (fun _ _ _ h => h) (Or.inl ⟨by rfl, ?_⟩) ?_ ?_
                    rotate_left
                    · intro w'
                      go_simp
                      first | with_reducible rfl | (rw [show wrap64 (ji51 + t258) = ji43 from by rw [← hji51]; exact hji43, hji47]; rw [if_pos ⟨of_eq_true c48b0, of_eq_true c49b0⟩]) | (rw [show wrap64 (ji51 + t258) = ji43 from by rw [← hji51]; exact hji43]; rw [if_pos ⟨of_eq_true c44b0, of_eq_true c45b0⟩])
                    rotate_left
                    · simp only [Act.put, List.setIfInBounds_toArray, List.set_cons_zero, List.set_cons_succ, i64_w, i32_w]
                      rfl
                    refine pure_ (i := 25) (N := some 53) (v := ?_) (a' := ?_) #[true, true, true, true, true, true, true, true, true, true, true, true, true, true, true, true, true, true, true, true, true, true, true, true, true, true] rfl rfl (any_of HT_.out (by kernel_rfl)) (fun _ _ _ h => h) (Or.inl ⟨by rfl, ?_⟩) ?_ ?_
                    rotate_left
                    · intro w'
                      go_simp
                      first | with_reducible rfl | (rw [show wrap64 (ji51 + t258) = ji43 from by rw [← hji51]; exact hji43, hji47]; rw [if_pos ⟨of_eq_true c48b0, of_eq_true c49b0⟩]) | (rw [show wrap64 (ji51 + t258) = ji43 from by rw [← hji51]; exact hji43]; rw [if_pos ⟨of_eq_true c44b0, of_eq_true c45b0⟩])
                    rotate_left
                    · simp only [Act.put, List.setIfInBounds_toArray, List.set_cons_zero, List.set_cons_succ, i64_w, i32_w]
                      rfl
                    refine done_ (done_of HT_.out (by kernel_rfl)) ?_
                    try go_wp2
                    go_ret3
                    exact ⟨by first | rfl | (simp [errW_none, errW_some] <;> rfl) | (simp [*, errW_none, errW_some] <;> rfl), by repeat (first | (with_reducible first | exact HB.out | apply below_alloc | apply pw_below_drewN | apply below_drew1 | refine below_set ?_ (IsS192.ge HI257.out)) | exact HB.out)⟩
                  · rw [if_neg c37] at H
                    have c37b0 : decide (t258 < 0) = false := decide_eq_false c37
                    clear c37
                    by_cases c40 : t258 > 4096
                    · rw [if_pos c40] at H
                      have c40b0 : decide (4096 < t258) = true := decide_eq_true c40
                      clear c40
                      simp only [Option.some.injEq, Prod.mk.injEq] at H
                      obtain ⟨rfl, rfl, rfl⟩ := H
                      try go_wp2
                      have n0_ := Aside0.mk (IsS192.drew HI257.out)
                      have n1_ := Aside0.mk (below_drew1 HB.out)
                      clear HI257
                      clear HB
                      have HI257 := n0_
                      have HB := n1_
                      clear n0_ n1_
                      refine start_ (n := 26) (S := fun w' => True) (ds := []) #[false, false, false, false, false, false, false, false, false, false, false, false, false, false, false, false, false, false, false, false, false, false, false, false, false, false] (by kernel_rfl) rfl rfl trivial (fun hHeld => ?_); refine with_tabW frame_Take.tab8 frame_Take.bits8 (fun HT_ HW_ => ?_)
                      generalize wc.drew = w41 at HI257 HB hHeld ⊢
                      refine pure_ (i := 0) (N := some 54) (v := ?_) (a' := ?_) #[true, false, false, false, false, false, false, false, false, false, false, false, false, false, false, false, false, false, false, false, false, false, false, false, false, false] rfl rfl (any_of HT_.out (by kernel_rfl)) (fun _ _ _ h => h) (Or.inl ⟨by rfl, ?_⟩) ?_ ?_
                      rotate_left
                      · intro w'
                        go_simp
                        first | with_reducible rfl | (rw [show wrap64 (ji51 + t258) = ji43 from by rw [← hji51]; exact hji43, hji47]; rw [if_pos ⟨of_eq_true c48b0, of_eq_true c49b0⟩]) | (rw [show wrap64 (ji51 + t258) = ji43 from by rw [← hji51]; exact hji43]; rw [if_pos ⟨of_eq_true c44b0, of_eq_true c45b0⟩])
                      rotate_left
                      · simp only [Act.put, List.setIfInBounds_toArray, List.set_cons_zero, List.set_cons_succ, i64_w, i32_w]
                        rfl
                      refine one_ (i := 1) (N := some 55) #[true, true, false, false, false, false, false, false, false, false, false, false, false, false, false, false, false, false, false, false, false, false, false, false, false, false] rfl rfl (one_of HT_.out (by kernel_rfl)) (by decide) (fun K hK => ?_)
                      refine goes_ Tryz.func111 (by kernel_rfl) rfl #[.pointer (some ⟨g257, 0, none⟩)] (by rfl) rfl rfl (by (try simp only [List.map_toArray, List.map_cons, List.map_nil]); first | done | rfl | (simp only [List.length_drop, List.length_take]; rfl)) ?_
                      with_reducible refine (varint_Reader_Bad.calls g257 x258000_20 x258001_20 x258002_20 false t279 t280 t281 w _ ?side1 ?side2 A33.out).mono ?_
                      (case side1 => repeat (first | (with_reducible first | exact HI257.out | apply IsS192.alloc | apply IsS192.drewN | apply IsS192.drew | apply IsS192.set_0 | apply IsS192.set_1 | apply IsS192.set_2) | exact HI257.out))
                      (case side2 => repeat (first | (with_reducible first | exact HB.out | apply below_alloc | apply pw_below_drewN | apply below_drew1 | refine below_set ?_ (IsS192.ge HI257.out)) | exact HB.out))
                      rintro e w42 ⟨rfl, hi, hb, hk⟩
                      refine ⟨_, rfl, ?_⟩
                      have n0_ := Aside0.mk (hb)
                      have n1_ := Aside0.mk (hi)
                      clear HB
                      clear HI257
                      have HB := n0_
                      have HI257 := n1_
                      clear n0_ n1_
                      (try clear hb)
                      (try clear hb2)
                      (try clear hk)
                      (try clear hi)
                      refine hK.out _ _ trivial (fun hHeld => ?_)
                      clear hK K
                      refine norm_ (a' := ?_) ?_ ?_
                      rotate_left
                      · show Act.put _ (some 55) _ = _
                        simp only [Act.put, List.setIfInBounds_toArray, List.set_cons_zero, List.set_cons_succ, i64_w, i32_w]
                        rfl
                      refine pure_ (i := 2) (N := some 56) (v := ?_) (a' := ?_) #[true, true, true, false, false, false, false, false, false, false, false, false, false, false, false, false, false, false, false, false, false, false, false, false, false, false] rfl rfl (any_of HT_.out (by kernel_rfl)) (fun _ _ _ h => h) (Or.inl ⟨by rfl, ?_⟩) ?_ ?_
                      rotate_left
                      · intro w'
                        go_simp
                        first | with_reducible rfl | (rw [show wrap64 (ji51 + t258) = ji43 from by rw [← hji51]; exact hji43, hji47]; rw [if_pos ⟨of_eq_true c48b0, of_eq_true c49b0⟩]) | (rw [show wrap64 (ji51 + t258) = ji43 from by rw [← hji51]; exact hji43]; rw [if_pos ⟨of_eq_true c44b0, of_eq_true c45b0⟩])
                      rotate_left
                      · simp only [Act.put, List.setIfInBounds_toArray, List.set_cons_zero, List.set_cons_succ, i64_w, i32_w]
                        rfl
                      refine pure_ (i := 3) (N := some 57) (v := ?_) (a' := ?_) #[true, true, true, true, false, false, false, false, false, false, false, false, false, false, false, false, false, false, false, false, false, false, false, false, false, false] rfl rfl (any_of HT_.out (by kernel_rfl)) (fun _ _ _ h => h) (Or.inl ⟨by rfl, ?_⟩) ?_ ?_
                      rotate_left
                      · intro w'
                        go_simp
                        first | with_reducible rfl | (rw [show wrap64 (ji51 + t258) = ji43 from by rw [← hji51]; exact hji43, hji47]; rw [if_pos ⟨of_eq_true c48b0, of_eq_true c49b0⟩]) | (rw [show wrap64 (ji51 + t258) = ji43 from by rw [← hji51]; exact hji43]; rw [if_pos ⟨of_eq_true c44b0, of_eq_true c45b0⟩])
                      rotate_left
                      · simp only [Act.put, List.setIfInBounds_toArray, List.set_cons_zero, List.set_cons_succ, i64_w, i32_w]
                        rfl
                      refine pure_ (i := 4) (N := some 58) (v := ?_) (a' := ?_) #[true, true, true, true, true, false, false, false, false, false, false, false, false, false, false, false, false, false, false, false, false, false, false, false, false, false] rfl rfl (any_of HT_.out (by kernel_rfl)) (fun _ _ _ h => h) (Or.inl ⟨by rfl, ?_⟩) ?_ ?_
                      rotate_left
                      · intro w'
                        go_simp
                        first | with_reducible rfl | (rw [show wrap64 (ji51 + t258) = ji43 from by rw [← hji51]; exact hji43, hji47]; rw [if_pos ⟨of_eq_true c48b0, of_eq_true c49b0⟩]) | (rw [show wrap64 (ji51 + t258) = ji43 from by rw [← hji51]; exact hji43]; rw [if_pos ⟨of_eq_true c44b0, of_eq_true c45b0⟩])
                      rotate_left
                      · simp only [Act.put, List.setIfInBounds_toArray, List.set_cons_zero, List.set_cons_succ, i64_w, i32_w]
                        rfl
                      refine pure_ (i := 5) (N := some 59) (v := ?_) (a' := ?_) #[true, true, true, true, true, true, false, false, false, false, false, false, false, false, false, false, false, false, false, false, false, false, false, false, false, false] rfl rfl (any_of HT_.out (by kernel_rfl)) (fun _ _ _ h => h) (Or.inl ⟨by rfl, ?_⟩) ?_ ?_
                      rotate_left
                      · intro w'
                        go_simp
                        first | with_reducible rfl | (rw [show wrap64 (ji51 + t258) = ji43 from by rw [← hji51]; exact hji43, hji47]; rw [if_pos ⟨of_eq_true c48b0, of_eq_true c49b0⟩]) | (rw [show wrap64 (ji51 + t258) = ji43 from by rw [← hji51]; exact hji43]; rw [if_pos ⟨of_eq_true c44b0, of_eq_true c45b0⟩])
                      rotate_left
                      · simp only [Act.put, List.setIfInBounds_toArray, List.set_cons_zero, List.set_cons_succ, i64_w, i32_w]
                        rfl
                      refine pure_ (i := 6) (N := some 60) (v := ?_) (a' := ?_) #[true, true, true, true, true, true, true, false, false, false, false, false, false, false, false, false, false, false, false, false, false, false, false, false, false, false] rfl rfl (any_of HT_.out (by kernel_rfl)) (fun _ _ _ h => h) (Or.inl ⟨by rfl, ?_⟩) ?_ ?_
                      rotate_left
                      · intro w'
                        go_simp
                        first | with_reducible rfl | (rw [show wrap64 (ji51 + t258) = ji43 from by rw [← hji51]; exact hji43, hji47]; rw [if_pos ⟨of_eq_true c48b0, of_eq_true c49b0⟩]) | (rw [show wrap64 (ji51 + t258) = ji43 from by rw [← hji51]; exact hji43]; rw [if_pos ⟨of_eq_true c44b0, of_eq_true c45b0⟩])
                      rotate_left
                      · simp only [Act.put, List.setIfInBounds_toArray, List.set_cons_zero, List.set_cons_succ, i64_w, i32_w]
                        rfl
                      refine pure_ (i := 7) (N := some 61) (v := ?_) (a' := ?_) #[true, true, true, true, true, true, true, true, false, false, false, false, false, false, false, false, false, false, false, false, false, false, false, false, false, false] rfl rfl (any_of HT_.out (by kernel_rfl)) (fun _ _ _ h => h) (Or.inl ⟨by rfl, ?_⟩) ?_ ?_
                      rotate_left
                      · intro w'
                        go_simp
                        first | with_reducible rfl | (rw [show wrap64 (ji51 + t258) = ji43 from by rw [← hji51]; exact hji43, hji47]; rw [if_pos ⟨of_eq_true c48b0, of_eq_true c49b0⟩]) | (rw [show wrap64 (ji51 + t258) = ji43 from by rw [← hji51]; exact hji43]; rw [if_pos ⟨of_eq_true c44b0, of_eq_true c45b0⟩])
                      rotate_left
                      · simp only [Act.put, List.setIfInBounds_toArray, List.set_cons_zero, List.set_cons_succ, i64_w, i32_w]
                        rfl
                      refine pure_ (i := 8) (N := some 62) (v := ?_) (a' := ?_) #[true, true, true, true, true, true, true, true, true, false, false, false, false, false, false, false, false, false, false, false, false, false, false, false, false, false] rfl rfl (any_of HT_.out (by kernel_rfl)) (fun _ _ _ h => h) (Or.inl ⟨by rfl, ?_⟩) ?_ ?_
                      rotate_left
                      · intro w'
                        go_simp
                        first | with_reducible rfl | (rw [show wrap64 (ji51 + t258) = ji43 from by rw [← hji51]; exact hji43, hji47]; rw [if_pos ⟨of_eq_true c48b0, of_eq_true c49b0⟩]) | (rw [show wrap64 (ji51 + t258) = ji43 from by rw [← hji51]; exact hji43]; rw [if_pos ⟨of_eq_true c44b0, of_eq_true c45b0⟩])
                      rotate_left
                      · simp only [Act.put, List.setIfInBounds_toArray, List.set_cons_zero, List.set_cons_succ, i64_w, i32_w]
                        rfl
                      refine pure_ (i := 9) (N := some 63) (v := ?_) (a' := ?_) #[true, true, true, true, true, true, true, true, true, true, false, false, false, false, false, false, false, false, false, false, false, false, false, false, false, false] rfl rfl (any_of HT_.out (by kernel_rfl)) (fun _ _ _ h => h) (Or.inl ⟨by rfl, ?_⟩) ?_ ?_
                      rotate_left
                      · intro w'
                        go_simp
                        first | with_reducible rfl | (rw [show wrap64 (ji51 + t258) = ji43 from by rw [← hji51]; exact hji43, hji47]; rw [if_pos ⟨of_eq_true c48b0, of_eq_true c49b0⟩]) | (rw [show wrap64 (ji51 + t258) = ji43 from by rw [← hji51]; exact hji43]; rw [if_pos ⟨of_eq_true c44b0, of_eq_true c45b0⟩])
                      rotate_left
                      · simp only [Act.put, List.setIfInBounds_toArray, List.set_cons_zero, List.set_cons_succ, i64_w, i32_w]
                        rfl
                      refine pure_ (i := 10) (N := some 64) (v := ?_) (a' := ?_) #[true, true, true, true, true, true, true, true, true, true, true, false, false, false, false, false, false, false, false, false, false, false, false, false, false, false] rfl rfl (any_of HT_.out (by kernel_rfl)) (fun _ _ _ h => h) (Or.inl ⟨by rfl, ?_⟩) ?_ ?_
                      rotate_left
                      · intro w'
                        go_simp
                        first | with_reducible rfl | (rw [show wrap64 (ji51 + t258) = ji43 from by rw [← hji51]; exact hji43, hji47]; rw [if_pos ⟨of_eq_true c48b0, of_eq_true c49b0⟩]) | (rw [show wrap64 (ji51 + t258) = ji43 from by rw [← hji51]; exact hji43]; rw [if_pos ⟨of_eq_true c44b0, of_eq_true c45b0⟩])
                      rotate_left
                      · simp only [Act.put, List.setIfInBounds_toArray, List.set_cons_zero, List.set_cons_succ, i64_w, i32_w]
                        rfl
                      refine pure_ (i := 11) (N := some 65) (v := undef) (a' := ?_) #[true, true, true, true, true, true, true, true, true, true, true, true, false, false, false, false, false, false, false, false, false, false, false, false, false, false] rfl rfl (any_of HT_.out (by kernel_rfl)) (fun _ _ _ h => h) (Or.inr ⟨by rfl, rfl⟩) ?_ ?_
                      rotate_left
                      · simp only [Act.put, List.setIfInBounds_toArray, List.set_cons_zero, List.set_cons_succ, i64_w, i32_w]
                        rfl
                      refine pure_ (i := 12) (N := some 66) (v := undef) (a' := ?_) #[true, true, true, true, true, true, true, true, true, true, true, true, true, false, false, false, false, false, false, false, false, false, false, false, false, false] rfl rfl (any_of HT_.out (by kernel_rfl)) (fun _ _ _ h => h) (Or.inr ⟨by rfl, rfl⟩) ?_ ?_
                      rotate_left
                      · simp only [Act.put, List.setIfInBounds_toArray, List.set_cons_zero, List.set_cons_succ, i64_w, i32_w]
                        rfl
                      refine pure_ (i := 13) (N := some 67) (v := undef) (a' := ?_) #[true, true, true, true, true, true, true, true, true, true, true, true, true, true, false, false, false, false, false, false, false, false, false, false, false, false] rfl rfl (any_of HT_.out (by kernel_rfl)) (fun _ _ _ h => h) (Or.inr ⟨by rfl, rfl⟩) ?_ ?_
                      rotate_left
                      · simp only [Act.put, List.setIfInBounds_toArray, List.set_cons_zero, List.set_cons_succ, i64_w, i32_w]
                        rfl
                      refine pure_ (i := 14) (N := some 68) (v := undef) (a' := ?_) #[true, true, true, true, true, true, true, true, true, true, true, true, true, true, true, false, false, false, false, false, false, false, false, false, false, false] rfl rfl (any_of HT_.out (by kernel_rfl)) (fun _ _ _ h => h) (Or.inr ⟨by rfl, rfl⟩) ?_ ?_
                      rotate_left
                      · simp only [Act.put, List.setIfInBounds_toArray, List.set_cons_zero, List.set_cons_succ, i64_w, i32_w]
                        rfl
                      refine pure_ (i := 15) (N := some 69) (v := undef) (a' := ?_) #[true, true, true, true, true, true, true, true, true, true, true, true, true, true, true, true, false, false, false, false, false, false, false, false, false, false] rfl rfl (any_of HT_.out (by kernel_rfl)) (fun _ _ _ h => h) (Or.inr ⟨by rfl, rfl⟩) ?_ ?_
                      rotate_left
                      · simp only [Act.put, List.setIfInBounds_toArray, List.set_cons_zero, List.set_cons_succ, i64_w, i32_w]
                        rfl
                      refine pure_ (i := 16) (N := some 70) (v := undef) (a' := ?_) #[true, true, true, true, true, true, true, true, true, true, true, true, true, true, true, true, true, false, false, false, false, false, false, false, false, false] rfl rfl (any_of HT_.out (by kernel_rfl)) (fun _ _ _ h => h) (Or.inr ⟨by rfl, rfl⟩) ?_ ?_
                      rotate_left
                      · simp only [Act.put, List.setIfInBounds_toArray, List.set_cons_zero, List.set_cons_succ, i64_w, i32_w]
                        rfl
                      refine pure_ (i := 17) (N := some 71) (v := undef) (a' := ?_) #[true, true, true, true, true, true, true, true, true, true, true, true, true, true, true, true, true, true, false, false, false, false, false, false, false, false] rfl rfl (any_of HT_.out (by kernel_rfl)) (fun _ _ _ h => h) (Or.inr ⟨by rfl, rfl⟩) ?_ ?_
                      rotate_left
                      · simp only [Act.put, List.setIfInBounds_toArray, List.set_cons_zero, List.set_cons_succ, i64_w, i32_w]
                        rfl
                      refine pure_ (i := 18) (N := some 72) (v := undef) (a' := ?_) #[true, true, true, true, true, true, true, true, true, true, true, true, true, true, true, true, true, true, true, false, false, false, false, false, false, false] rfl rfl (any_of HT_.out (by kernel_rfl)) (fun _ _ _ h => h) (Or.inr ⟨by rfl, rfl⟩) ?_ ?_
                      rotate_left
                      · simp only [Act.put, List.setIfInBounds_toArray, List.set_cons_zero, List.set_cons_succ, i64_w, i32_w]
                        rfl
                      refine pure_ (i := 19) (N := some 73) (v := undef) (a' := ?_) #[true, true, true, true, true, true, true, true, true, true, true, true, true, true, true, true, true, true, true, true, false, false, false, false, false, false] rfl rfl (any_of HT_.out (by kernel_rfl)) (fun _ _ _ h => h) (Or.inr ⟨by rfl, rfl⟩) ?_ ?_
                      rotate_left
                      · simp only [Act.put, List.setIfInBounds_toArray, List.set_cons_zero, List.set_cons_succ, i64_w, i32_w]
                        rfl
                      refine pure_ (i := 20) (N := some 74) (v := undef) (a' := ?_) #[true, true, true, true, true, true, true, true, true, true, true, true, true, true, true, true, true, true, true, true, true, false, false, false, false, false] rfl rfl (any_of HT_.out (by kernel_rfl)) (fun _ _ _ h => h) (Or.inr ⟨by rfl, rfl⟩) ?_ ?_
                      rotate_left
                      · simp only [Act.put, List.setIfInBounds_toArray, List.set_cons_zero, List.set_cons_succ, i64_w, i32_w]
                        rfl
                      refine pure_ (i := 21) (N := some 75) (v := undef) (a' := ?_) #[true, true, true, true, true, true, true, true, true, true, true, true, true, true, true, true, true, true, true, true, true, true, false, false, false, false] rfl rfl (any_of HT_.out (by kernel_rfl)) (fun _ _ _ h => h) (Or.inr ⟨by rfl, rfl⟩) ?_ ?_
                      rotate_left
                      · simp only [Act.put, List.setIfInBounds_toArray, List.set_cons_zero, List.set_cons_succ, i64_w, i32_w]
                        rfl
                      refine pure_ (i := 22) (N := some 76) (v := undef) (a' := ?_) #[true, true, true, true, true, true, true, true, true, true, true, true, true, true, true, true, true, true, true, true, true, true, true, false, false, false] rfl rfl (any_of HT_.out (by kernel_rfl)) (fun _ _ _ h => h) (Or.inr ⟨by rfl, rfl⟩) ?_ ?_
                      rotate_left
                      · simp only [Act.put, List.setIfInBounds_toArray, List.set_cons_zero, List.set_cons_succ, i64_w, i32_w]
                        rfl
                      refine pure_ (i := 23) (N := some 77) (v := undef) (a' := ?_) #[true, true, true, true, true, true, true, true, true, true, true, true, true, true, true, true, true, true, true, true, true, true, true, true, false, false] rfl rfl (any_of HT_.out (by kernel_rfl)) (fun _ _ _ h => h) (Or.inr ⟨by rfl, rfl⟩) ?_ ?_
                      rotate_left
                      · simp only [Act.put, List.setIfInBounds_toArray, List.set_cons_zero, List.set_cons_succ, i64_w, i32_w]
                        rfl
                      refine pure_ (i := 24) (N := some 78) (v := ?_) (a' := ?_) #[true, true, true, true, true, true, true, true, true, true, true, true, true, true, true, true, true, true, true, true, true, true, true, true, true, false] rfl rfl (any_of HT_.out (by kernel_rfl)) (fun _ _ _ h => h) (Or.inl ⟨by rfl, ?_⟩) ?_ ?_
                      rotate_left
                      · intro w'
                        go_simp
                        first | with_reducible rfl | (rw [show wrap64 (ji51 + t258) = ji43 from by rw [← hji51]; exact hji43, hji47]; rw [if_pos ⟨of_eq_true c48b0, of_eq_true c49b0⟩]) | (rw [show wrap64 (ji51 + t258) = ji43 from by rw [← hji51]; exact hji43]; rw [if_pos ⟨of_eq_true c44b0, of_eq_true c45b0⟩])
                      rotate_left
                      · simp only [Act.put, List.setIfInBounds_toArray, List.set_cons_zero, List.set_cons_succ, i64_w, i32_w]
                        rfl
                      refine pure_ (i := 25) (N := some 53) (v := ?_) (a' := ?_) #[true, true, true, true, true, true, true, true, true, true, true, true, true, true, true, true, true, true, true, true, true, true, true, true, true, true] rfl rfl (any_of HT_.out (by kernel_rfl)) (fun _ _ _ h => h) (Or.inl ⟨by rfl, ?_⟩) ?_ ?_
                      rotate_left
                      · intro w'
                        go_simp
                        first | with_reducible rfl | (rw [show wrap64 (ji51 + t258) = ji43 from by rw [← hji51]; exact hji43, hji47]; rw [if_pos ⟨of_eq_true c48b0, of_eq_true c49b0⟩]) | (rw [show wrap64 (ji51 + t258) = ji43 from by rw [← hji51]; exact hji43]; rw [if_pos ⟨of_eq_true c44b0, of_eq_true c45b0⟩])
                      rotate_left
                      · simp only [Act.put, List.setIfInBounds_toArray, List.set_cons_zero, List.set_cons_succ, i64_w, i32_w]
                        rfl
                      refine done_ (done_of HT_.out (by kernel_rfl)) ?_
                      try go_wp2
                      go_ret3
                      exact ⟨by first | rfl | (simp [errW_none, errW_some] <;> rfl) | (simp [*, errW_none, errW_some] <;> rfl), by repeat (first | (with_reducible first | exact HB.out | apply below_alloc | apply pw_below_drewN | apply below_drew1 | refine below_set ?_ (IsS192.ge HI257.out)) | exact HB.out)⟩
                    · rw [if_neg c40] at H
                      have c40b0 : decide (4096 < t258) = false := decide_eq_false c40
                      clear c40
                      obtain ⟨ji43, hji43⟩ : ∃ j_ : Int, (wrap64 ((wrap64 ((a0.size : Int) - t262)) + t258)) = j_ := ⟨_, rfl⟩
                      replace H : (if 0 ≤ (ji43) then (if (ji43) ≤ (a0.size : Int) then ((frame_sealed.f kj20 (a0.extract 0 ((ji43) : Int).toNat)).bind fun t282 => (if 0 ≤ (wrap64 ((ji43) + 4)) then (if (wrap64 ((ji43) + 4)) ≤ (a0.size : Int) then (if t282.toList = (a0.extract 0 ((wrap64 ((ji43) + 4)) : Int).toNat).toList then (if 0 ≤ (wrap64 ((a0.size : Int) - t262)) then (if (wrap64 ((a0.size : Int) - t262)) ≤ (ji43) then (some (a0.extract ((wrap64 ((a0.size : Int) - t262)) : Int).toNat ((ji43) : Int).toNat, wrap64 ((ji43) + 4), 0)) else (none)) else (none)) else (some ((⟨#[]⟩ : ByteArray), 0, 31))) else (none)) else (none))) else (none)) else (none)) = some (r1, r2, r3) := by first | (rw [hji43] at H; exact H) | (simp only [hji43] at H ⊢; exact H)
                      (try rw [hji43] at A33)
                      have hji43w : (IntKind.i64.wrap ((wrap64 ((a0.size : Int) - t262)) + t258)) = ji43 := (i64_w _).trans hji43
                      by_cases c44 : 0 ≤ (ji43)
                      · rw [if_pos c44] at H
                        have c44b0 := eq_true c44
                        have c44b1 : decide (0 ≤ (ji43)) = true := decide_eq_true c44
                        clear c44
                        by_cases c45 : (ji43) ≤ (a0.size : Int)
                        · rw [if_pos c45] at H
                          have c45b0 := eq_true c45
                          have c45b1 : decide ((ji43) ≤ (a0.size : Int)) = true := decide_eq_true c45
                          clear c45
                          replace H := Option.bind_eq_some_iff.mp H
                          obtain ⟨t282, A460, H⟩ := H
                          replace H : (if 0 ≤ (wrap64 ((ji43) + 4)) then (if (wrap64 ((ji43) + 4)) ≤ (a0.size : Int) then (if t282.toList = (a0.extract 0 ((wrap64 ((ji43) + 4)) : Int).toNat).toList then (if 0 ≤ (wrap64 ((a0.size : Int) - t262)) then (if (wrap64 ((a0.size : Int) - t262)) ≤ (ji43) then (some (a0.extract ((wrap64 ((a0.size : Int) - t262)) : Int).toNat ((ji43) : Int).toNat, wrap64 ((ji43) + 4), 0)) else (none)) else (none)) else (some ((⟨#[]⟩ : ByteArray), 0, 31))) else (none)) else (none)) = some (r1, r2, r3) := H
                          have A46 := Aside0.mk A460
                          clear A460
                          obtain ⟨ji47, hji47⟩ : ∃ j_ : Int, (wrap64 ((ji43) + 4)) = j_ := ⟨_, rfl⟩
                          replace H : (if 0 ≤ (ji47) then (if (ji47) ≤ (a0.size : Int) then (if t282.toList = (a0.extract 0 ((ji47) : Int).toNat).toList then (if 0 ≤ (wrap64 ((a0.size : Int) - t262)) then (if (wrap64 ((a0.size : Int) - t262)) ≤ (ji43) then (some (a0.extract ((wrap64 ((a0.size : Int) - t262)) : Int).toNat ((ji43) : Int).toNat, ji47, 0)) else (none)) else (none)) else (some ((⟨#[]⟩ : ByteArray), 0, 31))) else (none)) else (none)) = some (r1, r2, r3) := by first | (rw [hji47] at H; exact H) | (simp only [hji47] at H ⊢; exact H)
                          (try rw [hji47] at A33)
                          (try rw [hji47] at A46)
                          have hji47w : (IntKind.i64.wrap ((ji43) + 4)) = ji47 := (i64_w _).trans hji47
                          by_cases c48 : 0 ≤ (ji47)
                          · rw [if_pos c48] at H
                            have c48b0 := eq_true c48
                            have c48b1 : decide (0 ≤ (ji47)) = true := decide_eq_true c48
                            clear c48
                            by_cases c49 : (ji47) ≤ (a0.size : Int)
                            · rw [if_pos c49] at H
                              have c49b0 := eq_true c49
                              have c49b1 : decide ((ji47) ≤ (a0.size : Int)) = true := decide_eq_true c49
                              clear c49
                              by_cases c50 : t282.toList = (a0.extract 0 ((ji47) : Int).toNat).toList
                              · rw [if_pos c50] at H
                                have c50b0 : (t282.toList == (a0.extract 0 ((ji47) : Int).toNat).toList) = true := beq_iff_eq.mpr c50
                                have c50b1 : (t282.toList != (a0.extract 0 ((ji47) : Int).toNat).toList) = false := bne_eq_false_iff_eq.mpr c50
                                clear c50
                                obtain ⟨ji51, hji51⟩ : ∃ j_ : Int, (wrap64 ((a0.size : Int) - t262)) = j_ := ⟨_, rfl⟩
                                replace H : (if 0 ≤ (ji51) then (if (ji51) ≤ (ji43) then (some (a0.extract ((ji51) : Int).toNat ((ji43) : Int).toNat, ji47, 0)) else (none)) else (none)) = some (r1, r2, r3) := by first | (rw [hji51] at H; exact H) | (simp only [hji51] at H ⊢; exact H)
                                (try rw [hji51] at A33)
                                (try rw [hji51] at A46)
                                have hji51w : (IntKind.i64.wrap ((a0.size : Int) - t262)) = ji51 := (i64_w _).trans hji51
                                by_cases c52 : 0 ≤ (ji51)
                                · rw [if_pos c52] at H
                                  have c52b0 := eq_true c52
                                  have c52b1 : decide (0 ≤ (ji51)) = true := decide_eq_true c52
                                  clear c52
                                  by_cases c53 : (ji51) ≤ (ji43)
                                  · rw [if_pos c53] at H
                                    have c53b0 := eq_true c53
                                    have c53b1 : decide ((ji51) ≤ (ji43)) = true := decide_eq_true c53
                                    clear c53
                                    have c54b0 := eq_true (of_decide_eq_true (by first | (with_reducible assumption) | assumption) : (ji43) ≤ (a0.size : Int))
                                    simp only [Option.some.injEq, Prod.mk.injEq] at H
                                    obtain ⟨rfl, rfl, rfl⟩ := H
                                    try go_wp2
                                    have n0_ := Aside0.mk (IsS192.drew HI257.out)
                                    have n1_ := Aside0.mk (below_drew1 HB.out)
                                    clear HI257
                                    clear HB
                                    have HI257 := n0_
                                    have HB := n1_
                                    clear n0_ n1_
                                    refine start_ (n := 26) (S := fun w' => True) (ds := []) #[false, false, false, false, false, false, false, false, false, false, false, false, false, false, false, false, false, false, false, false, false, false, false, false, false, false] (by kernel_rfl) rfl rfl trivial (fun hHeld => ?_); refine with_tabW frame_Take.tab8 frame_Take.bits8 (fun HT_ HW_ => ?_)
                                    generalize wc.drew = w55 at HI257 HB hHeld ⊢
                                    refine pure_ (i := 0) (N := some 54) (v := ?_) (a' := ?_) #[true, false, false, false, false, false, false, false, false, false, false, false, false, false, false, false, false, false, false, false, false, false, false, false, false, false] rfl rfl (any_of HT_.out (by kernel_rfl)) (fun _ _ _ h => h) (Or.inl ⟨by rfl, ?_⟩) ?_ ?_
                                    rotate_left
                                    · intro w'
                                      go_simp
                                      first | with_reducible rfl | (rw [show wrap64 (ji51 + t258) = ji43 from by rw [← hji51]; exact hji43, hji47]; rw [if_pos ⟨of_eq_true c48b0, of_eq_true c49b0⟩]) | (rw [show wrap64 (ji51 + t258) = ji43 from by rw [← hji51]; exact hji43]; rw [if_pos ⟨of_eq_true c44b0, of_eq_true c45b0⟩])
                                    rotate_left
                                    · simp only [Act.put, List.setIfInBounds_toArray, List.set_cons_zero, List.set_cons_succ, i64_w, i32_w]
                                      rfl
                                    refine one_ (i := 1) (N := some 55) #[true, true, false, false, false, false, false, false, false, false, false, false, false, false, false, false, false, false, false, false, false, false, false, false, false, false] rfl rfl (one_of HT_.out (by kernel_rfl)) (by decide) (fun K hK => ?_)
                                    refine goes_ Tryz.func111 (by kernel_rfl) rfl #[.pointer (some ⟨g257, 0, none⟩)] (by rfl) rfl rfl (by (try simp only [List.map_toArray, List.map_cons, List.map_nil]); first | done | rfl | (simp only [List.length_drop, List.length_take]; rfl)) ?_
                                    with_reducible refine (varint_Reader_Bad.calls g257 x258000_20 x258001_20 x258002_20 false t279 t280 t281 w _ ?side1 ?side2 A33.out).mono ?_
                                    (case side1 => repeat (first | (with_reducible first | exact HI257.out | apply IsS192.alloc | apply IsS192.drewN | apply IsS192.drew | apply IsS192.set_0 | apply IsS192.set_1 | apply IsS192.set_2) | exact HI257.out))
                                    (case side2 => repeat (first | (with_reducible first | exact HB.out | apply below_alloc | apply pw_below_drewN | apply below_drew1 | refine below_set ?_ (IsS192.ge HI257.out)) | exact HB.out))
                                    rintro e w56 ⟨rfl, hi, hb, hk⟩
                                    refine ⟨_, rfl, ?_⟩
                                    have n0_ := Aside0.mk (hb)
                                    have n1_ := Aside0.mk (hi)
                                    clear HB
                                    clear HI257
                                    have HB := n0_
                                    have HI257 := n1_
                                    clear n0_ n1_
                                    (try clear hb)
                                    (try clear hb2)
                                    (try clear hk)
                                    (try clear hi)
                                    refine hK.out _ _ trivial (fun hHeld => ?_)
                                    clear hK K
                                    refine norm_ (a' := ?_) ?_ ?_
                                    rotate_left
                                    · show Act.put _ (some 55) _ = _
                                      simp only [Act.put, List.setIfInBounds_toArray, List.set_cons_zero, List.set_cons_succ, i64_w, i32_w]
                                      rfl
                                    refine pure_ (i := 2) (N := some 56) (v := ?_) (a' := ?_) #[true, true, true, false, false, false, false, false, false, false, false, false, false, false, false, false, false, false, false, false, false, false, false, false, false, false] rfl rfl (any_of HT_.out (by kernel_rfl)) (fun _ _ _ h => h) (Or.inl ⟨by rfl, ?_⟩) ?_ ?_
                                    rotate_left
                                    · intro w'
                                      go_simp
                                      first | with_reducible rfl | (rw [show wrap64 (ji51 + t258) = ji43 from by rw [← hji51]; exact hji43, hji47]; rw [if_pos ⟨of_eq_true c48b0, of_eq_true c49b0⟩]) | (rw [show wrap64 (ji51 + t258) = ji43 from by rw [← hji51]; exact hji43]; rw [if_pos ⟨of_eq_true c44b0, of_eq_true c45b0⟩])
                                    rotate_left
                                    · simp only [Act.put, List.setIfInBounds_toArray, List.set_cons_zero, List.set_cons_succ, i64_w, i32_w]
                                      rfl
                                    refine pure_ (i := 3) (N := some 57) (v := ?_) (a' := ?_) #[true, true, true, true, false, false, false, false, false, false, false, false, false, false, false, false, false, false, false, false, false, false, false, false, false, false] rfl rfl (any_of HT_.out (by kernel_rfl)) (fun _ _ _ h => h) (Or.inl ⟨by rfl, ?_⟩) ?_ ?_
                                    rotate_left
                                    · intro w'
                                      go_simp
                                      first | with_reducible rfl | (rw [show wrap64 (ji51 + t258) = ji43 from by rw [← hji51]; exact hji43, hji47]; rw [if_pos ⟨of_eq_true c48b0, of_eq_true c49b0⟩]) | (rw [show wrap64 (ji51 + t258) = ji43 from by rw [← hji51]; exact hji43]; rw [if_pos ⟨of_eq_true c44b0, of_eq_true c45b0⟩])
                                    rotate_left
                                    · simp only [Act.put, List.setIfInBounds_toArray, List.set_cons_zero, List.set_cons_succ, i64_w, i32_w]
                                      rfl
                                    refine pure_ (i := 4) (N := some 58) (v := ?_) (a' := ?_) #[true, true, true, true, true, false, false, false, false, false, false, false, false, false, false, false, false, false, false, false, false, false, false, false, false, false] rfl rfl (any_of HT_.out (by kernel_rfl)) (fun _ _ _ h => h) (Or.inl ⟨by rfl, ?_⟩) ?_ ?_
                                    rotate_left
                                    · intro w'
                                      go_simp
                                      first | with_reducible rfl | (rw [show wrap64 (ji51 + t258) = ji43 from by rw [← hji51]; exact hji43, hji47]; rw [if_pos ⟨of_eq_true c48b0, of_eq_true c49b0⟩]) | (rw [show wrap64 (ji51 + t258) = ji43 from by rw [← hji51]; exact hji43]; rw [if_pos ⟨of_eq_true c44b0, of_eq_true c45b0⟩])
                                    rotate_left
                                    · simp only [Act.put, List.setIfInBounds_toArray, List.set_cons_zero, List.set_cons_succ, i64_w, i32_w]
                                      rfl
                                    refine pure_ (i := 5) (N := some 59) (v := ?_) (a' := ?_) #[true, true, true, true, true, true, false, false, false, false, false, false, false, false, false, false, false, false, false, false, false, false, false, false, false, false] rfl rfl (any_of HT_.out (by kernel_rfl)) (fun _ _ _ h => h) (Or.inl ⟨by rfl, ?_⟩) ?_ ?_
                                    rotate_left
                                    · intro w'
                                      go_simp
                                      first | with_reducible rfl | (rw [show wrap64 (ji51 + t258) = ji43 from by rw [← hji51]; exact hji43, hji47]; rw [if_pos ⟨of_eq_true c48b0, of_eq_true c49b0⟩]) | (rw [show wrap64 (ji51 + t258) = ji43 from by rw [← hji51]; exact hji43]; rw [if_pos ⟨of_eq_true c44b0, of_eq_true c45b0⟩])
                                    rotate_left
                                    · simp only [Act.put, List.setIfInBounds_toArray, List.set_cons_zero, List.set_cons_succ, i64_w, i32_w]
                                      rfl
                                    refine pure_ (i := 6) (N := some 60) (v := ?_) (a' := ?_) #[true, true, true, true, true, true, true, false, false, false, false, false, false, false, false, false, false, false, false, false, false, false, false, false, false, false] rfl rfl (any_of HT_.out (by kernel_rfl)) (fun _ _ _ h => h) (Or.inl ⟨by rfl, ?_⟩) ?_ ?_
                                    rotate_left
                                    · intro w'
                                      go_simp
                                      first | with_reducible rfl | (rw [show wrap64 (ji51 + t258) = ji43 from by rw [← hji51]; exact hji43, hji47]; rw [if_pos ⟨of_eq_true c48b0, of_eq_true c49b0⟩]) | (rw [show wrap64 (ji51 + t258) = ji43 from by rw [← hji51]; exact hji43]; rw [if_pos ⟨of_eq_true c44b0, of_eq_true c45b0⟩])
                                    rotate_left
                                    · simp only [Act.put, List.setIfInBounds_toArray, List.set_cons_zero, List.set_cons_succ, i64_w, i32_w]
                                      rfl
                                    refine pure_ (i := 7) (N := some 61) (v := ?_) (a' := ?_) #[true, true, true, true, true, true, true, true, false, false, false, false, false, false, false, false, false, false, false, false, false, false, false, false, false, false] rfl rfl (any_of HT_.out (by kernel_rfl)) (fun _ _ _ h => h) (Or.inl ⟨by rfl, ?_⟩) ?_ ?_
                                    rotate_left
                                    · intro w'
                                      go_simp
                                      first | with_reducible rfl | (rw [show wrap64 (ji51 + t258) = ji43 from by rw [← hji51]; exact hji43, hji47]; rw [if_pos ⟨of_eq_true c48b0, of_eq_true c49b0⟩]) | (rw [show wrap64 (ji51 + t258) = ji43 from by rw [← hji51]; exact hji43]; rw [if_pos ⟨of_eq_true c44b0, of_eq_true c45b0⟩])
                                    rotate_left
                                    · simp only [Act.put, List.setIfInBounds_toArray, List.set_cons_zero, List.set_cons_succ, i64_w, i32_w]
                                      rfl
                                    refine pure_ (i := 8) (N := some 62) (v := ?_) (a' := ?_) #[true, true, true, true, true, true, true, true, true, false, false, false, false, false, false, false, false, false, false, false, false, false, false, false, false, false] rfl rfl (any_of HT_.out (by kernel_rfl)) (fun _ _ _ h => h) (Or.inl ⟨by rfl, ?_⟩) ?_ ?_
                                    rotate_left
                                    · intro w'
                                      go_simp
                                      first | with_reducible rfl | (rw [show wrap64 (ji51 + t258) = ji43 from by rw [← hji51]; exact hji43, hji47]; rw [if_pos ⟨of_eq_true c48b0, of_eq_true c49b0⟩]) | (rw [show wrap64 (ji51 + t258) = ji43 from by rw [← hji51]; exact hji43]; rw [if_pos ⟨of_eq_true c44b0, of_eq_true c45b0⟩])
                                    rotate_left
                                    · simp only [Act.put, List.setIfInBounds_toArray, List.set_cons_zero, List.set_cons_succ, i64_w, i32_w]
                                      rfl
                                    refine pure_ (i := 9) (N := some 63) (v := ?_) (a' := ?_) #[true, true, true, true, true, true, true, true, true, true, false, false, false, false, false, false, false, false, false, false, false, false, false, false, false, false] rfl rfl (any_of HT_.out (by kernel_rfl)) (fun _ _ _ h => h) (Or.inl ⟨by rfl, ?_⟩) ?_ ?_
                                    rotate_left
                                    · intro w'
                                      go_simp
                                      first | with_reducible rfl | (rw [show wrap64 (ji51 + t258) = ji43 from by rw [← hji51]; exact hji43, hji47]; rw [if_pos ⟨of_eq_true c48b0, of_eq_true c49b0⟩]) | (rw [show wrap64 (ji51 + t258) = ji43 from by rw [← hji51]; exact hji43]; rw [if_pos ⟨of_eq_true c44b0, of_eq_true c45b0⟩])
                                    rotate_left
                                    · simp only [Act.put, List.setIfInBounds_toArray, List.set_cons_zero, List.set_cons_succ, i64_w, i32_w]
                                      rfl
                                    refine pure_ (i := 10) (N := some 64) (v := ?_) (a' := ?_) #[true, true, true, true, true, true, true, true, true, true, true, false, false, false, false, false, false, false, false, false, false, false, false, false, false, false] rfl rfl (any_of HT_.out (by kernel_rfl)) (fun _ _ _ h => h) (Or.inl ⟨by rfl, ?_⟩) ?_ ?_
                                    rotate_left
                                    · intro w'
                                      go_simp
                                      first | with_reducible rfl | (rw [show wrap64 (ji51 + t258) = ji43 from by rw [← hji51]; exact hji43, hji47]; rw [if_pos ⟨of_eq_true c48b0, of_eq_true c49b0⟩]) | (rw [show wrap64 (ji51 + t258) = ji43 from by rw [← hji51]; exact hji43]; rw [if_pos ⟨of_eq_true c44b0, of_eq_true c45b0⟩])
                                    rotate_left
                                    · simp only [Act.put, List.setIfInBounds_toArray, List.set_cons_zero, List.set_cons_succ, i64_w, i32_w]
                                      rfl
                                    refine pure_ (i := 11) (N := some 65) (v := ?_) (a' := ?_) #[true, true, true, true, true, true, true, true, true, true, true, true, false, false, false, false, false, false, false, false, false, false, false, false, false, false] rfl rfl (any_of HT_.out (by kernel_rfl)) (fun _ _ _ h => h) (Or.inl ⟨by rfl, ?_⟩) ?_ ?_
                                    rotate_left
                                    · intro w'
                                      go_simp
                                      first | with_reducible rfl | (rw [show wrap64 (ji51 + t258) = ji43 from by rw [← hji51]; exact hji43, hji47]; rw [if_pos ⟨of_eq_true c48b0, of_eq_true c49b0⟩]) | (rw [show wrap64 (ji51 + t258) = ji43 from by rw [← hji51]; exact hji43]; rw [if_pos ⟨of_eq_true c44b0, of_eq_true c45b0⟩])
                                    rotate_left
                                    · simp only [Act.put, List.setIfInBounds_toArray, List.set_cons_zero, List.set_cons_succ, i64_w, i32_w]
                                      rfl
                                    refine pure_ (i := 12) (N := some 66) (v := ?_) (a' := ?_) #[true, true, true, true, true, true, true, true, true, true, true, true, true, false, false, false, false, false, false, false, false, false, false, false, false, false] rfl rfl (any_of HT_.out (by kernel_rfl)) (fun _ _ _ h => h) (Or.inl ⟨by rfl, ?_⟩) ?_ ?_
                                    rotate_left
                                    · intro w'
                                      go_simp
                                      first | with_reducible rfl | (rw [show wrap64 (ji51 + t258) = ji43 from by rw [← hji51]; exact hji43, hji47]; rw [if_pos ⟨of_eq_true c48b0, of_eq_true c49b0⟩]) | (rw [show wrap64 (ji51 + t258) = ji43 from by rw [← hji51]; exact hji43]; rw [if_pos ⟨of_eq_true c44b0, of_eq_true c45b0⟩])
                                    rotate_left
                                    · simp only [Act.put, List.setIfInBounds_toArray, List.set_cons_zero, List.set_cons_succ, i64_w, i32_w]
                                      rfl
                                    refine pure_ (i := 13) (N := some 67) (v := ?_) (a' := ?_) #[true, true, true, true, true, true, true, true, true, true, true, true, true, true, false, false, false, false, false, false, false, false, false, false, false, false] rfl rfl (any_of HT_.out (by kernel_rfl)) (fun _ _ _ h => h) (Or.inl ⟨by rfl, ?_⟩) ?_ ?_
                                    rotate_left
                                    · intro w'
                                      go_simp
                                      first | with_reducible rfl | (rw [show wrap64 (ji51 + t258) = ji43 from by rw [← hji51]; exact hji43, hji47]; rw [if_pos ⟨of_eq_true c48b0, of_eq_true c49b0⟩]) | (rw [show wrap64 (ji51 + t258) = ji43 from by rw [← hji51]; exact hji43]; rw [if_pos ⟨of_eq_true c44b0, of_eq_true c45b0⟩])
                                    rotate_left
                                    · simp only [Act.put, List.setIfInBounds_toArray, List.set_cons_zero, List.set_cons_succ, i64_w, i32_w]
                                      rfl
                                    refine pure_ (i := 14) (N := some 68) (v := ?_) (a' := ?_) #[true, true, true, true, true, true, true, true, true, true, true, true, true, true, true, false, false, false, false, false, false, false, false, false, false, false] rfl rfl (any_of HT_.out (by kernel_rfl)) (fun _ _ _ h => h) (Or.inl ⟨by rfl, ?_⟩) ?_ ?_
                                    rotate_left
                                    · intro w'
                                      go_simp
                                      first | with_reducible rfl | (rw [show wrap64 (ji51 + t258) = ji43 from by rw [← hji51]; exact hji43, hji47]; rw [if_pos ⟨of_eq_true c48b0, of_eq_true c49b0⟩]) | (rw [show wrap64 (ji51 + t258) = ji43 from by rw [← hji51]; exact hji43]; rw [if_pos ⟨of_eq_true c44b0, of_eq_true c45b0⟩])
                                    rotate_left
                                    · simp only [Act.put, List.setIfInBounds_toArray, List.set_cons_zero, List.set_cons_succ, i64_w, i32_w]
                                      rfl
                                    refine pure_ (i := 15) (N := some 69) (v := ?_) (a' := ?_) #[true, true, true, true, true, true, true, true, true, true, true, true, true, true, true, true, false, false, false, false, false, false, false, false, false, false] rfl rfl (any_of HT_.out (by kernel_rfl)) (fun _ _ _ h => h) (Or.inl ⟨by rfl, ?_⟩) ?_ ?_
                                    rotate_left
                                    · intro w'
                                      go_simp
                                      first | with_reducible rfl | (rw [show wrap64 (ji51 + t258) = ji43 from by rw [← hji51]; exact hji43, hji47]; rw [if_pos ⟨of_eq_true c48b0, of_eq_true c49b0⟩]) | (rw [show wrap64 (ji51 + t258) = ji43 from by rw [← hji51]; exact hji43]; rw [if_pos ⟨of_eq_true c44b0, of_eq_true c45b0⟩])
                                    rotate_left
                                    · simp only [Act.put, List.setIfInBounds_toArray, List.set_cons_zero, List.set_cons_succ, i64_w, i32_w]
                                      rfl
                                    refine pure_ (i := 17) (N := some 71) (v := ?_) (a' := ?_) #[true, true, true, true, true, true, true, true, true, true, true, true, true, true, true, true, false, true, false, false, false, false, false, false, false, false] rfl rfl (any_of HT_.out (by kernel_rfl)) (fun _ _ _ h => h) (Or.inl ⟨by rfl, ?_⟩) ?_ ?_
                                    rotate_left
                                    · intro w'
                                      go_simp
                                      first | with_reducible rfl | (rw [show wrap64 (ji51 + t258) = ji43 from by rw [← hji51]; exact hji43, hji47]; rw [if_pos ⟨of_eq_true c48b0, of_eq_true c49b0⟩]) | (rw [show wrap64 (ji51 + t258) = ji43 from by rw [← hji51]; exact hji43]; rw [if_pos ⟨of_eq_true c44b0, of_eq_true c45b0⟩])
                                    rotate_left
                                    · simp only [Act.put, List.setIfInBounds_toArray, List.set_cons_zero, List.set_cons_succ, i64_w, i32_w]
                                      rfl
                                    refine pure_ (i := 18) (N := some 72) (v := ?_) (a' := ?_) #[true, true, true, true, true, true, true, true, true, true, true, true, true, true, true, true, false, true, true, false, false, false, false, false, false, false] rfl rfl (any_of HT_.out (by kernel_rfl)) (fun _ _ _ h => h) (Or.inl ⟨by rfl, ?_⟩) ?_ ?_
                                    rotate_left
                                    · intro w'
                                      go_simp
                                      first | with_reducible rfl | (rw [show wrap64 (ji51 + t258) = ji43 from by rw [← hji51]; exact hji43, hji47]; rw [if_pos ⟨of_eq_true c48b0, of_eq_true c49b0⟩]) | (rw [show wrap64 (ji51 + t258) = ji43 from by rw [← hji51]; exact hji43]; rw [if_pos ⟨of_eq_true c44b0, of_eq_true c45b0⟩])
                                    rotate_left
                                    · simp only [Act.put, List.setIfInBounds_toArray, List.set_cons_zero, List.set_cons_succ, i64_w, i32_w]
                                      rfl
                                    refine pure_ (i := 19) (N := some 73) (v := ?_) (a' := ?_) #[true, true, true, true, true, true, true, true, true, true, true, true, true, true, true, true, false, true, true, true, false, false, false, false, false, false] rfl rfl (any_of HT_.out (by kernel_rfl)) (fun _ _ _ h => h) (Or.inl ⟨by rfl, ?_⟩) ?_ ?_
                                    rotate_left
                                    · intro w'
                                      go_simp
                                      first | with_reducible rfl | (rw [show wrap64 (ji51 + t258) = ji43 from by rw [← hji51]; exact hji43, hji47]; rw [if_pos ⟨of_eq_true c48b0, of_eq_true c49b0⟩]) | (rw [show wrap64 (ji51 + t258) = ji43 from by rw [← hji51]; exact hji43]; rw [if_pos ⟨of_eq_true c44b0, of_eq_true c45b0⟩])
                                    rotate_left
                                    · simp only [Act.put, List.setIfInBounds_toArray, List.set_cons_zero, List.set_cons_succ, i64_w, i32_w]
                                      rfl
                                    refine pure_ (i := 20) (N := some 74) (v := ?_) (a' := ?_) #[true, true, true, true, true, true, true, true, true, true, true, true, true, true, true, true, false, true, true, true, true, false, false, false, false, false] rfl rfl (any_of HT_.out (by kernel_rfl)) (fun _ _ _ h => h) (Or.inl ⟨by rfl, ?_⟩) ?_ ?_
                                    rotate_left
                                    · intro w'
                                      go_simp
                                      first | with_reducible rfl | (rw [show wrap64 (ji51 + t258) = ji43 from by rw [← hji51]; exact hji43, hji47]; rw [if_pos ⟨of_eq_true c48b0, of_eq_true c49b0⟩]) | (rw [show wrap64 (ji51 + t258) = ji43 from by rw [← hji51]; exact hji43]; rw [if_pos ⟨of_eq_true c44b0, of_eq_true c45b0⟩])
                                    rotate_left
                                    · simp only [Act.put, List.setIfInBounds_toArray, List.set_cons_zero, List.set_cons_succ, i64_w, i32_w]
                                      rfl
                                    refine pure_ (i := 21) (N := some 75) (v := ?_) (a' := ?_) #[true, true, true, true, true, true, true, true, true, true, true, true, true, true, true, true, false, true, true, true, true, true, false, false, false, false] rfl rfl (any_of HT_.out (by kernel_rfl)) (fun _ _ _ h => h) (Or.inl ⟨by rfl, ?_⟩) ?_ ?_
                                    rotate_left
                                    · intro w'
                                      go_simp
                                      first | with_reducible rfl | (rw [show wrap64 (ji51 + t258) = ji43 from by rw [← hji51]; exact hji43, hji47]; rw [if_pos ⟨of_eq_true c48b0, of_eq_true c49b0⟩]) | (rw [show wrap64 (ji51 + t258) = ji43 from by rw [← hji51]; exact hji43]; rw [if_pos ⟨of_eq_true c44b0, of_eq_true c45b0⟩])
                                    rotate_left
                                    · simp only [Act.put, List.setIfInBounds_toArray, List.set_cons_zero, List.set_cons_succ, i64_w, i32_w]
                                      rfl
                                    refine pure_ (i := 22) (N := some 76) (v := ?_) (a' := ?_) #[true, true, true, true, true, true, true, true, true, true, true, true, true, true, true, true, false, true, true, true, true, true, true, false, false, false] rfl rfl (any_of HT_.out (by kernel_rfl)) (fun _ _ _ h => h) (Or.inl ⟨by rfl, ?_⟩) ?_ ?_
                                    rotate_left
                                    · intro w'
                                      go_simp
                                      first | with_reducible rfl | (rw [show wrap64 (ji51 + t258) = ji43 from by rw [← hji51]; exact hji43, hji47]; rw [if_pos ⟨of_eq_true c48b0, of_eq_true c49b0⟩]) | (rw [show wrap64 (ji51 + t258) = ji43 from by rw [← hji51]; exact hji43]; rw [if_pos ⟨of_eq_true c44b0, of_eq_true c45b0⟩])
                                    rotate_left
                                    · simp only [Act.put, List.setIfInBounds_toArray, List.set_cons_zero, List.set_cons_succ, i64_w, i32_w]
                                      rfl
                                    refine one_ (i := 16) (N := some 70) #[true, true, true, true, true, true, true, true, true, true, true, true, true, true, true, true, true, true, true, true, true, true, true, false, false, false] rfl rfl (one_of HT_.out (by kernel_rfl)) (by decide) (fun K hK => ?_)
                                    refine goes_ Tryz.func94 (by kernel_rfl) rfl #[.string (a0.extract 0 ((ji43) : Int).toNat)] (by rfl) rfl rfl (by (try simp only [List.map_toArray, List.map_cons, List.map_nil]); first | done | (simp only [hji43]; rfl) | rfl | (simp only [List.length_drop, List.length_take]; rfl)) ?_
                                    with_reducible refine (frame_sealed.calls kj20 (a0.extract 0 ((ji43) : Int).toNat) t282 _ A46.out).mono ?_
                                    rintro e w57 ⟨rfl, hb⟩
                                    refine ⟨_, rfl, ?_⟩
                                    have n0_ := Aside0.mk (IsS192.below (by repeat (first | (with_reducible first | exact HI257.out | apply IsS192.alloc | apply IsS192.drewN | apply IsS192.drew | apply IsS192.set_0 | apply IsS192.set_1 | apply IsS192.set_2) | exact HI257.out)) hb)
                                    have n1_ := Aside0.mk (below_step (by repeat (first | (with_reducible first | exact HB.out | apply below_alloc | apply pw_below_drewN | apply below_drew1 | refine below_set ?_ (IsS192.ge HI257.out)) | exact HB.out)) hb)
                                    clear HI257
                                    clear HB
                                    have HI257 := n0_
                                    have HB := n1_
                                    clear n0_ n1_
                                    (try clear hb)
                                    (try clear hb2)
                                    (try clear hk)
                                    (try clear hi)
                                    refine hK.out _ _ trivial (fun hHeld => ?_)
                                    clear hK K
                                    refine norm_ (a' := ?_) ?_ ?_
                                    rotate_left
                                    · show Act.put _ (some 70) _ = _
                                      simp only [Act.put, List.setIfInBounds_toArray, List.set_cons_zero, List.set_cons_succ, i64_w, i32_w]
                                      rfl
                                    refine pure_ (i := 23) (N := some 77) (v := ?_) (a' := ?_) #[true, true, true, true, true, true, true, true, true, true, true, true, true, true, true, true, true, true, true, true, true, true, true, true, false, false] rfl rfl (any_of HT_.out (by kernel_rfl)) (fun _ _ _ h => h) (Or.inl ⟨by rfl, ?_⟩) ?_ ?_
                                    rotate_left
                                    · intro w'
                                      go_simp
                                      first | with_reducible rfl | (rw [show wrap64 (ji51 + t258) = ji43 from by rw [← hji51]; exact hji43, hji47]; rw [if_pos ⟨of_eq_true c48b0, of_eq_true c49b0⟩]) | (rw [show wrap64 (ji51 + t258) = ji43 from by rw [← hji51]; exact hji43]; rw [if_pos ⟨of_eq_true c44b0, of_eq_true c45b0⟩])
                                    rotate_left
                                    · simp only [Act.put, List.setIfInBounds_toArray, List.set_cons_zero, List.set_cons_succ, i64_w, i32_w]
                                      rfl
                                    refine pure_ (i := 24) (N := some 78) (v := ?_) (a' := ?_) #[true, true, true, true, true, true, true, true, true, true, true, true, true, true, true, true, true, true, true, true, true, true, true, true, true, false] rfl rfl (any_of HT_.out (by kernel_rfl)) (fun _ _ _ h => h) (Or.inl ⟨by rfl, ?_⟩) ?_ ?_
                                    rotate_left
                                    · intro w'
                                      go_simp
                                      first | with_reducible rfl | (rw [show wrap64 (ji51 + t258) = ji43 from by rw [← hji51]; exact hji43, hji47]; rw [if_pos ⟨of_eq_true c48b0, of_eq_true c49b0⟩]) | (rw [show wrap64 (ji51 + t258) = ji43 from by rw [← hji51]; exact hji43]; rw [if_pos ⟨of_eq_true c44b0, of_eq_true c45b0⟩])
                                    rotate_left
                                    · simp only [Act.put, List.setIfInBounds_toArray, List.set_cons_zero, List.set_cons_succ, i64_w, i32_w]
                                      rfl
                                    refine pure_ (i := 25) (N := some 53) (v := ?_) (a' := ?_) #[true, true, true, true, true, true, true, true, true, true, true, true, true, true, true, true, true, true, true, true, true, true, true, true, true, true] rfl rfl (any_of HT_.out (by kernel_rfl)) (fun _ _ _ h => h) (Or.inl ⟨by rfl, ?_⟩) ?_ ?_
                                    rotate_left
                                    · intro w'
                                      go_simp
                                      first | with_reducible rfl | (rw [show wrap64 (ji51 + t258) = ji43 from by rw [← hji51]; exact hji43, hji47]; rw [if_pos ⟨of_eq_true c48b0, of_eq_true c49b0⟩]) | (rw [show wrap64 (ji51 + t258) = ji43 from by rw [← hji51]; exact hji43]; rw [if_pos ⟨of_eq_true c44b0, of_eq_true c45b0⟩])
                                    rotate_left
                                    · simp only [Act.put, List.setIfInBounds_toArray, List.set_cons_zero, List.set_cons_succ, i64_w, i32_w]
                                      rfl
                                    have hfx1 : wrap64 (ji51 + t258) = ji43 := by rw [← hji51]; exact hji43
                                    have hfx2 : IntKind.i64.wrap (ji51 + t258) = ji43 := by rw [← hji51]; exact hji43w
                                    refine done_ (done_of HT_.out (by kernel_rfl)) ?_
                                    try go_wp2
                                    go_ret3
                                    exact ⟨by first | rfl | (simp [errW_none, errW_some] <;> rfl) | (simp only [← hji43, ← hji47, ← hji51]; first | rfl | (simp [errW_none, errW_some] <;> rfl)) | (simp [*, errW_none, errW_some] <;> rfl), by repeat (first | (with_reducible first | exact HB.out | apply below_alloc | apply pw_below_drewN | apply below_drew1 | refine below_set ?_ (IsS192.ge HI257.out)) | exact HB.out)⟩
                                  · rw [if_neg c53] at H
                                    exact absurd H (by simp)
                                · rw [if_neg c52] at H
                                  exact absurd H (by simp)
                              · rw [if_neg c50] at H
                                have c50b0 : (t282.toList == (a0.extract 0 ((ji47) : Int).toNat).toList) = false := beq_eq_false_iff_ne.mpr c50
                                have c50b1 : (t282.toList != (a0.extract 0 ((ji47) : Int).toNat).toList) = true := bne_iff_ne.mpr c50
                                simp only [Option.some.injEq, Prod.mk.injEq] at H
                                obtain ⟨rfl, rfl, rfl⟩ := H
                                try go_wp2
                                have n0_ := Aside0.mk (IsS192.drew HI257.out)
                                have n1_ := Aside0.mk (below_drew1 HB.out)
                                clear HI257
                                clear HB
                                have HI257 := n0_
                                have HB := n1_
                                clear n0_ n1_
                                refine start_ (n := 26) (S := fun w' => True) (ds := []) #[false, false, false, false, false, false, false, false, false, false, false, false, false, false, false, false, false, false, false, false, false, false, false, false, false, false] (by kernel_rfl) rfl rfl trivial (fun hHeld => ?_); refine with_tabW frame_Take.tab8 frame_Take.bits8 (fun HT_ HW_ => ?_)
                                generalize wc.drew = w58 at HI257 HB hHeld ⊢
                                refine pure_ (i := 0) (N := some 54) (v := ?_) (a' := ?_) #[true, false, false, false, false, false, false, false, false, false, false, false, false, false, false, false, false, false, false, false, false, false, false, false, false, false] rfl rfl (any_of HT_.out (by kernel_rfl)) (fun _ _ _ h => h) (Or.inl ⟨by rfl, ?_⟩) ?_ ?_
                                rotate_left
                                · intro w'
                                  go_simp
                                  first | with_reducible rfl | (rw [show wrap64 (ji51 + t258) = ji43 from by rw [← hji51]; exact hji43, hji47]; rw [if_pos ⟨of_eq_true c48b0, of_eq_true c49b0⟩]) | (rw [show wrap64 (ji51 + t258) = ji43 from by rw [← hji51]; exact hji43]; rw [if_pos ⟨of_eq_true c44b0, of_eq_true c45b0⟩])
                                rotate_left
                                · simp only [Act.put, List.setIfInBounds_toArray, List.set_cons_zero, List.set_cons_succ, i64_w, i32_w]
                                  rfl
                                refine one_ (i := 1) (N := some 55) #[true, true, false, false, false, false, false, false, false, false, false, false, false, false, false, false, false, false, false, false, false, false, false, false, false, false] rfl rfl (one_of HT_.out (by kernel_rfl)) (by decide) (fun K hK => ?_)
                                refine goes_ Tryz.func111 (by kernel_rfl) rfl #[.pointer (some ⟨g257, 0, none⟩)] (by rfl) rfl rfl (by (try simp only [List.map_toArray, List.map_cons, List.map_nil]); first | done | rfl | (simp only [List.length_drop, List.length_take]; rfl)) ?_
                                with_reducible refine (varint_Reader_Bad.calls g257 x258000_20 x258001_20 x258002_20 false t279 t280 t281 w _ ?side1 ?side2 A33.out).mono ?_
                                (case side1 => repeat (first | (with_reducible first | exact HI257.out | apply IsS192.alloc | apply IsS192.drewN | apply IsS192.drew | apply IsS192.set_0 | apply IsS192.set_1 | apply IsS192.set_2) | exact HI257.out))
                                (case side2 => repeat (first | (with_reducible first | exact HB.out | apply below_alloc | apply pw_below_drewN | apply below_drew1 | refine below_set ?_ (IsS192.ge HI257.out)) | exact HB.out))
                                rintro e w59 ⟨rfl, hi, hb, hk⟩
                                refine ⟨_, rfl, ?_⟩
                                have n0_ := Aside0.mk (hb)
                                have n1_ := Aside0.mk (hi)
                                clear HB
                                clear HI257
                                have HB := n0_
                                have HI257 := n1_
                                clear n0_ n1_
                                (try clear hb)
                                (try clear hb2)
                                (try clear hk)
                                (try clear hi)
                                refine hK.out _ _ trivial (fun hHeld => ?_)
                                clear hK K
                                refine norm_ (a' := ?_) ?_ ?_
                                rotate_left
                                · show Act.put _ (some 55) _ = _
                                  simp only [Act.put, List.setIfInBounds_toArray, List.set_cons_zero, List.set_cons_succ, i64_w, i32_w]
                                  rfl
                                refine pure_ (i := 2) (N := some 56) (v := ?_) (a' := ?_) #[true, true, true, false, false, false, false, false, false, false, false, false, false, false, false, false, false, false, false, false, false, false, false, false, false, false] rfl rfl (any_of HT_.out (by kernel_rfl)) (fun _ _ _ h => h) (Or.inl ⟨by rfl, ?_⟩) ?_ ?_
                                rotate_left
                                · intro w'
                                  go_simp
                                  first | with_reducible rfl | (rw [show wrap64 (ji51 + t258) = ji43 from by rw [← hji51]; exact hji43, hji47]; rw [if_pos ⟨of_eq_true c48b0, of_eq_true c49b0⟩]) | (rw [show wrap64 (ji51 + t258) = ji43 from by rw [← hji51]; exact hji43]; rw [if_pos ⟨of_eq_true c44b0, of_eq_true c45b0⟩])
                                rotate_left
                                · simp only [Act.put, List.setIfInBounds_toArray, List.set_cons_zero, List.set_cons_succ, i64_w, i32_w]
                                  rfl
                                refine pure_ (i := 3) (N := some 57) (v := ?_) (a' := ?_) #[true, true, true, true, false, false, false, false, false, false, false, false, false, false, false, false, false, false, false, false, false, false, false, false, false, false] rfl rfl (any_of HT_.out (by kernel_rfl)) (fun _ _ _ h => h) (Or.inl ⟨by rfl, ?_⟩) ?_ ?_
                                rotate_left
                                · intro w'
                                  go_simp
                                  first | with_reducible rfl | (rw [show wrap64 (ji51 + t258) = ji43 from by rw [← hji51]; exact hji43, hji47]; rw [if_pos ⟨of_eq_true c48b0, of_eq_true c49b0⟩]) | (rw [show wrap64 (ji51 + t258) = ji43 from by rw [← hji51]; exact hji43]; rw [if_pos ⟨of_eq_true c44b0, of_eq_true c45b0⟩])
                                rotate_left
                                · simp only [Act.put, List.setIfInBounds_toArray, List.set_cons_zero, List.set_cons_succ, i64_w, i32_w]
                                  rfl
                                refine pure_ (i := 4) (N := some 58) (v := ?_) (a' := ?_) #[true, true, true, true, true, false, false, false, false, false, false, false, false, false, false, false, false, false, false, false, false, false, false, false, false, false] rfl rfl (any_of HT_.out (by kernel_rfl)) (fun _ _ _ h => h) (Or.inl ⟨by rfl, ?_⟩) ?_ ?_
                                rotate_left
                                · intro w'
                                  go_simp
                                  first | with_reducible rfl | (rw [show wrap64 (ji51 + t258) = ji43 from by rw [← hji51]; exact hji43, hji47]; rw [if_pos ⟨of_eq_true c48b0, of_eq_true c49b0⟩]) | (rw [show wrap64 (ji51 + t258) = ji43 from by rw [← hji51]; exact hji43]; rw [if_pos ⟨of_eq_true c44b0, of_eq_true c45b0⟩])
                                rotate_left
                                · simp only [Act.put, List.setIfInBounds_toArray, List.set_cons_zero, List.set_cons_succ, i64_w, i32_w]
                                  rfl
                                refine pure_ (i := 5) (N := some 59) (v := ?_) (a' := ?_) #[true, true, true, true, true, true, false, false, false, false, false, false, false, false, false, false, false, false, false, false, false, false, false, false, false, false] rfl rfl (any_of HT_.out (by kernel_rfl)) (fun _ _ _ h => h) (Or.inl ⟨by rfl, ?_⟩) ?_ ?_
                                rotate_left
                                · intro w'
                                  go_simp
                                  first | with_reducible rfl | (rw [show wrap64 (ji51 + t258) = ji43 from by rw [← hji51]; exact hji43, hji47]; rw [if_pos ⟨of_eq_true c48b0, of_eq_true c49b0⟩]) | (rw [show wrap64 (ji51 + t258) = ji43 from by rw [← hji51]; exact hji43]; rw [if_pos ⟨of_eq_true c44b0, of_eq_true c45b0⟩])
                                rotate_left
                                · simp only [Act.put, List.setIfInBounds_toArray, List.set_cons_zero, List.set_cons_succ, i64_w, i32_w]
                                  rfl
                                refine pure_ (i := 6) (N := some 60) (v := ?_) (a' := ?_) #[true, true, true, true, true, true, true, false, false, false, false, false, false, false, false, false, false, false, false, false, false, false, false, false, false, false] rfl rfl (any_of HT_.out (by kernel_rfl)) (fun _ _ _ h => h) (Or.inl ⟨by rfl, ?_⟩) ?_ ?_
                                rotate_left
                                · intro w'
                                  go_simp
                                  first | with_reducible rfl | (rw [show wrap64 (ji51 + t258) = ji43 from by rw [← hji51]; exact hji43, hji47]; rw [if_pos ⟨of_eq_true c48b0, of_eq_true c49b0⟩]) | (rw [show wrap64 (ji51 + t258) = ji43 from by rw [← hji51]; exact hji43]; rw [if_pos ⟨of_eq_true c44b0, of_eq_true c45b0⟩])
                                rotate_left
                                · simp only [Act.put, List.setIfInBounds_toArray, List.set_cons_zero, List.set_cons_succ, i64_w, i32_w]
                                  rfl
                                refine pure_ (i := 7) (N := some 61) (v := ?_) (a' := ?_) #[true, true, true, true, true, true, true, true, false, false, false, false, false, false, false, false, false, false, false, false, false, false, false, false, false, false] rfl rfl (any_of HT_.out (by kernel_rfl)) (fun _ _ _ h => h) (Or.inl ⟨by rfl, ?_⟩) ?_ ?_
                                rotate_left
                                · intro w'
                                  go_simp
                                  first | with_reducible rfl | (rw [show wrap64 (ji51 + t258) = ji43 from by rw [← hji51]; exact hji43, hji47]; rw [if_pos ⟨of_eq_true c48b0, of_eq_true c49b0⟩]) | (rw [show wrap64 (ji51 + t258) = ji43 from by rw [← hji51]; exact hji43]; rw [if_pos ⟨of_eq_true c44b0, of_eq_true c45b0⟩])
                                rotate_left
                                · simp only [Act.put, List.setIfInBounds_toArray, List.set_cons_zero, List.set_cons_succ, i64_w, i32_w]
                                  rfl
                                refine pure_ (i := 8) (N := some 62) (v := ?_) (a' := ?_) #[true, true, true, true, true, true, true, true, true, false, false, false, false, false, false, false, false, false, false, false, false, false, false, false, false, false] rfl rfl (any_of HT_.out (by kernel_rfl)) (fun _ _ _ h => h) (Or.inl ⟨by rfl, ?_⟩) ?_ ?_
                                rotate_left
                                · intro w'
                                  go_simp
                                  first | with_reducible rfl | (rw [show wrap64 (ji51 + t258) = ji43 from by rw [← hji51]; exact hji43, hji47]; rw [if_pos ⟨of_eq_true c48b0, of_eq_true c49b0⟩]) | (rw [show wrap64 (ji51 + t258) = ji43 from by rw [← hji51]; exact hji43]; rw [if_pos ⟨of_eq_true c44b0, of_eq_true c45b0⟩])
                                rotate_left
                                · simp only [Act.put, List.setIfInBounds_toArray, List.set_cons_zero, List.set_cons_succ, i64_w, i32_w]
                                  rfl
                                refine pure_ (i := 9) (N := some 63) (v := ?_) (a' := ?_) #[true, true, true, true, true, true, true, true, true, true, false, false, false, false, false, false, false, false, false, false, false, false, false, false, false, false] rfl rfl (any_of HT_.out (by kernel_rfl)) (fun _ _ _ h => h) (Or.inl ⟨by rfl, ?_⟩) ?_ ?_
                                rotate_left
                                · intro w'
                                  go_simp
                                  first | with_reducible rfl | (rw [show wrap64 (ji51 + t258) = ji43 from by rw [← hji51]; exact hji43, hji47]; rw [if_pos ⟨of_eq_true c48b0, of_eq_true c49b0⟩]) | (rw [show wrap64 (ji51 + t258) = ji43 from by rw [← hji51]; exact hji43]; rw [if_pos ⟨of_eq_true c44b0, of_eq_true c45b0⟩])
                                rotate_left
                                · simp only [Act.put, List.setIfInBounds_toArray, List.set_cons_zero, List.set_cons_succ, i64_w, i32_w]
                                  rfl
                                refine pure_ (i := 10) (N := some 64) (v := ?_) (a' := ?_) #[true, true, true, true, true, true, true, true, true, true, true, false, false, false, false, false, false, false, false, false, false, false, false, false, false, false] rfl rfl (any_of HT_.out (by kernel_rfl)) (fun _ _ _ h => h) (Or.inl ⟨by rfl, ?_⟩) ?_ ?_
                                rotate_left
                                · intro w'
                                  go_simp
                                  first | with_reducible rfl | (rw [show wrap64 (ji51 + t258) = ji43 from by rw [← hji51]; exact hji43, hji47]; rw [if_pos ⟨of_eq_true c48b0, of_eq_true c49b0⟩]) | (rw [show wrap64 (ji51 + t258) = ji43 from by rw [← hji51]; exact hji43]; rw [if_pos ⟨of_eq_true c44b0, of_eq_true c45b0⟩])
                                rotate_left
                                · simp only [Act.put, List.setIfInBounds_toArray, List.set_cons_zero, List.set_cons_succ, i64_w, i32_w]
                                  rfl
                                refine pure_ (i := 11) (N := some 65) (v := ?_) (a' := ?_) #[true, true, true, true, true, true, true, true, true, true, true, true, false, false, false, false, false, false, false, false, false, false, false, false, false, false] rfl rfl (any_of HT_.out (by kernel_rfl)) (fun _ _ _ h => h) (Or.inl ⟨by rfl, ?_⟩) ?_ ?_
                                rotate_left
                                · intro w'
                                  go_simp
                                  first | with_reducible rfl | (rw [show wrap64 (ji51 + t258) = ji43 from by rw [← hji51]; exact hji43, hji47]; rw [if_pos ⟨of_eq_true c48b0, of_eq_true c49b0⟩]) | (rw [show wrap64 (ji51 + t258) = ji43 from by rw [← hji51]; exact hji43]; rw [if_pos ⟨of_eq_true c44b0, of_eq_true c45b0⟩])
                                rotate_left
                                · simp only [Act.put, List.setIfInBounds_toArray, List.set_cons_zero, List.set_cons_succ, i64_w, i32_w]
                                  rfl
                                refine pure_ (i := 12) (N := some 66) (v := ?_) (a' := ?_) #[true, true, true, true, true, true, true, true, true, true, true, true, true, false, false, false, false, false, false, false, false, false, false, false, false, false] rfl rfl (any_of HT_.out (by kernel_rfl)) (fun _ _ _ h => h) (Or.inl ⟨by rfl, ?_⟩) ?_ ?_
                                rotate_left
                                · intro w'
                                  go_simp
                                  first | with_reducible rfl | (rw [show wrap64 (ji51 + t258) = ji43 from by rw [← hji51]; exact hji43, hji47]; rw [if_pos ⟨of_eq_true c48b0, of_eq_true c49b0⟩]) | (rw [show wrap64 (ji51 + t258) = ji43 from by rw [← hji51]; exact hji43]; rw [if_pos ⟨of_eq_true c44b0, of_eq_true c45b0⟩])
                                rotate_left
                                · simp only [Act.put, List.setIfInBounds_toArray, List.set_cons_zero, List.set_cons_succ, i64_w, i32_w]
                                  rfl
                                refine pure_ (i := 13) (N := some 67) (v := ?_) (a' := ?_) #[true, true, true, true, true, true, true, true, true, true, true, true, true, true, false, false, false, false, false, false, false, false, false, false, false, false] rfl rfl (any_of HT_.out (by kernel_rfl)) (fun _ _ _ h => h) (Or.inl ⟨by rfl, ?_⟩) ?_ ?_
                                rotate_left
                                · intro w'
                                  go_simp
                                  first | with_reducible rfl | (rw [show wrap64 (ji51 + t258) = ji43 from by rw [← hji51]; exact hji43, hji47]; rw [if_pos ⟨of_eq_true c48b0, of_eq_true c49b0⟩]) | (rw [show wrap64 (ji51 + t258) = ji43 from by rw [← hji51]; exact hji43]; rw [if_pos ⟨of_eq_true c44b0, of_eq_true c45b0⟩])
                                rotate_left
                                · simp only [Act.put, List.setIfInBounds_toArray, List.set_cons_zero, List.set_cons_succ, i64_w, i32_w]
                                  rfl
                                refine pure_ (i := 14) (N := some 68) (v := ?_) (a' := ?_) #[true, true, true, true, true, true, true, true, true, true, true, true, true, true, true, false, false, false, false, false, false, false, false, false, false, false] rfl rfl (any_of HT_.out (by kernel_rfl)) (fun _ _ _ h => h) (Or.inl ⟨by rfl, ?_⟩) ?_ ?_
                                rotate_left
                                · intro w'
                                  go_simp
                                  first | with_reducible rfl | (rw [show wrap64 (ji51 + t258) = ji43 from by rw [← hji51]; exact hji43, hji47]; rw [if_pos ⟨of_eq_true c48b0, of_eq_true c49b0⟩]) | (rw [show wrap64 (ji51 + t258) = ji43 from by rw [← hji51]; exact hji43]; rw [if_pos ⟨of_eq_true c44b0, of_eq_true c45b0⟩])
                                rotate_left
                                · simp only [Act.put, List.setIfInBounds_toArray, List.set_cons_zero, List.set_cons_succ, i64_w, i32_w]
                                  rfl
                                refine pure_ (i := 15) (N := some 69) (v := ?_) (a' := ?_) #[true, true, true, true, true, true, true, true, true, true, true, true, true, true, true, true, false, false, false, false, false, false, false, false, false, false] rfl rfl (any_of HT_.out (by kernel_rfl)) (fun _ _ _ h => h) (Or.inl ⟨by rfl, ?_⟩) ?_ ?_
                                rotate_left
                                · intro w'
                                  go_simp
                                  first | with_reducible rfl | (rw [show wrap64 (ji51 + t258) = ji43 from by rw [← hji51]; exact hji43, hji47]; rw [if_pos ⟨of_eq_true c48b0, of_eq_true c49b0⟩]) | (rw [show wrap64 (ji51 + t258) = ji43 from by rw [← hji51]; exact hji43]; rw [if_pos ⟨of_eq_true c44b0, of_eq_true c45b0⟩])
                                rotate_left
                                · simp only [Act.put, List.setIfInBounds_toArray, List.set_cons_zero, List.set_cons_succ, i64_w, i32_w]
                                  rfl
                                refine pure_ (i := 17) (N := some 71) (v := ?_) (a' := ?_) #[true, true, true, true, true, true, true, true, true, true, true, true, true, true, true, true, false, true, false, false, false, false, false, false, false, false] rfl rfl (any_of HT_.out (by kernel_rfl)) (fun _ _ _ h => h) (Or.inl ⟨by rfl, ?_⟩) ?_ ?_
                                rotate_left
                                · intro w'
                                  go_simp
                                  first | with_reducible rfl | (rw [show wrap64 (ji51 + t258) = ji43 from by rw [← hji51]; exact hji43, hji47]; rw [if_pos ⟨of_eq_true c48b0, of_eq_true c49b0⟩]) | (rw [show wrap64 (ji51 + t258) = ji43 from by rw [← hji51]; exact hji43]; rw [if_pos ⟨of_eq_true c44b0, of_eq_true c45b0⟩])
                                rotate_left
                                · simp only [Act.put, List.setIfInBounds_toArray, List.set_cons_zero, List.set_cons_succ, i64_w, i32_w]
                                  rfl
                                refine pure_ (i := 18) (N := some 72) (v := ?_) (a' := ?_) #[true, true, true, true, true, true, true, true, true, true, true, true, true, true, true, true, false, true, true, false, false, false, false, false, false, false] rfl rfl (any_of HT_.out (by kernel_rfl)) (fun _ _ _ h => h) (Or.inl ⟨by rfl, ?_⟩) ?_ ?_
                                rotate_left
                                · intro w'
                                  go_simp
                                  first | with_reducible rfl | (rw [show wrap64 (ji51 + t258) = ji43 from by rw [← hji51]; exact hji43, hji47]; rw [if_pos ⟨of_eq_true c48b0, of_eq_true c49b0⟩]) | (rw [show wrap64 (ji51 + t258) = ji43 from by rw [← hji51]; exact hji43]; rw [if_pos ⟨of_eq_true c44b0, of_eq_true c45b0⟩])
                                rotate_left
                                · simp only [Act.put, List.setIfInBounds_toArray, List.set_cons_zero, List.set_cons_succ, i64_w, i32_w]
                                  rfl
                                refine pure_ (i := 19) (N := some 73) (v := ?_) (a' := ?_) #[true, true, true, true, true, true, true, true, true, true, true, true, true, true, true, true, false, true, true, true, false, false, false, false, false, false] rfl rfl (any_of HT_.out (by kernel_rfl)) (fun _ _ _ h => h) (Or.inl ⟨by rfl, ?_⟩) ?_ ?_
                                rotate_left
                                · intro w'
                                  go_simp
                                  first | with_reducible rfl | (rw [show wrap64 (ji51 + t258) = ji43 from by rw [← hji51]; exact hji43, hji47]; rw [if_pos ⟨of_eq_true c48b0, of_eq_true c49b0⟩]) | (rw [show wrap64 (ji51 + t258) = ji43 from by rw [← hji51]; exact hji43]; rw [if_pos ⟨of_eq_true c44b0, of_eq_true c45b0⟩])
                                rotate_left
                                · simp only [Act.put, List.setIfInBounds_toArray, List.set_cons_zero, List.set_cons_succ, i64_w, i32_w]
                                  rfl
                                refine pure_ (i := 20) (N := some 74) (v := ?_) (a' := ?_) #[true, true, true, true, true, true, true, true, true, true, true, true, true, true, true, true, false, true, true, true, true, false, false, false, false, false] rfl rfl (any_of HT_.out (by kernel_rfl)) (fun _ _ _ h => h) (Or.inl ⟨by rfl, ?_⟩) ?_ ?_
                                rotate_left
                                · intro w'
                                  go_simp
                                  first | with_reducible rfl | (rw [show wrap64 (ji51 + t258) = ji43 from by rw [← hji51]; exact hji43, hji47]; rw [if_pos ⟨of_eq_true c48b0, of_eq_true c49b0⟩]) | (rw [show wrap64 (ji51 + t258) = ji43 from by rw [← hji51]; exact hji43]; rw [if_pos ⟨of_eq_true c44b0, of_eq_true c45b0⟩])
                                rotate_left
                                · simp only [Act.put, List.setIfInBounds_toArray, List.set_cons_zero, List.set_cons_succ, i64_w, i32_w]
                                  rfl
                                refine pure_ (i := 21) (N := some 75) (v := ?_) (a' := ?_) #[true, true, true, true, true, true, true, true, true, true, true, true, true, true, true, true, false, true, true, true, true, true, false, false, false, false] rfl rfl (any_of HT_.out (by kernel_rfl)) (fun _ _ _ h => h) (Or.inl ⟨by rfl, ?_⟩) ?_ ?_
                                rotate_left
                                · intro w'
                                  go_simp
                                  first | with_reducible rfl | (rw [show wrap64 (ji51 + t258) = ji43 from by rw [← hji51]; exact hji43, hji47]; rw [if_pos ⟨of_eq_true c48b0, of_eq_true c49b0⟩]) | (rw [show wrap64 (ji51 + t258) = ji43 from by rw [← hji51]; exact hji43]; rw [if_pos ⟨of_eq_true c44b0, of_eq_true c45b0⟩])
                                rotate_left
                                · simp only [Act.put, List.setIfInBounds_toArray, List.set_cons_zero, List.set_cons_succ, i64_w, i32_w]
                                  rfl
                                refine pure_ (i := 22) (N := some 76) (v := ?_) (a' := ?_) #[true, true, true, true, true, true, true, true, true, true, true, true, true, true, true, true, false, true, true, true, true, true, true, false, false, false] rfl rfl (any_of HT_.out (by kernel_rfl)) (fun _ _ _ h => h) (Or.inl ⟨by rfl, ?_⟩) ?_ ?_
                                rotate_left
                                · intro w'
                                  go_simp
                                  first | with_reducible rfl | (rw [show wrap64 (ji51 + t258) = ji43 from by rw [← hji51]; exact hji43, hji47]; rw [if_pos ⟨of_eq_true c48b0, of_eq_true c49b0⟩]) | (rw [show wrap64 (ji51 + t258) = ji43 from by rw [← hji51]; exact hji43]; rw [if_pos ⟨of_eq_true c44b0, of_eq_true c45b0⟩])
                                rotate_left
                                · simp only [Act.put, List.setIfInBounds_toArray, List.set_cons_zero, List.set_cons_succ, i64_w, i32_w]
                                  rfl
                                refine one_ (i := 16) (N := some 70) #[true, true, true, true, true, true, true, true, true, true, true, true, true, true, true, true, true, true, true, true, true, true, true, false, false, false] rfl rfl (one_of HT_.out (by kernel_rfl)) (by decide) (fun K hK => ?_)
                                refine goes_ Tryz.func94 (by kernel_rfl) rfl #[.string (a0.extract 0 ((ji43) : Int).toNat)] (by rfl) rfl rfl (by (try simp only [List.map_toArray, List.map_cons, List.map_nil]); first | done | (simp only [hji43]; rfl) | rfl | (simp only [List.length_drop, List.length_take]; rfl)) ?_
                                with_reducible refine (frame_sealed.calls kj20 (a0.extract 0 ((ji43) : Int).toNat) t282 _ A46.out).mono ?_
                                rintro e w60 ⟨rfl, hb⟩
                                refine ⟨_, rfl, ?_⟩
                                have n0_ := Aside0.mk (IsS192.below (by repeat (first | (with_reducible first | exact HI257.out | apply IsS192.alloc | apply IsS192.drewN | apply IsS192.drew | apply IsS192.set_0 | apply IsS192.set_1 | apply IsS192.set_2) | exact HI257.out)) hb)
                                have n1_ := Aside0.mk (below_step (by repeat (first | (with_reducible first | exact HB.out | apply below_alloc | apply pw_below_drewN | apply below_drew1 | refine below_set ?_ (IsS192.ge HI257.out)) | exact HB.out)) hb)
                                clear HI257
                                clear HB
                                have HI257 := n0_
                                have HB := n1_
                                clear n0_ n1_
                                (try clear hb)
                                (try clear hb2)
                                (try clear hk)
                                (try clear hi)
                                refine hK.out _ _ trivial (fun hHeld => ?_)
                                clear hK K
                                refine norm_ (a' := ?_) ?_ ?_
                                rotate_left
                                · show Act.put _ (some 70) _ = _
                                  simp only [Act.put, List.setIfInBounds_toArray, List.set_cons_zero, List.set_cons_succ, i64_w, i32_w]
                                  rfl
                                refine pure_ (i := 23) (N := some 77) (v := ?_) (a' := ?_) #[true, true, true, true, true, true, true, true, true, true, true, true, true, true, true, true, true, true, true, true, true, true, true, true, false, false] rfl rfl (any_of HT_.out (by kernel_rfl)) (fun _ _ _ h => h) (Or.inl ⟨by rfl, ?_⟩) ?_ ?_
                                rotate_left
                                · intro w'
                                  go_simp
                                  first | with_reducible rfl | (rw [show wrap64 (ji51 + t258) = ji43 from by rw [← hji51]; exact hji43, hji47]; rw [if_pos ⟨of_eq_true c48b0, of_eq_true c49b0⟩]) | (rw [show wrap64 (ji51 + t258) = ji43 from by rw [← hji51]; exact hji43]; rw [if_pos ⟨of_eq_true c44b0, of_eq_true c45b0⟩])
                                rotate_left
                                · simp only [Act.put, List.setIfInBounds_toArray, List.set_cons_zero, List.set_cons_succ, i64_w, i32_w]
                                  rfl
                                refine pure_ (i := 24) (N := some 78) (v := ?_) (a' := ?_) #[true, true, true, true, true, true, true, true, true, true, true, true, true, true, true, true, true, true, true, true, true, true, true, true, true, false] rfl rfl (any_of HT_.out (by kernel_rfl)) (fun _ _ _ h => h) (Or.inl ⟨by rfl, ?_⟩) ?_ ?_
                                rotate_left
                                · intro w'
                                  go_simp
                                  first | with_reducible rfl | (rw [show wrap64 (ji51 + t258) = ji43 from by rw [← hji51]; exact hji43, hji47]; rw [if_pos ⟨of_eq_true c48b0, of_eq_true c49b0⟩]) | (rw [show wrap64 (ji51 + t258) = ji43 from by rw [← hji51]; exact hji43]; rw [if_pos ⟨of_eq_true c44b0, of_eq_true c45b0⟩])
                                rotate_left
                                · simp only [Act.put, List.setIfInBounds_toArray, List.set_cons_zero, List.set_cons_succ, i64_w, i32_w]
                                  rfl
                                refine pure_ (i := 25) (N := some 53) (v := ?_) (a' := ?_) #[true, true, true, true, true, true, true, true, true, true, true, true, true, true, true, true, true, true, true, true, true, true, true, true, true, true] rfl rfl (any_of HT_.out (by kernel_rfl)) (fun _ _ _ h => h) (Or.inl ⟨by rfl, ?_⟩) ?_ ?_
                                rotate_left
                                · intro w'
                                  go_simp
                                  first | with_reducible rfl | (rw [show wrap64 (ji51 + t258) = ji43 from by rw [← hji51]; exact hji43, hji47]; rw [if_pos ⟨of_eq_true c48b0, of_eq_true c49b0⟩]) | (rw [show wrap64 (ji51 + t258) = ji43 from by rw [← hji51]; exact hji43]; rw [if_pos ⟨of_eq_true c44b0, of_eq_true c45b0⟩])
                                rotate_left
                                · simp only [Act.put, List.setIfInBounds_toArray, List.set_cons_zero, List.set_cons_succ, i64_w, i32_w]
                                  rfl
                                refine done_ (done_of HT_.out (by kernel_rfl)) ?_
                                try go_wp2
                                go_ret3
                                exact ⟨by first | rfl | (simp [errW_none, errW_some] <;> rfl) | (simp only [← hji43, ← hji47]; first | rfl | (simp [errW_none, errW_some] <;> rfl)) | (simp [*, errW_none, errW_some] <;> rfl), by repeat (first | (with_reducible first | exact HB.out | apply below_alloc | apply pw_below_drewN | apply below_drew1 | refine below_set ?_ (IsS192.ge HI257.out)) | exact HB.out)⟩
                            · rw [if_neg c49] at H
                              exact absurd H (by simp)
                          · rw [if_neg c48] at H
                            exact absurd H (by simp)
                        · rw [if_neg c45] at H
                          exact absurd H (by simp)
                      · rw [if_neg c44] at H
                        exact absurd H (by simp)

end Go.Proofs.YtlmnmjnmilaipaaGreatDoor.PR

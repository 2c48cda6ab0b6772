/- Layer 4: slices.Grow of nothing, slices.Concat of two rows of texts. -/
import Derived.Test.YtfafdcdmaimghaaGreatDoorLabF
import Derived.Shelf.Spec.SlicesGrow
set_option linter.unusedVariables false
set_option linter.unusedSimpArgs false
namespace Go.Proofs.YtfafdcdmaimghaaGreatDoor
open Go Go.RowKit Go.Proofs.YtfafdcdmaimghaaGreatDoorW.PrintWords

theorem infoStr : (Tryz.prog.info? 9).map (fun i => (i.zero, i.size, i.bytes)) = some (some (.string ⟨#[]⟩), 1, 16) := by kernel_rfl
theorem lgrow_any (n : Nat) (w : World) (hn : n ≤ 4194400) :
    Calls Tryz.prog 59 #[.slice none 0 0, .int .i64 n] w fun e w' => ∃ v, e = .returned v ∧ Kd.R Kd.string 9 w' w.heap.size (fun _ => True) v [] ∧ Below w.heap.size w w' := by
  rcases Nat.eq_zero_or_pos n with rfl | hp
  · refine (Any8.slices_Grow_room Tryz.growA none 0 0 0 w (Nat.le_refl _) (by omega) (by omega) (Nat.le_refl _)).mono ?_
    rintro e w' ⟨rfl, rfl⟩
    exact ⟨_, rfl, Kd.R_nil _ _ _ _ _, Below.refl _ _⟩
  · obtain ⟨i0, hi, hz⟩ := Option.map_eq_some_iff.1 infoStr
    simp only [Prod.mk.injEq] at hz
    obtain ⟨hz0, hz1, hz2⟩ := hz
    refine (Any8.slices_Grow_grow Tryz.growA i0 (.string ⟨#[]⟩) hi hz0 (by omega) none 0 0 n [] w (Nat.le_refl _) (by omega) (by rw [hz2]; omega) (by omega) (by simp) (fun _ => rfl) (fun a ha => by cases ha)).mono ?_
    rintro e w' ⟨rfl, rfl⟩
    refine ⟨_, rfl, Kd.R_of_own ?_ (fun _ _ => trivial), (Below.refl _ _).drew.alloc (Nat.le_refl _) _⟩
    have hge := grownCap_ge w (0 + n) 0 9
    have hle := grownCap_le_maxLen w (0 + n) 0 9 (by unfold maxLen; omega)
    exact World.ownsRow_made (base := w.heap.size) (size := 1) (e := 9) w.drew _ _ (Nat.le_refl _) hle (by
      simp only [Array.size_append, Builtin.zeroCells, Array.size_map, Array.size_range, List.size_toArray, List.length_nil, Value.cells]
      have hge2 := grownCap_ge w n 0 (Tryz.growA_ren.t 25)
      simp
      omega)
def cat2 (xs ys : List Bs) (k : Nat) : List Bs := if k = 0 then [] else if k = 1 then xs else xs ++ ys
set_option maxHeartbeats 2000000 in
set_option maxRecDepth 100000 in
theorem lconcat_any (A1 A2 : Option Addr) (c1 c2 b : Nat) (xs ys : List Bs) (w : World) (h0 : w.cell? ⟨b, 0, none⟩ = some (.slice A1 xs.length c1)) (h1 : w.cell? ⟨b, 1, none⟩ = some (.slice A2 ys.length c2))
    (hC1 : Kd.string.C w A1 (xs.map ba).length (xs.map ba)) (hC2 : Kd.string.C w A2 (ys.map ba).length (ys.map ba)) (hx : xs.length ≤ 2097153) (hy : ys.length ≤ 2097153) :
    Calls Tryz.prog 40 #[.slice (some ⟨b, 0, none⟩) 2 2] w fun e w' => ∃ v, e = .returned v ∧ Kd.R Kd.string 9 w' w.heap.size (fun _ => True) v ((xs ++ ys).map ba) ∧ Below w.heap.size w w' := by
  have hlt := World.block_lt_of_cell? _ _ h0
  have HC1 := Lib.hid hC1
  have HC2 := Lib.hid hC2
  have hgr := lgrow_any (cat2 xs ys 2).length w (by show (xs ++ ys).length ≤ _; rw [List.length_append]; omega)
  have HGR := Lib.hid hgr
  have HT1 := Lib.hid (show (cat2 xs ys 1).length = xs.length from rfl)
  have HT2 := Lib.hid (show (cat2 xs ys 2).length = xs.length + ys.length from List.length_append)
  clear hC1 hC2 hgr
  go_enter Tryz.func40, Tryz.ntmps40
  go_wp2
  go_loopw [3, 11] (fun sz i wr => ∃ k : Nat, k ≤ 2 ∧ i = .int .i64 k ∧ sz = .int .i64 ((cat2 xs ys k).length : Int) ∧ wr = w) (fun _ i _ => 2 - (Lib.intOf i).toNat)
  case atStart => exact ⟨0, Nat.zero_le _, rfl, rfl, rfl⟩
  case round =>
    obtain ⟨k, hk, rfl, rfl, rfl⟩ := hrel
    have n0 : ¬ ((xs.length : Int) < 0) := by omega
    have n1 : ¬ (((xs.length : Int) + (ys.length : Int)) < 0) := by omega
    rcases (show k = 0 ∨ k = 1 ∨ k = 2 by omega) with rfl | rfl | rfl
    · have e0 : ((cat2 xs ys 0).length : Int) = 0 := rfl
      rw [e0]
      go_wp2
      go_roundw
      case rel => exact ⟨1, by omega, rfl, by first | (rw [HT1.out]; done) | (rw [HT1.out]; go_num), by first | rfl | trivial⟩
      case measure => simp [Lib.intOf]
    · rw [HT1.out]
      go_wp2
      go_roundw
      case rel => exact ⟨2, by omega, rfl, by first | (rw [HT2.out]; done) | (rw [HT2.out]; go_num), by first | rfl | trivial⟩
      case measure => simp [Lib.intOf]
    · generalize htot : (cat2 xs ys 2).length = tot at *
      have HTOT := Lib.hid htot
      clear htot
      go_wp2_with (go_at_call 59; refine HGR.out.mono ?_; rintro e w1 ⟨v, rfl, hv, hb⟩; have HV := Lib.hid hv; have HB := Lib.hid hb; clear hv hb)
      have hd1 := HC1.out
      have hd2 := HC2.out
      rw [List.length_map] at hd1 hd2
      have HD1 := Lib.hid hd1
      have HD2 := Lib.hid hd2
      clear hd1 hd2
      go_loopw [6, 27] (fun v i wq => ∃ k : Nat, k ≤ 2 ∧ i = .int .i64 k ∧ Kd.R Kd.string 9 wq wr.heap.size (fun _ => True) v ((cat2 xs ys k).map ba) ∧ Below wr.heap.size wr wq) (fun _ i _ => 2 - (Lib.intOf i).toNat)
      case atStart => exact ⟨0, Nat.zero_le _, rfl, HV.out, HB.out⟩
      case round =>
        clear HV HB
        obtain ⟨k, hk, rfl, hro, hrb⟩ := hrel
        rename World => wq
        have m0 := (hrb.cell (p := ⟨b, 0, none⟩) hlt).trans h0
        have m1 := (hrb.cell (p := ⟨b, 1, none⟩) hlt).trans h1
        have RO := Lib.hid hro
        have RB := Lib.hid hrb
        clear hrb
        rcases (show k = 0 ∨ k = 1 ∨ k = 2 by omega) with rfl | rfl | rfl
        · have e0 : (cat2 xs ys 0).map ba = [] := rfl
          rw [e0] at RO hro
          obtain ⟨Av, cv, hv⟩ := Kd.R_slice hro
          subst hv
          clear hro
          go_wp2_with (first | ((with_reducible refine gate_builtin (b := .append) (xs := #[.tmp 31, .tmp 32]) rfl ?_); (try (refine gate_guard (by rfl) ?_; dsimp only)); at_builtin; go_loud (refine Kd.R_append_row Value.string ByteArray.empty (w0 := wr) wr.heap.size rfl (.tmp 31) (.tmp 32) 28 9 (.string ⟨#[]⟩) 16 rfl Tryz.underlying28 infoStr rfl (by decide) (.slice Av 0 cv) ([] : List ByteArray) (xs.map ba) A1 xs.length c1 (fun _ => True) (by rfl) (by rfl) (fun _ _ => trivial) RO.out (Kd.C_below HD1.out (RB.out.mono (Nat.le_refl _))) RB.out RB.out.size (by simp only [List.length_nil]; omega) ?_; intro v3 w3 ho hb _ _; have HO3 := Lib.hid ho; have HB3 := Lib.hid hb; clear ho hb)))
          go_roundw
          case rel => exact ⟨1, by omega, by go_num, by have := HO3.out; rwa [List.nil_append] at this, HB3.out⟩
          case measure => simp [Lib.intOf]
        · have hl1 : ((cat2 xs ys 1).map ba).length = xs.length := by rw [List.length_map]; rfl
          obtain ⟨Av, cv, hv⟩ := Kd.R_slice hro
          rw [hl1] at hv
          subst hv
          clear hro hl1
          go_wp2_with (first | ((with_reducible refine gate_builtin (b := .append) (xs := #[.tmp 31, .tmp 32]) rfl ?_); (try (refine gate_guard (by rfl) ?_; dsimp only)); at_builtin; go_loud (refine Kd.R_append_row Value.string ByteArray.empty (w0 := wr) wr.heap.size rfl (.tmp 31) (.tmp 32) 28 9 (.string ⟨#[]⟩) 16 rfl Tryz.underlying28 infoStr rfl (by decide) (.slice Av xs.length cv) (xs.map ba) (ys.map ba) A2 ys.length c2 (fun _ => True) (by rfl) (by rfl) (fun _ _ => trivial) RO.out (Kd.C_below HD2.out (RB.out.mono (Nat.le_refl _))) RB.out RB.out.size (by rw [List.length_map]; omega) ?_; intro v3 w3 ho hb _ _; have HO3 := Lib.hid ho; have HB3 := Lib.hid hb; clear ho hb)))
          go_roundw
          case rel => exact ⟨2, by omega, by go_num, by have := HO3.out; rwa [← List.map_append] at this, HB3.out⟩
          case measure => simp [Lib.intOf]
        · clear hro
          go_wp2
          go_ret
          exact ⟨_, rfl, RO.out, RB.out⟩
end Go.Proofs.YtfafdcdmaimghaaGreatDoor

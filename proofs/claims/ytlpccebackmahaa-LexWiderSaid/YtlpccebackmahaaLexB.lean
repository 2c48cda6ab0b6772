/- Layer 7: ints as they are read; Ints. -/
import Derived.Test.YtlpccebackmahaaLexA
set_option linter.unusedVariables false
set_option linter.unusedSimpArgs false
namespace Go.Proofs.Ytlpccebackmahaa
open Go.RowKit

/-- A slice of ints that is read. -/
structure ReadsI (w : World) (A : Option Addr) (xs : List Int) : Prop where
  cell : ∀ i, i < xs.length → ∃ bk off, A = some ⟨bk, off, none⟩ ∧ bk < w.heap.size ∧ w.cell? ⟨bk, off + i, none⟩ = some (.int .i64 (xs.getD i 0))
  len : xs.length ≤ maxLen
theorem ReadsI.only {w w' : World} {A : Option Addr} {xs : List Int} (h : ReadsI w A xs) {S : Nat → Prop} (ho : Only S w w') (hA : ∀ ad, A = some ad → ¬ S ad.block) : ReadsI w' A xs :=
  ⟨fun i hi => by
    obtain ⟨bk, off, h1, h2, h3⟩ := h.cell i hi
    have := hA _ h1
    exact ⟨bk, off, h1, Nat.lt_of_lt_of_le h2 ho.size, (ho.cell (p := ⟨bk, off + i, none⟩) h2 this).trans h3⟩, h.len⟩
theorem ReadsI.below {w w' : World} {A : Option Addr} {xs : List Int} (h : ReadsI w A xs) (hb : Below w.heap.size w w') : ReadsI w' A xs :=
  h.only (Only.of_below (S := fun _ => False) hb) (fun _ _ x => x)

theorem ret_boolI {x y : Bool} (h : x = y) : Ending.returned (.bool x) = Ending.returned (.bool y) := by rw [h]
set_option maxHeartbeats 1000000 in
theorem ints_any (A B : Option Addr) (c d : Nat) (xs ys : List Int) (w : World) (hx : ReadsI w A xs) (hy : ReadsI w B ys) :
    Calls Try.prog 13 #[.slice A xs.length c, .slice B ys.length d] w fun e w' => e = .returned (.bool (decide (xs = ys))) ∧ Only (fun _ => False) w w' := by
  have lx := hx.len
  have ly := hy.len
  unfold maxLen at lx ly
  by_cases hl : xs.length = ys.length
  · have hb : ((xs.length : Int) != ys.length) = false := by simp [hl]
    go_enter Try.func13, Try.ntmps13
    go_wp2
    go_loopw [5] (fun i wr => ∃ k : Nat, k ≤ xs.length ∧ i = .int .i64 k ∧ (∀ j, j < k → xs.getD j 0 = ys.getD j 0) ∧ Only (fun _ => False) w wr) (fun i _ => xs.length - (intOf i).toNat)
    case atStart => exact ⟨0, Nat.zero_le _, rfl, fun j hj => absurd hj (by omega), Only.refl _ _⟩
    case round =>
      obtain ⟨k, hk, rfl, heq, ho⟩ := hrel
      have HE := Lib.hid heq
      have HO := Lib.hid ho
      clear heq ho
      have HL := Lib.hid hl
      clear hl
      by_cases hlt : k < xs.length
      · have hlt2 : k < ys.length := by rw [← HL.out]; exact hlt
        obtain ⟨bk, off, rfl, l1, hc1⟩ := hx.cell k hlt
        obtain ⟨bk2, off2, rfl, l2, hc2⟩ := hy.cell k hlt2
        have hd1 := (HO.out.cell (p := ⟨bk, off + k, none⟩) l1 (fun x => x)).trans hc1
        have hd2 := (HO.out.cell (p := ⟨bk2, off2 + k, none⟩) l2 (fun x => x)).trans hc2
        clear hc1 hc2
        have HX := Lib.hid hx
        have HY := Lib.hid hy
        clear hx hy
        by_cases heq : xs.getD k 0 = ys.getD k 0
        · have HQ := Lib.hid heq
          rw [heq] at hd1
          generalize ys.getD k 0 = a at hd1 hd2
          clear heq
          go_wp2
          go_region
          go_wp2
          go_roundw
          case rel => exact ⟨k + 1, by omega, by go_num, fun j hj => by
            rcases Nat.lt_succ_iff_lt_or_eq.1 hj with h | rfl
            · exact HE.out j h
            · exact HQ.out, HO.out.drew⟩
          case measure => simp [intOf]; omega
        · have hbb : (xs.getD k 0 != ys.getD k 0) = true := by simpa using heq
          have HQ := Lib.hid heq
          generalize hA : xs.getD k 0 = a at hd1 hbb
          generalize hB : ys.getD k 0 = b at hd2 hbb
          have HA := Lib.hid hA
          have HB := Lib.hid hB
          clear hA hB heq
          go_wp2
          go_region
          go_wp2
          go_ret
          refine ⟨ret_boolI ?_, HO.out.drew⟩
          symm
          rw [decide_eq_false_iff_not]
          intro e
          exact HQ.out (by rw [e])
      · obtain rfl : k = xs.length := by omega
        go_wp2
        go_ret
        refine ⟨ret_boolI ?_, HO.out⟩
        symm
        rw [decide_eq_true_iff]
        apply List.ext_getElem HL.out
        intro i h1 h2
        have := HE.out i h1
        simpa [List.getD_eq_getElem?_getD, h1, h2] using this
  · have hb : ((xs.length : Int) != ys.length) = true := by simp; omega
    have hne : xs ≠ ys := fun e => hl (by rw [e])
    go_enter Try.func13, Try.ntmps13
    go_wp2
    go_ret
    exact ⟨ret_boolI (by simp [hne]), Only.refl _ _⟩
end Go.Proofs.Ytlpccebackmahaa

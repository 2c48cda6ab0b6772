/- The statements' own small functions: pick, Same; and awake. -/
import Derived.Test.YtekkmfclaepcgaaDiskR
import Derived.Test.YtekkmfclaepcgaaDiskN
import Derived.Deep.QuietTactic
import Derived.BigQuiet
set_option linter.unusedVariables false
namespace Go.Proofs.Ytekkmfclaepcgaa
open Go.RowKit

/-- A raw number's choice. -/
def pickOf (c n : Int) : Int := keepOf c % n

set_option maxHeartbeats 400000 in
theorem pick_any (c n : Int) (w : World) (h1 : -9223372036854775808 ≤ c) (h2 : c ≤ 9223372036854775807) (hn : 0 < n) (hn2 : n ≤ 9223372036854775807) :
    Calls Try.prog 11 #[.int .i64 c, .int .i64 n] w fun e w' => e = .returned (.int .i64 (pickOf c n)) ∧ w = w' := by
  by_cases hc : c < 0
  · have hm := Int.emod_nonneg (-(c + 1)) (show n ≠ 0 by omega)
    have hm2 := Int.emod_lt_of_pos (-(c + 1)) hn
    obtain ⟨R, hR, hRt⟩ : ∃ R : Int, -(c + 1) % n = R ∧ (c + 1).tmod n = -R := ⟨_, rfl, by
      have e1 := Int.neg_tmod (c + 1) n
      have e2 := Int.tmod_eq_emod_of_nonneg (a := -(c + 1)) (b := n) (by omega)
      omega⟩
    have hp : pickOf c n = R := by unfold pickOf keepOf; rw [if_pos hc, hR]
    rw [hp]
    rw [hR] at hm hm2
    clear hR hp
    go_enter Try.func11, Try.ntmps11
    go_wp2
    go_ret
    exact ⟨rfl, rfl⟩
  · have hp : pickOf c n = c % n := by unfold pickOf keepOf; rw [if_neg hc]
    rw [hp]
    clear hp
    go_enter Try.func11, Try.ntmps11
    go_wp2
    go_ret
    exact ⟨rfl, rfl⟩

theorem toList_inj {a b : ByteArray} (h : a.toList = b.toList) : a = b := by
  rw [ByteArray.toList_eq, ByteArray.toList_eq] at h
  exact ByteArray.ext (Array.toList_inj.1 h)
theorem bytes_ne {a b : ByteArray} (h : a ≠ b) : (a.toList == b.toList) = false := by
  rw [beq_eq_false_iff_ne]
  exact fun e => h (toList_inj e)

/-- A slice of strings that is read. -/
def ReadsS (w : World) (A : Option Addr) (xs : List ByteArray) : Prop :=
  ∀ i, i < xs.length → ∃ bk off, A = some ⟨bk, off, none⟩ ∧ w.cell? ⟨bk, off + i, none⟩ = some (.string (xs.getD i ⟨#[]⟩))

set_option maxHeartbeats 1000000 in
theorem same_any (A B : Option Addr) (c d : Nat) (xs ys : List ByteArray) (w : World) (hx : ReadsS w A xs) (hy : ReadsS w B ys) (lx : xs.length ≤ 1000) (ly : ys.length ≤ 1000) :
    Calls Try.prog 14 #[.slice A xs.length c, .slice B ys.length d] w fun e w' => e = .returned (.bool (decide (xs = ys))) ∧ Only (fun _ => False) w w' := by
  by_cases hl : xs.length = ys.length
  · have hb : ((xs.length : Int) != ys.length) = false := by simp [hl]
    go_enter Try.func14, Try.ntmps14
    go_wp2
    go_loopw [5] (fun i wr => ∃ k : Nat, k ≤ xs.length ∧ i = .int .i64 k ∧ (∀ j, j < k → xs.getD j ⟨#[]⟩ = ys.getD j ⟨#[]⟩) ∧ Only (fun _ => False) w wr) (fun i _ => xs.length - (intOf i).toNat)
    case atStart => exact ⟨0, Nat.zero_le _, rfl, fun j hj => absurd hj (by omega), Only.refl _ _⟩
    case round =>
      obtain ⟨k, hk, rfl, heq, ho⟩ := hrel
      have HE := Lib.hid heq
      have HO := Lib.hid ho
      clear heq ho
      have HL := Lib.hid hl
      clear hl
      by_cases hlt : k < xs.length
      · have hlt2 : k < ys.length := by rw [← HL.out]; exact hlt
        obtain ⟨bk, off, rfl, hc1⟩ := hx k hlt
        obtain ⟨bk2, off2, rfl, hc2⟩ := hy k hlt2
        have l1 := World.block_lt_of_cell? w _ hc1
        have l2 := World.block_lt_of_cell? w _ hc2
        have hd1 := (HO.out.cell (p := ⟨bk, off + k, none⟩) l1 (fun x => x)).trans hc1
        have hd2 := (HO.out.cell (p := ⟨bk2, off2 + k, none⟩) l2 (fun x => x)).trans hc2
        have HX := Lib.hid hx
        have HY := Lib.hid hy
        clear hc1 hc2 hx hy
        by_cases heq : xs.getD k ⟨#[]⟩ = ys.getD k ⟨#[]⟩
        · have HQ := Lib.hid heq
          rw [heq] at hd1
          generalize ys.getD k ⟨#[]⟩ = a at hd1 hd2
          clear heq
          go_wp2
          go_region
          go_wp2
          go_roundw
          case rel => exact ⟨k + 1, by omega, by go_num, fun j hj => by
            rcases Nat.lt_succ_iff_lt_or_eq.1 hj with h | rfl
            · exact HE.out j h
            · exact HQ.out, HO.out.drew⟩
          case measure => simp [intOf]; omega
        · have hbb : ((xs.getD k ⟨#[]⟩).toList == (ys.getD k ⟨#[]⟩).toList) = false := bytes_ne heq
          have HQ := Lib.hid heq
          generalize hA : xs.getD k ⟨#[]⟩ = a at hd1 hbb
          generalize hB : ys.getD k ⟨#[]⟩ = b at hd2 hbb
          have HA := Lib.hid hA
          have HB := Lib.hid hB
          clear hA hB heq
          go_wp2
          go_region
          go_wp2
          go_ret
          refine ⟨ret_bool ?_, HO.out.drew⟩
          symm
          rw [decide_eq_false_iff_not]
          intro e
          exact HQ.out (by rw [e])
      · obtain rfl : k = xs.length := by omega
        go_wp2
        go_ret
        refine ⟨ret_bool ?_, HO.out⟩
        symm
        rw [decide_eq_true_iff]
        apply List.ext_getElem HL.out
        intro i h1 h2
        have := HE.out i h1
        simpa [List.getD_eq_getElem?_getD, h1, h2] using this
  · have hb : ((xs.length : Int) != ys.length) = true := by simp; omega
    have hne : xs ≠ ys := fun e => hl (by rw [e])
    go_enter Try.func14, Try.ntmps14
    go_wp2
    go_ret
    exact ⟨ret_bool (by simp [hne]), Only.refl _ _⟩

theorem Dk.snames_length (D : Dk) : D.snames.length = D.files.length := by unfold Dk.snames; rw [List.length_map, Dk.names_length]

/-- List, as a slice of strings that can be read. -/
theorem list_S (b mb : Nat) (D : Dk) (w : World) (h : DiskIs w b mb D) (hD : D.Ok) :
    Calls Try.prog 15 #[.pointer (some ⟨b, 0, none⟩)] w fun e w' => ∃ A c, e = .returned (.slice A D.files.length c) ∧ ReadsS w' A D.snames ∧ Below w.heap.size w w' := by
  refine (list_any b mb D w h hD).mono ?_
  rintro e w' ⟨v, rfl, hrow, _, hb⟩
  obtain ⟨A, c, rfl, _, hc⟩ := row_open hrow
  refine ⟨A, c, rfl, fun i hi => ?_, hb⟩
  rw [Dk.snames_length] at hi
  obtain ⟨g, h1, _, _, h4⟩ := hc i hi
  obtain ⟨_, _, _, h5⟩ := dk_name D hD i hi
  exact ⟨g, 0, h1, by rw [Nat.zero_add, h4, h5]⟩
theorem ReadsS.only {w w' : World} {A : Option Addr} {xs : List ByteArray} (h : ReadsS w A xs) {S : Nat → Prop} (ho : Only S w w') (hA : ∀ ad, A = some ad → ¬ S ad.block) : ReadsS w' A xs := fun i hi => by
  obtain ⟨bk, off, h1, h2⟩ := h i hi
  have := hA _ h1
  exact ⟨bk, off, h1, (ho.cell (p := ⟨bk, off + i, none⟩) (World.block_lt_of_cell? w _ h2) this).trans h2⟩
theorem ReadsS.below {w w' : World} {A : Option Addr} {xs : List ByteArray} (h : ReadsS w A xs) (hb : Below w.heap.size w w') : ReadsS w' A xs := h.only (Only.of_below (S := fun _ => False) hb) (fun _ _ x => x)
end Go.Proofs.Ytekkmfclaepcgaa

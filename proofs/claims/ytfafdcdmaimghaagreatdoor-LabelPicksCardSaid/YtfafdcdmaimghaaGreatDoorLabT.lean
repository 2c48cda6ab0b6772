/- Layer 4, plainly: the document's IsLabels, Value, as the print tells them. -/
import Derived.Test.YtfafdcdmaimghaaGreatDoorLabS
import Derived.Test.YtfafdcdmaimghaaGreatDoorLabC
import Derived.Test.YtfafdcdmaimghaaGreatDoorRfB
set_option linter.unusedVariables false
set_option linter.unusedSimpArgs false
namespace Go.Proofs.YtfafdcdmaimghaaGreatDoor
open Go Go.RowKit PR Go.Proofs.YtfafdcdmaimghaaGreatDoorW.PrintWords

theorem rdOf_ba (ps : List Bs) (j : Nat) (hj : j < ps.length) : rdOf ByteArray.empty (ps.map ba) (j : Int) = ba (ps.getD j []) := by
  unfold rdOf
  rw [Int.toNat_natCast, List.getD_eq_getElem?_getD, List.getD_eq_getElem?_getD, List.getElem?_map, List.getElem?_eq_getElem hj]
  rfl
theorem less_ba (a b : Bs) : Op.bytesLess (ba a).toList (ba b).toList = decide (a < b) := by rw [bytesLess_eq, Lib.toList_data, Lib.toList_data, list_ba, list_ba]
theorem isLab_l0 (ps : List Bs) (hp : ∀ p ∈ ps, p.length ≤ 2097152) (hl : ps.length ≤ 2097153) : ∀ (n j k : Nat) (last : Bs), j + n = ps.length → n + 2097160 < k → billetref04_IsLabels.l0 k (ps.map ba) (ba last) (j : Int) = some (labOk (ps.drop j) last && decide (ps.length ≤ 4))
  | 0, j, k, last, h, hk => by
    obtain ⟨k, rfl⟩ : ∃ k', k = k' + 1 := ⟨k - 1, by omega⟩
    unfold billetref04_IsLabels.l0
    rw [if_neg (by rw [List.length_map]; omega), List.drop_of_length_le (by omega), List.length_map]
    show some _ = some (true && _)
    rw [Bool.true_and]
    congr 1
    exact decide_eq_decide.2 (by omega)
  | n + 1, j, k, last, h, hk => by
    obtain ⟨k, rfl⟩ : ∃ k', k = k' + 1 := ⟨k - 1, by omega⟩
    have hj : j < ps.length := by omega
    have hpl : (ps.getD j []).length ≤ 2097152 := hp _ (by rw [List.getD_eq_getElem?_getD, List.getElem?_eq_getElem hj]; exact List.getElem_mem hj)
    have ih := isLab_l0 ps hp hl n (j + 1) k (keyOf (ps.getD j [])) (by omega) (by omega)
    have hk1 := (cutE_len 61 (ps.getD j [])).1
    have hk2 := (cutE_len 61 (ps.getD j [])).2
    change (keyOf (ps.getD j [])).length ≤ _ at hk1
    change (valOf (ps.getD j [])).length ≤ _ at hk2
    unfold billetref04_IsLabels.l0
    rw [if_pos (by rw [List.length_map]; omega), if_pos (by omega), rdOf_ba ps j hj, rcut _ hpl k (by omega)]
    simp only [Option.bind_some]
    rw [rIsName _ (by omega) k (by omega), rIsName _ (by omega) k (by omega)]
    simp only [Option.bind_some]
    rw [less_ba, wrapN j (by omega), ih, labOk_drop ps j hj last]
    generalize (cutE 61 (ps.getD j [])).2.2 = b1
    generalize isNm (keyOf (ps.getD j [])) = b2
    generalize isNm (valOf (ps.getD j [])) = b3
    generalize decide (last < keyOf (ps.getD j [])) = b4
    cases b1 <;> cases b2 <;> cases b3 <;> cases b4 <;> simp
theorem ba_empty (l : Bs) : (ba l).toList = ([] : List UInt8) ↔ l = [] := by rw [Lib.toList_data, list_ba]
theorem splitC_small (l : Bs) (h : l.length ≤ 2097152) : ∀ p ∈ splitC 44 l, p.length ≤ 2097152 := fun p hp => Nat.le_trans (splitC_len 44 l p hp) h
theorem rIsLabels (l : Bs) (hl : l.length ≤ 2097152) (k : Nat) (hk : 4194400 ≤ k) : billetref04_IsLabels.f k (ba l) = some (isLabels l) := by
  unfold billetref04_IsLabels.f isLabels partsP
  by_cases h0 : l = []
  · rw [if_pos ((ba_empty l).2 h0), if_pos h0]
    rfl
  · rw [if_neg (fun e => h0 ((ba_empty l).1 e)), if_neg h0, rsplit l hl k (by omega)]
    have hc := splitC_count 44 l
    have := isLab_l0 (splitC 44 l) (splitC_small l hl) (by omega) (splitC 44 l).length 0 k [] (by omega) (by omega)
    simp only [Option.bind_some]
    rw [List.drop_zero] at this
    exact this
theorem val_l0 (key : Bs) (ps : List Bs) (hp : ∀ p ∈ ps, p.length ≤ 2097152) (hl : ps.length ≤ 2097153) : ∀ (n j k : Nat), j + n = ps.length → n + 2097160 < k → billetref04_Value.l0 k (ba key) (ps.map ba) (j : Int) = some (ba ((((ps.drop j).find? fun p => keyOf p == key).map valOf).getD []), (((ps.drop j).find? fun p => keyOf p == key).map valOf).isSome)
  | 0, j, k, h, hk => by
    obtain ⟨k, rfl⟩ : ∃ k', k = k' + 1 := ⟨k - 1, by omega⟩
    unfold billetref04_Value.l0
    rw [if_neg (by rw [List.length_map]; omega), List.drop_of_length_le (by omega)]
    rfl
  | n + 1, j, k, h, hk => by
    obtain ⟨k, rfl⟩ : ∃ k', k = k' + 1 := ⟨k - 1, by omega⟩
    have hj : j < ps.length := by omega
    have hpl : (ps.getD j []).length ≤ 2097152 := hp _ (by rw [List.getD_eq_getElem?_getD, List.getElem?_eq_getElem hj]; exact List.getElem_mem hj)
    have ih := val_l0 key ps hp hl n (j + 1) k (by omega) (by omega)
    unfold billetref04_Value.l0
    rw [if_pos (by rw [List.length_map]; omega), if_pos (by omega), rdOf_ba ps j hj, rcut _ hpl k (by omega)]
    simp only [Option.bind_some]
    rw [wrapN j (by omega), ih, find_drop (fun p => keyOf p == key) ps j [] hj]
    by_cases hc : keyOf (ps.getD j []) = key
    · rw [if_pos (by rw [Lib.toList_data, Lib.toList_data, list_ba, list_ba]; exact hc), if_pos (beq_iff_eq.2 hc)]
      rfl
    · rw [if_neg (by rw [Lib.toList_data, Lib.toList_data, list_ba, list_ba]; exact hc), if_neg (fun e => hc (beq_iff_eq.1 e))]
theorem val_j0 (k : Nat) (x y : ByteArray) (b : Bool) : billetref04_Value.j0 (k + 1) x y b = if b = true then some ((⟨#[]⟩ : ByteArray), false) else (billetref04_split.f k x).bind fun t => billetref04_Value.l0 k y t 0 := by unfold billetref04_Value.j0; rfl
theorem rValue (l key : Bs) (hl : l.length ≤ 2097152) (k : Nat) (hk : 4194400 ≤ k) : billetref04_Value.f k (ba l) (ba key) = some (ba ((valueP l key).getD []), (valueP l key).isSome) := by
  unfold billetref04_Value.f valueP
  rw [rIsLabels l hl k hk]
  simp only [Option.bind_some]
  obtain ⟨k, rfl⟩ : ∃ k', k = k' + 1 := ⟨k - 1, by omega⟩
  by_cases hi : isLabels l = true
  · rw [if_pos hi, if_pos hi, val_j0]
    by_cases h0 : l = []
    · subst h0
      rw [if_pos (by rw [Lib.toList_data, list_ba]; rfl)]
      rfl
    · have hb : ((ba l).toList == ([] : List UInt8)) = false := by rw [Lib.toList_data, list_ba]; exact beq_eq_false_iff_ne.2 h0
      rw [hb, if_neg (by decide), rsplit l hl k (by omega)]
      have hc := splitC_count 44 l
      have := val_l0 key (splitC 44 l) (splitC_small l hl) (by omega) (splitC 44 l).length 0 k (by omega) (by omega)
      rw [List.drop_zero] at this
      simp only [Option.bind_some]
      unfold partsP
      rw [if_neg h0]
      exact this
  · rw [if_neg hi, if_neg hi, val_j0, if_pos rfl]
    rfl
end Go.Proofs.YtfafdcdmaimghaaGreatDoor

/- Layer 4, plainly: the document's IsSelector, Match, as the print tells them. -/
import Derived.Test.YtfafdcdmaimghaaGreatDoorLabU
import Derived.Test.YtfafdcdmaimghaaGreatDoorRfD
set_option linter.unusedVariables false
set_option linter.unusedSimpArgs false
namespace Go.Proofs.YtfafdcdmaimghaaGreatDoor
open Go Go.RowKit PR Go.Proofs.YtfafdcdmaimghaaGreatDoorW.PrintWords

theorem nm_any : isNm anyT = true := by decide
theorem refT_ok (l : Bs) : (refT l).2.2.2.2 = decide ((readT l).1 ≠ 0) := by
  unfold refT readT rawT
  by_cases h1 : (cutE 61 l).2.2 = true
  · simp only [if_pos h1]
    by_cases h2 : (keyOf l).getLast? = some 33
    · simp only [if_pos h2]
      cases (isNm (keyOf l).dropLast && isNm (valOf l)) <;> simp
    · simp only [if_neg h2]
      cases (isNm (keyOf l) && isNm (valOf l)) <;> simp
  · simp only [if_neg h1]
    by_cases h2 : (keyOf l).head? = some 33
    · simp only [if_pos h2, nm_any, Bool.and_true]
      cases isNm (keyOf l).tail <;> simp
    · simp only [if_neg h2, nm_any, Bool.and_true]
      cases isNm (keyOf l) <;> simp
theorem all_drop (q : Bs → Bool) (ps : List Bs) (k : Nat) (hk : k < ps.length) : (ps.drop k).all q = (q (ps.getD k []) && (ps.drop (k + 1)).all q) := by
  rw [List.drop_eq_getElem_cons hk, List.all_cons, List.getD_eq_getElem?_getD, List.getElem?_eq_getElem hk]
  rfl
theorem isSel_l0 (ps : List Bs) (hp : ∀ p ∈ ps, p.length ≤ 2097152) (hl : ps.length ≤ 2097153) : ∀ (n j k : Nat), j + n = ps.length → n + 2097210 < k → billetref04_IsSelector.l0 k (ps.map ba) (j : Int) = some (((ps.drop j).all fun p => decide ((readT p).1 ≠ 0)) && decide (ps.length ≤ 4))
  | 0, j, k, h, hk => by
    obtain ⟨k, rfl⟩ : ∃ k', k = k' + 1 := ⟨k - 1, by omega⟩
    unfold billetref04_IsSelector.l0
    rw [if_neg (by rw [List.length_map]; omega), List.drop_of_length_le (by omega), List.length_map]
    show some _ = some (true && _)
    rw [Bool.true_and]
    congr 1
    exact decide_eq_decide.2 (by omega)
  | n + 1, j, k, h, hk => by
    obtain ⟨k, rfl⟩ : ∃ k', k = k' + 1 := ⟨k - 1, by omega⟩
    have hj : j < ps.length := by omega
    have hpl : (ps.getD j []).length ≤ 2097152 := hp _ (by rw [List.getD_eq_getElem?_getD, List.getElem?_eq_getElem hj]; exact List.getElem_mem hj)
    have ih := isSel_l0 ps hp hl n (j + 1) k (by omega) (by omega)
    unfold billetref04_IsSelector.l0
    rw [if_pos (by rw [List.length_map]; omega), if_pos (by omega), rdOf_ba ps j hj, rterm _ hpl k (by omega)]
    simp only [Option.bind_some]
    rw [wrapN j (by omega), ih, all_drop _ ps j hj, refT_ok]
    cases decide ((readT (ps.getD j [])).1 ≠ 0) <;> simp
theorem rIsSelector (l : Bs) (hl : l.length ≤ 2097152) (k : Nat) (hk : 4194400 ≤ k) : billetref04_IsSelector.f k (ba l) = some (isSel l) := by
  unfold billetref04_IsSelector.f isSel partsP
  by_cases h0 : l = []
  · rw [if_pos ((ba_empty l).2 h0), if_pos h0]
    rfl
  · rw [if_neg (fun e => h0 ((ba_empty l).1 e)), if_neg h0, rsplit l hl k (by omega)]
    have hc := splitC_count 44 l
    have := isSel_l0 (splitC 44 l) (splitC_small l hl) (by omega) (splitC 44 l).length 0 k (by omega) (by omega)
    simp only [Option.bind_some]
    rw [List.drop_zero] at this
    rw [Bool.and_comm]
    exact this
theorem dec_beq (a b : Bs) : decide (a = b) = (a == b) := by rw [Bool.eq_iff_iff]; simp
theorem hold_ref (p L : Bs) (h : (readT p).1 ≠ 0) : holdsT (readT p) L = !(if (valueP L (refT p).1).isSome = true then (if (refT p).2.2.1 = true then (((valueP L (refT p).1).getD [] == (refT p).2.1) == (refT p).2.2.2.1) else (true == (refT p).2.2.2.1)) else (false == (refT p).2.2.2.1)) := by
  have hr : readT p = rawT p := by
    unfold readT at h ⊢
    by_cases hc : (isNm (rawT p).2.1 && isNm (rawT p).2.2) = true
    · rw [if_pos hc]
    · rw [if_neg hc] at h; exact absurd rfl h
  rw [hr]
  unfold rawT refT
  by_cases h1 : (cutE 61 p).2.2 = true
  · simp only [if_pos h1]
    by_cases h2 : (keyOf p).getLast? = some 33
    · simp only [if_pos h2, holdsT]
      cases valueP L (keyOf p).dropLast <;> simp [dec_beq]
    · simp only [if_neg h2, holdsT]
      cases valueP L (keyOf p) <;> simp [dec_beq]
  · simp only [if_neg h1]
    by_cases h2 : (keyOf p).head? = some 33
    · simp only [if_pos h2, holdsT]
      cases valueP L (keyOf p).tail <;> simp
    · simp only [if_neg h2, holdsT]
      cases valueP L (keyOf p) <;> simp
theorem match_l0 (L : Bs) (hL : L.length ≤ 2097152) (ps : List Bs) (hp : ∀ p ∈ ps, p.length ≤ 2097152) (hok : ∀ p ∈ ps, (readT p).1 ≠ 0) (hl : ps.length ≤ 2097153) : ∀ (n j k : Nat), j + n = ps.length → n + 4194500 < k → billetref04_Match.l0 k (ba L) (ps.map ba) (j : Int) = some ((ps.drop j).all (fun p => holdsT (readT p) L), 0)
  | 0, j, k, h, hk => by
    obtain ⟨k, rfl⟩ : ∃ k', k = k' + 1 := ⟨k - 1, by omega⟩
    unfold billetref04_Match.l0
    rw [if_neg (by rw [List.length_map]; omega), List.drop_of_length_le (by omega)]
    rfl
  | n + 1, j, k, h, hk => by
    obtain ⟨k, rfl⟩ : ∃ k', k = k' + 1 := ⟨k - 1, by omega⟩
    have hj : j < ps.length := by omega
    have hmem : ps.getD j [] ∈ ps := by rw [List.getD_eq_getElem?_getD, List.getElem?_eq_getElem hj]; exact List.getElem_mem hj
    have hpl := hp _ hmem
    have ih := match_l0 L hL ps hp hok hl n (j + 1) k (by omega) (by omega)
    unfold billetref04_Match.l0
    rw [if_pos (by rw [List.length_map]; omega), if_pos (by omega), rdOf_ba ps j hj, rterm _ hpl k (by omega)]
    simp only [Option.bind_some]
    rw [rValue L _ hL k (by omega)]
    simp only [Option.bind_some]
    rw [wrapN j (by omega), ih, all_drop _ ps j hj, hold_ref _ L (hok _ hmem), Lib.toList_data, Lib.toList_data, list_ba, list_ba]
    generalize (valueP L (refT (ps.getD j [])).1).isSome = b1
    generalize (refT (ps.getD j [])).2.2.1 = b2
    generalize ((valueP L (refT (ps.getD j [])).1).getD [] == (refT (ps.getD j [])).2.1) = b3
    generalize (refT (ps.getD j [])).2.2.2.1 = b4
    cases b1 <;> cases b2 <;> cases b3 <;> cases b4 <;> simp
theorem match_j0 (k : Nat) (x y : ByteArray) (b : Bool) : billetref04_Match.j0 (k + 1) x y b = if b = true then some (false, 40) else (if x.toList = ([] : List UInt8) then some (true, 0) else (billetref04_split.f k x).bind fun t => billetref04_Match.l0 k y t 0) := by unfold billetref04_Match.j0; rfl
theorem rMatch (s l : Bs) (hs : s.length ≤ 2097152) (hl : l.length ≤ 2097152) (k : Nat) (hk : 8388800 ≤ k) : billetref04_Match.f k (ba s) (ba l) = some (matchP s l) := by
  unfold billetref04_Match.f matchP
  rw [rIsSelector s hs k (by omega), rIsLabels l hl k (by omega)]
  simp only [Option.bind_some]
  obtain ⟨k, rfl⟩ : ∃ k', k = k' + 1 := ⟨k - 1, by omega⟩
  cases h1 : isSel s with
  | false => simp [match_j0]
  | true =>
    cases h2 : isLabels l with
    | false => simp [match_j0]
    | true =>
      simp only [if_true, Bool.and_self, Bool.not_true]
      rw [match_j0, if_neg (by decide)]
      unfold isSel at h1
      unfold partsP at h1 ⊢
      by_cases h0 : s = []
      · rw [if_pos ((ba_empty s).2 h0), if_pos h0]
        rfl
      · rw [if_neg (fun e => h0 ((ba_empty s).1 e)), if_neg h0, rsplit s hs k (by omega)]
        rw [if_neg h0, Bool.and_eq_true] at h1
        have hok : ∀ p ∈ splitC 44 s, (readT p).1 ≠ 0 := fun p hp => of_decide_eq_true (List.all_eq_true.1 h1.2 p hp)
        have hc := splitC_count 44 s
        have := match_l0 l hl (splitC 44 s) (splitC_small s hs) hok (by omega) (splitC 44 s).length 0 k (by omega) (by omega)
        simp only [Option.bind_some]
        rw [List.drop_zero] at this
        exact this
end Go.Proofs.YtfafdcdmaimghaaGreatDoor

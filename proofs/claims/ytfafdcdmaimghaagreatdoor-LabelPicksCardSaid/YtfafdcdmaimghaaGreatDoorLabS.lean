/- Layer 4, plainly: the document's IsName, cut, split, as the print tells them. -/
import Derived.Test.YtfafdcdmaimghaaGreatDoorLabA
import Derived.Test.YtfafdcdmaimghaaGreatDoorRfA
set_option linter.unusedVariables false
set_option linter.unusedSimpArgs false
namespace Go.Proofs.YtfafdcdmaimghaaGreatDoor
open Go Go.RowKit PR Go.Proofs.YtfafdcdmaimghaaGreatDoorW.PrintWords

theorem bt_ba (l : Bs) (i : Nat) (hi : i < l.length) : bt (ba l) (i : Int) = ((l.getD i 0).toNat : Int) := by
  unfold bt
  rw [dif_pos (show (i : Int).toNat < (ba l).size by rw [ba_size]; simpa using hi)]
  rw [List.getD_eq_getElem?_getD, List.getElem?_eq_getElem hi]
  simp [ba, ByteArray.getElem_eq_getElem_data]
theorem wrapN (n : Nat) (h : n ≤ 4611686018427387904) : wrap64 ((n : Int) + 1) = ((n + 1 : Nat) : Int) := by unfold wrap64; omega
theorem isLet_int (c : UInt8) : isLet c = decide ((97 ≤ (c.toNat : Int) ∧ (c.toNat : Int) ≤ 122) ∨ (48 ≤ (c.toNat : Int) ∧ (c.toNat : Int) ≤ 57)) := by
  unfold isLet
  rw [Bool.eq_iff_iff]
  simp only [Bool.or_eq_true, Bool.and_eq_true, decide_eq_true_eq, UInt8.le_iff_toNat_le]
  have e1 : (97 : UInt8).toNat = 97 := rfl
  have e2 : (122 : UInt8).toNat = 122 := rfl
  have e3 : (48 : UInt8).toNat = 48 := rfl
  have e4 : (57 : UInt8).toNat = 57 := rfl
  rw [e1, e2, e3, e4]
  omega
theorem drop_getD (l : Bs) (j : Nat) (hj : j < l.length) : l.drop j = l.getD j 0 :: l.drop (j + 1) := by
  rw [List.drop_eq_getElem_cons hj, List.getD_eq_getElem?_getD, List.getElem?_eq_getElem hj]
  rfl
theorem isName_l0 (l : Bs) (hl : l.length ≤ 2097152) : ∀ (n j k : Nat), j + n = l.length → n < k → billetref04_IsName.l0 k (ba l) (j : Int) = some ((l.drop j).all isLet)
  | 0, j, k, h, hk => by
    obtain ⟨k, rfl⟩ : ∃ k', k = k' + 1 := ⟨k - 1, by omega⟩
    unfold billetref04_IsName.l0
    rw [if_neg (by rw [ba_size]; omega), List.drop_of_length_le (by omega)]
    rfl
  | n + 1, j, k, h, hk => by
    obtain ⟨k, rfl⟩ : ∃ k', k = k' + 1 := ⟨k - 1, by omega⟩
    have hj : j < l.length := by omega
    have ih := isName_l0 l hl n (j + 1) k (by omega) (by omega)
    unfold billetref04_IsName.l0
    rw [if_pos (by rw [ba_size]; omega), if_pos (by omega), bt_ba l j hj, wrapN j (by omega), ih, drop_getD l j hj, List.all_cons, isLet_int]
    generalize ((l.getD j 0).toNat : Int) = c
    generalize (l.drop (j + 1)).all isLet = r
    by_cases h1 : c ≥ 97
    · by_cases h2 : c ≤ 122
      · simp [h1, h2, show c ≥ 48 by omega]
      · simp [h1, h2, show c ≥ 48 by omega, show ¬ c ≤ 57 by omega]
    · by_cases h3 : c ≥ 48
      · by_cases h4 : c ≤ 57
        · simp [h1, h3, h4]
        · simp [h1, h3, h4]
      · simp [h1, h3]
theorem isName_j0 (k : Nat) (x : ByteArray) (b : Bool) : billetref04_IsName.j0 (k + 1) x b = if b = true then some false else billetref04_IsName.l0 k x 0 := by unfold billetref04_IsName.j0; rfl
theorem rIsName (l : Bs) (hl : l.length ≤ 2097152) (k : Nat) (hk : l.length + 2 ≤ k) : billetref04_IsName.f k (ba l) = some (isNm l) := by
  obtain ⟨k, rfl⟩ : ∃ k', k = k' + 1 := ⟨k - 1, by omega⟩
  have h0 := isName_l0 l hl l.length 0 k (by omega) (by omega)
  rw [List.drop_zero] at h0
  unfold billetref04_IsName.f isNm
  rw [ba_size]
  cases l with
  | nil => rfl
  | cons a t =>
    rw [if_neg (by simp only [List.length_cons]; omega)]
    rw [isName_j0]
    by_cases h12 : (a :: t).length ≤ 12
    · rw [decide_eq_false (by omega), if_neg (by decide), decide_eq_true h12]
      have h00 : billetref04_IsName.l0 k (ba (a :: t)) 0 = some ((a :: t).all isLet) := h0
      rw [h00]
      rfl
    · rw [decide_eq_true (by omega), if_pos rfl, decide_eq_false h12]
      simp
theorem ext_ba (l : Bs) (a b : Nat) (h1 : a ≤ b) (h2 : b ≤ l.length) : (ba l).extract a b = ba ((l.take b).drop a) := by
  have h : ((ba l).extract a b).data.toList = (l.take b).drop a := by
    rw [ByteArray.data_extract, Array.toList_extract, list_ba]
    simp [List.extract, List.drop_take]
  rw [← ba_list ((ba l).extract a b), h]
theorem cutE_cons (c b : UInt8) (t : Bs) : cutE c (b :: t) = if b = c then ([], t, true) else (b :: (cutE c t).1, (cutE c t).2.1, (cutE c t).2.2) := by rw [cutE]
theorem cutE_miss (c : UInt8) : ∀ l : Bs, (cutE c l).2.2 = false → (cutE c l).1 = l ∧ (cutE c l).2.1 = []
  | [], _ => ⟨rfl, rfl⟩
  | b :: t, h => by
    unfold cutE at h ⊢
    by_cases hb : b = c
    · rw [if_pos hb] at h; cases h
    · rw [if_neg hb] at h ⊢
      obtain ⟨e1, e2⟩ := cutE_miss c t h
      exact ⟨by rw [e1], e2⟩
theorem cut_l0 (l : Bs) (hl : l.length ≤ 2097152) : ∀ (n j k : Nat), j + n = l.length → n < k → billetref04_cut.l0 k (ba l) (j : Int) = some (if (cutE 61 (l.drop j)).2.2 = true then (ba (l.take j ++ (cutE 61 (l.drop j)).1), ba (cutE 61 (l.drop j)).2.1, true) else (ba l, ba [], false))
  | 0, j, k, h, hk => by
    obtain ⟨k, rfl⟩ : ∃ k', k = k' + 1 := ⟨k - 1, by omega⟩
    unfold billetref04_cut.l0
    rw [if_neg (by rw [ba_size]; omega), List.drop_of_length_le (by omega)]
    rfl
  | n + 1, j, k, h, hk => by
    obtain ⟨k, rfl⟩ : ∃ k', k = k' + 1 := ⟨k - 1, by omega⟩
    have hj : j < l.length := by omega
    have ih := cut_l0 l hl n (j + 1) k (by omega) (by omega)
    unfold billetref04_cut.l0
    rw [if_pos (by rw [ba_size]; omega), if_pos (by omega), bt_ba l j hj, wrapN j (by omega), ih, drop_getD l j hj]
    have htk : l.take (j + 1) = l.take j ++ [l.getD j 0] := by
      rw [List.take_add_one, List.getD_eq_getElem?_getD, List.getElem?_eq_getElem hj]
      rfl
    have hx : ((ba l).extract 0 ((j : Int)).toNat) = ba (l.take j) := ext_ba l 0 j (by omega) (by omega)
    have hy : ((ba l).extract (((j + 1 : Nat) : Int)).toNat (ba l).size) = ba (l.drop (j + 1)) := by
      rw [ba_size, Int.toNat_natCast]
      rw [ext_ba l (j + 1) l.length (by omega) (by omega), List.take_of_length_le (Nat.le_refl _)]
    by_cases hc : l.getD j 0 = 61
    · rw [if_pos (by rw [hc]; rfl), if_pos (by rw [ba_size]; omega), if_pos (by omega), if_pos (by rw [ba_size]; omega), hx, hy]
      rw [cutE_cons, if_pos hc]
      simp
    · have hc2 : ¬ ((l.getD j 0).toNat : Int) = 61 := fun e => hc (UInt8.toNat_inj.1 (by show _ = 61; omega))
      rw [if_neg hc2]
      rw [cutE_cons, if_neg hc, htk]
      simp only [List.append_assoc, List.singleton_append]
theorem rcut (l : Bs) (hl : l.length ≤ 2097152) (k : Nat) (hk : l.length + 1 ≤ k) : billetref04_cut.f k (ba l) = some (ba (keyOf l), ba (valOf l), (cutE 61 l).2.2) := by
  unfold billetref04_cut.f
  have h := cut_l0 l hl l.length 0 k (by omega) (by omega)
  have h0 : billetref04_cut.l0 k (ba l) 0 = _ := h
  rw [h0, List.drop_zero, List.take_zero, List.nil_append]
  cases hc : (cutE 61 l).2.2 with
  | true => rfl
  | false =>
    obtain ⟨e1, e2⟩ := cutE_miss 61 l hc
    unfold keyOf valOf
    rw [e1, e2]
    rfl
def glue (c : UInt8) (p t : Bs) : List Bs := match splitC c t with
  | [] => [p]
  | h :: r => (p ++ h) :: r
theorem splitC_cons (c b : UInt8) (t : Bs) : splitC c (b :: t) = if b = c then [] :: splitC c t else match splitC c t with
    | [] => [[b]]
    | h :: r => (b :: h) :: r := by
  rw [splitC]
  by_cases h : b = c
  · rw [if_pos h, if_pos h]
  · rw [if_neg h, if_neg h]
    cases splitC c t <;> rfl
theorem glue_nil (c : UInt8) (p : Bs) : glue c p [] = [p] := by simp [glue, splitC]
theorem glue_none (c : UInt8) (t : Bs) : glue c [] t = splitC c t := by
  unfold glue
  cases h : splitC c t with
  | nil => exact absurd h (splitC_ne c t)
  | cons a r => rfl
theorem glue_hit (c : UInt8) (p t : Bs) : glue c p (c :: t) = p :: splitC c t := by
  unfold glue
  rw [splitC_cons, if_pos rfl]
  simp
theorem glue_miss (c b : UInt8) (p t : Bs) (h : b ≠ c) : glue c p (b :: t) = glue c (p ++ [b]) t := by
  unfold glue
  rw [splitC_cons, if_neg h]
  cases hs : splitC c t with
  | nil => exact absurd hs (splitC_ne c t)
  | cons a r => simp
theorem split_l0 (l : Bs) (hl : l.length ≤ 2097152) : ∀ (n j k a : Nat) (acc : List ByteArray), j + n = l.length → n < k → a ≤ j → acc.length ≤ j → billetref04_split.l0 k (ba l) acc (a : Int) (j : Int) = some (acc ++ (glue 44 ((l.take j).drop a) (l.drop j)).map ba)
  | 0, j, k, a, acc, h, hk, ha, hc => by
    obtain ⟨k, rfl⟩ : ∃ k', k = k' + 1 := ⟨k - 1, by omega⟩
    unfold billetref04_split.l0
    rw [if_neg (by rw [ba_size]; omega), if_pos (by omega), if_pos (by rw [ba_size]; omega), if_pos (by omega), List.drop_of_length_le (show l.length ≤ j by omega), glue_nil]
    have hx := ext_ba l a l.length (by omega) (Nat.le_refl _)
    rw [ba_size, Int.toNat_natCast, hx, show j = l.length by omega]
    rfl
  | n + 1, j, k, a, acc, h, hk, ha, hc => by
    obtain ⟨k, rfl⟩ : ∃ k', k = k' + 1 := ⟨k - 1, by omega⟩
    have hj : j < l.length := by omega
    unfold billetref04_split.l0
    rw [if_pos (by rw [ba_size]; omega), if_pos (by omega), bt_ba l j hj, wrapN j (by omega), drop_getD l j hj]
    have htk : (l.take (j + 1)).drop a = (l.take j).drop a ++ [l.getD j 0] := by
      rw [List.take_add_one, List.getD_eq_getElem?_getD, List.getElem?_eq_getElem hj, List.drop_append_of_le_length (by rw [List.length_take]; omega)]
      rfl
    by_cases hcm : l.getD j 0 = 44
    · have ih := split_l0 l hl n (j + 1) k (j + 1) (acc ++ [ba ((l.take j).drop a)]) (by omega) (by omega) (Nat.le_refl _) (by rw [List.length_append, List.length_singleton]; omega)
      have hx := ext_ba l a j ha (by omega)
      rw [if_pos (by rw [hcm]; rfl), if_pos (by omega), if_pos (by omega), if_pos (by rw [ba_size]; omega), if_pos (by omega), Int.toNat_natCast, Int.toNat_natCast, hx, ih, hcm, glue_hit]
      rw [List.drop_of_length_le (show (l.take (j + 1)).length ≤ j + 1 by rw [List.length_take]; omega), glue_none]
      simp
    · have hc2 : ¬ ((l.getD j 0).toNat : Int) = 44 := fun e => hcm (UInt8.toNat_inj.1 (by show _ = 44; omega))
      have ih := split_l0 l hl n (j + 1) k a acc (by omega) (by omega) (by omega) (by omega)
      rw [if_neg hc2, ih, glue_miss 44 _ _ _ hcm, htk]
theorem rsplit (l : Bs) (hl : l.length ≤ 2097152) (k : Nat) (hk : l.length + 1 ≤ k) : billetref04_split.f k (ba l) = some ((splitC 44 l).map ba) := by
  unfold billetref04_split.f
  have h := split_l0 l hl l.length 0 k 0 [] (by omega) (by omega) (Nat.le_refl _) (Nat.le_refl _)
  have h0 : billetref04_split.l0 k (ba l) [] 0 0 = _ := h
  simp only [h0, List.drop_zero, List.take_zero, glue_none, List.nil_append]
end Go.Proofs.YtfafdcdmaimghaaGreatDoor

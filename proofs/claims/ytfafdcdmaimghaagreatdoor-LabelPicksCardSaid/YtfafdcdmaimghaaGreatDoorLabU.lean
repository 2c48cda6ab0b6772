/- Layer 4, plainly: the document's term, IsSelector, as the print tells them. -/
import Derived.Test.YtfafdcdmaimghaaGreatDoorLabT
import Derived.Test.YtfafdcdmaimghaaGreatDoorLabF
import Derived.Test.YtfafdcdmaimghaaGreatDoorRfC
set_option linter.unusedVariables false
set_option linter.unusedSimpArgs false
namespace Go.Proofs.YtfafdcdmaimghaaGreatDoor
open Go Go.RowKit PR Go.Proofs.YtfafdcdmaimghaaGreatDoorW.PrintWords

/-- The document's term: key, value, whether it asks, whether it is turned over, whether it is one. -/
def refT (l : Bs) : Bs × Bs × Bool × Bool × Bool :=
  if (cutE 61 l).2.2 = true then (if (keyOf l).getLast? = some 33 then ((keyOf l).dropLast, valOf l, true, true, isNm (keyOf l).dropLast && isNm (valOf l)) else (keyOf l, valOf l, true, false, isNm (keyOf l) && isNm (valOf l)))
  else if (keyOf l).head? = some 33 then ((keyOf l).tail, valOf l, false, true, isNm (keyOf l).tail) else (keyOf l, valOf l, false, false, isNm (keyOf l))
theorem term_j0 (k : Nat) (x0 x7 x8 : ByteArray) (x9 x10 x30 : Bool) : billetref04_term.j0 (k + 1) x0 x7 x8 x9 x10 x30 = if x30 = true then (if 1 ≤ (x0.size : Int) then billetref04_term.j1 k (x0.extract 1 x0.size) x8 x9 true else none) else billetref04_term.j1 k x7 x8 x9 x10 := by unfold billetref04_term.j0; rfl
theorem term_j1 (k : Nat) (x7 x8 : ByteArray) (x9 x10 : Bool) : billetref04_term.j1 (k + 1) x7 x8 x9 x10 = if x9 = true then (if (x7.size : Int) > 0 then (if 0 ≤ (wrap64 ((x7.size : Int) - 1)) then (if (wrap64 ((x7.size : Int) - 1)) < (x7.size : Int) then (billetref04_term.j2 k x7 x8 x9 x10 ((bt x7 (wrap64 ((x7.size : Int) - 1))) == 33)) else none) else none) else (billetref04_term.j2 k x7 x8 x9 x10 false)) else (billetref04_term.j2 k x7 x8 x9 x10 false) := by unfold billetref04_term.j1; rfl
theorem term_j2f (k : Nat) (K V : Bs) (x9 x10 : Bool) (hK : K.length ≤ 2097152) (hV : V.length ≤ 2097152) (hk : 2097160 ≤ k) : billetref04_term.j2 (k + 1) (ba K) (ba V) x9 x10 false = some (ba K, ba V, x9, x10, isNm K && (!x9 || isNm V)) := by
  unfold billetref04_term.j2
  simp only [Bool.false_eq_true, if_false]
  rw [rIsName K hK k (by omega), rIsName V hV k (by omega)]
  simp only [Option.bind_some]
  cases isNm K <;> cases isNm V <;> cases x9 <;> rfl
theorem term_j2t (k : Nat) (K V : Bs) (x9 x10 : Bool) (hK : K.length ≤ 2097152) (hp : 0 < K.length) (hV : V.length ≤ 2097152) (hk : 2097160 ≤ k) : billetref04_term.j2 (k + 1) (ba K) (ba V) x9 x10 true = some (ba K.dropLast, ba V, x9, true, isNm K.dropLast && (!x9 || isNm V)) := by
  have hw : wrap64 (((ba K).size : Int) - 1) = ((K.length - 1 : Nat) : Int) := by rw [ba_size]; unfold wrap64; omega
  have hx : (ba K).extract 0 (wrap64 (((ba K).size : Int) - 1)).toNat = ba K.dropLast := by
    rw [hw, Int.toNat_natCast, ext_ba K 0 (K.length - 1) (by omega) (by omega), List.drop_zero, List.dropLast_eq_take]
  have hd : K.dropLast.length ≤ 2097152 := by rw [List.length_dropLast]; omega
  unfold billetref04_term.j2
  simp only [if_true]
  rw [if_pos (by rw [hw]; omega), if_pos (by rw [hw, ba_size]; omega), hx, rIsName _ hd k (by rw [List.length_dropLast]; omega), rIsName V hV k (by omega)]
  simp only [Option.bind_some]
  cases isNm K.dropLast <;> cases isNm V <;> cases x9 <;> rfl
theorem last_getD (K : Bs) (hp : 0 < K.length) : K.getLast? = some (K.getD (K.length - 1) 0) := by
  rw [List.getLast?_eq_getElem?, List.getD_eq_getElem?_getD, List.getElem?_eq_getElem (by omega)]
  rfl
theorem rterm (l : Bs) (hl : l.length ≤ 2097152) (k : Nat) (hk : 2097200 ≤ k) : billetref04_term.f k (ba l) = some (ba (refT l).1, ba (refT l).2.1, (refT l).2.2.1, (refT l).2.2.2.1, (refT l).2.2.2.2) := by
  unfold billetref04_term.f
  rw [rcut l hl k (by omega)]
  simp only [Option.bind_some]
  have hk1 := (cutE_len 61 l).1
  have hk2 := (cutE_len 61 l).2
  change (keyOf l).length ≤ _ at hk1
  change (valOf l).length ≤ _ at hk2
  obtain ⟨k, rfl⟩ : ∃ k', k = k' + 1 + 1 + 1 := ⟨k - 3, by omega⟩
  unfold refT
  cases hc : (cutE 61 l).2.2 with
  | true =>
    simp only [if_true]
    rw [term_j0]
    simp only [Bool.false_eq_true, if_false]
    rw [term_j1]
    simp only [if_true]
    by_cases hp : 0 < (keyOf l).length
    · have hw : wrap64 (((ba (keyOf l)).size : Int) - 1) = (((keyOf l).length - 1 : Nat) : Int) := by rw [ba_size]; unfold wrap64; omega
      rw [if_pos (by rw [ba_size]; omega), if_pos (by rw [hw]; omega), if_pos (by rw [hw, ba_size]; omega), hw, bt_ba (keyOf l) _ (by omega), last_getD (keyOf l) hp]
      by_cases h3 : (keyOf l).getD ((keyOf l).length - 1) 0 = 33
      · rw [h3, if_pos rfl]
        show billetref04_term.j2 (k + 1) (ba (keyOf l)) (ba (valOf l)) true false true = _
        rw [term_j2t k _ _ _ _ (by omega) hp (by omega) (by omega)]
        rfl
      · have h4 : ((((keyOf l).getD ((keyOf l).length - 1) 0).toNat : Int) == 33) = false := beq_eq_false_iff_ne.2 (fun e => h3 (UInt8.toNat_inj.1 (by show _ = 33; omega)))
        rw [h4, if_neg (fun e => h3 (Option.some.inj e)), term_j2f k _ _ _ _ (by omega) (by omega) (by omega)]
        rfl
    · have h0 : keyOf l = [] := List.length_eq_zero_iff.1 (by omega)
      rw [if_neg (by rw [ba_size]; omega), h0, term_j2f k _ _ _ _ (by simp) (by omega) (by omega)]
      rfl
  | false =>
    obtain ⟨e1, e2⟩ := cutE_miss 61 l hc
    have hkl : keyOf l = l := e1
    simp only [Bool.false_eq_true, if_false]
    cases hl2 : l with
    | nil =>
      subst hl2
      rw [if_neg (by rw [ba_size]; simp), term_j0]
      simp only [Bool.false_eq_true, if_false]
      rw [term_j1]
      simp only [Bool.false_eq_true, if_false]
      rw [term_j2f k _ _ _ _ (by omega) (by omega) (by omega)]
      simp [hkl]
    | cons a t =>
      rw [← hl2]
      have hp : 0 < l.length := by rw [hl2]; simp
      rw [if_pos (by rw [ba_size]; omega), if_pos (by rw [ba_size]; omega), hkl]
      have hb0 : bt (ba l) 0 = (a.toNat : Int) := by
        have := bt_ba l 0 hp
        rw [hl2] at this ⊢
        exact this
      rw [hb0, term_j0]
      by_cases h3 : a = 33
      · rw [h3, if_pos (by rfl), if_pos (by rw [ba_size]; omega), extract1 l, term_j1]
        simp only [Bool.false_eq_true, if_false]
        rw [term_j2f k _ _ _ _ (by rw [List.length_tail]; omega) (by omega) (by omega), if_pos (by rw [hl2, h3]; rfl)]
        simp
      · have h4 : ((a.toNat : Int) == 33) = false := beq_eq_false_iff_ne.2 (fun e => h3 (UInt8.toNat_inj.1 (by show _ = 33; omega)))
        rw [h4]
        simp only [Bool.false_eq_true, if_false]
        rw [term_j1]
        simp only [Bool.false_eq_true, if_false]
        rw [term_j2f k _ _ _ _ (by omega) (by omega) (by omega), if_neg (by rw [hl2]; intro e; exact h3 (Option.some.inj e))]
        simp
end Go.Proofs.YtfafdcdmaimghaaGreatDoor

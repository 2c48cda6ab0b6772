/- Layer 4, plainly: the document's joined, terms, sorted, Both, as the print tells them. -/
import Derived.Test.YtfafdcdmaimghaaGreatDoorLabV
import Derived.Test.YtfafdcdmaimghaaGreatDoorLabI
import Derived.Test.YtfafdcdmaimghaaGreatDoorLabR
import Derived.Test.YtfafdcdmaimghaaGreatDoorRfE
set_option linter.unusedVariables false
set_option linter.unusedSimpArgs false
namespace Go.Proofs.YtfafdcdmaimghaaGreatDoor
open Go Go.RowKit PR Go.Proofs.YtfafdcdmaimghaaGreatDoorW.PrintWords

theorem joinC_snoc (c : UInt8) : ∀ (l : List Bs) (x : Bs), joinC c (l ++ [x]) = if l = [] then x else joinC c l ++ c :: x
  | [], x => by simp [joinC]
  | [p], x => by simp [joinC]
  | p :: q :: r, x => by
    have ih := joinC_snoc c (q :: r) x
    rw [if_neg (by simp)] at ih
    rw [if_neg (by simp)]
    show p ++ c :: joinC c ((q :: r) ++ [x]) = (p ++ c :: joinC c (q :: r)) ++ c :: x
    rw [ih]
    simp
theorem ba_app (a b : Bs) : ba a ++ ba b = ba (a ++ b) := by
  have h : (ba a ++ ba b).data.toList = a ++ b := by simp [ba]
  rw [← ba_list (ba a ++ ba b), h]
theorem joined_l0 (l : List Bs) (hp : ∀ p ∈ l, p.length ≤ 2097152) (hl : l.length ≤ 4194400) : ∀ (n j k : Nat), j + n = l.length → n < k → billetref04_joined.l0 k (l.map ba) (ba (joinC 44 (l.take j))) (j : Int) = some (ba (joinC 44 l))
  | 0, j, k, h, hk => by
    obtain ⟨k, rfl⟩ : ∃ k', k = k' + 1 := ⟨k - 1, by omega⟩
    unfold billetref04_joined.l0
    rw [if_neg (by rw [List.length_map]; omega), List.take_of_length_le (by omega)]
  | n + 1, j, k, h, hk => by
    obtain ⟨k, rfl⟩ : ∃ k', k = k' + 1 := ⟨k - 1, by omega⟩
    have hj : j < l.length := by omega
    have hmem : l.getD j [] ∈ l := by rw [List.getD_eq_getElem?_getD, List.getElem?_eq_getElem hj]; exact List.getElem_mem hj
    have hpl := hp _ hmem
    have ih := joined_l0 l hp hl n (j + 1) k (by omega) (by omega)
    have htk : l.take (j + 1) = l.take j ++ [l.getD j []] := by
      rw [List.take_add_one, List.getD_eq_getElem?_getD, List.getElem?_eq_getElem hj]
      rfl
    have hjl := join_len 2097152 (l.take j) (fun p h => hp p (List.mem_of_mem_take h))
    rw [List.length_take, Nat.min_eq_left (by omega)] at hjl
    have hb : j * (2097152 + 1) ≤ 4194400 * (2097152 + 1) := Nat.mul_le_mul_right _ (by omega)
    rw [htk, joinC_snoc] at ih
    have e44 : (⟨#[44]⟩ : ByteArray) = ba [44] := rfl
    unfold billetref04_joined.l0
    rw [if_pos (by rw [List.length_map]; omega), rdOf_ba l j hj, wrapN j (by omega)]
    by_cases h0 : j = 0
    · subst h0
      clear hb hjl
      have e0 : joinC 44 (l.take 0) = [] := by rw [List.take_zero]; rfl
      rw [e0, if_neg (by omega), if_pos (by omega), if_pos (by rw [ba_size, ba_size, List.length_nil]; omega), ba_app]
      rw [List.take_zero, if_pos rfl] at ih
      rw [← ih]
      rfl
    · have hne : l.take j ≠ [] := by
        intro e
        have := congrArg List.length e
        rw [List.length_take, List.length_nil] at this
        omega
      rw [if_neg hne] at ih
      rw [if_pos (by omega), if_pos (by rw [ba_size]; omega), if_pos (by omega), e44, ba_app, if_pos (by rw [ba_size, ba_size, List.length_append, List.length_singleton]; omega), ba_app, ← ih]
      simp only [List.append_assoc, List.singleton_append]
theorem rjoined (l : List Bs) (hp : ∀ p ∈ l, p.length ≤ 2097152) (hl : l.length ≤ 4194400) (k : Nat) (hk : l.length + 1 ≤ k) : billetref04_joined.f k (l.map ba) = some (ba (joinC 44 l)) :=
  joined_l0 l hp hl l.length 0 k (by omega) (by omega)
theorem rterms (l : Bs) (hl : l.length ≤ 2097152) (k : Nat) (hk : 4194400 ≤ k) : billetref04_terms.f k (ba l) = some ((partsP l).map ba) := by
  unfold billetref04_terms.f partsP
  by_cases h0 : l = []
  · rw [if_pos ((ba_empty l).2 h0), if_pos h0]
    rfl
  · rw [if_neg (fun e => h0 ((ba_empty l).1 e)), if_neg h0, rsplit l hl k (by omega)]
    rfl
/-- One text put into a rising list, as the document's sorted does it. -/
def insL (x : Bs) : List Bs → Bool → List Bs
  | [], put => if put = true then [] else [x]
  | o :: os, put => if (!put && !decide (o < x)) = true then x :: (if o = x then insL x os true else o :: insL x os true) else (if o = x then insL x os put else o :: insL x os put)
theorem insL_true (x : Bs) : ∀ os : List Bs, (∀ o ∈ os, x < o) → insL x os true = os
  | [], _ => rfl
  | o :: os, h => by
    have h1 := h o List.mem_cons_self
    have hne : ¬ o = x := fun e => by rw [e] at h1; exact bs_lt_irrefl x h1
    rw [insL, if_neg (by simp), if_neg hne, insL_true x os (fun y hy => h y (List.mem_cons_of_mem _ hy))]
theorem insL_len2 (x : Bs) : ∀ os : List Bs, (insL x os true).length ≤ os.length ∧ (insL x os false).length ≤ os.length + 1
  | [] => by simp [insL]
  | o :: os => by
    obtain ⟨h1, h2⟩ := insL_len2 x os
    constructor
    · rw [insL, if_neg (by simp)]
      by_cases he : o = x
      · rw [if_pos he, List.length_cons]; omega
      · rw [if_neg he, List.length_cons, List.length_cons]; omega
    · rw [insL]
      by_cases hc : (!false && !decide (o < x)) = true
      · rw [if_pos hc]
        by_cases he : o = x
        · rw [if_pos he, List.length_cons, List.length_cons]; omega
        · rw [if_neg he, List.length_cons, List.length_cons, List.length_cons]; omega
      · rw [if_neg hc]
        by_cases he : o = x
        · rw [if_pos he, List.length_cons]; omega
        · rw [if_neg he, List.length_cons, List.length_cons]; omega
theorem insL_rising (x : Bs) : ∀ os : List Bs, os.Pairwise (· < ·) → (insL x os false).Pairwise (· < ·) ∧ ∀ y, y ∈ insL x os false ↔ y = x ∨ y ∈ os
  | [], _ => ⟨by simp [insL], fun y => by simp [insL]⟩
  | o :: os, h => by
    rw [List.pairwise_cons] at h
    obtain ⟨ih1, ih2⟩ := insL_rising x os h.2
    by_cases hlt : o < x
    · have hne : ¬ o = x := fun e => by rw [e] at hlt; exact bs_lt_irrefl x hlt
      rw [insL, if_neg (by simp [hlt]), if_neg hne]
      refine ⟨List.pairwise_cons.2 ⟨fun y hy => ?_, ih1⟩, fun y => ?_⟩
      · rcases (ih2 y).1 hy with rfl | hy
        · exact hlt
        · exact h.1 y hy
      · rw [List.mem_cons, ih2, List.mem_cons]
        constructor
        · rintro (h | h | h)
          · exact .inr (.inl h)
          · exact .inl h
          · exact .inr (.inr h)
        · rintro (h | h | h)
          · exact .inr (.inl h)
          · exact .inl h
          · exact .inr (.inr h)
    · rw [insL, if_pos (by simp [hlt])]
      by_cases he : o = x
      · subst he
        rw [if_pos rfl, insL_true o os h.1]
        exact ⟨List.pairwise_cons.2 h, fun y => by simp⟩
      · have hxo : x < o := bs_lt_of_le_ne (List.not_lt.1 hlt) (fun e => he e.symm)
        have hos : ∀ y ∈ os, x < y := fun y hy => bs_lt_trans hxo (h.1 y hy)
        rw [if_neg he, insL_true x os hos]
        refine ⟨List.pairwise_cons.2 ⟨fun y hy => ?_, List.pairwise_cons.2 h⟩, fun y => by simp⟩
        rcases List.mem_cons.1 hy with rfl | hy
        · exact hxo
        · exact hos y hy
theorem ins_fold : ∀ (l out : List Bs), out.Pairwise (· < ·) → (l.foldl (fun o x => insL x o false) out).Pairwise (· < ·) ∧ ∀ y, y ∈ l.foldl (fun o x => insL x o false) out ↔ y ∈ l ∨ y ∈ out
  | [], out, h => ⟨h, fun y => by simp⟩
  | x :: l, out, h => by
    obtain ⟨h1, h2⟩ := insL_rising x out h
    obtain ⟨h3, h4⟩ := ins_fold l (insL x out false) h1
    refine ⟨h3, fun y => ?_⟩
    rw [List.foldl_cons, h4, h2, List.mem_cons]
    constructor
    · rintro (h | h | h)
      · exact .inl (.inr h)
      · exact .inl (.inl h)
      · exact .inr h
    · rintro ((h | h) | h)
      · exact .inr (.inl h)
      · exact .inl h
      · exact .inr (.inr h)
theorem ins_tidy (l : List Bs) : l.foldl (fun o x => insL x o false) [] = tidyL l := by
  obtain ⟨h1, h2⟩ := ins_fold l [] List.Pairwise.nil
  exact (tidyL_eq h1 (fun y => by rw [h2]; simp)).symm
theorem sorted_l1 (xs os : List Bs) (i : Nat) (hi : i < xs.length) (K : Nat) (ho : os.length ≤ 4194400) : ∀ (n j : Nat) (next : List Bs) (put : Bool), j + n = os.length → next.length ≤ 2 * j + 2 → billetref04_sorted.l1 (K + 2 * n + 1) (xs.map ba) (os.map ba) (i : Int) (next.map ba) put (j : Int) = billetref04_sorted.l0 K (xs.map ba) ((next ++ insL (xs.getD i []) (os.drop j) put).map ba) (wrap64 ((i : Int) + 1))
  | 0, j, next, put, h, hn => by
    unfold billetref04_sorted.l1
    rw [if_neg (by rw [List.length_map]; omega), List.drop_of_length_le (by omega)]
    cases put with
    | true => simp [insL]
    | false =>
      rw [if_neg (by decide), if_pos (by omega), if_pos (by rw [List.length_map]; omega), if_pos (by rw [List.length_map]; omega), rdOf_ba xs i hi]
      simp [insL]
  | n + 1, j, next, put, h, hn => by
    have hj : j < os.length := by omega
    have ih := fun (nx : List Bs) (pt : Bool) (hx : nx.length ≤ 2 * (j + 1) + 2) => sorted_l1 xs os i hi K ho n (j + 1) nx pt (by omega) (by omega)
    have hd : os.drop j = os.getD j [] :: os.drop (j + 1) := by
      rw [List.drop_eq_getElem_cons hj, List.getD_eq_getElem?_getD, List.getElem?_eq_getElem hj]
      rfl
    have hr := rdOf_ba os j hj
    have hx := rdOf_ba xs i hi
    have hw := wrapN j (by omega)
    have heq : ((ba (os.getD j [])).toList = (ba (xs.getD i [])).toList) ↔ os.getD j [] = xs.getD i [] := by rw [Lib.toList_data, Lib.toList_data, list_ba, list_ba]
    have h2 : ∀ c : Bool, billetref04_sorted.j2 (K + 2 * n + 1 + 1) (xs.map ba) (os.map ba) (i : Int) (next.map ba) put (j : Int) c = billetref04_sorted.l0 K (xs.map ba) ((next ++ (if c = true then xs.getD i [] :: (if os.getD j [] = xs.getD i [] then insL (xs.getD i []) (os.drop (j + 1)) true else os.getD j [] :: insL (xs.getD i []) (os.drop (j + 1)) true) else (if os.getD j [] = xs.getD i [] then insL (xs.getD i []) (os.drop (j + 1)) put else os.getD j [] :: insL (xs.getD i []) (os.drop (j + 1)) put))).map ba) (wrap64 ((i : Int) + 1)) := fun c => by
      unfold billetref04_sorted.j2
      cases c with
      | true =>
        rw [if_pos rfl, if_pos (by omega), if_pos (by rw [List.length_map]; omega), if_pos (by rw [List.length_map]; omega)]
        simp only [Option.bind_some]
        rw [if_pos (by omega), if_pos (by rw [List.length_map]; omega), hr, hx, hw]
        have e1 : next.map ba ++ [ba (xs.getD i [])] = (next ++ [xs.getD i []]).map ba := by simp
        rw [e1]
        by_cases he : os.getD j [] = xs.getD i []
        · rw [if_pos (heq.2 he), ih _ true (by rw [List.length_append, List.length_singleton]; omega), if_pos trivial, if_pos he]
          simp
        · have e2 : (next ++ [xs.getD i []]).map ba ++ [ba (os.getD j [])] = (next ++ [xs.getD i []] ++ [os.getD j []]).map ba := by simp
          rw [if_neg (fun e => he (heq.1 e)), if_pos (by rw [List.length_map, List.length_append, List.length_singleton]; omega), e2, if_pos trivial, if_neg he]
          rw [ih _ true (by simp only [List.length_append, List.length_singleton]; omega)]
          simp
      | false =>
        rw [if_neg (by decide), if_pos (by omega), if_pos (by rw [List.length_map]; omega), if_pos (by omega), if_pos (by rw [List.length_map]; omega), hr, hx, hw]
        by_cases he : os.getD j [] = xs.getD i []
        · rw [if_pos (heq.2 he), ih _ put (by omega), if_neg (by decide), if_pos he]
        · have e2 : next.map ba ++ [ba (os.getD j [])] = (next ++ [os.getD j []]).map ba := by simp
          rw [if_neg (fun e => he (heq.1 e)), if_pos (by rw [List.length_map]; omega), e2, ih _ put (by rw [List.length_append, List.length_singleton]; omega), if_neg (by decide), if_neg he]
          simp
    unfold billetref04_sorted.l1
    rw [if_pos (by rw [List.length_map]; omega), hd, insL, show K + 2 * (n + 1) = K + 2 * n + 1 + 1 by omega]
    cases put with
    | true =>
      rw [if_pos rfl, h2]
      simp
    | false =>
      rw [if_neg (by decide), if_pos (by omega), if_pos (by omega), if_pos (by rw [List.length_map]; omega), hr, hx, less_ba, h2]
      simp
theorem sorted_l0 (M : Nat) (xs : List Bs) (hx : xs.length ≤ 4194400) (hM : 2 * xs.length + 10 ≤ M) : ∀ (n i k : Nat) (os : List Bs), i + n = xs.length → os.length ≤ i → n * M + 1 ≤ k → billetref04_sorted.l0 k (xs.map ba) (os.map ba) (i : Int) = some (((xs.drop i).foldl (fun o x => insL x o false) os).map ba)
  | 0, i, k, os, h, ho, hk => by
    obtain ⟨k, rfl⟩ : ∃ k', k = k' + 1 := ⟨k - 1, by omega⟩
    unfold billetref04_sorted.l0
    rw [if_neg (by rw [List.length_map]; omega), List.drop_of_length_le (by omega)]
    rfl
  | n + 1, i, k, os, h, ho, hk => by
    have hi : i < xs.length := by omega
    rw [Nat.succ_mul] at hk
    obtain ⟨K, rfl⟩ : ∃ K, k = K + 2 * os.length + 1 + 1 := ⟨k - 2 - 2 * os.length, by omega⟩
    have hlen : (insL (xs.getD i []) os false).length ≤ i + 1 := Nat.le_trans (insL_len2 _ os).2 (by omega)
    have ih := sorted_l0 M xs hx hM n (i + 1) K (insL (xs.getD i []) os false) (by omega) hlen (by omega)
    have h1 := sorted_l1 xs os i hi K (by omega) os.length 0 [] false (by omega) (by simp)
    have h1' : billetref04_sorted.l1 (K + 2 * os.length + 1) (xs.map ba) (os.map ba) (i : Int) [] false 0 = _ := h1
    have hd : xs.drop i = xs.getD i [] :: xs.drop (i + 1) := by
      rw [List.drop_eq_getElem_cons hi, List.getD_eq_getElem?_getD, List.getElem?_eq_getElem hi]
      rfl
    unfold billetref04_sorted.l0
    rw [if_pos (by rw [List.length_map]; omega), h1', List.drop_zero, List.nil_append, wrapN i (by omega), ih, hd, List.foldl_cons]
theorem rsorted (xs : List Bs) (hx : xs.length ≤ 4194400) (k : Nat) (hk : xs.length * (2 * xs.length + 10) + 1 ≤ k) : billetref04_sorted.f k (xs.map ba) = some ((tidyL xs).map ba) := by
  have h := sorted_l0 (2 * xs.length + 10) xs hx (Nat.le_refl _) xs.length 0 k [] (by omega) (Nat.le_refl _) hk
  rw [List.drop_zero, ins_tidy] at h
  exact h
theorem both_j0 (k : Nat) (x y : ByteArray) (b : Bool) : billetref04_Both.j0 (k + 1) x y b = if b = true then some ((⟨#[]⟩ : ByteArray), 40) else ((billetref04_terms.f k x).bind fun t323 => (if ([] : List ByteArray).length + t323.length < 8796093022208 then ((some (([] : List ByteArray) ++ t323 : List ByteArray)).bind fun y326 => ((billetref04_terms.f k y).bind fun t329 => (if y326.length + t329.length < 8796093022208 then ((billetref04_sorted.f k (y326 ++ t329)).bind fun t335 => (if (t335.length : Int) > 4 then (some ((⟨#[]⟩ : ByteArray), 40)) else ((billetref04_joined.f k t335).bind fun t338 => (some (t338, 0))))) else (none)))) else (none))) := by unfold billetref04_Both.j0; rfl
theorem rBoth (a b : Bs) (ha : a.length ≤ 2097152) (hb : b.length ≤ 2097152) (k : Nat) (hk : 4194410 ≤ k) (hk2 : (partsP a ++ partsP b).length * (2 * (partsP a ++ partsP b).length + 10) + 2 ≤ k) : billetref04_Both.f k (ba a) (ba b) = some (ba (bothP a b).1, (bothP a b).2) := by
  unfold billetref04_Both.f bothP
  rw [rIsSelector a ha k (by omega), rIsSelector b hb k (by omega)]
  simp only [Option.bind_some]
  obtain ⟨k, rfl⟩ : ∃ k', k = k' + 1 := ⟨k - 1, by omega⟩
  cases h1 : isSel a with
  | false => simp [both_j0]; rfl
  | true =>
    cases h2 : isSel b with
    | false => simp [both_j0]; rfl
    | true =>
      have hca := parts_count a
      have hcb := parts_count b
      have hpa := parts_small a
      have hpb := parts_small b
      simp only [if_true, Bool.and_self, Bool.not_true]
      rw [both_j0, if_neg (by decide), rterms a ha k (by omega), rterms b hb k (by omega)]
      generalize partsP a = xs at *
      generalize partsP b = ys at *
      simp only [Option.bind_some, List.nil_append]
      rw [if_pos (by rw [List.length_nil, List.length_map]; omega), if_pos (by rw [List.length_map, List.length_map]; omega), ← List.map_append, rsorted (xs ++ ys) (by rw [List.length_append]; omega) k (by omega)]
      simp only [Option.bind_some]
      rw [List.length_map]
      by_cases h4 : (tidyL (xs ++ ys)).length ≤ 4
      · rw [if_neg (by omega), if_pos h4, rjoined (tidyL (xs ++ ys)) (fun p hp => by
          rcases List.mem_append.1 ((tidyL_mem _ p).1 hp) with h | h
          · exact Nat.le_trans (hpa p h) ha
          · exact Nat.le_trans (hpb p h) hb) (by omega) k (by omega)]
        rfl
      · rw [if_pos (by omega), if_neg h4]
        rfl
theorem rTidy (a : Bs) (ha : a.length ≤ 2097152) (k : Nat) (hk : 4194410 ≤ k) (hk2 : (partsP a).length * (2 * (partsP a).length + 10) + 2 ≤ k) : billetref04_Tidy.f k (ba a) = some (ba (bothP a []).1, (bothP a []).2) := by
  have h := rBoth a [] ha (by simp) k hk (by rw [show partsP [] = [] from rfl, List.append_nil]; exact hk2)
  have h0 : billetref04_Both.f k (ba a) (⟨#[]⟩ : ByteArray) = _ := h
  unfold billetref04_Tidy.f
  rw [h0]
  rfl
end Go.Proofs.YtfafdcdmaimghaaGreatDoor

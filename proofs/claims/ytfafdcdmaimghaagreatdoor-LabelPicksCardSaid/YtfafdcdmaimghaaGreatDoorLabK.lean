/- Layer 4: pick, Name, Term, Selector, Labels: what the code computes of raw numbers, plainly. -/
import Derived.Test.YtfafdcdmaimghaaGreatDoorLabA
import Derived.Test.YtfafdcdmaimghaaGreatDoorLabZ
import Derived.Test.YtfafdcdmaimghaaGreatDoorSlA
import Derived.Test.YtfafdcdmaimghaaGreatDoorLbA
set_option linter.unusedVariables false
set_option linter.unusedSimpArgs false
namespace Go.Proofs.YtfafdcdmaimghaaGreatDoor
open Go Go.RowKit PR Go.Proofs.YtfafdcdmaimghaaGreatDoorW.PrintWords

theorem ba_app' (a b : Bs) : ba a ++ ba b = ba (a ++ b) := by
  have h : (ba a ++ ba b).data.toList = a ++ b := by simp [ba]
  rw [← ba_list (ba a ++ ba b), h]
theorem wrap64_in' (n : Int) (h : -9223372036854775808 ≤ n ∧ n ≤ 9223372036854775807) : wrap64 n = n := by unfold wrap64; omega
theorem wrapS (n : Nat) (h : n ≤ 4194304) : wrap64 ((n : Int) + 1) = ((n + 1 : Nat) : Int) := wrap64_in' _ (by omega)
def i64 (n : Int) : Prop := -9223372036854775808 ≤ n ∧ n ≤ 9223372036854775807
theorem pk_of_nat (n : Nat) : pk (n : Int) = n := by unfold pk; rw [if_neg (by omega)]; exact Int.toNat_natCast n
theorem tmod_pk (x : Int) (m : Nat) (hx : 0 ≤ x) : Int.tmod x (m : Int) = ((x.toNat % m : Nat) : Int) := by
  obtain ⟨a, rfl⟩ := Int.eq_ofNat_of_zero_le hx
  rw [Int.tmod_eq_emod_of_nonneg hx, Int.toNat_natCast]
  rfl
theorem rpick (n : Int) (m : Nat) (hn : i64 n) (hm : 0 < m) : billetlaw04_pick.f n (m : Int) = some ((pk n % m : Nat) : Int) := by
  obtain ⟨h1, h2⟩ := hn
  unfold billetlaw04_pick.f pk
  by_cases h : n < 0
  · rw [if_pos h, if_neg (by omega), if_pos h]
    have e1 : wrap64 (n + 1) = n + 1 := wrap64_in' _ (by omega)
    have e2 : wrap64 (-(n + 1)) = -(n + 1) := wrap64_in' _ (by omega)
    rw [e1, e2, tmod_pk _ _ (by omega)]
  · rw [if_neg h, if_neg (by omega), if_neg h, tmod_pk _ _ (by omega)]
def names8 : List ByteArray := [(⟨#[97]⟩ : ByteArray), (⟨#[98]⟩ : ByteArray), (⟨#[122, 111, 110, 101]⟩ : ByteArray), (⟨#[100, 105, 115, 107]⟩ : ByteArray), (⟨#[103, 112, 117]⟩ : ByteArray), (⟨#[120, 57]⟩ : ByteArray), (⟨#[97, 98]⟩ : ByteArray), (⟨#[97, 98, 99, 100, 101, 102, 103, 104, 105, 106, 107, 108]⟩ : ByteArray)]
def keys8 : List ByteArray := [(⟨#[97]⟩ : ByteArray), (⟨#[97, 98]⟩ : ByteArray), (⟨#[97, 98, 99, 100, 101, 102, 103, 104, 105, 106, 107, 108]⟩ : ByteArray), (⟨#[98]⟩ : ByteArray), (⟨#[100, 105, 115, 107]⟩ : ByteArray), (⟨#[103, 112, 117]⟩ : ByteArray), (⟨#[120, 57]⟩ : ByteArray), (⟨#[122, 111, 110, 101]⟩ : ByteArray)]
theorem names8_eq : names8 = nameL.map ba := rfl
theorem keys8_eq : keys8 = keysL.map ba := rfl
theorem rdOf_ba' (l : List Bs) (j : Nat) (hj : j < l.length) : rdOf ByteArray.empty (l.map ba) (j : Int) = ba (l.getD j []) := by
  unfold rdOf
  simp [List.getD_eq_getElem?_getD, hj]
theorem rName (n : Int) (hn : i64 n) : billetlaw04_Name.f n = some (ba (nameP n)) := by
  have hlt : pk n % 8 < 8 := Nat.mod_lt _ (by omega)
  unfold billetlaw04_Name.f
  rw [Option.bind_some]
  show (billetlaw04_pick.f n ((8 : Nat) : Int)).bind (fun t => if 0 ≤ t then (if t < ((names8.length : Nat) : Int) then some (rdOf ByteArray.empty names8 t) else none) else none) = _
  have e8 : names8.length = 8 := rfl
  rw [rpick n 8 hn (by omega), Option.bind_some, e8, if_pos (by omega), if_pos (by omega)]
  have h := rdOf_ba' nameL (pk n % 8) hlt
  rw [← names8_eq] at h
  exact congrArg some h
theorem i64_nat (n : Nat) (h : n ≤ 9223372036854775807) : i64 (n : Int) := ⟨by omega, by omega⟩
theorem tdiv_nat (a b : Nat) (h : a ≤ 9223372036854775807) : wrap64 (Int.tdiv (a : Int) (b : Int)) = ((a / b : Nat) : Int) := by
  rw [Int.tdiv_eq_ediv_of_nonneg (by omega)]
  have h2 : a / b ≤ a := Nat.div_le_self _ _
  rw [show (a : Int) / (b : Int) = ((a / b : Nat) : Int) from rfl]
  generalize a / b = c at *
  exact wrap64_in' _ (by omega)
theorem rNameAt (j : Nat) (hj : j < 8) : billetlaw04_Name.f (j : Int) = some (ba (nmAt j)) := by
  rw [rName _ (i64_nat j (by omega)), nameP, pk_of_nat, Nat.mod_eq_of_lt hj]
theorem rTerm (n : Int) (hn : i64 n) : billetlaw04_Term.f n = some (ba (termP n)) := by
  have hj : pk n % 64 / 8 < 8 := by omega
  have hl1 := nameP_len n
  have hl2 := nm_len _ hj
  have ek : pk n % 256 % 8 = pk n % 8 := by omega
  have ev : pk n % 256 % 64 / 8 = pk n % 64 / 8 := by omega
  have et : termP n = termT (pk n % 256) := rfl
  unfold billetlaw04_Term.f
  rw [rName n hn, Option.bind_some, show (64 : Int) = ((64 : Nat) : Int) from rfl, rpick n 64 hn (by omega), Option.bind_some, show (8 : Int) = ((8 : Nat) : Int) from rfl, tdiv_nat _ _ (by omega), rNameAt _ hj, Option.bind_some,
    show (256 : Int) = ((256 : Nat) : Int) from rfl, rpick n 256 hn (by omega), Option.bind_some, tdiv_nat _ _ (by omega), ba_size, ba_size, et]
  unfold termT
  rw [ek, ev]
  rw [show nmAt (pk n % 8) = nameP n from rfl]
  have c0 : pk n % 256 / 64 < 4 := by omega
  by_cases h0 : pk n % 256 / 64 = 0
  · rw [if_pos (by omega), if_pos h0]
  · rw [if_neg (by omega), if_neg h0]
    by_cases h1 : pk n % 256 / 64 = 1
    · rw [if_pos (by omega), if_pos h1, if_pos (by omega)]
      exact congrArg some ((ba_app' [33] (nameP n)).trans (by simp))
    · rw [if_neg (by omega), if_neg h1]
      by_cases h2 : pk n % 256 / 64 = 2
      · rw [if_pos (by omega), if_pos h2, if_pos (by omega), if_pos (by omega)]
        rw [show (⟨#[61]⟩ : ByteArray) = ba [61] from rfl, ba_app', ba_app']
        simp
      · rw [if_neg (by omega), if_neg h2, if_pos (by omega), if_pos (by omega)]
        rw [show (⟨#[33, 61]⟩ : ByteArray) = ba [33, 61] from rfl, ba_app', ba_app']
        simp
theorem rd_at {l : List Int} {j : Nat} (h : j < l.length) : rd l (j : Int) = l[j] := by unfold rd; simp [List.getD_eq_getElem?_getD, h]
theorem selT_take (l : List Int) (j : Nat) (hj : j < min l.length 4) : (selT l).take (j + 1) = (selT l).take j ++ [termP (l[j]'(by omega))] := by
  have h : j < (selT l).length := by rw [selT_len]; exact hj
  rw [List.take_add_one, List.getElem?_eq_getElem h]
  simp [selT]
theorem selT_room (l : List Int) (j : Nat) : (joinC 44 ((selT l).take j)).length ≤ 108 :=
  joinC_room (c := 26) (fun p hp => by obtain ⟨n, _, rfl⟩ := List.mem_map.1 (List.mem_of_mem_take hp); exact (termP_ok n).2.2) (by have := (selT_ok l).n; rw [List.length_take]; omega)
theorem sel_l0 (l : List Int) (hl : ∀ x ∈ l, i64 x) : ∀ (n j k : Nat), j + n = min l.length 4 → 2 * n + 2 ≤ k → billetlaw04_Selector.l0 k l (ba (joinC 44 ((selT l).take j))) (j : Int) = some (ba (selP l))
  | 0, j, k, h, hk => by
    obtain ⟨k, rfl⟩ : ∃ k', k = k' + 1 + 1 := ⟨k - 2, by omega⟩
    have e : (selT l).take j = selT l := List.take_of_length_le (by rw [selT_len]; omega)
    unfold billetlaw04_Selector.l0
    by_cases h1 : j < l.length
    · rw [if_pos (by omega), decide_eq_false (by omega)]
      unfold billetlaw04_Selector.j1
      rw [if_neg (by simp), e]; rfl
    · rw [if_neg (by omega)]
      unfold billetlaw04_Selector.j1
      rw [if_neg (by simp), e]; rfl
  | n + 1, j, k, h, hk => by
    obtain ⟨k, rfl⟩ : ∃ k', k = k' + 1 + 1 := ⟨k - 2, by omega⟩
    have hj : j < l.length := by omega
    have ih := sel_l0 l hl n (j + 1) k (by omega) (by omega)
    have hr := selT_room l j
    have hx : i64 (rd l (j : Int)) := by rw [rd_at hj]; exact hl _ (List.getElem_mem hj)
    have htm := (termP_ok l[j]).2.2
    have hw : wrap64 ((j : Int) + 1) = ((j + 1 : Nat) : Int) := wrap64_in' _ (by omega)
    unfold billetlaw04_Selector.l0
    rw [if_pos (by omega), decide_eq_true (by omega)]
    unfold billetlaw04_Selector.j1
    rw [if_pos rfl, rTerm _ hx, rd_at hj, hw]
    rw [selT_take l j (by omega)] at ih
    by_cases h0 : j = 0
    · subst h0
      rw [if_neg (by omega), if_pos (by omega), if_pos (by omega), Option.bind_some, ba_size, ba_size, if_pos (by omega), ba_app']
      rw [List.take_zero] at ih ⊢
      exact ih
    · rw [if_pos (by omega), ba_size, if_pos (by omega), if_pos (by omega), if_pos (by omega), Option.bind_some, ba_size, if_pos (by omega)]
      rw [joinC_last 44 _ _ (fun e => by
        have := congrArg List.length e
        rw [List.length_take, selT_len, List.length_nil] at this; omega)] at ih
      rw [show (⟨#[44]⟩ : ByteArray) = ba [44] from rfl, ba_app', ba_app']
      exact ih
theorem rSelector (l : List Int) (hl : ∀ x ∈ l, i64 x) (k : Nat) (hk : 10 ≤ k) : billetlaw04_Selector.f k l = some (ba (selP l)) := by
  have h := sel_l0 l hl (min l.length 4) 0 k (by omega) (by omega)
  unfold billetlaw04_Selector.f
  rw [List.take_zero] at h
  exact h

/-! ### Labels -/
def labF (l : List Int) (i : Nat) : Option (Nat × Nat) := ((l.take 40).find? fun n => decide (pk n % 8 = i)).map fun n => (i, pk n % 64 / 8)
def labTo (l : List Int) (i : Nat) : List (Nat × Nat) := ((List.range i).filterMap (labF l)).take 4
theorem labTo_all (l : List Int) : labTo l 8 = labI l := rfl
theorem labTo_len (l : List Int) (i : Nat) : (labTo l i).length ≤ 4 := by unfold labTo; rw [List.length_take]; omega
theorem labTo_full {l : List Int} {i : Nat} (h : (labTo l i).length = 4) : labTo l (i + 1) = labTo l i := by
  unfold labTo at h ⊢
  rw [List.range_succ, List.filterMap_append]
  rw [List.length_take] at h
  rw [List.take_append_of_le_length (by omega)]
theorem labTo_none {l : List Int} {i : Nat} (h : labF l i = none) : labTo l (i + 1) = labTo l i := by
  unfold labTo
  rw [List.range_succ, List.filterMap_append]
  simp [h]
theorem labTo_some {l : List Int} {i : Nat} {x : Nat × Nat} (h : labF l i = some x) (hn : (labTo l i).length < 4) : labTo l (i + 1) = labTo l i ++ [x] := by
  unfold labTo at hn ⊢
  rw [List.length_take] at hn
  have hl : ((List.range i).filterMap (labF l)).length < 4 := by omega
  have e : (List.range (i + 1)).filterMap (labF l) = (List.range i).filterMap (labF l) ++ [x] := by
    rw [List.range_succ, List.filterMap_append]
    simp [h]
  rw [e, List.take_of_length_le (by rw [List.length_append, List.length_singleton]; omega), List.take_of_length_le (by omega)]
theorem labF_at {l : List Int} {i j : Nat} (hj : j < l.length) (h4 : j < 40) (hp : pk l[j] % 8 = i) (hb : ∀ a, (h : a < j) → pk (l[a]'(by omega)) % 8 ≠ i) : labF l i = some (i, pk l[j] % 64 / 8) := by
  have h1 : (l.take 40).find? (fun n => decide (pk n % 8 = i)) = some l[j] := by
    rw [List.find?_eq_some_iff_getElem]
    refine ⟨decide_eq_true hp, j, by rw [List.length_take]; omega, by simp, fun a ha => ?_⟩
    have := hb a ha
    simpa using this
  unfold labF
  rw [h1]; rfl
theorem labF_none {l : List Int} {i : Nat} (hb : ∀ a, (h : a < l.length) → a < 40 → pk l[a] % 8 ≠ i) : labF l i = none := by
  unfold labF
  rw [Option.map_eq_none_iff, List.find?_eq_none]
  intro x hx
  obtain ⟨a, ha, rfl⟩ := List.getElem_of_mem hx
  rw [List.length_take] at ha
  have := hb a (by omega) (by omega)
  simpa using this
def labS (l : List Int) (i : Nat) : Bs := joinC 44 ((labTo l i).map itemT)
theorem labTo_ok (l : List Int) (i : Nat) (hi : i ≤ 8) : ∀ x ∈ labTo l i, x.1 < 8 ∧ x.2 < 8 := by
  intro x hx
  obtain ⟨a, ha, h⟩ := List.mem_filterMap.1 (List.mem_of_mem_take hx)
  obtain ⟨n, hn, rfl⟩ := Option.map_eq_some_iff.1 h
  have := List.mem_range.1 ha
  exact ⟨by show a < 8; omega, by show pk n % 64 / 8 < 8; omega⟩
theorem labS_room (l : List Int) (i : Nat) (hi : i ≤ 8) : (labS l i).length ≤ 108 :=
  joinC_room (c := 26) (fun p hp => by
    obtain ⟨x, hx, rfl⟩ := List.mem_map.1 hp
    have hb := labTo_ok l i hi x hx
    exact Nat.le_trans (item_ok x.1 hb.1 x.2 hb.2).2.2.2.2.2 (by omega)) (by rw [List.length_map]; exact labTo_len l i)
theorem ky_len : ∀ i, i < 8 → (kyAt i).length ≤ 12 := by decide +kernel
set_option maxHeartbeats 1000000 in
/-- The inner loop, given what the next round computes. -/
theorem lab_l1 (K : List ByteArray) (hK : K.length = 8) (hkeys : ∀ i : Nat, i < 8 → rdOf ByteArray.empty K (i : Int) = ba (kyAt i)) (l : List Int) (hl : ∀ x ∈ l, i64 x) (i B : Nat) (hi : i < 8)
    (next : ∀ k, B ≤ k → billetlaw04_Labels.l0 k l K (ba (labS l (i + 1))) ((labTo l (i + 1)).length : Int) ((i + 1 : Nat) : Int) = some (ba (labP l))) :
    ∀ (m j k : Nat), j + m = min l.length 40 → B + 3 * m + 2 ≤ k → ((labTo l i).length = 4 ∨ ∀ a, (h : a < l.length) → a < j → pk l[a] % 8 ≠ i) →
      billetlaw04_Labels.l1 k l K (ba (labS l i)) ((labTo l i).length : Int) (i : Int) (j : Int) = some (ba (labP l))
  | 0, j, k, h, hk, hinv => by
    obtain ⟨k, rfl⟩ : ∃ k', k = k' + 1 + 1 := ⟨k - 2, by omega⟩
    have hsame : labTo l (i + 1) = labTo l i := by
      rcases hinv with h4 | hb
      · exact labTo_full h4
      · exact labTo_none (labF_none (fun a ha h40 => hb a ha (by omega)))
    have hn := next k (by omega)
    rw [labS, hsame] at hn
    unfold billetlaw04_Labels.l1
    by_cases h1 : j < l.length
    · rw [if_pos (by omega), decide_eq_false (by omega)]
      unfold billetlaw04_Labels.j2
      rw [if_neg (by simp), wrapS i (by omega)]
      exact hn
    · rw [if_neg (by omega)]
      unfold billetlaw04_Labels.j2
      rw [if_neg (by simp), wrapS i (by omega)]
      exact hn
  | m + 1, j, k, h, hk, hinv => by
    obtain ⟨k, rfl⟩ : ∃ k', k = k' + 1 + 1 + 1 := ⟨k - 3, by omega⟩
    have hj : j < l.length := by omega
    have hx : i64 (rd l (j : Int)) := by rw [rd_at hj]; exact hl _ (List.getElem_mem hj)
    have hcnt := labTo_len l i
    have hroom := labS_room l i (by omega)
    unfold billetlaw04_Labels.l1
    rw [if_pos (by omega), decide_eq_true (by omega)]
    unfold billetlaw04_Labels.j2
    rw [if_pos rfl, if_pos (by omega), if_pos (by omega), show (8 : Int) = ((8 : Nat) : Int) from rfl, rpick _ 8 hx (by omega), Option.bind_some, rd_at hj]
    by_cases hp : pk l[j] % 8 = i
    · rw [if_pos (by omega)]
      by_cases h4 : (labTo l i).length < 4
      · have hb : ∀ a, (h : a < l.length) → a < j → pk l[a] % 8 ≠ i := by
          rcases hinv with h | h
          · omega
          · exact h
        have hF := labF_at hj (by omega) hp (fun a ha => hb a (by omega) ha)
        have hS := labTo_some hF h4
        have hn := next k (by omega)
        have hlen : (labTo l (i + 1)).length = (labTo l i).length + 1 := by rw [hS]; simp
        have hjj : pk l[j] % 64 / 8 < 8 := by omega
        have hky := ky_len i hi
        have hnm := nm_len _ hjj
        have hkey := hkeys i hi
        rw [hlen] at hn
        rw [labS, hS, List.map_append, List.map_cons, List.map_nil] at hn
        rw [decide_eq_true (by omega)]
        unfold billetlaw04_Labels.j3
        rw [if_pos rfl, hkey, show (64 : Int) = ((64 : Nat) : Int) from rfl, rd_at hj, rpick _ 64 (by rw [rd_at hj] at hx; exact hx) (by omega), ba_size, ba_size, wrapS _ (by omega), wrapS i (by omega)]
        have tail : ∀ f : ByteArray → Option ByteArray, ((some ((pk l[j] % 64 : Nat) : Int)).bind fun t => (billetlaw04_Name.f (wrap64 (Int.tdiv t 8))).bind f) = f (ba (nmAt (pk l[j] % 64 / 8))) := by
          intro f
          rw [Option.bind_some, show (8 : Int) = ((8 : Nat) : Int) from rfl, tdiv_nat _ _ (by omega), rNameAt _ hjj, Option.bind_some]
        have klen : (i : Int) < ((K.length : Nat) : Int) := by rw [hK]; omega
        by_cases h0 : (labTo l i).length = 0
        · have e0 : labTo l i = [] := List.length_eq_zero_iff.1 h0
          have es : labS l i = [] := by rw [labS, e0]; rfl
          rw [e0] at hn
          rw [if_neg (by omega), if_pos (by omega), if_pos klen, if_pos (by omega), if_pos (by omega), if_pos (by omega), if_pos (by omega), tail, ba_size, if_pos (by omega)]
          rw [show (⟨#[61]⟩ : ByteArray) = ba [61] from rfl, ba_app', ba_app', ba_app', es, e0]
          have e1 : [] ++ kyAt i ++ [61] ++ nmAt (pk l[j] % 64 / 8) = itemT (i, pk l[j] % 64 / 8) := by simp [itemT]
          rw [e1]
          exact hn
        · rw [if_pos (by omega), if_pos (by omega), if_pos (by omega), if_pos klen, if_pos (by omega), if_pos (by omega), if_pos (by omega), if_pos (by omega), tail, ba_size, if_pos (by omega)]
          rw [joinC_last 44 _ _ (fun e => h0 (by simpa using e))] at hn
          rw [show (⟨#[61]⟩ : ByteArray) = ba [61] from rfl, show (⟨#[44]⟩ : ByteArray) = ba [44] from rfl, ba_app', ba_app', ba_app', ba_app']
          have e1 : labS l i ++ [44] ++ kyAt i ++ [61] ++ nmAt (pk l[j] % 64 / 8) = joinC 44 ((labTo l i).map itemT) ++ [44] ++ itemT (i, pk l[j] % 64 / 8) := by simp [itemT, labS]
          rw [e1]
          exact hn
      · rw [decide_eq_false (by omega)]
        unfold billetlaw04_Labels.j3
        rw [if_neg (by simp), wrapS j (by omega)]
        exact lab_l1 K hK hkeys l hl i B hi next m (j + 1) k (by omega) (by omega) (.inl (by omega))
    · rw [if_neg (by omega)]
      unfold billetlaw04_Labels.j3
      rw [if_neg (by simp), wrapS j (by omega)]
      refine lab_l1 K hK hkeys l hl i B hi next m (j + 1) k (by omega) (by omega) ?_
      rcases hinv with h | h
      · exact .inl h
      · refine .inr (fun a ha haj => ?_)
        rcases Nat.lt_or_ge a j with h1 | h1
        · exact h a ha h1
        · have : a = j := by omega
          subst this; exact hp
theorem lab_l0 (K : List ByteArray) (hK : K.length = 8) (hkeys : ∀ i : Nat, i < 8 → rdOf ByteArray.empty K (i : Int) = ba (kyAt i)) (l : List Int) (hl : ∀ x ∈ l, i64 x) : ∀ (n i k : Nat), i + n = 8 → n * 130 + 2 ≤ k → billetlaw04_Labels.l0 k l K (ba (labS l i)) ((labTo l i).length : Int) (i : Int) = some (ba (labP l))
  | 0, i, k, h, hk => by
    obtain ⟨k, rfl⟩ : ∃ k', k = k' + 1 := ⟨k - 1, by omega⟩
    obtain rfl : i = 8 := by omega
    unfold billetlaw04_Labels.l0
    rw [if_neg (by omega)]
    rfl
  | n + 1, i, k, h, hk => by
    obtain ⟨k, rfl⟩ : ∃ k', k = k' + 1 := ⟨k - 1, by omega⟩
    unfold billetlaw04_Labels.l0
    rw [if_pos (by omega)]
    have h1 := lab_l1 K hK hkeys l hl i (n * 130 + 2) (by omega) (fun k hk => lab_l0 K hK hkeys l hl n (i + 1) k (by omega) hk) (min l.length 40) 0 k (by omega) (by omega) (.inr (fun a _ ha => absurd ha (Nat.not_lt_zero _)))
    exact h1
theorem rLabels (l : List Int) (hl : ∀ x ∈ l, i64 x) (k : Nat) (hk : 1100 ≤ k) : billetlaw04_Labels.f k l = some (ba (labP l)) := by
  have h := lab_l0 keys8 rfl (fun i hi => by rw [keys8_eq]; exact rdOf_ba' keysL i hi) l hl 8 0 k (by omega) (by omega)
  unfold billetlaw04_Labels.f
  exact h
end Go.Proofs.YtfafdcdmaimghaaGreatDoor

/- Layer 4, plainly: raw numbers as names, terms, selectors, labels; what the laws say of these. -/
import Derived.Test.YtfafdcdmaimghaaGreatDoorLabR
set_option linter.unusedVariables false
set_option linter.unusedSimpArgs false
namespace Go.Proofs.YtfafdcdmaimghaaGreatDoor
open Go

/-! ### texts joined of pieces -/
theorem joinC_ne {ts : List Bs} (h : ∀ p ∈ ts, p ≠ []) (hn : ts ≠ []) : joinC 44 ts ≠ [] := by
  cases ts with
  | nil => exact absurd rfl hn
  | cons p r =>
    cases r with
    | nil => exact h p (List.mem_cons_self)
    | cons q r => simp [joinC]
def Pieces (ts : List Bs) : Prop := ∀ p ∈ ts, (44 : UInt8) ∉ p ∧ p ≠ []
theorem parts_join {ts : List Bs} (h : Pieces ts) : partsP (joinC 44 ts) = ts := by
  unfold partsP
  cases ts with
  | nil => simp [joinC]
  | cons p r =>
    rw [if_neg (joinC_ne (fun q hq => (h q hq).2) (by simp))]
    exact splitC_join 44 _ (by simp) (fun q hq => (h q hq).1)
theorem joinC_cons (c : UInt8) (p : Bs) {r : List Bs} (hr : r ≠ []) : joinC c (p :: r) = p ++ c :: joinC c r := by
  cases r with
  | nil => exact absurd rfl hr
  | cons q r => rfl
def roomL (ts : List Bs) : Nat := (ts.map (fun p => p.length + 1)).sum
theorem joinC_len (c : UInt8) : ∀ ts : List Bs, ts ≠ [] → (joinC c ts).length + 1 = roomL ts
  | [], h => absurd rfl h
  | [p], _ => by simp [joinC, roomL]
  | p :: q :: r, _ => by
    have ih := joinC_len c (q :: r) (by simp)
    simp only [joinC, roomL, List.length_append, List.length_cons, List.map_cons, List.sum_cons] at ih ⊢
    omega
theorem roomL_perm {a b : List Bs} (h : a.Perm b) : roomL a = roomL b := by
  induction h with
  | nil => rfl
  | cons x _ ih => simp only [roomL, List.map_cons, List.sum_cons] at ih ⊢; omega
  | swap x y l => simp only [roomL, List.map_cons, List.sum_cons]; omega
  | trans _ _ ih1 ih2 => exact ih1.trans ih2
theorem roomL_sub {a b : List Bs} (h : a.Sublist b) : roomL a ≤ roomL b := by
  induction h with
  | slnil => exact Nat.le_refl _
  | cons x _ ih => simp only [roomL, List.map_cons, List.sum_cons] at ih ⊢; omega
  | cons_cons x _ ih => simp only [roomL, List.map_cons, List.sum_cons] at ih ⊢; omega
theorem compact_sub (l : List Bs) : (Lib.compact l).Sublist l := by
  have h1 : (Lib.compact l).Sublist ((List.range l.length).map (l.toArray[·]!)) := by
    unfold Lib.compact Lib.compactUpTo
    exact (List.filter_sublist).map _
  have h2 : (List.range l.length).map (l.toArray[·]!) = l := by
    refine List.ext_getElem (by simp) (fun i h3 h4 => ?_)
    simp [h4]
  rwa [h2] at h1
theorem tidyL_room (l : List Bs) : roomL (tidyL l) ≤ roomL l := by
  unfold tidyL
  exact Nat.le_trans (roomL_sub (compact_sub _)) (Nat.le_of_eq (roomL_perm (List.mergeSort_perm l _)))
theorem tidyL_length (l : List Bs) : (tidyL l).length ≤ l.length := by
  unfold tidyL
  exact Nat.le_trans (compact_sub _).length_le (Nat.le_of_eq (List.mergeSort_perm l _).length_eq)
theorem tidyL_none {l : List Bs} (h : tidyL l = []) : l = [] := by
  cases l with
  | nil => rfl
  | cons x r =>
    have := (tidyL_mem (x :: r) x).2 List.mem_cons_self
    rw [h] at this; exact absurd this (by simp)
theorem tidyL_joined (l : List Bs) : (joinC 44 (tidyL l)).length ≤ (joinC 44 l).length := by
  rcases Classical.em (l = []) with e | e
  · subst e; rw [tidyL_nil]; exact Nat.le_refl _
  · have h1 := joinC_len 44 l e
    have h2 := joinC_len 44 (tidyL l) (fun h => e (tidyL_none h))
    have h3 := tidyL_room l
    omega

/-! ### a selector's pieces -/
structure SelT (ts : List Bs) : Prop where
  p : Pieces ts
  n : ts.length ≤ 4
  k : ∀ p ∈ ts, (readT p).1 ≠ 0
theorem SelT.sel {ts : List Bs} (h : SelT ts) : isSel (joinC 44 ts) = true := by
  unfold isSel
  rw [parts_join h.p, Bool.and_eq_true, List.all_eq_true]
  exact ⟨decide_eq_true h.n, fun p hp => decide_eq_true (h.k p hp)⟩
theorem SelT.none : SelT [] := ⟨fun _ h => (by cases h), Nat.zero_le _, fun _ h => (by cases h)⟩
theorem SelT.tidy {a b : List Bs} (ha : SelT a) (hb : SelT b) (hn : (tidyL (a ++ b)).length ≤ 4) : SelT (tidyL (a ++ b)) := by
  refine ⟨fun p hp => ?_, hn, fun p hp => ?_⟩
  · rcases List.mem_append.1 ((tidyL_mem _ p).1 hp) with h | h
    · exact ha.p p h
    · exact hb.p p h
  · rcases List.mem_append.1 ((tidyL_mem _ p).1 hp) with h | h
    · exact ha.k p h
    · exact hb.k p h
theorem SelT.tidy1 {a : List Bs} (ha : SelT a) : SelT (tidyL a) := by
  have h := SelT.tidy ha SelT.none (by rw [List.append_nil]; exact Nat.le_trans (tidyL_length a) ha.n)
  rwa [List.append_nil] at h
theorem bothP_of {a b : List Bs} (ha : SelT a) (hb : SelT b) :
    bothP (joinC 44 a) (joinC 44 b) = if (tidyL (a ++ b)).length ≤ 4 then (joinC 44 (tidyL (a ++ b)), 0) else ([], 40) := by
  unfold bothP
  rw [ha.sel, hb.sel, parts_join ha.p, parts_join hb.p]
  rfl
theorem bothP_ok {a b : List Bs} (ha : SelT a) (hb : SelT b) (hn : (tidyL (a ++ b)).length ≤ 4) :
    bothP (joinC 44 a) (joinC 44 b) = (joinC 44 (tidyL (a ++ b)), 0) := by rw [bothP_of ha hb, if_pos hn]
theorem tidyP_of {a : List Bs} (ha : SelT a) : bothP (joinC 44 a) [] = (joinC 44 (tidyL a), 0) := by
  have h := bothP_ok ha SelT.none (by rw [List.append_nil]; exact Nat.le_trans (tidyL_length a) ha.n)
  rwa [List.append_nil] at h
theorem matchP_of {a : List Bs} (ha : SelT a) {l : Bs} (hl : isLabels l = true) :
    matchP (joinC 44 a) l = (a.all fun p => holdsT (readT p) l, 0) := by
  unfold matchP
  rw [ha.sel, hl, parts_join ha.p]
  rfl
theorem all_mem {a b : List Bs} (f : Bs → Bool) (h : ∀ x, x ∈ a ↔ x ∈ b) : a.all f = b.all f := by
  rw [Bool.eq_iff_iff, List.all_eq_true, List.all_eq_true]
  exact ⟨fun k x hx => k x ((h x).2 hx), fun k x hx => k x ((h x).1 hx)⟩

/-! ### raw numbers -/
def pk (n : Int) : Nat := (if n < 0 then -(n + 1) else n).toNat
def nameL : List Bs := [[97], [98], [122, 111, 110, 101], [100, 105, 115, 107], [103, 112, 117], [120, 57], [97, 98], [97, 98, 99, 100, 101, 102, 103, 104, 105, 106, 107, 108]]
def nmAt (k : Nat) : Bs := nameL.getD k []
def keysL : List Bs := [[97], [97, 98], [97, 98, 99, 100, 101, 102, 103, 104, 105, 106, 107, 108], [98], [100, 105, 115, 107], [103, 112, 117], [120, 57], [122, 111, 110, 101]]
def kyAt (k : Nat) : Bs := keysL.getD k []
def nameP (n : Int) : Bs := nmAt (pk n % 8)
def termT (k : Nat) : Bs :=
  if k / 64 = 0 then nmAt (k % 8) else if k / 64 = 1 then 33 :: nmAt (k % 8) else if k / 64 = 2 then nmAt (k % 8) ++ 61 :: nmAt (k % 64 / 8) else nmAt (k % 8) ++ 33 :: 61 :: nmAt (k % 64 / 8)
def termP (n : Int) : Bs := termT (pk n % 256)
def selT (l : List Int) : List Bs := (l.take 4).map termP
def selP (l : List Int) : Bs := joinC 44 (selT l)
def itemT (x : Nat × Nat) : Bs := kyAt x.1 ++ 61 :: nmAt x.2
def labI (l : List Int) : List (Nat × Nat) :=
  ((List.range 8).filterMap fun i => ((l.take 40).find? fun n => decide (pk n % 8 = i)).map fun n => (i, pk n % 64 / 8)).take 4
def labT (l : List Int) : List Bs := (labI l).map itemT
def labP (l : List Int) : Bs := joinC 44 (labT l)

theorem termT_ok : ∀ k, k < 256 → ((44 : UInt8) ∉ termT k ∧ termT k ≠ []) ∧ (readT (termT k)).1 ≠ 0 ∧ (termT k).length ≤ 26 := by decide +kernel
theorem termP_ok (n : Int) : ((44 : UInt8) ∉ termP n ∧ termP n ≠ []) ∧ (readT (termP n)).1 ≠ 0 ∧ (termP n).length ≤ 26 :=
  termT_ok _ (Nat.mod_lt _ (by omega))
theorem selT_len (l : List Int) : (selT l).length = min l.length 4 := by
  unfold selT; rw [List.length_map, List.length_take, Nat.min_comm]
theorem selT_ok (l : List Int) : SelT (selT l) := by
  refine ⟨fun p hp => ?_, by rw [selT_len]; omega, fun p hp => ?_⟩
  · obtain ⟨n, _, rfl⟩ := List.mem_map.1 hp
    exact (termP_ok n).1
  · obtain ⟨n, _, rfl⟩ := List.mem_map.1 hp
    exact (termP_ok n).2.1
theorem roomL_le {ts : List Bs} {c : Nat} (h : ∀ p ∈ ts, p.length ≤ c) : roomL ts ≤ ts.length * (c + 1) := by
  induction ts with
  | nil => simp [roomL]
  | cons p r ih =>
    have h1 := h p List.mem_cons_self
    have h2 := ih (fun q hq => h q (List.mem_cons_of_mem _ hq))
    simp only [roomL, List.map_cons, List.sum_cons, List.length_cons, Nat.add_mul] at h2 ⊢
    omega
theorem joinC_room {ts : List Bs} {c : Nat} (h : ∀ p ∈ ts, p.length ≤ c) (hn : ts.length ≤ 4) : (joinC 44 ts).length ≤ 4 * (c + 1) := by
  rcases Classical.em (ts = []) with e | e
  · subst e; simp [joinC]
  · have h1 := joinC_len 44 ts e
    have h2 := roomL_le h
    have h3 : ts.length * (c + 1) ≤ 4 * (c + 1) := Nat.mul_le_mul_right _ hn
    omega
theorem selP_len (l : List Int) : (selP l).length ≤ 108 :=
  joinC_room (c := 26) (fun p hp => by obtain ⟨n, _, rfl⟩ := List.mem_map.1 hp; exact (termP_ok n).2.2) (selT_ok l).n

theorem item_ok1 : ∀ i, i < 8 → ∀ j, j < 8 → ((44 : UInt8) ∉ itemT (i, j) ∧ itemT (i, j) ≠ []) ∧ cutE 61 (itemT (i, j)) = (kyAt i, nmAt j, true) := by decide +kernel
theorem item_ok2 : ∀ i, i < 8 → ∀ j, j < 8 → isNm (kyAt i) = true ∧ isNm (nmAt j) = true := by decide +kernel
theorem item_ok3 : ∀ i, i < 8 → ∀ j, j < 8 → readT (itemT (i, j)) = (3, kyAt i, nmAt j) ∧ (itemT (i, j)).length ≤ 25 := by decide +kernel
theorem item_ok (i : Nat) (hi : i < 8) (j : Nat) (hj : j < 8) : ((44 : UInt8) ∉ itemT (i, j) ∧ itemT (i, j) ≠ []) ∧ cutE 61 (itemT (i, j)) = (kyAt i, nmAt j, true) ∧ isNm (kyAt i) = true ∧ isNm (nmAt j) = true ∧ readT (itemT (i, j)) = (3, kyAt i, nmAt j) ∧ (itemT (i, j)).length ≤ 25 :=
  ⟨(item_ok1 i hi j hj).1, (item_ok1 i hi j hj).2, (item_ok2 i hi j hj).1, (item_ok2 i hi j hj).2, item_ok3 i hi j hj⟩
theorem ky_lt : ∀ i, i < 8 → ∀ j, j < 8 → i < j → kyAt i < kyAt j := by decide +kernel
theorem ky_pos : ∀ i, i < 8 → [] < kyAt i := by decide +kernel
structure Labs (L : List (Nat × Nat)) : Prop where
  b : ∀ x ∈ L, x.1 < 8 ∧ x.2 < 8
  o : L.Pairwise (fun x y => x.1 < y.1)
theorem labI_ok (l : List Int) : Labs (labI l) := by
  constructor
  · intro x hx
    obtain ⟨i, hi, h⟩ := List.mem_filterMap.1 (List.mem_of_mem_take hx)
    obtain ⟨n, hn, rfl⟩ := Option.map_eq_some_iff.1 h
    exact ⟨List.mem_range.1 hi, by show pk n % 64 / 8 < 8; omega⟩
  · refine List.Pairwise.sublist (List.take_sublist _ _) ?_
    rw [List.pairwise_filterMap]
    refine List.Pairwise.imp ?_ (List.pairwise_lt_range)
    intro i j hij x hx y hy
    obtain ⟨n, _, rfl⟩ := Option.map_eq_some_iff.1 hx
    obtain ⟨m, _, rfl⟩ := Option.map_eq_some_iff.1 hy
    exact hij
theorem labI_len (l : List Int) : (labI l).length ≤ 4 := by unfold labI; rw [List.length_take]; omega
theorem labOk_items : ∀ (L : List (Nat × Nat)) (last : Bs), (∀ x ∈ L, x.1 < 8 ∧ x.2 < 8) → L.Pairwise (fun x y => x.1 < y.1) → (∀ x ∈ L, last < kyAt x.1) → labOk (L.map itemT) last = true
  | [], _, _, _, _ => rfl
  | (i, j) :: r, last, hb, ho, hl => by
    have h := item_ok i (hb _ List.mem_cons_self).1 j (hb _ List.mem_cons_self).2
    have ho' := List.pairwise_cons.1 ho
    have ih := labOk_items r (kyAt i) (fun x hx => hb x (List.mem_cons_of_mem _ hx)) ho'.2 (fun x hx => ky_lt i (hb _ List.mem_cons_self).1 x.1 (hb x (List.mem_cons_of_mem _ hx)).1 (ho'.1 x hx))
    simp only [List.map_cons, labOk, keyOf, valOf, h.2.1, h.2.2.1, h.2.2.2.1, ih, Bool.and_true, Bool.true_and, decide_eq_true_eq]
    exact hl (i, j) List.mem_cons_self
theorem items_pieces {L : List (Nat × Nat)} (h : Labs L) : Pieces (L.map itemT) := by
  intro p hp
  obtain ⟨x, hx, rfl⟩ := List.mem_map.1 hp
  exact (item_ok x.1 (h.b x hx).1 x.2 (h.b x hx).2).1
theorem labT_pieces (l : List Int) : Pieces (labT l) := items_pieces (labI_ok l)
theorem labT_len (l : List Int) : (labT l).length ≤ 4 := by unfold labT; rw [List.length_map]; exact labI_len l
theorem labP_ok (l : List Int) : isLabels (labP l) = true := by
  unfold isLabels labP
  rw [parts_join (labT_pieces l), Bool.and_eq_true]
  exact ⟨labOk_items _ _ (labI_ok l).b (labI_ok l).o (fun x hx => ky_pos _ ((labI_ok l).b x hx).1), decide_eq_true (labT_len l)⟩
theorem labP_len (l : List Int) : (labP l).length ≤ 108 :=
  joinC_room (c := 26) (fun p hp => by
    obtain ⟨x, hx, rfl⟩ := List.mem_map.1 hp
    exact Nat.le_trans (item_ok x.1 ((labI_ok l).b x hx).1 x.2 ((labI_ok l).b x hx).2).2.2.2.2.2 (by omega)) (labT_len l)
theorem labT_sel (l : List Int) : SelT (labT l) := by
  refine ⟨labT_pieces l, labT_len l, fun p hp => ?_⟩
  obtain ⟨x, hx, rfl⟩ := List.mem_map.1 hp
  rw [(item_ok x.1 ((labI_ok l).b x hx).1 x.2 ((labI_ok l).b x hx).2).2.2.2.2.1]
  simp
theorem nm_len : ∀ i, i < 8 → (nmAt i).length ≤ 12 := by decide +kernel
theorem nm_ok : ∀ i, i < 8 → isNm (nmAt i) = true := by decide +kernel
theorem nameP_len (n : Int) : (nameP n).length ≤ 12 := nm_len _ (Nat.mod_lt _ (by omega))
theorem find_item : ∀ (L : List (Nat × Nat)), (∀ x ∈ L, x.1 < 8 ∧ x.2 < 8) → L.Pairwise (fun x y => x.1 < y.1) → ∀ i j, (i, j) ∈ L → (L.map itemT).find? (fun p => keyOf p == kyAt i) = some (itemT (i, j))
  | [], _, _, _, _, h => by cases h
  | (a, b) :: r, hb, ho, i, j, h => by
    have ho' := List.pairwise_cons.1 ho
    have ha := item_ok a (hb _ List.mem_cons_self).1 b (hb _ List.mem_cons_self).2
    rw [List.map_cons, List.find?_cons]
    rcases List.mem_cons.1 h with e | e
    · obtain ⟨rfl, rfl⟩ := Prod.mk.inj e
      simp [keyOf, ha.2.1]
    · have hi := (hb (i, j) (List.mem_cons_of_mem _ e)).1
      have hlt := ky_lt a (hb _ List.mem_cons_self).1 i hi (ho'.1 _ e)
      have hne : (keyOf (itemT (a, b)) == kyAt i) = false := by
        rw [keyOf, ha.2.1, beq_eq_false_iff_ne]
        intro e2
        have e3 : kyAt a = kyAt i := e2
        rw [e3] at hlt
        exact bs_lt_irrefl _ hlt
      rw [hne]
      exact find_item r (fun x hx => hb x (List.mem_cons_of_mem _ hx)) ho'.2 i j e
theorem value_item (l : List Int) {i j : Nat} (h : (i, j) ∈ labI l) : valueP (labP l) (kyAt i) = some (nmAt j) := by
  unfold valueP
  rw [labP_ok, if_pos rfl]
  unfold labP
  rw [parts_join (labT_pieces l)]
  unfold labT
  rw [find_item _ (labI_ok l).b (labI_ok l).o i j h]
  have hb := (labI_ok l).b _ h
  simp [valOf, (item_ok i hb.1 j hb.2).2.1]
theorem value_isNm (l : List Int) {k v : Bs} (h : valueP (labP l) k = some v) : isNm v = true := by
  unfold valueP at h
  rw [labP_ok, if_pos rfl] at h
  unfold labP at h
  rw [parts_join (labT_pieces l)] at h
  obtain ⟨p, hp, rfl⟩ := Option.map_eq_some_iff.1 h
  obtain ⟨x, hx, rfl⟩ := List.mem_map.1 (List.mem_of_find?_eq_some hp)
  have hb := (labI_ok l).b _ hx
  have hk := item_ok x.1 hb.1 x.2 hb.2
  rw [valOf, hk.2.1]
  exact hk.2.2.2.1
end Go.Proofs.YtfafdcdmaimghaaGreatDoor

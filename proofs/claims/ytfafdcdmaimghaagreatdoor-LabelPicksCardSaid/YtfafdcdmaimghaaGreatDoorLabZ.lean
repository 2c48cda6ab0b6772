/- Layer 4: what the laws of raw selectors and labels say, plainly. -/
import Derived.Test.YtfafdcdmaimghaaGreatDoorLabY
set_option linter.unusedVariables false
set_option linter.unusedSimpArgs false
namespace Go.Proofs.YtfafdcdmaimghaaGreatDoor
open Go

/-- LabelTidies. -/
theorem zTidies (sel labels : List Int) : ∃ T m, bothP (selP sel) [] = (T, 0) ∧ bothP T [] = (T, 0) ∧ matchP (selP sel) (labP labels) = (m, 0) ∧ matchP T (labP labels) = (m, 0) ∧ T.length ≤ (selP sel).length := by
  have hs := selT_ok sel
  refine ⟨_, _, tidyP_of hs, ?_, matchP_of hs (labP_ok labels), ?_, tidyL_joined _⟩
  · rw [tidyP_of hs.tidy1, tidyL_tidyL]
  · rw [matchP_of hs.tidy1 (labP_ok labels), all_mem _ (fun x => tidyL_mem (selT sel) x)]
/-- LabelBoth. -/
theorem zBoth (one two labels : List Int) : ∃ u e a b, bothP (selP one) (selP two) = (u, e) ∧ bothP (selP two) (selP one) = (u, e) ∧ matchP (selP one) (labP labels) = (a, 0) ∧ matchP (selP two) (labP labels) = (b, 0) ∧ u.length ≤ 2000 ∧
    ((e = 0 ∧ matchP u (labP labels) = (a && b, 0)) ∨ (e = 40 ∧ u = [] ∧ 4 < min one.length 4 + min two.length 4)) := by
  have ha := selT_ok one
  have hb := selT_ok two
  have hl := labP_ok labels
  have hc : tidyL (selT two ++ selT one) = tidyL (selT one ++ selT two) := tidyL_congr (fun x => by simp only [List.mem_append]; exact or_comm)
  rcases Nat.lt_or_ge 4 (tidyL (selT one ++ selT two)).length with hn | hn
  · have h1 := tidyL_length (selT one ++ selT two)
    rw [List.length_append, selT_len, selT_len] at h1
    refine ⟨[], 40, _, _, ?_, ?_, matchP_of ha hl, matchP_of hb hl, by simp, .inr ⟨rfl, rfl, by omega⟩⟩
    · exact (bothP_of ha hb).trans (if_neg (by omega))
    · refine (bothP_of hb ha).trans ?_
      rw [hc, if_neg (by omega)]
  · refine ⟨_, 0, _, _, bothP_ok ha hb hn, ?_, matchP_of ha hl, matchP_of hb hl, ?_, .inl ⟨rfl, ?_⟩⟩
    · refine (bothP_of hb ha).trans ?_
      rw [hc, if_pos hn]
    · refine Nat.le_trans (joinC_room (c := 26) (fun p hp => ?_) hn) (by omega)
      rcases List.mem_append.1 ((tidyL_mem _ p).1 hp) with h | h
      · obtain ⟨n, _, rfl⟩ := List.mem_map.1 h; exact (termP_ok n).2.2
      · obtain ⟨n, _, rfl⟩ := List.mem_map.1 h; exact (termP_ok n).2.2
    · rw [matchP_of (ha.tidy hb hn) hl, all_mem _ (fun x => tidyL_mem (selT one ++ selT two) x), List.all_append]
/-- Terms of one key and one value. -/
theorem term_ok1 : ∀ a, a < 8 → ∀ b, b < 8 → ((44 : UInt8) ∉ nmAt a ++ [61] ++ nmAt b ∧ nmAt a ++ [61] ++ nmAt b ≠ []) ∧ readT (nmAt a ++ [61] ++ nmAt b) = (3, nmAt a, nmAt b) := by decide +kernel
theorem term_ok2 : ∀ a, a < 8 → ∀ b, b < 8 → ((44 : UInt8) ∉ nmAt a ++ [33, 61] ++ nmAt b ∧ nmAt a ++ [33, 61] ++ nmAt b ≠ []) ∧ readT (nmAt a ++ [33, 61] ++ nmAt b) = (4, nmAt a, nmAt b) := by decide +kernel
theorem term_ok3 : ∀ a, a < 8 → (((44 : UInt8) ∉ nmAt a ∧ nmAt a ≠ []) ∧ readT (nmAt a) = (1, nmAt a, anyT)) ∧
    (((44 : UInt8) ∉ [33] ++ nmAt a ∧ [33] ++ nmAt a ≠ []) ∧ readT ([33] ++ nmAt a) = (2, nmAt a, anyT)) := by decide +kernel
theorem term_ok (a : Nat) (ha : a < 8) (b : Nat) (hb : b < 8) :
    (((44 : UInt8) ∉ nmAt a ++ [61] ++ nmAt b ∧ nmAt a ++ [61] ++ nmAt b ≠ []) ∧ readT (nmAt a ++ [61] ++ nmAt b) = (3, nmAt a, nmAt b)) ∧
    (((44 : UInt8) ∉ nmAt a ++ [33, 61] ++ nmAt b ∧ nmAt a ++ [33, 61] ++ nmAt b ≠ []) ∧ readT (nmAt a ++ [33, 61] ++ nmAt b) = (4, nmAt a, nmAt b)) ∧
    (((44 : UInt8) ∉ nmAt a ∧ nmAt a ≠ []) ∧ readT (nmAt a) = (1, nmAt a, anyT)) ∧
    (((44 : UInt8) ∉ [33] ++ nmAt a ∧ [33] ++ nmAt a ≠ []) ∧ readT ([33] ++ nmAt a) = (2, nmAt a, anyT)) :=
  ⟨term_ok1 a ha b hb, term_ok2 a ha b hb, (term_ok3 a ha).1, (term_ok3 a ha).2⟩
theorem selOne {p : Bs} {t : Nat × Bs × Bs} (h : ((44 : UInt8) ∉ p ∧ p ≠ []) ∧ readT p = t) (ht : t.1 ≠ 0) : SelT [p] := by
  refine ⟨fun q hq => ?_, by simp, fun q hq => ?_⟩
  · obtain rfl := List.mem_singleton.1 hq; exact h.1
  · obtain rfl := List.mem_singleton.1 hq; rw [h.2]; exact ht
theorem matchOne {p : Bs} {t : Nat × Bs × Bs} (h : ((44 : UInt8) ∉ p ∧ p ≠ []) ∧ readT p = t) (ht : t.1 ≠ 0) {l : Bs} (hl : isLabels l = true) : matchP p l = (holdsT t l, 0) := by
  have h1 := matchP_of (selOne h ht) hl
  rw [show joinC 44 [p] = p from rfl] at h1
  rw [h1]
  simp [h.2]
theorem joinC_last (c : UInt8) (p : Bs) : ∀ ts : List Bs, ts ≠ [] → joinC c (ts ++ [p]) = joinC c ts ++ [c] ++ p
  | [], h => absurd rfl h
  | [q], _ => by simp [joinC]
  | q :: r :: s, _ => by
    have ih := joinC_last c p (r :: s) (by simp)
    rw [List.cons_append, joinC_cons c q (by simp), ih, joinC_cons c q (by simp)]
    simp
/-- LabelTurns. -/
theorem zTurns (key value : Int) (sel labels : List Int) (hn : sel.length ≤ 3) : ∃ o : Option Bs, ∃ x : Bool, valueP (labP labels) (nameP key) = o ∧
    matchP (nameP key ++ [61] ++ nameP value) (labP labels) = (decide (o = some (nameP value)), 0) ∧
    matchP (nameP key ++ [33, 61] ++ nameP value) (labP labels) = (!decide (o = some (nameP value)), 0) ∧
    matchP (nameP key) (labP labels) = (o.isSome, 0) ∧ matchP ([33] ++ nameP key) (labP labels) = (!o.isSome, 0) ∧
    matchP (selP sel) (labP labels) = (x, 0) ∧ (selP sel = [] → x = true) ∧ (selP sel ≠ [] → matchP (selP sel ++ [44] ++ nameP key) (labP labels) = (x && o.isSome, 0)) := by
  have hl := labP_ok labels
  have hs := selT_ok sel
  have ht := term_ok (pk key % 8) (Nat.mod_lt _ (by omega)) (pk value % 8) (Nat.mod_lt _ (by omega))
  refine ⟨valueP (labP labels) (nameP key), _, rfl, ?_, ?_, ?_, ?_, matchP_of hs hl, ?_, ?_⟩
  · exact (matchOne ht.1 (by simp) hl).trans (Prod.ext (show decide _ = decide _ from decide_eq_decide.2 Iff.rfl) rfl)
  · exact (matchOne ht.2.1 (by simp) hl).trans (Prod.ext (show (!decide _) = (!decide _) from congrArg (fun b => !b) (decide_eq_decide.2 Iff.rfl)) rfl)
  · exact (matchOne ht.2.2.1 (by simp) hl).trans rfl
  · exact (matchOne ht.2.2.2 (by simp) hl).trans rfl
  · intro h
    rcases Classical.em (selT sel = []) with e | e
    · rw [e]; rfl
    · exact absurd h (joinC_ne (fun p hp => (hs.p p hp).2) e)
  · intro h
    have hne : selT sel ≠ [] := fun e => h (by unfold selP; rw [e]; rfl)
    have h1 := joinC_last 44 (nameP key) (selT sel) hne
    have h2 : SelT (selT sel ++ [nameP key]) := by
      have h3 := selOne ht.2.2.1 (by simp)
      refine ⟨fun p hp => ?_, ?_, fun p hp => ?_⟩
      · rcases List.mem_append.1 hp with h | h
        · exact hs.p p h
        · exact h3.p p h
      · rw [List.length_append, selT_len]; simp; omega
      · rcases List.mem_append.1 hp with h | h
        · exact hs.k p h
        · exact h3.k p h
    have h4 := matchP_of h2 hl
    rw [h1] at h4
    unfold selP
    rw [h4, List.all_append]
    have h5 : readT (nameP key) = (1, nameP key, anyT) := ht.2.2.1.2
    simp [h5, holdsT]
theorem own_ok1 : ∀ a, a < 8 → ∀ b, b < 8 → ((44 : UInt8) ∉ kyAt a ++ [61] ++ nmAt b ∧ kyAt a ++ [61] ++ nmAt b ≠ []) ∧ readT (kyAt a ++ [61] ++ nmAt b) = (3, kyAt a, nmAt b) := by decide +kernel
theorem own_ok2 : ∀ a, a < 8 → ((44 : UInt8) ∉ [33] ++ kyAt a ∧ [33] ++ kyAt a ≠ []) ∧ readT ([33] ++ kyAt a) = (2, kyAt a, anyT) := by decide +kernel
theorem own_ok3a : ∀ a, a < 8 → ∀ b, b < 8 → (44 : UInt8) ∉ kyAt a ++ [61] ++ nmAt b ++ [48] ∧ kyAt a ++ [61] ++ nmAt b ++ [48] ≠ [] := by decide +kernel
theorem own_ok3b : ∀ a, a < 8 → ∀ b, b < 8 → 12 ≤ (nmAt b).length ∨ readT (kyAt a ++ [61] ++ nmAt b ++ [48]) = (3, kyAt a, nmAt b ++ [48]) := by decide +kernel
theorem own_ok3 (a : Nat) (ha : a < 8) (b : Nat) (hb : b < 8) (h : (nmAt b).length ≤ 11) : ((44 : UInt8) ∉ kyAt a ++ [61] ++ nmAt b ++ [48] ∧ kyAt a ++ [61] ++ nmAt b ++ [48] ≠ []) ∧ readT (kyAt a ++ [61] ++ nmAt b ++ [48]) = (3, kyAt a, nmAt b ++ [48]) :=
  ⟨own_ok3a a ha b hb, (own_ok3b a ha b hb).resolve_left (by omega)⟩
theorem own_ok4a : ∀ a, a < 8 → ∀ b, b < 8 → (44 : UInt8) ∉ kyAt a ++ [33, 61] ++ nmAt b ++ [48] ∧ kyAt a ++ [33, 61] ++ nmAt b ++ [48] ≠ [] := by decide +kernel
theorem own_ok4b : ∀ a, a < 8 → ∀ b, b < 8 → 12 ≤ (nmAt b).length ∨ readT (kyAt a ++ [33, 61] ++ nmAt b ++ [48]) = (4, kyAt a, nmAt b ++ [48]) := by decide +kernel
theorem own_ok4 (a : Nat) (ha : a < 8) (b : Nat) (hb : b < 8) (h : (nmAt b).length ≤ 11) : ((44 : UInt8) ∉ kyAt a ++ [33, 61] ++ nmAt b ++ [48] ∧ kyAt a ++ [33, 61] ++ nmAt b ++ [48] ≠ []) ∧ readT (kyAt a ++ [33, 61] ++ nmAt b ++ [48]) = (4, kyAt a, nmAt b ++ [48]) :=
  ⟨own_ok4a a ha b hb, (own_ok4b a ha b hb).resolve_left (by omega)⟩
theorem own_ok (a : Nat) (ha : a < 8) (b : Nat) (hb : b < 8) :
    (((44 : UInt8) ∉ kyAt a ++ [61] ++ nmAt b ∧ kyAt a ++ [61] ++ nmAt b ≠ []) ∧ readT (kyAt a ++ [61] ++ nmAt b) = (3, kyAt a, nmAt b)) ∧
    (((44 : UInt8) ∉ [33] ++ kyAt a ∧ [33] ++ kyAt a ≠ []) ∧ readT ([33] ++ kyAt a) = (2, kyAt a, anyT)) ∧
    ((nmAt b).length ≤ 11 → (((44 : UInt8) ∉ kyAt a ++ [61] ++ nmAt b ++ [48] ∧ kyAt a ++ [61] ++ nmAt b ++ [48] ≠ []) ∧ readT (kyAt a ++ [61] ++ nmAt b ++ [48]) = (3, kyAt a, nmAt b ++ [48])) ∧
      (((44 : UInt8) ∉ kyAt a ++ [33, 61] ++ nmAt b ++ [48] ∧ kyAt a ++ [33, 61] ++ nmAt b ++ [48] ≠ []) ∧ readT (kyAt a ++ [33, 61] ++ nmAt b ++ [48]) = (4, kyAt a, nmAt b ++ [48]))) :=
  ⟨own_ok1 a ha b hb, own_ok2 a ha, fun h => ⟨own_ok3 a ha b hb h, own_ok4 a ha b hb h⟩⟩
theorem value_name (l : List Int) {k v : Bs} (h : valueP (labP l) k = some v) : ∃ j, j < 8 ∧ v = nmAt j := by
  unfold valueP at h
  rw [labP_ok, if_pos rfl] at h
  unfold labP at h
  rw [parts_join (labT_pieces l)] at h
  obtain ⟨p, hp, rfl⟩ := Option.map_eq_some_iff.1 h
  obtain ⟨x, hx, rfl⟩ := List.mem_map.1 (List.mem_of_find?_eq_some hp)
  have hb := (labI_ok l).b _ hx
  have hk := item_ok x.1 hb.1 x.2 hb.2
  exact ⟨x.2, hb.2, by show valOf (itemT (x.1, x.2)) = _; rw [valOf, hk.2.1]⟩
/-- LabelOwn. -/
theorem zOwn (labels : List Int) (which : Int) : matchP (labP labels) (labP labels) = (true, 0) ∧ matchP [] (labP labels) = (true, 0) ∧
    ((valueP (labP labels) (kyAt (pk which % 8)) = none ∧ matchP ([33] ++ kyAt (pk which % 8)) (labP labels) = (true, 0)) ∨
      ∃ v, v.length ≤ 12 ∧ isNm v = true ∧ valueP (labP labels) (kyAt (pk which % 8)) = some v ∧ matchP (kyAt (pk which % 8) ++ [61] ++ v) (labP labels) = (true, 0) ∧
        (v.length ≤ 11 → matchP (kyAt (pk which % 8) ++ [61] ++ v ++ [48]) (labP labels) = (false, 0) ∧ matchP (kyAt (pk which % 8) ++ [33, 61] ++ v ++ [48]) (labP labels) = (true, 0))) := by
  have hl := labP_ok labels
  have hi : pk which % 8 < 8 := Nat.mod_lt _ (by omega)
  refine ⟨?_, ?_, ?_⟩
  · have h1 := matchP_of (labT_sel labels) hl
    refine h1.trans (Prod.ext ?_ rfl)
    show (labT labels).all _ = true
    rw [List.all_eq_true]
    intro p hp
    obtain ⟨x, hx, rfl⟩ := List.mem_map.1 hp
    have hb := (labI_ok labels).b _ hx
    have hk := item_ok x.1 hb.1 x.2 hb.2
    have hv := value_item labels (i := x.1) (j := x.2) hx
    show holdsT (readT (itemT (x.1, x.2))) (labP labels) = true
    rw [hk.2.2.2.2.1]
    simp [holdsT, hv]
  · exact (matchP_of SelT.none hl).trans rfl
  · cases ho : valueP (labP labels) (kyAt (pk which % 8)) with
    | none =>
      refine .inl ⟨rfl, ?_⟩
      refine (matchOne (own_ok _ hi 0 (by omega)).2.1 (by simp) hl).trans ?_
      simp [holdsT, ho]
    | some v =>
      obtain ⟨j, hj, rfl⟩ := value_name labels ho
      have hk := own_ok _ hi j hj
      refine .inr ⟨_, nm_len j hj, nm_ok j hj, rfl, ?_, fun h11 => ⟨?_, ?_⟩⟩
      · refine (matchOne hk.1 (by simp) hl).trans ?_
        simp [holdsT, ho]
      · refine (matchOne (hk.2.2 h11).1 (by simp) hl).trans ?_
        simp [holdsT, ho]
      · refine (matchOne (hk.2.2 h11).2 (by simp) hl).trans ?_
        simp [holdsT, ho]
theorem both_room {a b : List Int} : (joinC 44 (tidyL (selT a ++ selT b))).length ≤ 2000 := by
  refine Nat.le_trans (tidyL_joined _) ?_
  rcases Classical.em (selT a ++ selT b = []) with e | e
  · rw [e]; simp [joinC]
  · have h1 := joinC_len 44 _ e
    have h2 : roomL (selT a ++ selT b) ≤ (selT a ++ selT b).length * 27 := roomL_le (c := 26) (fun p hp => by
      rcases List.mem_append.1 hp with h | h
      · obtain ⟨n, _, rfl⟩ := List.mem_map.1 h; exact (termP_ok n).2.2
      · obtain ⟨n, _, rfl⟩ := List.mem_map.1 h; exact (termP_ok n).2.2)
    rw [List.length_append, selT_len, selT_len] at h2
    omega
/-- LabelGroups. -/
theorem zGroups (one two three : List Int) : ∃ x e y f, bothP (selP one) (selP two) = (x, e) ∧ bothP (selP two) (selP three) = (y, f) ∧ x.length ≤ 2000 ∧ y.length ≤ 2000 ∧ (e = 0 ∨ e = 40) ∧ (f = 0 ∨ f = 40) ∧
    (e = 0 → f = 0 → bothP x (selP three) = bothP (selP one) y) := by
  have ha := selT_ok one
  have hb := selT_ok two
  have hc := selT_ok three
  have h1 := bothP_of ha hb
  have h2 := bothP_of hb hc
  refine ⟨(bothP (joinC 44 (selT one)) (joinC 44 (selT two))).1, (bothP (joinC 44 (selT one)) (joinC 44 (selT two))).2, (bothP (joinC 44 (selT two)) (joinC 44 (selT three))).1, (bothP (joinC 44 (selT two)) (joinC 44 (selT three))).2, rfl, rfl, ?_, ?_, ?_, ?_, ?_⟩
  · rw [h1]
    split
    · exact both_room
    · simp
  · rw [h2]
    split
    · exact both_room
    · simp
  · rw [h1]
    split
    · exact .inl rfl
    · exact .inr rfl
  · rw [h2]
    split
    · exact .inl rfl
    · exact .inr rfl
  · rw [h1, h2]
    intro he hf
    by_cases hx : (tidyL (selT one ++ selT two)).length ≤ 4
    · by_cases hy : (tidyL (selT two ++ selT three)).length ≤ 4
      · rw [if_pos hx, if_pos hy]
        show bothP (joinC 44 _) (joinC 44 _) = bothP (joinC 44 _) (joinC 44 _)
        rw [bothP_of (ha.tidy hb hx) hc, bothP_of ha (hb.tidy hc hy)]
        have h3 : tidyL (tidyL (selT one ++ selT two) ++ selT three) = tidyL (selT one ++ tidyL (selT two ++ selT three)) := tidyL_congr (fun x => by
          simp only [List.mem_append, tidyL_mem, or_assoc])
        rw [h3]
      · rw [if_neg hy] at hf; exact absurd hf (by decide)
    · rw [if_neg hx] at he; exact absurd he (by decide)
/-- LabelForms: a list turned round. -/
def turnL (l : List Int) (t : Nat) : List Int := (List.range l.length).map fun i => l.getD ((i + t) % l.length) 0
theorem turnL_len (l : List Int) (t : Nat) : (turnL l t).length = l.length := by simp [turnL]
theorem getD_get {l : List Int} {j : Nat} (hj : j < l.length) : l.getD j 0 = l[j] := by simp [List.getD_eq_getElem?_getD, hj]
theorem turnL_mem (l : List Int) (t : Nat) (ht : t < l.length) (x : Int) : x ∈ turnL l t ↔ x ∈ l := by
  unfold turnL
  rw [List.mem_map]
  constructor
  · rintro ⟨i, hi, rfl⟩
    have hj : (i + t) % l.length < l.length := Nat.mod_lt _ (by omega)
    rw [getD_get hj]
    exact List.getElem_mem _
  · intro h
    obtain ⟨j, hj, rfl⟩ := List.getElem_of_mem h
    rcases Nat.lt_or_ge j t with hlt | hge
    · refine ⟨j + l.length - t, List.mem_range.2 (by omega), ?_⟩
      have e : (j + l.length - t + t) % l.length = j := by
        rw [show j + l.length - t + t = j + l.length by omega, Nat.add_mod_right, Nat.mod_eq_of_lt hj]
      rw [e, getD_get hj]
    · refine ⟨j - t, List.mem_range.2 (by omega), ?_⟩
      have e : (j - t + t) % l.length = j := by
        rw [show j - t + t = j by omega, Nat.mod_eq_of_lt hj]
      rw [e, getD_get hj]
theorem zForms (sel : List Int) (t : Nat) (hn : sel.length ≤ 4) (ht : sel ≠ [] → t < sel.length) : ∃ A, bothP (selP sel) [] = (A, 0) ∧ bothP (selP (turnL sel t)) [] = (A, 0) ∧ A.length ≤ 2000 ∧ isSel A = true ∧ isSel (selP (turnL sel t)) = true := by
  have ha := selT_ok sel
  have hb := selT_ok (turnL sel t)
  have he : tidyL (selT (turnL sel t)) = tidyL (selT sel) := by
    refine tidyL_congr (fun x => ?_)
    unfold selT
    rw [List.take_of_length_le (by rw [turnL_len]; exact hn), List.take_of_length_le hn, List.mem_map, List.mem_map]
    rcases Classical.em (sel = []) with e | e
    · subst e; simp [turnL]
    · exact ⟨fun ⟨a, h1, h2⟩ => ⟨a, (turnL_mem sel t (ht e) a).1 h1, h2⟩, fun ⟨a, h1, h2⟩ => ⟨a, (turnL_mem sel t (ht e) a).2 h1, h2⟩⟩
  refine ⟨_, tidyP_of ha, ?_, Nat.le_trans (tidyL_joined _) (Nat.le_trans (selP_len sel) (by omega)), ha.tidy1.sel, hb.sel⟩
  · refine (tidyP_of hb).trans ?_
    rw [he]
end Go.Proofs.YtfafdcdmaimghaaGreatDoor

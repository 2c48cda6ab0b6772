/- Flow along a way: it stays right, and more of it comes. -/
import Derived.Test.YtlpccebackmahaaFlowC
set_option linter.unusedVariables false
set_option linter.unusedSimpArgs false
namespace Go.Proofs.Ytlpccebackmahaa

/-- How much more may go by a step. -/
def roomAt (E : List Ed) (fl : List Int) (p : St) : Int := if p.2.2.2 then fl.getD p.2.2.1 0 else (E.getD p.2.2.1 default).c - fl.getD p.2.2.1 0
def roomOf (E : List Ed) (fl : List Int) (l : List St) (most : Int) : Int := l.foldl (fun m p => min m (roomAt E fl p)) most
/-- More by a step. -/
def addAt (d : Int) (fl : List Int) (p : St) : List Int := fl.set p.2.2.1 (if p.2.2.2 then fl.getD p.2.2.1 0 - d else fl.getD p.2.2.1 0 + d)
def addAll (d : Int) (fl : List Int) (l : List St) : List Int := l.foldl (addAt d) fl
theorem roomOf_le (E : List Ed) (fl : List Int) (l : List St) (most : Int) : roomOf E fl l most ≤ most ∧ ∀ p ∈ l, roomOf E fl l most ≤ roomAt E fl p := by
  unfold roomOf
  induction l generalizing most with
  | nil => simp
  | cons p l ih =>
    obtain ⟨h1, h2⟩ := ih (min most (roomAt E fl p))
    rw [List.foldl_cons]
    refine ⟨by omega, fun q hq => ?_⟩
    rcases List.mem_cons.1 hq with rfl | hq
    · omega
    · exact h2 q hq
theorem roomOf_pos (E : List Ed) (fl : List Int) (l : List St) (most : Int) (hm : 0 < most) (h : ∀ p ∈ l, 0 < roomAt E fl p) : 0 < roomOf E fl l most := by
  unfold roomOf
  induction l generalizing most with
  | nil => exact hm
  | cons p l ih =>
    rw [List.foldl_cons]
    have := h p List.mem_cons_self
    exact ih (min most (roomAt E fl p)) (by omega) (fun q hq => h q (List.mem_cons_of_mem _ hq))
theorem Chain.room {E : List Ed} {fl : List Int} {s v : Int} {l : List St} (h : Chain E fl s v l) : ∀ p ∈ l, 0 < roomAt E fl p := by
  intro p hp
  obtain ⟨_, g2, _⟩ := h.steps p hp
  unfold roomAt
  rcases dir_some g2 with ⟨a, _, _, b⟩ | ⟨a, _, _, b⟩
  · rw [a]; simp only [Bool.false_eq_true, if_false]; omega
  · rw [a]; simp only [if_true]; exact b
theorem addAt_length (d : Int) (fl : List Int) (p : St) : (addAt d fl p).length = fl.length := by simp [addAt]
theorem addAll_length (d : Int) (fl : List Int) (l : List St) : (addAll d fl l).length = fl.length := by
  unfold addAll
  induction l generalizing fl with
  | nil => rfl
  | cons p l ih => rw [List.foldl_cons, ih, addAt_length]
theorem getD_set (fl : List Int) (i j : Nat) (x : Int) (hi : i < fl.length) : (fl.set i x).getD j 0 = if j = i then x else fl.getD j 0 := by
  rw [List.getD_eq_getElem?_getD, List.getElem?_set]
  by_cases e : i = j
  · subst e; simp [hi]
  · rw [if_neg e, if_neg (fun e2 => e e2.symm), List.getD_eq_getElem?_getD]
/-- An edge that is not on the way keeps its flow. -/
theorem addAll_other (d : Int) (fl : List Int) (l : List St) (j : Nat) (h : ∀ p ∈ l, p.2.2.1 ≠ j) (hl : ∀ p ∈ l, p.2.2.1 < fl.length) : (addAll d fl l).getD j 0 = fl.getD j 0 := by
  unfold addAll
  induction l generalizing fl with
  | nil => rfl
  | cons p l ih =>
    rw [List.foldl_cons, ih _ (fun q hq => h q (List.mem_cons_of_mem _ hq)) (fun q hq => by rw [addAt_length]; exact hl q (List.mem_cons_of_mem _ hq))]
    unfold addAt
    rw [getD_set _ _ _ _ (hl p List.mem_cons_self), if_neg (fun e => h p List.mem_cons_self e.symm)]
theorem addAll_on (d : Int) (fl : List Int) (l : List St) (hn : (l.map (fun p => p.2.2.1)).Nodup) (hl : ∀ p ∈ l, p.2.2.1 < fl.length) : ∀ p ∈ l, (addAll d fl l).getD p.2.2.1 0 = if p.2.2.2 then fl.getD p.2.2.1 0 - d else fl.getD p.2.2.1 0 + d := by
  induction l generalizing fl with
  | nil => intro p hp; simp at hp
  | cons q l ih =>
    intro p hp
    rw [List.map_cons, List.nodup_cons] at hn
    have hl2 : ∀ p ∈ l, p.2.2.1 < (addAt d fl q).length := fun p hp => by rw [addAt_length]; exact hl p (List.mem_cons_of_mem _ hp)
    show (addAll d (addAt d fl q) l).getD p.2.2.1 0 = _
    rcases List.mem_cons.1 hp with rfl | hp
    · rw [addAll_other d _ l _ (fun r hr e => hn.1 (List.mem_map.2 ⟨r, hr, e⟩)) hl2]
      unfold addAt
      rw [getD_set _ _ _ _ (hl p List.mem_cons_self), if_pos rfl]
    · rw [ih _ hn.2 hl2 p hp]
      have e : (addAt d fl q).getD p.2.2.1 0 = fl.getD p.2.2.1 0 := by
        unfold addAt
        rw [getD_set _ _ _ _ (hl q List.mem_cons_self), if_neg (fun e => hn.1 (List.mem_map.2 ⟨p, hp, e⟩))]
      rw [e]
/-- Sums where one pair turns. -/
theorem lsum_set {α : Type} (L : List α) (i : Nat) (a b : α) (g : α → Int) (h : L[i]? = some b) : lsum (L.set i a) g = lsum L g - g b + g a := by
  induction L generalizing i with
  | nil => simp at h
  | cons c L ih =>
    cases i with
    | zero => simp at h; subst h; simp; omega
    | succ i =>
      rw [List.set_cons_succ, lsum_cons, lsum_cons, ih i (by simpa using h)]
      omega
theorem zip_set (E : List Ed) (fl : List Int) (i : Nat) (x : Int) (hi : i < E.length) : E.zip (fl.set i x) = (E.zip fl).set i (E.getD i default, x) := by
  induction E generalizing fl i with
  | nil => simp at hi
  | cons e E ih =>
    cases fl with
    | nil => simp
    | cons y fl =>
      cases i with
      | zero => rfl
      | succ i =>
        have := ih fl i (by simpa using hi)
        simpa using this
theorem zip_get (E : List Ed) (fl : List Int) (i : Nat) (hi : i < E.length) (hl : fl.length = E.length) : (E.zip fl)[i]? = some (E.getD i default, fl.getD i 0) := by
  rw [List.getElem?_zip_eq_some, List.getD_eq_getElem?_getD, List.getD_eq_getElem?_getD, List.getElem?_eq_getElem hi, List.getElem?_eq_getElem (by omega)]
  exact ⟨rfl, rfl⟩
theorem outF_addAt {E : List Ed} {fl0 fl : List Int} {p : St} {u v : Int} (hl : fl.length = E.length) (hi : p.2.2.1 < E.length) (hd : dir E fl0 u p.2.2.1 = some (v, p.2.2.2)) (d x : Int) :
    outF (E.zip (addAt d fl p)) x = outF (E.zip fl) x + ((if u = x then d else 0) - (if v = x then d else 0)) := by
  unfold outF addAt
  rw [zip_set _ _ _ _ hi, lsum_set _ _ _ _ _ (zip_get E fl _ hi hl)]
  rcases dir_some hd with ⟨a, b, c, _⟩ | ⟨a, b, c, _⟩
  · rw [a, b, c]
    simp only [Bool.false_eq_true, if_false]
    by_cases e1 : u = x <;> by_cases e2 : v = x <;> simp [e1, e2] <;> omega
  · rw [a, b, c]
    simp only [if_true]
    by_cases e1 : u = x <;> by_cases e2 : v = x <;> simp [e1, e2] <;> omega
/-- What leaves each vertex behind it: more from s on, more into v. -/
theorem outF_addAll {E : List Ed} {fl0 : List Int} {s : Int} (d x : Int) : ∀ {l : List St} {v : Int} {fl : List Int}, Chain E fl0 s v l → fl.length = E.length →
    outF (E.zip (addAll d fl l)) x = outF (E.zip fl) x + ((if s = x then d else 0) - (if v = x then d else 0))
  | [], v, fl, h, hl => by
    have h' : v = s := h
    subst h'
    show outF (E.zip fl) x = _
    omega
  | p :: l, v, fl, h, hl => by
    obtain ⟨h1, h2, h3, h4, h5, h6⟩ := h
    show outF (E.zip (addAll d (addAt d fl p) l)) x = _
    rw [outF_addAll d x h6 (by rw [addAt_length]; exact hl), outF_addAt hl h3 h4]
    omega
end Go.Proofs.Ytlpccebackmahaa

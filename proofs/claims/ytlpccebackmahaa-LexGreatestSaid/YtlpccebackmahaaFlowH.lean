/- Ways that are tried. -/
import Derived.Test.YtlpccebackmahaaFlowG
set_option linter.unusedVariables false
set_option linter.unusedSimpArgs false
namespace Go.Proofs.Ytlpccebackmahaa

/-- The edges of a way as steps, each along its edge. -/
def stepsOf (E : List Ed) (es : List Nat) : List St := es.map fun i => ((E.getD i default).t, ((E.getD i default).f, i, false))
/-- Is it a way on from 'at', to vertices that were not come to? -/
def walkOk (E : List Ed) (t : Int) : List Int → Int → List Nat → Prop
  | seen, u, [] => u = t
  | seen, u, i :: es => i < E.length ∧ (E.getD i default).f = u ∧ (E.getD i default).t ∉ seen ∧ walkOk E t ((E.getD i default).t :: seen) (E.getD i default).t es
theorem walk_idx {E : List Ed} {t : Int} : ∀ {es : List Nat} {seen : List Int} {u : Int}, walkOk E t seen u es → ∀ i ∈ es, i < E.length ∧ (E.getD i default).t ∉ seen
  | [], seen, u, h, i, hi => by simp at hi
  | j :: es, seen, u, h, i, hi => by
    obtain ⟨h1, h2, h3, h4⟩ := h
    rcases List.mem_cons.1 hi with rfl | hi
    · exact ⟨h1, h3⟩
    · obtain ⟨a, b⟩ := walk_idx h4 i hi
      exact ⟨a, fun c => b (List.mem_cons_of_mem _ c)⟩
theorem walk_nodup {E : List Ed} {t : Int} : ∀ {es : List Nat} {seen : List Int} {u : Int}, walkOk E t seen u es → es.Nodup
  | [], seen, u, h => List.nodup_nil
  | j :: es, seen, u, h => by
    obtain ⟨h1, h2, h3, h4⟩ := h
    rw [List.nodup_cons]
    exact ⟨fun hin => (walk_idx h4 j hin).2 List.mem_cons_self, walk_nodup h4⟩
theorem outF_walk {E : List Ed} {t : Int} (d x : Int) : ∀ {es : List Nat} {seen : List Int} {u : Int} {fl : List Int}, walkOk E t seen u es → fl.length = E.length →
    outF (E.zip (addAll d fl (stepsOf E es))) x = outF (E.zip fl) x + ((if u = x then d else 0) - (if t = x then d else 0))
  | [], seen, u, fl, h, hl => by
    have h' : u = t := h
    subst h'
    show outF (E.zip fl) x = _
    omega
  | i :: es, seen, u, fl, h, hl => by
    obtain ⟨h1, h2, h3, h4⟩ := h
    show outF (E.zip (addAll d (addAt d fl ((E.getD i default).t, ((E.getD i default).f, i, false))) (stepsOf E es))) x = _
    rw [outF_walk d x h4 (by rw [addAt_length]; exact hl)]
    have : outF (E.zip (addAt d fl ((E.getD i default).t, ((E.getD i default).f, i, false)))) x = outF (E.zip fl) x + ((if u = x then d else 0) - (if (E.getD i default).t = x then d else 0)) := by
      unfold outF addAt
      rw [zip_set _ _ _ _ h1, lsum_set _ _ _ _ _ (zip_get E fl _ h1 hl)]
      simp only [Bool.false_eq_true, if_false]
      rw [h2]
      by_cases e1 : u = x <;> by_cases e2 : (E.getD i default).t = x <;> simp [e1, e2] <;> omega
    rw [this]
    omega
theorem steps_edge (E : List Ed) (es : List Nat) : (stepsOf E es).map (fun p => p.2.2.1) = es := by
  unfold stepsOf
  rw [List.map_map]
  exact List.map_id' es
/-- As much as may go by a way. -/
def tryWay (E : List Ed) (fl : List Int) (w : List Nat × Int) : List Int := addAll (roomOf E fl (stepsOf E w.1) w.2) fl (stepsOf E w.1)
theorem roomOf_nonneg (E : List Ed) (fl : List Int) (l : List St) (most : Int) (hm : 0 ≤ most) (h : ∀ p ∈ l, 0 ≤ roomAt E fl p) : 0 ≤ roomOf E fl l most := by
  unfold roomOf
  induction l generalizing most with
  | nil => exact hm
  | cons p l ih =>
    rw [List.foldl_cons]
    have := h p List.mem_cons_self
    exact ih (min most (roomAt E fl p)) (by omega) (fun q hq => h q (List.mem_cons_of_mem _ hq))
theorem tried {N : Nat} {E : List Ed} {fl : List Int} {s t : Int} {w : List Nat × Int} (h : Okf N E fl s t) (hst : s ≠ t) (hin : NoIn E fl s) (hw : walkOk E t [s] s w.1) (hc : 0 ≤ w.2) :
    Okf N E (tryWay E fl w) s t ∧ NoIn E (tryWay E fl w) s ∧ (∀ i, i < E.length → fl.getD i 0 ≤ (tryWay E fl w).getD i 0) ∧ (∀ i, i < E.length → i ∉ w.1 → (tryWay E fl w).getD i 0 = fl.getD i 0) := by
  have hix : ∀ p ∈ stepsOf E w.1, p.2.2.1 < fl.length ∧ p.2.2.2 = false ∧ p.2.2.1 ∈ w.1 := by
    intro p hp
    obtain ⟨i, hi, rfl⟩ := List.mem_map.1 hp
    exact ⟨by rw [h.len]; exact (walk_idx hw i hi).1, rfl, hi⟩
  have hroom : ∀ p ∈ stepsOf E w.1, 0 ≤ roomAt E fl p := by
    intro p hp
    obtain ⟨a, b, c⟩ := hix p hp
    unfold roomAt
    rw [b]
    have := h.fit p.2.2.1 (by rw [← h.len]; exact a)
    simp only [Bool.false_eq_true, if_false]
    omega
  have hd0 := roomOf_nonneg E fl (stepsOf E w.1) w.2 hc hroom
  obtain ⟨_, hd⟩ := roomOf_le E fl (stepsOf E w.1) w.2
  have hnd : ((stepsOf E w.1).map (fun p => p.2.2.1)).Nodup := by rw [steps_edge]; exact walk_nodup hw
  have hoff : ∀ i, i < E.length → i ∉ w.1 → (tryWay E fl w).getD i 0 = fl.getD i 0 := by
    intro i hi hni
    exact addAll_other _ fl _ i (fun p hp e => hni (by rw [← e]; exact (hix p hp).2.2)) (fun p hp => (hix p hp).1)
  have hon : ∀ i, i ∈ w.1 → (tryWay E fl w).getD i 0 = fl.getD i 0 + roomOf E fl (stepsOf E w.1) w.2 ∧ roomOf E fl (stepsOf E w.1) w.2 ≤ (E.getD i default).c - fl.getD i 0 := by
    intro i hi
    have hm : ((E.getD i default).t, ((E.getD i default).f, i, false)) ∈ stepsOf E w.1 := List.mem_map.2 ⟨i, hi, rfl⟩
    have h1 := addAll_on (roomOf E fl (stepsOf E w.1) w.2) fl _ hnd (fun p hp => (hix p hp).1) _ hm
    have h2 := hd _ hm
    exact ⟨h1, h2⟩
  generalize roomOf E fl (stepsOf E w.1) w.2 = d at *
  refine ⟨⟨?_, ?_, ?_⟩, ?_, ?_, hoff⟩
  · show (addAll _ fl _).length = _
    rw [addAll_length, h.len]
  · intro i hi
    have hf := h.fit i hi
    by_cases e : i ∈ w.1
    · obtain ⟨a, b⟩ := hon i e
      rw [a]; omega
    · rw [hoff i hi e]; exact hf
  · intro v h1 h2 h3 h4
    show outF (E.zip (addAll _ fl _)) v = 0
    rw [outF_walk _ v hw h.len, h.bal v h1 h2 h3 h4, if_neg (fun e => h3 e.symm), if_neg (fun e => h4 e.symm)]
    omega
  · intro i hi ht
    by_cases e : i ∈ w.1
    · exact absurd (by rw [ht]; exact List.mem_cons_self) (walk_idx hw i e).2
    · rw [hoff i hi e]; exact hin i hi ht
  · intro i hi
    by_cases e : i ∈ w.1
    · rw [(hon i e).1]; omega
    · rw [hoff i hi e]; exact Int.le_refl _
end Go.Proofs.Ytlpccebackmahaa

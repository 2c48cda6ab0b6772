/- Layer 7, plainly: LexStays: what was filled, taken apart into ways, is the flow again. -/
import Derived.Test.YtlpccebackmahaaLexFx
set_option linter.unusedVariables false
set_option linter.unusedSimpArgs false
namespace Go.Proofs.Ytlpccebackmahaa

def subL (f r : List Int) : List Int := (List.range f.length).map fun i => f.getD i 0 - r.getD i 0
theorem subL_len (f r : List Int) : (subL f r).length = f.length := by simp [subL]
theorem subL_get (f r : List Int) (i : Nat) (hi : i < f.length) : (subL f r).getD i 0 = f.getD i 0 - r.getD i 0 := by
  unfold subL
  rw [List.getD_eq_getElem?_getD, List.getElem?_map, List.getElem?_range hi]
  rfl
theorem ext_getD {a b : List Int} (hl : a.length = b.length) (h : ∀ i, i < a.length → a.getD i 0 = b.getD i 0) : a = b := by
  apply List.ext_getElem hl
  intro i h1 h2
  have := h i h1
  rwa [List.getD_eq_getElem?_getD, List.getD_eq_getElem?_getD, List.getElem?_eq_getElem h1, List.getElem?_eq_getElem h2] at this
def decAll (r : List Int) (es : List Nat) : List Int := es.foldl (fun r e => r.set e (r.getD e 0 - 1)) r
theorem decAll_len (r : List Int) (es : List Nat) : (decAll r es).length = r.length := by
  unfold decAll
  induction es generalizing r with
  | nil => rfl
  | cons e es ih => rw [List.foldl_cons, ih]; simp
theorem decAll_get : ∀ (es : List Nat) (r : List Int), es.Nodup → (∀ e ∈ es, e < r.length) → ∀ i, (decAll r es).getD i 0 = r.getD i 0 - (if i ∈ es then 1 else 0)
  | [], r, _, _, i => by simp [decAll]
  | e :: es, r, hn, hl, i => by
    rw [List.nodup_cons] at hn
    show (decAll (r.set e (r.getD e 0 - 1)) es).getD i 0 = _
    rw [decAll_get es _ hn.2 (fun x hx => by rw [List.length_set]; exact hl x (List.mem_cons_of_mem _ hx)) i, getD_set _ _ _ _ (hl e List.mem_cons_self)]
    by_cases h : i = e
    · subst h
      rw [if_pos rfl, if_neg hn.1, if_pos List.mem_cons_self]
      omega
    · rw [if_neg h]
      by_cases h2 : i ∈ es
      · rw [if_pos h2, if_pos (List.mem_cons_of_mem _ h2)]
      · rw [if_neg h2, if_neg (fun x => by rcases List.mem_cons.1 x with x | x; exact h x; exact h2 x)]
theorem try_unit {E : List Ed} {s t : Int} {f r : List Int} {es : List Nat} (hf : f.length = E.length) (hr : r.length = E.length) (hc : ∀ i, i < E.length → f.getD i 0 ≤ (E.getD i default).c)
    (hw : walkOk E t [s] s es) (hp : ∀ e ∈ es, 0 < r.getD e 0) : tryWay E (subL f r) (es, 1) = subL f (decAll r es) := by
  have hix : ∀ p ∈ stepsOf E es, p.2.2.1 < E.length ∧ p.2.2.2 = false ∧ p.2.2.1 ∈ es := by
    intro p hp
    obtain ⟨i, hi, rfl⟩ := List.mem_map.1 hp
    exact ⟨(walk_idx hw i hi).1, rfl, hi⟩
  have hnd := walk_nodup hw
  have hroom : roomOf E (subL f r) (stepsOf E es) 1 = 1 := by
    have h1 := (roomOf_le E (subL f r) (stepsOf E es) 1).1
    have h2 := roomOf_pos E (subL f r) (stepsOf E es) 1 (by decide) (fun p hq => by
      obtain ⟨a, b, c⟩ := hix p hq
      unfold roomAt
      rw [b, subL_get f r _ (by rw [hf]; exact a)]
      have := hp _ c
      have := hc _ a
      simp only [Bool.false_eq_true, if_false]
      omega)
    omega
  unfold tryWay
  rw [hroom]
  have hl : ∀ p ∈ stepsOf E es, p.2.2.1 < (subL f r).length := fun p hq => by rw [subL_len, hf]; exact (hix p hq).1
  refine ext_getD (by rw [addAll_length, subL_len, subL_len]) (fun i hi => ?_)
  rw [addAll_length, subL_len] at hi
  rw [subL_get f _ i hi, decAll_get es r hnd (fun e he => by rw [hr]; exact (walk_idx hw e he).1) i]
  by_cases hm : i ∈ es
  · have hmem : ((E.getD i default).t, ((E.getD i default).f, i, false)) ∈ stepsOf E es := List.mem_map.2 ⟨i, hm, rfl⟩
    have := addAll_on 1 (subL f r) (stepsOf E es) (by rw [steps_edge]; exact hnd) hl _ hmem
    simp only [Bool.false_eq_true, if_false] at this
    rw [this, subL_get f r i hi, if_pos hm]
    omega
  · rw [addAll_other 1 (subL f r) (stepsOf E es) i (fun p hq e => hm (by rw [← e]; exact (hix p hq).2.2)) hl, subL_get f r i hi, if_neg hm]
    omega
theorem fillN_congr {N : Nat} {E : List Ed} {s t : Int} {order : List Nat} {ws vs : List (List (List Nat × Int))} : ∀ (i : Nat), (∀ j, j < i → ws.getD j [] = vs.getD j []) → fillN N E s t order ws i = fillN N E s t order vs i
  | 0, _ => rfl
  | i + 1, h => by
    show (push N (opn E s (order.take (i + 1))) s t lots30 ((ws.getD i []).foldl (tryWay E) (fillN N E s t order ws i))).1 = (push N (opn E s (order.take (i + 1))) s t lots30 ((vs.getD i []).foldl (tryWay E) (fillN N E s t order vs i))).1
    rw [h i (by omega), fillN_congr i (fun j hj => h j (by omega))]
theorem sub_self (f : List Int) : subL f f = List.replicate f.length 0 := by
  refine ext_getD (by rw [subL_len, List.length_replicate]) (fun i hi => ?_)
  rw [subL_len] at hi
  rw [subL_get f f i hi, Int.sub_self, List.getD_eq_getElem?_getD, List.getElem?_replicate, if_pos hi]
  rfl
/-- The flow that is taken apart: f, its rest, the lists of ways so far. -/
structure Apart (N : Int) (E : List Ed) (s t : Int) (o : List Int) (f rest : List Int) (i : Nat) (all : List (List (List Int × Int))) : Prop where
  len : rest.length = E.length
  low : ∀ k, k < E.length → 0 ≤ rest.getD k 0 ∧ rest.getD k 0 ≤ f.getD k 0
  many : all.length = i
  ways : ∀ j, j < i → ∀ w ∈ all.getD j [], WayOk N E s t (o.getD j 0) w
  done : ∀ j, j < i → rest.getD (o.getD j 0).toNat 0 = 0
  fill : fillN N.toNat E s t (natsOf o) (waysN all) i = subL f rest
/-- Inside one source's loop. -/
structure ApartIn (N : Int) (E : List Ed) (s t : Int) (o : List Int) (f rest : List Int) (i : Nat) (all : List (List (List Int × Int))) (l : List (List Int × Int)) : Prop where
  len : rest.length = E.length
  low : ∀ k, k < E.length → 0 ≤ rest.getD k 0 ∧ rest.getD k 0 ≤ f.getD k 0
  many : all.length = i
  ways : ∀ j, j < i → ∀ w ∈ all.getD j [], WayOk N E s t (o.getD j 0) w
  done : ∀ j, j < i → rest.getD (o.getD j 0).toNat 0 = 0
  mine : ∀ w ∈ l, WayOk N E s t (o.getD i 0) w
  fill : (l.map fun w => (natsOf w.1, w.2)).foldl (tryWay E) (fillN N.toNat E s t (natsOf o) (waysN all) i) = subL f rest
theorem Apart.into {N : Int} {E : List Ed} {s t : Int} {o f rest : List Int} {i : Nat} {all : List (List (List Int × Int))} (h : Apart N E s t o f rest i all) : ApartIn N E s t o f rest i all [] :=
  ⟨h.len, h.low, h.many, h.ways, h.done, fun w hw => absurd hw (by simp), h.fill⟩
theorem Apart.start {N : Int} {E : List Ed} {s t : Int} {o f : List Int} (hf : f.length = E.length) (h0 : ∀ k, k < E.length → 0 ≤ f.getD k 0) : Apart N E s t o f f 0 [] :=
  ⟨hf, fun k hk => ⟨h0 k hk, Int.le_refl _⟩, rfl, fun j hj => absurd hj (Nat.not_lt_zero j), fun j hj => absurd hj (Nat.not_lt_zero j), by rw [sub_self, hf]; rfl⟩
/-- One way of one unit is taken. -/
theorem ApartIn.step {N : Int} {E : List Ed} {s t : Int} {o f rest : List Int} {i : Nat} {all : List (List (List Int × Int))} {l : List (List Int × Int)} {es : List Int} (h : ApartIn N E s t o f rest i all l) (hf : f.length = E.length)
    (hc : ∀ k, k < E.length → f.getD k 0 ≤ (E.getD k default).c) (hw : WayOk N E s t (o.getD i 0) (es, 1)) (hp : ∀ e ∈ natsOf es, 0 < rest.getD e 0) :
    ApartIn N E s t o f (decAll rest (natsOf es)) i all (l ++ [(es, 1)]) := by
  have hk := walkI_ok hw.2.2.2
  have hnd := walk_nodup hk
  have hix : ∀ e ∈ natsOf es, e < rest.length := fun e he => by rw [h.len]; exact (walk_idx hk e he).1
  have hg := decAll_get (natsOf es) rest hnd hix
  refine ⟨by rw [decAll_len]; exact h.len, fun k hk' => ?_, h.many, h.ways, fun j hj => ?_, fun w hw' => ?_, ?_⟩
  · rw [hg]
    have := h.low k hk'
    by_cases hm : k ∈ natsOf es
    · rw [if_pos hm]; have := hp k hm; omega
    · rw [if_neg hm]; omega
  · rw [hg]
    have := h.done j hj
    by_cases hm : (o.getD j 0).toNat ∈ natsOf es
    · have := hp _ hm; omega
    · rw [if_neg hm]; omega
  · rcases List.mem_append.1 hw' with hw' | hw'
    · exact h.mine w hw'
    · rw [List.mem_singleton.1 hw']; exact hw
  · rw [List.map_append, List.foldl_append, h.fill]
    exact try_unit hf h.len hc hk hp
/-- The source's own unit goes. -/
theorem dec_source {E : List Ed} {s t : Int} {rest : List Int} {es : List Int} {src : Int} (hl : rest.length = E.length) (hk : walkI E t [s] s es) (hh : es.head? = some src) : (decAll rest (natsOf es)).getD src.toNat 0 = rest.getD src.toNat 0 - 1 := by
  have hk2 := walkI_ok hk
  rw [decAll_get _ _ (walk_nodup hk2) (fun e he => by rw [hl]; exact (walk_idx hk2 e he).1), if_pos]
  rcases es with _ | ⟨a, es⟩
  · cases hh
  · cases hh
    simp [natsOf]
/-- A source's loop is over. -/
theorem ApartIn.next {N : Int} {E : List Ed} {s t : Int} {o f rest : List Int} {i : Nat} {all : List (List (List Int × Int))} {l : List (List Int × Int)} {ws : List (List (List Int × Int))} (h : ApartIn N E s t o f rest i all l) (hF : FormOk N E s t o ws) (hff : f = flowR N E s t o ws)
    (hi : i < o.length) (hz : rest.getD (o.getD i 0).toNat 0 = 0) : Apart N E s t o f rest (i + 1) (all ++ [l]) := by
  have T := hF.1.lexT
  have hinv := hF.inv o.length (Nat.le_refl _)
  have hfin : fillN N.toNat E s t (natsOf o) (waysN ws) o.length = f := hff.symm
  rw [hfin] at hinv
  have hfull := hinv.ok.full (fun i hi => (T.caps i hi).1)
  have hfl : f.length = E.length := hfull.len
  have hways : ∀ j, j < i + 1 → ∀ w ∈ (all ++ [l]).getD j [], WayOk N E s t (o.getD j 0) w := by
    intro j hj w hw
    rw [List.getD_eq_getElem?_getD] at hw
    by_cases hji : j < i
    · rw [List.getElem?_append_left (by rw [h.many]; exact hji), ← List.getD_eq_getElem?_getD] at hw
      exact h.ways j hji w hw
    · obtain rfl : j = i := by omega
      rw [List.getElem?_append_right (by rw [h.many]; exact Nat.le_refl _), h.many, Nat.sub_self] at hw
      exact h.mine w hw
  have hdone : ∀ j, j < i + 1 → rest.getD (o.getD j 0).toNat 0 = 0 := by
    intro j hj
    by_cases hji : j < i
    · exact h.done j hji
    · obtain rfl : j = i := by omega
      exact hz
  have hnew : FormOk N E s t o (all ++ [l]) := by
    refine ⟨hF.1, by rw [List.length_append, h.many]; simp; omega, fun j hj => ?_⟩
    rw [List.length_append, h.many] at hj
    exact hways j (by simpa using hj)
  have hcong : fillN N.toNat E s t (natsOf o) (waysN (all ++ [l])) i = fillN N.toNat E s t (natsOf o) (waysN all) i := by
    refine fillN_congr i (fun j hj => ?_)
    unfold waysN
    rw [List.map_append, List.getD_eq_getElem?_getD, List.getElem?_append_left (by rw [List.length_map, h.many]; exact hj), ← List.getD_eq_getElem?_getD]
  have hget : (waysN (all ++ [l])).getD i [] = l.map fun w => (natsOf w.1, w.2) := by
    unfold waysN
    rw [List.map_append, List.getD_eq_getElem?_getD, List.getElem?_append_right (by rw [List.length_map, h.many]; exact Nat.le_refl _), List.length_map, h.many, Nat.sub_self]
    rfl
  have hstep : fillN N.toNat E s t (natsOf o) (waysN (all ++ [l])) (i + 1) = (push N.toNat (opn E s ((natsOf o).take (i + 1))) s t lots30 (subL f rest)).1 := by
    show (push N.toNat (opn E s ((natsOf o).take (i + 1))) s t lots30 (((waysN (all ++ [l])).getD i []).foldl (tryWay E) (fillN N.toNat E s t (natsOf o) (waysN (all ++ [l])) i))).1 = _
    rw [hget, hcong, h.fill]
  -- the flow now: it may be, and it is the greatest
  have hinv2 := hnew.inv i (by omega)
  rw [hcong] at hinv2
  have hnow : ∀ (ll : List (List Int × Int)) (fl : List Int), (∀ w ∈ ll, WayOk N E s t (o.getD i 0) w) → Okf N.toNat E fl s t → NoIn E fl s → Okf N.toNat E ((ll.map fun w => (natsOf w.1, w.2)).foldl (tryWay E) fl) s t ∧ NoIn E ((ll.map fun w => (natsOf w.1, w.2)).foldl (tryWay E) fl) s ∧
      ∀ k, k < E.length → (E.getD k default).f = s → k ≠ (o.getD i 0).toNat → ((ll.map fun w => (natsOf w.1, w.2)).foldl (tryWay E) fl).getD k 0 = fl.getD k 0 := by
    intro ll
    induction ll with
    | nil => intro fl _ h1 h2; exact ⟨h1, h2, fun k _ _ _ => rfl⟩
    | cons w ll ih =>
      intro fl hw h1 h2
      have hww := hw w List.mem_cons_self
      have ht := tried (w := (natsOf w.1, w.2)) h1 T.st h2 (walkI_ok hww.2.2.2) hww.2.1.1
      obtain ⟨g1, g2, g3⟩ := ih _ (fun v hv => hw v (List.mem_cons_of_mem _ hv)) ht.1 ht.2.1
      refine ⟨g1, g2, fun k hk hks hko => (g3 k hk hks hko).trans (ht.2.2.2 k hk (fun hm => ?_))⟩
      have hwk := walkI_ok hww.2.2.2
      have hhd := hww.2.2.1
      obtain ⟨es, ct⟩ := w
      rcases es with _ | ⟨a, es⟩
      · cases hhd
      · have ha : a = o.getD i 0 := by simpa using hhd
        subst ha
        simp only [natsOf, List.map_cons] at hwk hm
        rcases List.mem_cons.1 hm with hm | hm
        · exact hko hm
        · exact walk_one hwk k hm hks
  have hok := hnow l _ h.mine (hinv2.ok.full (fun i hi => (T.caps i hi).1)) hinv2.noIn
  rw [h.fill] at hok
  obtain ⟨hok1, hok2, hok3⟩ := hok
  have hzero : ∀ k, k < E.length → (E.getD k default).f = s → k ∉ (natsOf o).take (i + 1) → (subL f rest).getD k 0 = 0 := by
    intro k hk hks hkn
    have hne : k ≠ (o.getD i 0).toNat := by
      rintro rfl
      refine hkn ?_
      rw [← natsOf_take]
      refine List.mem_map.2 ⟨o.getD i 0, ?_, rfl⟩
      rw [List.getD_eq_getElem?_getD, List.getElem?_eq_getElem hi]
      exact List.mem_take_iff_getElem.2 ⟨i, by omega, rfl⟩
    rw [hok3 k hk hks hne]
    exact hinv2.ok.closed k hk hks (fun hm => hkn (by
      rw [List.take_add_one]
      exact List.mem_append_left _ hm))
  have hclosed := hok1.close hzero
  have hmem : ∀ k ∈ (natsOf o).take (i + 1), rest.getD k 0 = 0 ∧ k < E.length := by
    intro k hk
    refine ⟨?_, (T.src k (List.mem_of_mem_take hk)).1⟩
    obtain ⟨j, hj, rfl⟩ := List.getElem_of_mem hk
    rw [List.length_take, natsOf_len] at hj
    rw [List.getElem_take]
    have := hdone j (by omega)
    rw [List.getD_eq_getElem?_getD (l := o), List.getElem?_eq_getElem (show j < o.length by omega)] at this
    simpa [natsOf] using this
  have hleast : Least E s t ((natsOf o).take (i + 1)) (partA E s ((natsOf o).take (i + 1)) (subL f rest)) := by
    have h1 := hinv.sum T (i + 1) (by omega)
    have hsrc : ∀ k ∈ (natsOf o).take (i + 1), k < E.length ∧ (E.getD k default).f = s := fun k hk => T.src k (List.mem_of_mem_take hk)
    rw [partA_sum _ (List.Nodup.sublist (List.take_sublist _ _) T.nodup) hsrc]
    have e : lsum ((natsOf o).take (i + 1)) (fun k => (subL f rest).getD k 0) = lsum ((natsOf o).take (i + 1)) (fun k => f.getD k 0) := lsum_congr fun k hk => by
      obtain ⟨a, b⟩ := hmem k hk
      rw [subL_get f rest k (by rw [hfl]; exact b), a, Int.sub_zero]
    rw [e]
    exact h1
  have hst := push_stays T ((natsOf o).take (i + 1)) hclosed hok2 hleast
  exact ⟨h.len, h.low, by rw [List.length_append, h.many]; rfl, hways, hdone, by rw [hstep, hst]⟩
/-- All is taken. -/
theorem Apart.last {N : Int} {E : List Ed} {s t : Int} {o f rest : List Int} {all : List (List (List Int × Int))} {ws : List (List (List Int × Int))} (h : Apart N E s t o f rest o.length all) (hF : FormOk N E s t o ws) (hff : f = flowR N E s t o ws) (hz : ∀ k, k < E.length → rest.getD k 0 = 0) :
    FormOk N E s t o all ∧ flowR N E s t o all = f := by
  have hfl : f.length = E.length := by
    have hinv := hF.inv o.length (Nat.le_refl _)
    rw [show fillN N.toNat E s t (natsOf o) (waysN ws) o.length = f from hff.symm] at hinv
    exact (hinv.ok.full (fun i hi => (hF.1.lexT.caps i hi).1)).len
  refine ⟨⟨hF.1, by rw [h.many]; exact Nat.le_refl _, fun j hj => h.ways j (by rw [h.many] at hj; exact hj)⟩, ?_⟩
  show fillN N.toNat E s t (natsOf o) (waysN all) o.length = f
  rw [h.fill]
  refine ext_getD (subL_len _ _) (fun i hi => ?_)
  rw [subL_len] at hi
  rw [subL_get f rest i hi, hz i (by omega), Int.sub_zero]
end Go.Proofs.Ytlpccebackmahaa

/- Layer 7: ways that are tried, by places; plainly. -/
import Derived.Test.YtlpccebackmahaaLexS
import Derived.Test.YtlpccebackmahaaLexT
set_option linter.unusedVariables false
set_option linter.unusedSimpArgs false
namespace Go.Proofs.Ytlpccebackmahaa
open Go.RowKit

/-- What is known between two tries of a source's ways. -/
structure TI (n : Nat) (E : List Ed) (s t : Int) (order : List Nat) (i : Nat) (f : List Int) : Prop where
  ok : Okf n E f s t
  noIn : NoIn E f s
  zero : ∀ k, k < E.length → (E.getD k default).f = s → k ∉ order.take (i + 1) → f.getD k 0 = 0
theorem TI.start {n : Nat} {E : List Ed} {s t : Int} {order : List Nat} {i : Nat} {f : List Int} (T : LexT n E s t order) (h : FInv n E s t order i f) : TI n E s t order i f :=
  ⟨h.ok.full (fun i hi => (T.caps i hi).1), h.noIn, fun k hk hf hA => h.ok.closed k hk hf (fun e => hA (List.take_subset_take_left order (Nat.le_succ i) e))⟩
theorem TI.next {n : Nat} {E : List Ed} {s t : Int} {order : List Nat} {i : Nat} {f : List Int} {w : List Nat × Int} (T : LexT n E s t order) (h : TI n E s t order i f) (w1 : 0 ≤ w.2) (w2 : walkOk E t [s] s w.1) (w3 : w.1.head? = order[i]?) : TI n E s t order i (tryWay E f w) := by
  obtain ⟨a, b, c⟩ := h
  obtain ⟨t1, t2, t3, t4⟩ := tried a T.st b w2 w1
  refine ⟨t1, t2, ?_⟩
  intro k hk hf hA
  rw [t4 k hk ?_]
  · exact c k hk hf hA
  · intro hin
    cases hes : w.1 with
    | nil => rw [hes] at hin; simp at hin
    | cons o es =>
      rw [hes] at hin w3 w2
      have ho : order[i]? = some o := w3.symm
      rcases List.mem_cons.1 hin with rfl | hin
      · exact hA (List.mem_of_getElem? (i := i) (by rw [List.getElem?_take_of_lt (Nat.lt_succ_self i)]; exact ho))
      · exact walk_one w2 k hin hf
theorem TI.close {n : Nat} {E : List Ed} {s t : Int} {order : List Nat} {i : Nat} {f : List Int} (h : TI n E s t order i f) : Okf n (opn E s (order.take (i + 1))) f s t := h.ok.close h.zero
/-- A raw way as it is tried. -/
def wayN (x : WayR0) : List Nat × Int := (natsOf x.es, x.count)
/-- The flow behind the first j of a source's ways. -/
def tryK (E : List Ed) (f : List Int) (ws : List WayR0) (j : Nat) : List Int := ((ws.take j).map wayN).foldl (tryWay E) f
theorem tryK_succ (E : List Ed) (f : List Int) (ws : List WayR0) (j : Nat) (hj : j < ws.length) : tryK E f ws (j + 1) = tryWay E (tryK E f ws j) (wayN (ws.getD j default)) := by
  unfold tryK
  rw [take_snoc ws j default hj, List.map_append, List.foldl_append]
  rfl
theorem waysN_at (ls : List WayL) (i : Nat) : (waysN (plainWays ls)).getD i [] = if i < ls.length then (ls.getD i default).ws.map wayN else [] := by
  unfold waysN plainWays
  by_cases h : i < ls.length
  · rw [if_pos h]
    simp only [List.getD_eq_getElem?_getD, List.getElem?_map, List.getElem?_eq_getElem h, Option.map_some, Option.getD_some]
    unfold WayL.plain
    rw [List.map_map]
    rfl
  · rw [if_neg h]
    simp [List.getD_eq_getElem?_getD, h]
/-- A way that may be, as it is tried. -/
theorem wayN_ok {N : Int} {E : List Ed} {s t : Int} {order : List Int} {i : Nat} {x : WayR0} (hi : i < order.length) (h : WayOk N E s t (order.getD i 0) x.plain) : 0 ≤ (wayN x).2 ∧ walkOk E t [s] s (wayN x).1 ∧ (wayN x).1.head? = (natsOf order)[i]? := by
  obtain ⟨_, ⟨c0, c1⟩, hh, hk⟩ := h
  refine ⟨c0, walkI_ok hk, ?_⟩
  show (natsOf x.es).head? = (natsOf order)[i]?
  unfold natsOf
  have hh' : x.es.head? = some (order.getD i 0) := hh
  rw [List.head?_map, hh', List.getElem?_map, List.getD_eq_getElem?_getD, List.getElem?_eq_getElem hi]
  rfl
theorem tryK_inv {N : Int} {E : List Ed} {s t : Int} {order : List Int} {ls : List WayL} (h : FormOk N E s t order (plainWays ls)) (i : Nat) (hi : i < order.length) (hil : i < ls.length) {f : List Int} (hf : TI N.toNat E s t (natsOf order) i f) : ∀ j, j ≤ (ls.getD i default).ws.length → TI N.toNat E s t (natsOf order) i (tryK E f (ls.getD i default).ws j) := by
  intro j
  induction j with
  | zero => intro _; exact hf
  | succ j ih =>
    intro hj
    rw [tryK_succ _ _ _ _ (by omega)]
    obtain ⟨a, b, c⟩ := wayN_ok hi ((form_places.1 h).2.2.2 i hil j (by omega))
    exact (ih (by omega)).next h.1.lexT a b c
/-- One source more. -/
theorem fillN_step (n : Nat) (E : List Ed) (s t : Int) (order : List Int) (ls : List WayL) (i : Nat) : fillN n E s t (natsOf order) (waysN (plainWays ls)) (i + 1) =
    (push n (opn E s (natsOf (order.take (i + 1)))) s t lots30 (if i < ls.length then tryK E (fillN n E s t (natsOf order) (waysN (plainWays ls)) i) (ls.getD i default).ws (ls.getD i default).ws.length else fillN n E s t (natsOf order) (waysN (plainWays ls)) i)).1 := by
  show (push n (opn E s ((natsOf order).take (i + 1))) s t lots30 (((waysN (plainWays ls)).getD i []).foldl (tryWay E) (fillN n E s t (natsOf order) (waysN (plainWays ls)) i))).1 = _
  rw [waysN_at]
  have e : (natsOf order).take (i + 1) = natsOf (order.take (i + 1)) := by unfold natsOf; rw [List.map_take]
  rw [e]
  by_cases h : i < ls.length
  · rw [if_pos h, if_pos h]
    unfold tryK
    rw [List.take_length]
  · rw [if_neg h, if_neg h]
    rfl
theorem steps_len (E : List Ed) (es : List Int) : (stepsOf E (natsOf es)).length = es.length := by simp [stepsOf, natsOf]
theorem steps_at (E : List Ed) (es : List Int) (k : Nat) (hk : k < es.length) : (stepsOf E (natsOf es)).getD k default = ((E.getD (es.getD k 0).toNat default).t, ((E.getD (es.getD k 0).toNat default).f, (es.getD k 0).toNat, false)) := by
  unfold stepsOf natsOf
  simp [List.getD_eq_getElem?_getD, hk]
theorem walk_at {E : List Ed} {t : Int} {seen : List Int} {u : Int} {es : List Int} (h : walkI E t seen u es) (k : Nat) (hk : k < es.length) : 0 ≤ es.getD k 0 ∧ es.getD k 0 < E.length := by
  have key : ∀ (es : List Int) (seen : List Int) (u : Int), walkI E t seen u es → ∀ i ∈ es, 0 ≤ i ∧ i < (E.length : Int) := by
    intro es
    induction es with
    | nil => intro _ _ _ i hi; simp at hi
    | cons a l ih =>
      intro seen u h i hi
      obtain ⟨h1, _, h3⟩ := h
      rcases List.mem_cons.1 hi with rfl | hi
      · exact ⟨h1.1, h1.2.1⟩
      · exact ih _ _ h3 i hi
  exact key es seen u h _ (getD_mem hk)
/-- Each edge of a way is turned once. -/
theorem steps_fresh {E : List Ed} {t : Int} {seen : List Int} {u : Int} {es : List Int} (h : walkI E t seen u es) {f : List Int} (hl : f.length = E.length) (d : Int) (k : Nat) (hk : k < es.length) :
    (addAll d f ((stepsOf E (natsOf es)).take k)).getD (es.getD k 0).toNat 0 = f.getD (es.getD k 0).toNat 0 := by
  have hn := walk_nodup (walkI_ok h)
  have hidx : ∀ p ∈ stepsOf E (natsOf es), p.2.2.1 < f.length := by
    intro p hp
    obtain ⟨i, hi, rfl⟩ := List.mem_map.1 hp
    rw [hl]
    exact (walk_idx (walkI_ok h) i hi).1
  refine addAll_other d f _ _ (fun p hp e => ?_) (fun p hp => hidx p (List.mem_of_mem_take hp))
  obtain ⟨j, hj, rfl⟩ := List.getElem_of_mem hp
  rw [List.length_take, steps_len] at hj
  have hj2 : j < es.length := by omega
  have := (List.pairwise_iff_getElem.1 hn) j k (by simpa [natsOf] using hj2) (by simpa [natsOf] using hk) (by omega)
  apply this
  rw [List.getElem_take] at e
  simp only [stepsOf, natsOf, List.getElem_map] at e ⊢
  rw [e, List.getD_eq_getElem?_getD, List.getElem?_eq_getElem hk]
  rfl
end Go.Proofs.Ytlpccebackmahaa

/- Filling, whole. -/
import Derived.Test.YtlpccebackmahaaFlowI
set_option linter.unusedVariables false
set_option linter.unusedSimpArgs false
namespace Go.Proofs.Ytlpccebackmahaa

theorem walk_src {E : List Ed} {s t : Int} : ∀ {es : List Nat} {seen : List Int} {u : Int}, walkOk E t seen u es → s ∈ seen → u ≠ s → ∀ i ∈ es, (E.getD i default).f ≠ s
  | [], seen, u, h, hs, hu, i, hi => by simp at hi
  | j :: es, seen, u, h, hs, hu, i, hi => by
    obtain ⟨h1, h2, h3, h4⟩ := h
    rcases List.mem_cons.1 hi with rfl | hi
    · rw [h2]; exact hu
    · exact walk_src h4 (List.mem_cons_of_mem _ hs) (fun e => h3 (by rw [e]; exact hs)) i hi
/-- A way of one source goes by no other source. -/
theorem walk_one {E : List Ed} {s t : Int} {o : Nat} {es : List Nat} (h : walkOk E t [s] s (o :: es)) : ∀ i ∈ es, (E.getD i default).f ≠ s := by
  obtain ⟨h1, h2, h3, h4⟩ := h
  exact walk_src h4 (by simp) (fun e => h3 (by rw [e]; simp))
theorem Okf.close {N : Nat} {E : List Ed} {fl : List Int} {s t : Int} {A : List Nat} (h : Okf N E fl s t) (hz : ∀ i, i < E.length → (E.getD i default).f = s → i ∉ A → fl.getD i 0 = 0) : Okf N (opn E s A) fl s t where
  len := by rw [h.len, opn_length]
  fit := by
    intro i hi
    rw [opn_length] at hi
    have := h.fit i hi
    rw [opn_get E s A i hi]
    by_cases e : (E.getD i default).f = s ∧ i ∉ A
    · rw [if_pos e, hz i hi e.1 e.2]
      exact ⟨Int.le_refl _, Int.le_refl _⟩
    · rw [if_neg e]; exact this
  bal := by
    intro v h1 h2 h3 h4
    rw [opn_outF h.len s A v]
    exact h.bal v h1 h2 h3 h4
/-- Ways of sources that may be. -/
def WaysOk (E : List Ed) (s t : Int) (order : List Nat) (ways : List (List (List Nat × Int))) : Prop :=
  ∀ i w, w ∈ ways.getD i [] → 0 ≤ w.2 ∧ walkOk E t [s] s w.1 ∧ w.1.head? = order[i]?
theorem fill_inv {N : Nat} {E : List Ed} {s t : Int} {order : List Nat} {ways : List (List (List Nat × Int))} (T : LexT N E s t order) (hw : WaysOk E s t order ways) : ∀ i, i ≤ order.length → FInv N E s t order i (fillN N E s t order ways i) := by
  intro i
  induction i with
  | zero =>
    intro _
    have hz : ∀ i, (List.replicate E.length (0 : Int)).getD i 0 = 0 := by
      intro i
      rw [List.getD_eq_getElem?_getD, List.getElem?_replicate]
      split <;> rfl
    refine ⟨Okf.close ⟨by simp [fillN], fun i hi => ?_, fun v _ _ _ _ => ?_⟩ (fun i _ _ _ => hz i), fun i _ _ => hz i, ?_⟩
    · show 0 ≤ (List.replicate _ _).getD i 0 ∧ (List.replicate _ _).getD i 0 ≤ _
      rw [hz]
      exact ⟨Int.le_refl _, (T.caps i hi).1⟩
    · unfold outF
      refine lsum_zero fun p hp => ?_
      obtain ⟨i, hi, rfl⟩ := zip_mem (by simp [fillN]) hp
      have : (fillN N E s t order ways 0).getD i 0 = 0 := hz i
      simp only [this]
      split <;> split <;> rfl
    · intro j hj
      obtain rfl : j = 0 := by omega
      refine ⟨fun v => decide (v = s), by simp, by simpa using fun e => T.st e.symm, ?_⟩
      have h1 : partA E s (order.take 0) (fillN N E s t order ways 0) = 0 := lsum_zero fun i _ => by simp
      have h2 : cutA E s (order.take 0) (fun v => decide (v = s)) = 0 := lsum_zero fun i _ => by
        by_cases e : (E.getD i default).f = s
        · have e3 : i ∉ order.take 0 := by simp
          simp only [e, e3, not_false_eq_true, and_self, if_true]
          split <;> rfl
        · rw [if_neg (fun h => e (by simpa using h.1))]
      rw [h1, h2]
  | succ i ih =>
    intro hi
    have h := ih (by omega)
    have full := h.ok.full (fun i hi => (T.caps i hi).1)
    have hcl : ∀ k, k < E.length → (E.getD k default).f = s → k ∉ order.take (i + 1) → (fillN N E s t order ways i).getD k 0 = 0 := fun k hk hf hA => h.ok.closed k hk hf (fun e => hA (List.take_subset_take_left order (Nat.le_succ i) e))
    have key : ∀ (ws : List (List Nat × Int)) (f0 : List Int), (∀ w ∈ ws, w ∈ ways.getD i []) → Okf N E f0 s t → NoIn E f0 s → (∀ k, k < E.length → (E.getD k default).f = s → k ∉ order.take (i + 1) → f0.getD k 0 = 0) →
        Okf N E (ws.foldl (tryWay E) f0) s t ∧ NoIn E (ws.foldl (tryWay E) f0) s ∧ (∀ k, k < E.length → (E.getD k default).f = s → k ∉ order.take (i + 1) → (ws.foldl (tryWay E) f0).getD k 0 = 0) ∧ ∀ k, k < E.length → f0.getD k 0 ≤ (ws.foldl (tryWay E) f0).getD k 0 := by
      intro ws
      induction ws with
      | nil => intro f0 _ a b c; exact ⟨a, b, c, fun k _ => Int.le_refl _⟩
      | cons w ws ihw =>
        intro f0 hws a b c
        obtain ⟨w1, w2, w3⟩ := hw i w (hws w List.mem_cons_self)
        obtain ⟨t1, t2, t3, t4⟩ := tried a T.st b w2 w1
        obtain ⟨r1, r2, r3, r4⟩ := ihw (tryWay E f0 w) (fun x hx => hws x (List.mem_cons_of_mem _ hx)) t1 t2 (by
          intro k hk hf hA
          rw [t4 k hk ?_]
          · exact c k hk hf hA
          · intro hin
            cases hes : w.1 with
            | nil => rw [hes] at hin; simp at hin
            | cons o es =>
              rw [hes] at hin w3 w2
              have ho : order[i]? = some o := w3.symm
              rcases List.mem_cons.1 hin with rfl | hin
              · exact hA (List.mem_of_getElem? (i := i) (by rw [List.getElem?_take_of_lt (Nat.lt_succ_self i)]; exact ho))
              · exact walk_one w2 k hin hf)
        exact ⟨r1, r2, r3, fun k hk => Int.le_trans (t3 k hk) (r4 k hk)⟩
    obtain ⟨a, b, c, d⟩ := key (ways.getD i []) _ (fun _ hx => hx) full h.noIn hcl
    exact h.step T (a.close c) b (fun k hk _ => d k hk)
end Go.Proofs.Ytlpccebackmahaa

/- Sources filled one behind the other. -/
import Derived.Test.YtlpccebackmahaaFlowH
set_option linter.unusedVariables false
set_option linter.unusedSimpArgs false
namespace Go.Proofs.Ytlpccebackmahaa

/-- A task that may be. -/
structure LexT (N : Nat) (E : List Ed) (s t : Int) (order : List Nat) : Prop where
  ends : Ends N E
  n : N ≤ 64
  many : E.length ≤ 256
  caps : ∀ i, i < E.length → 0 ≤ (E.getD i default).c ∧ (E.getD i default).c ≤ 1000
  sv : 0 ≤ s ∧ s < N
  tv : 0 ≤ t ∧ t < N
  st : s ≠ t
  nodup : order.Nodup
  src : ∀ i ∈ order, i < E.length ∧ (E.getD i default).f = s
def lots30 : Int := 1073741824
/-- The flow behind the first i sources. -/
def fillN (N : Nat) (E : List Ed) (s t : Int) (order : List Nat) (ways : List (List (List Nat × Int))) : Nat → List Int
  | 0 => List.replicate E.length 0
  | i + 1 => (push N (opn E s (order.take (i + 1))) s t lots30 ((ways.getD i []).foldl (tryWay E) (fillN N E s t order ways i))).1
/-- What is known of the flow behind sources A (the first ones of these behind each other). -/
structure FInv (N : Nat) (E : List Ed) (s t : Int) (order : List Nat) (i : Nat) (fl : List Int) : Prop where
  ok : Okf N (opn E s (order.take i)) fl s t
  noIn : NoIn E fl s
  most : ∀ j, j ≤ i → ∃ S : Int → Bool, S s = true ∧ S t = false ∧ partA E s (order.take j) fl = cutA E s (order.take j) S
theorem noIn_opn {E : List Ed} {fl : List Int} {s : Int} {A : List Nat} : NoIn (opn E s A) fl s ↔ NoIn E fl s := by
  unfold NoIn
  constructor
  · intro h i hi ht
    exact h i (by rw [opn_length]; exact hi) (by rw [opn_t E s A i hi]; exact ht)
  · intro h i hi ht
    rw [opn_length] at hi
    exact h i hi (by rw [← opn_t E s A i hi]; exact ht)
theorem lsum_const_le {α : Type} (L : List α) (g : α → Int) (c : Int) (h : ∀ a ∈ L, g a ≤ c) : lsum L g ≤ c * L.length := by
  induction L with
  | nil => simp
  | cons a L ih =>
    have h1 := h a List.mem_cons_self
    have h2 := ih (fun b hb => h b (List.mem_cons_of_mem _ hb))
    rw [lsum_cons, List.length_cons]
    have : c * ((L.length + 1 : Nat) : Int) = c * L.length + c := by
      rw [Int.natCast_add, Int.mul_add]; simp
    omega
theorem partA_le {N : Nat} {E : List Ed} {s t : Int} {order : List Nat} (T : LexT N E s t order) {fl : List Int} (h : ∀ i, i < E.length → fl.getD i 0 ≤ (E.getD i default).c) (A : List Nat) : partA E s A fl ≤ 256000 := by
  unfold partA
  have := lsum_const_le (List.range E.length) (fun i => if (E.getD i default).f = s ∧ i ∈ A then fl.getD i 0 else 0) 1000 (by
    intro i hi
    have hi := List.mem_range.1 hi
    have h1 := h i hi
    have h2 := T.caps i hi
    by_cases e : (E.getD i default).f = s ∧ i ∈ A
    · simp only [if_pos e]; omega
    · simp only [if_neg e]; omega)
  rw [List.length_range] at this
  have := T.many
  omega
theorem partA_nonneg {E : List Ed} {s : Int} {fl : List Int} (h : ∀ i, i < E.length → 0 ≤ fl.getD i 0) (A : List Nat) : 0 ≤ partA E s A fl := by
  unfold partA
  refine lsum_nonneg fun i hi => ?_
  have := h i (List.mem_range.1 hi)
  by_cases e : (E.getD i default).f = s ∧ i ∈ A
  · simp only [if_pos e]; omega
  · simp only [if_neg e]; omega
theorem partA_mono {E : List Ed} {s : Int} {f g : List Int} (h : ∀ i, i < E.length → (E.getD i default).f = s → f.getD i 0 ≤ g.getD i 0) (A : List Nat) : partA E s A f ≤ partA E s A g := by
  unfold partA
  refine lsum_le fun i hi => ?_
  by_cases e : (E.getD i default).f = s ∧ i ∈ A
  · rw [if_pos e, if_pos e]
    exact h i (List.mem_range.1 hi) e.1
  · rw [if_neg e, if_neg e]
    exact Int.le_refl _
/-- One source more, from a flow on that bears no less by the sources. -/
theorem FInv.step {N : Nat} {E : List Ed} {s t : Int} {order : List Nat} {i : Nat} {fl f1 : List Int} (T : LexT N E s t order) (h : FInv N E s t order i fl)
    (ok1 : Okf N (opn E s (order.take (i + 1))) f1 s t) (in1 : NoIn E f1 s) (up : ∀ j, j < E.length → (E.getD j default).f = s → fl.getD j 0 ≤ f1.getD j 0) :
    FInv N E s t order (i + 1) (push N (opn E s (order.take (i + 1))) s t lots30 f1).1 := by
  have hE := opn_ends T.ends s (order.take (i + 1))
  have hp := pushed (most := lots30) hE T.sv T.st lots30.toNat f1 0 (by omega) ok1 (noIn_opn.2 in1)
  have hr : pushN N (opn E s (order.take (i + 1))) s t lots30 lots30.toNat f1 0 = push N (opn E s (order.take (i + 1))) s t lots30 f1 := rfl
  rw [hr] at hp
  generalize push N (opn E s (order.take (i + 1))) s t lots30 f1 = r at *
  have in2 := noIn_opn.1 hp.noIn
  have full := hp.ok.full (fun i hi => (T.caps i hi).1)
  have full1 := ok1.full (fun i hi => (T.caps i hi).1)
  have l2 : r.1.length = E.length := full.len
  have v2 := value_part hp.ok in2
  have v1 := value_part ok1 in1
  have hval := hp.val
  rw [opn_outF l2, opn_outF full1.len, v2, v1] at hval
  have b2 := partA_le T (fun i hi => (full.fit i hi).2) (order.take (i + 1))
  have b1 := partA_nonneg (E := E) (s := s) (fl := f1) (fun i hi => (full1.fit i hi).1) (order.take (i + 1))
  refine ⟨hp.ok, in2, fun j hj => ?_⟩
  rcases Nat.lt_succ_iff_lt_or_eq.1 (Nat.lt_succ_of_le hj) with hj | rfl
  · obtain ⟨S, s1, s2, s3⟩ := h.most j (by omega)
    refine ⟨S, s1, s2, Int.le_antisymm (part_le T.ends T.sv full in2 _ S s1 s2) ?_⟩
    rw [← s3]
    refine partA_mono (fun k hk hf => Int.le_trans (up k hk hf) ?_) _
    exact hp.grow k (by rw [opn_length]; exact hk) (by rw [opn_f E s _ k hk]; exact hf)
  · have hw : wayOf N (opn E s (order.take (i + 1))) r.1 s t = none := by
      rcases hp.last with h1 | h1
      · unfold lots30 at h1; omega
      · exact h1
    obtain ⟨S, s1, s2, s3⟩ := wayOf_none hE T.sv hp.ok hw
    refine ⟨S, s1, s2, ?_⟩
    rw [opn_outF l2, cutA_eq l2, v2] at s3
    exact s3
end Go.Proofs.Ytlpccebackmahaa

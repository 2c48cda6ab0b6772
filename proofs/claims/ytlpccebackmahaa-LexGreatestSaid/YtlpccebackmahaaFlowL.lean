/- The greatest flow; wider sources; a flow that is there already. -/
import Derived.Test.YtlpccebackmahaaFlowK
set_option linter.unusedVariables false
set_option linter.unusedSimpArgs false
namespace Go.Proofs.Ytlpccebackmahaa

theorem zeros_get (n i : Nat) : (List.replicate n (0 : Int)).getD i 0 = 0 := by
  rw [List.getD_eq_getElem?_getD, List.getElem?_replicate]
  split <;> rfl
theorem zeros_ok {N : Nat} {E : List Ed} {s t : Int} (hc : ∀ i, i < E.length → 0 ≤ (E.getD i default).c) : Okf N E (List.replicate E.length 0) s t ∧ NoIn E (List.replicate E.length 0) s ∧ ∀ v, outF (E.zip (List.replicate E.length 0)) v = 0 := by
  have hz : ∀ v, outF (E.zip (List.replicate E.length 0)) v = 0 := by
    intro v
    unfold outF
    refine lsum_zero fun p hp => ?_
    obtain ⟨i, hi, rfl⟩ := zip_mem (by simp) hp
    simp only [zeros_get]
    split <;> split <;> rfl
  refine ⟨⟨by simp, fun i hi => ?_, fun v _ _ _ _ => hz v⟩, fun i _ _ => zeros_get _ _, hz⟩
  rw [zeros_get]
  exact ⟨Int.le_refl _, hc i hi⟩
/-- Max is the least cut. -/
theorem max_least {N : Nat} {E : List Ed} {s t : Int} {order : List Nat} (T : LexT N E s t order) (A : List Nat) : Least E s t A (push N (opn E s A) s t lots30 (List.replicate E.length 0)).2 := by
  have hE := opn_ends T.ends s A
  have hcap : ∀ i, i < (opn E s A).length → 0 ≤ ((opn E s A).getD i default).c := by
    intro i hi
    rw [opn_length] at hi
    rw [opn_get E s A i hi]
    have := T.caps i hi
    split
    · exact Int.le_refl _
    · exact this.1
  obtain ⟨z1, z2, z3⟩ := zeros_ok (N := N) (s := s) (t := t) hcap
  rw [opn_length] at z1 z2 z3
  have hp := pushed (most := lots30) hE T.sv T.st lots30.toNat _ 0 (by omega) z1 z2
  have hr : pushN N (opn E s A) s t lots30 lots30.toNat (List.replicate E.length 0) 0 = push N (opn E s A) s t lots30 (List.replicate E.length 0) := rfl
  rw [hr] at hp
  generalize push N (opn E s A) s t lots30 (List.replicate E.length 0) = r at *
  have in2 := noIn_opn.1 hp.noIn
  have full := hp.ok.full (fun i hi => (T.caps i hi).1)
  have l2 : r.1.length = E.length := full.len
  have v2 := value_part hp.ok in2
  have hval := hp.val
  rw [z3, opn_outF l2, v2] at hval
  have hr2 : r.2 = partA E s A r.1 := by omega
  have b2 := partA_le T (fun i hi => (full.fit i hi).2) A
  rw [hr2]
  refine ⟨?_, fun S h1 h2 => part_le T.ends T.sv full in2 A S h1 h2⟩
  have hw : wayOf N (opn E s A) r.1 s t = none := by
    rcases hp.last with h1 | h1
    · unfold lots30 at h1; omega
    · exact h1
  obtain ⟨S, s1, s2, s3⟩ := wayOf_none hE T.sv hp.ok hw
  rw [opn_outF l2, cutA_eq l2, v2] at s3
  exact ⟨S, s1, s2, s3⟩
/-- A Push on a flow that is the greatest leaves it. -/
theorem push_stays {N : Nat} {E : List Ed} {s t : Int} {order : List Nat} (T : LexT N E s t order) (A : List Nat) {fl : List Int} (h : Okf N (opn E s A) fl s t) (hin : NoIn E fl s) (hm : Least E s t A (partA E s A fl)) : push N (opn E s A) s t lots30 fl = (fl, 0) := by
  obtain ⟨S, s1, s2, s3⟩ := hm.some
  have hl : fl.length = E.length := (h.full (fun i hi => (T.caps i hi).1)).len
  have hw := no_way_of_cut (opn_ends T.ends s A) T.sv T.st h S s1 s2 (by rw [opn_outF hl, cutA_eq hl, value_part h hin]; exact s3)
  show pushN N (opn E s A) s t lots30 (1073741823 + 1) fl 0 = (fl, 0)
  unfold pushN
  rw [if_pos (by unfold lots30; omega), hw]
end Go.Proofs.Ytlpccebackmahaa

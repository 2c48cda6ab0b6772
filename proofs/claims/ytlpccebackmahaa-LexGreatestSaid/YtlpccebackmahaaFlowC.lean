/- Ways back from a vertex that was come to; flow along a way. -/
import Derived.Test.YtlpccebackmahaaFlowB
set_option linter.unusedVariables false
set_option linter.unusedSimpArgs false
namespace Go.Proofs.Ytlpccebackmahaa

/-- The edges' ends are vertices. -/
def Ends (N : Nat) (E : List Ed) : Prop := ∀ e ∈ E, (0 ≤ e.f ∧ e.f < N) ∧ (0 ≤ e.t ∧ e.t < N) ∧ e.f ≠ e.t
theorem Ends.at {N : Nat} {E : List Ed} (h : Ends N E) {i : Nat} (hi : i < E.length) : (0 ≤ (E.getD i default).f ∧ (E.getD i default).f < N) ∧ (0 ≤ (E.getD i default).t ∧ (E.getD i default).t < N) ∧ (E.getD i default).f ≠ (E.getD i default).t := by
  refine h _ ?_
  rw [List.getD_eq_getElem?_getD, List.getElem?_eq_getElem hi]
  exact List.getElem_mem hi
/-- What 'dir' says. -/
theorem dir_some {E : List Ed} {fl : List Int} {u v : Int} {i : Nat} {ag : Bool} (h : dir E fl u i = some (v, ag)) :
    (ag = false ∧ (E.getD i default).f = u ∧ (E.getD i default).t = v ∧ fl.getD i 0 < (E.getD i default).c) ∨ (ag = true ∧ (E.getD i default).t = u ∧ (E.getD i default).f = v ∧ 0 < fl.getD i 0) := by
  unfold dir at h
  split at h
  · rename_i h1
    cases h
    exact .inl ⟨rfl, h1.1, rfl, h1.2⟩
  · split at h
    · rename_i h1
      cases h
      exact .inr ⟨rfl, h1.1, rfl, h1.2⟩
    · cases h
theorem BInv.keys {N : Nat} {E : List Ed} {fl : List Int} {s : Int} {k : Nat} {bs : List St} (h : BInv E fl s k bs) (hE : Ends N E) (hs : 0 ≤ s ∧ s < N) : ∀ v ∈ bs.map (·.1), 0 ≤ v ∧ v < (N : Int) := by
  intro v hv
  obtain ⟨p, hp, rfl⟩ := List.mem_map.1 hv
  obtain ⟨j, hj, e⟩ := List.getElem_of_mem hp
  cases j with
  | zero =>
    obtain ⟨r, hr⟩ := h.head
    subst hr
    simp at e
    rw [← e]
    exact hs
  | succ j =>
    obtain ⟨v, u, i, ag⟩ := p
    obtain ⟨hi, hd, _⟩ := h.come j v u i ag (by rw [List.getElem?_eq_getElem hj, e])
    obtain ⟨a, b, _⟩ := hE.at hi
    rcases dir_some hd with ⟨_, _, rfl, _⟩ | ⟨_, _, rfl, _⟩
    · exact b
    · exact a
theorem verts_length (N : Nat) : (verts N).length = N := by simp [verts]
theorem BInv.len {N : Nat} {E : List Ed} {fl : List Int} {s : Int} {k : Nat} {bs : List St} (h : BInv E fl s k bs) (hE : Ends N E) (hs : 0 ≤ s ∧ s < N) : bs.length ≤ N := by
  have := List.Nodup.length_le_of_subset h.nodup (fun v hv => mem_verts.2 (h.keys hE hs v hv))
  rwa [List.length_map, verts_length] at this
/-- Once all were gone through nothing turns any more. -/
theorem bfs_done {E : List Ed} {fl : List Int} {s : Int} {k : Nat} (h : (bfs E fl s k).length ≤ k) : ∀ m, k ≤ m → bfs E fl s m = bfs E fl s k := by
  intro m hm
  induction m with
  | zero => rw [Nat.le_zero.1 hm]
  | succ m ih =>
    rcases Nat.lt_or_ge k (m + 1) with h1 | h1
    · have := ih (by omega)
      rw [bfs_none (by rw [this]; exact List.getElem?_eq_none (by omega)), this]
    · rw [show m + 1 = k by omega]

/-- A way back from v to s. -/
def Chain (E : List Ed) (fl : List Int) (s : Int) : Int → List St → Prop
  | v, [] => v = s
  | v, p :: l => p.1 = v ∧ v ≠ s ∧ p.2.2.1 < E.length ∧ dir E fl p.2.1 p.2.2.1 = some (v, p.2.2.2) ∧ v ∉ l.map (·.1) ∧ Chain E fl s p.2.1 l
def back (bs : List St) (s : Int) : Nat → Int → List St
  | 0, v => []
  | n + 1, v => if v = s then [] else match aget bs v with
    | some q => (v, q) :: back bs s n q.1
    | none => []
theorem aget_key {bs : List St} (hn : (bs.map (·.1)).Nodup) {j : Nat} {p : St} (h : bs[j]? = some p) : aget bs p.1 = some p.2 := aget_at hn h
theorem chain_of {E : List Ed} {fl : List Int} {s : Int} {k : Nat} {bs : List St} (h : BInv E fl s k bs) : ∀ n j v, j ≤ n → (bs[j]?).map (·.1) = some v →
    Chain E fl s v (back bs s n v) ∧ ∀ x ∈ (back bs s n v).map (·.1), ∃ j', j' ≤ j ∧ (bs[j']?).map (·.1) = some x := by
  intro n
  induction n with
  | zero =>
    intro j v hj hv
    obtain rfl : j = 0 := by omega
    obtain ⟨r, hr⟩ := h.head
    rw [hr] at hv
    simp at hv
    exact ⟨hv.symm, by simp [back]⟩
  | succ n ih =>
    intro j v hj hv
    obtain ⟨p, hp, hpv⟩ := Option.map_eq_some_iff.1 hv
    subst hpv
    unfold back
    by_cases e : p.1 = s
    · rw [if_pos e]
      exact ⟨e, by simp⟩
    · rw [if_neg e, aget_key h.nodup hp]
      simp only
      cases j with
      | zero =>
        obtain ⟨r, hr⟩ := h.head
        rw [hr] at hp
        simp at hp
        rw [← hp] at e
        exact absurd rfl e
      | succ j =>
        obtain ⟨v, u, i, ag⟩ := p
        obtain ⟨hi, hd, j', hj', hu⟩ := h.come j v u i ag hp
        obtain ⟨c1, c2⟩ := ih j' u (by omega) hu
        simp only at e ⊢
        refine ⟨⟨rfl, e, hi, hd, ?_, c1⟩, ?_⟩
        · intro hin
          obtain ⟨j2, h2, h3⟩ := c2 v hin
          have e1 : (bs.map (·.1))[j + 1]? = some v := by rw [List.getElem?_map, hp]; rfl
          have e2 : (bs.map (·.1))[j2]? = some v := by rw [List.getElem?_map]; exact h3
          have l1 := (List.getElem?_eq_some_iff.1 e1).1
          have l2 := (List.getElem?_eq_some_iff.1 e2).1
          have := (List.getElem_inj (h₀ := l1) (h₁ := l2) h.nodup).1 (by
            rw [List.getElem?_eq_getElem l1] at e1
            rw [List.getElem?_eq_getElem l2] at e2
            exact (Option.some.inj e1).trans (Option.some.inj e2).symm)
          omega
        · intro x hx
          rw [List.map_cons, List.mem_cons] at hx
          rcases hx with rfl | hx
          · exact ⟨j + 1, Nat.le_refl _, by rw [hp]; rfl⟩
          · obtain ⟨j2, h2, h3⟩ := c2 x hx
            exact ⟨j2, by omega, h3⟩
/-- The edges of a way are all others. -/
theorem Chain.ends {E : List Ed} {fl : List Int} {s : Int} : ∀ {l : List St} {v : Int}, Chain E fl s v l → ∀ q ∈ l, q.2.1 = s ∨ q.2.1 ∈ l.map (·.1)
  | [], v, h, q, hq => by simp at hq
  | p :: l, v, h, q, hq => by
    obtain ⟨h1, h2, h3, h4, h5, h6⟩ := h
    rcases List.mem_cons.1 hq with rfl | hq
    · cases l with
      | nil => exact .inl h6
      | cons r l => exact .inr (by rw [List.map_cons, List.map_cons, h6.1]; simp)
    · rcases Chain.ends h6 q hq with h7 | h7
      · exact .inl h7
      · exact .inr (by rw [List.map_cons]; exact List.mem_cons_of_mem _ h7)
theorem Chain.steps {E : List Ed} {fl : List Int} {s : Int} : ∀ {l : List St} {v : Int}, Chain E fl s v l → ∀ q ∈ l, q.2.2.1 < E.length ∧ dir E fl q.2.1 q.2.2.1 = some (q.1, q.2.2.2) ∧ q.1 ≠ s
  | [], v, h, q, hq => by simp at hq
  | p :: l, v, h, q, hq => by
    obtain ⟨h1, h2, h3, h4, h5, h6⟩ := h
    rcases List.mem_cons.1 hq with rfl | hq
    · subst h1; exact ⟨h3, h4, h2⟩
    · exact Chain.steps h6 q hq
theorem Chain.distinct {E : List Ed} {fl : List Int} {s : Int} : ∀ {l : List St} {v : Int}, Chain E fl s v l → (l.map (fun p => p.2.2.1)).Nodup
  | [], v, h => by simp
  | p :: l, v, h => by
    have hh := h
    obtain ⟨h1, h2, h3, h4, h5, h6⟩ := h
    rw [List.map_cons, List.nodup_cons]
    refine ⟨?_, Chain.distinct h6⟩
    intro hin
    obtain ⟨q, hq, hqe⟩ := List.mem_map.1 hin
    obtain ⟨g1, g2, g3⟩ := Chain.steps h6 q hq
    have g4 := Chain.ends h6 q hq
    have hqv : q.1 ≠ v := fun e => h5 (List.mem_map.2 ⟨q, hq, e⟩)
    rw [hqe] at g2
    have : q.2.1 = v := by
      rcases dir_some h4 with ⟨_, a, b, _⟩ | ⟨_, a, b, _⟩ <;> rcases dir_some g2 with ⟨_, c, d, _⟩ | ⟨_, c, d, _⟩
      · exact absurd (d.symm.trans b) hqv
      · exact c.symm.trans b
      · exact c.symm.trans b
      · exact absurd (d.symm.trans b) hqv
    rcases g4 with g4 | g4
    · exact h2 (this.symm.trans g4)
    · exact h5 (this ▸ g4)
end Go.Proofs.Ytlpccebackmahaa

/- Going through a network breadth first, plainly; ways; flow along a way. -/
import Derived.Test.YtlpccebackmahaaFlowM
set_option linter.unusedVariables false
set_option linter.unusedSimpArgs false
namespace Go.Proofs.Ytlpccebackmahaa

/-- What flows through sources of a set A is not more than the cut in which these sources alone are open. -/
theorem part_le_cut {N : Nat} {T : List ((Ed × Int) × Bool)} {s t : Int} (h : GoodF N (T.map (·.1)) s t) (hs : 0 ≤ s ∧ s < N) (hin : ∀ p ∈ T, p.1.1.t = s → p.1.2 = 0) (S : Int → Bool) (h1 : S s = true) (h2 : S t = false) :
    lsum T (fun p => if p.1.1.f = s ∧ p.2 = true then p.1.2 else 0) ≤ lsum T (fun p => if S p.1.1.f = true ∧ S p.1.1.t = false then (if p.1.1.f = s ∧ p.2 = false then 0 else p.1.1.c) else 0) := by
  have hv := value_cut h hs S h1 h2
  have e1 : outF (T.map (·.1)) s = lsum T (fun p => if p.1.1.f = s then p.1.2 else 0) := by
    unfold outF lsum
    rw [List.map_map]
    refine congrArg List.sum (List.map_congr_left fun p hp => ?_)
    show (if p.1.1.f = s then p.1.2 else 0) - (if p.1.1.t = s then p.1.2 else 0) = _
    by_cases e : p.1.1.t = s
    · rw [hin p hp e]; simp
    · simp [e]
  have e2 : lsum (T.map (·.1)) (fun p => (if S p.1.f then p.2 else 0) - (if S p.1.t then p.2 else 0)) = lsum T (fun p => (if S p.1.1.f then p.1.2 else 0) - (if S p.1.1.t then p.1.2 else 0)) := by
    unfold lsum
    rw [List.map_map]
    rfl
  rw [e1, e2] at hv
  have e3 : lsum T (fun p => if p.1.1.f = s ∧ p.2 = true then p.1.2 else 0) = lsum T (fun p => ((if p.1.1.f = s ∧ p.2 = true then p.1.2 else 0) + ((if S p.1.1.f then p.1.2 else 0) - (if S p.1.1.t then p.1.2 else 0))) - (if p.1.1.f = s then p.1.2 else 0)) := by
    rw [lsum_sub, lsum_add, ← hv]
    omega
  rw [e3]
  refine lsum_le fun p hp => ?_
  have a := h.low p.1 (List.mem_map.2 ⟨p, hp, rfl⟩)
  have b := h.high p.1 (List.mem_map.2 ⟨p, hp, rfl⟩)
  by_cases e : p.1.1.f = s
  · rw [e, h1]
    cases e1 : p.2 <;> cases e2 : S p.1.1.t <;> simp <;> omega
  · cases e0 : S p.1.1.f <;> cases e1 : p.2 <;> cases e2 : S p.1.1.t <;> simp [e] <;> omega

/-- Can one go from u by edge i, and to where: with it, or against it? -/
def dir (E : List Ed) (fl : List Int) (u : Int) (i : Nat) : Option (Int × Bool) :=
  if (E.getD i default).f = u ∧ fl.getD i 0 < (E.getD i default).c then some ((E.getD i default).t, false)
  else if (E.getD i default).t = u ∧ 0 < fl.getD i 0 then some ((E.getD i default).f, true) else none
/-- How a vertex was come to. -/
abbrev St := Int × (Int × (Nat × Bool))
def see (E : List Ed) (fl : List Int) (u : Int) (bs : List St) (i : Nat) : List St :=
  match dir E fl u i with
  | some (to, ag) => if to ∈ bs.map (·.1) then bs else bs ++ [(to, (u, i, ag))]
  | none => bs
def scan (E : List Ed) (fl : List Int) (u : Int) (bs : List St) (n : Nat) : List St := (List.range n).foldl (see E fl u) bs
theorem scan_succ (E : List Ed) (fl : List Int) (u : Int) (bs : List St) (n : Nat) : scan E fl u bs (n + 1) = see E fl u (scan E fl u bs n) n := by
  unfold scan
  rw [List.range_succ, List.foldl_append]
  rfl
/-- What is seen behind k rounds. -/
def bfs (E : List Ed) (fl : List Int) (s : Int) : Nat → List St
  | 0 => [(s, (0, 0, false))]
  | k + 1 => match (bfs E fl s k)[k]? with
    | some p => scan E fl p.1 (bfs E fl s k) E.length
    | none => bfs E fl s k

structure BInv (E : List Ed) (fl : List Int) (s : Int) (k : Nat) (bs : List St) : Prop where
  head : ∃ r, bs = (s, (0, 0, false)) :: r
  nodup : (bs.map (·.1)).Nodup
  come : ∀ j v u i ag, bs[j + 1]? = some (v, (u, i, ag)) → i < E.length ∧ dir E fl u i = some (v, ag) ∧ ∃ j', j' ≤ j ∧ (bs[j']?).map (·.1) = some u
  shut : ∀ j, j < k → ∀ u, (bs[j]?).map (·.1) = some u → ∀ i, i < E.length → ∀ v ag, dir E fl u i = some (v, ag) → v ∈ bs.map (·.1)
theorem see_prefix (E : List Ed) (fl : List Int) (u : Int) (bs : List St) (i : Nat) : ∃ r, see E fl u bs i = bs ++ r := by
  unfold see
  split
  · split
    · exact ⟨[], by simp⟩
    · exact ⟨_, rfl⟩
  · exact ⟨[], by simp⟩
theorem scan_prefix (E : List Ed) (fl : List Int) (u : Int) (bs : List St) (n : Nat) : ∃ r, scan E fl u bs n = bs ++ r := by
  induction n with
  | zero => exact ⟨[], by simp [scan]⟩
  | succ n ih =>
    obtain ⟨r, hr⟩ := ih
    rw [scan_succ]
    obtain ⟨r2, h2⟩ := see_prefix E fl u (scan E fl u bs n) n
    exact ⟨r ++ r2, by rw [h2, hr, List.append_assoc]⟩
theorem bfs_some {E : List Ed} {fl : List Int} {s : Int} {k : Nat} {p : St} (h : (bfs E fl s k)[k]? = some p) : bfs E fl s (k + 1) = scan E fl p.1 (bfs E fl s k) E.length := by
  show (match (bfs E fl s k)[k]? with | some p => _ | none => _) = _
  rw [h]
theorem bfs_none {E : List Ed} {fl : List Int} {s : Int} {k : Nat} (h : (bfs E fl s k)[k]? = none) : bfs E fl s (k + 1) = bfs E fl s k := by
  show (match (bfs E fl s k)[k]? with | some p => _ | none => _) = _
  rw [h]
theorem bfs_prefix (E : List Ed) (fl : List Int) (s : Int) (k : Nat) : ∃ r, bfs E fl s (k + 1) = bfs E fl s k ++ r := by
  cases h : (bfs E fl s k)[k]? with
  | none => exact ⟨[], by rw [bfs_none h]; simp⟩
  | some p => rw [bfs_some h]; exact scan_prefix ..
theorem see_mem {E : List Ed} {fl : List Int} {u v : Int} {bs : List St} {i : Nat} {ag : Bool} (h : dir E fl u i = some (v, ag)) : v ∈ (see E fl u bs i).map (·.1) := by
  unfold see
  rw [h]
  simp only
  split
  · assumption
  · simp
/-- In the middle of a round: the vertex at place j is gone through, up to edge n. -/
structure SInv (E : List Ed) (fl : List Int) (s : Int) (j : Nat) (u : Int) (n : Nat) (bs : List St) : Prop where
  head : ∃ r, bs = (s, (0, 0, false)) :: r
  nodup : (bs.map (·.1)).Nodup
  come : ∀ j v u i ag, bs[j + 1]? = some (v, (u, i, ag)) → i < E.length ∧ dir E fl u i = some (v, ag) ∧ ∃ j', j' ≤ j ∧ (bs[j']?).map (·.1) = some u
  shut : ∀ j', j' < j → ∀ u, (bs[j']?).map (·.1) = some u → ∀ i, i < E.length → ∀ v ag, dir E fl u i = some (v, ag) → v ∈ bs.map (·.1)
  at_ : (bs[j]?).map (·.1) = some u
  now : ∀ i, i < n → ∀ v ag, dir E fl u i = some (v, ag) → v ∈ bs.map (·.1)
theorem get_app {bs : List St} {x : St} {j : Nat} {u : Int} (h : (bs[j]?).map (·.1) = some u) : ((bs ++ [x])[j]?).map (·.1) = some u := by
  have hj : j < bs.length := by
    rcases Nat.lt_or_ge j bs.length with h1 | h1
    · exact h1
    · rw [List.getElem?_eq_none h1] at h; cases h
  rw [List.getElem?_append_left hj]
  exact h
theorem SInv.seen {E : List Ed} {fl : List Int} {s : Int} {j : Nat} {u : Int} {n : Nat} {bs : List St} (h : SInv E fl s j u n bs) (hn : n < E.length) : SInv E fl s j u (n + 1) (see E fl u bs n) := by
  have hmem : ∀ {r : List St}, see E fl u bs n = bs ++ r → ∀ x, x ∈ bs.map (·.1) → x ∈ (see E fl u bs n).map (·.1) := by
    intro r hr x hx
    rw [hr, List.map_append]
    exact List.mem_append_left _ hx
  have hnow : ∀ i, i < n + 1 → ∀ v ag, dir E fl u i = some (v, ag) → v ∈ (see E fl u bs n).map (·.1) := by
    intro i hi v ag hd
    rcases Nat.lt_succ_iff_lt_or_eq.1 hi with hi | rfl
    · obtain ⟨r, hr⟩ := see_prefix E fl u bs n
      exact hmem hr v (h.now i hi v ag hd)
    · exact see_mem hd
  cases hd : dir E fl u n with
  | none =>
    have e : see E fl u bs n = bs := by unfold see; rw [hd]
    rw [e] at hnow ⊢
    exact ⟨h.head, h.nodup, h.come, h.shut, h.at_, hnow⟩
  | some p =>
    obtain ⟨to, ag⟩ := p
    by_cases hin : to ∈ bs.map (·.1)
    · have e : see E fl u bs n = bs := by unfold see; rw [hd]; simp only; rw [if_pos hin]
      rw [e] at hnow ⊢
      exact ⟨h.head, h.nodup, h.come, h.shut, h.at_, hnow⟩
    · have e : see E fl u bs n = bs ++ [(to, (u, n, ag))] := by unfold see; rw [hd]; simp only; rw [if_neg hin]
      rw [e] at hnow hmem ⊢
      refine ⟨?_, ?_, ?_, ?_, get_app h.at_, hnow⟩
      · obtain ⟨r, hr⟩ := h.head
        exact ⟨r ++ [(to, (u, n, ag))], by rw [hr]; rfl⟩
      · rw [List.map_append, List.nodup_append]
        refine ⟨h.nodup, by simp, ?_⟩
        intro a ha b hb e2
        simp at hb
        subst e2 hb
        exact hin ha
      · intro i v u' i' ag' hg
        rcases Nat.lt_trichotomy (i + 1) bs.length with hl | hl | hl
        · rw [List.getElem?_append_left hl] at hg
          obtain ⟨a, b, j', c, d⟩ := h.come i v u' i' ag' hg
          exact ⟨a, b, j', c, get_app d⟩
        · rw [List.getElem?_append_right (by omega), hl] at hg
          simp at hg
          obtain ⟨rfl, rfl, rfl, rfl⟩ := hg
          have hj : j < bs.length := by
            rcases Nat.lt_or_ge j bs.length with h1 | h1
            · exact h1
            · have := h.at_; rw [List.getElem?_eq_none h1] at this; cases this
          exact ⟨hn, hd, j, by omega, get_app h.at_⟩
        · rw [List.getElem?_append_right (by omega)] at hg
          rw [List.getElem?_eq_none (by simp; omega)] at hg
          cases hg
      · intro j' hj' u' hu' i hi v ag' hd'
        have hj : j < bs.length := by
          rcases Nat.lt_or_ge j bs.length with h1 | h1
          · exact h1
          · have := h.at_; rw [List.getElem?_eq_none h1] at this; cases this
        rw [List.getElem?_append_left (by omega)] at hu'
        exact hmem rfl v (h.shut j' hj' u' hu' i hi v ag' hd')
theorem SInv.scanned {E : List Ed} {fl : List Int} {s : Int} {j : Nat} {u : Int} {bs : List St} (h : SInv E fl s j u 0 bs) (n : Nat) (hn : n ≤ E.length) : SInv E fl s j u n (scan E fl u bs n) := by
  induction n with
  | zero => exact h
  | succ n ih =>
    rw [scan_succ]
    exact (ih (by omega)).seen (by omega)
theorem bfs_inv (E : List Ed) (fl : List Int) (s : Int) (k : Nat) : BInv E fl s k (bfs E fl s k) := by
  induction k with
  | zero =>
    refine ⟨⟨[], rfl⟩, by simp [bfs], ?_, fun j hj => absurd hj (by omega)⟩
    intro j v u i ag h
    simp [bfs] at h
  | succ k ih =>
    cases hk : (bfs E fl s k)[k]? with
    | none =>
      rw [bfs_none hk]
      refine ⟨ih.head, ih.nodup, ih.come, ?_⟩
      intro j hj u hu
      rcases Nat.lt_succ_iff_lt_or_eq.1 hj with h1 | rfl
      · exact ih.shut j h1 u hu
      · rw [hk] at hu; cases hu
    | some p =>
      rw [bfs_some hk]
      have h0 : SInv E fl s k p.1 0 (bfs E fl s k) := ⟨ih.head, ih.nodup, ih.come, ih.shut, by rw [hk]; rfl, fun i hi => absurd hi (by omega)⟩
      have h1 := h0.scanned E.length (Nat.le_refl _)
      refine ⟨h1.head, h1.nodup, h1.come, ?_⟩
      intro j hj u hu
      rcases Nat.lt_succ_iff_lt_or_eq.1 hj with h2 | rfl
      · exact h1.shut j h2 u hu
      · have := h1.at_
        rw [hu] at this
        cases this
        exact h1.now
end Go.Proofs.Ytlpccebackmahaa

/- Push, plainly: what it makes is right, and no way is left. -/
import Derived.Test.YtlpccebackmahaaFlowD
set_option linter.unusedVariables false
set_option linter.unusedSimpArgs false
namespace Go.Proofs.Ytlpccebackmahaa

/-- A flow that may be, edge by edge. -/
structure Okf (N : Nat) (E : List Ed) (fl : List Int) (s t : Int) : Prop where
  len : fl.length = E.length
  fit : ∀ i, i < E.length → 0 ≤ fl.getD i 0 ∧ fl.getD i 0 ≤ (E.getD i default).c
  bal : ∀ v : Int, 0 ≤ v → v < N → v ≠ s → v ≠ t → outF (E.zip fl) v = 0
theorem zip_mem {E : List Ed} {fl : List Int} (hl : fl.length = E.length) {p : Ed × Int} (h : p ∈ E.zip fl) : ∃ i, i < E.length ∧ p = (E.getD i default, fl.getD i 0) := by
  obtain ⟨i, hi, e⟩ := List.getElem_of_mem h
  have hi2 : i < E.length := by rw [List.length_zip] at hi; omega
  have := zip_get E fl i hi2 hl
  rw [List.getElem?_eq_getElem hi, e] at this
  exact ⟨i, hi2, Option.some.inj this⟩
theorem Okf.good {N : Nat} {E : List Ed} {fl : List Int} {s t : Int} (h : Okf N E fl s t) (hE : Ends N E) : GoodF N (E.zip fl) s t where
  within := by
    intro p hp
    obtain ⟨i, hi, rfl⟩ := zip_mem h.len hp
    have := hE.at hi
    exact ⟨this.1, this.2.1⟩
  low := by
    intro p hp
    obtain ⟨i, hi, rfl⟩ := zip_mem h.len hp
    exact (h.fit i hi).1
  high := by
    intro p hp
    obtain ⟨i, hi, rfl⟩ := zip_mem h.len hp
    exact (h.fit i hi).2
  bal := h.bal
/-- Nothing flows into s. -/
def NoIn (E : List Ed) (fl : List Int) (s : Int) : Prop := ∀ i, i < E.length → (E.getD i default).t = s → fl.getD i 0 = 0
theorem Chain.lens {E : List Ed} {fl0 fl : List Int} {s v : Int} {l : List St} (h : Chain E fl0 s v l) (hl : fl.length = E.length) : ∀ p ∈ l, p.2.2.1 < fl.length := fun p hp => by rw [hl]; exact (h.steps p hp).1
theorem Okf.add {N : Nat} {E : List Ed} {fl : List Int} {s t : Int} {l : List St} {d : Int} (h : Okf N E fl s t) (hc : Chain E fl s t l) (h0 : 0 ≤ d) (hd : ∀ p ∈ l, d ≤ roomAt E fl p) : Okf N E (addAll d fl l) s t where
  len := by rw [addAll_length, h.len]
  fit := by
    intro i hi
    have hf := h.fit i hi
    by_cases hin : ∃ p ∈ l, p.2.2.1 = i
    · obtain ⟨p, hp, rfl⟩ := hin
      rw [addAll_on d fl l hc.distinct (hc.lens h.len) p hp]
      have hr := hd p hp
      unfold roomAt at hr
      cases e : p.2.2.2 <;> rw [e] at hr <;> simp only [Bool.false_eq_true, if_false, if_true] at hr ⊢ <;> omega
    · rw [addAll_other d fl l i (fun p hp e => hin ⟨p, hp, e⟩) (hc.lens h.len)]
      exact hf
  bal := by
    intro v h1 h2 h3 h4
    rw [outF_addAll d v hc h.len, h.bal v h1 h2 h3 h4, if_neg (fun e => h3 e.symm), if_neg (fun e => h4 e.symm)]
    omega
theorem Chain.value {E : List Ed} {fl : List Int} {s t : Int} {l : List St} (hc : Chain E fl s t l) (hl : fl.length = E.length) (hst : s ≠ t) (d : Int) : outF (E.zip (addAll d fl l)) s = outF (E.zip fl) s + d := by
  rw [outF_addAll d s hc hl, if_pos rfl, if_neg (fun e => hst e.symm)]
  omega
/-- Edges into s stay as they are, those from s bear no less. -/
theorem Chain.into {E : List Ed} {fl : List Int} {s t : Int} {l : List St} (hc : Chain E fl s t l) (hl : fl.length = E.length) (hn : NoIn E fl s) (d : Int) (h0 : 0 ≤ d) :
    NoIn E (addAll d fl l) s ∧ ∀ i, i < E.length → (E.getD i default).f = s → fl.getD i 0 ≤ (addAll d fl l).getD i 0 := by
  constructor
  · intro i hi ht
    by_cases hin : ∃ p ∈ l, p.2.2.1 = i
    · exfalso
      obtain ⟨p, hp, rfl⟩ := hin
      obtain ⟨_, g2, g3⟩ := hc.steps p hp
      rcases dir_some g2 with ⟨_, _, b, _⟩ | ⟨_, _, _, b⟩
      · exact g3 (b.symm.trans ht)
      · have := hn _ hi ht
        omega
    · rw [addAll_other d fl l i (fun p hp e => hin ⟨p, hp, e⟩) (hc.lens hl)]
      exact hn i hi ht
  · intro i hi hf
    by_cases hin : ∃ p ∈ l, p.2.2.1 = i
    · obtain ⟨p, hp, rfl⟩ := hin
      rw [addAll_on d fl l hc.distinct (hc.lens hl) p hp]
      obtain ⟨_, g2, g3⟩ := hc.steps p hp
      rcases dir_some g2 with ⟨a, _, b, _⟩ | ⟨a, _, b, _⟩
      · rw [a]; simp only [Bool.false_eq_true, if_false]; omega
      · exact absurd (b.symm.trans hf) g3
    · rw [addAll_other d fl l i (fun p hp e => hin ⟨p, hp, e⟩) (hc.lens hl)]
      exact Int.le_refl _

/-- The next way from s to t. -/
def wayOf (N : Nat) (E : List Ed) (fl : List Int) (s t : Int) : Option (List St) :=
  if t ∈ (bfs E fl s N).map (·.1) then some (back (bfs E fl s N) s N t) else none
theorem wayOf_chain {N : Nat} {E : List Ed} {fl : List Int} {s t : Int} {l : List St} (hE : Ends N E) (hs : 0 ≤ s ∧ s < N) (h : wayOf N E fl s t = some l) : Chain E fl s t l := by
  unfold wayOf at h
  split at h
  · rename_i hin
    cases h
    obtain ⟨p, hp, rfl⟩ := List.mem_map.1 hin
    obtain ⟨j, hj, e⟩ := List.getElem_of_mem hp
    have hinv := bfs_inv E fl s N
    have := hinv.len hE hs
    exact (chain_of hinv N j p.1 (by omega) (by rw [List.getElem?_eq_getElem hj, e]; rfl)).1
  · cases h
/-- No way: what was seen is a least cut. -/
theorem wayOf_none {N : Nat} {E : List Ed} {fl : List Int} {s t : Int} (hE : Ends N E) (hs : 0 ≤ s ∧ s < N) (hf : Okf N E fl s t) (h : wayOf N E fl s t = none) :
    ∃ S : Int → Bool, S s = true ∧ S t = false ∧ outF (E.zip fl) s = cutF (E.zip fl) S := by
  unfold wayOf at h
  split at h
  · cases h
  · rename_i hin
    have hinv := bfs_inv E fl s N
    have hlen := hinv.len hE hs
    have shut : ∀ u, u ∈ (bfs E fl s N).map (·.1) → ∀ i, i < E.length → ∀ v ag, dir E fl u i = some (v, ag) → v ∈ (bfs E fl s N).map (·.1) := by
      intro u hu
      obtain ⟨p, hp, rfl⟩ := List.mem_map.1 hu
      obtain ⟨j, hj, e⟩ := List.getElem_of_mem hp
      exact hinv.shut j (by omega) p.1 (by rw [List.getElem?_eq_getElem hj, e]; rfl)
    refine ⟨fun v => decide (v ∈ (bfs E fl s N).map (·.1)), ?_, by simpa using hin, ?_⟩
    · obtain ⟨r, hr⟩ := hinv.head
      rw [hr]; simp
    · refine value_eq_cut (hf.good hE) hs _ (by obtain ⟨r, hr⟩ := hinv.head; rw [hr]; simp) (by simpa using hin) ?_ ?_
      · intro p hp h1 h2
        obtain ⟨i, hi, rfl⟩ := zip_mem hf.len hp
        simp only [decide_eq_true_eq, decide_eq_false_iff_not] at h1 h2
        have hfit := hf.fit i hi
        rcases Int.lt_or_le (fl.getD i 0) (E.getD i default).c with hlt | hge
        · exact absurd (shut _ h1 i hi _ false (by unfold dir; rw [if_pos ⟨rfl, hlt⟩])) h2
        · show fl.getD i 0 = (E.getD i default).c
          omega
      · intro p hp h1 h2
        obtain ⟨i, hi, rfl⟩ := zip_mem hf.len hp
        simp only [decide_eq_true_eq, decide_eq_false_iff_not] at h1 h2
        have hfit := hf.fit i hi
        have hne := (hE.at hi).2.2
        rcases Int.lt_or_le 0 (fl.getD i 0) with hlt | hge
        · exact absurd (shut _ h1 i hi _ true (by unfold dir; rw [if_neg (fun e => hne e.1), if_pos ⟨rfl, hlt⟩])) h2
        · show fl.getD i 0 = 0
          omega
end Go.Proofs.Ytlpccebackmahaa

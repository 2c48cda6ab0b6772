/- Layer 7: the reference's search: rows of what was seen, plainly. -/
import Derived.Test.YtlpccebackmahaaLexH
set_option linter.unusedVariables false
set_option linter.unusedSimpArgs false
namespace Go.Proofs.Ytlpccebackmahaa
open Go.RowKit

theorem bfs_scan {E : List Ed} {fl : List Int} {s : Int} {k : Nat} {p : St} (hp : (bfs E fl s k)[k]? = some p) (i : Nat) (hi : i ≤ E.length) : BInv E fl s 0 (scan E fl p.1 (bfs E fl s k) i) := by
  have h := bfs_inv E fl s k
  have hs : SInv E fl s k p.1 0 (bfs E fl s k) := ⟨h.head, h.nodup, h.come, h.shut, by rw [hp]; rfl, fun i hi => absurd hi (by omega)⟩
  have := hs.scanned i hi
  exact ⟨this.head, this.nodup, this.come, fun j hj => absurd hj (by omega)⟩
theorem BInv.zero {E : List Ed} {fl : List Int} {s : Int} {k : Nat} {bs : List St} (h : BInv E fl s k bs) : BInv E fl s 0 bs := ⟨h.head, h.nodup, h.come, fun j hj => absurd hj (by omega)⟩
theorem BInv.self {E : List Ed} {fl : List Int} {s : Int} {k : Nat} {bs : List St} (h : BInv E fl s k bs) : s ∈ bs.map (·.1) := by
  obtain ⟨r, rfl⟩ := h.head
  simp
/-- Of a vertex the edge by which it was come to. -/
def byOf (s : Int) (bs : List St) (v : Int) : Int := if v = s then -1 else match aget bs v with
  | some q => (q.2.1 : Int)
  | none => -1
def byL (n : Nat) (s : Int) (bs : List St) : List Int := (verts n).map (byOf s bs)
def seenL (n : Nat) (bs : List St) : List Bool := (verts n).map fun v => decide (v ∈ bs.map (·.1))
theorem byL_len (n : Nat) (s : Int) (bs : List St) : (byL n s bs).length = n := by simp [byL, verts]
theorem seenL_len (n : Nat) (bs : List St) : (seenL n bs).length = n := by simp [seenL, verts]
theorem byL_get (n : Nat) (s : Int) (bs : List St) (v : Nat) (hv : v < n) : (byL n s bs).getD v 0 = byOf s bs v := by
  simp [byL, verts, List.getD_eq_getElem?_getD, hv]
theorem seenL_get (n : Nat) (bs : List St) (v : Nat) (hv : v < n) : (seenL n bs).getD v false = decide ((v : Int) ∈ bs.map (·.1)) := by
  simp [seenL, verts, List.getD_eq_getElem?_getD, hv]
theorem aget_snoc (bs : List St) (v w : Int) (q : Int × (Nat × Bool)) (h : v ∉ bs.map (·.1)) : aget (bs ++ [(v, q)]) w = if w = v then some q else aget bs w := by
  unfold aget
  rw [List.find?_append]
  by_cases e : w = v
  · subst e
    have : bs.find? (fun p => decide (p.1 = w)) = none := by
      rw [List.find?_eq_none]
      intro p hp hq
      exact h (List.mem_map.2 ⟨p, hp, by simpa using hq⟩)
    simp [this]
  · have : ¬ v = w := fun x => e x.symm
    rw [if_neg e]
    simp [this]
theorem getD_setB (fl : List Bool) (i j : Nat) (x : Bool) (hi : i < fl.length) : (fl.set i x).getD j false = if j = i then x else fl.getD j false := by
  simp only [List.getD_eq_getElem?_getD, List.getElem?_set]
  by_cases e : i = j
  · subst e; simp [hi]
  · rw [if_neg e, if_neg (fun x => e x.symm)]
theorem list_extB {a b : List Bool} (hl : a.length = b.length) (h : ∀ i, i < a.length → a.getD i false = b.getD i false) : a = b := by
  apply List.ext_getElem hl
  intro i h1 h2
  have := h i h1
  simpa [List.getD_eq_getElem?_getD, h1, h2] using this
theorem byL_app (n : Nat) (s : Int) (bs : List St) (v : Nat) (u : Int) (i : Nat) (ag : Bool) (hs : s ∈ bs.map (·.1)) (h : (v : Int) ∉ bs.map (·.1)) (hv : v < n) :
    byL n s (bs ++ [((v : Int), (u, i, ag))]) = (byL n s bs).set v (i : Int) := by
  apply list_ext0 (by simp [byL_len])
  intro j hj
  rw [byL_len] at hj
  rw [getD_set _ _ _ _ (by rw [byL_len]; exact hv), byL_get _ _ _ _ hj, byL_get _ _ _ _ hj]
  unfold byOf
  rw [aget_snoc _ _ _ _ h]
  by_cases e : j = v
  · subst e
    rw [if_pos rfl, if_neg (fun x => h (by rw [x]; exact hs)), if_pos rfl]
  · rw [if_neg e, if_neg (show ¬ (j : Int) = v by omega)]
theorem seenL_app (n : Nat) (bs : List St) (v : Nat) (q : Int × (Nat × Bool)) (hv : v < n) : seenL n (bs ++ [((v : Int), q)]) = (seenL n bs).set v true := by
  apply list_extB (by simp [seenL_len])
  intro j hj
  rw [seenL_len] at hj
  rw [getD_setB _ _ _ _ (by rw [seenL_len]; exact hv), seenL_get _ _ _ hj, seenL_get _ _ _ hj]
  by_cases e : j = v
  · subst e; simp
  · rw [if_neg e]
    have : ¬ (j : Int) = v := by omega
    simp [this]
theorem byL_start (n : Nat) (s : Int) : byL n s [(s, (0, 0, false))] = List.replicate n (-1) := by
  apply List.ext_getElem (by simp [byL_len])
  intro j h1 h2
  rw [byL_len] at h1
  have := byL_get n s [(s, (0, 0, false))] j h1
  rw [List.getD_eq_getElem?_getD, List.getElem?_eq_getElem (by rw [byL_len]; exact h1)] at this
  simp only [Option.getD_some] at this
  rw [this, List.getElem_replicate]
  unfold byOf aget
  by_cases e : (j : Int) = s
  · rw [if_pos e]
  · rw [if_neg e]
    simp [show ¬ s = (j : Int) from fun x => e x.symm]
theorem seenL_start (n : Nat) (s : Nat) (q : Int × (Nat × Bool)) (hs : s < n) : seenL n [((s : Int), q)] = (List.replicate n false).set s true := by
  apply list_extB (by simp [seenL_len])
  intro j hj
  rw [seenL_len] at hj
  rw [getD_setB _ _ _ _ (by simpa using hs), seenL_get _ _ _ hj]
  by_cases e : j = s
  · subst e; simp
  · rw [if_neg e]
    have : ¬ (j : Int) = s := by omega
    simp [this, List.getD_eq_getElem?_getD, List.getElem?_replicate, hj]
/-- The search's end: all rounds are there. -/
theorem bfs_end {n k : Nat} {E : List Ed} {fl : List Int} {s : Int} (hE : Ends n E) (hs : 0 ≤ s ∧ s < n) (h : (bfs E fl s k).length ≤ k ∨ n ≤ k) : bfs E fl s k = bfs E fl s n := by
  have hln := (bfs_inv E fl s n).len hE hs
  rcases Nat.le_total n k with h1 | h1
  · exact bfs_done hln k h1
  · rcases h with h | h
    · exact (bfs_done h n h1).symm
    · have : n = k := by omega
      rw [this]

/-- A block of the code's own that begins with bools. -/
structure RowB (w : World) (g : Nat) (xs : List Bool) : Prop where
  obj : ∃ cur, w.heap[g]? = some (.cells cur 4) ∧ xs.length ≤ cur.size ∧ ∀ i, i < xs.length → cur[i]? = some (.bool (xs.getD i false))
theorem RowB.lt {w : World} {g : Nat} {xs : List Bool} (h : RowB w g xs) : g < w.heap.size := by
  obtain ⟨cur, h1, _⟩ := h.obj
  exact (Array.getElem?_eq_some_iff.1 h1).1
theorem RowB.at {w : World} {g : Nat} {xs : List Bool} (h : RowB w g xs) {i : Nat} (hi : i < xs.length) : w.cell? ⟨g, i, none⟩ = some (.bool (xs.getD i false)) := by
  obtain ⟨cur, h1, h2, h3⟩ := h.obj
  unfold World.cell?
  simp [h1, h3 i hi]
theorem RowB.fr {w : World} {g : Nat} {xs : List Bool} (h : RowB w g xs) (i : Nat) : w.frozen? ⟨g, i, none⟩ = false := by
  obtain ⟨cur, h1, _⟩ := h.obj
  simp [World.frozen?, h1]
theorem RowB.only {w w' : World} {g : Nat} {xs : List Bool} (h : RowB w g xs) {S : Nat → Prop} (ho : Only S w w') (hg : ¬ S g) : RowB w' g xs := by
  obtain ⟨cur, h1, h2⟩ := h.obj
  exact ⟨cur, (ho.block g h.lt hg).trans h1, h2⟩
theorem RowB.fix {w w' : World} {g : Nat} {xs : List Bool} (h : RowB w g xs) (ho : Kept w w') : RowB w' g xs := h.only ho (fun x => x)
theorem RowB.set {w : World} {g : Nat} {xs : List Bool} (h : RowB w g xs) {i : Nat} (hi : i < xs.length) (x : Bool) : RowB (w.setCell ⟨g, i, none⟩ (.bool x)) g (xs.set i x) := by
  obtain ⟨cur, h1, h2, h3⟩ := h.obj
  refine ⟨cur.setIfInBounds i (.bool x), ?_, by simpa using h2, fun j hj => ?_⟩
  · simp [World.setCell, Array.getElem?_modify, h1]
  · rw [List.length_set] at hj
    rw [Array.getElem?_setIfInBounds]
    by_cases e : i = j
    · subst e
      rw [if_pos rfl, if_pos (by omega), getD_setB _ _ _ _ hj, if_pos rfl]
    · rw [if_neg e, h3 j hj, getD_setB _ _ _ _ hi, if_neg (fun x => e x.symm)]
theorem RowB.made (w : World) (n : Nat) : RowB (w.alloc (.cells (Array.replicate n (.bool false)) 4)) w.heap.size (List.replicate n false) := by
  refine ⟨⟨_, (MapKept.heap_alloc w _).1, by simp, fun i hi => ?_⟩⟩
  rw [List.length_replicate] at hi
  simp [hi, List.getD_eq_getElem?_getD, List.getElem?_replicate]
theorem Only.store {S : Nat → Prop} {a b : World} (h : Only S a b) (g i : Nat) (hg : g < a.heap.size → S g) (u : Value) : Only S a (b.setCell ⟨g, i, none⟩ u) := h.setCell (p := ⟨g, i, none⟩) hg u
theorem store_only (w : World) (g i : Nat) (u : Value) : Only (· = g) w (w.setCell ⟨g, i, none⟩ u) := (Only.refl (fun x => x = g) w).store g i (fun _ => rfl) u
theorem dir_cases (E : List Ed) (fl : List Int) (u : Int) (i : Nat) :
    ((E.getD i default).f = u ∧ fl.getD i 0 < (E.getD i default).c ∧ dir E fl u i = some ((E.getD i default).t, false)) ∨
    (¬ ((E.getD i default).f = u ∧ fl.getD i 0 < (E.getD i default).c) ∧ (E.getD i default).t = u ∧ 0 < fl.getD i 0 ∧ dir E fl u i = some ((E.getD i default).f, true)) ∨
    (¬ ((E.getD i default).f = u ∧ fl.getD i 0 < (E.getD i default).c) ∧ ¬ ((E.getD i default).t = u ∧ 0 < fl.getD i 0) ∧ dir E fl u i = none) := by
  unfold dir
  by_cases h1 : (E.getD i default).f = u ∧ fl.getD i 0 < (E.getD i default).c
  · exact .inl ⟨h1.1, h1.2, by rw [if_pos h1]⟩
  · by_cases h2 : (E.getD i default).t = u ∧ 0 < fl.getD i 0
    · exact .inr (.inl ⟨h1, h2.1, h2.2, by rw [if_neg h1, if_pos h2]⟩)
    · exact .inr (.inr ⟨h1, h2, by rw [if_neg h1, if_neg h2]⟩)
end Go.Proofs.Ytlpccebackmahaa

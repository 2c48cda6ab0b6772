/- The document's own disk in memory; its inner functions. -/
import Derived.Test.YtekkmfclaepcgaaDiskW
import Derived.Test.YtekkmfclaepcgaaRefM
set_option linter.unusedVariables false
namespace Go.Proofs.Ytekkmfclaepcgaa
open Go.RowKit

def flat (l : Fl) : List Value := l.flatMap fun p => [.string p.1, .string p.2.1, .int .i64 p.2.2]
theorem flat_append (l m : Fl) : flat (l ++ m) = flat l ++ flat m := by simp [flat]
theorem flat_length (l : Fl) : (flat l).length = l.length * 3 := by
  induction l with
  | nil => rfl
  | cons p l ih => simp [flat] at ih ⊢; omega
theorem flat_get (l : Fl) (i : Nat) (h : i < l.length) : (flat l)[i * 3]? = some (.string l[i].1) ∧ (flat l)[i * 3 + 1]? = some (.string l[i].2.1) ∧ (flat l)[i * 3 + 2]? = some (.int .i64 l[i].2.2) := by
  induction l generalizing i with
  | nil => simp at h
  | cons p l ih =>
    cases i with
    | zero => simp [flat]
    | succ i =>
      have h' : i < l.length := by simpa using h
      have := ih i h'
      have e : flat (p :: l) = [.string p.1, .string p.2.1, .int .i64 p.2.2] ++ flat l := rfl
      rw [e, show (i + 1) * 3 = i * 3 + 3 by omega]
      simpa using this

/-- Block b is the document's disk, its files in a row of its own from block 'base' on. -/
structure RIs (w : World) (base b : Nat) (D : Dk) (l : Fl) (v : Value) : Prop where
  rel : RefRel l D.files
  blk : w.heap[b]? = some (.cells #[v, .int .i64 D.acts, .int .i64 D.armed, .bool D.off] 70)
  row : w.ownsRow base 72 3 v l.length (flat l)
  le : base ≤ b
theorem RIs.lt {w : World} {base b : Nat} {D : Dk} {l : Fl} {v : Value} (h : RIs w base b D l v) : b < w.heap.size := (Array.getElem?_eq_some_iff.1 h.blk).1
theorem RIs.c0 {w : World} {base b : Nat} {D : Dk} {l : Fl} {v : Value} (h : RIs w base b D l v) : w.cell? ⟨b, 0, none⟩ = some v := by simp [World.cell?, h.blk]
theorem RIs.c1 {w : World} {base b : Nat} {D : Dk} {l : Fl} {v : Value} (h : RIs w base b D l v) : w.cell? ⟨b, 1, none⟩ = some (.int .i64 D.acts) := by simp [World.cell?, h.blk]
theorem RIs.c2 {w : World} {base b : Nat} {D : Dk} {l : Fl} {v : Value} (h : RIs w base b D l v) : w.cell? ⟨b, 2, none⟩ = some (.int .i64 D.armed) := by simp [World.cell?, h.blk]
theorem RIs.c3 {w : World} {base b : Nat} {D : Dk} {l : Fl} {v : Value} (h : RIs w base b D l v) : w.cell? ⟨b, 3, none⟩ = some (.bool D.off) := by simp [World.cell?, h.blk]
theorem RIs.fr {w : World} {base b : Nat} {D : Dk} {l : Fl} {v : Value} (h : RIs w base b D l v) (i : Nat) : w.frozen? ⟨b, i, none⟩ = false := by simp [World.frozen?, h.blk]
/-- The row of files is another block. -/
theorem RIs.row_ne {w : World} {base b : Nat} {D : Dk} {l : Fl} {v : Value} (h : RIs w base b D l v) (k : Nat) (hk : v.ownBlock = some k) : k ≠ b ∧ base ≤ k ∧ k < w.heap.size ∧ ∃ cs, w.heap[k]? = some (.cells cs 72) := by
  rcases h.row.2 with ⟨rfl, _⟩ | ⟨g, cap, cur, rfl, hb, hh, _⟩
  · simp [Value.ownBlock] at hk
  · have : g = k := by simpa [Value.ownBlock] using hk
    subst this
    refine ⟨?_, hb, (Array.getElem?_eq_some_iff.1 hh).1, cur, hh⟩
    rintro rfl
    rw [h.blk] at hh
    cases hh
/-- What may turn in a call: the disk's struct, and rows of files. -/
def RS (w : World) (base b k : Nat) : Prop := k = b ∨ (base ≤ k ∧ ∃ cs, w.heap[k]? = some (.cells cs 72))
theorem RIs.only {w w' : World} {base b : Nat} {D : Dk} {l : Fl} {v : Value} (h : RIs w base b D l v) {S : Nat → Prop} (ho : Only S w w') (h1 : ¬ S b) (h2 : ∀ k, v.ownBlock = some k → ¬ S k) : RIs w' base b D l v := by
  refine ⟨h.rel, (ho.block b h.lt h1).trans h.blk, ?_, h.le⟩
  obtain ⟨e, h3⟩ := h.row
  refine ⟨e, ?_⟩
  rcases h3 with h3 | ⟨g, cap, cur, rfl, hb, hh, r⟩
  · exact .inl h3
  · exact .inr ⟨g, cap, cur, rfl, hb, (ho.block g (Array.getElem?_eq_some_iff.1 hh).1 (h2 g rfl)).trans hh, r⟩
/-- The files' cells. -/
theorem RIs.file {w : World} {base b : Nat} {D : Dk} {l : Fl} {v : Value} (h : RIs w base b D l v) : ∃ A c, v = .slice A l.length c ∧ l.length ≤ maxLen ∧ ∀ i, (hi : i < l.length) → ∃ g, A = some ⟨g, 0, none⟩ ∧ v.ownBlock = some g ∧ g < w.heap.size ∧ (∀ j, w.frozen? ⟨g, j, none⟩ = false) ∧
    w.cell? ⟨g, i * 3, none⟩ = some (.string l[i].1) ∧ w.cell? ⟨g, i * 3 + 1, none⟩ = some (.string l[i].2.1) ∧ w.cell? ⟨g, i * 3 + 2, none⟩ = some (.int .i64 l[i].2.2) := by
  have hr := h.row
  rcases h.row.2 with ⟨hv, hn⟩ | ⟨g, cap, cur, hv, hb, hh, hn, hc, _⟩
  · refine ⟨none, 0, by rw [hv, hn], by omega, fun i hi => by omega⟩
  · refine ⟨_, cap, hv, by omega, fun i hi => ⟨g, rfl, by rw [hv]; rfl, (Array.getElem?_eq_some_iff.1 hh).1, fun j => by simp [World.frozen?, hh], ?_⟩⟩
    rw [hv] at hr
    obtain ⟨f1, f2, f3⟩ := flat_get l i hi
    exact ⟨(hr.cellAt _ (by omega)).trans f1, (hr.cellAt _ (by omega)).trans f2, (hr.cellAt _ (by omega)).trans f3⟩

theorem ownsRow_setCell_ne {w : World} {base : Nat} {e : TypeId} {size : Nat} {v : Value} {n : Nat} {xs : List Value} (h : w.ownsRow base e size v n xs) {a : Addr} (ha : ∀ k, v.ownBlock = some k → k ≠ a.block) (u : Value) : (w.setCell a u).ownsRow base e size v n xs := by
  obtain ⟨h1, h2⟩ := h
  refine ⟨h1, ?_⟩
  rcases h2 with h2 | ⟨g, cap, cur, rfl, hg, hh, r⟩
  · exact Or.inl h2
  · have := ha g rfl
    exact Or.inr ⟨g, cap, cur, rfl, hg, by rw [Below.heap_setCell _ _ _ _ (by omega)]; exact hh, r⟩
theorem rblk_setCell {w : World} {b i : Nat} {cs : Array Value} {t : TypeId} (h : w.heap[b]? = some (.cells cs t)) (v : Value) : (w.setCell ⟨b, i, none⟩ v).heap[b]? = some (.cells (cs.setIfInBounds i v) t) := by
  simp [World.setCell, Array.getElem?_modify, h]
theorem RIs.acted {w : World} {base b : Nat} {D : Dk} {l : Fl} {v : Value} (h : RIs w base b D l v) (n : Nat) : RIs (w.setCell ⟨b, 1, none⟩ (.int .i64 n)) base b { D with acts := n } l v := by
  refine ⟨h.rel, by rw [rblk_setCell h.blk]; simp, ?_, h.le⟩
  exact ownsRow_setCell_ne h.row (fun k hk => (h.row_ne k hk).1) _
theorem RIs.offed {w : World} {base b : Nat} {D : Dk} {l : Fl} {v : Value} (h : RIs w base b D l v) (o : Bool) : RIs (w.setCell ⟨b, 3, none⟩ (.bool o)) base b { D with off := o } l v := by
  refine ⟨h.rel, by rw [rblk_setCell h.blk]; simp, ?_, h.le⟩
  exact ownsRow_setCell_ne h.row (fun k hk => (h.row_ne k hk).1) _
theorem RIs.armed' {w : World} {base b : Nat} {D : Dk} {l : Fl} {v : Value} (h : RIs w base b D l v) (n : Nat) : RIs (w.setCell ⟨b, 2, none⟩ (.int .i64 n)) base b { D with armed := n } l v := by
  refine ⟨h.rel, by rw [rblk_setCell h.blk]; simp, ?_, h.le⟩
  exact ownsRow_setCell_ne h.row (fun k hk => (h.row_ne k hk).1) _
end Go.Proofs.Ytekkmfclaepcgaa

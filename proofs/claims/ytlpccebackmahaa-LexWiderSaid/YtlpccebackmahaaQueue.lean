/- A queue of ints: a row of the code's own that is read from its front and appended to at its end. -/
import Derived.Test.YtlpccebackmahaaOwnRows
import Derived.Test.YtlpccebackmahaaLexB
set_option linter.unusedVariables false
set_option linter.unusedSimpArgs false
namespace Go.Proofs.Ytlpccebackmahaa
open Go.RowKit

/-- The queue's value and what lies in it. -/
def QIs (w : World) (base : Nat) (v : Value) (xs : List Int) : Prop :=
  ∃ g off cap cur, v = .slice (some ⟨g, off, none⟩) xs.length cap ∧ base ≤ g ∧ w.heap[g]? = some (.cells cur 3) ∧ xs.length ≤ cap ∧ cap ≤ maxLen ∧ off + cap ≤ cur.size ∧ ∀ i, i < xs.length → cur[off + i]? = some (.int .i64 (xs.getD i 0))
theorem QIs.keep {w w' : World} {base : Nat} {v : Value} {xs : List Int} (h : QIs w base v xs) {S : Nat → Prop} (ho : Only S w w') (hS : ∀ k, v.ownBlock = some k → ¬ S k) : QIs w' base v xs := by
  obtain ⟨g, off, cap, cur, hv, hb, hg, r⟩ := h
  exact ⟨g, off, cap, cur, hv, hb, (ho.block g (Array.getElem?_eq_some_iff.1 hg).1 (hS g (by rw [hv]; rfl))).trans hg, r⟩
theorem QIs.at_ {w : World} {base : Nat} {v : Value} {xs : List Int} (h : QIs w base v xs) : ∀ k, v.ownBlock = some k → base ≤ k := by
  obtain ⟨g, off, cap, cur, rfl, hb, _⟩ := h
  intro k hk
  have : g = k := by simpa [Value.ownBlock] using hk
  omega
/-- A queue, opened. -/
theorem QIs.parts {w : World} {base : Nat} {v : Value} {xs : List Int} (h : QIs w base v xs) : ∃ g off cap, v = .slice (some ⟨g, off, none⟩) xs.length cap ∧ base ≤ g ∧ g < w.heap.size ∧ xs.length ≤ cap ∧ cap ≤ maxLen ∧
    (∀ i, i < xs.length → w.cell? ⟨g, off + i, none⟩ = some (.int .i64 (xs.getD i 0))) := by
  obtain ⟨g, off, cap, cur, hv, hb, hg, h1, h2, h3, h4⟩ := h
  exact ⟨g, off, cap, hv, hb, (Array.getElem?_eq_some_iff.1 hg).1, h1, h2, fun i hi => by unfold World.cell?; simp [hg, h4 i hi]⟩
/-- The first one gone. -/
theorem QIs.tail {w : World} {base g off cap : Nat} {x : Int} {xs : List Int} (h : QIs w base (.slice (some ⟨g, off, none⟩) (x :: xs).length cap) (x :: xs)) : QIs w base (.slice (some ⟨g, off + 1, none⟩) xs.length (cap - 1)) xs := by
  obtain ⟨g', off', cap', cur, hv, hb, hg, h1, h2, h3, h4⟩ := h
  cases hv
  simp only [List.length_cons] at h1
  refine ⟨g, off + 1, cap - 1, cur, rfl, hb, hg, by omega, by omega, by omega, fun i hi => ?_⟩
  have := h4 (i + 1) (by simp; omega)
  rw [show off + 1 + i = off + (i + 1) by omega, this]
  rfl
theorem info_partsQ {t : TypeId} {z : Value} {a b : Nat} (h : (Try.prog.info? t).map (fun i => (i.zero, i.size, i.bytes)) = some (some z, a, b)) : ∃ i, Try.prog.info? t = some i ∧ i.zero = some z ∧ i.size = a ∧ i.bytes = b := by
  cases hi : Try.prog.info? t with
  | none => rw [hi] at h; cases h
  | some i =>
    rw [hi] at h
    simp only [Option.map_some, Option.some.injEq, Prod.mk.injEq] at h
    exact ⟨i, rfl, h.1, h.2.1, h.2.2⟩
theorem infoIntQ : (Try.prog.info? 3).map (fun i => (i.zero, i.size, i.bytes)) = some (some (.int .i64 0), 1, 8) := by kernel_rfl
theorem snoc_get (xs : List Int) (x : Int) (i : Nat) (hi : i < xs.length + 1) : (xs ++ [x]).getD i 0 = if i = xs.length then x else xs.getD i 0 := by
  simp only [List.getD_eq_getElem?_getD, List.getElem?_append]
  by_cases e : i = xs.length
  · subst e; simp
  · rw [if_neg e, if_pos (by omega)]

theorem run_append_q (w : World) (base : Nat) (ty : TypeId) (v : Value) (xs : List Int) (h : QIs w base v xs) (a : Addr) (c : Nat) (x : Int) (ha : w.cell? (a.add 0) = some (.int .i64 x)) (hl : xs.length ≤ 1000) (hb : base ≤ w.heap.size) :
    ∃ v' w', (Builtin.append_ #[25, 25] ty #[v, .slice (some a) 1 c]).run Try.prog w = .ok v' w' ∧ QIs w' base v' (xs ++ [x]) ∧ w.grownBy w' v.ownBlock := by
  obtain ⟨i0, hi, hz0, hz1, hz2⟩ := info_partsQ infoIntQ
  obtain ⟨g, off, cap, cur, rfl, hbg, hg, h1, h2, h3, h4⟩ := h
  have hnews : ∀ j u, [Value.int .i64 x][j]? = some u → w.cell? (a.add j) = some u := by
    intro j u hu
    cases j with
    | zero => simp at hu; rw [ha, hu]
    | succ j => simp at hu
  by_cases hroom : xs.length + 1 ≤ cap
  · have hf := run_firstCells_some (P := Try.prog) w 1 1 a 1 c [.int .i64 x] rfl hnews
    have hst := run_storeCells_at Try.prog g (off + xs.length) 3 [.int .i64 x] 0 cur w hg (by simp; omega) (fun u hu => by rw [List.mem_singleton] at hu; subst hu; rfl)
    simp only [Nat.add_zero] at hst
    have hrun : (Builtin.append_ #[25, 25] ty #[.slice (some ⟨g, off, none⟩) xs.length cap, .slice (some a) 1 c]).run Try.prog w = .ok (.slice (some ⟨g, off, none⟩) (xs.length + 1) cap) (w.setRow g (cur.toList.take (off + xs.length) ++ [Value.int .i64 x] ++ cur.toList.drop (off + xs.length + 1)).toArray) := by
      simp [Builtin.append_, run_underlying Try.underlying25, sizeOf, typeInfo, hi, Builtin.lenOf, hroom, hz1, hf, Addr.add_lit, hst]
    refine ⟨.slice (some ⟨g, off, none⟩) (xs.length + 1) cap, _, hrun, ⟨g, off, cap, _, by simp, hbg, setRow_heap w g cur _ 3 _ hg, by simpa using hroom, h2, ?_, fun i hi => ?_⟩, ⟨rfl, rfl, rfl, by simp, fun k _ hk => setRow_other w g k _ (fun e => hk (by simp [Value.ownBlock, e]))⟩⟩
    · simp; omega
    · rw [List.length_append, List.length_singleton] at hi
      rw [snoc_get xs x i hi]
      by_cases e : i = xs.length
      · subst e
        rw [if_pos rfl]
        simp [List.getElem?_append, show off + xs.length ≤ cur.size by omega]
      · rw [if_neg e, ← h4 i (by omega)]
        have : off + i < off + xs.length := by omega
        have hm : off + i < min (off + xs.length) cur.size := by omega
        simp [List.getElem?_append, hm, this, show off + i < cur.size by omega, show i < xs.length by omega]
  · have hcap : cap = xs.length := by omega
    have hr := run_append_grow (P := Try.prog) w 25 ty 3 i0 _ Try.underlying25 hi hz0 ⟨g, off, none⟩ xs.length cap (xs.map (.int .i64)) (by rw [hz1]; simp) (fun j u hu => by
        have hj : j < xs.length := by have := (List.getElem?_eq_some_iff.1 hu).1; simpa using this
        rw [Addr.add_lit]
        unfold World.cell?
        simp only [hg]
        simp only [Option.isSome_none, Bool.false_eq_true, if_false]
        rw [h4 j hj, ← hu, List.getElem?_map, List.getD_eq_getElem?_getD, List.getElem?_eq_getElem hj]
        rfl) a 1 c [.int .i64 x] (by rw [hz1]; rfl) hnews (by omega) (by omega) (growslice_fits (by omega) (by rw [hz2]; omega))
    refine ⟨_, _, hr, ⟨w.heap.size, 0, grownCap w (xs.length + 1) cap 3, _, by simp, hb, heap_alloc_new w.drew _, ?_, ?_, ?_, fun i hi => ?_⟩, ⟨rfl, rfl, rfl, by simp, fun k hk _ => heap_alloc_old w.drew _ hk⟩⟩
    · have := grownCap_ge w (xs.length + 1) cap 3
      simpa using this
    · exact grownCap_le_maxLen w _ _ _ (by unfold maxLen; omega)
    · have := grownCap_ge w (xs.length + 1) cap 3
      simp [size_zeroCells, Value.cells]
      omega
    · rw [List.length_append, List.length_singleton] at hi
      rw [snoc_get xs x i hi, Nat.zero_add]
      by_cases e : i = xs.length
      · subst e
        rw [if_pos rfl]
        simp [Array.getElem?_append]
      · rw [if_neg e]
        have : i < xs.length := by omega
        simp [Array.getElem?_append, this, List.getD_eq_getElem?_getD, show i < xs.length + 1 by omega]
theorem wpList_append_q {w : World} {ops : Array Oper} {rest : List Oper} {o : Oper} {a : Act} {Q : Exit → Act → World → Prop} (hgd : o.guard = none) (s x : Operand)
    (ho : o.op = .call { callee := .builtin .append, args := #[s, x], argTypes := #[25, 25] }) (base : Nat) (v : Value) (xs : List Int) (hs : a.eval s = v) (h : QIs w base v xs)
    (ad : Addr) (c : Nat) (y : Int) (hx : a.eval x = .slice (some ad) 1 c) (ha : w.cell? (ad.add 0) = some (.int .i64 y)) (hl : xs.length ≤ 1000) (hb : base ≤ w.heap.size)
    (k : ∀ v' w', QIs w' base v' (xs ++ [y]) → w.grownBy w' v.ownBlock → wpList Try.prog ops Q rest (a.put o.dst v') w') : wpList Try.prog ops Q (o :: rest) a w :=
  wpList_plain hgd fun _ hK => by
    obtain ⟨v', w', hr, h2, h3⟩ := run_append_q w base o.type v xs h ad c y ha hl hb
    unfold Oper.wp execOp
    simp only [ho, resolve, invoke, builtin, Sem.run_bind, Sem.run_pure, Result.andThen_ok, List.map_toArray, List.map_cons, List.map_nil, hs, hx, hr]
    exact hK _ _ (k v' w' h2 h3)
end Go.Proofs.Ytlpccebackmahaa

/- Layer 7: the reference's Push walked. -/
import Derived.Test.YtlpccebackmahaaLexK
set_option linter.unusedVariables false
set_option linter.unusedSimpArgs false
namespace Go.Proofs.Ytlpccebackmahaa
open Go.RowKit

/-- Between two ways: what is still to do makes the whole. -/
structure PS (n : Nat) (E : List Ed) (s t most : Int) (fl0 f : List Int) (sum : Int) : Prop where
  ok : Okf n E f s t
  lo : 0 ≤ sum
  hi : sum ≤ most
  rest : pushN n E s t most (most - sum).toNat f sum = push n E s t most fl0
theorem PS.start {n : Nat} {E : List Ed} {s t most : Int} {fl : List Int} (h : Okf n E fl s t) (hm : 0 ≤ most) : PS n E s t most fl fl 0 :=
  ⟨h, Int.le_refl _, hm, by rw [Int.sub_zero]; rfl⟩
theorem PS.next {n : Nat} {E : List Ed} {s t most : Int} {fl0 f : List Int} {sum : Int} {l : List St} (hE : Ends n E) (hs : 0 ≤ s ∧ s < n) (h : PS n E s t most fl0 f sum) (hlt : sum < most) (hw : wayOf n E f s t = some l) :
    PS n E s t most fl0 (addAll (roomOf E f l (most - sum)) f l) (sum + roomOf E f l (most - sum)) ∧ 0 < roomOf E f l (most - sum) := by
  obtain ⟨r1, r2, r3⟩ := room_step hE hs hw hlt
  refine ⟨⟨h.ok.add (wayOf_chain hE hs hw) (by omega) r3, by have := h.lo; omega, by omega, ?_⟩, r1⟩
  rw [← h.rest]
  obtain ⟨m, hm⟩ : ∃ m, (most - sum).toNat = m + 1 := ⟨(most - sum).toNat - 1, by omega⟩
  rw [hm]
  show _ = if sum < most then (match wayOf n E f s t with | none => (f, sum) | some l => pushN n E s t most m (addAll (roomOf E f l (most - sum)) f l) (sum + roomOf E f l (most - sum))) else (f, sum)
  rw [if_pos hlt, hw]
  exact (pushN_fuel hE hs _ m _ _ (Nat.le_refl _) (by omega)).symm
theorem PS.stop {n : Nat} {E : List Ed} {s t most : Int} {fl0 f : List Int} {sum : Int} (h : PS n E s t most fl0 f sum) (hd : most ≤ sum ∨ wayOf n E f s t = none) : push n E s t most fl0 = (f, sum) := by
  rw [← h.rest]
  cases hm : (most - sum).toNat with
  | zero => rfl
  | succ m =>
    show (if sum < most then (match wayOf n E f s t with | none => (f, sum) | some l => pushN n E s t most m (addAll (roomOf E f l (most - sum)) f l) (sum + roomOf E f l (most - sum))) else (f, sum)) = _
    have : sum < most := by omega
    rw [if_pos this]
    rcases hd with hd | hd
    · omega
    · rw [hd]
theorem take_snoc {α : Type} (l : List α) (k : Nat) (d : α) (hk : k < l.length) : l.take (k + 1) = l.take k ++ [l.getD k d] := by
  rw [List.take_succ_eq_append_getElem hk, List.getD_eq_getElem?_getD, List.getElem?_eq_getElem hk]
  rfl
theorem roomOf_snoc (E : List Ed) (fl : List Int) (l : List St) (k : Nat) (m : Int) (hk : k < l.length) : roomOf E fl (l.take (k + 1)) m = min (roomOf E fl (l.take k) m) (roomAt E fl (l.getD k default)) := by
  rw [take_snoc l k default hk]
  unfold roomOf
  rw [List.foldl_append]
  rfl
theorem addAll_snoc (d : Int) (fl : List Int) (l : List St) (k : Nat) (hk : k < l.length) : addAll d fl (l.take (k + 1)) = addAt d (addAll d fl (l.take k)) (l.getD k default) := by
  rw [take_snoc l k default hk]
  unfold addAll
  rw [List.foldl_append]
  rfl
theorem getD_mem {α : Type} {l : List α} {k : Nat} {d : α} (hk : k < l.length) : l.getD k d ∈ l := by
  rw [List.getD_eq_getElem?_getD, List.getElem?_eq_getElem hk]
  exact List.getElem_mem hk
/-- Each edge of a way is turned once. -/
theorem Chain.fresh {E : List Ed} {fl : List Int} {s v : Int} {l : List St} (h : Chain E fl s v l) (hl : fl.length = E.length) (d : Int) (k : Nat) (hk : k < l.length) :
    (addAll d fl (l.take k)).getD (l.getD k default).2.2.1 0 = fl.getD (l.getD k default).2.2.1 0 := by
  refine addAll_other d fl (l.take k) _ (fun p hp e => ?_) (fun p hp => h.lens hl p (List.mem_of_mem_take hp))
  have hn := h.distinct
  obtain ⟨j, hj, rfl⟩ := List.getElem_of_mem hp
  rw [List.length_take] at hj
  have hj2 : j < l.length := by omega
  have := (List.pairwise_iff_getElem.1 hn) j k (by simpa using hj2) (by simpa using hk) (by omega)
  rw [List.getElem_map, List.getElem_map] at this
  apply this
  rw [List.getElem_take] at e
  rw [e, List.getD_eq_getElem?_getD, List.getElem?_eq_getElem hk]
  rfl
theorem roomOf_le_most (E : List Ed) (fl : List Int) (l : List St) (m : Int) : roomOf E fl l m ≤ m := (roomOf_le E fl l m).1
/-- A flow in a row of its own. -/
def FlowV (w : World) (base : Nat) (v : Value) (fl : List Int) : Prop := w.ownsRow base 3 1 v fl.length (fl.map (Value.int .i64))
theorem map_getD (fl : List Int) (i : Nat) (hi : i < fl.length) : (fl.map (Value.int .i64))[i]? = some (.int .i64 (fl.getD i 0)) := by
  rw [List.getElem?_map, List.getD_eq_getElem?_getD, List.getElem?_eq_getElem hi]
  rfl
theorem FlowV.parts {w : World} {base : Nat} {v : Value} {fl : List Int} (h : FlowV w base v fl) (hp : 0 < fl.length) :
    ∃ g c, v = .slice (some ⟨g, 0, none⟩) fl.length c ∧ base ≤ g ∧ g < w.heap.size ∧ (∀ i, i < fl.length → w.cell? ⟨g, i, none⟩ = some (.int .i64 (fl.getD i 0))) ∧ (∀ i, w.frozen? ⟨g, i, none⟩ = false) := by
  have h' : w.ownsRow base 3 1 v fl.length (fl.map (Value.int .i64)) := h
  rcases h'.2 with ⟨_, h0⟩ | ⟨g, cap, cur, rfl, hb, hh, hn, hc, _⟩
  · omega
  · refine ⟨g, cap, rfl, hb, (Array.getElem?_eq_some_iff.1 hh).1, fun i hi => ?_, fun i => by simp [World.frozen?, hh]⟩
    rw [← map_getD fl i hi]
    exact h'.cellAt i (by omega)
theorem FlowV.reads {w : World} {base : Nat} {A : Option Addr} {n c : Nat} {fl : List Int} (h : FlowV w base (.slice A n c) fl) (hm : fl.length ≤ 300) : ReadsI w A fl := by
  refine ⟨fun i hi => ?_, by unfold maxLen; omega⟩
  obtain ⟨g, c', hv, _, hl, hc, _⟩ := h.parts (by omega)
  cases hv
  exact ⟨g, 0, rfl, hl, by rw [Nat.zero_add]; exact hc i hi⟩
theorem FlowV.fix {w w1 : World} {base : Nat} {v : Value} {fl : List Int} (h : FlowV w base v fl) (ho : Kept w w1) : FlowV w1 base v fl := ownsRow_fix h ho
theorem FlowV.set {w : World} {base g c : Nat} {fl : List Int} (h : FlowV w base (.slice (some ⟨g, 0, none⟩) fl.length c) fl) (i : Nat) (hi : i < fl.length) (x : Int) : FlowV (w.setCell ⟨g, i, none⟩ (.int .i64 x)) base (.slice (some ⟨g, 0, none⟩) fl.length c) (fl.set i x) := by
  have := ownsRow_set h (.int .i64 x) (i := i) (by omega)
  unfold FlowV
  rw [List.length_set, List.map_set]
  exact this
theorem FlowV.base {w : World} {base base' : Nat} {v : Value} {fl : List Int} (h : FlowV w base v fl) (hb : base' ≤ base) : FlowV w base' v fl := row_base h hb
end Go.Proofs.Ytlpccebackmahaa

/- Layer 11: slices that came in, opened: of texts, of ints, of acts, of entries. -/
import Derived.Test.YtlmnmjnmilaipaaGreatDoorWalSit
import Derived.ProofKit
import Derived.OpenShut
import Derived.SliceStrings
import Derived.Deep.Slices
set_option linter.unusedVariables false
set_option linter.unusedSimpArgs false
namespace Go.Proofs.YtlmnmjnmilaipaaGreatDoor
open Go.ChangeShapes Go.WideShapes Go.ChangeAt Go.RowKit Go.WideMaps Go.WideElems Go.Deep PR Go.Proofs.YtlmnmjnmilaipaaGreatDoorW.PrintWords

theorem spot_none {w : World} {a : Addr} {v : Value} (h : w.cell? a = some v) : a.spot = none := by
  unfold World.cell? at h
  split at h
  · split at h
    · cases h
    · rename_i hn; simpa using hn
  · cases h
theorem add_eq {a : Addr} (h : a.spot = none) (i : Nat) : a.add i = ⟨a.block, a.off + i, none⟩ := by
  obtain ⟨b, o, s⟩ := a
  simp only at h
  subst h
  unfold Addr.add
  split <;> simp_all

section
variable {H : Type} {enc : TypeId × Value → H} {P : Program} {W : World} {v : Value} {d : DataW H} {p : List MemPlace} {base base' : Nat} {sp : Nat → Bool} {held : Bool}

set_option maxRecDepth 100000 in
theorem open_texts (hval : Value.okWide Tryz.prog W .any base 22 v) (h : DataW.Trod enc Tryz.prog W base' sp held 22 v d p) :
    ∃ A c xs, v = .slice A xs.length c ∧ Kd.C Kd.string W A xs.length xs ∧ xs.length ≤ c ∧ c ≤ maxLen ∧ (∀ x ∈ xs, x.size ≤ maxLen) := by
  obtain ⟨a0, len0, cap0, rfl⟩ := okWide_slice Tryz.underlying22 hval
  obtain ⟨fuel, hf⟩ := h
  rcases open_strings Tryz.underlying22 Tryz.underlying9 (by kernel_rfl) hf with ⟨hcs, _⟩ | ⟨a, len, cap, ss, hcs, _, hl, hm, hz, _, hcell, hws⟩
  · simp [Value.cells] at hcs
    obtain ⟨rfl, rfl, rfl⟩ := hcs
    exact ⟨none, 0, [], rfl, Kd.C_of_reads (d := ⟨#[]⟩) ⟨rfl, Nat.zero_le _, fun h => absurd h (Nat.lt_irrefl 0)⟩, Nat.zero_le _, Nat.zero_le _, fun x hx => by cases hx⟩
  · simp [Value.cells] at hcs
    obtain ⟨rfl, rfl, rfl⟩ := hcs
    have hss : len0 ≤ ss.length := by rw [hz]; split <;> omega
    have hlen : (ss.take len0).length = len0 := by simp; omega
    refine ⟨some a, cap0, ss.take len0, by rw [hlen], ?_, by rw [hlen]; omega, by omega, fun x hx => hws x (List.mem_of_mem_take hx)⟩
    rw [hlen]
    refine Kd.C_of_reads (d := ⟨#[]⟩) ⟨hlen, by unfold maxLen at hm; omega, fun _ => ⟨a, rfl, fun j hj => ?_⟩⟩
    have := hcell j (by omega)
    rw [this]
    simp [List.getD_eq_getElem?_getD, hj]
    rfl
theorem open_readsI0 {t e : TypeId} (ht : P.underlying t = some (.slice e)) (he : P.underlying e = some (.int .i64)) (hc : P.cellsOf e = 1) {fuel : Nat} {cs : List Value} {x : DataW H × List MemPlace} (hf : DataW.trod enc P W base sp held fuel t cs = some x) :
    ∃ A c xs, cs = [.slice A xs.length c] ∧ ReadsI W A xs := by
  rcases open_ints ht he hc hf with ⟨hcs, _⟩ | ⟨a, len, cap, ss, hcs, _, hl, hm, hz, _, hcell, hws⟩
  · exact ⟨none, 0, [], hcs, fun i hi => absurd hi (Nat.not_lt_zero _), Nat.zero_le _, fun x hx => by cases hx⟩
  · have hss : len ≤ ss.length := by rw [hz]; split <;> omega
    have hlen : (ss.take len).length = len := by simp; omega
    refine ⟨some a, cap, ss.take len, by rw [hlen, hcs], fun i hi => ?_, by rw [hlen]; omega, fun x hx => bounds_i64 (hws x (List.mem_of_mem_take hx))⟩
    rw [hlen] at hi
    have h0 := hcell 0 (by omega)
    have hs : a.spot = none := by
      have := spot_none h0
      unfold Addr.add at this
      simpa using this
    refine ⟨a.block, a.off, ?_, ?_⟩
    · obtain ⟨b, o, s⟩ := a; simp only at hs; subst hs; rfl
    · have := hcell i (by omega)
      rw [add_eq hs] at this
      rw [this]
      simp [List.getD_eq_getElem?_getD, hi]

theorem open_readsI {t e : TypeId} (ht : P.underlying t = some (.slice e)) (he : P.underlying e = some (.int .i64)) (hc : P.cellsOf e = 1) (hval : Value.okWide P W .any base t v) (h : DataW.Trod enc P W base' sp held t v d p) :
    ∃ A c xs, v = .slice A xs.length c ∧ ReadsI W A xs := by
  obtain ⟨a0, len0, cap0, rfl⟩ := okWide_slice ht hval
  obtain ⟨fuel, hf⟩ := h
  obtain ⟨A, c, xs, h1, h2⟩ := open_readsI0 ht he hc hf
  simp [Value.cells] at h1
  obtain ⟨rfl, rfl, rfl⟩ := h1
  exact ⟨_, _, xs, rfl, h2⟩
end
/-- Act of layer 11: raw. -/
structure ActV where
  what : Int
  n : Int
  text : ByteArray
  keep : List Int
  kA : Option Addr
  kc : Nat
def ActV.cells (x : ActV) : List Value := [.int .i64 x.what, .int .i64 x.n, .string x.text, .slice x.kA x.keep.length x.kc]
def i64ok (n : Int) : Prop := -9223372036854775808 ≤ n ∧ n ≤ 9223372036854775807
structure ActV.Ok (W : World) (x : ActV) : Prop where
  what : i64ok x.what
  n : i64ok x.n
  text : x.text.size ≤ maxLen
  keep : ReadsI W x.kA x.keep
/-- A slice of raw acts that is read. -/
structure ReadsA (w : World) (A : Option Addr) (xs : List ActV) : Prop where
  cell : ∀ i, (hi : i < xs.length) → ∃ bk off, A = some ⟨bk, off, none⟩ ∧ ∀ j v, xs[i].cells[j]? = some v → w.cell? ⟨bk, off + i * 4 + j, none⟩ = some v
  ok : ∀ x ∈ xs, x.Ok w
  len : xs.length ≤ maxLen
theorem list4 {α : Type} : ∀ (l : List α), l.length = 4 → ∃ a b c d, l = [a, b, c, d]
  | [a, b, c, d], _ => ⟨a, b, c, d, rfl⟩
theorem choose_list {α : Type} (Q : Nat → α → Prop) (n : Nat) (h : ∀ i, i < n → ∃ y, Q i y) : ∃ xs : List α, xs.length = n ∧ ∀ i (hi : i < xs.length), Q i xs[i] := by
  induction n with
  | zero => exact ⟨[], rfl, fun i hi => absurd hi (by simp)⟩
  | succ n ih =>
    obtain ⟨xs, h1, h2⟩ := ih (fun i hi => h i (by omega))
    obtain ⟨y, hy⟩ := h n (by omega)
    refine ⟨xs ++ [y], by simp [h1], fun i hi => ?_⟩
    by_cases hlt : i < xs.length
    · rw [List.getElem_append_left hlt]; exact h2 i hlt
    · have : i = xs.length := by simp at hi; omega
      subst this
      subst h1
      simpa using hy
theorem mapM_some {α β : Type} {f : α → Option β} (l : List α) : ∀ {ys : List β}, l.mapM f = some ys → ys.length = l.length ∧ ∀ i (h : i < l.length), f l[i] = ys[i]? := by
  induction l with
  | nil =>
    intro ys h
    rw [List.mapM_nil] at h
    cases h
    exact ⟨rfl, fun i hi => absurd hi (by simp)⟩
  | cons a l ih =>
    intro ys h
    rw [List.mapM_cons] at h
    cases hy : f a with
    | none => rw [hy] at h; cases h
    | some y =>
      cases hz : l.mapM f with
      | none => rw [hy, hz] at h; cases h
      | some zs =>
        rw [hy, hz] at h
        cases h
        obtain ⟨h1, h2⟩ := ih hz
        refine ⟨by rw [List.length_cons, h1, List.length_cons], fun i hi => ?_⟩
        cases i with
        | zero => exact hy
        | succ i => exact h2 i (Nat.lt_of_succ_lt_succ hi)

section
variable {H : Type} {enc : TypeId × Value → H} {W : World} {v : Value} {d : DataW H} {p : List MemPlace} {base base' : Nat} {sp : Nat → Bool} {held : Bool}
theorem open_act {fuel : Nat} {cs : List Value} {x : DataW H × List MemPlace} (h : DataW.trod enc Tryz.prog W base sp held fuel 52 cs = some x) : ∃ y : ActV, cs = y.cells ∧ y.Ok W := by
  obtain ⟨xs, n, rfl, _, hl, hxl, hf⟩ := DataW.trod_struct Tryz.underlying52 h
  have hl4 : cs.length = 4 := by rw [hl]; kernel_rfl
  obtain ⟨c0, c1, c2, c3, rfl⟩ := list4 cs hl4
  have hx : ∀ i, i < 4 → ∃ z, xs[i]? = some z := fun i hi => ⟨xs[i]'(by rw [hxl]; exact hi), List.getElem?_eq_getElem _⟩
  have k3 : Tryz.prog.cellsOf 3 = 1 := by kernel_rfl
  have k9 : Tryz.prog.cellsOf 9 = 1 := by kernel_rfl
  have ks : Tryz.prog.cellsOf 50 = 1 := by kernel_rfl
  have g0 : DataW.trod enc Tryz.prog W base sp held n 3 (([c0, c1, c2, c3].drop 0).take (Tryz.prog.cellsOf 3)) = xs[0]? := hf 0 _ rfl
  have g1 : DataW.trod enc Tryz.prog W base sp held n 3 (([c0, c1, c2, c3].drop 1).take (Tryz.prog.cellsOf 3)) = xs[1]? := hf 1 _ rfl
  have g2 : DataW.trod enc Tryz.prog W base sp held n 9 (([c0, c1, c2, c3].drop 2).take (Tryz.prog.cellsOf 9)) = xs[2]? := hf 2 _ rfl
  have g3 : DataW.trod enc Tryz.prog W base sp held n 50 (([c0, c1, c2, c3].drop 3).take (Tryz.prog.cellsOf 50)) = xs[3]? := hf 3 _ rfl
  obtain ⟨z0, e0⟩ := hx 0 (by decide)
  obtain ⟨z1, e1⟩ := hx 1 (by decide)
  obtain ⟨z2, e2⟩ := hx 2 (by decide)
  obtain ⟨z3, e3⟩ := hx 3 (by decide)
  rw [e0] at g0
  rw [e1] at g1
  rw [e2] at g2
  rw [e3] at g3
  simp only [k3, List.drop_zero, List.take_succ_cons, List.take_zero] at g0
  simp only [k3, List.drop_zero, List.drop_succ_cons, List.take_succ_cons, List.take_zero] at g1
  simp only [k9, List.drop_zero, List.drop_succ_cons, List.take_succ_cons, List.take_zero] at g2
  simp only [ks, List.drop_zero, List.drop_succ_cons, List.take_succ_cons, List.take_zero] at g3
  obtain ⟨n0, q0, _, w0⟩ := DataW.trod_int Tryz.underlying3 g0
  obtain ⟨n1, q1, _, w1⟩ := DataW.trod_int Tryz.underlying3 g1
  obtain ⟨s2, q2, _, w2⟩ := DataW.trod_string Tryz.underlying9 g2
  obtain ⟨A, c, ks', q3, w3⟩ := open_readsI0 Tryz.underlying50 Tryz.underlying3 k3 g3
  simp only [List.cons.injEq, and_true] at q0 q1 q2 q3
  subst q0 q1 q2 q3
  exact ⟨⟨n0, n1, s2, ks', A, c⟩, rfl, bounds_i64 w0, bounds_i64 w1, w2, w3⟩
set_option maxRecDepth 100000 in
theorem open_readsA (hval : Value.okWide Tryz.prog W .any base 49 v) (h : DataW.Trod enc Tryz.prog W base' sp held 49 v d p) :
    ∃ A c xs, v = .slice A xs.length c ∧ ReadsA W A xs := by
  obtain ⟨a0, len0, cap0, rfl⟩ := okWide_slice Tryz.underlying49 hval
  obtain ⟨fuel, hf⟩ := h
  have k4 : Tryz.prog.cellsOf 52 = 4 := by kernel_rfl
  rcases open_slice Tryz.underlying49 hf with ⟨hcs, _⟩ | ⟨a, len, cap, m, n, D, Pl, hcs, hb, hl, hm, hmm, _, hel⟩
  · simp [Value.cells] at hcs
    obtain ⟨rfl, rfl, rfl⟩ := hcs
    exact ⟨none, 0, [], rfl, fun i hi => absurd hi (Nat.not_lt_zero _), (fun x hx => by cases hx), Nat.zero_le _⟩
  · simp [Value.cells] at hcs
    obtain ⟨rfl, rfl, rfl⟩ := hcs
    have hlm : len0 ≤ m := by rw [hmm]; split <;> omega
    rw [k4] at hel
    have hsp : 0 < len0 → a.spot = none := by
      intro h0
      obtain ⟨cs, h1, h2⟩ := hel 0 (by omega)
      obtain ⟨y, rfl, hy⟩ := open_act h2
      unfold World.cells? at h1
      split at h1
      · obtain ⟨h3, h4⟩ := mapM_some _ h1
        have hc0 := h4 0 (by simp)
        simp only [List.getElem_range, ActV.cells, List.getElem?_cons_zero] at hc0
        have hs1 := spot_none hc0
        unfold Addr.add at hs1
        simpa using hs1
      · cases h1
    have hx : ∀ i, i < len0 → ∃ y : ActV, y.Ok W ∧ ∀ j v, y.cells[j]? = some v → W.cell? ⟨a.block, a.off + i * 4 + j, none⟩ = some v := by
      intro i hi
      have hs := hsp (by omega)
      obtain ⟨cs, h1, h2⟩ := hel i (by omega)
      obtain ⟨y, rfl, hy⟩ := open_act h2
      unfold World.cells? at h1
      split at h1
      · obtain ⟨h3, h4⟩ := mapM_some _ h1
        refine ⟨y, hy, fun j v hj => ?_⟩
        have hj6 : j < 4 := by have := (List.getElem?_eq_some_iff.1 hj).1; simpa [ActV.cells] using this
        have := h4 j (by simpa using hj6)
        rw [List.getElem_range, hj, add_eq hs, add_eq rfl] at this
        exact this
      · cases h1
    obtain ⟨xs, hl1, hall⟩ := choose_list _ len0 hx
    refine ⟨some a, cap0, xs, by rw [hl1], ⟨fun i hi => ?_, fun x hx => ?_, by omega⟩⟩
    · have hs := hsp (by omega)
      refine ⟨a.block, a.off, ?_, (hall i hi).2⟩
      obtain ⟨b, o, s⟩ := a
      simp only at hs
      subst hs
      rfl
    · obtain ⟨i, hi, rfl⟩ := List.getElem_of_mem hx
      exact (hall i hi).1
end
end Go.Proofs.YtlmnmjnmilaipaaGreatDoor

/- Arguments that came in, opened: slices of whatever elements; networks, ways. -/
import Derived.Test.YtlpccebackmahaaLexR
import Derived.ProofKit
import Derived.OpenShut
import Derived.Deep.Slices
set_option linter.unusedVariables false
namespace Go.Proofs.Ytlpccebackmahaa
open Go.ChangeShapes Go.WideShapes Go.ChangeAt Go.RowKit Go.WideMaps Go.WideElems Go.Deep

theorem spot_none {w : World} {a : Addr} {v : Value} (h : w.cell? a = some v) : a.spot = none := by
  unfold World.cell? at h
  split at h
  · split at h
    · cases h
    · rename_i hn; simpa using hn
  · cases h
theorem cell_lt {w : World} {a : Addr} {v : Value} (h : w.cell? a = some v) : a.block < w.heap.size := by
  rcases Nat.lt_or_ge a.block w.heap.size with h1 | h1
  · exact h1
  · unfold World.cell? at h
    rw [Array.getElem?_eq_none h1] at h
    cases h
theorem add_eq {a : Addr} (h : a.spot = none) (i : Nat) : a.add i = ⟨a.block, a.off + i, none⟩ := by
  obtain ⟨b, o, s⟩ := a
  simp only at h
  subst h
  unfold Addr.add
  split <;> simp_all
theorem choose_list {α : Type} (Q : Nat → α → Prop) (n : Nat) (h : ∀ i, i < n → ∃ y, Q i y) : ∃ xs : List α, xs.length = n ∧ ∀ i (hi : i < xs.length), Q i xs[i] := by
  induction n with
  | zero => exact ⟨[], rfl, fun i hi => absurd hi (by simp)⟩
  | succ n ih =>
    obtain ⟨xs, h1, h2⟩ := ih (fun i hi => h i (by omega))
    obtain ⟨y, hy⟩ := h n (by omega)
    refine ⟨xs ++ [y], by simp [h1], fun i hi => ?_⟩
    by_cases hlt : i < xs.length
    · rw [List.getElem_append_left hlt]; exact h2 i hlt
    · have : i = xs.length := by simp at hi; omega
      subst this
      subst h1
      simpa using hy
theorem mapM_some {α β : Type} {f : α → Option β} (l : List α) : ∀ {ys : List β}, l.mapM f = some ys → ys.length = l.length ∧ ∀ i (h : i < l.length), f l[i] = ys[i]? := by
  induction l with
  | nil =>
    intro ys h
    rw [List.mapM_nil] at h
    cases h
    exact ⟨rfl, fun i hi => absurd hi (by simp)⟩
  | cons a l ih =>
    intro ys h
    rw [List.mapM_cons] at h
    cases hy : f a with
    | none => rw [hy] at h; cases h
    | some y =>
      cases hz : l.mapM f with
      | none => rw [hy, hz] at h; cases h
      | some zs =>
        rw [hy, hz] at h
        cases h
        obtain ⟨h1, h2⟩ := ih hz
        refine ⟨by rw [List.length_cons, h1, List.length_cons], fun i hi => ?_⟩
        cases i with
        | zero => exact hy
        | succ i => exact h2 i (Nat.lt_of_succ_lt_succ hi)
section
variable {H : Type} {enc : TypeId × Value → H} {P : Program} {W : World} {base : Nat} {sp : Nat → Bool} {held : Bool}
/-- A slice's element i: its cells. -/
def RowAt {α : Type} (R : α → List Value → Prop) (size : Nat) (W : World) (A : Option Addr) (xs : List α) : Prop :=
  ∀ i (hi : i < xs.length), ∃ bk off, A = some ⟨bk, off, none⟩ ∧ bk < W.heap.size ∧ ∃ cs, R xs[i] cs ∧ cs.length = size ∧ ∀ j v, cs[j]? = some v → W.cell? ⟨bk, off + i * size + j, none⟩ = some v
theorem open_row {α : Type} (R : α → List Value → Prop) {t e : TypeId} (ht : P.underlying t = some (.slice e)) (hpos : 0 < P.cellsOf e)
    (hR : ∀ n cs x, DataW.trod enc P W base sp held n e cs = some x → cs.length = P.cellsOf e → ∃ y, R y cs) {fuel : Nat} {cs : List Value} {x : DataW H × List MemPlace} (h : DataW.trod enc P W base sp held fuel t cs = some x) :
    ∃ A c xs, cs = [.slice A xs.length c] ∧ xs.length ≤ c ∧ xs.length ≤ maxLen ∧ (A = none → c = 0) ∧ RowAt R (P.cellsOf e) W A xs := by
  rcases open_slice ht h with ⟨hcs, _⟩ | ⟨a, len, cap, m, n, D, Pl, hcs, hb, hl, hm, hmm, _, hel⟩
  · exact ⟨none, 0, [], hcs, Nat.le_refl _, Nat.zero_le _, fun _ => rfl, fun i hi => absurd hi (by simp)⟩
  · have hlm : len ≤ m := by rw [hmm]; split <;> omega
    have hx : ∀ i, i < len → ∃ y : α, ∃ cs', R y cs' ∧ cs'.length = P.cellsOf e ∧ ∀ j v, cs'[j]? = some v → W.cell? ((a.add (i * P.cellsOf e)).add j) = some v := by
      intro i hi
      obtain ⟨cs', h1, h2⟩ := hel i (by omega)
      unfold World.cells? at h1
      split at h1
      · obtain ⟨h3, h4⟩ := mapM_some _ h1
        rw [List.length_range] at h3
        obtain ⟨y, hy⟩ := hR _ _ _ h2 h3
        refine ⟨y, cs', hy, h3, fun j v hj => ?_⟩
        have hjl : j < P.cellsOf e := by have := (List.getElem?_eq_some_iff.1 hj).1; omega
        have := h4 j (by simpa using hjl)
        rw [List.getElem_range, hj] at this
        exact this
      · cases h1
    have hsp : 0 < len → a.spot = none := by
      intro h0
      obtain ⟨y, cs', _, hlc, hc⟩ := hx 0 h0
      have hc0 := hc 0 _ (List.getElem?_eq_getElem (by omega))
      have hs1 := spot_none hc0
      simp only [Nat.zero_mul] at hs1
      unfold Addr.add at hs1
      simpa using hs1
    obtain ⟨xs, hl1, hall⟩ := choose_list _ len hx
    refine ⟨some a, cap, xs, by rw [hl1]; exact hcs, by omega, by omega, (fun h => by cases h), fun i hi => ?_⟩
    have hs := hsp (by omega)
    obtain ⟨cs', h1, h2, h3⟩ := hall i hi
    have h5 := h3 0 _ (List.getElem?_eq_getElem (by omega))
    rw [add_eq hs, add_eq rfl] at h5
    have hlt : a.block < W.heap.size := cell_lt (a := ⟨a.block, a.off + i * P.cellsOf e + 0, none⟩) h5
    refine ⟨a.block, a.off, ?_, hlt, cs', h1, h2, fun j v hj => ?_⟩
    · obtain ⟨b, o, s⟩ := a; simp only at hs; subst hs; rfl
    · have := h3 j v hj
      rw [add_eq hs, add_eq rfl] at this
      exact this
end
section
variable {H : Type} {enc : TypeId × Value → H} {W : World} {base base' : Nat} {sp : Nat → Bool} {held : Bool}
def i64ok (n : Int) : Prop := -9223372036854775808 ≤ n ∧ n ≤ 9223372036854775807
theorem open_ints0 {fuel : Nat} {cs : List Value} {x : DataW H × List MemPlace} (h : DataW.trod enc Try.prog W base sp held fuel 25 cs = some x) :
    ∃ A c xs, cs = [.slice A xs.length c] ∧ ReadsI W A xs ∧ xs.length ≤ c ∧ (A = none → c = 0) ∧ ∀ n ∈ xs, i64ok n := by
  obtain ⟨A, c, xs, h1, h2, h3, h4, h5⟩ := open_row (fun (n : Int) cs => cs = [.int .i64 n] ∧ i64ok n) Try.underlying25 (by decide +kernel) (fun n cs x hx hl => by
    obtain ⟨y, h1, _, h2⟩ := DataW.trod_int Try.underlying3 hx
    exact ⟨y, h1, bounds_i64 h2⟩) h
  have k : Try.prog.cellsOf 3 = 1 := by kernel_rfl
  refine ⟨A, c, xs, h1, ⟨fun i hi => ?_, h3⟩, h2, h4, fun n hn => ?_⟩
  · obtain ⟨bk, off, g1, g2, cs', ⟨rfl, _⟩, _, g4⟩ := h5 i hi
    have := g4 0 _ rfl
    rw [k, Nat.mul_one] at this
    rw [List.getD_eq_getElem?_getD, List.getElem?_eq_getElem hi]
    exact ⟨bk, off, g1, g2, this⟩
  · obtain ⟨i, hi, rfl⟩ := List.getElem_of_mem hn
    obtain ⟨_, _, _, _, _, ⟨_, h⟩, _⟩ := h5 i hi
    exact h
def Ed.Ok (e : Ed) : Prop := i64ok e.f ∧ i64ok e.t ∧ i64ok e.c
theorem list3 {α : Type} : ∀ (l : List α), l.length = 3 → ∃ a b c, l = [a, b, c]
  | [a, b, c], _ => ⟨a, b, c, rfl⟩
theorem list2 {α : Type} : ∀ (l : List α), l.length = 2 → ∃ a b, l = [a, b]
  | [a, b], _ => ⟨a, b, rfl⟩
theorem open_edge {fuel : Nat} {cs : List Value} {x : DataW H × List MemPlace} (h : DataW.trod enc Try.prog W base sp held fuel 50 cs = some x) : ∃ e : Ed, cs = [.int .i64 e.f, .int .i64 e.t, .int .i64 e.c] ∧ e.Ok := by
  obtain ⟨xs, n, rfl, _, hl, hxl, hf⟩ := DataW.trod_struct Try.underlying50 h
  obtain ⟨c0, c1, c2, rfl⟩ := list3 cs (by rw [hl]; kernel_rfl)
  have hx : ∀ i, i < 3 → ∃ z, xs[i]? = some z := fun i hi => ⟨xs[i]'(by rw [hxl]; exact hi), List.getElem?_eq_getElem _⟩
  have k3 : Try.prog.cellsOf 3 = 1 := by kernel_rfl
  have g0 : DataW.trod enc Try.prog W base sp held n 3 (([c0, c1, c2].drop 0).take (Try.prog.cellsOf 3)) = xs[0]? := hf 0 _ rfl
  have g1 : DataW.trod enc Try.prog W base sp held n 3 (([c0, c1, c2].drop 1).take (Try.prog.cellsOf 3)) = xs[1]? := hf 1 _ rfl
  have g2 : DataW.trod enc Try.prog W base sp held n 3 (([c0, c1, c2].drop 2).take (Try.prog.cellsOf 3)) = xs[2]? := hf 2 _ rfl
  obtain ⟨z0, e0⟩ := hx 0 (by decide)
  obtain ⟨z1, e1⟩ := hx 1 (by decide)
  obtain ⟨z2, e2⟩ := hx 2 (by decide)
  rw [e0] at g0
  rw [e1] at g1
  rw [e2] at g2
  simp only [k3, List.drop_zero, List.take_succ_cons, List.take_zero] at g0
  simp only [k3, List.drop_zero, List.drop_succ_cons, List.take_succ_cons, List.take_zero] at g1
  simp only [k3, List.drop_zero, List.drop_succ_cons, List.take_succ_cons, List.take_zero] at g2
  obtain ⟨n0, q0, _, w0⟩ := DataW.trod_int Try.underlying3 g0
  obtain ⟨n1, q1, _, w1⟩ := DataW.trod_int Try.underlying3 g1
  obtain ⟨n2, q2, _, w2⟩ := DataW.trod_int Try.underlying3 g2
  simp only [List.cons.injEq, and_true] at q0 q1 q2
  subst q0 q1 q2
  exact ⟨⟨n0, n1, n2⟩, rfl, bounds_i64 w0, bounds_i64 w1, bounds_i64 w2⟩
theorem open_edges0 {fuel : Nat} {cs : List Value} {x : DataW H × List MemPlace} (h : DataW.trod enc Try.prog W base sp held fuel 22 cs = some x) :
    ∃ A c xs, cs = [.slice A xs.length c] ∧ ReadsE W A xs ∧ xs.length ≤ c ∧ (A = none → c = 0) ∧ ∀ e ∈ xs, e.Ok := by
  obtain ⟨A, c, xs, h1, h2, h3, h4, h5⟩ := open_row (fun (e : Ed) cs => cs = [.int .i64 e.f, .int .i64 e.t, .int .i64 e.c] ∧ e.Ok) Try.underlying22 (by decide +kernel) (fun n cs x hx hl => open_edge hx) h
  have k : Try.prog.cellsOf 50 = 3 := by kernel_rfl
  refine ⟨A, c, xs, h1, ⟨fun i hi => ?_, h3⟩, h2, h4, fun n hn => ?_⟩
  · obtain ⟨bk, off, g1, g2, cs', ⟨rfl, _⟩, _, g4⟩ := h5 i hi
    have a0 := g4 0 _ rfl
    have a1 := g4 1 _ rfl
    have a2 := g4 2 _ rfl
    rw [k] at a0 a1 a2
    rw [List.getD_eq_getElem?_getD, List.getElem?_eq_getElem hi]
    exact ⟨bk, off, g1, g2, a0, a1, a2⟩
  · obtain ⟨i, hi, rfl⟩ := List.getElem_of_mem hn
    obtain ⟨_, _, _, _, _, ⟨_, h⟩, _⟩ := h5 i hi
    exact h
theorem open_way {fuel : Nat} {cs : List Value} {x : DataW H × List MemPlace} (h : DataW.trod enc Try.prog W base sp held fuel 44 cs = some x) : ∃ y : WayR0, cs = [.slice y.eA y.es.length y.ec, .int .i64 y.count] ∧ ReadsI W y.eA y.es := by
  obtain ⟨xs, n, rfl, _, hl, hxl, hf⟩ := DataW.trod_struct Try.underlying44 h
  obtain ⟨c0, c1, rfl⟩ := list2 cs (by rw [hl]; kernel_rfl)
  have hx : ∀ i, i < 2 → ∃ z, xs[i]? = some z := fun i hi => ⟨xs[i]'(by rw [hxl]; exact hi), List.getElem?_eq_getElem _⟩
  have k3 : Try.prog.cellsOf 3 = 1 := by kernel_rfl
  have ks : Try.prog.cellsOf 25 = 1 := by kernel_rfl
  have g0 : DataW.trod enc Try.prog W base sp held n 25 (([c0, c1].drop 0).take (Try.prog.cellsOf 25)) = xs[0]? := hf 0 _ rfl
  have g1 : DataW.trod enc Try.prog W base sp held n 3 (([c0, c1].drop 1).take (Try.prog.cellsOf 3)) = xs[1]? := hf 1 _ rfl
  obtain ⟨z0, e0⟩ := hx 0 (by decide)
  obtain ⟨z1, e1⟩ := hx 1 (by decide)
  rw [e0] at g0
  rw [e1] at g1
  simp only [ks, List.drop_zero, List.take_succ_cons, List.take_zero] at g0
  simp only [k3, List.drop_zero, List.drop_succ_cons, List.take_succ_cons, List.take_zero] at g1
  obtain ⟨A, c, es, q0, w0, _⟩ := open_ints0 g0
  obtain ⟨n1, q1, _, w1⟩ := DataW.trod_int Try.underlying3 g1
  simp only [List.cons.injEq, and_true] at q0 q1
  subst q0 q1
  exact ⟨⟨es, n1, A, c⟩, rfl, w0⟩
theorem cells_way : Try.prog.cellsOf 44 = 2 := by kernel_rfl
theorem cells_sway : Try.prog.cellsOf 42 = 1 := by kernel_rfl
theorem open_ways0 {fuel : Nat} {cs : List Value} {x : DataW H × List MemPlace} (h : DataW.trod enc Try.prog W base sp held fuel 42 cs = some x) :
    ∃ A c xs, cs = [.slice A xs.length c] ∧ ReadsW W A xs := by
  obtain ⟨A, c, xs, h1, h2, h3, h4, h5⟩ := open_row (fun (y : WayR0) cs => cs = [.slice y.eA y.es.length y.ec, .int .i64 y.count] ∧ ReadsI W y.eA y.es) Try.underlying42 (by rw [cells_way]; decide) (fun n cs x hx hl => open_way hx) h
  have k : Try.prog.cellsOf 44 = 2 := by kernel_rfl
  refine ⟨A, c, xs, h1, ⟨fun i hi => ?_, fun n hn => ?_, h3⟩⟩
  · obtain ⟨bk, off, g1, g2, cs', ⟨rfl, _⟩, _, g4⟩ := h5 i hi
    have a0 := g4 0 _ rfl
    have a1 := g4 1 _ rfl
    rw [k] at a0 a1
    rw [List.getD_eq_getElem?_getD, List.getElem?_eq_getElem hi]
    exact ⟨bk, off, g1, g2, a0, a1⟩
  · obtain ⟨i, hi, rfl⟩ := List.getElem_of_mem hn
    obtain ⟨_, _, _, _, _, ⟨_, h⟩, _⟩ := h5 i hi
    exact h
set_option maxRecDepth 100000 in
theorem open_wwsV {v : Value} {d : DataW H} {p : List MemPlace} (hval : Value.okWide Try.prog W .any base 26 v) (h : DataW.Trod enc Try.prog W base' sp held 26 v d p) :
    ∃ A c xs, v = .slice A xs.length c ∧ ReadsWW W A xs := by
  obtain ⟨a0, len0, cap0, rfl⟩ := okWide_slice Try.underlying26 hval
  obtain ⟨fuel, hf⟩ := h
  obtain ⟨A, c, xs, h1, h2, h3, h4, h5⟩ := open_row (fun (y : WayL) cs => cs = [.slice y.wA y.ws.length y.wc] ∧ ReadsW W y.wA y.ws) Try.underlying26 (by rw [cells_sway]; decide) (fun n cs x hx hl => by
    obtain ⟨A, c, xs, h1, h2⟩ := open_ways0 hx
    exact ⟨⟨xs, A, c⟩, h1, h2⟩) hf
  have k : Try.prog.cellsOf 42 = 1 := by kernel_rfl
  simp [Value.cells] at h1
  obtain ⟨rfl, rfl, rfl⟩ := h1
  refine ⟨_, _, xs, rfl, ⟨fun i hi => ?_, fun n hn => ?_, h3⟩⟩
  · obtain ⟨bk, off, g1, g2, cs', ⟨rfl, _⟩, _, g4⟩ := h5 i hi
    have a0 := g4 0 _ rfl
    rw [k, Nat.mul_one] at a0
    rw [List.getD_eq_getElem?_getD, List.getElem?_eq_getElem hi]
    exact ⟨bk, off, g1, g2, a0⟩
  · obtain ⟨i, hi, rfl⟩ := List.getElem_of_mem hn
    obtain ⟨_, _, _, _, _, ⟨_, h⟩, _⟩ := h5 i hi
    exact h
set_option maxRecDepth 100000 in
theorem open_intsV {v : Value} {d : DataW H} {p : List MemPlace} (hval : Value.okWide Try.prog W .any base 25 v) (h : DataW.Trod enc Try.prog W base' sp held 25 v d p) :
    ∃ A c xs, v = .slice A xs.length c ∧ ReadsI W A xs ∧ xs.length ≤ c ∧ ∀ n ∈ xs, i64ok n := by
  obtain ⟨a0, len0, cap0, rfl⟩ := okWide_slice Try.underlying25 hval
  obtain ⟨fuel, hf⟩ := h
  obtain ⟨A, c, xs, h1, h2, h3, _, h5⟩ := open_ints0 hf
  simp [Value.cells] at h1
  obtain ⟨rfl, rfl, rfl⟩ := h1
  exact ⟨_, _, xs, rfl, h2, h3, h5⟩
set_option maxRecDepth 100000 in
theorem open_netV {v : Value} {d : DataW H} {p : List MemPlace} (hval : Value.okWide Try.prog W .any base 24 v) (h : DataW.Trod enc Try.prog W base' sp held 24 v d p) :
    ∃ N A c E, v = .agg #[.int .i64 N, .slice A E.length c] ∧ ReadsE W A E ∧ E.length ≤ c ∧ (A = none → c = 0) ∧ i64ok N ∧ ∀ e ∈ E, e.Ok := by
  obtain ⟨cs, rfl, hsz⟩ := okWide_struct Try.underlying24 hval
  rw [show Try.prog.cellsOf 24 = 2 by kernel_rfl] at hsz
  obtain ⟨fuel, hf⟩ := h
  simp only [Value.cells] at hf
  obtain ⟨xs, n, _, _, hl, hxl, hf⟩ := DataW.trod_struct Try.underlying24 hf
  obtain ⟨c0, c1, hcs⟩ := list2 cs.toList (by simpa using hsz)
  rw [hcs] at hf
  have hx : ∀ i, i < 2 → ∃ z, xs[i]? = some z := fun i hi => ⟨xs[i]'(by rw [hxl]; exact hi), List.getElem?_eq_getElem _⟩
  have k3 : Try.prog.cellsOf 3 = 1 := by kernel_rfl
  have ks : Try.prog.cellsOf 22 = 1 := by kernel_rfl
  have g0 : DataW.trod enc Try.prog W base' sp held n 3 (([c0, c1].drop 0).take (Try.prog.cellsOf 3)) = xs[0]? := hf 0 _ rfl
  have g1 : DataW.trod enc Try.prog W base' sp held n 22 (([c0, c1].drop 1).take (Try.prog.cellsOf 22)) = xs[1]? := hf 1 _ rfl
  obtain ⟨z0, e0⟩ := hx 0 (by decide)
  obtain ⟨z1, e1⟩ := hx 1 (by decide)
  rw [e0] at g0
  rw [e1] at g1
  simp only [k3, List.drop_zero, List.take_succ_cons, List.take_zero] at g0
  simp only [ks, List.drop_zero, List.drop_succ_cons, List.take_succ_cons, List.take_zero] at g1
  obtain ⟨n0, q0, _, w0⟩ := DataW.trod_int Try.underlying3 g0
  obtain ⟨A, c, E, q1, w1, w2, w3, w4⟩ := open_edges0 g1
  simp only [List.cons.injEq, and_true] at q0 q1
  subst q0 q1
  refine ⟨n0, A, c, E, ?_, w1, w2, w3, bounds_i64 w0, w4⟩
  rw [show cs = #[Value.int .i64 n0, Value.slice A E.length c] by apply Array.toList_inj.1; exact hcs]
end
end Go.Proofs.Ytlpccebackmahaa

/- Layer 11: WalCounts walked. -/
import Derived.Test.YtlmnmjnmilaipaaGreatDoorZstr
import Derived.Deep.QuietTactic
import Derived.BigQuiet
set_option linter.unusedVariables false
set_option linter.unusedSimpArgs false
namespace Go.Proofs.YtlmnmjnmilaipaaGreatDoor
open Go Go.RowKit Go.Sort PR Go.Proofs.YtlmnmjnmilaipaaGreatDoorW.PrintWords

theorem ErrTab.keep2 {w w1 : World} (h : ErrTab w) (hb : Below w.heap.size w w1) : ErrTab w1 := h.only (Only.of_below (S := fun _ => False) hb) (fun h => h)
/-- A text, no longer than 300, as the walk spells it. -/
def cut3 (s : ByteArray) : ByteArray := s.extract 0 (min (s.size : Int) 300).toNat
theorem cut3_size (s : ByteArray) : (cut3 s).size ≤ 300 := by unfold cut3; rw [ByteArray.size_extract]; omega
theorem cut3_len (s : ByteArray) : (bs (cut3 s)).length ≤ 300 := by rw [bs_len]; exact cut3_size s
def here : Bs := [104, 101, 114, 101]
/-- The state at a round's head. -/
def ctSt (ts : List Bs) (a i : Nat) : St := if i ≤ a then ⟨[], ts.take i, i⟩ else ⟨here, (ts.take i).drop a, min i ts.length⟩
theorem take_at (ts : List Bs) (i : Nat) (h : i < ts.length) : ts.take (i + 1) = ts.take i ++ [ts.getD i []] := by
  rw [List.take_succ_eq_append_getElem h]
  simp [List.getD_eq_getElem?_getD, h]
theorem drop_take_snoc (ts : List Bs) (a i : Nat) (h : i < ts.length) (ha : a ≤ i) : (ts.take (i + 1)).drop a = (ts.take i).drop a ++ [ts.getD i []] := by
  rw [take_at ts i h, List.drop_append_of_le_length (by rw [List.length_take]; omega)]
theorem drop_take_nil (ts : List Bs) (a i : Nat) (ha : i ≤ a) : (ts.take i).drop a = [] := List.drop_eq_nil_of_le (by rw [List.length_take]; omega)
/-- A disk that holds a log's state between two rounds. -/
structure CtD (ts : List Bs) (a i : Nat) (D : Dk) : Prop where
  calm : Calm D (ctSt ts a i) (312 * i)
  armed : D.armed = 0
  acts : D.acts ≤ 10 * i
theorem ct_start (ts : List Bs) (a : Nat) : CtD ts a 0 Dk.new := ⟨by
  have : ctSt ts a 0 = ⟨[], [], 0⟩ := by unfold ctSt; rw [if_pos (Nat.zero_le _), List.take_zero]
  rw [this]; exact calm_new, rfl, Nat.le_refl _⟩
theorem only_snap {D : Dk} {st : St} {m : Nat} (h : Calm D st m) (hl : aget D.files kLog = none) (hs : (aget D.files kSnap).isSome) : D.names = [bs kSnap] := by
  obtain ⟨v, hv⟩ := Option.isSome_iff_exists.1 hs
  have : D.files = [(kSnap, v)] := only_one h.lies.ok.nodup hv (fun p hp => by
    have h3 := h.lies.k3 p hp
    refine Classical.byContradiction (fun hne => ?_)
    have hg : (aget D.files p.1).isSome := aget_isSome_iff.2 (List.mem_map.2 ⟨p, hp, rfl⟩)
    simp [keys3] at h3
    rcases h3 with e | e | e
    · rw [e, hl] at hg; exact absurd hg (by simp)
    · exact hne e
    · rw [e, h.new] at hg; exact absurd hg (by simp))
  unfold Dk.names
  rw [this]
  simp [bs]
theorem check_snap {D : Dk} {st : St} {m : Nat} (h : Calm D st m) (h0 : D.armed = 0) (t : Bs) (hp : (payP st.seq t).length ≤ 4096) (ha : D.acts + 4 < 4611686018427387904) :
    ∃ D1, checkP ⟨st.seq, 0⟩ D t = (0, ⟨st.seq, 0⟩, D1) ∧ Calm D1 (st.check t) 0 ∧ D1.armed = 0 ∧ D1.acts ≤ D.acts + 4 ∧ D1.names = [bs kSnap] ∧ D1.files.length = 1 := by
  obtain ⟨D1, e, c, r, _, n, hl, hs⟩ := check_ok h h0 t hp ha
  have hn := only_snap c hl hs
  exact ⟨D1, e, c, r, n, hn, by rw [← D1.names_length, hn]; rfl⟩
theorem bhere : bs ⟨#[104, 101, 114, 101]⟩ = here := rfl
theorem pay_small {n : Nat} (hn : n ≤ 1099511627776) {t : Bs} (ht : t.length ≤ 4000) : (payP n t).length ≤ 4096 := by have := pay_len hn t; omega
/-- The checkpoint's round, the checkpoint. -/
theorem ct_check {ts : List Bs} {a : Nat} {D : Dk} (h : CtD ts a a D) (ha : a ≤ 30) :
    ∃ D1, checkP ⟨(a : Nat), 0⟩ D (bs ⟨#[104, 101, 114, 101]⟩) = (0, ⟨(a : Nat), 0⟩, D1) ∧ Calm D1 ⟨here, [], a⟩ 0 ∧ D1.armed = 0 ∧ D1.acts ≤ 10 * a + 4 ∧ D1.names = [bs kSnap] ∧ D1.files.length = 1 := by
  have hc := h.calm
  have e0 : ctSt ts a a = ⟨[], ts.take a, a⟩ := by unfold ctSt; rw [if_pos (Nat.le_refl _)]
  rw [e0] at hc
  have := h.acts
  obtain ⟨D1, e, c, r, n, h1, h2⟩ := check_snap hc h.armed (bs ⟨#[104, 101, 114, 101]⟩) (pay_small (by show a ≤ _; omega) (by decide)) (by omega)
  exact ⟨D1, e, c, r, by omega, h1, h2⟩
theorem ct_append {ts : List Bs} {a i : Nat} {D : Dk} {st : St} {m : Nat} (hc : Calm D st m) (h0 : D.armed = 0) (hn : D.acts ≤ 10 * i + 4) (hm : m ≤ 312 * i) (hs : st.seq = i) (hi : i < ts.length) (h30 : ts.length ≤ 30) (ht : (ts.getD i []).length ≤ 300) (e : st.add (ts.getD i []) = ctSt ts a (i + 1)) :
    ∃ D1, appendP ⟨(i : Nat), 0⟩ D (ts.getD i []) = (0, ⟨((i + 1 : Nat) : Int), 0⟩, D1) ∧ CtD ts a (i + 1) D1 := by
  obtain ⟨D1, e1, c1, r1, _, n1⟩ := append_ok hc h0 (ts.getD i []) (by omega) (pay_small (by omega) (by omega)) (by omega) (by omega)
  rw [hs] at e1
  refine ⟨D1, e1, ⟨?_, r1, by omega⟩⟩
  rw [← e]
  exact ⟨c1.lies, c1.off, c1.new, c1.holds.mono (by omega)⟩
theorem ct_lt {ts : List Bs} {a i : Nat} (hi : i < ts.length) (ha : i < a) : ctSt ts a i = ⟨[], ts.take i, i⟩ ∧ (⟨[], ts.take i, i⟩ : St).add (ts.getD i []) = ctSt ts a (i + 1) := by
  unfold ctSt
  rw [if_pos (by omega), if_pos (by omega), take_at ts i hi]
  exact ⟨rfl, rfl⟩
theorem ct_gt {ts : List Bs} {a i : Nat} (hi : i < ts.length) (ha : a < i) : ctSt ts a i = ⟨here, (ts.take i).drop a, i⟩ ∧ (⟨here, (ts.take i).drop a, i⟩ : St).add (ts.getD i []) = ctSt ts a (i + 1) := by
  unfold ctSt
  rw [if_neg (by omega), if_neg (by omega), drop_take_snoc ts a i hi (by omega), Nat.min_eq_left (by omega), Nat.min_eq_left (by omega)]
  exact ⟨rfl, rfl⟩
theorem ct_eq {ts : List Bs} {a : Nat} (hi : a < ts.length) : (⟨here, [], a⟩ : St).add (ts.getD a []) = ctSt ts a (a + 1) := by
  unfold ctSt
  rw [if_neg (by omega), drop_take_snoc ts a a hi (Nat.le_refl _), drop_take_nil ts a a (Nat.le_refl _), Nat.min_eq_left (by omega)]
  rfl
/-- At the end, or where nothing is written in a round. -/
theorem ct_end {ts : List Bs} {a i : Nat} (ha : a < i) (hi : ts.length ≤ i) : ctSt ts a i = ⟨here, ts.drop a, ts.length⟩ := by
  unfold ctSt
  rw [if_neg (by omega), List.take_of_length_le hi, Nat.min_eq_right hi]
theorem getD_map_cut (l : List ByteArray) (n i : Nat) (hn : n ≤ l.length) (hi : i < n) : ((l.take n).map fun s => bs (cut3 s)).getD i [] = bs (cut3 (l.getD i ⟨#[]⟩)) := by
  have h : i < l.length := by omega
  simp [List.getD_eq_getElem?_getD, List.getElem?_take, hi, h]
end Go.Proofs.YtlmnmjnmilaipaaGreatDoor

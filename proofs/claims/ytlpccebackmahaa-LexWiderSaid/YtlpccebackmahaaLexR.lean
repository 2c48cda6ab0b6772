/- Layer 7: ways as they are read; billetref07.isWay. -/
import Derived.Test.YtlpccebackmahaaLexQ
set_option linter.unusedVariables false
set_option linter.unusedSimpArgs false
namespace Go.Proofs.Ytlpccebackmahaa
open Go.RowKit

/-- A way as it lies. -/
structure WayR0 where
  es : List Int
  count : Int
  eA : Option Addr
  ec : Nat
deriving Inhabited
def WayR0.val (x : WayR0) : Value := .agg #[.slice x.eA x.es.length x.ec, .int .i64 x.count]
def WayR0.plain (x : WayR0) : List Int × Int := (x.es, x.count)
/-- A slice of ways that is read. -/
structure ReadsW (w : World) (A : Option Addr) (ws : List WayR0) : Prop where
  cell : ∀ i, i < ws.length → ∃ bk off, A = some ⟨bk, off, none⟩ ∧ bk < w.heap.size ∧ w.cell? ⟨bk, off + i * 2, none⟩ = some (.slice (ws.getD i default).eA (ws.getD i default).es.length (ws.getD i default).ec) ∧
    w.cell? ⟨bk, off + i * 2 + 1, none⟩ = some (.int .i64 (ws.getD i default).count)
  ok : ∀ x ∈ ws, ReadsI w x.eA x.es
  len : ws.length ≤ maxLen
theorem ReadsW.fix {w w' : World} {A : Option Addr} {ws : List WayR0} (h : ReadsW w A ws) (ho : Kept w w') : ReadsW w' A ws :=
  ⟨fun i hi => by
    obtain ⟨bk, off, h1, h2, h3, h4⟩ := h.cell i hi
    exact ⟨bk, off, h1, Nat.lt_of_lt_of_le h2 ho.size, (ho.cell (p := ⟨bk, off + i * 2, none⟩) h2 (fun x => x)).trans h3, (ho.cell (p := ⟨bk, off + i * 2 + 1, none⟩) h2 (fun x => x)).trans h4⟩,
    fun x hx => (h.ok x hx).fix ho, h.len⟩
/-- A source's list of ways. -/
structure WayL where
  ws : List WayR0
  wA : Option Addr
  wc : Nat
deriving Inhabited
def WayL.plain (l : WayL) : List (List Int × Int) := l.ws.map WayR0.plain
def plainWays (ls : List WayL) : List (List (List Int × Int)) := ls.map WayL.plain
structure ReadsWW (w : World) (A : Option Addr) (ls : List WayL) : Prop where
  cell : ∀ i, i < ls.length → ∃ bk off, A = some ⟨bk, off, none⟩ ∧ bk < w.heap.size ∧ w.cell? ⟨bk, off + i, none⟩ = some (.slice (ls.getD i default).wA (ls.getD i default).ws.length (ls.getD i default).wc)
  ok : ∀ l ∈ ls, ReadsW w l.wA l.ws
  len : ls.length ≤ maxLen
theorem ReadsWW.fix {w w' : World} {A : Option Addr} {ls : List WayL} (h : ReadsWW w A ls) (ho : Kept w w') : ReadsWW w' A ls :=
  ⟨fun i hi => by
    obtain ⟨bk, off, h1, h2, h3⟩ := h.cell i hi
    exact ⟨bk, off, h1, Nat.lt_of_lt_of_le h2 ho.size, (ho.cell (p := ⟨bk, off + i, none⟩) h2 (fun x => x)).trans h3⟩,
    fun x hx => (h.ok x hx).fix ho, h.len⟩

def seenOf (n : Nat) (sl : List Int) : List Bool := (verts n).map fun v => decide (v ∈ sl)
theorem seenOf_len (n : Nat) (sl : List Int) : (seenOf n sl).length = n := by simp [seenOf, verts]
theorem seenOf_get (n : Nat) (sl : List Int) (v : Nat) (hv : v < n) : (seenOf n sl).getD v false = decide ((v : Int) ∈ sl) := by
  simp [seenOf, verts, List.getD_eq_getElem?_getD, hv]
theorem seenOf_cons (n : Nat) (sl : List Int) (v : Nat) (hv : v < n) : seenOf n ((v : Int) :: sl) = (seenOf n sl).set v true := by
  apply list_extB (by simp [seenOf_len])
  intro j hj
  rw [seenOf_len] at hj
  rw [getD_setB _ _ _ _ (by rw [seenOf_len]; exact hv), seenOf_get _ _ _ hj, seenOf_get _ _ _ hj]
  by_cases e : j = v
  · subst e; simp
  · rw [if_neg e]
    have : ¬ (j : Int) = v := by omega
    simp [this]
theorem seenOf_nil (n : Nat) : seenOf n [] = List.replicate n false := by
  apply list_extB (by simp [seenOf_len])
  intro j hj
  rw [seenOf_len] at hj
  rw [seenOf_get _ _ _ hj]
  simp [List.getD_eq_getElem?_getD, List.getElem?_replicate, hj]
theorem RowB.made1 (w : World) (n s : Nat) (hs : s < n) : RowB (w.alloc (.cells ((Array.replicate n (.bool false)).setIfInBounds s (.bool true)) 4)) w.heap.size (seenOf n [(s : Int)]) := by
  refine ⟨⟨_, (MapKept.heap_alloc w _).1, by simp [seenOf_len], fun i hi => ?_⟩⟩
  rw [seenOf_len] at hi
  rw [seenOf_get _ _ _ hi, Array.getElem?_setIfInBounds]
  by_cases e : s = i
  · subst e
    simp [hi]
  · rw [if_neg e]
    have : ¬ (i : Int) = s := by omega
    simp [hi, this]
theorem walkI_cons {E : List Ed} {t : Int} {sl : List Int} {u i : Int} {es : List Int} : walkI E t sl u (i :: es) ↔ SrcOk E u i ∧ (E.getD i.toNat default).t ∉ sl ∧ walkI E t ((E.getD i.toNat default).t :: sl) (E.getD i.toNat default).t es := Iff.rfl
theorem walkI_nil {E : List Ed} {t : Int} {sl : List Int} {u : Int} : walkI E t sl u [] ↔ u = t := Iff.rfl
theorem drop_cons {es : List Int} {k : Nat} (hk : k < es.length) : es.drop k = es.getD k 0 :: es.drop (k + 1) := by
  rw [List.drop_eq_getElem_cons hk, List.getD_eq_getElem?_getD, List.getElem?_eq_getElem hk]
  rfl
theorem bool_iff {p q : Prop} [Decidable p] [Decidable q] (h : p ↔ q) : decide p = decide q := by
  by_cases hp : p
  · rw [decide_eq_true hp, decide_eq_true (h.1 hp)]
  · rw [decide_eq_false hp, decide_eq_false (fun x => hp (h.2 x))]

set_option maxHeartbeats 4000000 in
set_option maxRecDepth 100000 in
theorem r7isWay_any (N s t src : Int) (A : Option Addr) (c : Nat) (E : List Ed) (x : WayR0) (w : World) (hE : ReadsE w A E) (hx : ReadsI w x.eA x.es) (hN : NetOk N E) (hs : 0 ≤ s ∧ s < N) :
    Calls Try.prog 49 #[.agg #[.int .i64 N, .slice A E.length c], .int .i64 s, .int .i64 t, .int .i64 src, x.val] w fun e w' => e = .returned (.bool (decide (WayOk N E s t src x.plain))) ∧ Kept w w' := by
  have n2 := hN.1
  have n3 := hN.2.1
  have lE := hN.2.2.1
  have hEn := hN.ends
  obtain ⟨n, rfl⟩ : ∃ n : Nat, N = n := ⟨N.toNat, by omega⟩
  rw [Int.toNat_natCast] at *
  obtain ⟨es, ct, eA, ec⟩ := x
  unfold WayR0.val WayR0.plain
  simp only at hx ⊢
  have le := hx.len
  unfold maxLen at le
  obtain ⟨hs1, hs2⟩ := hs
  obtain ⟨sn, rfl⟩ : ∃ sn : Nat, s = sn := ⟨s.toNat, by omega⟩
  have hmb := make_bools n (by omega)
  have hsn : sn < n := by omega
  have HE := Lib.hid hE
  have HX := Lib.hid hx
  have HEN := Lib.hid hEn
  clear hE hx hEn hN hs1
  by_cases h0 : 0 < es.length
  · obtain ⟨bk, off, rfl, lb, e0⟩ := HX.out.cell 0 h0
    rw [Nat.add_zero] at e0
    have hh : es.head? = some (es.getD 0 0) := by
      cases es with
      | nil => simp at h0
      | cons a l => rfl
    by_cases h1 : (es.length : Int) ≤ n ∧ es.getD 0 0 = src ∧ 0 ≤ ct ∧ ct ≤ 1000
    · obtain ⟨h1, h2, h3, h4⟩ := h1
      have hdec : decide (WayOk n E sn t src (es, ct)) = decide (walkI E t [(sn : Int)] sn es) := bool_iff ⟨fun h => h.2.2.2, fun h => ⟨h1, ⟨h3, h4⟩, by rw [hh, h2], h⟩⟩
      rw [hdec]
      have HSW := Lib.hid hh
      rw [h2] at e0
      clear hdec hh h2
      have hl1 : ¬ (es.length : Int) < 1 := by omega
      go_enter Try.func49, Try.ntmps49
      go_wp2
      go_loopw [12, 13] (fun va i wr => ∃ (k un : Nat) (sl : List Int), k ≤ es.length ∧ i = .int .i64 k ∧ va = .int .i64 un ∧ un < n ∧ (walkI E t sl un (es.drop k) ↔ walkI E t [(sn : Int)] sn es) ∧ RowB wr (w.heap.size + 2) (seenOf n sl) ∧
        Kept ((w.alloc (.cells #[.int .i64 n, .slice A E.length c] 24)).alloc (.cells #[.slice (some ⟨bk, off, none⟩) es.length ec, .int .i64 ct] 44)) wr) (fun _ i _ => es.length - (intOf i).toNat)
      case atStart =>
        refine ⟨0, sn, [(sn : Int)], Nat.zero_le _, rfl, rfl, hsn, Iff.rfl, ?_, (Only.refl (fun _ => False) _).alloc _⟩
        have := RowB.made1 ((w.alloc (.cells #[.int .i64 n, .slice A E.length c] 24)).alloc (.cells #[.slice (some ⟨bk, off, none⟩) es.length ec, .int .i64 ct] 44)) n sn hsn
        simpa using this
      case round =>
        obtain ⟨k, un, sl, hk, rfl, rfl, hun, hiff, hrow, ho⟩ := hrel
        have q0 := (ho.cell (p := ⟨w.heap.size, 0, none⟩) (by simp; omega) (fun x => x)).trans (show _ = some (.int .i64 (n : Int)) by simp [World.cell?_alloc_new])
        have q1 := (ho.cell (p := ⟨w.heap.size, 1, none⟩) (by simp; omega) (fun x => x)).trans (show _ = some (.slice A E.length c) by simp [World.cell?_alloc_new])
        have q2 := (ho.cell (p := ⟨w.heap.size + 1, 0, none⟩) (by simp) (fun x => x)).trans (show _ = some (.slice (some ⟨bk, off, none⟩) es.length ec) by simp [World.cell?_alloc_new])
        have HO := Lib.hid ho
        have HR := Lib.hid hrow
        have HI := Lib.hid hiff
        have hrl := hrow.lt
        have hkp : Kept w wr := (((Only.refl _ w).alloc _).alloc _).trans ho
        have HKP := Lib.hid hkp
        clear ho hrow hiff hkp
        by_cases hlt : k < es.length
        · obtain ⟨_, _, hbe, _, ei⟩ := int_at HX.out hlt HKP.out
          cases hbe
          have hwc := walkI_cons (E := E) (t := t) (sl := sl) (u := un) (i := es.getD k 0) (es := es.drop (k + 1))
          rw [← drop_cons hlt] at hwc
          by_cases hin : 0 ≤ es.getD k 0 ∧ es.getD k 0 < E.length
          · obtain ⟨hi0, hi1⟩ := hin
            obtain ⟨i, hi⟩ : ∃ i : Nat, es.getD k 0 = i := ⟨(es.getD k 0).toNat, by omega⟩
            rw [hi] at hi0 hi1 ei hwc
            rw [Int.toNat_natCast] at hwc
            obtain ⟨bk2, off2, rfl, lb2, e0', e1', e2'⟩ := edge_at HE.out (show i < E.length by omega) HKP.out
            obtain ⟨_, ⟨et0, et1⟩, _⟩ := HEN.out.at (show i < E.length by omega)
            obtain ⟨t', ht'⟩ : ∃ t' : Nat, (E.getD i default).t = t' := ⟨(E.getD i default).t.toNat, by omega⟩
            rw [ht'] at e1' et1 hwc
            have sv := HR.out.at (i := t') (by rw [seenOf_len]; omega)
            have sf := HR.out.fr t'
            rw [seenOf_get _ _ _ (by omega)] at sv
            have hsrc : SrcOk E un i ↔ (E.getD i default).f = un := ⟨fun h => h.2.2, fun h => ⟨hi0, hi1, h⟩⟩
            have HW := Lib.hid hwc
            have HSR := Lib.hid hsrc
            have ht2 : t' < n := by omega
            clear hwc hsrc e2' et0 hi hi0 ht'
            by_cases hf : (E.getD i default).f = un
            · rw [hf] at e0'
              by_cases hsn2 : (t' : Int) ∈ sl
              · rw [decide_eq_true hsn2] at sv
                have HS2 := Lib.hid hsn2
                have HF2 := Lib.hid hf
                clear hsn2 hf
                go_wp2
                go_ret
                exact ⟨ret_boolI (by symm; rw [decide_eq_false_iff_not, ← HI.out, HW.out]; exact fun h => h.2.1 HS2.out), HKP.out⟩
              · rw [decide_eq_false hsn2] at sv
                have HS2 := Lib.hid hsn2
                have HF2 := Lib.hid hf
                clear hsn2 hf
                go_wp2
                go_roundw
                case rel =>
                  refine ⟨k + 1, t', (t' : Int) :: sl, by omega, by go_num, rfl, ht2, ?_, ?_, HO.out.store _ _ (fun h => absurd h (by simp)) _⟩
                  · rw [← HI.out, HW.out]
                    exact ⟨fun h => ⟨HSR.out.2 HF2.out, HS2.out, h⟩, fun h => h.2.2⟩
                  · rw [seenOf_cons n sl t' ht2]
                    exact HR.out.set (by rw [seenOf_len]; exact ht2) true
                case measure => simp [intOf]; omega
            · have hbf : ((E.getD i default).f == (un : Int)) = false := by simpa using hf
              have HF2 := Lib.hid hf
              clear hf
              generalize (E.getD i default).f = ef at *
              go_wp2
              go_ret
              exact ⟨ret_boolI (by symm; rw [decide_eq_false_iff_not, ← HI.out, HW.out]; exact fun h => HF2.out (HSR.out.1 h.1)), HKP.out⟩
          · have hno : decide (walkI E t [(sn : Int)] sn es) = false := by
              rw [decide_eq_false_iff_not, ← HI.out, hwc]
              exact fun h => hin ⟨h.1.1, h.1.2.1⟩
            have HNO := Lib.hid hno
            clear hno hwc
            generalize es.getD k 0 = i at *
            by_cases hi0 : i < 0
            · clear hin
              go_wp2
              go_ret
              exact ⟨ret_boolI HNO.out.symm, HKP.out⟩
            · have hi1 : (E.length : Int) ≤ i := by omega
              have hi2 : 0 ≤ i := by omega
              clear hin hi0
              go_wp2
              go_ret
              exact ⟨ret_boolI HNO.out.symm, HKP.out⟩
        · obtain rfl : k = es.length := by omega
          rw [List.drop_length] at HI
          clear hlt
          go_wp2
          go_ret
          exact ⟨ret_boolI (by rw [← bool_iff HI.out, bool_iff (walkI_nil (E := E))]; by_cases h : (un : Int) = t <;> simp [h]), HKP.out⟩
    · have hno : decide (WayOk n E sn t src (es, ct)) = false := by
        rw [decide_eq_false_iff_not]
        rintro ⟨a1, a2, a3, _⟩
        rw [hh] at a3
        exact h1 ⟨a1, Option.some.inj a3, a2.1, a2.2⟩
      rw [hno]
      clear hno hh
      generalize es.getD 0 0 = y at *
      by_cases c1 : (es.length : Int) ≤ n
      · by_cases c2 : y = src
        · by_cases c3 : 0 ≤ ct
          · have c4 : 1000 < ct := by omega
            clear h1
            go_enter Try.func49, Try.ntmps49
            go_wp2
            go_ret
            exact ⟨rfl, ((Only.refl _ _).alloc _).alloc _⟩
          · have c4 : ct < 0 := by omega
            clear h1 c3
            go_enter Try.func49, Try.ntmps49
            go_wp2
            go_ret
            exact ⟨rfl, ((Only.refl _ _).alloc _).alloc _⟩
        · have hb : (y == src) = false := by simpa using c2
          clear h1
          go_enter Try.func49, Try.ntmps49
          go_wp2
          all_goals first
            | (go_ret; exact ⟨rfl, ((Only.refl _ _).alloc _).alloc _⟩)
            | (exfalso; rename_i hx; exact c2 (by simpa using hx))
            | (exfalso; simp_all; done)
      · have c4 : (n : Int) < es.length := by omega
        clear h1 c1
        go_enter Try.func49, Try.ntmps49
        go_wp2
        go_ret
        exact ⟨rfl, ((Only.refl _ _).alloc _).alloc _⟩
  · have hno : decide (WayOk n E sn t src (es, ct)) = false := by
      rw [decide_eq_false_iff_not]
      intro h
      have := h.2.2.1
      cases es with
      | nil => cases this
      | cons a l => simp at h0
    rw [hno]
    have hl0 : es.length = 0 := by omega
    clear hno h0
    rw [hl0]
    go_enter Try.func49, Try.ntmps49
    go_wp2
    go_ret
    exact ⟨rfl, ((Only.refl _ _).alloc _).alloc _⟩
end Go.Proofs.Ytlpccebackmahaa

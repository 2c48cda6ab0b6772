/- Layer 7, plainly: the statement's Ways makes ways that may be. -/
import Derived.Test.YtlpccebackmahaaWaysC
import Derived.Test.YtlpccebackmahaaLexR
import Derived.Test.YtlpccebackmahaaLexFx
import Derived.Test.YtlpccebackmahaaOpenL
import Derived.Deep.RegionWith
import Derived.IntWalk
import Derived.Deep.CutRange
import Derived.Deep.DeepCutAuto
import Derived.Deep.RegionHeld3
import Derived.Test.YtlpccebackmahaaLexMx
import Derived.Deep.QuietTactic
import Derived.BigQuiet
set_option linter.unusedVariables false
set_option linter.unusedSimpArgs false
namespace Go.Proofs.Ytlpccebackmahaa
open PW Go.RowKit Go.Proofs.YtlpccebackmahaaW.PrintWords

def Ed.toS (e : Ed) : S50 := ⟨e.f, e.t, e.c⟩
theorem rdS (E : List Ed) (i : Nat) (hi : i < E.length) : rd_T50 (E.map Ed.toS) (i : Int) = (E.getD i default).toS := by
  unfold rd_T50
  rw [Int.toNat_natCast, List.getD_eq_getElem?_getD, List.getElem?_map, List.getElem?_eq_getElem hi, List.getD_eq_getElem?_getD, List.getElem?_eq_getElem hi]
  rfl
/-- With rounds enough the answer is one that P tells. -/
def Good {α : Type} (P : α → Prop) (g : Nat → Option α) : Prop := ∃ K r, P r ∧ ∀ k, K ≤ k → g k = some r
theorem Good.step {α : Type} {P : α → Prop} {g g' : Nat → Option α} (h : Good P g) (e : ∀ k, g' (k + 1) = g k) : Good P g' := by
  obtain ⟨K, r, hr, h⟩ := h
  refine ⟨K + 1, r, hr, fun k hk => ?_⟩
  obtain ⟨m, rfl⟩ : ∃ m, k = m + 1 := ⟨k - 1, by omega⟩
  rw [e]; exact h m (by omega)
theorem Good.now {α : Type} {P : α → Prop} {g : Nat → Option α} (r : α) (hr : P r) (h : ∀ k, g (k + 1) = some r) : Good P g :=
  ⟨1, r, hr, fun k hk => by obtain ⟨m, rfl⟩ : ∃ m, k = m + 1 := ⟨k - 1, by omega⟩; exact h m⟩
theorem wrap_id {x : Int} (h : -9223372036854775808 ≤ x ∧ x ≤ 9223372036854775807) : wrap64 x = x := by unfold wrap64; omega

section
variable {N : Nat} {E : List Ed} {o : List Int} {raw : List (List Int)}
/-- A way in the making: it has come to 'at', by the vertices seen. -/
structure Part (N : Nat) (E : List Ed) (src : Int) (seen : List Int) (a : Int) (es : List Int) : Prop where
  on : ∀ rest, walkI E 1 seen a rest → walkI E 1 [0] 0 (es ++ rest)
  hd : es.head? = some src
  len : es.length + 1 = seen.length
  nodup : seen.Nodup
  within : ∀ v ∈ seen, 0 ≤ v ∧ v < (N : Int)
  mem : a ∈ seen
theorem nodup_len {N : Nat} {l : List Int} (h : l.Nodup) (hw : ∀ v ∈ l, 0 ≤ v ∧ v < (N : Int)) : l.length ≤ N := by
  have := List.Nodup.length_le_of_subset h (fun v hv => mem_verts.2 (hw v hv))
  rwa [verts_length] at this
def MayOk (E : List Ed) (seen : List Int) (a m : Int) : Prop := ∃ j : Nat, m = j ∧ j < E.length ∧ (E.getD j default).f = a ∧ (E.getD j default).t ∉ seen
theorem seen_rd {N : Nat} {seen : List Int} {v : Int} (hv : 0 ≤ v ∧ v < (N : Int)) : rdOf false (seenOf N seen) v = decide (v ∈ seen) := by
  obtain ⟨n, rfl⟩ : ∃ n : Nat, v = n := ⟨v.toNat, by omega⟩
  unfold rdOf
  rw [Int.toNat_natCast]
  exact seenOf_get N seen n (by omega)
variable {P : List (List S44) → Prop}
set_option maxHeartbeats 1000000 in
theorem l3_good (hN : NetOk N E) {x7 : List (List S44)} {x8 : Int} {x9 : List S44} {x10 x11 : Int} {seen : List Int} {a : Int} {es : List Int} {ct : Int}
    (H : ∀ may : List Int, (∀ m ∈ may, MayOk E seen a m) → Good P (fun k => billetlaw07_Ways.l3 k o raw x7 x8 x9 x10 x11 (seenOf N seen) a may E.length N (E.map Ed.toS) es ct)) :
    ∀ (d i : Nat) (may : List Int), E.length - i = d → i ≤ E.length → may.length ≤ i → (∀ m ∈ may, MayOk E seen a m) → Good P (fun k => billetlaw07_Ways.l3 k o raw x7 x8 x9 x10 x11 (seenOf N seen) a may i N (E.map Ed.toS) es ct) := by
  intro d
  have hE := hN.2.2.1
  induction d with
  | zero =>
    intro i may hd hi hl hm
    obtain rfl : i = E.length := by omega
    exact H may hm
  | succ d ih =>
    intro i may hd hi hl hm
    have hlt : i < E.length := by omega
    have hmem : E.getD i default ∈ E := by rw [List.getD_eq_getElem?_getD, List.getElem?_eq_getElem hlt]; exact List.getElem_mem hlt
    obtain ⟨e1, e2, e3, e4, e5⟩ := hN.2.2.2 _ hmem
    have c1 : (i : Int) < ((E.map Ed.toS).length : Int) := by rw [List.length_map]; omega
    have c2 : (0 : Int) ≤ (i : Int) := by omega
    have C3 := Lib.hid (show wrap64 ((i : Int) + 1) = ((i + 1 : Nat) : Int) by rw [wrap_id (by omega)]; omega)
    have g0 : (rd_T50 (E.map Ed.toS) (i : Int)).f0 = (E.getD i default).f := by rw [rdS E i hlt]; rfl
    have g1 : (rd_T50 (E.map Ed.toS) (i : Int)).f1 = (E.getD i default).t := by rw [rdS E i hlt]; rfl
    have hsl : ((seenOf N seen).length : Int) = N := by rw [seenOf_len]
    by_cases hf : (E.getD i default).f = a
    · by_cases hs : (E.getD i default).t ∈ seen
      · refine (ih (i + 1) may (by omega) (by omega) (by omega) hm).step fun k => ?_
        simp only [billetlaw07_Ways.l3]; rw [if_pos c1, if_pos c2, g0, if_pos hf, g1, if_pos e2.1, if_pos (by rw [hsl]; exact e2.2), seen_rd e2, if_pos (decide_eq_true hs), C3.out]
      · refine (ih (i + 1) (may ++ [(i : Int)]) (by omega) (by omega) (by rw [List.length_append]; simp; omega) (fun m hmm => ?_)).step fun k => ?_
        · rcases List.mem_append.1 hmm with h | h
          · exact hm m h
          · rw [List.mem_singleton.1 h]; exact ⟨i, rfl, hlt, hf, hs⟩
        · simp only [billetlaw07_Ways.l3]; rw [if_pos c1, if_pos c2, g0, if_pos hf, g1, if_pos e2.1, if_pos (by rw [hsl]; exact e2.2), seen_rd e2, if_neg (by rw [decide_eq_false hs]; decide), if_pos (by omega), C3.out]
    · refine (ih (i + 1) may (by omega) (by omega) (by omega) hm).step fun k => ?_
      simp only [billetlaw07_Ways.l3]; rw [if_pos c1, if_pos c2, g0, if_neg hf, C3.out]
/-- What has been made so far. -/
def WOk (N : Nat) (E : List Ed) (src : Int) (w : S44) : Prop := WayOk N E 0 1 src (w.f0, w.f1)
set_option maxHeartbeats 1000000 in
theorem l2_good (hN : NetOk N E) (hE9 : N ≤ 9) {x7 : List (List S44)} {x8 x10 src : Int} {ct : Int} (hct : 0 ≤ ct ∧ ct ≤ 6)
    (H : ∀ x9 : List S44, x9.length ≤ (x10 + 1).toNat → (∀ w ∈ x9, WOk N E src w) → Good P (fun k => billetlaw07_Ways.l1 k o raw x7 x8 x9 (wrap64 (x10 + 1)) N (E.map Ed.toS))) (hx10 : 0 ≤ x10 ∧ x10 ≤ 10)
    (x9 : List S44) (h9l : x9.length ≤ x10.toNat) (h9 : ∀ w ∈ x9, WOk N E src w) :
    ∀ (d : Nat) (x11 : Int) (seen : List Int) (a : Int) (es : List Int), N + 1 - seen.length = d → 0 ≤ x11 ∧ x11 ≤ 1048576 → Part N E src seen a es →
      Good P (fun k => billetlaw07_Ways.l2 k o raw x7 x8 x9 x10 x11 (seenOf N seen) a N (E.map Ed.toS) es ct) := by
  intro d
  have hEl := hN.2.2.1
  induction d with
  | zero =>
    intro x11 seen a es hd hx hp
    have := nodup_len hp.nodup hp.within
    omega
  | succ d ih =>
    intro x11 seen a es hd hx hp
    have hsl := nodup_len hp.nodup hp.within
    have hl := hp.len
    by_cases ha : a = 1
    · subst ha
      have hw : WOk N E src ⟨es, ct⟩ := by
        refine ⟨by show ((es.length : Nat) : Int) ≤ N; omega, ⟨hct.1, by show ct ≤ 1000; omega⟩, hp.hd, ?_⟩
        have := hp.on [] rfl
        rwa [List.append_nil] at this
      refine (H (x9 ++ [⟨es, ct⟩]) (by rw [List.length_append]; simp; omega) (fun w hw' => ?_)).step fun k => ?_
      · rcases List.mem_append.1 hw' with h | h
        · exact h9 w h
        · rw [List.mem_singleton.1 h]; exact hw
      · simp only [billetlaw07_Ways.l2]; rw [if_pos trivial, if_pos (by omega)]
    · refine Good.step (g := fun k => billetlaw07_Ways.l3 k o raw x7 x8 x9 x10 x11 (seenOf N seen) a [] ((0 : Nat) : Int) N (E.map Ed.toS) es ct) ?_ (fun k => by simp only [billetlaw07_Ways.l2]; rw [if_neg ha]; rfl)
      refine l3_good hN (fun may hmay => ?_) _ 0 [] rfl (Nat.zero_le _) (Nat.le_refl _) (fun m hm => absurd hm (by simp))
      have c1 : ¬ ((E.length : Int) < ((E.map Ed.toS).length : Int)) := by rw [List.length_map]; omega
      by_cases h0 : (may.length : Int) = 0
      · refine (H x9 (by omega) h9).step fun k => ?_
        simp only [billetlaw07_Ways.l3]; rw [if_neg c1, if_pos h0, if_neg ha]
      · have hpos : (0 : Int) < (may.length : Int) := by omega
        have t0 : 0 ≤ Int.tmod x11 (may.length : Int) := Int.tmod_nonneg _ hx.1
        have t1 : Int.tmod x11 (may.length : Int) < (may.length : Int) := Int.tmod_lt_of_pos _ hpos
        obtain ⟨q, hq⟩ : ∃ q : Nat, Int.tmod x11 (may.length : Int) = q := ⟨(Int.tmod x11 (may.length : Int)).toNat, by omega⟩
        have hql : q < may.length := by omega
        have hqm : may.getD q 0 ∈ may := by rw [List.getD_eq_getElem?_getD, List.getElem?_eq_getElem hql]; exact List.getElem_mem hql
        obtain ⟨j, hj, hjl, hjf, hjs⟩ := hmay _ hqm
        have hrd : rd may (Int.tmod x11 (may.length : Int)) = (j : Int) := by
          rw [hq]; unfold rd; rw [Int.toNat_natCast]; exact hj
        have hmem : E.getD j default ∈ E := by rw [List.getD_eq_getElem?_getD, List.getElem?_eq_getElem hjl]; exact List.getElem_mem hjl
        obtain ⟨e1, e2, e3, e4, e5⟩ := hN.2.2.2 _ hmem
        have g1 : (rd_T50 (E.map Ed.toS) (j : Int)).f1 = (E.getD j default).t := by rw [rdS E j hjl]; rfl
        obtain ⟨v, hv⟩ : ∃ v : Nat, (E.getD j default).t = v := ⟨(E.getD j default).t.toNat, by omega⟩
        have hvN : v < N := by omega
        have hset : (seenOf N seen).set (((E.getD j default).t : Int).toNat) true = seenOf N ((E.getD j default).t :: seen) := by
          rw [hv, Int.toNat_natCast, seenOf_cons _ _ _ hvN]
        have HDIV := Lib.hid (show wrap64 (Int.tdiv x11 2) = x11 / 2 by rw [Int.tdiv_eq_ediv_of_nonneg hx.1, wrap_id (by omega)])
        have hsn : (seenOf N seen).length = N := seenOf_len _ _
        refine (ih (x11 / 2) ((E.getD j default).t :: seen) (E.getD j default).t (es ++ [(j : Int)]) (by rw [List.length_cons]; omega) (by omega) ?_).step fun k => ?_
        · refine ⟨fun rest hr => ?_, ?_, by rw [List.length_append, List.length_cons]; simp; omega, List.nodup_cons.2 ⟨hjs, hp.nodup⟩, fun u hu => ?_, List.mem_cons_self⟩
          · rw [List.append_assoc]
            refine hp.on _ ?_
            show SrcOk E a (j : Int) ∧ _
            rw [Int.toNat_natCast]
            exact ⟨⟨by omega, by omega, by rw [Int.toNat_natCast]; exact hjf⟩, hjs, hr⟩
          · have := hp.hd
            rcases es with _ | ⟨b, es⟩
            · cases this
            · exact this
          · rcases List.mem_cons.1 hu with rfl | hu
            · exact e2
            · exact hp.within u hu
        · simp only [billetlaw07_Ways.l3]; rw [if_neg c1, if_neg h0, if_pos t0, if_pos t1, if_pos (by omega), hrd, if_pos (by omega), if_pos (by rw [List.length_map]; omega), g1, if_pos e2.1, if_pos (by rw [hsn]; exact e2.2), hset, HDIV.out]
theorem wrap_succ {j : Nat} (h : j ≤ 1000) : wrap64 ((j : Int) + 1) = ((j + 1 : Nat) : Int) := by rw [wrap_id (by omega)]; omega
theorem pickf_good {a : Int} (h1 : -9223372036854775808 ≤ a) (h2 : a ≤ 9223372036854775807) : ∃ t, billetlaw07_pick.f a 1048576 = some t ∧ 0 ≤ t ∧ t < 1048576 := by
  unfold billetlaw07_pick.f
  by_cases h : a < 0
  · rw [if_pos h, if_neg (by decide)]
    refine ⟨_, rfl, ?_⟩
    rw [wrap_id (x := a + 1) (by omega), wrap_id (by omega)]
    exact ⟨Int.tmod_nonneg _ (by omega), Int.tmod_lt_of_pos _ (by decide)⟩
  · rw [if_neg h, if_neg (by decide)]
    exact ⟨_, rfl, Int.tmod_nonneg _ (by omega), Int.tmod_lt_of_pos _ (by decide)⟩
theorem l1_good (hN : NetOk N E) (hN9 : N ≤ 9) (hb : ∀ l ∈ raw, ∀ n ∈ l, -9223372036854775808 ≤ n ∧ n ≤ 9223372036854775807) {x7 : List (List S44)} (h7 : x7.length ≤ 1000) {i : Nat} (hio : i < o.length) (hir : i < raw.length) (hsrc : SrcOk E 0 (o.getD i 0)) (hi1000 : i ≤ 1000)
    (H : ∀ x9 : List S44, (∀ w ∈ x9, WOk N E (o.getD i 0) w) → Good P (fun k => billetlaw07_Ways.l0 k o raw (x7 ++ [x9]) (wrap64 ((i : Int) + 1)) N (E.map Ed.toS))) :
    ∀ (d j : Nat) (x9 : List S44), 6 - j = d → j ≤ 6 → x9.length ≤ j → (∀ w ∈ x9, WOk N E (o.getD i 0) w) → Good P (fun k => billetlaw07_Ways.l1 k o raw x7 i x9 j N (E.map Ed.toS)) := by
  have hE := hN.2.2.1
  have hN2 := hN.1
  have c1 : (0 : Int) ≤ (i : Int) := by omega
  have c2 : (i : Int) < (raw.length : Int) := by omega
  have hout : ∀ (x9 : List S44) (j : Nat), (∀ w ∈ x9, WOk N E (o.getD i 0) w) → Good P (fun k => billetlaw07_Ways.j3 k o raw x7 i x9 j false N (E.map Ed.toS)) := fun x9 j h9 =>
    (H x9 h9).step fun k => by
      simp only [billetlaw07_Ways.j3]
      rw [if_neg (by decide), if_pos (by omega)]
  intro d
  induction d with
  | zero =>
    intro j x9 hd hj hl h9
    obtain rfl : j = 6 := by omega
    refine (hout x9 6 h9).step fun k => ?_
    simp only [billetlaw07_Ways.l1]
    rw [if_pos c1, if_pos c2]
    split
    · rw [show decide (((6 : Nat) : Int) < 6) = false by decide]
    · rfl
  | succ d ih =>
    intro j x9 hd hj hl h9
    by_cases hjl : (j : Int) < ((rd_L2 raw (i : Int)).length : Int)
    · refine Good.step (g := fun k => billetlaw07_Ways.j3 k o raw x7 i x9 j true N (E.map Ed.toS)) ?_ (fun k => by
        simp only [billetlaw07_Ways.l1]
        rw [if_pos c1, if_pos c2, if_pos hjl, decide_eq_true (show (j : Int) < 6 by omega)])
      have hrl : rd_L2 raw (i : Int) ∈ raw := by
        unfold rd_L2
        rw [Int.toNat_natCast, List.getD_eq_getElem?_getD, List.getElem?_eq_getElem hir]
        exact List.getElem_mem hir
      have hrm : rd (rd_L2 raw (i : Int)) (j : Int) ∈ rd_L2 raw (i : Int) := by
        unfold rd
        rw [Int.toNat_natCast, List.getD_eq_getElem?_getD, List.getElem?_eq_getElem (by omega)]
        exact List.getElem_mem _
      obtain ⟨b1, b2⟩ := hb _ hrl _ hrm
      obtain ⟨t, ht, t0, t1⟩ := pickf_good b1 b2
      obtain ⟨s0, s1, s2⟩ := hsrc
      obtain ⟨q, hq⟩ : ∃ q : Nat, o.getD i 0 = q := ⟨(o.getD i 0).toNat, by omega⟩
      have hro : rd o (i : Int) = (q : Int) := by unfold rd; rw [Int.toNat_natCast]; exact hq
      have hqE : q < E.length := by omega
      have hqf : (E.getD q default).f = 0 := by rw [hq, Int.toNat_natCast] at s2; exact s2
      have hmem : E.getD q default ∈ E := by rw [List.getD_eq_getElem?_getD, List.getElem?_eq_getElem hqE]; exact List.getElem_mem hqE
      obtain ⟨e1, e2, e3, e4, e5⟩ := hN.2.2.2 _ hmem
      have g1 : (rd_T50 (E.map Ed.toS) (q : Int)).f1 = (E.getD q default).t := by rw [rdS E q hqE]; rfl
      obtain ⟨v, hv⟩ : ∃ v : Nat, (E.getD q default).t = v := ⟨(E.getD q default).t.toNat, by omega⟩
      have hrep : (List.replicate ((N : Int)).toNat false : List Bool) = seenOf N [] := by rw [Int.toNat_natCast, seenOf_nil]
      have hset : ((seenOf N []).set ((0 : Int)).toNat true).set (((E.getD q default).t : Int)).toNat true = seenOf N [(E.getD q default).t, 0] := by
        rw [show ((0 : Int)).toNat = 0 from rfl, ← seenOf_cons N [] 0 (by omega), hv, Int.toNat_natCast, ← seenOf_cons N _ v (by omega)]
        rfl
      have hsn : ((seenOf N []).length : Int) = N := by rw [seenOf_len]
      have hm0 : 0 ≤ Int.tmod t 7 ∧ Int.tmod t 7 ≤ 6 := by
        have h1 : 0 ≤ Int.tmod t 7 := Int.tmod_nonneg 7 t0
        have h2 : Int.tmod t 7 < 7 := Int.tmod_lt_of_pos t (by decide)
        exact ⟨h1, by omega⟩
      have hpart : Part N E (o.getD i 0) [(E.getD q default).t, 0] (E.getD q default).t [(q : Int)] := by
        refine ⟨fun rest hr => ?_, by rw [hq]; rfl, rfl, ?_, fun u hu => ?_, List.mem_cons_self⟩
        · show SrcOk E 0 (q : Int) ∧ _
          rw [Int.toNat_natCast]
          exact ⟨⟨by omega, by omega, by rw [Int.toNat_natCast]; exact hqf⟩, fun h => e3 (by rw [List.mem_singleton.1 h]; exact hqf), hr⟩
        · rw [List.nodup_cons]
          exact ⟨fun h => e3 (by rw [List.mem_singleton.1 h]; exact hqf), by simp⟩
        · rcases List.mem_cons.1 hu with rfl | hu
          · exact e2
          · rw [List.mem_singleton.1 hu]; omega
      refine (l2_good (o := o) (raw := raw) (P := P) hN hN9 hm0 (x7 := x7) (x8 := (i : Int)) (x10 := (j : Int)) (fun x9' hl' h9' => ?_) (by omega) x9 (by omega) h9 _ t [(E.getD q default).t, 0] _ [(q : Int)] rfl (by omega) hpart).step fun k => ?_
      · rw [wrap_succ (by omega)]
        exact ih (j + 1) x9' (by omega) (by omega) (by omega) h9'
      · simp only [billetlaw07_Ways.j3]
        rw [if_pos trivial, if_pos c1, if_pos c2, if_pos (by omega), if_pos hjl, ht]
        simp only [Option.bind_some]
        rw [if_pos (by omega), if_pos (by omega), if_pos (by omega), hrep, if_pos (by rw [hsn]; omega), hro, if_pos (by omega), if_pos (by rw [List.length_map]; omega), g1, if_pos e2.1, if_pos (by rw [hsn]; exact e2.2), hset]
    · refine (hout x9 j h9).step fun k => ?_
      simp only [billetlaw07_Ways.l1]
      rw [if_pos c1, if_pos c2, if_neg hjl]
/-- What Ways makes. -/
def WaysAns (N : Nat) (E : List Ed) (o : List Int) (r : List (List S44)) : Prop := r.length ≤ o.length ∧ ∀ i, i < r.length → ∀ w ∈ r.getD i [], WOk N E (o.getD i 0) w
theorem l0_good (hN : NetOk N E) (hN9 : N ≤ 9) (hb : ∀ l ∈ raw, ∀ n ∈ l, -9223372036854775808 ≤ n ∧ n ≤ 9223372036854775807) (ho : (∀ i ∈ o, SrcOk E 0 i) ∧ o.length ≤ E.length) :
    ∀ (d : Nat) (x7 : List (List S44)), o.length - x7.length = d → WaysAns N E o x7 → Good (WaysAns N E o) (fun k => billetlaw07_Ways.l0 k o raw x7 x7.length N (E.map Ed.toS)) := by
  have hE := hN.2.2.1
  have hend : ∀ x7, WaysAns N E o x7 → Good (WaysAns N E o) (fun k => billetlaw07_Ways.j1 k o raw x7 x7.length false N (E.map Ed.toS)) := fun x7 h7 =>
    Good.now x7 h7 fun k => by simp only [billetlaw07_Ways.j1]; rw [if_neg (by decide)]
  intro d
  induction d with
  | zero =>
    intro x7 hd h7
    refine (hend x7 h7).step fun k => ?_
    simp only [billetlaw07_Ways.l0]
    rw [if_neg (by omega)]
  | succ d ih =>
    intro x7 hd h7
    have hio : x7.length < o.length := by omega
    by_cases hir : x7.length < raw.length
    · have hm : o.getD x7.length 0 ∈ o := by rw [List.getD_eq_getElem?_getD, List.getElem?_eq_getElem hio]; exact List.getElem_mem hio
      refine Good.step (g := fun k => billetlaw07_Ways.j1 k o raw x7 x7.length true N (E.map Ed.toS)) ?_ (fun k => by
        simp only [billetlaw07_Ways.l0]
        rw [if_pos (by omega), decide_eq_true (show (x7.length : Int) < (raw.length : Int) by omega)])
      refine Good.step (g := fun k => billetlaw07_Ways.l1 k o raw x7 x7.length [] ((0 : Nat) : Int) N (E.map Ed.toS)) ?_ (fun k => by
        simp only [billetlaw07_Ways.j1]
        rw [if_pos trivial]; rfl)
      refine l1_good hN hN9 hb (by omega) hio hir (ho.1 _ hm) (by omega) (fun x9 h9 => ?_) 6 0 [] rfl (by omega) (Nat.le_refl _) (fun w hw => absurd hw (by simp))
      have hnew : WaysAns N E o (x7 ++ [x9]) := by
        refine ⟨by rw [List.length_append]; simp; omega, fun i hi w hw => ?_⟩
        rw [List.length_append] at hi
        by_cases h : i < x7.length
        · rw [List.getD_eq_getElem?_getD, List.getElem?_append_left h, ← List.getD_eq_getElem?_getD] at hw
          exact h7.2 i h w hw
        · obtain rfl : i = x7.length := by simp at hi; omega
          rw [List.getD_eq_getElem?_getD, List.getElem?_append_right (Nat.le_refl _), Nat.sub_self] at hw
          exact h9 w hw
      rw [wrap_succ (by omega)]
      have := ih (x7 ++ [x9]) (by rw [List.length_append]; simp; omega) hnew
      rwa [List.length_append, List.length_singleton] at this
    · refine (hend x7 h7).step fun k => ?_
      simp only [billetlaw07_Ways.l0]
      rw [if_pos (by omega), decide_eq_false (show ¬ (x7.length : Int) < (raw.length : Int) by omega)]
/-- The statement's Ways. -/
theorem ways_good (hN : NetOk N E) (hN9 : N ≤ 9) (hb : ∀ l ∈ raw, ∀ n ∈ l, -9223372036854775808 ≤ n ∧ n ≤ 9223372036854775807) (ho : (∀ i ∈ o, SrcOk E 0 i) ∧ o.length ≤ E.length) :
    ∃ k r, WaysAns N E o r ∧ billetlaw07_Ways.f k N (E.map Ed.toS) o raw = some r := by
  obtain ⟨K, r, hr, h⟩ := l0_good hN hN9 hb ho o.length [] rfl ⟨Nat.zero_le _, fun i hi => absurd hi (Nat.not_lt_zero i)⟩
  exact ⟨K, r, hr, h K (Nat.le_refl _)⟩
end
end Go.Proofs.Ytlpccebackmahaa
/- The print's rows, read in our words and the other way round. -/
set_option linter.unusedVariables false
set_option linter.unusedSimpArgs false
namespace Go.Proofs.Ytlpccebackmahaa
open PW Go.RowKit Go.Proofs.YtlpccebackmahaaW.PrintWords Go.WideShapes

theorem C_of_rowAt {α : Type} {d : Kd α} {W : World} {A : Option Addr} {xs : List α} (h : RowAt (d.K W) d.sz W A xs) (hm : xs.length ≤ maxLen) : Kd.C d W A xs.length xs := by
  refine ⟨rfl, by unfold maxLen at hm; omega, fun hp => ?_⟩
  obtain ⟨bk, off, rfl, _⟩ := h 0 hp
  refine ⟨⟨bk, off, none⟩, rfl, fun j p hj => ?_⟩
  obtain ⟨hlt, rfl⟩ := List.getElem?_eq_some_iff.1 hj
  obtain ⟨bk', off', e, _, cs, h1, h2, h3⟩ := h j hlt
  cases e
  refine ⟨cs, h2, h1, fun i u hu => ?_⟩
  rw [Addr.add_lit, ← Nat.add_assoc]
  exact h3 i u hu
theorem rowAt_of_C {α : Type} {d : Kd α} {W : World} {A : Option Addr} {xs : List α} (hpos : 0 < d.sz) (h : Kd.C d W A xs.length xs) : RowAt (d.K W) d.sz W A xs := by
  intro i hi
  obtain ⟨ad, rfl, hh⟩ := h.2.2 (by omega)
  obtain ⟨cs, h1, h2, h3⟩ := hh i _ (List.getElem?_eq_getElem hi)
  have hs : ad.spot = none := by
    obtain ⟨cs0, g1, _, g3⟩ := hh 0 _ (List.getElem?_eq_getElem (by omega))
    have := spot_none (g3 0 _ (List.getElem?_eq_getElem (by omega)))
    simp only [Nat.zero_mul] at this
    unfold Addr.add at this
    simpa using this
  have hc := h3 0 _ (List.getElem?_eq_getElem (show 0 < cs.length by omega))
  rw [add_eq hs] at hc
  refine ⟨ad.block, ad.off, ?_, cell_lt (a := ⟨ad.block, ad.off + (i * d.sz + 0), none⟩) hc, cs, h2, h1, fun j v hj => ?_⟩
  · obtain ⟨b, o, s⟩ := ad; simp only at hs; subst hs; rfl
  · have := h3 j v hj
    rw [add_eq hs, ← Nat.add_assoc] at this
    exact this
theorem CI_of_reads {W : World} {A : Option Addr} {xs : List Int} (h : ReadsI W A xs) : Kd.C (Kd.int .i64) W A xs.length xs := by
  refine C_of_rowAt (fun i hi => ?_) h.len
  obtain ⟨bk, off, h1, h2, h3⟩ := h.cell i hi
  rw [List.getD_eq_getElem?_getD, List.getElem?_eq_getElem hi] at h3
  refine ⟨bk, off, h1, h2, _, rfl, rfl, fun j v hj => ?_⟩
  rcases j with _ | j
  · cases hj
    rw [show off + i * (Kd.int .i64).sz + 0 = off + i from by show off + i * 1 + 0 = off + i; omega]
    exact h3
  · simp at hj
theorem readsI_of_C {W : World} {A : Option Addr} {xs : List Int} (h : Kd.C (Kd.int .i64) W A xs.length xs) : ReadsI W A xs := by
  refine ⟨fun i hi => ?_, by have := h.2.1; unfold maxLen; omega⟩
  obtain ⟨bk, off, h1, h2, cs, h3, h4, h5⟩ := rowAt_of_C (d := Kd.int .i64) (by decide) h i hi
  have h3' : cs = [.int .i64 xs[i]] := h3
  subst h3'
  have := h5 0 _ rfl
  rw [show off + i * (Kd.int .i64).sz + 0 = off + i from by show off + i * 1 + 0 = off + i; omega] at this
  rw [List.getD_eq_getElem?_getD, List.getElem?_eq_getElem hi]
  exact ⟨bk, off, h1, h2, this⟩
theorem CE_of_reads {W : World} {A : Option Addr} {E : List Ed} (h : ReadsE W A E) : Kd.C k50 W A (E.map Ed.toS).length (E.map Ed.toS) := by
  refine C_of_rowAt (fun i hi => ?_) (by rw [List.length_map]; exact h.len)
  have hi2 : i < E.length := by rw [List.length_map] at hi; exact hi
  obtain ⟨bk, off, h1, h2, h3, h4, h5⟩ := h.cell i hi2
  rw [List.getD_eq_getElem?_getD, List.getElem?_eq_getElem hi2] at h3 h4 h5
  rw [List.getElem_map]
  refine ⟨bk, off, h1, h2, _, k50_mk W _, rfl, fun j v hj => ?_⟩
  show W.cell? ⟨bk, off + i * 3 + j, none⟩ = some v
  match j, hj with
  | 0, hj => cases hj; exact h3
  | 1, hj => cases hj; exact h4
  | 2, hj => cases hj; exact h5
def planeOf (s : S44) : List Int × Int := (s.f0, s.f1)
theorem readsW_of_C {W : World} {A : Option Addr} {l : List S44} (h : Kd.C k44 W A l.length l) : ∃ ws : List WayR0, ws.length = l.length ∧ ws.map WayR0.plain = l.map planeOf ∧ ReadsW W A ws := by
  have hr := rowAt_of_C (d := k44) (by decide) h
  obtain ⟨ws, hl, hw⟩ := choose_list (fun i (x : WayR0) => (∃ hi : i < l.length, x.plain = planeOf l[i]) ∧ ReadsI W x.eA x.es ∧ ∃ bk off, A = some ⟨bk, off, none⟩ ∧ bk < W.heap.size ∧ W.cell? ⟨bk, off + i * 2, none⟩ = some (.slice x.eA x.es.length x.ec) ∧ W.cell? ⟨bk, off + i * 2 + 1, none⟩ = some (.int .i64 x.count)) l.length (fun i hi => by
    obtain ⟨bk, off, h1, h2, cs, h3, h4, h5⟩ := hr i hi
    obtain ⟨A0, c0, rfl, _, hC⟩ := k44_open h3
    refine ⟨⟨l[i].f0, l[i].f1, A0, c0⟩, ⟨hi, rfl⟩, readsI_of_C hC, bk, off, h1, h2, h5 0 _ rfl, h5 1 _ rfl⟩)
  refine ⟨ws, hl, ?_, ⟨fun i hi => ?_, fun x hx => ?_, ?_⟩⟩
  · apply List.ext_getElem (by rw [List.length_map, List.length_map, hl])
    intro i h1 h2
    rw [List.length_map] at h1
    obtain ⟨⟨hi, he⟩, _⟩ := hw i h1
    rw [List.getElem_map, List.getElem_map]
    exact he
  · obtain ⟨_, _, bk, off, h1, h2, h3, h4⟩ := hw i hi
    rw [List.getD_eq_getElem?_getD, List.getElem?_eq_getElem hi]
    exact ⟨bk, off, h1, h2, h3, h4⟩
  · obtain ⟨i, hi, rfl⟩ := List.getElem_of_mem hx
    exact (hw i hi).2.1
  · have := h.2.1; unfold maxLen; omega
def plainsOf (r : List (List S44)) : List (List (List Int × Int)) := r.map fun l => l.map planeOf
theorem readsWW_of_C {W : World} {A : Option Addr} {r : List (List S44)} (h : Kd.C (Kd.slice 44 k44) W A r.length r) : ∃ ls : List WayL, ls.length = r.length ∧ plainWays ls = plainsOf r ∧ ReadsWW W A ls := by
  have hr := rowAt_of_C (d := Kd.slice 44 k44) (by decide) h
  obtain ⟨ls, hl, hw⟩ := choose_list (fun i (x : WayL) => (∃ hi : i < r.length, x.plain = r[i].map planeOf) ∧ ReadsW W x.wA x.ws ∧ ∃ bk off, A = some ⟨bk, off, none⟩ ∧ bk < W.heap.size ∧ W.cell? ⟨bk, off + i, none⟩ = some (.slice x.wA x.ws.length x.wc)) r.length (fun i hi => by
    obtain ⟨bk, off, h1, h2, cs, ⟨A0, c0, h3, _, hC⟩, h4, h5⟩ := hr i hi
    subst h3
    obtain ⟨ws, g1, g2, g3⟩ := readsW_of_C hC
    refine ⟨⟨ws, A0, c0⟩, ⟨hi, g2⟩, g3, bk, off, h1, h2, ?_⟩
    have := h5 0 _ rfl
    rw [show off + i * (Kd.slice 44 k44).sz + 0 = off + i from by show off + i * 1 + 0 = off + i; omega] at this
    show W.cell? ⟨bk, off + i, none⟩ = some (.slice A0 ws.length c0)
    rw [g1]
    exact this)
  refine ⟨ls, hl, ?_, ⟨fun i hi => ?_, fun x hx => ?_, ?_⟩⟩
  · apply List.ext_getElem (by rw [plainWays, plainsOf, List.length_map, List.length_map, hl])
    intro i h1 h2
    rw [plainWays, List.length_map] at h1
    obtain ⟨⟨hi, he⟩, _⟩ := hw i h1
    simp only [plainWays, plainsOf, List.getElem_map]
    exact he
  · obtain ⟨_, _, bk, off, h1, h2, h3⟩ := hw i hi
    rw [List.getD_eq_getElem?_getD, List.getElem?_eq_getElem hi]
    exact ⟨bk, off, h1, h2, h3⟩
  · obtain ⟨i, hi, rfl⟩ := List.getElem_of_mem hx
    exact (hw i hi).2.1
  · have := h.2.1; unfold maxLen; omega
end Go.Proofs.Ytlpccebackmahaa
/- Layer 7: the statement's Ways, in our words; raw ways opened. -/
set_option linter.unusedVariables false
set_option linter.unusedSimpArgs false
namespace Go.Proofs.Ytlpccebackmahaa
open PW Go.ChangeShapes Go.WideShapes Go.ChangeAt Go.RowKit Go.WideMaps Go.WideElems Go.Deep Go.Proofs.YtlpccebackmahaaW.PrintWords

theorem getD_map {α β : Type} (f : α → β) (l : List α) (d : α) (d' : β) (h : f d = d') (i : Nat) : (l.map f).getD i d' = f (l.getD i d) := by
  rw [List.getD_eq_getElem?_getD, List.getElem?_map, List.getD_eq_getElem?_getD]
  cases l[i]? with
  | none => exact h.symm
  | some x => rfl
set_option maxRecDepth 100000 in
theorem ways_any (M : Int) (A B C : Option Addr) (c d cr : Nat) (E : List Ed) (o : List Int) (raw : List (List Int)) (w : World) (hE : ReadsE w A E) (hO : ReadsI w B o) (hR : Kd.C (Kd.slice 3 (Kd.int .i64)) w C raw.length raw) (hc : E.length ≤ c) (hd : o.length ≤ d) (hcr : raw.length ≤ cr)
    (hN : NetOk M E) (hM : M ≤ 9) (hb : ∀ l ∈ raw, ∀ n ∈ l, i64ok n) (hF : FormOk M E 0 1 o []) :
    Calls Try.prog 16 #[.agg #[.int .i64 M, .slice A E.length c], .slice B o.length d, .slice C raw.length cr] w fun e w' => ∃ D cw ls, e = .returned (.slice D (List.length ls) cw) ∧ ReadsWW w' D ls ∧ FormOk M E 0 1 o (plainWays ls) ∧ Kept w w' := by
  obtain ⟨n, rfl⟩ : ∃ n : Nat, M = n := ⟨M.toNat, by have := hN.1; omega⟩
  obtain ⟨k, r, hr, hk⟩ := ways_good (N := n) (E := E) (o := o) (raw := raw) hN (by omega) hb ⟨hF.1.2.2.2.2.2.2, hF.1.2.2.2.2.1⟩
  have hCE := CE_of_reads hE
  have hcall := billetlaw07_Ways.calls k (n : Int) A c (E.map Ed.toS) B d o C cr raw r w hCE (by rw [List.length_map]; exact hc) (CI_of_reads hO) hd hR hcr hk
  rw [List.length_map] at hcall
  refine hcall.mono ?_
  rintro e w' ⟨v, rfl, hv, hbel⟩
  obtain ⟨D, cw, rfl, _, hC⟩ := Kd.R_reads hv
  obtain ⟨ls, h1, h2, h3⟩ := readsWW_of_C hC
  refine ⟨D, cw, ls, by rw [h1], h3, ?_, Only.of_below hbel⟩
  rw [h2]
  refine ⟨hF.1, by rw [plainsOf, List.length_map]; exact hr.1, fun i hi x hx => ?_⟩
  rw [plainsOf, List.length_map] at hi
  rw [plainsOf, getD_map (fun l => l.map planeOf) r [] [] rfl] at hx
  obtain ⟨s, hs, rfl⟩ := List.mem_map.1 hx
  exact hr.2 i hi s hs
section
variable {H : Type} {enc : TypeId × Value → H} {W : World} {base base' : Nat} {sp : Nat → Bool} {held : Bool}
set_option maxRecDepth 100000 in
theorem open_rawV {v : Value} {d : DataW H} {p : List MemPlace} (hval : Value.okWide Try.prog W .any base 33 v) (h : DataW.Trod enc Try.prog W base' sp held 33 v d p) :
    ∃ A c xs, v = .slice A xs.length c ∧ Kd.C (Kd.slice 3 (Kd.int .i64)) W A xs.length xs ∧ xs.length ≤ c ∧ ∀ l ∈ xs, ∀ n ∈ l, i64ok n := by
  obtain ⟨a0, len0, cap0, rfl⟩ := okWide_slice Try.underlying33 hval
  obtain ⟨fuel, hf⟩ := h
  have k : Try.prog.cellsOf 25 = 1 := by kernel_rfl
  obtain ⟨A, c, xs, h1, h2, h3, h4, h5⟩ := open_row (fun (l : List Int) cs => (Kd.slice 3 (Kd.int .i64)).K W l cs ∧ ∀ n ∈ l, i64ok n) Try.underlying33 (by rw [k]; decide) (fun n cs x hx hl => by
    obtain ⟨A, c, l, h1, h2, h3, h4, h5⟩ := open_ints0 hx
    exact ⟨l, ⟨A, c, h1, h3, CI_of_reads h2⟩, h5⟩) hf
  simp [Value.cells] at h1
  obtain ⟨rfl, rfl, rfl⟩ := h1
  rw [k] at h5
  refine ⟨_, _, xs, rfl, C_of_rowAt (d := Kd.slice 3 (Kd.int .i64)) (fun i hi => ?_) h3, h2, fun l hl => ?_⟩
  · obtain ⟨bk, off, g1, g2, cs', ⟨g3, _⟩, g4, g5⟩ := h5 i hi
    exact ⟨bk, off, g1, g2, cs', g3, g4, g5⟩
  · obtain ⟨i, hi, rfl⟩ := List.getElem_of_mem hl
    obtain ⟨_, _, _, _, _, ⟨_, h⟩, _⟩ := h5 i hi
    exact h
end
end Go.Proofs.Ytlpccebackmahaa
/- Layer 7: LexTotal walked. -/
set_option linter.unusedVariables false
set_option linter.unusedSimpArgs false
namespace Go.Proofs.Ytlpccebackmahaa
open Go.RowKit

theorem got_range {N : Int} {E : List Ed} {s t : Int} {o : List Int} {ws : List (List (List Int × Int))} (h : FormOk N E s t o ws) : ∀ x ∈ gotR o (flowR N E s t o ws), 0 ≤ x ∧ x ≤ 1000 := by
  intro x hx
  have T := h.1.lexT
  have hf := (h.inv o.length (Nat.le_refl _)).ok.full (fun i hi => (T.caps i hi).1)
  obtain ⟨i, hi, rfl⟩ := List.mem_map.1 hx
  obtain ⟨s0, s1, _⟩ := h.1.2.2.2.2.2.2 i hi
  have hl : i.toNat < E.length := by omega
  have h1 := hf.fit i.toNat hl
  have h2 := T.caps i.toNat hl
  exact ⟨h1.1, Int.le_trans h1.2 h2.2⟩
theorem sum_range {l : List Int} (h : ∀ x ∈ l, 0 ≤ x ∧ x ≤ 1000) : 0 ≤ l.sum ∧ l.sum ≤ 1000 * l.length := by
  induction l with
  | nil => simp
  | cons a l ih =>
    obtain ⟨a1, a2⟩ := h a List.mem_cons_self
    obtain ⟨b1, b2⟩ := ih (fun x hx => h x (List.mem_cons_of_mem _ hx))
    rw [List.sum_cons, List.length_cons]
    omega
theorem sum_take_succ (l : List Int) (k : Nat) (hk : k < l.length) : (l.take (k + 1)).sum = (l.take k).sum + l.getD k 0 := by
  rw [List.take_add_one, List.getElem?_eq_getElem hk, List.sum_append, List.getD_eq_getElem?_getD, List.getElem?_eq_getElem hk]
  simp
theorem sum_take_range {l : List Int} (h : ∀ x ∈ l, 0 ≤ x ∧ x ≤ 1000) (hl : l.length ≤ 300) (k : Nat) : 0 ≤ (l.take k).sum ∧ (l.take k).sum ≤ 300000 := by
  have h1 := sum_range (l := l.take k) (fun x hx => h x (List.mem_of_mem_take hx))
  rw [List.length_take] at h1
  omega
set_option maxHeartbeats 4000000 in
set_option maxRecDepth 100000 in
theorem lexTotal_any (N : Int) (A B C D : Option Addr) (c d d2 cr : Nat) (E : List Ed) (raw raw2 : List Int) (rw3 : List (List Int)) (w : World) (hE : ReadsE w A E) (hR : ReadsI w B raw) (hR2 : ReadsI w C raw2) (hR3 : Go.Proofs.YtlpccebackmahaaW.PrintWords.Kd.C (Go.Proofs.YtlpccebackmahaaW.PrintWords.Kd.slice 3 (Go.Proofs.YtlpccebackmahaaW.PrintWords.Kd.int .i64)) w D rw3.length rw3) (hcr : rw3.length ≤ cr)
    (hN : i64ok N) (hb : ∀ e ∈ E, e.Ok) (hrb : ∀ n ∈ raw, i64ok n) (hrb2 : ∀ n ∈ raw2, i64ok n) (hrb3 : ∀ l ∈ rw3, ∀ n ∈ l, i64ok n) :
    Calls Try.prog 8 #[.agg #[.int .i64 N, .slice A E.length c], .slice B raw.length d, .slice C raw2.length d2, .slice D rw3.length cr] w fun e w' => e = .returned (.bool true) ∧ Kept w w' := by
  have lR := hR.len
  unfold maxLen at lR
  have HE := Lib.hid hE
  have HR := Lib.hid hR
  have HR2 := Lib.hid hR2
  have HR3 := Lib.hid hR3
  have HEB := Lib.hid hb
  have HRB := Lib.hid hrb
  have HRB2 := Lib.hid hrb2
  have HRB3 := Lib.hid hrb3
  have HNB := Lib.hid hN
  have HCR := Lib.hid hcr
  clear hE hR hR2 hR3 hb hrb hrb2 hrb3 hN hcr
  go_enter Try.func8, Try.ntmps8
  go_wp2_with (go_at_call 10; refine (awake_any _).mono ?_; rintro e w1 ⟨rfl, hk⟩; obtain ⟨c0, c1, clt, hk⟩ := nbox hk; have HK1 := Lib.hid hk; clear hk)
  refine (fit_any N A c E w1 (HE.out.fix HK1.out) HNB.out HEB.out).mono ?_
  rintro e w2 ⟨A2, c2, rfl, hown, hk2⟩
  have hfit := fit_ok N E
  have hM9 := (fitN_range N).2
  have hfl := fitE_len N E
  have HM0 := Lib.hid (edges_of_row hown (by omega))
  have HNil := Lib.hid (edges_nil hown)
  have HEC := Lib.hid (row_cap hown)
  have HK2 := Lib.hid (HK1.out.trans hk2)
  have HFIT := Lib.hid hfit
  clear hown hk2 hfit c0 c1 clt
  generalize fitN N = M at *
  generalize fitE N E = E2 at *
  have HB3 := Lib.hid (heap_alloc_new w2 (.cells #[.int .i64 M, .slice A2 E2.length c2] 24))
  have hs3 : (w2.alloc (.cells #[.int .i64 M, .slice A2 E2.length c2] 24)).heap.size = w2.heap.size + 1 := by simp
  have HK3 := Lib.hid (HK2.out.alloc (.cells #[.int .i64 M, .slice A2 E2.length c2] 24))
  have HE3 := Lib.hid (HM0.out.fix ((Only.refl (fun _ => False) w2).alloc (.cells #[.int .i64 M, .slice A2 E2.length c2] 24)))
  go_wp2_with (fail)
  refine (order_any M A2 B c2 d E2 raw _ HE3.out (HR.out.fix HK3.out) HRB.out (by omega)).mono ?_
  rintro e w4 ⟨v, rfl, hv, hk4⟩
  obtain ⟨Ao, co, rfl⟩ := row_slice hv
  have hoo := orderR_ok E2 raw
  have hol := hoo.2.2
  have hF := form_of_sub HFIT.out (List.Sublist.refl _) hoo
  have HMD := Lib.hid (show Made w4 M E2 (orderR E2 raw) w2.heap.size A2 Ao c2 co from ⟨(hk4.cell (p := ⟨w2.heap.size, 0, none⟩) (by rw [hs3]; simp) (fun x => x)).trans (obj_cell HB3.out 0), (hk4.cell (p := ⟨w2.heap.size, 1, none⟩) (by rw [hs3]; simp) (fun x => x)).trans (obj_cell HB3.out 1), by have := hk4.size; omega, HE3.out.fix hk4, hv.reads (by omega), HNil.out, row_cap hv⟩)
  have HK4 := Lib.hid (HK3.out.trans hk4)
  have HF := Lib.hid hF
  have HPM := Lib.hid ((orderR_perm E2 raw).trans (orderR_perm E2 raw2).symm)
  clear hv hk4 hoo hF hs3 HB3 HE3 HK3 HM0 HK2
  generalize orderR E2 raw = o at *
  obtain ⟨n0, n1, nlt, _, _, _, ncap⟩ := HMD.out
  go_wp2_with (fail)
  refine (order_any M A2 C c2 d2 E2 raw2 w4 HMD.out.edges (HR2.out.fix HK4.out) HRB2.out (by omega)).mono ?_
  rintro e w5 ⟨v, rfl, hv, hk5⟩
  obtain ⟨Ap, cp, rfl⟩ := row_slice hv
  have hoo2 := orderR_ok E2 raw2
  have hol2 := hoo2.2.2
  have hF2 := form_of_sub HFIT.out (List.Sublist.refl _) hoo2
  have HMD5 := Lib.hid (HMD.out.fix hk5)
  have HO5 := Lib.hid (hv.reads (by omega))
  have HK5 := Lib.hid (HK4.out.trans hk5)
  have HF2 := Lib.hid hF2
  clear hv hk5 hoo2 hF2 n0 n1 nlt HMD HK4
  generalize orderR E2 raw2 = o2 at *
  obtain ⟨n0, n1, nlt, _, _, _, _⟩ := HMD5.out
  have hways := fun W (hk : Kept w5 W) => ways_any M A2 Ao D c2 co cr E2 o rw3 W (HMD5.out.edges.fix hk) (HMD5.out.order.fix hk) (Go.Proofs.YtlpccebackmahaaW.PrintWords.Kd.C_below HR3.out ((HK5.out.trans hk).below (Nat.le_refl _) (fun _ _ x => x))) HEC.out ncap HCR.out HFIT.out hM9 HRB3.out HF.out
  have HWAYS := Lib.hid hways
  clear hways
  go_upto_region 5 with fail
  go_cut [13, 14, 15] (fun v13 v14 v15 wx => v15 = .int .i64 0 ∧ ∃ A8 c8 ls, v14 = .slice A8 o.length c8 ∧ FormOk M E2 0 1 o (plainWays ls) ∧ ReadsI wx A8 (gotR o (flowR M E2 0 1 o (plainWays ls))) ∧ Kept w5 wx)
  case first =>
    go_region_held3 (fun W => W.cell? ⟨w2.heap.size, 0, none⟩ = some (.int .i64 M) ∧ W.cell? ⟨w2.heap.size, 1, none⟩ = some (.slice A2 E2.length c2)) (first | exact ⟨n0, n1⟩ | exact ⟨r0, r1⟩ | exact ⟨m0, m1⟩ | go_keep)
      (first
        | (go_at_call 16; go_loud (refine (HWAYS.out _ (by first | exact (Only.refl _ _).drew | exact Only.refl _ _)).mono ?_; rintro e w6 ⟨D6, cw6, ls, rfl, hww, hfo, hk6⟩; have HWW := Lib.hid hww; have HFO := Lib.hid hfo; have HK6 := Lib.hid (show Kept w5 w6 from (by first | exact hk6 | exact ((Only.refl _ _).drew).trans hk6)); obtain ⟨m0, m1, mlt, _, _, _, _⟩ := HMD5.out.fix HK6.out; clear hww hfo hk6))
        | (go_at_call 11; go_loud (refine (fill_yes A2 Ao D6 c2 co cw6 ls w6 (HMD5.out.edges.fix HK6.out) (HMD5.out.order.fix HK6.out) HWW.out HNil.out HFO.out).mono ?_; rintro e w7 ⟨hk7, A7, c7, A8, c8, rfl, hr7, hr8, hc8⟩; have HK7 := Lib.hid (HK6.out.trans hk7); have HR8 := Lib.hid hr8; obtain ⟨r0, r1, rlt, _, _, _, _⟩ := HMD5.out.fix HK7.out; clear hk7 hr7 hr8 hc8)))
    go_wp2_with fail
    go_meet
    exact ⟨rfl, A8, c8, ls, rfl, HFO.out, HR8.out, HK7.out⟩
  case rest =>
  rename World => w7
  obtain ⟨rfl, A8, c8, ls, rfl, hfo, hr8, hk7⟩ := hcut
  have HFO := Lib.hid hfo
  have HR8 := Lib.hid hr8
  have HK7 := Lib.hid hk7
  clear hfo hr8 hk7 n0 n1 nlt
  obtain ⟨n0, n1, nlt, _, _, _, _⟩ := HMD5.out.fix HK7.out
  go_wp2_with (fail)
  refine (fill_yes0 A2 Ap c2 cp w7 (HMD5.out.edges.fix HK7.out) (HO5.out.fix HK7.out) HNil.out HF2.out).mono ?_
  rintro e w8 ⟨hk8, A9, c9, AA, ca, rfl, hr9, hra, hca⟩
  have HRA := Lib.hid hra
  have HR8' := Lib.hid (HR8.out.fix hk8)
  have HK8 := Lib.hid ((HK5.out.trans HK7.out).trans hk8)
  have hlaw := law_total HFO.out HF2.out HPM.out
  have hp1 := got_range HFO.out
  have hq1 := got_range HF2.out
  have hp2 := gotR_len o (flowR M E2 0 1 o (plainWays ls))
  have hq2 := gotR_len o2 (flowR M E2 0 1 o2 [])
  clear hk8 hr9 hra hca n0 n1 nlt HMD5 HWAYS HR8
  generalize gotR o (flowR M E2 0 1 o (plainWays ls)) = P at *
  generalize gotR o2 (flowR M E2 0 1 o2 []) = Q at *
  have HLAW := Lib.hid hlaw
  have hpr := sum_take_range hp1 (by omega)
  have hqr := sum_take_range hq1 (by omega)
  have HPR := Lib.hid hpr
  have HQR := Lib.hid hqr
  have HP1 := Lib.hid hp1
  have HQ1 := Lib.hid hq1
  clear hlaw hpr hqr hp1 hq1
  go_wp2_with (fail)
  go_loopw [19, 20] (fun s i wr => ∃ k : Nat, k ≤ o.length ∧ i = .int .i64 k ∧ s = .int .i64 (P.take k).sum ∧ Kept w8 wr) (fun _ i _ => o.length - (intOf i).toNat)
  case atStart => exact ⟨0, Nat.zero_le _, rfl, rfl, Only.refl _ _⟩
  case round =>
    obtain ⟨k, hk, rfl, rfl, hkp⟩ := hrel
    have HKP := Lib.hid hkp
    clear hkp
    by_cases hlt : k < o.length
    · obtain ⟨bg, fg, rfl, lbg, cg⟩ := (HR8'.out.fix HKP.out).cell k (by omega)
      have hsu := sum_take_succ P k (by omega)
      have hb1 := HPR.out k
      have hb2 := HP1.out (P.getD k 0) (by rw [List.getD_eq_getElem?_getD, List.getElem?_eq_getElem (by omega)]; exact List.getElem_mem _)
      have HSU := Lib.hid hsu
      clear hsu
      generalize P.getD k 0 = y at *
      generalize hS0 : (P.take k).sum = S0 at *
      have HS0 := Lib.hid hS0
      clear hS0
      go_wp2
      go_roundw
      case rel => exact ⟨k + 1, by omega, by go_num, by rw [HSU.out], HKP.out⟩
      case measure => simp [intOf]; omega
    · obtain rfl : k = o.length := by omega
      clear hlt
      have hall : P.take o.length = P := List.take_of_length_le (by omega)
      rw [hall]
      have hPs := HPR.out P.length
      rw [List.take_length] at hPs
      have HK9 := Lib.hid (HK8.out.trans HKP.out)
      have HRA' := Lib.hid (HRA.out.fix HKP.out)
      clear hall
      generalize P.sum = PS at *
      rename World => w9
      go_wp2
      go_loopw [19, 21] (fun s i wr => ∃ k : Nat, k ≤ o2.length ∧ i = .int .i64 k ∧ s = .int .i64 (PS - (Q.take k).sum) ∧ Kept w9 wr) (fun _ i _ => o2.length - (intOf i).toNat)
      case atStart => exact ⟨0, Nat.zero_le _, rfl, by simp, Only.refl _ _⟩
      case round =>
        obtain ⟨k, hk, rfl, rfl, hkp⟩ := hrel
        have HKQ := Lib.hid hkp
        clear hkp
        have hb1 := HQR.out k
        by_cases hlt : k < o2.length
        · obtain ⟨bg, fg, rfl, lbg, cg⟩ := (HRA'.out.fix HKQ.out).cell k (by omega)
          have hsu := sum_take_succ Q k (by omega)
          have hb2 := HQ1.out (Q.getD k 0) (by rw [List.getD_eq_getElem?_getD, List.getElem?_eq_getElem (by omega)]; exact List.getElem_mem _)
          have HSU := Lib.hid hsu
          clear hsu
          generalize Q.getD k 0 = y at *
          generalize hS0 : (Q.take k).sum = S0 at *
          clear hS0
          go_wp2
          go_roundw
          case rel => exact ⟨k + 1, by omega, by go_num, by rw [HSU.out]; first | rfl | (congr 1; omega), HKQ.out⟩
          case measure => simp [intOf]; omega
        · obtain rfl : k = o2.length := by omega
          clear hlt
          have hz : PS - (Q.take o2.length).sum = 0 := by
            rw [List.take_of_length_le (by omega), HLAW.out]; omega
          rw [hz]
          clear hz
          go_wp2
          go_ret
          exact ⟨rfl, HK9.out.trans HKQ.out⟩
end Go.Proofs.Ytlpccebackmahaa
/- Layer 7: LexTotal, for whatever came in. -/
set_option linter.unusedVariables false
set_option linter.unusedSimpArgs false
namespace Go.Proofs.Ytlpccebackmahaa
open Go.ChangeShapes Go.WideShapes Go.ChangeAt Go.RowKit Go.WideMaps Go.WideElems Go.Deep

set_option maxRecDepth 100000 in
theorem lexTotal_walk {H : Type} {enc : TypeId × Value → H} {W : World} {base base' : Nat} {sp : Nat → Bool} {held : Bool} {d0 d1 d2 d3 : DataW H} {p0 p1 p2 p3 : List MemPlace}
    (v0 : Value) (hv0 : Value.okWide Try.prog W .any base 24 v0) (h0 : DataW.Trod enc Try.prog W base' sp held 24 v0 d0 p0)
    (v1 : Value) (hv1 : Value.okWide Try.prog W .any base 25 v1) (h1 : DataW.Trod enc Try.prog W base' sp held 25 v1 d1 p1)
    (v2 : Value) (hv2 : Value.okWide Try.prog W .any base 25 v2) (h2 : DataW.Trod enc Try.prog W base' sp held 25 v2 d2 p2)
    (v3 : Value) (hv3 : Value.okWide Try.prog W .any base 33 v3) (h3 : DataW.Trod enc Try.prog W base' sp held 33 v3 d3 p3) :
    Calls Try.prog 8 #[v0, v1, v2, v3] W fun e w' => e = .returned (.bool true) ∧ Below W.heap.size W w' := by
  obtain ⟨N, A, c, E, rfl, hE, hc, hA, hN, hEb⟩ := open_netV hv0 h0
  obtain ⟨B, d, raw, rfl, hO, hd, hrb⟩ := open_intsV hv1 h1
  obtain ⟨C, dc, raw2, rfl, hO2, hd2, hrb2⟩ := open_intsV hv2 h2
  obtain ⟨D, cr, rw3, rfl, hR3, hcr, hrb3⟩ := open_rawV hv3 h3
  exact (lexTotal_any N A B C D c d dc cr E raw raw2 rw3 W hE hO hO2 hR3 hcr hN hEb hrb hrb2 hrb3).mono fun e w' ⟨h1, h2⟩ => ⟨h1, h2.below (Nat.le_refl _) (fun _ _ x => x)⟩
end Go.Proofs.Ytlpccebackmahaa
/- Layer 7: LexFills walked. -/
set_option linter.unusedVariables false
set_option linter.unusedSimpArgs false
namespace Go.Proofs.Ytlpccebackmahaa
open Go.RowKit

set_option maxHeartbeats 4000000 in
set_option maxRecDepth 100000 in
theorem lexFills_any (N : Int) (A B D : Option Addr) (c d cr : Nat) (E : List Ed) (raw : List Int) (rw3 : List (List Int)) (w : World) (hE : ReadsE w A E) (hR : ReadsI w B raw) (hR3 : Go.Proofs.YtlpccebackmahaaW.PrintWords.Kd.C (Go.Proofs.YtlpccebackmahaaW.PrintWords.Kd.slice 3 (Go.Proofs.YtlpccebackmahaaW.PrintWords.Kd.int .i64)) w D rw3.length rw3) (hcr : rw3.length ≤ cr)
    (hN : i64ok N) (hb : ∀ e ∈ E, e.Ok) (hrb : ∀ n ∈ raw, i64ok n) (hrb3 : ∀ l ∈ rw3, ∀ n ∈ l, i64ok n) :
    Calls Try.prog 4 #[.agg #[.int .i64 N, .slice A E.length c], .slice B raw.length d, .slice D rw3.length cr] w fun e w' => e = .returned (.bool true) ∧ Kept w w' := by
  have lR := hR.len
  unfold maxLen at lR
  have HE := Lib.hid hE
  have HR := Lib.hid hR
  have HR3 := Lib.hid hR3
  have HEB := Lib.hid hb
  have HRB := Lib.hid hrb
  have HRB3 := Lib.hid hrb3
  have HNB := Lib.hid hN
  have HCR := Lib.hid hcr
  clear hE hR hR3 hb hrb hrb3 hN hcr
  have HW0 := Lib.hid (Only.refl (fun _ => False) w)
  obtain ⟨w1, hw1⟩ : ∃ w1, w.alloc (.cells #[.int .i64 N, .slice A E.length c] 24) = w1 := ⟨_, rfl⟩
  have HK1 := Lib.hid (show Kept w w1 by rw [← hw1]; exact (Only.refl _ _).alloc _)
  have e0 := obj_cell (show w1.heap[w.heap.size]? = some (.cells #[.int .i64 N, .slice A E.length c] 24) by rw [← hw1]; exact heap_alloc_new w _) 0
  have e1 := obj_cell (show w1.heap[w.heap.size]? = some (.cells #[.int .i64 N, .slice A E.length c] 24) by rw [← hw1]; exact heap_alloc_new w _) 1
  simp only [List.getElem?_toArray, List.getElem?_cons_zero, List.getElem?_cons_succ] at e0 e1
  go_enter Try.func4, Try.ntmps4
  go_wp2_with (fail)
  refine (fit_any N A c E w1 (HE.out.fix HK1.out) HNB.out HEB.out).mono ?_
  rintro e w2 ⟨A2, c2, rfl, hown, hk2⟩
  have hfit := fit_ok N E
  have hM9 := (fitN_range N).2
  have hfl := fitE_len N E
  have HM0 := Lib.hid (edges_of_row hown (by omega))
  have HNil := Lib.hid (edges_nil hown)
  have HEC := Lib.hid (row_cap hown)
  have HK2 := Lib.hid (HK1.out.trans hk2)
  have HFIT := Lib.hid hfit
  clear hown hk2 hfit e0 e1
  generalize fitN N = M at *
  generalize fitE N E = E2 at *
  have HB3 := Lib.hid (heap_alloc_new w2 (.cells #[.int .i64 M, .slice A2 E2.length c2] 24))
  have hs3 : (w2.alloc (.cells #[.int .i64 M, .slice A2 E2.length c2] 24)).heap.size = w2.heap.size + 1 := by simp
  have HK3 := Lib.hid (HK2.out.alloc (.cells #[.int .i64 M, .slice A2 E2.length c2] 24))
  have HE3 := Lib.hid (HM0.out.fix ((Only.refl (fun _ => False) w2).alloc (.cells #[.int .i64 M, .slice A2 E2.length c2] 24)))
  go_wp2_with (fail)
  refine (order_any M A2 B c2 d E2 raw _ HE3.out (HR.out.fix HK3.out) HRB.out (by omega)).mono ?_
  rintro e w4 ⟨v, rfl, hv, hk4⟩
  obtain ⟨Ao, co, rfl⟩ := row_slice hv
  have hoo := orderR_ok E2 raw
  have hol := hoo.2.2
  have hF := form_of_sub HFIT.out (List.Sublist.refl _) hoo
  have HMD := Lib.hid (show Made w4 M E2 (orderR E2 raw) w2.heap.size A2 Ao c2 co from ⟨(hk4.cell (p := ⟨w2.heap.size, 0, none⟩) (by rw [hs3]; simp) (fun x => x)).trans (obj_cell HB3.out 0), (hk4.cell (p := ⟨w2.heap.size, 1, none⟩) (by rw [hs3]; simp) (fun x => x)).trans (obj_cell HB3.out 1), by have := hk4.size; omega, HE3.out.fix hk4, hv.reads (by omega), HNil.out, row_cap hv⟩)
  have HK4 := Lib.hid (HK3.out.trans hk4)
  have HF := Lib.hid hF
  clear hv hk4 hoo hF hs3 HB3 HE3 HK3 HM0 HK2
  generalize orderR E2 raw = o at *
  obtain ⟨n0, n1, nlt, _, _, _, ncap⟩ := HMD.out
  go_wp2_with (fail)
  refine (ways_any M A2 Ao D c2 co cr E2 o rw3 w4 HMD.out.edges HMD.out.order (Go.Proofs.YtlpccebackmahaaW.PrintWords.Kd.C_below HR3.out (HK4.out.below (Nat.le_refl _) (fun _ _ x => x))) HEC.out ncap HCR.out HFIT.out hM9 HRB3.out HF.out).mono ?_
  rintro e w5 ⟨D5, cw, ls, rfl, hww, hfo, hk5⟩
  have HWW := Lib.hid hww
  have HFO := Lib.hid hfo
  have HMD5 := Lib.hid (HMD.out.fix hk5)
  have HK5 := Lib.hid (HK4.out.trans hk5)
  clear hww hfo hk5 n0 n1 nlt
  obtain ⟨n0, n1, nlt, _, _, _, _⟩ := HMD5.out
  go_wp2_with (fail)
  refine (r7fill_any M 0 1 A2 Ao D5 c2 co cw E2 o ls w5 HMD5.out.edges HMD5.out.order HWW.out ncap).mono ?_
  rintro e w6 ⟨hk6, hans⟩
  rw [if_pos HFO.out] at hans
  obtain ⟨v1, v2, rfl, _, _⟩ := hans
  have HMD6 := Lib.hid (HMD5.out.fix hk6)
  have HK6 := Lib.hid (HK5.out.trans hk6)
  have HWW6 := Lib.hid (HWW.out.fix hk6)
  clear hk6 n0 n1 nlt
  obtain ⟨n0, n1, nlt, _, _, _, _⟩ := HMD6.out
  go_wp2_with (fail)
  refine (lexTells_any M 0 1 A2 Ao D5 c2 co cw E2 o ls w6 HMD6.out.edges HMD6.out.order HWW6.out HNil.out ncap).mono ?_
  rintro e w7 ⟨rfl, hk7⟩
  have HK7 := Lib.hid (HK6.out.trans hk7)
  clear hk7
  go_wp2_with (fail)
  go_ret
  exact ⟨rfl, HK7.out⟩
end Go.Proofs.Ytlpccebackmahaa
/- Layer 7: LexFills, for whatever came in. -/
set_option linter.unusedVariables false
set_option linter.unusedSimpArgs false
namespace Go.Proofs.Ytlpccebackmahaa
open Go.ChangeShapes Go.WideShapes Go.ChangeAt Go.RowKit Go.WideMaps Go.WideElems Go.Deep

set_option maxRecDepth 100000 in
theorem lexFills_walk {H : Type} {enc : TypeId × Value → H} {W : World} {base base' : Nat} {sp : Nat → Bool} {held : Bool} {d0 d1 d2 : DataW H} {p0 p1 p2 : List MemPlace}
    (v0 : Value) (hv0 : Value.okWide Try.prog W .any base 24 v0) (h0 : DataW.Trod enc Try.prog W base' sp held 24 v0 d0 p0)
    (v1 : Value) (hv1 : Value.okWide Try.prog W .any base 25 v1) (h1 : DataW.Trod enc Try.prog W base' sp held 25 v1 d1 p1)
    (v2 : Value) (hv2 : Value.okWide Try.prog W .any base 33 v2) (h2 : DataW.Trod enc Try.prog W base' sp held 33 v2 d2 p2) :
    Calls Try.prog 4 #[v0, v1, v2] W fun e w' => e = .returned (.bool true) ∧ Below W.heap.size W w' := by
  obtain ⟨N, A, c, E, rfl, hE, hc, hA, hN, hEb⟩ := open_netV hv0 h0
  obtain ⟨B, d, raw, rfl, hO, hd, hrb⟩ := open_intsV hv1 h1
  obtain ⟨D, cr, rw3, rfl, hR3, hcr, hrb3⟩ := open_rawV hv2 h2
  exact (lexFills_any N A B D c d cr E raw rw3 W hE hO hR3 hcr hN hEb hrb hrb3).mono fun e w' ⟨h1, h2⟩ => ⟨h1, h2.below (Nat.le_refl _) (fun _ _ x => x)⟩
end Go.Proofs.Ytlpccebackmahaa
/- Layer 7: LexGreatest walked. -/
set_option linter.unusedVariables false
set_option linter.unusedSimpArgs false
namespace Go.Proofs.Ytlpccebackmahaa
open Go.RowKit

theorem gotR_at {o : List Int} (f : List Int) {k : Nat} (hk : k < o.length) : (gotR o f).getD k 0 = f.getD (o.getD k 0).toNat 0 := by
  unfold gotR
  rw [List.getD_eq_getElem?_getD, List.getElem?_map, List.getElem?_eq_getElem hk, List.getD_eq_getElem?_getD (l := o), List.getElem?_eq_getElem hk]
  rfl
theorem opn_zeros {N : Int} {E : List Ed} {s t : Int} {o : List Int} {ws : List (List (List Int × Int))} (h : FormOk N E s t o ws) (A : List Nat) : Okf N.toNat (opn E s A) (List.replicate (opn E s A).length 0) s t := by
  refine (zeros_ok fun i hi => ?_).1
  rw [opn_length] at hi
  rw [opn_get E s A i hi]
  have := h.1.lexT.caps i hi
  split
  · exact Int.le_refl _
  · exact this.1
theorem flow_okf {N : Int} {E : List Ed} {s t : Int} {o : List Int} {ws : List (List (List Int × Int))} (h : FormOk N E s t o ws) : Okf N.toNat E (flowR N E s t o ws) s t :=
  (h.inv o.length (Nat.le_refl _)).ok.full (fun i hi => (h.1.lexT.caps i hi).1)
set_option maxHeartbeats 4000000 in
set_option maxRecDepth 100000 in
theorem lexGreatest_any (N : Int) (A B D : Option Addr) (c d cr : Nat) (E : List Ed) (raw : List Int) (rw3 : List (List Int)) (w : World) (hE : ReadsE w A E) (hR : ReadsI w B raw) (hR3 : Go.Proofs.YtlpccebackmahaaW.PrintWords.Kd.C (Go.Proofs.YtlpccebackmahaaW.PrintWords.Kd.slice 3 (Go.Proofs.YtlpccebackmahaaW.PrintWords.Kd.int .i64)) w D rw3.length rw3) (hcr : rw3.length ≤ cr)
    (hN : i64ok N) (hb : ∀ e ∈ E, e.Ok) (hrb : ∀ n ∈ raw, i64ok n) (hrb3 : ∀ l ∈ rw3, ∀ n ∈ l, i64ok n) :
    Calls Try.prog 5 #[.agg #[.int .i64 N, .slice A E.length c], .slice B raw.length d, .slice D rw3.length cr] w fun e w' => e = .returned (.bool true) ∧ Kept w w' := by
  have lR := hR.len
  unfold maxLen at lR
  have HE := Lib.hid hE
  have HR := Lib.hid hR
  have HR3 := Lib.hid hR3
  have HEB := Lib.hid hb
  have HRB := Lib.hid hrb
  have HRB3 := Lib.hid hrb3
  have HNB := Lib.hid hN
  have HCR := Lib.hid hcr
  clear hE hR hR3 hb hrb hrb3 hN hcr
  go_enter Try.func5, Try.ntmps5
  go_wp2_with (go_at_call 10; refine (awake_any _).mono ?_; rintro e w1 ⟨rfl, hk⟩; obtain ⟨c0, c1, clt, hk⟩ := nbox hk; have HK1 := Lib.hid hk; clear hk)
  refine (fit_any N A c E w1 (HE.out.fix HK1.out) HNB.out HEB.out).mono ?_
  rintro e w2 ⟨A2, c2, rfl, hown, hk2⟩
  have hfit := fit_ok N E
  have hM9 := (fitN_range N).2
  have hfl := fitE_len N E
  have HM0 := Lib.hid (edges_of_row hown (by omega))
  have HNil := Lib.hid (edges_nil hown)
  have HEC := Lib.hid (row_cap hown)
  have HK2 := Lib.hid (HK1.out.trans hk2)
  have HFIT := Lib.hid hfit
  clear hown hk2 hfit c0 c1 clt
  generalize fitN N = M at *
  generalize fitE N E = E2 at *
  have HB3 := Lib.hid (heap_alloc_new w2 (.cells #[.int .i64 M, .slice A2 E2.length c2] 24))
  have hs3 : (w2.alloc (.cells #[.int .i64 M, .slice A2 E2.length c2] 24)).heap.size = w2.heap.size + 1 := by simp
  have HK3 := Lib.hid (HK2.out.alloc (.cells #[.int .i64 M, .slice A2 E2.length c2] 24))
  have HE3 := Lib.hid (HM0.out.fix ((Only.refl (fun _ => False) w2).alloc (.cells #[.int .i64 M, .slice A2 E2.length c2] 24)))
  go_wp2_with (fail)
  refine (order_any M A2 B c2 d E2 raw _ HE3.out (HR.out.fix HK3.out) HRB.out (by omega)).mono ?_
  rintro e w4 ⟨v, rfl, hv, hk4⟩
  obtain ⟨Ao, co, rfl⟩ := row_slice hv
  have hoo := orderR_ok E2 raw
  have hol := hoo.2.2
  have hF := form_of_sub HFIT.out (List.Sublist.refl _) hoo
  have HMD := Lib.hid (show Made w4 M E2 (orderR E2 raw) w2.heap.size A2 Ao c2 co from ⟨(hk4.cell (p := ⟨w2.heap.size, 0, none⟩) (by rw [hs3]; simp) (fun x => x)).trans (obj_cell HB3.out 0), (hk4.cell (p := ⟨w2.heap.size, 1, none⟩) (by rw [hs3]; simp) (fun x => x)).trans (obj_cell HB3.out 1), by have := hk4.size; omega, HE3.out.fix hk4, hv.reads (by omega), HNil.out, row_cap hv⟩)
  have HK4 := Lib.hid (HK3.out.trans hk4)
  have HF := Lib.hid hF
  clear hv hk4 hoo hF hs3 HB3 HE3 HK3 HM0 HK2
  generalize orderR E2 raw = o at *
  obtain ⟨n0, n1, nlt, _, _, _, ncap⟩ := HMD.out
  have hways := fun W (hk : Kept w4 W) => ways_any M A2 Ao D c2 co cr E2 o rw3 W (HMD.out.edges.fix hk) (HMD.out.order.fix hk) (Go.Proofs.YtlpccebackmahaaW.PrintWords.Kd.C_below HR3.out ((HK4.out.trans hk).below (Nat.le_refl _) (fun _ _ x => x))) HEC.out ncap HCR.out HFIT.out hM9 HRB3.out HF.out
  have HWAYS := Lib.hid hways
  clear hways
  go_upto_region 4 with fail
  go_cut [10, 11, 12] (fun v10 v11 v12 wx => v12 = .int .i64 0 ∧ ∃ A7 c7 A8 c8 ls, v10 = .slice A7 E2.length c7 ∧ v11 = .slice A8 o.length c8 ∧ FormOk M E2 0 1 o (plainWays ls) ∧ ReadsI wx A7 (flowR M E2 0 1 o (plainWays ls)) ∧ ReadsI wx A8 (gotR o (flowR M E2 0 1 o (plainWays ls))) ∧ Kept w4 wx)
  case first =>
    go_region_held3 (fun W => W.cell? ⟨w2.heap.size, 0, none⟩ = some (.int .i64 M) ∧ W.cell? ⟨w2.heap.size, 1, none⟩ = some (.slice A2 E2.length c2)) (first | exact ⟨n0, n1⟩ | exact ⟨r0, r1⟩ | exact ⟨m0, m1⟩ | go_keep)
      (first
        | (go_at_call 16; go_loud (refine (HWAYS.out _ (by first | exact (Only.refl _ _).drew | exact Only.refl _ _)).mono ?_; rintro e w6 ⟨D6, cw6, ls, rfl, hww, hfo, hk6⟩; have HWW := Lib.hid hww; have HFO := Lib.hid hfo; have HK6 := Lib.hid (show Kept w4 w6 from (by first | exact hk6 | exact ((Only.refl _ _).drew).trans hk6)); obtain ⟨m0, m1, mlt, _, _, _, _⟩ := HMD.out.fix HK6.out; clear hww hfo hk6))
        | (go_at_call 11; go_loud (refine (fill_yes A2 Ao D6 c2 co cw6 ls w6 (HMD.out.edges.fix HK6.out) (HMD.out.order.fix HK6.out) HWW.out HNil.out HFO.out).mono ?_; rintro e w7 ⟨hk7, A7, c7, A8, c8, rfl, hr7, hr8, hc8⟩; have HK7 := Lib.hid (HK6.out.trans hk7); have HR7 := Lib.hid hr7; have HR8 := Lib.hid hr8; obtain ⟨r0, r1, rlt, _, _, _, _⟩ := HMD.out.fix HK7.out; clear hk7 hr7 hr8 hc8)))
    go_wp2_with fail
    go_meet
    exact ⟨rfl, A7, c7, A8, c8, ls, rfl, rfl, HFO.out, HR7.out, HR8.out, HK7.out⟩
  case rest =>
  rename World => w7
  obtain ⟨rfl, A7, c7, A8, c8, ls, rfl, rfl, hfo, hr7, hr8, hk7⟩ := hcut
  have HFO := Lib.hid hfo
  have HR7 := Lib.hid hr7
  have HR8 := Lib.hid hr8
  have HK7 := Lib.hid hk7
  clear hfo hr7 hr8 hk7 n0 n1 nlt
  obtain ⟨n0, n1, nlt, _, _, _, _⟩ := HMD.out.fix HK7.out
  have lfl := flowR_len HFO.out
  have hM2 : 2 ≤ M := HFIT.out.1
  have hgood := r5good_yes M 0 1 A2 A7 c2 c7 E2 (flowR M E2 0 1 o (plainWays ls)) w7 (HMD.out.edges.fix HK7.out) HR7.out HFIT.out (flow_okf HFO.out) (by omega) (by omega) (by decide)
  rw [lfl] at hgood
  have HGOOD := Lib.hid hgood
  clear hgood
  go_wp2_with (go_at_call 17; refine HGOOD.out.mono ?_; rintro e w8 ⟨rfl, hk8⟩)
  have HK8 := Lib.hid (HK7.out.trans hk8)
  have HR7' := Lib.hid (HR7.out.fix hk8)
  have HR8' := Lib.hid (HR8.out.fix hk8)
  have HMD8 := Lib.hid (HMD.out.fix HK8.out)
  have hlaw := fun j hj => law_greatest HFO.out j hj
  have hz := opn_zeros HFO.out
  have hp1 := got_range HFO.out
  have hp2 := gotR_len o (flowR M E2 0 1 o (plainWays ls))
  have hat := fun k (hk : k < o.length) => gotR_at (flowR M E2 0 1 o (plainWays ls)) hk
  clear hk8 n0 n1 nlt HMD HWAYS HR8 HR7 HGOOD
  generalize gotR o (flowR M E2 0 1 o (plainWays ls)) = P at *
  generalize flowR M E2 0 1 o (plainWays ls) = FL at *
  have HLAW := Lib.hid hlaw
  have HZ := Lib.hid hz
  have HAT := Lib.hid hat
  have hpr := sum_take_range hp1 (by omega)
  have HPR := Lib.hid hpr
  have HP1 := Lib.hid hp1
  clear hlaw hpr hp1 hat hz
  go_wp2_with (fail)
  go_loopw [13, 14] (fun s i wr => ∃ k : Nat, k ≤ o.length ∧ i = .int .i64 k ∧ s = .int .i64 (P.take k).sum ∧ Kept w8 wr) (fun _ i _ => o.length - (intOf i).toNat)
  case atStart => exact ⟨0, Nat.zero_le _, rfl, rfl, Only.refl _ _⟩
  case round =>
    obtain ⟨k, hk, rfl, rfl, hkp⟩ := hrel
    have HKP := Lib.hid hkp
    clear hkp
    by_cases hlt : k < o.length
    · have hmo : o.getD k 0 ∈ o := by rw [List.getD_eq_getElem?_getD, List.getElem?_eq_getElem hlt]; exact List.getElem_mem hlt
      obtain ⟨s0, s1, _⟩ := HF.out.1.2.2.2.2.2.2 _ hmo
      obtain ⟨xn, hxn⟩ : ∃ xn : Nat, o.getD k 0 = xn := ⟨_, (Int.toNat_of_nonneg s0).symm⟩
      have hxl : xn < E2.length := by rw [hxn] at s1; omega
      have hy := HAT.out k hlt
      obtain ⟨bg, fg, rfl, lbg, cg⟩ := (HR8'.out.fix HKP.out).cell k (by omega)
      obtain ⟨bo, fo, rfl, lbo, cgo⟩ := (HMD8.out.order.fix HKP.out).cell k hlt
      obtain ⟨bf, ff, rfl, lbf, cgf⟩ := (HR7'.out.fix HKP.out).cell xn (by omega)
      rw [hxn] at hy cgo
      rw [Int.toNat_natCast] at hy
      rw [← hy] at cgf
      have hop := fun W (hW : Kept w8 W) => r7open_any M 0 A2 (some ⟨bo, fo, none⟩) c2 co E2 (o.take (k + 1)) W (HMD8.out.edges.fix hW) (take_reads (HMD8.out.order.fix hW) (k + 1) (by omega)) (by omega) (fun x hx => (HF.out.1.2.2.2.2.2.2 x (List.mem_of_mem_take hx)).1)
      rw [List.length_take, Nat.min_eq_left (by omega)] at hop
      have HOP := Lib.hid hop
      have hmax := fun W A' c' (hA : ReadsE W A' (opn E2 0 (natsOf (o.take (k + 1))))) => r6max_any M 0 1 A' c' (opn E2 0 (natsOf (o.take (k + 1)))) W hA (HFIT.out.opn 0 _) (HZ.out _) (by omega) (by omega) (by decide) (by rw [opn_length]; omega)
      rw [← HLAW.out (k + 1) (by omega)] at hmax
      have HMAX := Lib.hid hmax
      clear hop hmax
      have hsu := sum_take_succ P k (by omega)
      have hb1 := HPR.out k
      have hb2 := HP1.out (P.getD k 0) (by rw [List.getD_eq_getElem?_getD, List.getElem?_eq_getElem (by omega)]; exact List.getElem_mem _)
      rw [hsu] at HMAX
      have HSU := Lib.hid hsu
      clear hsu hmo s0 s1 hxn hy
      have hol : (opn E2 0 (natsOf (o.take (k + 1)))).length = E2.length := opn_length _ _ _
      rw [hol] at HMAX
      obtain ⟨n0, n1, nlt, _, _, _, ncap⟩ := HMD8.out.fix HKP.out
      generalize P.getD k 0 = y at *
      generalize hS0 : (P.take k).sum = S0 at *
      have HS0 := Lib.hid hS0
      clear hS0
      have ik1 : (k : Int) + 1 ≤ (co : Int) := by omega
      have ik2 : (0 : Int) ≤ (k : Int) + 1 := by omega
      have hwrap : IntKind.i64.wrap ((k : Int) + 1) = (k : Int) + 1 := by rw [IntKind.wrap_i64]; omega
      go_upto_region 11 with fail
      go_quiet (fail)
      go_upto_region 14 with fail
      go_cut [15, 16, 17] (fun v15 v16 v17 wx => v16 = .int .i64 (S0 + y) ∧ Kept w8 wx)
      case first =>
        go_region_held3 (fun W => W.cell? ⟨w2.heap.size, 0, none⟩ = some (.int .i64 M) ∧ W.cell? ⟨w2.heap.size, 1, none⟩ = some (.slice A2 E2.length c2)) (first | exact ⟨n0, n1⟩ | exact ⟨r0, r1⟩ | exact ⟨m0, m1⟩ | go_keep)
          (first
            | (go_at_call 19; go_loud (refine (HOP.out _ (by first | exact HKP.out.drewN _ | exact (HKP.out.drewN _).drew | exact HKP.out.drew | exact HKP.out)).mono ?_; rintro e w9 ⟨A5, c5, rfl, hre, _, hk9⟩; have HRE := Lib.hid hre; have HK9 := Lib.hid (show Kept w8 w9 from (by first | exact (HKP.out.drewN _).trans hk9 | exact ((HKP.out.drewN _).drew).trans hk9 | exact (HKP.out.drew).trans hk9 | exact HKP.out.trans hk9)); obtain ⟨m0, m1, mlt, _, _, _, _⟩ := HMD8.out.fix HK9.out; clear hre hk9))
            | (go_at_call 18; go_loud (refine (HMAX.out _ A5 c5 HRE.out).mono ?_; rintro e w10 ⟨v, rfl, hk10⟩; have HK10 := Lib.hid (HK9.out.trans hk10); obtain ⟨r0, r1, rlt, _, _, _, _⟩ := HMD8.out.fix HK10.out; clear hk10)))
        go_wp2_with fail
        go_meet
        exact ⟨rfl, HK10.out⟩
      case rest =>
        rename World => w11
        obtain ⟨rfl, hk11⟩ := hcut
        have HK11 := Lib.hid hk11
        clear hk11
        go_wp2
        go_roundw
        case rel => exact ⟨k + 1, by omega, by go_num, by rw [HSU.out], HK11.out⟩
        case measure => simp [intOf]; omega
    · obtain rfl : k = o.length := by omega
      go_wp2
      go_ret
      exact ⟨rfl, (HK4.out.trans HK8.out).trans HKP.out⟩
end Go.Proofs.Ytlpccebackmahaa
namespace Go.Proofs.Ytlpccebackmahaa
open Go.ChangeShapes Go.WideShapes Go.ChangeAt Go.RowKit Go.WideMaps Go.WideElems Go.Deep

set_option maxRecDepth 100000 in
theorem lexGreatest_walk {H : Type} {enc : TypeId × Value → H} {W : World} {base base' : Nat} {sp : Nat → Bool} {held : Bool} {d0 d1 d2 : DataW H} {p0 p1 p2 : List MemPlace}
    (v0 : Value) (hv0 : Value.okWide Try.prog W .any base 24 v0) (h0 : DataW.Trod enc Try.prog W base' sp held 24 v0 d0 p0)
    (v1 : Value) (hv1 : Value.okWide Try.prog W .any base 25 v1) (h1 : DataW.Trod enc Try.prog W base' sp held 25 v1 d1 p1)
    (v2 : Value) (hv2 : Value.okWide Try.prog W .any base 33 v2) (h2 : DataW.Trod enc Try.prog W base' sp held 33 v2 d2 p2) :
    Calls Try.prog 5 #[v0, v1, v2] W fun e w' => e = .returned (.bool true) ∧ Below W.heap.size W w' := by
  obtain ⟨N, A, c, E, rfl, hE, hc, hA, hN, hEb⟩ := open_netV hv0 h0
  obtain ⟨B, d, raw, rfl, hO, hd, hrb⟩ := open_intsV hv1 h1
  obtain ⟨D, cr, rw3, rfl, hR3, hcr, hrb3⟩ := open_rawV hv2 h2
  exact (lexGreatest_any N A B D c d cr E raw rw3 W hE hO hR3 hcr hN hEb hrb hrb3).mono fun e w' ⟨h1, h2⟩ => ⟨h1, h2.below (Nat.le_refl _) (fun _ _ x => x)⟩
end Go.Proofs.Ytlpccebackmahaa

/- Layer 7, plainly: the statement's taken takes a way of one unit, or tells that there is none. -/
import Derived.Test.YtlpccebackmahaaWaysT
import Derived.Test.YtlpccebackmahaaLexTo
import Derived.Test.YtlpccebackmahaaLawS
set_option linter.unusedVariables false
set_option linter.unusedSimpArgs false
namespace Go.Proofs.Ytlpccebackmahaa
open PW Go.RowKit Go.Proofs.YtlpccebackmahaaW.PrintWords

section
variable {N : Nat} {E : List Ed} {rest : List Int} {src : Int}
/-- What taken answers. -/
def TkAns (N : Nat) (E : List Ed) (rest : List Int) (src : Int) (r : List Int × Int × Bool × List Int) : Prop :=
  r.2.1 = 1 ∧ (r.2.2.1 = true → walkI E 1 [0] 0 r.1 ∧ r.1.head? = some src ∧ (r.1.length : Int) ≤ N ∧ (∀ e ∈ natsOf r.1, 0 < rest.getD e 0) ∧ r.2.2.2 = decAll rest (natsOf r.1))
theorem decAll_snoc (r : List Int) (l : List Nat) (e : Nat) : decAll r (l ++ [e]) = (decAll r l).set e ((decAll r l).getD e 0 - 1) := by
  unfold decAll
  rw [List.foldl_append]
  rfl
theorem rd_eq (l : List Int) (j : Nat) : rd l (j : Int) = l.getD j 0 := by unfold rd; rw [Int.toNat_natCast]
theorem t2_good (hl : rest.length = E.length) (hE : E.length ≤ 256) (hs : ∀ k, k < E.length → 0 ≤ rest.getD k 0 ∧ rest.getD k 0 ≤ 1000) {es : List Int} {r : List Int × Int × Bool × List Int} (hw : walkI E 1 [0] 0 es) (hp : ∀ e ∈ natsOf es, 0 < rest.getD e 0) (h0 : ∀ e ∈ es, 0 ≤ e)
    (hlen : es.length ≤ 64) (hr : r = (es, 1, true, decAll rest (natsOf es))) (hP : TkAns N E rest src r) :
    ∀ (d j : Nat), es.length - j = d → j ≤ es.length → Good (TkAns N E rest src) (fun k => billetlaw07_taken.l2 k (decAll rest (natsOf (es.take j))) j es 1) := by
  have hk := walkI_ok hw
  have hnd := walk_nodup hk
  intro d
  induction d with
  | zero =>
    intro j hd hj
    obtain rfl : j = es.length := by omega
    rw [List.take_length]
    refine Good.now r hP fun k => ?_
    simp only [billetlaw07_taken.l2]
    rw [if_neg (by omega), hr]
  | succ d ih =>
    intro j hd hj
    have hjl : j < es.length := by omega
    obtain ⟨m, hm⟩ : ∃ m : Nat, es[j] = m := ⟨es[j].toNat, by have := h0 _ (List.getElem_mem hjl); omega⟩
    have hget : es.getD j 0 = (m : Int) := by rw [List.getD_eq_getElem?_getD, List.getElem?_eq_getElem hjl]; exact hm
    have hmem : m ∈ natsOf es := List.mem_map.2 ⟨es[j], List.getElem_mem hjl, by rw [hm]; rfl⟩
    have hmE := (walk_idx hk m hmem).1
    have hjn : j < (natsOf es).length := by rw [natsOf_len]; exact hjl
    have hgj : (natsOf es)[j] = m := by simp [natsOf, hm]
    have hnot : m ∉ natsOf (es.take j) := by
      rw [natsOf_take]
      intro hin
      obtain ⟨q, hq, e⟩ := List.getElem_of_mem hin
      rw [List.length_take] at hq
      rw [List.getElem_take] at e
      rw [List.nodup_iff_pairwise_ne, List.pairwise_iff_getElem] at hnd
      exact hnd q j (by omega) hjn (by omega) (by rw [e, hgj])
    have hsub : (natsOf (es.take j)).Nodup := by rw [natsOf_take]; exact hnd.sublist (List.take_sublist _ _)
    have hval : (decAll rest (natsOf (es.take j))).getD m 0 = rest.getD m 0 := by
      rw [decAll_get _ _ hsub (fun e he => by
        rw [hl]
        rw [natsOf_take] at he
        exact (walk_idx hk e (List.mem_of_mem_take he)).1), if_neg hnot, Int.sub_zero]
    have hb := hs m hmE
    have hpos := hp m hmem
    refine (ih (j + 1) (by omega) (by omega)).step fun k => ?_
    simp only [billetlaw07_taken.l2]
    have hlen2 : ((decAll rest (natsOf (es.take j))).length : Int) = E.length := by rw [decAll_len, hl]
    rw [if_pos (by omega), if_pos (by omega), rd_eq, hget, if_pos (by omega), if_pos (by rw [hlen2]; omega), rd_eq, hval, wrap_succ (by omega), wrap_id (by omega)]
    have ht : natsOf (es.take (j + 1)) = natsOf (es.take j) ++ [m] := by
      rw [natsOf_take, natsOf_take, List.take_add_one, List.getElem?_eq_getElem hjn, hgj]
      rfl
    rw [ht, decAll_snoc, hval, Int.toNat_natCast]
def NxOk (E : List Ed) (rest : List Int) (a x11 : Int) : Prop := x11 = -1 ∨ ∃ j : Nat, x11 = j ∧ j < E.length ∧ (E.getD j default).f = a ∧ 0 < rest.getD j 0
theorem t1_good (hN : NetOk N E) (hl : rest.length = E.length) {seen : List Int} {a : Int} {es : List Int}
    (H : ∀ x11 : Int, NxOk E rest a x11 → Good (TkAns N E rest src) (fun k => billetlaw07_taken.l1 k rest (seenOf N seen) a x11 E.length N (E.map Ed.toS) es 1)) :
    ∀ (d i : Nat) (x11 : Int), E.length - i = d → i ≤ E.length → NxOk E rest a x11 →
      Good (TkAns N E rest src) (fun k => billetlaw07_taken.l1 k rest (seenOf N seen) a x11 i N (E.map Ed.toS) es 1) := by
  have hE := hN.2.2.1
  intro d
  induction d with
  | zero =>
    intro i x11 hd hi hx
    obtain rfl : i = E.length := by omega
    exact H x11 hx
  | succ d ih =>
    intro i x11 hd hi hx
    have hlt : i < E.length := by omega
    have c1 : (i : Int) < (rest.length : Int) := by omega
    have g0 : (rd_T50 (E.map Ed.toS) (i : Int)).f0 = (E.getD i default).f := by rw [rdS E i hlt]; rfl
    by_cases hx0 : x11 < 0
    · by_cases hf : (E.getD i default).f = a
      · by_cases hr : rest.getD i 0 > 0
        · refine (ih (i + 1) (i : Int) (by omega) (by omega) (Or.inr ⟨i, rfl, hlt, hf, hr⟩)).step fun k => ?_
          simp only [billetlaw07_taken.l1]
          rw [if_pos c1, if_pos hx0, if_pos (by omega), if_pos (by rw [List.length_map]; omega), g0, if_pos hf, rd_eq, if_pos hr, wrap_succ (by omega)]
        · refine (ih (i + 1) x11 (by omega) (by omega) hx).step fun k => ?_
          simp only [billetlaw07_taken.l1]
          rw [if_pos c1, if_pos hx0, if_pos (by omega), if_pos (by rw [List.length_map]; omega), g0, if_pos hf, rd_eq, if_neg hr, wrap_succ (by omega)]
      · refine (ih (i + 1) x11 (by omega) (by omega) hx).step fun k => ?_
        simp only [billetlaw07_taken.l1]
        rw [if_pos c1, if_pos hx0, if_pos (by omega), if_pos (by rw [List.length_map]; omega), g0, if_neg hf, wrap_succ (by omega)]
    · refine (ih (i + 1) x11 (by omega) (by omega) hx).step fun k => ?_
      simp only [billetlaw07_taken.l1]
      rw [if_pos c1, if_neg hx0, wrap_succ (by omega)]
theorem t0_good (hN : NetOk N E) (hN9 : N ≤ 9) (hl : rest.length = E.length) (hs : ∀ k, k < E.length → 0 ≤ rest.getD k 0 ∧ rest.getD k 0 ≤ 1000) :
    ∀ (d : Nat) (seen : List Int) (a : Int) (es : List Int), N + 1 - seen.length = d → Part N E src seen a es → (∀ e ∈ es, 0 ≤ e ∧ 0 < rest.getD e.toNat 0) →
      Good (TkAns N E rest src) (fun k => billetlaw07_taken.l0 k rest (seenOf N seen) a N (E.map Ed.toS) es 1) := by
  have hE := hN.2.2.1
  intro d
  induction d with
  | zero =>
    intro seen a es hd hp
    have := nodup_len hp.nodup hp.within
    omega
  | succ d ih =>
    intro seen a es hd hp hpos
    have hsl := nodup_len hp.nodup hp.within
    have hlen := hp.len
    by_cases ha : a = 1
    · subst ha
      have hw : walkI E 1 [0] 0 es := by
        have := hp.on [] rfl
        rwa [List.append_nil] at this
      have hpn : ∀ e ∈ natsOf es, 0 < rest.getD e 0 := fun e he => by
        obtain ⟨x, hx, rfl⟩ := List.mem_map.1 he
        exact (hpos x hx).2
      have hP : TkAns N E rest src (es, 1, true, decAll rest (natsOf es)) := ⟨rfl, fun _ => ⟨hw, hp.hd, by show (es.length : Int) ≤ N; omega, hpn, rfl⟩⟩
      refine Good.step (g := fun k => billetlaw07_taken.l2 k (decAll rest (natsOf (es.take 0))) ((0 : Nat) : Int) es 1) (t2_good hl hE hs hw hpn (fun e he => (hpos e he).1) (by omega) rfl hP _ 0 rfl (Nat.zero_le _)) (fun k => ?_)
      simp only [billetlaw07_taken.l0]
      rw [if_pos trivial]
      rfl
    · refine Good.step (g := fun k => billetlaw07_taken.l1 k rest (seenOf N seen) a (-1) ((0 : Nat) : Int) N (E.map Ed.toS) es 1) ?_ (fun k => by
        simp only [billetlaw07_taken.l0]
        rw [if_neg ha]; rfl)
      refine t1_good hN hl (fun x11 hx => ?_) _ 0 (-1) rfl (Nat.zero_le _) (Or.inl rfl)
      have c1 : ¬ ((E.length : Int) < (rest.length : Int)) := by omega
      rcases hx with rfl | ⟨j, rfl, hjl, hjf, hjr⟩
      · refine Good.now (es, 1, false, rest) ⟨rfl, fun h => by cases h⟩ fun k => ?_
        simp only [billetlaw07_taken.l1]
        rw [if_neg c1, if_pos (by decide)]
      · have hmem : E.getD j default ∈ E := by rw [List.getD_eq_getElem?_getD, List.getElem?_eq_getElem hjl]; exact List.getElem_mem hjl
        obtain ⟨e1, e2, e3, e4, e5⟩ := hN.2.2.2 _ hmem
        have g1 : (rd_T50 (E.map Ed.toS) (j : Int)).f1 = (E.getD j default).t := by rw [rdS E j hjl]; rfl
        have hsn : ((seenOf N seen).length : Int) = N := by rw [seenOf_len]
        by_cases hsn2 : (E.getD j default).t ∈ seen
        · refine Good.now (es, 1, false, rest) ⟨rfl, fun h => by cases h⟩ fun k => ?_
          simp only [billetlaw07_taken.l1]
          rw [if_neg c1, if_neg (by omega), if_pos (by omega), if_pos (by rw [List.length_map]; omega), g1, if_pos e2.1, if_pos (by rw [hsn]; exact e2.2), seen_rd e2, if_pos (decide_eq_true hsn2)]
        · obtain ⟨v, hv⟩ : ∃ v : Nat, (E.getD j default).t = v := ⟨(E.getD j default).t.toNat, by omega⟩
          have hset : (seenOf N seen).set (((E.getD j default).t : Int).toNat) true = seenOf N ((E.getD j default).t :: seen) := by
            rw [hv, Int.toNat_natCast, seenOf_cons _ _ _ (by omega)]
          refine (ih ((E.getD j default).t :: seen) (E.getD j default).t (es ++ [(j : Int)]) (by rw [List.length_cons]; omega) ?_ (fun e he => ?_)).step fun k => ?_
          · refine ⟨fun rest hr => ?_, ?_, by rw [List.length_append, List.length_cons]; simp; omega, List.nodup_cons.2 ⟨hsn2, hp.nodup⟩, fun u hu => ?_, List.mem_cons_self⟩
            · rw [List.append_assoc]
              refine hp.on _ ?_
              show SrcOk E a (j : Int) ∧ _
              rw [Int.toNat_natCast]
              exact ⟨⟨by omega, by omega, by rw [Int.toNat_natCast]; exact hjf⟩, hsn2, hr⟩
            · have := hp.hd
              rcases es with _ | ⟨b, es⟩
              · cases this
              · exact this
            · rcases List.mem_cons.1 hu with rfl | hu
              · exact e2
              · exact hp.within u hu
          · rcases List.mem_append.1 he with he | he
            · exact hpos e he
            · rw [List.mem_singleton.1 he, Int.toNat_natCast]; exact ⟨by omega, hjr⟩
          · simp only [billetlaw07_taken.l1]
            rw [if_neg c1, if_neg (by omega), if_pos (by omega), if_pos (by rw [List.length_map]; omega), g1, if_pos e2.1, if_pos (by rw [hsn]; exact e2.2), seen_rd e2, if_neg (by rw [decide_eq_false hsn2]; decide), if_pos (by omega), hset]
/-- The statement's taken. -/
theorem taken_good (hN : NetOk N E) (hN9 : N ≤ 9) (hl : rest.length = E.length) (hs : ∀ k, k < E.length → 0 ≤ rest.getD k 0 ∧ rest.getD k 0 ≤ 1000) (hsrc : SrcOk E 0 src) (hp : 0 < rest.getD src.toNat 0) :
    ∃ k r, TkAns N E rest src r ∧ billetlaw07_taken.f k N (E.map Ed.toS) rest src = some r := by
  have hN2 := hN.1
  obtain ⟨s0, s1, s2⟩ := hsrc
  obtain ⟨q, rfl⟩ : ∃ q : Nat, src = q := ⟨src.toNat, by omega⟩
  rw [Int.toNat_natCast] at s2 hp
  have hqE : q < E.length := by omega
  have hmem : E.getD q default ∈ E := by rw [List.getD_eq_getElem?_getD, List.getElem?_eq_getElem hqE]; exact List.getElem_mem hqE
  obtain ⟨e1, e2, e3, e4, e5⟩ := hN.2.2.2 _ hmem
  have g1 : (rd_T50 (E.map Ed.toS) (q : Int)).f1 = (E.getD q default).t := by rw [rdS E q hqE]; rfl
  obtain ⟨v, hv⟩ : ∃ v : Nat, (E.getD q default).t = v := ⟨(E.getD q default).t.toNat, by omega⟩
  have hrep : (List.replicate ((N : Int)).toNat false : List Bool) = seenOf N [] := by rw [Int.toNat_natCast, seenOf_nil]
  have hset : ((seenOf N []).set ((0 : Int)).toNat true).set (((E.getD q default).t : Int)).toNat true = seenOf N [(E.getD q default).t, 0] := by
    rw [show ((0 : Int)).toNat = 0 from rfl, ← seenOf_cons N [] 0 (by omega), hv, Int.toNat_natCast, ← seenOf_cons N _ v (by omega)]
    rfl
  have hsn : ((seenOf N []).length : Int) = N := by rw [seenOf_len]
  have hpart : Part N E (q : Int) [(E.getD q default).t, 0] (E.getD q default).t [(q : Int)] := by
    refine ⟨fun rest hr => ?_, rfl, rfl, ?_, fun u hu => ?_, List.mem_cons_self⟩
    · show SrcOk E 0 (q : Int) ∧ _
      rw [Int.toNat_natCast]
      exact ⟨⟨by omega, by omega, by rw [Int.toNat_natCast]; exact s2⟩, fun h => e3 (by rw [List.mem_singleton.1 h]; exact s2), hr⟩
    · rw [List.nodup_cons]
      exact ⟨fun h => e3 (by rw [List.mem_singleton.1 h]; exact s2), by simp⟩
    · rcases List.mem_cons.1 hu with rfl | hu
      · exact e2
      · rw [List.mem_singleton.1 hu]; omega
  obtain ⟨K, r, hr, h⟩ := t0_good (src := (q : Int)) hN hN9 hl hs _ [(E.getD q default).t, 0] _ [(q : Int)] rfl hpart (fun e he => by rw [List.mem_singleton.1 he, Int.toNat_natCast]; exact ⟨by omega, hp⟩)
  refine ⟨K, r, hr, ?_⟩
  unfold billetlaw07_taken.f
  rw [if_pos (by omega), if_pos (by omega)]
  simp only [Option.bind_some]
  rw [hrep, if_pos (by rw [hsn]; omega), if_pos (by omega), if_pos (by rw [List.length_map]; omega), g1, if_pos e2.1, if_pos (by rw [hsn]; exact e2.2), hset]
  exact h K (Nat.le_refl _)
end
end Go.Proofs.Ytlpccebackmahaa

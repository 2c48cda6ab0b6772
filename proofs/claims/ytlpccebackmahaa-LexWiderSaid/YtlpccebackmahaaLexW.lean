/- Layer 7: lex.task's small functions: isVertex, isSource, right$1, notWay, try. -/
import Derived.Test.YtlpccebackmahaaLexU
set_option linter.unusedVariables false
set_option linter.unusedSimpArgs false
namespace Go.Proofs.Ytlpccebackmahaa
open Go.RowKit

/-- A task's value. -/
def taskV (N s t : Int) (A B : Option Addr) (n c m d : Nat) : Value := .agg #[.int .i64 N, .slice A n c, .int .i64 s, .int .i64 t, .slice B m d]
set_option maxHeartbeats 1000000 in
theorem isVertex_any (N s t v : Int) (A B : Option Addr) (n c m d : Nat) (w : World) :
    Calls Try.prog 36 #[taskV N s t A B n c m d, .int .i64 v] w fun e w' => e = .returned (.bool (decide (0 ≤ v ∧ v < N))) ∧ Kept w w' := by
  unfold taskV
  go_enter Try.func36, Try.ntmps36
  go_wp2
  all_goals (go_ret; exact ⟨ret_boolI (by by_cases h1 : 0 ≤ v <;> by_cases h2 : v < N <;> simp [h1, h2] <;> omega), (Only.refl _ _).alloc _⟩)
set_option maxHeartbeats 1000000 in
theorem isSource_any (N s t i : Int) (A B : Option Addr) (c m d : Nat) (E : List Ed) (w : World) (hE : ReadsE w A E) :
    Calls Try.prog 27 #[taskV N s t A B E.length c m d, .int .i64 i] w fun e w' => e = .returned (.bool (decide (SrcOk E s i))) ∧ Kept w w' := by
  have lE := hE.len
  unfold maxLen at lE
  unfold taskV
  have HE := Lib.hid hE
  clear hE
  by_cases h0 : 0 ≤ i
  · by_cases h1 : i < E.length
    · obtain ⟨k, rfl⟩ : ∃ k : Nat, i = k := ⟨i.toNat, by omega⟩
      obtain ⟨bk, off, rfl, lb, lb0, e0, _, _⟩ := edge_at2 HE.out (show k < E.length by omega) (Only.refl _ w)
      have hd : decide (SrcOk E s k) = ((E.getD k default).f == s) := by
        by_cases h : (E.getD k default).f = s
        · rw [decide_eq_true (show SrcOk E s k from ⟨h0, h1, h⟩)]; exact (beq_iff_eq.2 h).symm
        · rw [decide_eq_false (fun x : SrcOk E s k => h x.2.2)]; exact (beq_eq_false_iff_ne.2 h).symm
      rw [hd]
      clear hd
      generalize (E.getD k default).f = f at *
      have g1 : decide ((0 : Int) ≤ (k : Int)) = true := decide_eq_true h0
      have g2 : decide ((k : Int) < (E.length : Int)) = true := decide_eq_true h1
      have g3 : k < E.length := by omega
      have g4 : decide (k < E.length) = true := decide_eq_true g3
      go_enter Try.func27, Try.ntmps27
      go_wp2
      go_quiet (fail)
      go_wp2
      go_ret
      exact ⟨rfl, ((Only.refl _ _).alloc _).drewN _⟩
    · have hd : decide (SrcOk E s i) = false := decide_eq_false (fun x => h1 x.2.1)
      rw [hd]
      clear hd
      have g1 : decide ((0 : Int) ≤ i) = true := decide_eq_true h0
      have g2 : decide (i < (E.length : Int)) = false := decide_eq_false h1
      go_enter Try.func27, Try.ntmps27
      go_wp2
      go_quiet (fail)
      go_wp2
      go_ret
      exact ⟨rfl, ((Only.refl _ _).alloc _).drewN _⟩
  · have hd : decide (SrcOk E s i) = false := decide_eq_false (fun x => h0 x.1)
    rw [hd]
    clear hd
    have g1 : decide ((0 : Int) ≤ i) = false := decide_eq_false h0
    go_enter Try.func27, Try.ntmps27
    go_wp2
    go_quiet (fail)
    go_wp2
    go_ret
    exact ⟨rfl, ((Only.refl _ _).alloc _).drewN _⟩
set_option maxHeartbeats 1000000 in
theorem right1L_any (N s t i : Int) (A B : Option Addr) (c m d X : Nat) (E : List Ed) (w : World) (hE : ReadsE w A E) (hX : X < w.heap.size) (h0 : w.cell? ⟨X, 0, none⟩ = some (.int .i64 N)) (h1 : w.cell? ⟨X, 1, none⟩ = some (.slice A E.length c)) (h2 : w.cell? ⟨X, 2, none⟩ = some (.int .i64 s)) (h3 : w.cell? ⟨X, 3, none⟩ = some (.int .i64 t)) (h4 : w.cell? ⟨X, 4, none⟩ = some (.slice B m d)) :
    Calls Try.prog 41 #[.int .i64 i, .pointer (some ⟨X, 0, none⟩)] w fun e w' => e = .returned (.bool (!decide (SrcOk E s i))) ∧ Kept w w' := by
  have hc := isSource_any N s t i A B c m d E w hE
  unfold taskV at hc
  have HC := Lib.hid hc
  clear hc hE
  generalize decide (SrcOk E s i) = b at *
  go_enter Try.func41, Try.ntmps41
  go_wp2_with (go_at_call 27; refine HC.out.mono ?_; rintro e w' ⟨rfl, hb⟩; have HB := Lib.hid hb; clear hb)
  go_ret
  exact ⟨rfl, HB.out⟩
def GoodWay (N : Int) (E : List Ed) (s t : Int) (x : WayR0) : Prop := (x.es.length : Int) ≤ N ∧ (0 ≤ x.count ∧ x.count ≤ 1000) ∧ walkI E t [s] s x.es
instance (N : Int) (E : List Ed) (s t : Int) (x : WayR0) : Decidable (GoodWay N E s t x) := by unfold GoodWay; infer_instance
theorem RowB.made0 (w : World) (n : Nat) : RowB (w.alloc (.cells (Array.replicate n (.bool false)) 4)) w.heap.size (seenOf n []) := by
  rw [seenOf_nil]
  exact RowB.made w n

set_option maxHeartbeats 4000000 in
set_option maxRecDepth 100000 in
theorem notWay_any (N s t : Int) (A B : Option Addr) (c m d : Nat) (E : List Ed) (x : WayR0) (w : World) (hE : ReadsE w A E) (hx : ReadsI w x.eA x.es) (hN : NetOk N E) (hs : 0 ≤ s ∧ s < N) :
    Calls Try.prog 23 #[taskV N s t A B E.length c m d, x.val] w fun e w' => e = .returned (.bool (!decide (GoodWay N E s t x))) ∧ Kept w w' := by
  have n2 := hN.1
  have n3 := hN.2.1
  have lE := hN.2.2.1
  have hEn := hN.ends
  obtain ⟨n, rfl⟩ : ∃ n : Nat, N = n := ⟨N.toNat, by omega⟩
  rw [Int.toNat_natCast] at *
  obtain ⟨es, ct, eA, ec⟩ := x
  unfold WayR0.val GoodWay taskV
  simp only at hx ⊢
  have le := hx.len
  unfold maxLen at le
  obtain ⟨hs1, hs2⟩ := hs
  obtain ⟨sn, rfl⟩ : ∃ sn : Nat, s = sn := ⟨s.toNat, by omega⟩
  have hmb := make_bools n (by omega)
  have hsn : sn < n := by omega
  have HE := Lib.hid hE
  have HX := Lib.hid hx
  have HEN := Lib.hid hEn
  clear hE hx hEn hN hs1
  by_cases h1 : (es.length : Int) ≤ n ∧ 0 ≤ ct ∧ ct ≤ 1000
  · obtain ⟨h1, h3, h4⟩ := h1
    have hdec : (!decide ((es.length : Int) ≤ n ∧ (0 ≤ ct ∧ ct ≤ 1000) ∧ walkI E t [(sn : Int)] sn es)) = !decide (walkI E t [(sn : Int)] sn es) := by rw [bool_iff ⟨fun h => h.2.2, fun h => ⟨h1, ⟨h3, h4⟩, h⟩⟩]
    rw [hdec]
    clear hdec
    go_enter Try.func23, Try.ntmps23
    go_wp2
    clear hmb
    try (rename _ ∧ ¬ _ => hcond; clear hcond)
    try (rename _ ∧ (_ : Int) ≤ _ => hcond; clear hcond)
    go_loopw [6, 35] (fun va i wr => ∃ (k un : Nat) (sl : List Int), k ≤ es.length ∧ i = .int .i64 k ∧ va = .int .i64 un ∧ un < n ∧ (walkI E t ((un : Int) :: sl) un (es.drop k) ↔ walkI E t [(sn : Int)] sn es) ∧ RowB wr (w.heap.size + 2) (seenOf n sl) ∧
      Kept ((w.alloc (.cells #[.int .i64 n, .slice A E.length c, .int .i64 sn, .int .i64 t, .slice B m d] 54)).alloc (.cells #[.slice eA es.length ec, .int .i64 ct] 44)) wr) (fun _ i _ => es.length - (intOf i).toNat)
    case atStart =>
      refine ⟨0, sn, [], Nat.zero_le _, rfl, rfl, hsn, Iff.rfl, ?_, (Only.refl (fun _ => False) _).alloc _⟩
      have := RowB.made0 ((w.alloc (.cells #[.int .i64 n, .slice A E.length c, .int .i64 sn, .int .i64 t, .slice B m d] 54)).alloc (.cells #[.slice eA es.length ec, .int .i64 ct] 44)) n
      simpa using this
    case round =>
      obtain ⟨k, un, sl, hk, rfl, rfl, hun, hiff, hrow, ho⟩ := hrel
      have q0 := (ho.cell (p := ⟨w.heap.size, 0, none⟩) (by simp; omega) (fun x => x)).trans (show _ = some (.int .i64 (n : Int)) by simp [World.cell?_alloc_new])
      have q1 := (ho.cell (p := ⟨w.heap.size, 1, none⟩) (by simp; omega) (fun x => x)).trans (show _ = some (.slice A E.length c) by simp [World.cell?_alloc_new])
      have q2 := (ho.cell (p := ⟨w.heap.size, 3, none⟩) (by simp; omega) (fun x => x)).trans (show _ = some (.int .i64 t) by simp [World.cell?_alloc_new])
      have r1 := hrow.at (i := un) (by rw [seenOf_len]; exact hun)
      have r2 := hrow.fr un
      have HO := Lib.hid ho
      have HR := Lib.hid hrow
      have HI := Lib.hid hiff
      have hrl := hrow.lt
      have hkp : Kept w wr := (((Only.refl _ w).alloc _).alloc _).trans ho
      have HKP := Lib.hid hkp
      have HRS := Lib.hid (show RowB (wr.setCell ⟨w.heap.size + 2, un, none⟩ (.bool true)) (w.heap.size + 2) (seenOf n ((un : Int) :: sl)) by rw [seenOf_cons n sl un hun]; exact hrow.set (by rw [seenOf_len]; exact hun) true)
      clear ho hrow hiff hkp
      generalize (seenOf n sl).getD un false = ob at *
      by_cases hlt : k < es.length
      · obtain ⟨bk, off, rfl, _, bl0, ei⟩ := int_at2 HX.out hlt HKP.out
        have hne1 : bk ≠ w.heap.size + 2 := by omega
        have hwc := walkI_cons (E := E) (t := t) (sl := (un : Int) :: sl) (u := un) (i := es.getD k 0) (es := es.drop (k + 1))
        rw [← drop_cons hlt] at hwc
        by_cases hin : 0 ≤ es.getD k 0 ∧ es.getD k 0 < E.length
        · obtain ⟨hi0, hi1⟩ := hin
          obtain ⟨i, hi⟩ : ∃ i : Nat, es.getD k 0 = i := ⟨(es.getD k 0).toNat, by omega⟩
          rw [hi] at hi0 hi1 ei hwc
          rw [Int.toNat_natCast] at hwc
          obtain ⟨bk2, off2, rfl, lb2, lb20, e0', e1', e2'⟩ := edge_at2 HE.out (show i < E.length by omega) HKP.out
          have hne2 : bk2 ≠ w.heap.size + 2 := by omega
          obtain ⟨_, ⟨et0, et1⟩, _⟩ := HEN.out.at (show i < E.length by omega)
          obtain ⟨t', ht'⟩ : ∃ t' : Nat, (E.getD i default).t = t' := ⟨(E.getD i default).t.toNat, by omega⟩
          rw [ht'] at e1' et1 hwc
          have ht2 : t' < n := by omega
          have sv := HRS.out.at (i := t') (by rw [seenOf_len]; exact ht2)
          rw [seenOf_get _ _ _ ht2] at sv
          have hsrc : SrcOk E un i ↔ (E.getD i default).f = un := ⟨fun h => h.2.2, fun h => ⟨hi0, hi1, h⟩⟩
          have HW := Lib.hid hwc
          have HSR := Lib.hid hsrc
          clear hwc hsrc e2' et0 hi hi0 ht'
          by_cases hf : (E.getD i default).f = un
          · rw [hf] at e0'
            by_cases hsn2 : (t' : Int) ∈ (un : Int) :: sl
            · rw [decide_eq_true hsn2] at sv
              have HS2 := Lib.hid hsn2
              have HF2 := Lib.hid hf
              clear hsn2 hf
              go_wp2
              go_ret
              exact ⟨ret_boolI (by rw [Bool.eq_iff_iff, Bool.not_eq_true', decide_eq_false_iff_not]; exact ⟨fun _ h => by rw [← HI.out, HW.out] at h; exact h.2.1 HS2.out, fun _ => rfl⟩), HKP.out.store _ _ (fun h => absurd h (by simp; omega)) _⟩
            · rw [decide_eq_false hsn2] at sv
              have HS2 := Lib.hid hsn2
              have HF2 := Lib.hid hf
              clear hsn2 hf
              go_wp2
              go_roundw
              case rel =>
                refine ⟨k + 1, t', (un : Int) :: sl, by omega, by go_num, rfl, ht2, ?_, HRS.out, HO.out.store _ _ (fun h => absurd h (by simp)) _⟩
                rw [← HI.out, HW.out]
                exact ⟨fun h => ⟨HSR.out.2 HF2.out, HS2.out, h⟩, fun h => h.2.2⟩
              case measure => simp [intOf]; omega
          · have hbf : ((E.getD i default).f == (un : Int)) = false := by simpa using hf
            have HF2 := Lib.hid hf
            clear hf
            generalize (E.getD i default).f = ef at *
            go_wp2
            go_ret
            exact ⟨ret_boolI (by rw [Bool.eq_iff_iff, Bool.not_eq_true', decide_eq_false_iff_not]; exact ⟨fun _ h => by rw [← HI.out, HW.out] at h; exact HF2.out (HSR.out.1 h.1), fun _ => rfl⟩), HKP.out.store _ _ (fun h => absurd h (by simp; omega)) _⟩
        · have hno : decide (walkI E t [(sn : Int)] sn es) = false := by
            rw [decide_eq_false_iff_not, ← HI.out, hwc]
            exact fun h => hin ⟨h.1.1, h.1.2.1⟩
          have HNO := Lib.hid hno
          clear hno hwc
          generalize es.getD k 0 = i at *
          by_cases hi0 : i < 0
          · clear hin
            go_wp2
            go_ret
            exact ⟨ret_boolI (by rw [HNO.out]; rfl), HKP.out.store _ _ (fun h => absurd h (by simp; omega)) _⟩
          · have hi1 : (E.length : Int) ≤ i := by omega
            have hi2 : 0 ≤ i := by omega
            clear hin hi0
            go_wp2
            go_ret
            exact ⟨ret_boolI (by rw [HNO.out]; rfl), HKP.out.store _ _ (fun h => absurd h (by simp; omega)) _⟩
      · obtain rfl : k = es.length := by omega
        rw [List.drop_length] at HI
        clear hlt
        go_wp2
        go_ret
        exact ⟨ret_boolI (by rw [← bool_iff HI.out, bool_iff (walkI_nil (E := E))]; by_cases h : (un : Int) = t <;> simp [h]), HKP.out⟩
  · have hno : decide ((es.length : Int) ≤ n ∧ (0 ≤ ct ∧ ct ≤ 1000) ∧ walkI E t [(sn : Int)] sn es) = false := decide_eq_false (fun h => h1 ⟨h.1, h.2.1.1, h.2.1.2⟩)
    rw [hno]
    clear hno
    by_cases c1 : ct < 0
    · clear h1
      go_enter Try.func23, Try.ntmps23
      go_wp2
      go_ret
      exact ⟨rfl, ((Only.refl _ _).alloc _).alloc _⟩
    · by_cases c2 : 1000 < ct
      · clear h1
        go_enter Try.func23, Try.ntmps23
        go_wp2
        go_ret
        exact ⟨rfl, ((Only.refl _ _).alloc _).alloc _⟩
      · have c3 : (n : Int) < es.length := by omega
        have c4 : 0 ≤ ct := by omega
        have c5 : ct ≤ 1000 := by omega
        clear h1 c1 c2
        go_enter Try.func23, Try.ntmps23
        go_wp2
        go_ret
        exact ⟨rfl, ((Only.refl _ _).alloc _).alloc _⟩
end Go.Proofs.Ytlpccebackmahaa

/- Layer 7: billetref05: fits, out, Good, where they say yes. -/
import Derived.Test.YtlpccebackmahaaLexE
set_option linter.unusedVariables false
set_option linter.unusedSimpArgs false
namespace Go.Proofs.Ytlpccebackmahaa
open Go.RowKit

/-- What leaves v less what comes in, of the first k edges. -/
def outK (E : List Ed) (fl : List Int) (v : Int) (k : Nat) : Int := lsum (List.range k) fun i => (if (E.getD i default).f = v then fl.getD i 0 else 0) - (if (E.getD i default).t = v then fl.getD i 0 else 0)
theorem outK_zero (E : List Ed) (fl : List Int) (v : Int) : outK E fl v 0 = 0 := rfl
theorem outK_succ (E : List Ed) (fl : List Int) (v : Int) (k : Nat) : outK E fl v (k + 1) = outK E fl v k + ((if (E.getD k default).f = v then fl.getD k 0 else 0) - (if (E.getD k default).t = v then fl.getD k 0 else 0)) := by
  unfold outK
  rw [List.range_succ, lsum_append]
  simp [lsum]
theorem outK_all {E : List Ed} {fl : List Int} (hl : fl.length = E.length) (v : Int) : outK E fl v E.length = outF (E.zip fl) v := by
  unfold outF outK
  rw [zip_range hl, lsum_map]
/-- A flow whose numbers are small. -/
def Small (fl : List Int) : Prop := ∀ i, 0 ≤ fl.getD i 0 ∧ fl.getD i 0 ≤ 1000
theorem outK_small {E : List Ed} {fl : List Int} (h : Small fl) (v : Int) (k : Nat) : -(1000 * (k : Int)) ≤ outK E fl v k ∧ outK E fl v k ≤ 1000 * k := by
  induction k with
  | zero => rw [outK_zero]; omega
  | succ k ih =>
    rw [outK_succ]
    have := h k
    split <;> split <;> omega
theorem NetOk.caps {N : Int} {E : List Ed} (h : NetOk N E) (i : Nat) : 0 ≤ (E.getD i default).c ∧ (E.getD i default).c ≤ 1000 := by
  rw [List.getD_eq_getElem?_getD]
  by_cases hi : i < E.length
  · rw [List.getElem?_eq_getElem hi]; exact (h.2.2.2 _ (List.getElem_mem hi)).2.2.2
  · rw [List.getElem?_eq_none (by omega)]; exact ⟨Int.le_refl 0, by decide⟩
theorem NetOk.ends {N : Int} {E : List Ed} (h : NetOk N E) : Ends N.toNat E := by
  obtain ⟨h1, h2, h3, h4⟩ := h
  have hN : ((N.toNat : Nat) : Int) = N := by omega
  intro e he
  rw [hN]
  exact ⟨(h4 e he).1, (h4 e he).2.1, (h4 e he).2.2.1⟩
theorem Okf.small {n : Nat} {N : Int} {E : List Ed} {fl : List Int} {s t : Int} (h : Okf n E fl s t) (hN : NetOk N E) : Small fl := by
  intro i
  by_cases hi : i < E.length
  · have := h.fit i hi
    have := hN.caps i
    omega
  · rw [List.getD_eq_getElem?_getD, List.getElem?_eq_none (by rw [h.len]; omega)]
    exact ⟨Int.le_refl 0, by decide⟩
theorem int_at {w : World} {A : Option Addr} {xs : List Int} (h : ReadsI w A xs) {i : Nat} (hi : i < xs.length) {wr : World} (ho : Kept w wr) : ∃ bk off, A = some ⟨bk, off, none⟩ ∧ bk < wr.heap.size ∧ wr.cell? ⟨bk, off + i, none⟩ = some (.int .i64 (xs.getD i 0)) := (h.fix ho).cell i hi
/-- A network's own box. -/
def netObj (N : Int) (A : Option Addr) (n c : Nat) : Obj := .cells #[.int .i64 N, .slice A n c] 24
theorem box_at {w wr : World} {N : Int} {A : Option Addr} {n c : Nat} (h : Kept (w.alloc (.cells #[.int .i64 N, .slice A n c] 24)) wr) :
    wr.cell? ⟨w.heap.size, 0, none⟩ = some (.int .i64 N) ∧ wr.cell? ⟨w.heap.size, 1, none⟩ = some (.slice A n c) ∧ w.heap.size < wr.heap.size :=
  ⟨(h.cell (p := ⟨w.heap.size, 0, none⟩) (by simp) (fun x => x)).trans (by simp [World.cell?_alloc_new]), (h.cell (p := ⟨w.heap.size, 1, none⟩) (by simp) (fun x => x)).trans (by simp [World.cell?_alloc_new]), Nat.lt_of_lt_of_le (by simp) h.size⟩

set_option maxHeartbeats 1000000 in
theorem r5fits_yes (N : Int) (A B : Option Addr) (c d : Nat) (E : List Ed) (fl : List Int) (w : World) (hE : ReadsE w A E) (hF : ReadsI w B fl) (hN : NetOk N E) (hl : fl.length = E.length)
    (hfit : ∀ i, i < E.length → 0 ≤ fl.getD i 0 ∧ fl.getD i 0 ≤ (E.getD i default).c) :
    Calls Try.prog 33 #[.agg #[.int .i64 N, .slice A E.length c], .slice B fl.length d] w fun e w' => e = .returned (.bool true) ∧ Kept w w' := by
  have lE := hE.len
  unfold maxLen at lE
  have hcall := r5right_any N A c E (w.alloc (.cells #[.int .i64 N, .slice A E.length c] 24)) (hE.fix ((Only.refl _ _).alloc _))
  rw [show decide (NetOk N E) = true from decide_eq_true hN] at hcall
  have HC := Lib.hid hcall
  have HF := Lib.hid hF
  have HE := Lib.hid hE
  have HFi := Lib.hid hfit
  clear hcall hF hE hfit hN
  rw [hl]
  have HL := Lib.hid hl
  clear hl
  go_enter Try.func33, Try.ntmps33
  go_wp2_with (go_at_call 48; refine HC.out.mono ?_; rintro e w' ⟨rfl, hb⟩; obtain ⟨m0, m1, mb⟩ := box_at hb; have HB := Lib.hid hb; clear hb)
  go_loopw [6] (fun i wr => ∃ k : Nat, k ≤ E.length ∧ i = .int .i64 k ∧ Kept (w.alloc (.cells #[.int .i64 N, .slice A E.length c] 24)) wr) (fun i _ => E.length - (intOf i).toNat)
  case atStart => exact ⟨0, Nat.zero_le _, rfl, HB.out⟩
  case round =>
    obtain ⟨k, hk, rfl, ho⟩ := hrel
    obtain ⟨n0, n1, nb⟩ := box_at ho
    have HO := Lib.hid ho
    clear ho
    by_cases hlt : k < E.length
    · obtain ⟨bk, off, rfl, lb, e0, e1, e2⟩ := edge_at HE.out hlt (((Only.refl _ w).alloc _).trans HO.out)
      obtain ⟨bk2, off2, rfl, lb2, e3⟩ := int_at HF.out (by rw [HL.out]; exact hlt) (((Only.refl _ w).alloc _).trans HO.out)
      obtain ⟨f1, f2⟩ := HFi.out k hlt
      clear e0 e1
      generalize fl.getD k 0 = x at *
      generalize (E.getD k default).c = y at *
      go_wp2
      go_quiet (fail)
      go_wp2
      go_roundw
      case rel => exact ⟨k + 1, by omega, by go_num, HO.out.drewN _⟩
      case measure => simp [intOf]; omega
    · obtain rfl : k = E.length := by omega
      go_wp2
      go_ret
      exact ⟨rfl, ((Only.refl _ _).alloc _).trans HO.out⟩
set_option maxHeartbeats 1000000 in
theorem r5out_any (N v : Int) (A B : Option Addr) (c d : Nat) (E : List Ed) (fl : List Int) (w : World) (hE : ReadsE w A E) (hF : ReadsI w B fl) (hl : fl.length = E.length) (hm : E.length ≤ 256) (hs : Small fl) :
    Calls Try.prog 34 #[.agg #[.int .i64 N, .slice A E.length c], .slice B fl.length d, .int .i64 v] w fun e w' => e = .returned (.int .i64 (outF (E.zip fl) v)) ∧ Kept w w' := by
  have HF := Lib.hid hF
  have HE := Lib.hid hE
  have HS := Lib.hid hs
  rw [← outK_all hl]
  clear hF hE hs
  rw [hl]
  have HL := Lib.hid hl
  clear hl
  go_enter Try.func34, Try.ntmps34
  go_wp2
  go_loopw [7, 8] (fun sum i wr => ∃ k : Nat, k ≤ E.length ∧ i = .int .i64 k ∧ sum = .int .i64 (outK E fl v k) ∧ Kept (w.alloc (.cells #[.int .i64 N, .slice A E.length c] 24)) wr) (fun _ i _ => E.length - (intOf i).toNat)
  case atStart => exact ⟨0, Nat.zero_le _, rfl, by rw [outK_zero], Only.refl _ _⟩
  case round =>
    obtain ⟨k, hk, rfl, rfl, ho⟩ := hrel
    obtain ⟨n0, n1, nb⟩ := box_at ho
    have HO := Lib.hid ho
    clear ho
    obtain ⟨b1, b2⟩ := outK_small (E := E) HS.out v k
    by_cases hlt : k < E.length
    · obtain ⟨bk, off, rfl, lb, e0, e1, e2⟩ := edge_at HE.out hlt (((Only.refl _ w).alloc _).trans HO.out)
      obtain ⟨bk2, off2, rfl, lb2, e3⟩ := int_at HF.out (by rw [HL.out]; exact hlt) (((Only.refl _ w).alloc _).trans HO.out)
      obtain ⟨f1, f2⟩ := HS.out k
      have hs := outK_succ E fl v k
      clear e2
      generalize outK E fl v k = m at *
      generalize fl.getD k 0 = x at *
      generalize (E.getD k default).f = ef at *
      generalize (E.getD k default).t = et at *
      by_cases h1 : ef = v
      · by_cases h2 : et = v
        · rw [if_pos h1, if_pos h2] at hs
          have HH := Lib.hid hs
          clear hs
          go_wp2
          go_roundw
          case rel => exact ⟨k + 1, by omega, by go_num, by rw [HH.out]; go_num, HO.out⟩
          case measure => simp [intOf]; omega
        · rw [if_pos h1, if_neg h2] at hs
          have HH := Lib.hid hs
          clear hs
          go_wp2
          go_roundw
          case rel => exact ⟨k + 1, by omega, by go_num, by rw [HH.out]; go_num, HO.out⟩
          case measure => simp [intOf]; omega
      · by_cases h2 : et = v
        · rw [if_neg h1, if_pos h2] at hs
          have HH := Lib.hid hs
          clear hs
          go_wp2
          go_roundw
          case rel => exact ⟨k + 1, by omega, by go_num, by rw [HH.out]; go_num, HO.out⟩
          case measure => simp [intOf]; omega
        · rw [if_neg h1, if_neg h2] at hs
          have HH := Lib.hid hs
          clear hs
          go_wp2
          go_roundw
          case rel => exact ⟨k + 1, by omega, by go_num, by rw [HH.out]; go_num, HO.out⟩
          case measure => simp [intOf]; omega
    · obtain rfl : k = E.length := by omega
      go_wp2
      go_ret
      exact ⟨rfl, ((Only.refl _ _).alloc _).trans HO.out⟩

set_option maxHeartbeats 1000000 in
theorem r5good_yes (N s t : Int) (A B : Option Addr) (c d : Nat) (E : List Ed) (fl : List Int) (w : World) (hE : ReadsE w A E) (hF : ReadsI w B fl) (hN : NetOk N E) (hf : Okf N.toNat E fl s t) (hs : 0 ≤ s ∧ s < N) (ht : 0 ≤ t ∧ t < N) (hst : s ≠ t) :
    Calls Try.prog 17 #[.agg #[.int .i64 N, .slice A E.length c], .slice B fl.length d, .int .i64 s, .int .i64 t] w fun e w' => e = .returned (.bool true) ∧ Kept w w' := by
  have hcall := r5fits_yes N A B c d E fl (w.alloc (.cells #[.int .i64 N, .slice A E.length c] 24)) (hE.fix ((Only.refl _ _).alloc _)) (hF.fix ((Only.refl _ _).alloc _)) hN hf.len hf.fit
  have HC := Lib.hid hcall
  have hout : ∀ (v : Nat) W, Kept w W → (v : Int) < N → v ≠ s → v ≠ t → Calls Try.prog 34 #[.agg #[.int .i64 N, .slice A E.length c], .slice B fl.length d, .int .i64 v] W fun e w' => e = .returned (.int .i64 0) ∧ Kept W w' := fun v W hW h1 h2 h3 => by
    rw [← hf.bal v (by omega) (by omega) h2 h3]
    exact r5out_any N v A B c d E fl W (hE.fix hW) (hF.fix hW) hf.len hN.2.2.1 (hf.small hN)
  have HO := Lib.hid hout
  have n2 := hN.1
  have n3 := hN.2.1
  obtain ⟨hs1, hs2⟩ := hs
  obtain ⟨ht1, ht2⟩ := ht
  clear hcall hout hE hF hN hf
  have hbst : (s == t) = false := by simpa using hst
  go_enter Try.func17, Try.ntmps17
  go_wp2_with (go_at_call 33; refine HC.out.mono ?_; rintro e w' ⟨rfl, hb⟩; obtain ⟨m0, m1, mb⟩ := box_at hb; have HB := Lib.hid hb; clear hb)
  go_loopw [10] (fun i wr => ∃ k : Nat, (k : Int) ≤ N ∧ i = .int .i64 k ∧ Kept (w.alloc (.cells #[.int .i64 N, .slice A E.length c] 24)) wr) (fun i _ => (N - intOf i).toNat)
  case atStart => exact ⟨0, by omega, rfl, HB.out⟩
  case round =>
    obtain ⟨k, hk, rfl, ho⟩ := hrel
    obtain ⟨n0, n1, nb⟩ := box_at ho
    have HH := Lib.hid ho
    clear ho
    by_cases hlt : (k : Int) < N
    · by_cases h1 : (k : Int) = s
      · go_wp2
        go_roundw
        case rel => exact ⟨k + 1, by omega, by go_num, HH.out⟩
        case measure => simp [intOf]; omega
      · by_cases h2 : (k : Int) = t
        · go_wp2
          go_roundw
          case rel => exact ⟨k + 1, by omega, by go_num, HH.out⟩
          case measure => simp [intOf]; omega
        · have HQ := Lib.hid (HO.out k wr (((Only.refl _ _).alloc _).trans HH.out) hlt h1 h2)
          clear HO
          go_wp2_with (go_at_call 34; refine HQ.out.mono ?_; rintro e w' ⟨rfl, hb⟩; have HB2 := Lib.hid hb; clear hb)
          go_roundw
          case rel => exact ⟨k + 1, by omega, by go_num, HH.out.trans HB2.out⟩
          case measure => simp [intOf]; omega
    · go_wp2
      go_ret
      exact ⟨rfl, ((Only.refl _ _).alloc _).trans HH.out⟩
end Go.Proofs.Ytlpccebackmahaa

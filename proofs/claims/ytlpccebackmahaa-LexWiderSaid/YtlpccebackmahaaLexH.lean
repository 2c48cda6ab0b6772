/- Layer 7: graph.Good where it says yes. -/
import Derived.Test.YtlpccebackmahaaLexG
import Derived.Deep.RegionWith
set_option linter.unusedVariables false
set_option linter.unusedSimpArgs false
namespace Go.Proofs.Ytlpccebackmahaa
open Go.RowKit

set_option maxHeartbeats 1000000 in
theorem gfits_yes (N : Int) (A B : Option Addr) (c d : Nat) (E : List Ed) (fl : List Int) (w : World) (hE : ReadsE w A E) (hF : ReadsI w B fl) (hN : NetOk N E) (hl : fl.length = E.length)
    (hfit : ∀ i, i < E.length → 0 ≤ fl.getD i 0 ∧ fl.getD i 0 ≤ (E.getD i default).c) :
    Calls Try.prog 59 #[.agg #[.int .i64 N, .slice A E.length c], .slice B fl.length d] w fun e w' => e = .returned (.bool true) ∧ Kept w w' := by
  have lE := hE.len
  unfold maxLen at lE
  have hcall := gright_any N A c E (w.alloc (.cells #[.int .i64 N, .slice A E.length c] 24)) (hE.fix ((Only.refl _ _).alloc _))
  rw [show decide (NetOk N E) = true from decide_eq_true hN] at hcall
  have HC := Lib.hid hcall
  have HF := Lib.hid hF
  have HE := Lib.hid hE
  have HFi := Lib.hid hfit
  clear hcall hF hE hfit hN
  rw [hl]
  have HL := Lib.hid hl
  clear hl
  go_enter Try.func59, Try.ntmps59
  go_wp2_with (go_at_call 35; refine HC.out.mono ?_; rintro e w' ⟨rfl, hb⟩; obtain ⟨m0, m1, mb⟩ := box_at hb; have HB := Lib.hid hb; clear hb)
  go_loopw [5, 6, 21] (fun _ _ i wr => ∃ k : Nat, k ≤ E.length ∧ i = .int .i64 k ∧ Kept w wr) (fun _ _ i _ => E.length - (intOf i).toNat)
  case atStart => exact ⟨0, Nat.zero_le _, rfl, ((Only.refl _ _).alloc _).trans HB.out⟩
  case round =>
    obtain ⟨k, hk, rfl, ho⟩ := hrel
    have HO := Lib.hid ho
    clear ho
    by_cases hlt : k < E.length
    · obtain ⟨bk, off, rfl, lb, e0, e1, e2⟩ := edge_at HE.out hlt HO.out
      obtain ⟨bk2, off2, rfl, lb2, e3⟩ := int_at HF.out (by rw [HL.out]; exact hlt) HO.out
      obtain ⟨f1, f2⟩ := HFi.out k hlt
      generalize fl.getD k 0 = x at *
      generalize (E.getD k default).c = y at *
      generalize (E.getD k default).f = f at *
      generalize (E.getD k default).t = t at *
      have HW := Lib.hid (fun W => within_any x 0 y W)
      rw [show decide ((0 : Int) ≤ x ∧ x ≤ y) = true from decide_eq_true ⟨f1, f2⟩] at HW
      go_wp2
      go_region_with (go_at_call 52; refine (HW.out _).mono ?_; rintro e w' ⟨rfl, rfl⟩)
      all_goals go_wp2
      all_goals go_roundw
      all_goals first | exact ⟨k + 1, by omega, by go_num, (HO.out.alloc _).drew⟩ | (simp [intOf]; omega)
    · obtain rfl : k = E.length := by omega
      go_wp2
      go_ret
      exact ⟨rfl, HO.out⟩
set_option maxHeartbeats 1000000 in
theorem contI0_any (p : Int → Bool) (A : Option Addr) (c : Nat) (xs : List Int) (w : World) (hE : ReadsI w A xs)
    (hp : ∀ W i, Kept w W → i < xs.length → Calls Try.prog 61 #[.int .i64 (xs.getD i 0)] W fun e w' => e = .returned (.bool (p (xs.getD i 0))) ∧ Kept W w') :
    Calls Try.prog 58 #[.slice A xs.length c, .func (.func 61) #[] #[]] w fun e w' => Kept w w' ∧ ∃ r : Int, e = .returned (.int .i64 r) ∧ xs.any p = decide (0 ≤ r) := by
  have lE := hE.len
  unfold maxLen at lE
  go_enter Try.func58, Try.ntmps58
  go_wp2
  go_loopw [5, 8] (fun _ i wr => ∃ k : Nat, k ≤ xs.length ∧ i = .int .i64 k ∧ (∀ j, j < k → p (xs.getD j 0) = false) ∧ Kept w wr) (fun _ i _ => xs.length - (intOf i).toNat)
  case atStart => exact ⟨0, Nat.zero_le _, rfl, fun j hj => absurd hj (by omega), Only.refl _ _⟩
  case round =>
    obtain ⟨k, hk, rfl, hok, ho⟩ := hrel
    have HO := Lib.hid ho
    have HK := Lib.hid hok
    have HE := Lib.hid hE
    have HP := Lib.hid hp
    clear ho hok hE hp
    by_cases hlt : k < xs.length
    · obtain ⟨bk, off, rfl, lb', e0⟩ := int_at HE.out hlt HO.out
      have hcall := HP.out wr k HO.out hlt
      have HL := Lib.hid hlt
      generalize hed : xs.getD k 0 = x at *
      have HED := Lib.hid hed
      clear hed HP
      cases hq : p x with
      | true =>
        rw [hq] at hcall
        have HQ := Lib.hid hq
        have HC := Lib.hid hcall
        clear hq hcall
        go_wp2_with (go_at_call 61; refine HC.out.mono ?_; rintro e w' ⟨rfl, hb'⟩; have HB := Lib.hid hb'; clear hb')
        go_ret
        exact ⟨HO.out.trans HB.out, k, rfl, by rw [any_of_first xs p 0 k HL.out (by rw [HED.out]; exact HQ.out)]; symm; rw [decide_eq_true_iff]; omega⟩
      | false =>
        rw [hq] at hcall
        have HQ := Lib.hid hq
        have HC := Lib.hid hcall
        clear hq hcall
        go_wp2_with (go_at_call 61; refine HC.out.mono ?_; rintro e w' ⟨rfl, hb'⟩; have HB := Lib.hid hb'; clear hb')
        go_roundw
        case rel => exact ⟨k + 1, by omega, by go_num, fun j hj => by
          rcases Nat.lt_succ_iff_lt_or_eq.1 hj with h | rfl
          · exact HK.out j h
          · rw [HED.out]; exact HQ.out, HO.out.trans HB.out⟩
        case measure => simp [intOf]; omega
    · obtain rfl : k = xs.length := by omega
      go_wp2
      go_ret
      exact ⟨HO.out, -1, rfl, by rw [any_of_none xs p 0 HK.out]; rfl⟩

set_option maxHeartbeats 1000000 in
theorem contIc0_any (p : Int → Bool) (A : Option Addr) (c : Nat) (xs : List Int) (w : World) (hE : ReadsI w A xs)
    (hp : ∀ W i, Kept w W → i < xs.length → Calls Try.prog 61 #[.int .i64 (xs.getD i 0)] W fun e w' => e = .returned (.bool (p (xs.getD i 0))) ∧ Kept W w') :
    Calls Try.prog 40 #[.slice A xs.length c, .func (.func 61) #[] #[]] w fun e w' => e = .returned (.bool (xs.any p)) ∧ Kept w w' := by
  have hc := contI0_any p  A c xs w hE hp
  have HC := Lib.hid hc
  clear hc hp
  go_enter Try.func40, Try.ntmps40
  go_wp2_with (go_at_call 58; refine HC.out.mono ?_; rintro e w' ⟨hb, r, rfl, hr⟩; have HB := Lib.hid hb; have HR := Lib.hid hr; clear hb hr)
  go_ret
  exact ⟨ret_boolI HR.out.symm, HB.out⟩

set_option maxHeartbeats 1000000 in
theorem contI1_any (p : Int → Bool) (lb : Value) (A : Option Addr) (c : Nat) (xs : List Int) (w : World) (hE : ReadsI w A xs)
    (hp : ∀ W i, Kept w W → i < xs.length → Calls Try.prog 41 #[.int .i64 (xs.getD i 0), lb] W fun e w' => e = .returned (.bool (p (xs.getD i 0))) ∧ Kept W w') :
    Calls Try.prog 58 #[.slice A xs.length c, .func (.func 41) #[] #[lb]] w fun e w' => Kept w w' ∧ ∃ r : Int, e = .returned (.int .i64 r) ∧ xs.any p = decide (0 ≤ r) := by
  have lE := hE.len
  unfold maxLen at lE
  go_enter Try.func58, Try.ntmps58
  go_wp2
  go_loopw [5, 8] (fun _ i wr => ∃ k : Nat, k ≤ xs.length ∧ i = .int .i64 k ∧ (∀ j, j < k → p (xs.getD j 0) = false) ∧ Kept w wr) (fun _ i _ => xs.length - (intOf i).toNat)
  case atStart => exact ⟨0, Nat.zero_le _, rfl, fun j hj => absurd hj (by omega), Only.refl _ _⟩
  case round =>
    obtain ⟨k, hk, rfl, hok, ho⟩ := hrel
    have HO := Lib.hid ho
    have HK := Lib.hid hok
    have HE := Lib.hid hE
    have HP := Lib.hid hp
    clear ho hok hE hp
    by_cases hlt : k < xs.length
    · obtain ⟨bk, off, rfl, lb', e0⟩ := int_at HE.out hlt HO.out
      have hcall := HP.out wr k HO.out hlt
      have HL := Lib.hid hlt
      generalize hed : xs.getD k 0 = x at *
      have HED := Lib.hid hed
      clear hed HP
      cases hq : p x with
      | true =>
        rw [hq] at hcall
        have HQ := Lib.hid hq
        have HC := Lib.hid hcall
        clear hq hcall
        go_wp2_with (go_at_call 41; refine HC.out.mono ?_; rintro e w' ⟨rfl, hb'⟩; have HB := Lib.hid hb'; clear hb')
        go_ret
        exact ⟨HO.out.trans HB.out, k, rfl, by rw [any_of_first xs p 0 k HL.out (by rw [HED.out]; exact HQ.out)]; symm; rw [decide_eq_true_iff]; omega⟩
      | false =>
        rw [hq] at hcall
        have HQ := Lib.hid hq
        have HC := Lib.hid hcall
        clear hq hcall
        go_wp2_with (go_at_call 41; refine HC.out.mono ?_; rintro e w' ⟨rfl, hb'⟩; have HB := Lib.hid hb'; clear hb')
        go_roundw
        case rel => exact ⟨k + 1, by omega, by go_num, fun j hj => by
          rcases Nat.lt_succ_iff_lt_or_eq.1 hj with h | rfl
          · exact HK.out j h
          · rw [HED.out]; exact HQ.out, HO.out.trans HB.out⟩
        case measure => simp [intOf]; omega
    · obtain rfl : k = xs.length := by omega
      go_wp2
      go_ret
      exact ⟨HO.out, -1, rfl, by rw [any_of_none xs p 0 HK.out]; rfl⟩

set_option maxHeartbeats 1000000 in
theorem contIc1_any (p : Int → Bool) (lb : Value) (A : Option Addr) (c : Nat) (xs : List Int) (w : World) (hE : ReadsI w A xs)
    (hp : ∀ W i, Kept w W → i < xs.length → Calls Try.prog 41 #[.int .i64 (xs.getD i 0), lb] W fun e w' => e = .returned (.bool (p (xs.getD i 0))) ∧ Kept W w') :
    Calls Try.prog 40 #[.slice A xs.length c, .func (.func 41) #[] #[lb]] w fun e w' => e = .returned (.bool (xs.any p)) ∧ Kept w w' := by
  have hc := contI1_any p lb A c xs w hE hp
  have HC := Lib.hid hc
  clear hc hp
  go_enter Try.func40, Try.ntmps40
  go_wp2_with (go_at_call 58; refine HC.out.mono ?_; rintro e w' ⟨hb, r, rfl, hr⟩; have HB := Lib.hid hb; have HR := Lib.hid hr; clear hb hr)
  go_ret
  exact ⟨ret_boolI HR.out.symm, HB.out⟩

set_option maxHeartbeats 1000000 in
theorem good1_any (x : Int) (w : World) : Calls Try.prog 61 #[.int .i64 x] w fun e w' => e = .returned (.bool (x != 0)) ∧ Kept w w' := by
  go_enter Try.func61, Try.ntmps61
  go_wp2
  go_ret
  exact ⟨rfl, Only.refl _ _⟩

set_option maxHeartbeats 2000000 in
theorem ggood_yes (N s t : Int) (A B : Option Addr) (c d : Nat) (E : List Ed) (fl : List Int) (w : World) (hE : ReadsE w A E) (hF : ReadsI w B fl) (hN : NetOk N E) (hf : Okf N.toNat E fl s t) (hs : 0 ≤ s ∧ s < N) (ht : 0 ≤ t ∧ t < N) (hst : s ≠ t) :
    Calls Try.prog 43 #[.agg #[.int .i64 N, .slice A E.length c], .slice B fl.length d, .int .i64 s, .int .i64 t] w fun e w' => e = .returned (.bool true) ∧ Kept w w' := by
  have hcall := gfits_yes N A B c d E fl (w.alloc (.cells #[.int .i64 N, .slice A E.length c] 24)) (hE.fix ((Only.refl _ _).alloc _)) (hF.fix ((Only.refl _ _).alloc _)) hN hf.len hf.fit
  have HC := Lib.hid hcall
  have hbal : ∀ W, Kept w W → _ := fun W hW => gbalance_any N A B c d E fl W (hE.fix hW) (hF.fix hW) hN hf.len (hf.small hN)
  have HBA := Lib.hid hbal
  have n2 := hN.1
  have n3 := hN.2.1
  obtain ⟨hs1, hs2⟩ := hs
  obtain ⟨ht1, ht2⟩ := ht
  have HNF := Lib.hid (And.intro hN hf)
  clear hcall hbal hE hF hN hf
  have hbst : (s == t) = false := by simpa using hst
  have HW := Lib.hid (fun W (v : Int) (h : 0 ≤ v ∧ v ≤ N - 1) => by
    have := within_any v 0 (N - 1) W
    rw [show decide ((0 : Int) ≤ v ∧ v ≤ N - 1) = true from decide_eq_true h] at this
    exact this)
  obtain ⟨sn, rfl⟩ : ∃ sn : Nat, s = sn := ⟨s.toNat, by omega⟩
  obtain ⟨tn, rfl⟩ : ∃ tn : Nat, t = tn := ⟨t.toNat, by omega⟩
  have hne : sn ≠ tn := by omega
  have hne2 : tn ≠ sn := by omega
  go_enter Try.func43, Try.ntmps43
  go_wp2_with (first | (go_at_call 59; refine HC.out.mono ?_; rintro e w' ⟨rfl, hb⟩; obtain ⟨m0, m1, mb⟩ := box_at hb; have HB := Lib.hid hb; clear hb) | (go_at_call 52; refine (HW.out _ _ (by omega)).mono ?_; rintro e w' ⟨rfl, rfl⟩))
  refine (HBA.out _ (((Only.refl _ _).alloc _).trans HB.out)).mono ?_
  rintro e w2 ⟨g, rfl, hg, hr, hk⟩
  have HR := Lib.hid hr
  have HK := Lib.hid hk
  have lg := hr.lt
  have c1 := hr.at (i := sn) (by rw [balK_len]; omega)
  have c2 := hr.at (i := tn) (by rw [balK_len]; omega)
  have f1 := hr.fr sn
  have f2 := hr.fr tn
  have lw2 := HB.out.size
  clear hr hk HC HBA HW
  have hrow : RowI ((w2.setCell ⟨g, sn, none⟩ (.int .i64 0)).setCell ⟨g, tn, none⟩ (.int .i64 0)) g (((balK N.toNat E fl E.length).set sn 0).set tn 0) := (HR.out.set (by rw [balK_len]; omega) 0).set (by rw [List.length_set, balK_len]; omega) 0
  have hkept : Kept w ((w2.setCell ⟨g, sn, none⟩ (.int .i64 0)).setCell ⟨g, tn, none⟩ (.int .i64 0)) := by
    have hgw : w.heap.size ≤ g := by have := HB.out.size; simp at this; omega
    exact (((((Only.refl _ _).alloc _).trans HB.out).trans HK.out).setCell (p := ⟨g, sn, none⟩) (fun h => absurd h (by simp; omega)) _).setCell (p := ⟨g, tn, none⟩) (fun h => absurd h (by simp; omega)) _
  have hlen : (((balK N.toNat E fl E.length).set sn 0).set tn 0).length = N.toNat := by rw [List.length_set, List.length_set, balK_len]
  have hany : (((balK N.toNat E fl E.length).set sn 0).set tn 0).any (fun x => x != 0) = false := by
    refine any_of_none _ _ 0 (fun j hj => ?_)
    rw [hlen] at hj
    rw [getD_set _ _ _ _ (by rw [List.length_set, balK_len]; omega), getD_set _ _ _ _ (by rw [balK_len]; omega)]
    by_cases e1 : j = tn
    · rw [if_pos e1]; rfl
    · rw [if_neg e1]
      by_cases e2 : j = sn
      · rw [if_pos e2]; rfl
      · rw [if_neg e2, balK_get _ _ _ _ _ hj, outK_all HNF.out.2.len, HNF.out.2.bal j (by omega) (by omega) (by omega) (by omega)]
        rfl
  have hcon : ∀ W : World, W.heap = ((w2.setCell ⟨g, sn, none⟩ (.int .i64 0)).setCell ⟨g, tn, none⟩ (.int .i64 0)).heap → _ := fun W hW =>
    contIc0_any (fun x => x != 0) (some ⟨g, 0, none⟩) N.toNat (((balK N.toNat E fl E.length).set sn 0).set tn 0) W ((RowI.mk (by rw [hW]; exact hrow.obj)).reads (by rw [hlen]; unfold maxLen; omega)) (fun W' i _ _ => good1_any _ W')
  rw [hlen, hany] at hcon
  have HCON := Lib.hid hcon
  have HKE := Lib.hid hkept
  clear hrow hlen hany hcon hkept
  generalize ((balK N.toNat E fl E.length).getD sn 0) = x1 at *
  generalize ((balK N.toNat E fl E.length).getD tn 0) = x2 at *
  go_wp2_with (go_at_call 40; refine (HCON.out _ (by rfl)).mono ?_; rintro e w' ⟨rfl, hb⟩; have HB2 := Lib.hid hb; clear hb)
  go_ret
  exact ⟨rfl, HKE.out.trans HB2.out⟩
end Go.Proofs.Ytlpccebackmahaa

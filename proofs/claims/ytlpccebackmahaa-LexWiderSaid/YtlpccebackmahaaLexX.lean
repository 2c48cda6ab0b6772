/- Layer 7: lex.task.try walked; lists of ways asked by a predicate. -/
import Derived.Test.YtlpccebackmahaaLexW
set_option linter.unusedVariables false
set_option linter.unusedSimpArgs false
namespace Go.Proofs.Ytlpccebackmahaa
open Go.RowKit

set_option maxHeartbeats 4000000 in
set_option maxRecDepth 100000 in
theorem try_any (N s t : Int) (A B : Option Addr) (c m0 d g cf : Nat) (E : List Ed) (f : List Int) (x : WayR0) (w : World) (hE : ReadsE w A E) (hx : ReadsI w x.eA x.es) (hN : NetOk N E) (hrow : RowI w g f) (hok : Okf N.toNat E f s t)
    (hwalk : walkI E t [s] s x.es) (hct : 0 ≤ x.count ∧ x.count ≤ 1000) (hgE : ∀ ad, A = some ad → ad.block ≠ g) (hgx : ∀ ad, x.eA = some ad → ad.block ≠ g) :
    Calls Try.prog 28 #[taskV N s t A B E.length c m0 d, .slice (some ⟨g, 0, none⟩) E.length cf, x.val] w fun e w' => e = .returned (.tuple #[]) ∧ RowI w' g (tryWay E f (wayN x)) ∧ Only (fun b => b = g) w w' := by
  have lE := hN.2.2.1
  obtain ⟨es, ct, eA, ec⟩ := x
  have hty : tryWay E f (wayN ⟨es, ct, eA, ec⟩) = addAll (roomOf E f (stepsOf E (natsOf es)) ct) f (stepsOf E (natsOf es)) := rfl
  have hr0 : 0 ≤ roomOf E f (stepsOf E (natsOf es)) ct ∧ roomOf E f (stepsOf E (natsOf es)) ct ≤ 1000 := by
    refine ⟨roomOf_nonneg E f _ ct hct.1 (fun p hp => ?_), Int.le_trans (roomOf_le E f _ ct).1 hct.2⟩
    obtain ⟨i, hi, rfl⟩ := List.mem_map.1 hp
    have hil := (walk_idx (walkI_ok hwalk) i hi).1
    have := hok.fit i hil
    unfold roomAt
    simp only [Bool.false_eq_true, if_false]
    omega
  rw [hty]
  unfold taskV WayR0.val
  simp only at hx hwalk hgx ⊢
  have le := hx.len
  unfold maxLen at le
  have lg := hrow.lt
  have HE := Lib.hid hE
  have HES := Lib.hid hx
  have HN := Lib.hid hN
  have HWK := Lib.hid hwalk
  have HLF := Lib.hid hok.len
  have HSM := Lib.hid (hok.small hN)
  have HROW := Lib.hid hrow
  have HGE := Lib.hid hgE
  have HGX := Lib.hid hgx
  have HR0 := Lib.hid hr0
  clear hE hx hN hrow hok hwalk hct hgE hgx hr0 hty
  go_enter Try.func28, Try.ntmps28
  go_wp2
  go_loopw [6, 16] (fun vr q wz => ∃ m : Nat, m ≤ es.length ∧ q = .int .i64 m ∧ vr = .int .i64 (roomOf E f ((stepsOf E (natsOf es)).take m) ct) ∧ Kept ((w.alloc (.cells #[.int .i64 N, .slice A E.length c, .int .i64 s, .int .i64 t, .slice B m0 d] 54)).alloc (.cells #[.slice eA es.length ec, .int .i64 ct] 44)) wz) (fun _ q _ => es.length - (intOf q).toNat)
  case atStart => exact ⟨0, Nat.zero_le _, rfl, rfl, Only.refl _ _⟩
  case round =>
    obtain ⟨m, hm, rfl, rfl, hkz⟩ := hrel
    have q1 := (hkz.cell (p := ⟨w.heap.size, 1, none⟩) (by simp; omega) (fun x => x)).trans (show _ = some (.slice A E.length c) by simp [World.cell?_alloc_new])
    have q2 := (hkz.cell (p := ⟨w.heap.size + 1, 0, none⟩) (by simp) (fun x => x)).trans (show _ = some (.slice eA es.length ec) by simp [World.cell?_alloc_new])
    have hsz : w.heap.size + 2 ≤ wr.heap.size := by have := hkz.size; simp at this; omega
    have HKP := Lib.hid (show Kept w wr from (((Only.refl _ _).alloc _).alloc _).trans hkz)
    have HKZ := Lib.hid hkz
    clear hkz
    by_cases hlt3 : m < es.length
    · obtain ⟨wi0, wi1⟩ := walk_at HWK.out m hlt3
      obtain ⟨bk4, off4, rfl, lb4, lb40, e0⟩ := int_at2 HES.out hlt3 HKP.out
      obtain ⟨i, hi'⟩ : ∃ i : Nat, es.getD m 0 = i := ⟨(es.getD m 0).toNat, by omega⟩
      have hst := steps_at E es m hlt3
      have hsn := roomOf_snoc E f (stepsOf E (natsOf es)) m ct (by rw [steps_len]; exact hlt3)
      rw [hst] at hsn
      rw [hi'] at e0 wi0 wi1 hsn
      rw [Int.toNat_natCast] at hsn
      unfold roomAt at hsn
      simp only [Bool.false_eq_true, if_false] at hsn
      obtain ⟨bk5, off5, rfl, lb5, lb50, _, _, e2⟩ := edge_at2 HE.out (show i < E.length by omega) HKP.out
      have cf1 := (HROW.out.fix HKP.out).at (i := i) (by rw [HLF.out]; omega)
      obtain ⟨s1, s2⟩ := HSM.out i
      obtain ⟨s3, s4⟩ := HN.out.caps i
      have lgr : g < wr.heap.size := by omega
      have HSN := Lib.hid hsn
      clear hst hsn hi' wi0
      generalize f.getD i 0 = fx at *
      generalize (E.getD i default).c = y at *
      generalize roomOf E f ((stepsOf E (natsOf es)).take m) ct = ro at *
      go_wp2
      go_quiet (fail)
      go_wp2
      go_roundw
      case rel => exact ⟨m + 1, by omega, by go_num, by rw [HSN.out, min_if], HKZ.out.drewN _⟩
      case measure => simp [intOf]; omega
    · obtain rfl : m = es.length := by omega
      clear hlt3
      rw [show (stepsOf E (natsOf es)).take es.length = stepsOf E (natsOf es) by rw [← steps_len E es, List.take_length]] at *
      obtain ⟨r1, r2⟩ := HR0.out
      generalize hRR : roomOf E f (stepsOf E (natsOf es)) ct = R at *
      have HRR := Lib.hid hRR
      clear hRR
      have HF5 := Lib.hid (HROW.out.fix HKP.out)
      clear HR0
      rename World => wy
      go_wp2
      go_loopw [38] (fun q wz => ∃ m : Nat, m ≤ es.length ∧ q = .int .i64 m ∧ RowI wz g (addAll R f ((stepsOf E (natsOf es)).take m)) ∧ Only (fun b => b = g) wy wz) (fun q _ => es.length - (intOf q).toNat)
      case atStart => exact ⟨0, Nat.zero_le _, rfl, HF5.out, Only.refl _ _⟩
      case round =>
        obtain ⟨m, hm, rfl, hfm, hom⟩ := hrel
        have HFM := Lib.hid hfm
        have HOM := Lib.hid hom
        have HOL := Lib.hid (show Only (fun b => b = g) w wr from (HKP.out.mono (fun _ _ x => x.elim)).trans hom)
        have hcl : (addAll R f ((stepsOf E (natsOf es)).take m)).length = E.length := by rw [addAll_length]; exact HLF.out
        have HCL := Lib.hid hcl
        have hszy := hom.size
        clear hfm hom hcl
        by_cases hlt3 : m < es.length
        · obtain ⟨wi0, wi1⟩ := walk_at HWK.out m hlt3
          obtain ⟨bk4, off4, rfl, lb4, e0w⟩ := HES.out.cell m hlt3
          have e0 := (HOL.out.cell (p := ⟨bk4, off4 + m, none⟩) lb4 (HGX.out ⟨bk4, off4, none⟩ rfl)).trans e0w
          have lb4r : bk4 < wr.heap.size := by have := HOL.out.size; omega
          obtain ⟨i, hi'⟩ : ∃ i : Nat, es.getD m 0 = i := ⟨(es.getD m 0).toNat, by omega⟩
          have hst := steps_at E es m hlt3
          have hfresh2 := steps_fresh HWK.out HLF.out R m hlt3
          have hsn := addAll_snoc R f (stepsOf E (natsOf es)) m (by rw [steps_len]; exact hlt3)
          rw [hst] at hsn
          rw [hi'] at e0 wi0 wi1 hsn hfresh2
          rw [Int.toNat_natCast] at hsn hfresh2
          unfold addAt at hsn
          simp only [Bool.false_eq_true, if_false] at hsn
          rw [hfresh2] at hsn
          have cf1 := HFM.out.at (i := i) (by rw [HCL.out]; omega)
          have ff1 := HFM.out.fr i
          have lgr := HFM.out.lt
          rw [hfresh2] at cf1
          obtain ⟨s1, s2⟩ := HSM.out i
          have HFV2 := Lib.hid (fun x => HFM.out.set (i := i) (by rw [HCL.out]; omega) x)
          have HSN := Lib.hid hsn
          clear hst hsn hi' wi0 hfresh2 e0w
          generalize f.getD i 0 = fx at *
          go_wp2
          try (go_region; go_wp2)
          go_roundw
          case rel => exact ⟨m + 1, by omega, by go_num, by rw [HSN.out]; exact HFV2.out (fx + R), HOM.out.store g i (fun _ => rfl) _⟩
          case measure => simp [intOf]; omega
        · obtain rfl : m = es.length := by omega
          clear hlt3
          rw [show (stepsOf E (natsOf es)).take es.length = stepsOf E (natsOf es) by rw [← steps_len E es, List.take_length]] at *
          go_wp2
          go_end0
          exact ⟨rfl, by rw [HRR.out]; exact HFM.out, HOL.out⟩
set_option maxHeartbeats 1000000 in
theorem contW0_any (p : WayR0 → Bool) (N s t : Int) (A0 B0 : Option Addr) (n0 c0 m0 d0 : Nat) (A : Option Addr) (c : Nat) (xs : List WayR0) (w : World) (hE : ReadsW w A xs)
    (hp : ∀ W i, Kept w W → i < xs.length → Calls Try.prog 23 #[taskV N s t A0 B0 n0 c0 m0 d0, (xs.getD i default).val] W fun e w' => e = .returned (.bool (p (xs.getD i default))) ∧ Kept W w') :
    Calls Try.prog 42 #[.slice A xs.length c, .func (.func 23) #[taskV N s t A0 B0 n0 c0 m0 d0] #[]] w fun e w' => Kept w w' ∧ ∃ r : Int, e = .returned (.int .i64 r) ∧ xs.any p = decide (0 ≤ r) := by
  have lE := hE.len
  unfold maxLen at lE
  unfold taskV at hp ⊢
  go_enter Try.func42, Try.ntmps42
  go_wp2
  go_loopw [5, 8] (fun _ i wr => ∃ k : Nat, k ≤ xs.length ∧ i = .int .i64 k ∧ (∀ j, j < k → p (xs.getD j default) = false) ∧ Kept w wr) (fun _ i _ => xs.length - (intOf i).toNat)
  case atStart => exact ⟨0, Nat.zero_le _, rfl, fun j hj => absurd hj (by omega), Only.refl _ _⟩
  case round =>
    obtain ⟨k, hk, rfl, hok, ho⟩ := hrel
    have HO := Lib.hid ho
    have HK := Lib.hid hok
    have HE := Lib.hid hE
    have HP := Lib.hid hp
    clear ho hok hE hp
    by_cases hlt : k < xs.length
    · obtain ⟨bk, off, rfl, lb', lb0, e0, e1, _⟩ := way_at HE.out hlt HO.out
      have hcall := HP.out wr k HO.out hlt
      have HL := Lib.hid hlt
      generalize hed : xs.getD k default = x at *
      have HED := Lib.hid hed
      clear hed HP
      unfold WayR0.val at hcall
      cases hq : p x with
      | true =>
        rw [hq] at hcall
        have HQ := Lib.hid hq
        have HC := Lib.hid hcall
        clear hq hcall
        go_wp2_with (go_at_call 23; refine HC.out.mono ?_; rintro e w' ⟨rfl, hb'⟩; have HB := Lib.hid hb'; clear hb')
        go_ret
        exact ⟨HO.out.trans HB.out, k, rfl, by rw [any_of_first xs p default k HL.out (by rw [HED.out]; exact HQ.out)]; symm; rw [decide_eq_true_iff]; omega⟩
      | false =>
        rw [hq] at hcall
        have HQ := Lib.hid hq
        have HC := Lib.hid hcall
        clear hq hcall
        go_wp2_with (go_at_call 23; refine HC.out.mono ?_; rintro e w' ⟨rfl, hb'⟩; have HB := Lib.hid hb'; clear hb')
        go_roundw
        case rel => exact ⟨k + 1, by omega, by go_num, fun j hj => by
          rcases Nat.lt_succ_iff_lt_or_eq.1 hj with h | rfl
          · exact HK.out j h
          · rw [HED.out]; exact HQ.out, HO.out.trans HB.out⟩
        case measure => simp [intOf]; omega
    · obtain rfl : k = xs.length := by omega
      go_wp2
      go_ret
      exact ⟨HO.out, -1, rfl, by rw [any_of_none xs p default HK.out]; rfl⟩

set_option maxHeartbeats 1000000 in
theorem contWc0_any (p : WayR0 → Bool) (N s t : Int) (A0 B0 : Option Addr) (n0 c0 m0 d0 : Nat) (A : Option Addr) (c : Nat) (xs : List WayR0) (w : World) (hE : ReadsW w A xs)
    (hp : ∀ W i, Kept w W → i < xs.length → Calls Try.prog 23 #[taskV N s t A0 B0 n0 c0 m0 d0, (xs.getD i default).val] W fun e w' => e = .returned (.bool (p (xs.getD i default))) ∧ Kept W w') :
    Calls Try.prog 24 #[.slice A xs.length c, .func (.func 23) #[taskV N s t A0 B0 n0 c0 m0 d0] #[]] w fun e w' => e = .returned (.bool (xs.any p)) ∧ Kept w w' := by
  have hc := contW0_any p N s t A0 B0 n0 c0 m0 d0 A c xs w hE hp
  have HC := Lib.hid hc
  clear hc hp
  unfold taskV at HC ⊢
  go_enter Try.func24, Try.ntmps24
  go_wp2_with (go_at_call 42; refine HC.out.mono ?_; rintro e w' ⟨hb, r, rfl, hr⟩; have HB := Lib.hid hb; have HR := Lib.hid hr; clear hb hr)
  go_ret
  exact ⟨ret_boolI HR.out.symm, HB.out⟩

set_option maxHeartbeats 1000000 in
theorem contW1_any (p : WayR0 → Bool) (l1 l2 : Value) (A : Option Addr) (c : Nat) (xs : List WayR0) (w : World) (hE : ReadsW w A xs)
    (hp : ∀ W i, Kept w W → i < xs.length → Calls Try.prog 25 #[(xs.getD i default).val, l1, l2] W fun e w' => e = .returned (.bool (p (xs.getD i default))) ∧ Kept W w') :
    Calls Try.prog 42 #[.slice A xs.length c, .func (.func 25) #[] #[l1, l2]] w fun e w' => Kept w w' ∧ ∃ r : Int, e = .returned (.int .i64 r) ∧ xs.any p = decide (0 ≤ r) := by
  have lE := hE.len
  unfold maxLen at lE
  skip
  go_enter Try.func42, Try.ntmps42
  go_wp2
  go_loopw [5, 8] (fun _ i wr => ∃ k : Nat, k ≤ xs.length ∧ i = .int .i64 k ∧ (∀ j, j < k → p (xs.getD j default) = false) ∧ Kept w wr) (fun _ i _ => xs.length - (intOf i).toNat)
  case atStart => exact ⟨0, Nat.zero_le _, rfl, fun j hj => absurd hj (by omega), Only.refl _ _⟩
  case round =>
    obtain ⟨k, hk, rfl, hok, ho⟩ := hrel
    have HO := Lib.hid ho
    have HK := Lib.hid hok
    have HE := Lib.hid hE
    have HP := Lib.hid hp
    clear ho hok hE hp
    by_cases hlt : k < xs.length
    · obtain ⟨bk, off, rfl, lb', lb0, e0, e1, _⟩ := way_at HE.out hlt HO.out
      have hcall := HP.out wr k HO.out hlt
      have HL := Lib.hid hlt
      generalize hed : xs.getD k default = x at *
      have HED := Lib.hid hed
      clear hed HP
      unfold WayR0.val at hcall
      cases hq : p x with
      | true =>
        rw [hq] at hcall
        have HQ := Lib.hid hq
        have HC := Lib.hid hcall
        clear hq hcall
        go_wp2_with (go_at_call 25; refine HC.out.mono ?_; rintro e w' ⟨rfl, hb'⟩; have HB := Lib.hid hb'; clear hb')
        go_ret
        exact ⟨HO.out.trans HB.out, k, rfl, by rw [any_of_first xs p default k HL.out (by rw [HED.out]; exact HQ.out)]; symm; rw [decide_eq_true_iff]; omega⟩
      | false =>
        rw [hq] at hcall
        have HQ := Lib.hid hq
        have HC := Lib.hid hcall
        clear hq hcall
        go_wp2_with (go_at_call 25; refine HC.out.mono ?_; rintro e w' ⟨rfl, hb'⟩; have HB := Lib.hid hb'; clear hb')
        go_roundw
        case rel => exact ⟨k + 1, by omega, by go_num, fun j hj => by
          rcases Nat.lt_succ_iff_lt_or_eq.1 hj with h | rfl
          · exact HK.out j h
          · rw [HED.out]; exact HQ.out, HO.out.trans HB.out⟩
        case measure => simp [intOf]; omega
    · obtain rfl : k = xs.length := by omega
      go_wp2
      go_ret
      exact ⟨HO.out, -1, rfl, by rw [any_of_none xs p default HK.out]; rfl⟩

set_option maxHeartbeats 1000000 in
theorem contWc1_any (p : WayR0 → Bool) (l1 l2 : Value) (A : Option Addr) (c : Nat) (xs : List WayR0) (w : World) (hE : ReadsW w A xs)
    (hp : ∀ W i, Kept w W → i < xs.length → Calls Try.prog 25 #[(xs.getD i default).val, l1, l2] W fun e w' => e = .returned (.bool (p (xs.getD i default))) ∧ Kept W w') :
    Calls Try.prog 24 #[.slice A xs.length c, .func (.func 25) #[] #[l1, l2]] w fun e w' => e = .returned (.bool (xs.any p)) ∧ Kept w w' := by
  have hc := contW1_any p l1 l2 A c xs w hE hp
  have HC := Lib.hid hc
  clear hc hp
  skip
  go_enter Try.func24, Try.ntmps24
  go_wp2_with (go_at_call 42; refine HC.out.mono ?_; rintro e w' ⟨hb, r, rfl, hr⟩; have HB := Lib.hid hb; have HR := Lib.hid hr; clear hb hr)
  go_ret
  exact ⟨ret_boolI HR.out.symm, HB.out⟩

end Go.Proofs.Ytlpccebackmahaa

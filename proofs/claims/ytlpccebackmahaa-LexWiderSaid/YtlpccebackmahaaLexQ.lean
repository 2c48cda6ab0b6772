/- Layer 7: flow.Push walked. -/
import Derived.Test.YtlpccebackmahaaLexP
set_option linter.unusedVariables false
set_option linter.unusedSimpArgs false
namespace Go.Proofs.Ytlpccebackmahaa
open Go.RowKit

theorem row_parts3 {w : World} {base n : Nat} {e : TypeId} {v : Value} {xs : List Value} (h : w.ownsRow base e 3 v n xs) (hp : 0 < n) :
    ∃ g c, v = .slice (some ⟨g, 0, none⟩) n c ∧ base ≤ g ∧ g < w.heap.size ∧ ∀ i, i < n * 3 → w.cell? ⟨g, i, none⟩ = xs[i]? := by
  rcases h.2 with ⟨_, h0⟩ | ⟨g, cap, cur, rfl, hb, hh, hn, hc, _⟩
  · omega
  · exact ⟨g, cap, rfl, hb, (Array.getElem?_eq_some_iff.1 hh).1, fun i hi => h.cellAt i (by omega)⟩

set_option maxHeartbeats 4000000 in
set_option maxRecDepth 100000 in
theorem fpush_any (N s t most : Int) (A B : Option Addr) (c d : Nat) (E : List Ed) (fl : List Int) (w : World) (hE : ReadsE w A E) (hF : ReadsI w B fl) (hN : NetOk N E) (hf : Okf N.toNat E fl s t) (hs : 0 ≤ s ∧ s < N) (ht : 0 ≤ t ∧ t < N) (hst : s ≠ t) (hm0 : 0 ≤ most) (hm1 : most ≤ 1073741824) (hpos : 0 < E.length) :
    Calls Try.prog 29 #[.agg #[.int .i64 N, .slice A E.length c], .slice B fl.length d, .int .i64 s, .int .i64 t, .int .i64 most] w fun e w' => ∃ g,
      e = .returned (.tuple #[.slice (some ⟨g, 0, none⟩) E.length E.length, .int .i64 (push N.toNat E s t most fl).2, .int .i64 0]) ∧ w.heap.size ≤ g ∧ RowI w' g (push N.toNat E s t most fl).1 ∧ (push N.toNat E s t most fl).1.length = E.length ∧ Kept w w' := by
  have hgood := ggood_yes N s t A B c d E fl (w.alloc (.cells #[.int .i64 N, .slice A E.length c] 24)) (hE.fix ((Only.refl _ _).alloc _)) (hF.fix ((Only.refl _ _).alloc _)) hN hf hs ht hst
  have HG := Lib.hid hgood
  have n2 := hN.1
  have n3 := hN.2.1
  have lE := hN.2.2.1
  have hEn := hN.ends
  have hl := hf.len
  obtain ⟨n, rfl⟩ : ∃ n : Nat, N = n := ⟨N.toNat, by omega⟩
  rw [Int.toNat_natCast] at *
  obtain ⟨bk0, off0, rfl, lb0, _⟩ := hF.cell 0 (by omega)
  have HS := Lib.hid hs
  have HT := Lib.hid ht
  have HF := Lib.hid hF
  have HE := Lib.hid hE
  have HEN := Lib.hid hEn
  have HN := Lib.hid hN
  have HP0 := Lib.hid (PS.start (most := most) hf hm0)
  have hcl : ∀ W, Kept w W → _ := fun W hW => clone_any bk0 off0 d fl W (hF.fix hW) (by omega)
  have HCL := Lib.hid hcl
  clear hgood hE hF hN hf hs ht hEn hcl
  have hm : ¬ most < 0 := by omega
  have HLN := Lib.hid hl
  clear hl
  go_enter Try.func29, Try.ntmps29
  go_wp2_with (first | (go_at_call 43; refine HG.out.mono ?_; rintro e w1 ⟨rfl, hb⟩; obtain ⟨m0, m1, mb⟩ := box_at hb; have HB := Lib.hid hb; clear hb) | (go_at_call 45; go_loud (refine (HCL.out _ (((Only.refl _ _).alloc _).trans HB.out)).mono ?_; rintro e w2 ⟨g, cap, rfl, hg, hcap, hr, hk⟩; have HR := Lib.hid hr; have HK := Lib.hid (HB.out.trans hk); clear hr hk)) | (go_at_call 44; go_loud (refine (clip_any _ _ _ _ hcap (by rw [HLN.out]; omega)).mono ?_; rintro e w3 ⟨rfl, rfl⟩)))
  have hgw : w.heap.size + 1 ≤ g := by omega
  rw [HLN.out]
  clear hg hcap HB m0 m1 mb HCL HG
  go_loopw [13] (fun vs wr => ∃ (f : List Int) (sm : Int), vs = .int .i64 sm ∧ PS n E s t most fl f sm ∧ RowI wr g f ∧ Kept (w.alloc (.cells #[.int .i64 n, .slice A E.length c] 24)) wr) (fun vs _ => (most - intOf vs).toNat)
  case atStart => exact ⟨fl, 0, rfl, HP0.out, HR.out, HK.out⟩
  case round =>
    obtain ⟨f, sm, rfl, hps, hfv, ho⟩ := hrel
    have hlf := hps.ok.len
    have hg2 := hfv.lt
    obtain ⟨n0, n1, nb⟩ := box_at ho
    have hkp : Kept w wr := ((Only.refl _ _).alloc _).trans ho
    have hp0 := hps.lo
    have hp1 := hps.hi
    have hrd := hfv.reads (by rw [hlf]; unfold maxLen; omega)
    have HPS := Lib.hid hps
    have HFV := Lib.hid hfv
    have HO := Lib.hid ho
    have HKP := Lib.hid hkp
    have HLF := Lib.hid hlf
    have HRD := Lib.hid hrd
    clear hps hfv ho hkp hrd HP0
    by_cases hlt : sm < most
    · have hway := fnext_any n s t A (some ⟨g, 0, none⟩) c E.length E f wr (HE.out.fix HKP.out) HRD.out HN.out HLF.out HS.out HT.out hst
      rw [Int.toNat_natCast, hlf] at hway
      cases hwo : wayOf n E f s t with
      | none =>
        rw [hwo] at hway
        have HW := Lib.hid hway
        have hst := HPS.out.stop (.inr hwo)
        have HST := Lib.hid hst
        have HWO := Lib.hid hwo
        clear hwo hlf hst hway
        have hnn := isNilS
        go_wp2_with (go_at_call 46; refine HW.out.mono ?_; rintro e w3 ⟨hk3, rfl⟩; have HK3 := Lib.hid hk3; clear hk3)
        go_ret3
        exact ⟨g, by rw [HST.out]; rfl, by omega, by rw [HST.out]; exact HFV.out.fix HK3.out, by rw [HST.out]; exact HLF.out, HKP.out.trans HK3.out⟩
      | some l =>
        rw [hwo] at hway
        have HW := Lib.hid hway
        have hwr := wayR HEN.out HS.out hwo
        have hlen : l.length ≤ n := hwr.len
        have hlp := hwr.chain.pos hst
        have HWR := Lib.hid hwr
        have HWO := Lib.hid hwo
        clear hwo hwr hlf hway
        have hnn := notNilS
        go_wp2_with (go_at_call 46; refine HW.out.mono ?_; rintro e w4 ⟨hk4, v, rfl, hrow⟩; obtain ⟨ge, ce, hve, hge1, hge2, hge3⟩ := row_parts3 hrow hlp; subst hve; have HRE := Lib.hid hge3; have HK4 := Lib.hid hk4; clear hk4 hrow hge3)
        have HF4 := Lib.hid (HFV.out.fix HK4.out)
        clear hnn
        go_loopw [15, 48] (fun vr q wq => ∃ k : Nat, k ≤ l.length ∧ q = .int .i64 k ∧ vr = .int .i64 (roomOf E f (l.take k) (most - sm)) ∧ Kept w4 wq) (fun _ q _ => l.length - (intOf q).toNat)
        case atStart => exact ⟨0, Nat.zero_le _, rfl, rfl, Only.refl _ _⟩
        case round =>
          obtain ⟨k, hk, rfl, rfl, hkk⟩ := hrel
          have HKK := Lib.hid hkk
          obtain ⟨q0, q1, qb⟩ := box_at ((HO.out.trans HK4.out).trans hkk)
          have hl4 : ge < wr.heap.size := Nat.lt_of_lt_of_le hge2 HKK.out.size
          clear hkk
          by_cases hlt2 : k < l.length
          · have hpm : l.getD k default ∈ l := getD_mem hlt2
            obtain ⟨he1, he2, he3⟩ := HWR.out.chain.steps _ hpm
            obtain ⟨g1, g2, g3⟩ := stCells_get l k hlt2
            have ce0 := (HKK.out.cell (p := ⟨ge, k * 3, none⟩) hge2 (fun x => x)).trans ((HRE.out (k * 3) (by omega)).trans g1)
            have ce1 := (HKK.out.cell (p := ⟨ge, k * 3 + 1, none⟩) hge2 (fun x => x)).trans ((HRE.out (k * 3 + 1) (by omega)).trans g2)
            have ce2 := (HKK.out.cell (p := ⟨ge, k * 3 + 2, none⟩) hge2 (fun x => x)).trans ((HRE.out (k * 3 + 2) (by omega)).trans g3)
            have hkr : Kept w wr := HKP.out.trans (HK4.out.trans HKK.out)
            have hrm : ∀ o, _ := fun o => froom_any n (l.getD k default) A (some ⟨g, 0, none⟩) c E.length E f (wr.alloc o) (HE.out.fix (hkr.alloc o)) ((HF4.out.fix (HKK.out.alloc o)).reads (by rw [HLF.out]; unfold maxLen; omega)) HN.out HLF.out (HPS.out.ok.small HN.out) he1
            have hrs := roomOf_snoc E f l k (most - sm) hlt2
            rw [HLF.out] at hrm
            unfold stepV at hrm
            have HRM := Lib.hid hrm
            have HRS := Lib.hid hrs
            clear hpm he1 he2 he3 g1 g2 g3 hrm hrs hkr
            generalize roomAt E f (l.getD k default) = ra at *
            generalize l.getD k default = p at *
            obtain ⟨pv, pu, pi, pag⟩ := p
            simp only at ce0 ce1 ce2 HRM
            generalize hro : roomOf E f (l.take k) (most - sm) = ro at *
            have HRO := Lib.hid hro
            clear hro
            go_wp2_with (go_at_call 47; go_loud (refine (HRM.out _).mono ?_; rintro e w5 ⟨rfl, hk5⟩; have HK5 := Lib.hid hk5; clear hk5))
            go_roundw
            case rel => exact ⟨k + 1, by omega, by go_num, by rw [HRS.out, min_if], (HKK.out.alloc _).trans HK5.out⟩
            case measure => simp [intOf]; omega
          · obtain rfl : k = l.length := by omega
            rw [List.take_length] at *
            clear hlt2
            have hrs := room_step HEN.out HS.out HWO.out hlt
            have hps2 := HPS.out.next HEN.out HS.out hlt HWO.out
            have HPS2 := Lib.hid hps2.1
            generalize roomOf E f l (most - sm) = R at *
            obtain ⟨r1, r2, _⟩ := hrs
            have HF5 := Lib.hid (HF4.out.fix HKK.out)
            clear hps2
            go_wp2
            go_loopw [61] (fun q wq => ∃ k : Nat, k ≤ l.length ∧ q = .int .i64 k ∧ RowI wq g (addAll R f (l.take k)) ∧ Only (fun b => b = g) w4 wq) (fun q _ => l.length - (intOf q).toNat)
            case atStart => exact ⟨0, Nat.zero_le _, rfl, HF5.out, HKK.out.mono (fun _ _ x => x.elim)⟩
            case round =>
              obtain ⟨k, hk, rfl, hfk, hok⟩ := hrel
              have HFK := Lib.hid hfk
              have HOK := Lib.hid hok
              have hcl : (addAll R f (l.take k)).length = E.length := by rw [addAll_length]; exact HLF.out
              have HCL := Lib.hid hcl
              have hg4 := hfk.lt
              have hge : ge ≠ g := by have := HF4.out.lt; have := HFV.out.lt; omega
              have hl4 : ge < wr.heap.size := Nat.lt_of_lt_of_le hge2 HOK.out.size
              clear hfk hok hcl
              by_cases hlt2 : k < l.length
              · have hpm : l.getD k default ∈ l := getD_mem hlt2
                obtain ⟨he1, he2, he3⟩ := HWR.out.chain.steps _ hpm
                obtain ⟨g1, g2, g3⟩ := stCells_get l k hlt2
                have ce0 := (HOK.out.cell (p := ⟨ge, k * 3, none⟩) hge2 hge).trans ((HRE.out (k * 3) (by omega)).trans g1)
                have ce1 := (HOK.out.cell (p := ⟨ge, k * 3 + 1, none⟩) hge2 hge).trans ((HRE.out (k * 3 + 1) (by omega)).trans g2)
                have ce2 := (HOK.out.cell (p := ⟨ge, k * 3 + 2, none⟩) hge2 hge).trans ((HRE.out (k * 3 + 2) (by omega)).trans g3)
                have cf1 := HFK.out.at (i := (l.getD k default).2.2.1) (by rw [HCL.out]; exact he1)
                have ff1 := HFK.out.fr (l.getD k default).2.2.1
                rw [HWR.out.chain.fresh HLF.out R k hlt2] at cf1
                obtain ⟨s1, s2⟩ := HPS.out.ok.small HN.out (l.getD k default).2.2.1
                have hsn := addAll_snoc R f l k hlt2
                have hfv2 : ∀ x, RowI (wr.setCell ⟨g, (l.getD k default).2.2.1, none⟩ (.int .i64 x)) g ((addAll R f (l.take k)).set (l.getD k default).2.2.1 x) := fun x => HFK.out.set (by rw [HCL.out]; exact he1) x
                unfold addAt at hsn
                rw [HWR.out.chain.fresh HLF.out R k hlt2] at hsn
                have HFV2 := Lib.hid hfv2
                clear hpm he2 he3 hfv2 g1 g2 g3
                generalize f.getD (l.getD k default).2.2.1 0 = x at *
                generalize l.getD k default = p at *
                obtain ⟨pv, pu, pi, pag⟩ := p
                simp only at ce0 ce1 ce2 cf1 ff1 HFV2 he1 hsn
                have HSN := Lib.hid hsn
                clear hsn
                cases pag with
                | true =>
                  rw [if_pos rfl] at HSN
                  go_wp2
                  go_roundw
                  case rel => exact ⟨k + 1, by omega, by go_num, by rw [HSN.out]; exact (HFV2.out (x - R)).fix ((Only.refl _ _).alloc _), (HOK.out.store g pi (fun _ => rfl) _).alloc _⟩
                  case measure => simp [intOf]; omega
                | false =>
                  rw [if_neg (by decide)] at HSN
                  go_wp2
                  go_roundw
                  case rel => exact ⟨k + 1, by omega, by go_num, by rw [HSN.out]; exact (HFV2.out (x + R)).fix ((Only.refl _ _).alloc _), (HOK.out.store g pi (fun _ => rfl) _).alloc _⟩
                  case measure => simp [intOf]; omega
              · obtain rfl : k = l.length := by omega
                rw [List.take_length] at *
                clear hlt2
                go_wp2
                go_roundw
                case rel => exact ⟨_, _, rfl, HPS2.out, HFK.out, (HO.out.trans HK4.out).trans' HOK.out (fun _ _ x => x) (fun q hq x => absurd hq (by simp at x ⊢; omega))⟩
                case measure => simp [intOf]; omega
    · have hst := HPS.out.stop (.inl (by omega))
      have HST := Lib.hid hst
      clear hst hlf
      go_wp2
      go_ret3
      exact ⟨g, by rw [HST.out]; rfl, by omega, by rw [HST.out]; exact HFV.out, by rw [HST.out]; exact HLF.out, HKP.out⟩
end Go.Proofs.Ytlpccebackmahaa

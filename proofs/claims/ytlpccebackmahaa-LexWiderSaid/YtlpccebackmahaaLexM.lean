/- Layer 7: the reference's Push walked. -/
import Derived.Test.YtlpccebackmahaaLexL
set_option linter.unusedVariables false
set_option linter.unusedSimpArgs false
namespace Go.Proofs.Ytlpccebackmahaa
open Go.RowKit

theorem row_parts {w : World} {base n : Nat} {e : TypeId} {v : Value} {xs : List Value} (h : w.ownsRow base e 1 v n xs) (hp : 0 < n) :
    ∃ g c, v = .slice (some ⟨g, 0, none⟩) n c ∧ base ≤ g ∧ g < w.heap.size ∧ ∀ i, i < n → w.cell? ⟨g, i, none⟩ = xs[i]? := by
  rcases h.2 with ⟨_, h0⟩ | ⟨g, cap, cur, rfl, hb, hh, hn, hc, _⟩
  · omega
  · exact ⟨g, cap, rfl, hb, (Array.getElem?_eq_some_iff.1 hh).1, fun i hi => h.cellAt i (by omega)⟩
theorem min_if (r x : Int) : (if x < r then x else r) = min r x := by
  split <;> omega
theorem Chain.pos {E : List Ed} {fl : List Int} {s t : Int} {l : List St} (h : Chain E fl s t l) (hst : s ≠ t) : 0 < l.length := by
  cases l with
  | nil => exact absurd (show t = s from h).symm hst
  | cons p l => simp
theorem map_at {α : Type} (l : List α) (d : α) (F : α → Value) (k : Nat) (hk : k < l.length) : (l.map F)[k]? = some (F (l.getD k d)) := by
  rw [List.getElem?_map, List.getD_eq_getElem?_getD, List.getElem?_eq_getElem hk]
  rfl

set_option maxHeartbeats 4000000 in
set_option maxRecDepth 100000 in
theorem r6push_any (N s t most : Int) (A B : Option Addr) (c d : Nat) (E : List Ed) (fl : List Int) (w : World) (hE : ReadsE w A E) (hF : ReadsI w B fl) (hN : NetOk N E) (hf : Okf N.toNat E fl s t) (hs : 0 ≤ s ∧ s < N) (ht : 0 ≤ t ∧ t < N) (hst : s ≠ t) (hm0 : 0 ≤ most) (hm1 : most ≤ 1073741824) (hpos : 0 < E.length) :
    Calls Try.prog 31 #[.agg #[.int .i64 N, .slice A E.length c], .slice B fl.length d, .int .i64 s, .int .i64 t, .int .i64 most] w fun e w' => ∃ v,
      e = .returned (.tuple #[v, .int .i64 (push N.toNat E s t most fl).2, .int .i64 0]) ∧ FlowV w' w.heap.size v (push N.toNat E s t most fl).1 ∧ (push N.toNat E s t most fl).1.length = E.length ∧ Kept w w' := by
  have hgood := r5good_yes N s t A B c d E fl (w.alloc (.cells #[.int .i64 N, .slice A E.length c] 24)) (hE.fix ((Only.refl _ _).alloc _)) (hF.fix ((Only.refl _ _).alloc _)) hN hf hs ht hst
  have HG := Lib.hid hgood
  have n2 := hN.1
  have n3 := hN.2.1
  have lE := hN.2.2.1
  have hEn := hN.ends
  have hl := hf.len
  obtain ⟨n, rfl⟩ : ∃ n : Nat, N = n := ⟨N.toNat, by omega⟩
  rw [Int.toNat_natCast] at *
  obtain ⟨bk0, off0, rfl, lb0, _⟩ := hF.cell 0 (by omega)
  have HS := Lib.hid hs
  have HT := Lib.hid ht
  have HF := Lib.hid hF
  have HE := Lib.hid hE
  have HEN := Lib.hid hEn
  have HN := Lib.hid hN
  have HP0 := Lib.hid (PS.start (most := most) hf hm0)
  have hnews : ∀ W, Kept w W → ∀ (j : Nat) (u : Value), (fl.map (Value.int .i64))[j]? = some u → W.cell? ((⟨bk0, off0, none⟩ : Addr).add j) = some u := by
    intro W hW j u hu
    have hj : j < fl.length := by have := (List.getElem?_eq_some_iff.1 hu).1; simpa using this
    rw [map_getD _ _ hj] at hu
    obtain ⟨bk', off', hv, _, hc⟩ := (HF.out.fix hW).cell j hj
    cases hv
    rw [Addr.add_lit]
    rw [hc, hu]
  have HNEWS := Lib.hid hnews
  have hone : ∀ u ∈ fl.map (Value.int .i64), u.oneCell' = true := by
    intro u hu
    obtain ⟨x, _, rfl⟩ := List.mem_map.1 hu
    rfl
  have HONE := Lib.hid hone
  clear hgood hE hF hN hf hs ht hEn hnews hone
  obtain ⟨i0, hi, hz0, hz1, hz2⟩ := info_parts infoInt
  have hm : ¬ most < 0 := by omega
  have HLN := Lib.hid hl
  clear hl
  go_enter Try.func31, Try.ntmps31
  go_wp2_with (first | (go_at_call 17; refine HG.out.mono ?_; rintro e w1 ⟨rfl, hb⟩; obtain ⟨m0, m1, mb⟩ := box_at hb; have HB := Lib.hid hb; clear hb) | (at_builtin; go_loud (refine wpList_append_own _ rfl _ _ 25 rfl (w.heap.size + 1) 3 i0 _ 1 8 Try.underlying25 hi hz0 hz1 hz2 rfl (by decide) _ 0 [] rfl ⟨rfl, .inl ⟨rfl, rfl⟩⟩ ⟨bk0, off0, none⟩ fl.length d (fl.map (Value.int .i64)) rfl (by simp) (HNEWS.out _ (((Only.refl _ _).alloc _).trans HB.out)) HONE.out (by rw [HLN.out]; unfold maxLen; omega) (by rw [HLN.out]; omega) (by omega) ?_; intro v1 w2 hown1 hgrow1 hnil1; have HN1 := Lib.hid hown1; have HG1 := Lib.hid hgrow1; clear hown1 hgrow1 hnil1)))
  have hv1 : FlowV w2 (w.heap.size + 1) v1 fl := by have := HN1.out; unfold FlowV; simpa using this
  have ho2 : Kept (w.alloc (.cells #[.int .i64 n, .slice A E.length c] 24)) w2 := HB.out.trans (Only.of_grown HG1.out (fun k hk _ => by cases hk))
  obtain ⟨g, cf, rfl, hg1, _⟩ := hv1.parts (by rw [HLN.out]; exact hpos)
  rw [HLN.out] at hv1
  have HV1 := Lib.hid hv1
  have HO2 := Lib.hid ho2
  clear hv1 ho2 HN1 HG1 HB m0 m1 mb HNEWS HONE
  rw [HLN.out]
  go_wp2
  go_loopw [15, 16, 17, 18, 19, 20, 21, 22] (fun vs _ _ _ _ _ _ _ wr => ∃ (f : List Int) (sm : Int), vs = .int .i64 sm ∧ PS n E s t most fl f sm ∧ FlowV wr (w.heap.size + 1) (.slice (some ⟨g, 0, none⟩) E.length cf) f ∧ Kept (w.alloc (.cells #[.int .i64 n, .slice A E.length c] 24)) wr) (fun vs _ _ _ _ _ _ _ _ => (most - intOf vs).toNat)
  case atStart => exact ⟨fl, 0, rfl, HP0.out, HV1.out, HO2.out⟩
  case round =>
    obtain ⟨f, sm, rfl, hps, hfv, ho⟩ := hrel
    have hlf := hps.ok.len
    obtain ⟨g', cf', hge, _, hg2, hcf, hfr⟩ := hfv.parts (by omega)
    rw [hlf] at hge
    cases hge
    obtain ⟨n0, n1, nb⟩ := box_at ho
    have hkp : Kept w wr := ((Only.refl _ _).alloc _).trans ho
    have hp0 := hps.lo
    have hp1 := hps.hi
    have HPS := Lib.hid hps
    have HFV := Lib.hid hfv
    have HO := Lib.hid ho
    have HKP := Lib.hid hkp
    have HLF := Lib.hid hlf
    have HCF := Lib.hid hcf
    have HFR := Lib.hid hfr
    have hrd := hfv.reads (by omega)
    have HRD := Lib.hid hrd
    clear hps hfv ho hkp hcf hfr hrd HP0 HV1 HO2
    by_cases hlt : sm < most
    · have hway := r6way_any n s t A (some ⟨g, 0, none⟩) c cf E f wr (HE.out.fix HKP.out) HRD.out HN.out HLF.out HS.out HT.out
      rw [Int.toNat_natCast, way_iff, hlf] at hway
      have HW := Lib.hid hway
      clear hway hlf
      cases hwo : wayOf n E f s t with
      | none =>
        rw [hwo] at HW
        have hst := HPS.out.stop (.inr hwo)
        have HST := Lib.hid hst
        clear hst
        have HWO := Lib.hid hwo
        clear hwo
        go_wp2_with (go_at_call 50; refine HW.out.mono ?_; rintro e w3 ⟨g3, rfl, hg3, hr3, hk3⟩; have HR3 := Lib.hid hr3; have HK3 := Lib.hid hk3; clear hr3 hk3)
        go_ret3
        exact ⟨.slice (some ⟨g, 0, none⟩) E.length cf, by rw [HST.out]; rfl, by rw [HST.out]; exact (HFV.out.fix HK3.out).base (by omega), by rw [HST.out]; exact HLF.out, HKP.out.trans HK3.out⟩
      | some l =>
        rw [hwo] at HW
        have hwr := wayR HEN.out HS.out hwo
        have HWR := Lib.hid hwr
        have HWO := Lib.hid hwo
        clear hwo hwr
        go_wp2_with (go_at_call 50; refine HW.out.mono ?_; rintro e w3 ⟨g3, rfl, hg3, hr3, hk3⟩; have HO3 := Lib.hid (HO.out.trans hk3); obtain ⟨n03, n13, nb3⟩ := box_at HO3.out; have HR3 := Lib.hid hr3; have HK3 := Lib.hid hk3; clear hr3 hk3)
        have hal := r6along_any n s t A (some ⟨g3, 0, none⟩) c n E f l w3 (HE.out.fix (HKP.out.trans HK3.out)) (by rw [Int.toNat_natCast]; exact HR3.out.reads (by rw [byL_len]; unfold maxLen; omega)) HN.out (by rw [Int.toNat_natCast]; exact HWR.out)
        rw [Int.toNat_natCast] at hal
        have HAL := Lib.hid hal
        clear hal
        have hlp := HWR.out.chain.pos hst
        go_wp2_with (go_at_call 51; refine HAL.out.mono ?_; rintro e w4 ⟨ve, vw, rfl, hre, hrw, hk4⟩; obtain ⟨ge, ce, hve, hge1, hge2, hge3⟩ := row_parts hre hlp; obtain ⟨gw, cw, hvw, hgw1, hgw2, hgw3⟩ := row_parts hrw hlp; subst hve; subst hvw; have HO4 := Lib.hid (HO3.out.trans hk4); obtain ⟨n04, n14, nb4⟩ := box_at HO4.out; have HRE := Lib.hid hge3; have HRW := Lib.hid hgw3; have HK4 := Lib.hid (HK3.out.trans hk4); clear hre hrw hk4 hge3 hgw3)
        have hgl : g < w3.heap.size := Nat.lt_of_lt_of_le hg2 HK3.out.size
        have HF4 := Lib.hid (HFV.out.fix HK4.out)
        have hlen : l.length ≤ n := HWR.out.len
        go_loopw [20, 21] (fun vr q wq => ∃ k : Nat, k ≤ l.length ∧ q = .int .i64 k ∧ vr = .int .i64 (roomOf E f (l.take k) (most - sm)) ∧ Kept w4 wq) (fun _ q _ => l.length - (intOf q).toNat)
        case atStart => exact ⟨0, Nat.zero_le _, rfl, rfl, Only.refl _ _⟩
        case round =>
          obtain ⟨k, hk, rfl, rfl, hkk⟩ := hrel
          have HKK := Lib.hid hkk
          obtain ⟨q0, q1, qb⟩ := box_at (HO4.out.trans hkk)
          clear hkk
          by_cases hlt2 : k < l.length
          · have hpm : l.getD k default ∈ l := getD_mem hlt2
            obtain ⟨he1, he2, he3⟩ := HWR.out.chain.steps _ hpm
            have ce1 := (HKK.out.cell (p := ⟨ge, k, none⟩) hge2 (fun x => x)).trans ((HRE.out k hlt2).trans (map_at l default (fun p => .int .i64 (p.2.2.1 : Int)) k hlt2))
            have cw1 := (HKK.out.cell (p := ⟨gw, k, none⟩) hgw2 (fun x => x)).trans ((HRW.out k hlt2).trans (map_at l default (fun p => .bool (!p.2.2.2)) k hlt2))
            obtain ⟨g', c', hgg, _, hg4, hcf, hfr⟩ := (HF4.out.fix HKK.out).parts (by rw [HLF.out]; exact hpos)
            rw [HLF.out] at hgg
            cases hgg
            have cf1 := hcf _ (by rw [HLF.out]; exact he1)
            obtain ⟨bk, off, rfl, lb, lb0', e0, e1, e2⟩ := edge_at2 HE.out he1 (HKP.out.trans (HK4.out.trans HKK.out))
            obtain ⟨s1, s2⟩ := HPS.out.ok.small HN.out (l.getD k default).2.2.1
            obtain ⟨s3, s4⟩ := HN.out.caps (l.getD k default).2.2.1
            have hl4 : ge < _ := Nat.lt_of_lt_of_le hge2 HKK.out.size
            have hl5 : gw < _ := Nat.lt_of_lt_of_le hgw2 HKK.out.size
            clear hcf hfr hpm he2 he3 e0 e1
            have hrs := roomOf_snoc E f l k (most - sm) hlt2
            unfold roomAt at hrs
            generalize hpi : (l.getD k default).2.2.1 = pi at *
            generalize hag : (l.getD k default).2.2.2 = ag at *
            have HPI := Lib.hid (And.intro hpi hag)
            clear hpi hag
            generalize f.getD pi 0 = x at *
            generalize (E.getD pi default).c = y at *
            generalize hro : roomOf E f (l.take k) (most - sm) = ro at *
            have HRO := Lib.hid hro
            have HRS := Lib.hid hrs
            clear hro hrs
            cases ag with
            | true =>
              rw [if_pos rfl] at HRS
              go_wp2
              go_roundw
              case rel => exact ⟨k + 1, by omega, by go_num, by rw [HRS.out, min_if], HKK.out⟩
              case measure => simp [intOf]; omega
            | false =>
              rw [if_neg (by decide)] at HRS
              go_wp2
              go_quiet (fail)
              go_wp2
              go_roundw
              case rel => exact ⟨k + 1, by omega, by go_num, by rw [HRS.out, min_if], HKK.out.drewN _⟩
              case measure => simp [intOf]; omega
          · obtain rfl : k = l.length := by omega
            rw [List.take_length] at *
            clear hlt2
            have hrs := room_step HEN.out HS.out HWO.out hlt
            have hps2 := HPS.out.next HEN.out HS.out hlt HWO.out
            have HPS2 := Lib.hid hps2.1
            generalize roomOf E f l (most - sm) = R at *
            obtain ⟨r1, r2, _⟩ := hrs
            have HF5 := Lib.hid (HF4.out.fix HKK.out)
            clear hps2
            go_wp2
            go_loopw [22] (fun q wq => ∃ k : Nat, k ≤ l.length ∧ q = .int .i64 k ∧ FlowV wq (w.heap.size + 1) (.slice (some ⟨g, 0, none⟩) E.length cf) (addAll R f (l.take k)) ∧ Only (fun b => b = g) w4 wq) (fun q _ => l.length - (intOf q).toNat)
            case atStart => exact ⟨0, Nat.zero_le _, rfl, HF5.out, HKK.out.mono (fun _ _ x => x.elim)⟩
            case round =>
              obtain ⟨k, hk, rfl, hfk, hok⟩ := hrel
              have HFK := Lib.hid hfk
              have HOK := Lib.hid hok
              have hcl : (addAll R f (l.take k)).length = E.length := by rw [addAll_length]; exact HLF.out
              have HCL := Lib.hid hcl
              have q0 := (hok.cell (p := ⟨w.heap.size, 0, none⟩) (by simp; omega) (by simp; omega)).trans n04
              have q1 := (hok.cell (p := ⟨w.heap.size, 1, none⟩) (by simp; omega) (by simp; omega)).trans n14
              clear hfk hok
              by_cases hlt2 : k < l.length
              · have hpm : l.getD k default ∈ l := getD_mem hlt2
                obtain ⟨he1, he2, he3⟩ := HWR.out.chain.steps _ hpm
                have ce1 := (HOK.out.cell (p := ⟨ge, k, none⟩) hge2 (by simp; omega)).trans ((HRE.out k hlt2).trans (map_at l default (fun p => .int .i64 (p.2.2.1 : Int)) k hlt2))
                have cw1 := (HOK.out.cell (p := ⟨gw, k, none⟩) hgw2 (by simp; omega)).trans ((HRW.out k hlt2).trans (map_at l default (fun p => .bool (!p.2.2.2)) k hlt2))
                obtain ⟨g', c', hgg, _, hg4, hcf, hfr⟩ := HFK.out.parts (by rw [HCL.out]; exact hpos)
                rw [HCL.out] at hgg
                cases hgg
                have cf1 := hcf _ (by rw [HCL.out]; exact he1)
                have ff1 := hfr (l.getD k default).2.2.1
                rw [HWR.out.chain.fresh HLF.out R k hlt2] at cf1
                obtain ⟨s1, s2⟩ := HPS.out.ok.small HN.out (l.getD k default).2.2.1
                have hl4 : ge < _ := Nat.lt_of_lt_of_le hge2 HOK.out.size
                have hl5 : gw < _ := Nat.lt_of_lt_of_le hgw2 HOK.out.size
                have hsn := addAll_snoc R f l k hlt2
                have hfv2 : ∀ x, FlowV _ (w.heap.size + 1) (.slice (some ⟨g, 0, none⟩) E.length cf) ((addAll R f (l.take k)).set (l.getD k default).2.2.1 x) := fun x => by
                  have := HFK.out
                  rw [← HCL.out] at this
                  have h2 := this.set (l.getD k default).2.2.1 (by rw [HCL.out]; exact he1) x
                  rw [HCL.out] at h2
                  exact h2
                unfold addAt at hsn
                rw [HWR.out.chain.fresh HLF.out R k hlt2] at hsn
                have HFV2 := Lib.hid hfv2
                clear hcf hfr hpm he2 he3 hfv2
                generalize hpi : (l.getD k default).2.2.1 = pi at *
                generalize hag : (l.getD k default).2.2.2 = ag at *
                have HPI := Lib.hid (And.intro hpi hag)
                clear hpi hag
                generalize f.getD pi 0 = x at *
                have HSN := Lib.hid hsn
                clear hsn
                cases ag with
                | true =>
                  rw [if_pos rfl] at HSN
                  go_wp2
                  go_region
                  go_wp2
                  go_roundw
                  case rel => exact ⟨k + 1, by omega, by go_num, by rw [HSN.out]; exact HFV2.out (x - R), (HOK.out.store g pi (fun _ => rfl) _).drew⟩
                  case measure => simp [intOf]; omega
                | false =>
                  rw [if_neg (by decide)] at HSN
                  go_wp2
                  go_region
                  go_wp2
                  go_roundw
                  case rel => exact ⟨k + 1, by omega, by go_num, by rw [HSN.out]; exact HFV2.out (x + R), (HOK.out.store g pi (fun _ => rfl) _).drew⟩
                  case measure => simp [intOf]; omega
              · obtain rfl : k = l.length := by omega
                rw [List.take_length] at *
                clear hlt2
                go_wp2
                go_roundw
                case rel => exact ⟨_, _, rfl, HPS2.out, HFK.out, (HO.out.trans HK4.out).trans' HOK.out (fun _ _ x => x) (fun q hq x => absurd hq (by simp at x ⊢; omega))⟩
                case measure => simp [intOf]; omega
    · have hst := HPS.out.stop (.inl (by omega))
      have HST := Lib.hid hst
      clear hst hlf
      go_wp2
      go_ret3
      exact ⟨.slice (some ⟨g, 0, none⟩) E.length cf, by rw [HST.out]; rfl, by rw [HST.out]; exact HFV.out.base (by omega), by rw [HST.out]; exact HLF.out, HKP.out⟩
end Go.Proofs.Ytlpccebackmahaa

/- Layer 7: LexFirst walked. -/
import Derived.Test.YtlpccebackmahaaLexFx
import Derived.Deep.RegionWith
import Derived.IntWalk
import Derived.Deep.QuietTactic
import Derived.BigQuiet
import Derived.Deep.CutRange
import Derived.Deep.DeepCutAuto
import Derived.Deep.RegionHeld3
set_option linter.unusedVariables false
set_option linter.unusedSimpArgs false
namespace Go.Proofs.Ytlpccebackmahaa
open Go.RowKit

set_option maxHeartbeats 4000000 in
set_option maxRecDepth 100000 in
theorem lexFirst_any (N : Int) (A B : Option Addr) (c d : Nat) (E : List Ed) (raw : List Int) (w : World) (hE : ReadsE w A E) (hR : ReadsI w B raw) (hN : i64ok N) (hb : ∀ e ∈ E, e.Ok) (hrb : ∀ n ∈ raw, i64ok n) :
    Calls Try.prog 7 #[.agg #[.int .i64 N, .slice A E.length c], .slice B raw.length d] w fun e w' => e = .returned (.bool true) ∧ Kept w w' := by
  have lR := hR.len
  unfold maxLen at lR
  have HE := Lib.hid hE
  have HR := Lib.hid hR
  have HEB := Lib.hid hb
  have HRB := Lib.hid hrb
  have HNB := Lib.hid hN
  clear hE hR hb hrb hN
  go_enter Try.func7, Try.ntmps7
  go_wp2_with (go_at_call 10; refine (awake_any _).mono ?_; rintro e w1 ⟨rfl, hk⟩; obtain ⟨c0, c1, clt, hk⟩ := nbox hk; have HK1 := Lib.hid hk; clear hk)
  refine (fit_any N A c E w1 (HE.out.fix HK1.out) HNB.out HEB.out).mono ?_
  rintro e w2 ⟨A2, c2, rfl, hown, hk2⟩
  have hfit := fit_ok N E
  have hfl := fitE_len N E
  have HM0 := Lib.hid (edges_of_row hown (by omega))
  have HNil := Lib.hid (edges_nil hown)
  have HK2 := Lib.hid (HK1.out.trans hk2)
  have HFIT := Lib.hid hfit
  clear hown hk2 hfit c0 c1 clt
  generalize fitN N = M at *
  generalize fitE N E = E2 at *
  have HB3 := Lib.hid (heap_alloc_new w2 (.cells #[.int .i64 M, .slice A2 E2.length c2] 24))
  have hs3 : (w2.alloc (.cells #[.int .i64 M, .slice A2 E2.length c2] 24)).heap.size = w2.heap.size + 1 := by simp
  have HK3 := Lib.hid (HK2.out.alloc (.cells #[.int .i64 M, .slice A2 E2.length c2] 24))
  have HE3 := Lib.hid (HM0.out.fix ((Only.refl (fun _ => False) w2).alloc (.cells #[.int .i64 M, .slice A2 E2.length c2] 24)))
  go_wp2_with (fail)
  refine (order_any M A2 B c2 d E2 raw _ HE3.out (HR.out.fix HK3.out) HRB.out (by omega)).mono ?_
  rintro e w4 ⟨v, rfl, hv, hk4⟩
  obtain ⟨Ao, co, rfl⟩ := row_slice hv
  have hoo := orderR_ok E2 raw
  have hol := hoo.2.2
  have hF := form_of_sub HFIT.out (List.Sublist.refl _) hoo
  have HMD := Lib.hid (show Made w4 M E2 (orderR E2 raw) w2.heap.size A2 Ao c2 co from ⟨(hk4.cell (p := ⟨w2.heap.size, 0, none⟩) (by rw [hs3]; simp) (fun x => x)).trans (obj_cell HB3.out 0), (hk4.cell (p := ⟨w2.heap.size, 1, none⟩) (by rw [hs3]; simp) (fun x => x)).trans (obj_cell HB3.out 1), by have := hk4.size; omega, HE3.out.fix hk4, hv.reads (by omega), HNil.out, row_cap hv⟩)
  have HK4 := Lib.hid (HK3.out.trans hk4)
  have HF := Lib.hid hF
  clear hv hk4 hoo hF hs3 HB3 HE3 HK3 HM0 HK2
  generalize orderR E2 raw = o at *
  obtain ⟨n0, n1, nlt, _, _, _, ncap⟩ := HMD.out
  go_wp2_with (fail)
  refine (fill_yes0 A2 Ao c2 co w4 HMD.out.edges HMD.out.order HNil.out HF.out).mono ?_
  rintro e w5 ⟨hk5, A5, c5, A6, c6, rfl, hr5, hr6, hc6⟩
  have HMD5 := Lib.hid (HMD.out.fix hk5)
  have HK5 := Lib.hid (HK4.out.trans hk5)
  have HG := Lib.hid hr6
  clear hk5 hr5 hr6 n0 n1 nlt HMD HK4
  have LA := fun i hi => law_alone HF.out (i := i) hi
  have LB := fun i hi => law_ahead HF.out (i := i) hi
  have hgl := gotR_len o (flowR M E2 0 1 o [])
  generalize gotR o (flowR M E2 0 1 o []) = got at *
  have HLA := Lib.hid LA
  have HLB := Lib.hid LB
  clear LA LB
  go_wp2_with (fail)
  go_loopw [11] (fun i wr => ∃ k : Nat, k ≤ o.length ∧ i = .int .i64 k ∧ Kept w5 wr) (fun i _ => o.length - (intOf i).toNat)
  case atStart => exact ⟨0, Nat.zero_le _, rfl, Only.refl _ _⟩
  case round =>
    obtain ⟨k, hk, rfl, hkp⟩ := hrel
    have HMR := Lib.hid (HMD5.out.fix hkp)
    have HKP := Lib.hid hkp
    clear hkp
    by_cases hlt : k < o.length
    · obtain ⟨bo, fo, rfl, hro1⟩ := reads_part HMR.out.order k 1 (by omega) (by omega)
      obtain ⟨bo', fo', e', hro2⟩ := reads_part HMR.out.order 0 (k + 1) (by omega) (by omega)
      cases e'
      have hok : (o.drop k).take 1 = [o.getD k 0] := by
        rw [List.getD_eq_getElem?_getD, List.getElem?_eq_getElem hlt, List.drop_eq_getElem_cons hlt]
        rfl
      rw [hok] at hro1
      rw [List.drop_zero, Nat.add_zero] at hro2
      have hm : o.getD k 0 ∈ o := by rw [List.getD_eq_getElem?_getD, List.getElem?_eq_getElem hlt]; exact List.getElem_mem hlt
      obtain ⟨x, hx1, hx2, hx3⟩ := HLA.out k hlt
      have hah := HLB.out k hlt
      have hf1 := fun W (hkw : Kept wr W) => fill_yes0 A2 (some ⟨bo, fo + k, none⟩) c2 (co - k) W (HMR.out.edges.fix hkw) (hro1.fix hkw) HNil.out (form_take HF.out (List.singleton_sublist.2 hm))
      have hf2 := fun W (hkw : Kept wr W) => fill_yes0 A2 (some ⟨bo, fo, none⟩) c2 co W (HMR.out.edges.fix hkw) (hro2.fix hkw) HNil.out (form_take HF.out (List.take_sublist (k + 1) o))
      have htl : (o.take (k + 1)).length = k + 1 := by rw [List.length_take]; omega
      simp only [hx1, List.length_cons, List.length_nil, Nat.reduceAdd] at hf1
      simp only [hah, htl] at hf2
      have HF1 := Lib.hid hf1
      have HF2 := Lib.hid hf2
      have HX2 := Lib.hid hx2
      have HX3 := Lib.hid hx3
      clear hf1 hf2 hro1 hro2 hok hm hx1 hx2 hx3 hah htl
      obtain ⟨n0, n1, nlt, _, _, _, _⟩ := HMR.out
      have d0 : ¬ co = k := by omega
      have d1 : k + 1 ≤ co := by omega
      have d2 : (k : Int) + 1 ≤ (co : Int) := by omega
      have d3 : k ≤ co := by omega
      have d4 : k + 1 - k = 1 := by omega
      have d5 : ((k : Int) + 1).toNat = k + 1 := by omega
      have d6 : (0 : Int) ≤ (k : Int) + 1 := by omega
      have d7 : (k : Int) ≤ (k : Int) + 1 := by omega
      have d8 : k + 1 ≤ c6 := by omega
      have d9 : (k : Int) + 1 ≤ (c6 : Int) := by omega
      have hgk : k < got.length := by omega
      have hk300 : (got.take (k + 1)).length = k + 1 := by rw [List.length_take]; omega
      have K1 := Lib.hid (show IntKind.i64.wrap ((k : Int) + 1) = (k : Int) + 1 from IntWalk.i64_in _ (by omega))
      go_upto_region 10 with fail
      go_cut [12, 13, 14] (fun v12 v13 v14 wx => v14 = .int .i64 0 ∧ ∃ A8 c8, v13 = .slice A8 1 c8 ∧ ReadsI wx A8 [x] ∧ Kept wr wx)
      case first =>
        have k1 := K1.out
        go_region_held3 (fun W => W.cell? ⟨w2.heap.size, 0, none⟩ = some (.int .i64 M) ∧ W.cell? ⟨w2.heap.size, 1, none⟩ = some (.slice A2 E2.length c2)) (first | exact ⟨n0, n1⟩ | exact ⟨m0, m1⟩ | go_keep)
          (first | (go_at_call 11; go_loud (refine (HF1.out _ (by first | exact (Only.refl _ _).drew | exact Only.refl _ _)).mono ?_; rintro e w6 ⟨hk6, A7, c7, A8, c8, rfl, hr7, hr8, hc8⟩; have HK6 := Lib.hid (show Kept wr w6 from (by first | exact hk6 | exact ((Only.refl _ _).drew).trans hk6)); have HR8 := Lib.hid hr8; obtain ⟨m0, m1, mlt, _, _, _, _⟩ := HMR.out.fix HK6.out; clear hk6 hr7 hr8 hc8)))
        go_wp2_with fail
        go_meet
        exact ⟨rfl, A8, c8, rfl, HR8.out, HK6.out⟩
      case rest =>
      rename World => w6
      obtain ⟨rfl, A8, c8, rfl, hr8, hk6⟩ := hcut
      have HK6 := Lib.hid hk6
      have HR8 := Lib.hid hr8
      clear hk6 hr8 n0 n1 nlt
      obtain ⟨n0, n1, nlt, _, _, _, _⟩ := HMR.out.fix HK6.out
      go_upto_region 11 with fail
      go_cut [15, 16, 17] (fun v15 v16 v17 wx => v17 = .int .i64 0 ∧ ∃ AA ca, v16 = .slice AA (k + 1) ca ∧ ReadsI wx AA (got.take (k + 1)) ∧ Kept w6 wx)
      case first =>
        have k1 := K1.out
        go_region_held3 (fun W => W.cell? ⟨w2.heap.size, 0, none⟩ = some (.int .i64 M) ∧ W.cell? ⟨w2.heap.size, 1, none⟩ = some (.slice A2 E2.length c2)) (first | exact ⟨n0, n1⟩ | exact ⟨m0, m1⟩ | go_keep)
          (first | (go_at_call 11; go_loud (refine (HF2.out _ (by first | exact HK6.out.drew | exact HK6.out)).mono ?_; rintro e w7 ⟨hk7, A9, c9, AA, ca, rfl, hr9, hra, hca⟩; have HK67 := Lib.hid (show Kept w6 w7 from (by first | exact hk7 | exact ((Only.refl _ _).drew).trans hk7)); have HRA := Lib.hid hra; obtain ⟨m0, m1, mlt, _, _, _, _⟩ := HMR.out.fix (HK6.out.trans HK67.out); clear hk7 hr9 hra hca)))
        go_wp2_with fail
        go_meet
        exact ⟨rfl, AA, ca, rfl, HRA.out, HK67.out⟩
      case rest =>
      rename World => w7
      obtain ⟨rfl, AA, ca, rfl, hra, hk67⟩ := hcut
      have HK67 := Lib.hid hk67
      have HRA := Lib.hid hra
      clear hk67 hra n0 n1 nlt
      have HK7 := Lib.hid (HK6.out.trans HK67.out)
      have HR8' := Lib.hid (HR8.out.fix HK67.out)
      have HG7 := Lib.hid (HG.out.fix (HKP.out.trans HK7.out))
      obtain ⟨b8, f8, rfl, lb8, cell8⟩ := HR8'.out.cell 0 (Nat.zero_lt_one)
      obtain ⟨bg, fg, rfl, lbg, cellg⟩ := HG7.out.cell k hgk
      obtain ⟨bg', fg', e', lbg', cellg0⟩ := HG7.out.cell 0 (by omega)
      cases e'
      have hints := fun W (hkw : Kept w7 W) => ints_quiet AA (some ⟨bg, fg, none⟩) ca c6 (got.take (k + 1)) W (HRA.out.fix hkw) (by
        obtain ⟨b', f', e', hrr⟩ := reads_part (HG7.out.fix hkw) 0 (k + 1) (by omega) (by omega)
        cases e'
        rwa [List.drop_zero, Nat.add_zero] at hrr)
      simp only [hk300] at hints
      have HINTS := Lib.hid hints
      have cell8' : w7.cell? ⟨b8, f8, none⟩ = some (.int .i64 x) := cell8
      have cellg0' : w7.cell? ⟨bg, fg, none⟩ = some (.int .i64 (got.getD 0 0)) := cellg0
      clear hints cell8 cellg0
      have g1 : decide (x < got.getD k 0) = false := decide_eq_false (by have := HX2.out; omega)
      generalize hgk2 : got.getD k 0 = gk at *
      generalize hg02 : got.getD 0 0 = g0 at *
      have HGK := Lib.hid hgk2
      have HG0 := Lib.hid hg02
      clear hgk2 hg02
      have hpos6 : 0 < o.length := by omega
      have hS := fun (y : Int) (W : World) (hk : Kept w7 W) => (hk.cell (p := ⟨b8, f8, none⟩) lb8 (fun x => x))
      by_cases hk0 : k = 0
      · have hx0 := HX3.out hk0
        have g2 : decide ((k : Int) = 0) = true := decide_eq_true (by omega)
        have g3 : ((k : Int) == 0) = true := by rw [hk0]; rfl
        subst hx0
        clear hk0 hS
        go_upto_region 12 with fail
        have k1 := K1.out
        go_quiet ((go_at_call 13; refine Calls.quiet_of (HINTS.out _ ((Only.refl _ _).drewN _))))
        clear k1
        go_wp2
        go_roundw
        case rel => exact ⟨k + 1, by omega, by go_num, HKP.out.trans (HK7.out.drewN _)⟩
        case measure => simp [intOf]; omega
      · have g2 : decide ((k : Int) = 0) = false := decide_eq_false (by omega)
        have g3 : ((k : Int) == 0) = false := by rw [beq_eq_false_iff_ne]; omega
        clear hS
        go_upto_region 12 with fail
        have k1 := K1.out
        go_quiet ((go_at_call 13; refine Calls.quiet_of (HINTS.out _ ((Only.refl _ _).drewN _))))
        clear k1
        go_wp2
        go_roundw
        case rel => exact ⟨k + 1, by omega, by go_num, HKP.out.trans (HK7.out.drewN _)⟩
        case measure => simp [intOf]; omega
    · obtain rfl : k = o.length := by omega
      clear hlt
      go_wp2
      go_ret
      exact ⟨rfl, HK5.out.trans HKP.out⟩
end Go.Proofs.Ytlpccebackmahaa
/- Layer 7: LexFirst, for whatever came in. -/
set_option linter.unusedVariables false
set_option linter.unusedSimpArgs false
namespace Go.Proofs.Ytlpccebackmahaa
open Go.ChangeShapes Go.WideShapes Go.ChangeAt Go.RowKit Go.WideMaps Go.WideElems Go.Deep

set_option maxRecDepth 100000 in
theorem lexFirst_walk {H : Type} {enc : TypeId × Value → H} {W : World} {base base' : Nat} {sp : Nat → Bool} {held : Bool} {d0 d1 : DataW H} {p0 p1 : List MemPlace}
    (v0 : Value) (hv0 : Value.okWide Try.prog W .any base 24 v0) (h0 : DataW.Trod enc Try.prog W base' sp held 24 v0 d0 p0)
    (v1 : Value) (hv1 : Value.okWide Try.prog W .any base 25 v1) (h1 : DataW.Trod enc Try.prog W base' sp held 25 v1 d1 p1) :
    Calls Try.prog 7 #[v0, v1] W fun e w' => e = .returned (.bool true) ∧ Below W.heap.size W w' := by
  obtain ⟨N, A, c, E, rfl, hE, hc, hA, hN, hEb⟩ := open_netV hv0 h0
  obtain ⟨B, d, raw, rfl, hO, hd, hrb⟩ := open_intsV hv1 h1
  exact (lexFirst_any N A B c d E raw W hE hO hN hEb hrb).mono fun e w' ⟨h1, h2⟩ => ⟨h1, h2.below (Nat.le_refl _) (fun _ _ x => x)⟩
end Go.Proofs.Ytlpccebackmahaa

/- Layer 7: billetref07.form walked. -/
import Derived.Test.YtlpccebackmahaaLexR
import Derived.StillTailTactics
set_option linter.unusedVariables false
set_option linter.unusedSimpArgs false
namespace Go.Proofs.Ytlpccebackmahaa
open Go.RowKit

theorem nodup_getD {l : List Int} : l.Nodup ↔ ∀ a b, a < b → b < l.length → l.getD a 0 ≠ l.getD b 0 := by
  rw [List.nodup_iff_pairwise_ne, List.pairwise_iff_getElem]
  constructor
  · intro h a b hab hb
    have := h a b (by omega) hb hab
    rw [List.getD_eq_getElem?_getD, List.getD_eq_getElem?_getD, List.getElem?_eq_getElem hb, List.getElem?_eq_getElem (show a < l.length by omega)]
    exact this
  · intro h a b ha hb hab
    have := h a b hab hb
    rw [List.getD_eq_getElem?_getD, List.getD_eq_getElem?_getD, List.getElem?_eq_getElem hb, List.getElem?_eq_getElem (show a < l.length by omega)] at this
    exact this
theorem all_getD {l : List Int} {P : Int → Prop} : (∀ i ∈ l, P i) ↔ ∀ a, a < l.length → P (l.getD a 0) := by
  constructor
  · intro h a ha
    rw [List.getD_eq_getElem?_getD, List.getElem?_eq_getElem ha]
    exact h _ (List.getElem_mem ha)
  · intro h i hi
    obtain ⟨a, ha, rfl⟩ := List.getElem_of_mem hi
    have := h a ha
    rw [List.getD_eq_getElem?_getD, List.getElem?_eq_getElem ha] at this
    exact this
theorem lt_succ_cases {a k : Nat} (h : a < k + 1) : a < k ∨ a = k := Nat.lt_succ_iff_lt_or_eq.1 h
/-- The form, by places. -/
theorem form_places {N : Int} {E : List Ed} {s t : Int} {order : List Int} {ls : List WayL} : FormOk N E s t order (plainWays ls) ↔
    (NetOk N E ∧ (0 ≤ s ∧ s < N) ∧ (0 ≤ t ∧ t < N) ∧ s ≠ t ∧ order.length ≤ E.length ∧ ls.length ≤ order.length) ∧ (∀ a, a < order.length → SrcOk E s (order.getD a 0)) ∧ (∀ a b, a < b → b < order.length → order.getD a 0 ≠ order.getD b 0) ∧
    (∀ a, a < ls.length → ∀ b, b < (ls.getD a default).ws.length → WayOk N E s t (order.getD a 0) ((ls.getD a default).ws.getD b default).plain) := by
  unfold FormOk TaskOk
  rw [all_getD (P := SrcOk E s), nodup_getD]
  have hpl : (plainWays ls).length = ls.length := by simp [plainWays]
  have hw : (∀ i, i < (plainWays ls).length → ∀ w ∈ (plainWays ls).getD i [], WayOk N E s t (order.getD i 0) w) ↔ ∀ a, a < ls.length → ∀ b, b < (ls.getD a default).ws.length → WayOk N E s t (order.getD a 0) ((ls.getD a default).ws.getD b default).plain := by
    rw [hpl]
    constructor
    · intro h a ha b hb
      refine h a ha _ ?_
      have e : (plainWays ls).getD a [] = (ls.getD a default).plain := by simp [plainWays, List.getD_eq_getElem?_getD, ha]
      rw [e]
      unfold WayL.plain
      exact List.mem_map.2 ⟨_, getD_mem hb, rfl⟩
    · intro h a ha w hw
      have e : (plainWays ls).getD a [] = (ls.getD a default).plain := by simp [plainWays, List.getD_eq_getElem?_getD, ha]
      rw [e] at hw
      obtain ⟨x, hx, rfl⟩ := List.mem_map.1 hw
      obtain ⟨b, hb, rfl⟩ := List.getElem_of_mem hx
      have := h a ha b hb
      rw [show (ls.getD a default).ws.getD b default = (ls.getD a default).ws[b] by rw [List.getD_eq_getElem?_getD, List.getElem?_eq_getElem hb]; rfl] at this
      exact this
  rw [hw, hpl]
  constructor
  · rintro ⟨⟨a, b, c, d, e, f, g⟩, h, i⟩; exact ⟨⟨a, b, c, d, e, h⟩, g, f, i⟩
  · rintro ⟨⟨a, b, c, d, e, h⟩, g, f, i⟩; exact ⟨⟨a, b, c, d, e, f, g⟩, h, i⟩
theorem way_at {w : World} {A : Option Addr} {ws : List WayR0} (h : ReadsW w A ws) {i : Nat} (hi : i < ws.length) {wr : World} (ho : Kept w wr) : ∃ bk off, A = some ⟨bk, off, none⟩ ∧ bk < wr.heap.size ∧ bk < w.heap.size ∧
    wr.cell? ⟨bk, off + i * 2, none⟩ = some (.slice (ws.getD i default).eA (ws.getD i default).es.length (ws.getD i default).ec) ∧ wr.cell? ⟨bk, off + i * 2 + 1, none⟩ = some (.int .i64 (ws.getD i default).count) ∧ ReadsI w (ws.getD i default).eA (ws.getD i default).es := by
  obtain ⟨bk, off, h1, h2, h3, h4⟩ := h.cell i hi
  exact ⟨bk, off, h1, Nat.lt_of_lt_of_le h2 ho.size, h2, (ho.cell (p := ⟨bk, off + i * 2, none⟩) h2 (fun x => x)).trans h3, (ho.cell (p := ⟨bk, off + i * 2 + 1, none⟩) h2 (fun x => x)).trans h4, h.ok _ (getD_mem hi)⟩
theorem wayl_at {w : World} {A : Option Addr} {ls : List WayL} (h : ReadsWW w A ls) {i : Nat} (hi : i < ls.length) {wr : World} (ho : Kept w wr) : ∃ bk off, A = some ⟨bk, off, none⟩ ∧ bk < wr.heap.size ∧ bk < w.heap.size ∧
    wr.cell? ⟨bk, off + i, none⟩ = some (.slice (ls.getD i default).wA (ls.getD i default).ws.length (ls.getD i default).wc) ∧ ReadsW w (ls.getD i default).wA (ls.getD i default).ws := by
  obtain ⟨bk, off, h1, h2, h3⟩ := h.cell i hi
  exact ⟨bk, off, h1, Nat.lt_of_lt_of_le h2 ho.size, h2, (ho.cell (p := ⟨bk, off + i, none⟩) h2 (fun x => x)).trans h3, h.ok _ (getD_mem hi)⟩

set_option maxHeartbeats 4000000 in
set_option maxRecDepth 100000 in
theorem r7form_any (N s t : Int) (A B C : Option Addr) (c d cw : Nat) (E : List Ed) (order : List Int) (ls : List WayL) (w : World) (hE : ReadsE w A E) (hO : ReadsI w B order) (hW : ReadsWW w C ls) :
    Calls Try.prog 30 #[.agg #[.int .i64 N, .slice A E.length c], .int .i64 s, .int .i64 t, .slice B order.length d, .slice C ls.length cw] w fun e w' => e = .returned (.bool (decide (FormOk N E s t order (plainWays ls)))) ∧ Kept w w' := by
  have hr := r5right_any N A c E (w.alloc (.cells #[.int .i64 N, .slice A E.length c] 24)) (hE.fix ((Only.refl _ _).alloc _))
  have lo := hO.len
  have lw := hW.len
  unfold maxLen at lo lw
  have HE := Lib.hid hE
  have HO := Lib.hid hO
  have HW := Lib.hid hW
  have hfp := form_places (N := N) (E := E) (s := s) (t := t) (order := order) (ls := ls)
  have HFP := Lib.hid hfp
  clear hE hO hW hfp
  by_cases hN : NetOk N E
  · rw [decide_eq_true hN] at hr
    have HR := Lib.hid hr
    have n2 := hN.1
    have n3 := hN.2.1
    have lE := hN.2.2.1
    have HN := Lib.hid hN
    clear hr hN
    by_cases h0 : (0 ≤ s ∧ s < N) ∧ (0 ≤ t ∧ t < N) ∧ s ≠ t ∧ order.length ≤ E.length ∧ ls.length ≤ order.length
    · have HH := Lib.hid h0
      obtain ⟨⟨s1, s2⟩, ⟨t1, t2⟩, st, ol, wl⟩ := h0
      have hst : (s == t) = false := by simpa using st
      go_enter Try.func30, Try.ntmps30
      go_wp2_with (go_at_call 48; refine HR.out.mono ?_; rintro e w1 ⟨rfl, hb⟩; obtain ⟨m0, m1, mb⟩ := box_at hb; have HB := Lib.hid hb; clear hb)
      rename _ ∧ ¬ _ => hcond
      clear hcond
      go_loopw [12] (fun i wr => ∃ k : Nat, k ≤ order.length ∧ i = .int .i64 k ∧ (∀ a, a < k → SrcOk E s (order.getD a 0)) ∧ (∀ a b, a < b → b < k → order.getD a 0 ≠ order.getD b 0) ∧ Kept (w.alloc (.cells #[.int .i64 N, .slice A E.length c] 24)) wr) (fun i _ => order.length - (intOf i).toNat)
      case atStart => exact ⟨0, Nat.zero_le _, rfl, fun a ha => absurd ha (by omega), fun a b _ hb => absurd hb (by omega), HB.out⟩
      case round =>
        obtain ⟨k, hk, rfl, hA, hB, ho⟩ := hrel
        obtain ⟨q0, q1, qb⟩ := box_at ho
        have HA := Lib.hid hA
        have HBB := Lib.hid hB
        have HOK := Lib.hid ho
        have HKP := Lib.hid (show Kept w wr from ((Only.refl _ _).alloc _).trans ho)
        clear hA hB ho HB
        by_cases hlt : k < order.length
        · obtain ⟨bk, off, rfl, lb, lb0, e0⟩ := int_at2 HO.out hlt HKP.out
          by_cases hin : 0 ≤ order.getD k 0 ∧ order.getD k 0 < E.length
          · obtain ⟨hi0, hi1⟩ := hin
            obtain ⟨i, hi⟩ : ∃ i : Nat, order.getD k 0 = i := ⟨(order.getD k 0).toNat, by omega⟩
            have HI := Lib.hid hi
            rw [hi] at hi0 hi1 e0
            have hg1 : decide ((i : Int) < 0) = false := by rw [decide_eq_false_iff_not]; omega
            have hg2 : decide ((E.length : Int) ≤ (i : Int)) = false := by rw [decide_eq_false_iff_not]; omega
            have hg3 : decide (E.length ≤ i) = false := by rw [decide_eq_false_iff_not]; omega
            have hg4 : ¬ E.length ≤ i := by omega
            obtain ⟨bk2, off2, rfl, lb2, f0, f1, f2⟩ := edge_at HE.out (show i < E.length by omega) HKP.out
            by_cases hf : (E.getD i default).f = s
            · have HSRC := Lib.hid (show SrcOk E s (order.getD k 0) by rw [hi]; exact ⟨hi0, hi1, hf⟩)
              rw [hf] at f0
              clear hf hi hi0 f1 f2
              go_wp2
              go_quiet (fail)
              go_wp2
              go_loopw [13] (fun q wr2 => ∃ j : Nat, j ≤ k ∧ q = .int .i64 j ∧ (∀ a, a < j → order.getD a 0 ≠ order.getD k 0) ∧ Kept wr wr2) (fun q _ => k - (intOf q).toNat)
              case atStart => exact ⟨0, Nat.zero_le _, rfl, fun a ha => absurd ha (by omega), (Only.refl _ _).drewN _⟩
              case round =>
                obtain ⟨j, hj, rfl, hC, ho2⟩ := hrel
                have HC := Lib.hid hC
                have HO2 := Lib.hid ho2
                have HKP2 := Lib.hid (HKP.out.trans ho2)
                clear hC ho2
                by_cases hlt2 : j < k
                · obtain ⟨_, _, hb1, lb3, _, e1⟩ := int_at2 HO.out hlt HKP2.out
                  cases hb1
                  rw [HI.out] at e1
                  obtain ⟨_, _, hb1, _, _, e2⟩ := int_at2 HO.out (show j < order.length by omega) HKP2.out
                  cases hb1
                  by_cases hq : order.getD j 0 = i
                  · rw [hq] at e2
                    have HQ := Lib.hid hq
                    clear hq
                    go_wp2
                    go_quiet (fail)
                    go_wp2
                    go_ret
                    exact ⟨ret_boolI (by symm; rw [decide_eq_false_iff_not]; intro h; exact (HFP.out.1 h).2.2.1 j k hlt2 hlt (by rw [HQ.out, HI.out])), HKP2.out.drewN _⟩
                  · have hqb : (order.getD j 0 == (i : Int)) = false := by simpa using hq
                    have HQ := Lib.hid hq
                    clear hq
                    generalize hy : order.getD j 0 = y at *
                    have HY := Lib.hid hy
                    clear hy
                    go_wp2
                    go_quiet (fail)
                    go_wp2
                    go_roundw
                    case rel => exact ⟨j + 1, by omega, by go_num, fun a ha => by
                      rcases lt_succ_cases ha with h | rfl
                      · exact HC.out a h
                      · rw [HY.out, HI.out]; exact HQ.out, HO2.out.drewN _⟩
                    case measure => simp [intOf]; omega
                · obtain rfl : j = k := by omega
                  clear hlt2
                  go_wp2
                  go_roundw
                  case rel => exact ⟨j + 1, by omega, by go_num, fun a ha => by
                      rcases lt_succ_cases ha with h | rfl
                      · exact HA.out a h
                      · exact HSRC.out, fun a b hab hb => by
                      rcases lt_succ_cases hb with h | rfl
                      · exact HBB.out a b hab h
                      · exact HC.out a hab, HOK.out.trans HO2.out⟩
                  case measure => simp [intOf]; omega
            · have HF := Lib.hid hf
              have hfb : ((E.getD i default).f == s) = false := by simpa using hf
              clear hf hi f1 f2
              generalize hfe : (E.getD i default).f = ef at *
              have HFE := Lib.hid hfe
              clear hfe
              go_wp2
              go_quiet (fail)
              go_wp2
              go_ret
              exact ⟨ret_boolI (by symm; rw [decide_eq_false_iff_not]; intro h; have := (HFP.out.1 h).2.1 k hlt; rw [HI.out] at this; exact HF.out (HFE.out ▸ this.2.2)), HKP.out.drewN _⟩
          · have hno : ¬ SrcOk E s (order.getD k 0) := fun h => hin ⟨h.1, h.2.1⟩
            have HNO := Lib.hid hno
            clear hno
            generalize hv : order.getD k 0 = v at *
            have HV := Lib.hid hv
            clear hv
            by_cases hv0 : v < 0
            · clear hin
              have hg1 : decide (v < 0) = true := decide_eq_true hv0
              go_wp2
              go_quiet (fail)
              go_wp2
              go_ret
              exact ⟨ret_boolI (by symm; rw [decide_eq_false_iff_not]; intro h; have := (HFP.out.1 h).2.1 k hlt; rw [HV.out] at this; exact HNO.out this), HKP.out.drewN _⟩
            · have hv1 : (E.length : Int) ≤ v := by omega
              have hg1 : decide (v < 0) = false := decide_eq_false hv0
              have hg2 : decide ((E.length : Int) ≤ v) = true := decide_eq_true hv1
              clear hin hv0
              go_wp2
              go_quiet (fail)
              go_wp2
              go_ret
              exact ⟨ret_boolI (by symm; rw [decide_eq_false_iff_not]; intro h; have := (HFP.out.1 h).2.1 k hlt; rw [HV.out] at this; exact HNO.out this), HKP.out.drewN _⟩
        · obtain rfl : k = order.length := by omega
          clear hlt
          go_wp2
          have HA2 := HA
          have HBB2 := HBB
          clear HA HBB
          go_loopw [14] (fun i wr => ∃ k : Nat, k ≤ ls.length ∧ i = .int .i64 k ∧ (∀ a, a < k → ∀ b, b < (ls.getD a default).ws.length → WayOk N E s t (order.getD a 0) ((ls.getD a default).ws.getD b default).plain) ∧ Kept (w.alloc (.cells #[.int .i64 N, .slice A E.length c] 24)) wr) (fun i _ => ls.length - (intOf i).toNat)
          case atStart => exact ⟨0, Nat.zero_le _, rfl, fun a ha => absurd ha (by omega), HOK.out⟩
          case round =>
            obtain ⟨k, hk2, rfl, hA, ho⟩ := hrel
            have HA := Lib.hid hA
            have HOK3 := Lib.hid ho
            clear hA ho
            by_cases hlt : k < ls.length
            · go_wp2
              go_loopw [15] (fun i wr => ∃ j : Nat, j ≤ (ls.getD k default).ws.length ∧ i = .int .i64 j ∧ (∀ b, b < j → WayOk N E s t (order.getD k 0) ((ls.getD k default).ws.getD b default).plain) ∧ Kept (w.alloc (.cells #[.int .i64 N, .slice A E.length c] 24)) wr) (fun i _ => (ls.getD k default).ws.length - (intOf i).toNat)
              case atStart => exact ⟨0, Nat.zero_le _, rfl, fun a ha => absurd ha (by omega), HOK3.out⟩
              case round =>
                obtain ⟨j, hj, rfl, hC, ho⟩ := hrel
                obtain ⟨q0, q1, qb⟩ := box_at ho
                have HC := Lib.hid hC
                have HOK4 := Lib.hid ho
                have HKP := Lib.hid (show Kept w wr from ((Only.refl _ _).alloc _).trans ho)
                clear hC ho
                obtain ⟨bk, off, rfl, lb, lb0, e0, hws⟩ := wayl_at HW.out hlt HKP.out
                have lws := hws.len
                unfold maxLen at lws
                by_cases hlt2 : j < (ls.getD k default).ws.length
                · obtain ⟨bk2, off2, hb2, lb2, lb20, f0, f1, hes⟩ := way_at hws hlt2 HKP.out
                  obtain ⟨bk3, off3, rfl, lb3, lb30, g0⟩ := int_at2 HO.out (show k < order.length by omega) HKP.out
                  have hcon : ∀ W, Kept w W → _ := fun W hW' => r7isWay_any N s t (order.getD k 0) A c E ((ls.getD k default).ws.getD j default) W (HE.out.fix hW') (hes.fix hW') HN.out ⟨s1, s2⟩
                  unfold WayR0.val at hcon
                  have HCON := Lib.hid (hcon wr.drew HKP.out.drew)
                  have HLT2 := Lib.hid hlt2
                  have HWS := Lib.hid hws
                  clear hcon hes hws
                  generalize hwl : ls.getD k default = L at *
                  have HWL := Lib.hid hwl
                  clear hwl
                  generalize hxx : L.ws.getD j default = x at *
                  have HXX := Lib.hid hxx
                  clear hxx
                  generalize hwn : L.ws.length = wn at *
                  have HWN := Lib.hid hwn
                  clear hwn
                  rw [hb2] at e0
                  generalize L.wc = wc at *
                  generalize hsv : order.getD k 0 = src at *
                  have HSV := Lib.hid hsv
                  clear hsv
                  obtain ⟨es, ct, eA, ec⟩ := x
                  simp only at f0 f1
                  generalize hbv : decide (WayOk N E s t src (WayR0.plain ⟨es, ct, eA, ec⟩)) = bv at *
                  have HBV := Lib.hid hbv
                  clear hb2 hbv
                  have ik1 : (k : Int) < (order.length : Int) := by omega
                  have ik2 : (k : Int) < (ls.length : Int) := by omega
                  have ik3 : (j : Int) < (wn : Int) := by omega
                  have ik4 : (0 : Int) ≤ (k : Int) := by omega
                  have ik5 : (0 : Int) ≤ (j : Int) := by omega
                  go_wp2
                  go_still_tail 14, (by kernel_rfl)
                  change wpList _ _ _ _ _ wr.drew
                  go_wp2_with (go_at_call 49; refine (HCON.out).mono ?_; rintro e w' ⟨rfl, hk'⟩; have HKW := Lib.hid hk'; clear hk')
                  case' roundEnd => go_roundw
                  case rel =>
                    have hbt : bv = true := by first | assumption | simp_all
                    exact ⟨j + 1, by omega, by go_num, fun b hb => by
                         rcases lt_succ_cases hb with h | rfl
                         · exact HC.out b h
                         · rw [HXX.out]; exact decide_eq_true_iff.1 (HBV.out.trans hbt), (HOK4.out.drew).trans HKW.out⟩
                  case measure => simp [intOf]; omega
                  have hbf : bv = false := by first | assumption | simp_all
                  go_ret
                  exact ⟨ret_boolI (by symm; rw [decide_eq_false_iff_not]; intro h; have hh := (HFP.out.1 h).2.2.2 k hlt j (by rw [HWL.out, HWN.out]; exact hlt2); rw [HWL.out, HXX.out, HSV.out] at hh; exact (decide_eq_false_iff_not.1 (HBV.out.trans hbf)) hh), (HKP.out.drew).trans HKW.out⟩
                · obtain rfl : j = (ls.getD k default).ws.length := by omega
                  clear hlt2
                  generalize hwn : (ls.getD k default).ws.length = wn at *
                  have HWN := Lib.hid hwn
                  clear hwn
                  go_wp2
                  go_roundw
                  case rel => exact ⟨k + 1, by omega, by go_num, fun a ha => by
                    rcases lt_succ_cases ha with h | rfl
                    · exact HA.out a h
                    · intro b hb; exact HC.out b (by rw [HWN.out] at hb; exact hb), HOK4.out⟩
                  case measure => simp [intOf]; omega
            · obtain rfl : k = ls.length := by omega
              clear hlt
              go_wp2
              go_ret
              exact ⟨ret_boolI (by symm; rw [decide_eq_true_iff]; exact HFP.out.2 ⟨⟨HN.out, HH.out.1, HH.out.2.1, HH.out.2.2.1, HH.out.2.2.2.1, HH.out.2.2.2.2⟩, HA2.out, HBB2.out, HA.out⟩), ((Only.refl _ _).alloc _).trans HOK3.out⟩
    · have hno : decide (FormOk N E s t order (plainWays ls)) = false := by
        rw [decide_eq_false_iff_not]
        exact fun h => h0 (HFP.out.1 h).1.2
      rw [hno]
      clear hno
      go_enter Try.func30, Try.ntmps30
      go_wp2_with (go_at_call 48; refine HR.out.mono ?_; rintro e w1 ⟨rfl, hb⟩; obtain ⟨m0, m1, mb⟩ := box_at hb; have HB := Lib.hid hb; clear hb)
      all_goals first
        | (go_ret; exact ⟨rfl, ((Only.refl _ _).alloc _).trans HB.out⟩)
        | (exfalso; apply h0; refine ⟨⟨?_, ?_⟩, ⟨?_, ?_⟩, ?_, ?_, ?_⟩ <;> first | omega | assumption | (trace_state; fail))
  · rw [decide_eq_false hN] at hr
    have HR := Lib.hid hr
    have hno : decide (FormOk N E s t order (plainWays ls)) = false := by
      rw [decide_eq_false_iff_not]
      exact fun h => hN h.1.1
    rw [hno]
    clear hr hN hno
    go_enter Try.func30, Try.ntmps30
    go_wp2_with (go_at_call 48; refine HR.out.mono ?_; rintro e w1 ⟨rfl, hb⟩; have HB := Lib.hid hb; clear hb)
    go_ret
    exact ⟨rfl, ((Only.refl _ _).alloc _).trans HB.out⟩
end Go.Proofs.Ytlpccebackmahaa

/- Layer 7: lex.Fill walked. -/
import Derived.Test.YtlpccebackmahaaLexY
import Derived.Test.YtlpccebackmahaaLexV
import Derived.Test.YtlpccebackmahaaLexRt
import Derived.Deep.CutRange
set_option linter.unusedVariables false
set_option linter.unusedSimpArgs false
namespace Go.Proofs.Ytlpccebackmahaa
open Go.RowKit

def fillW (w : World) (N s t : Int) (A B : Option Addr) (n c m d : Nat) : World :=
  ((w.alloc (.cells #[.int .i64 N, .slice A n c] 24)).alloc (.cells #[.slice B m d] 25)).alloc (.cells #[.int .i64 N, .slice A n c, .int .i64 s, .int .i64 t, .slice B m d] 54)
theorem wayOk_iff {N : Int} {E : List Ed} {s t src : Int} {x : WayR0} : WayOk N E s t src x.plain ↔ GoodWay N E s t x ∧ x.es.head? = some src :=
  ⟨fun h => ⟨⟨h.1, h.2.1, h.2.2.2⟩, h.2.2.1⟩, fun h => ⟨h.1.1, h.1.2.1, h.2, h.1.2.2⟩⟩
/-- The boxes of Fill, behind whatever keeps them. -/
structure FBox (w wr : World) (N s t : Int) (A B : Option Addr) (n c m d : Nat) : Prop where
  n0 : wr.cell? ⟨w.heap.size, 0, none⟩ = some (.int .i64 N)
  n1 : wr.cell? ⟨w.heap.size, 1, none⟩ = some (.slice A n c)
  o0 : wr.cell? ⟨w.heap.size + 1, 0, none⟩ = some (.slice B m d)
  k0 : wr.cell? ⟨w.heap.size + 2, 0, none⟩ = some (.int .i64 N)
  k1 : wr.cell? ⟨w.heap.size + 2, 1, none⟩ = some (.slice A n c)
  k2 : wr.cell? ⟨w.heap.size + 2, 2, none⟩ = some (.int .i64 s)
  k3 : wr.cell? ⟨w.heap.size + 2, 3, none⟩ = some (.int .i64 t)
  k4 : wr.cell? ⟨w.heap.size + 2, 4, none⟩ = some (.slice B m d)
  sz : w.heap.size + 3 ≤ wr.heap.size
theorem fbox {w wr : World} {N s t : Int} {A B : Option Addr} {n c m d : Nat} (h : Kept (fillW w N s t A B n c m d) wr) : FBox w wr N s t A B n c m d := by
  obtain ⟨a1, a2, a3⟩ := three_allocs w (.cells #[.int .i64 N, .slice A n c] 24) (.cells #[.slice B m d] 25) (.cells #[.int .i64 N, .slice A n c, .int .i64 s, .int .i64 t, .slice B m d] 54)
  have hs : (fillW w N s t A B n c m d).heap.size = w.heap.size + 3 := by unfold fillW; simp
  have b1 := (h.block w.heap.size (by omega) (fun x => x)).trans a1
  have b2 := (h.block (w.heap.size + 1) (by omega) (fun x => x)).trans a2
  have b3 := (h.block (w.heap.size + 2) (by omega) (fun x => x)).trans a3
  exact ⟨obj_cell b1 0, obj_cell b1 1, obj_cell b2 0, obj_cell b3 0, obj_cell b3 1, obj_cell b3 2, obj_cell b3 3, obj_cell b3 4, by have := h.size; omega⟩

def badP (N : Int) (E : List Ed) (s t : Int) (x : WayR0) : Bool := !decide (GoodWay N E s t x)
def badQ (src : Int) (x : WayR0) : Bool := !decide (x.es.head? = some src)
theorem bad1_any (N s t : Int) (A B C : Option Addr) (c m d cw : Nat) (E : List Ed) (ws : List WayR0) (w : World) (hE : ReadsE w A E) (hW : ReadsW w C ws) (hN : NetOk N E) (hs : 0 ≤ s ∧ s < N) :
    Calls Try.prog 24 #[.slice C ws.length cw, .func (.func 23) #[taskV N s t A B E.length c m d] #[]] w fun e w' => e = .returned (.bool (ws.any (badP N E s t))) ∧ Kept w w' := by
  refine contWc0_any (badP N E s t) N s t A B E.length c m d C cw ws w hW (fun W i hk hi => ?_)
  exact notWay_any N s t A B c m d E (ws.getD i default) W (hE.fix hk) ((hW.ok _ (getD_mem hi)).fix hk) hN hs
theorem bad2_any (C B : Option Addr) (cw d Xo Xi k : Nat) (order : List Int) (ws : List WayR0) (w : World) (hW : ReadsW w C ws) (hO : ReadsI w B order) (hk : k < order.length) (ho : w.cell? ⟨Xo, 0, none⟩ = some (.slice B order.length d)) (hi : w.cell? ⟨Xi, 0, none⟩ = some (.int .i64 k)) (lo : Xo < w.heap.size) (li : Xi < w.heap.size) :
    Calls Try.prog 24 #[.slice C ws.length cw, .func (.func 25) #[] #[.pointer (some ⟨Xo, 0, none⟩), .pointer (some ⟨Xi, 0, none⟩)]] w fun e w' => e = .returned (.bool (ws.any (badQ (order.getD k 0)))) ∧ Kept w w' := by
  refine contWc1_any (badQ (order.getD k 0)) (.pointer (some ⟨Xo, 0, none⟩)) (.pointer (some ⟨Xi, 0, none⟩)) C cw ws w hW (fun W i hkw hi2 => ?_)
  exact fill1_any (ws.getD i default) Xo Xi k d B order W ((hW.ok _ (getD_mem hi2)).fix hkw) (hO.fix hkw) hk ((hkw.cell (p := ⟨Xo, 0, none⟩) lo (fun x => x)).trans ho) ((hkw.cell (p := ⟨Xi, 0, none⟩) li (fun x => x)).trans hi) (Nat.lt_of_lt_of_le lo hkw.size) (Nat.lt_of_lt_of_le li hkw.size)
theorem bad_iff {N : Int} {E : List Ed} {s t src : Int} {ws : List WayR0} : (ws.any (badP N E s t) || ws.any (badQ src)) = false ↔ ∀ b, b < ws.length → WayOk N E s t src (ws.getD b default).plain := by
  rw [Bool.or_eq_false_iff, List.any_eq_false, List.any_eq_false]
  unfold badP badQ
  constructor
  · rintro ⟨h1, h2⟩ b hb
    have hm := getD_mem (d := default) hb
    have a1 := h1 _ hm
    have a2 := h2 _ hm
    simp only [Bool.not_eq_true', decide_eq_false_iff_not, Classical.not_not] at a1 a2
    exact wayOk_iff.2 ⟨a1, a2⟩
  · intro h
    have key : ∀ x ∈ ws, GoodWay N E s t x ∧ x.es.head? = some src := by
      intro x hx
      obtain ⟨b, hb, rfl⟩ := List.getElem_of_mem hx
      have hb2 := wayOk_iff.1 (h b hb)
      rwa [show ws.getD b default = ws[b] by rw [List.getD_eq_getElem?_getD, List.getElem?_eq_getElem hb]; rfl] at hb2
    refine ⟨fun x hx => ?_, fun x hx => ?_⟩
    · simp only [Bool.not_eq_true', decide_eq_false_iff_not, Classical.not_not]; exact (key x hx).1
    · simp only [Bool.not_eq_true', decide_eq_false_iff_not, Classical.not_not]; exact (key x hx).2

theorem cloneE_all (A : Option Addr) (c : Nat) (E : List Ed) (w : World) (hF : ReadsE w A E) (hm : E.length ≤ 300) (hA : A = none → c = 0) :
    Calls Try.prog 26 #[.slice A E.length c] w fun e w' => ∃ A' cap, e = .returned (.slice A' E.length cap) ∧ (0 < E.length → ∃ g, A' = some ⟨g, 0, none⟩ ∧ w.heap.size ≤ g ∧ RowE w' g E) ∧ Kept w w' := by
  cases A with
  | some ad => exact (cloneE_any ad c E w hF hm).mono fun e w' ⟨g, cap, h1, h2, h3, h4⟩ => ⟨_, cap, h1, fun _ => ⟨g, rfl, h2, h3⟩, h4⟩
  | none =>
    have h0 : E.length = 0 := by
      rcases Nat.eq_zero_or_pos E.length with h | h
      · exact h
      · obtain ⟨_, _, hv, _⟩ := hF.cell 0 h
        cases hv
    rw [h0, hA rfl]
    exact (cloneE_nil 0 0 w).mono fun e w' ⟨h1, h2⟩ => ⟨none, 0, h1, fun h => absurd h (by omega), by rw [h2]; exact Only.refl _ _⟩

def gotK (order : List Int) (FF : List Int) (q : Nat) : List Int := gotR (order.take q) FF ++ List.replicate (order.length - q) 0
theorem gotK_len (order : List Int) (FF : List Int) (q : Nat) (hq : q ≤ order.length) : (gotK order FF q).length = order.length := by unfold gotK gotR; simp; omega
theorem gotK_succ (order : List Int) (FF : List Int) (q : Nat) (hq : q < order.length) : gotK order FF (q + 1) = (gotK order FF q).set q (FF.getD (order.getD q 0).toNat 0) := by
  have e1 : gotR (order.take (q + 1)) FF = gotR (order.take q) FF ++ [FF.getD (order.getD q 0).toNat 0] := by
    unfold gotR
    rw [take_snoc order q 0 hq, List.map_append]
    rfl
  have e2 : List.replicate (order.length - q) (0 : Int) = 0 :: List.replicate (order.length - (q + 1)) 0 := by
    rw [show order.length - q = (order.length - (q + 1)) + 1 by omega]
    rfl
  have e3 : (gotR (order.take q) FF).length = q := by unfold gotR; simp; omega
  unfold gotK
  rw [e1, e2, List.set_append_right _ _ (by omega), e3, Nat.sub_self, List.set_cons_zero, List.append_assoc]
  rfl
theorem gotK_all (order : List Int) (FF : List Int) : gotK order FF order.length = gotR order FF := by unfold gotK; simp

set_option maxHeartbeats 8000000 in
set_option maxRecDepth 100000 in
theorem lfill_any (N s t : Int) (A B C : Option Addr) (c d cw : Nat) (E : List Ed) (order : List Int) (ls : List WayL) (w : World) (hE : ReadsE w A E) (hO : ReadsI w B order) (hW : ReadsWW w C ls) (hA0 : A = none → c = 0) :
    Calls Try.prog 11 #[.agg #[.int .i64 N, .slice A E.length c], .int .i64 s, .int .i64 t, .slice B order.length d, .slice C ls.length cw] w (FillAns N E s t order ls w) := by
  have hk0 : Kept w (fillW w N s t A B E.length c order.length d) := (((Only.refl _ _).alloc _).alloc _).alloc _
  have hr := right_any N s t A B c d E order (fillW w N s t A B E.length c order.length d) (hE.fix hk0) (hO.fix hk0)
  have lo := hO.len
  have lw := hW.len
  unfold maxLen at lo lw
  have HE := Lib.hid hE
  have HO := Lib.hid hO
  have HW := Lib.hid hW
  have HK0 := Lib.hid hk0
  unfold taskV at hr
  clear hE hO hW hk0
  by_cases hT : TaskOk N E s t order
  · rw [decide_eq_true hT] at hr
    have HR := Lib.hid hr
    clear hr
    by_cases hwl : ls.length ≤ order.length
    · have HTK := Lib.hid hT
      obtain ⟨hN, hs, ht, hst, ol, hnd, hsrc⟩ := hT
      have HN := Lib.hid hN
      have HS := Lib.hid hs
      have HT := Lib.hid ht
      have lE := hN.2.2.1
      clear hN hs ht hnd hsrc
      go_enter Try.func11, Try.ntmps11
      go_wp2_with (go_at_call 22; go_loud (refine HR.out.mono ?_; rintro e w1 ⟨rfl, hb⟩; obtain ⟨n0, n1, o0, k0, k1, k2, k3, k4, sz⟩ := fbox hb; have HB := Lib.hid hb; clear hb))
      try (rename ¬ (_ < _) => hcond; clear hcond)
      go_loopw [46] (fun i wr => ∃ k : Nat, k ≤ ls.length ∧ i = .int .i64 k ∧ (∀ a, a < k → ∀ b, b < (ls.getD a default).ws.length → WayOk N E s t (order.getD a 0) ((ls.getD a default).ws.getD b default).plain) ∧ Kept (fillW w N s t A B E.length c order.length d) wr) (fun i _ => ls.length - (intOf i).toNat)
      case atStart => exact ⟨0, Nat.zero_le _, rfl, fun a ha => absurd ha (by omega), HB.out⟩
      case round =>
        clear n0 n1 o0 k0 k1 k2 k3 k4 sz
        obtain ⟨k, hk, rfl, hA, ho⟩ := hrel
        obtain ⟨n0, n1, o0, k0, k1, k2, k3, k4, sz⟩ := fbox ho
        have nb0 : w.heap.size < wr.heap.size := by omega
        have nb1 : w.heap.size + 1 < wr.heap.size := by omega
        have nb2 : w.heap.size + 2 < wr.heap.size := by omega
        have HA := Lib.hid hA
        have HOK := Lib.hid ho
        have HKP := Lib.hid (HK0.out.trans ho)
        clear hA ho
        by_cases hlt : k < ls.length
        · obtain ⟨bk, off, rfl, lb, lb0, e0, hws⟩ := wayl_at HW.out hlt HKP.out
          have HWS := Lib.hid hws
          clear hws
          generalize hL : ls.getD k default = L at *
          have HL := Lib.hid hL
          clear hL
          have hc1 : ∀ W, Kept wr W → _ := fun W hW' => bad1_any N s t A B L.wA c order.length d L.wc E L.ws W (HE.out.fix (HKP.out.trans hW')) (HWS.out.fix (HKP.out.trans hW')) HN.out HS.out
          have hc2 : ∀ W, Kept (wr.alloc (.cells #[.int .i64 k] 3)) W → _ := fun W hW' => bad2_any L.wA B L.wc d (w.heap.size + 1) wr.heap.size k order L.ws W (HWS.out.fix (HKP.out.trans (((Only.refl _ _).alloc _).trans hW'))) (HO.out.fix (HKP.out.trans (((Only.refl _ _).alloc _).trans hW'))) (by omega)
            (((((Only.refl _ _).alloc _).trans hW').cell (p := ⟨w.heap.size + 1, 0, none⟩) (by simp; omega) (fun x => x)).trans o0) ((hW'.cell (p := ⟨wr.heap.size, 0, none⟩) (by simp) (fun x => x)).trans (by simp [World.cell?_alloc_new])) (by have := hW'.size; simp at this; omega) (by have := hW'.size; simp at this; omega)
          unfold taskV at hc1
          have HC1 := Lib.hid (hc1 _ ((Only.refl _ _).alloc (.cells #[.int .i64 k] 3)))
          have HC2 := Lib.hid hc2
          have hiff := bad_iff (N := N) (E := E) (s := s) (t := t) (src := order.getD k 0) (ws := L.ws)
          have HIF := Lib.hid hiff
          clear hc1 hc2 hiff
          generalize L.ws.any (badP N E s t) = b1 at *
          generalize L.ws.any (badQ (order.getD k 0)) = b2 at *
          cases b1 with
          | true =>
            go_wp2_with (go_at_call 24; go_loud (refine HC1.out.mono ?_; rintro e w2 ⟨rfl, hb⟩; have HB2 := Lib.hid hb; clear hb))
            go_ret3
            have hno : ¬ FormOk N E s t order (plainWays ls) := fun h => by
              have h2 := (form_places.1 h).2.2.2 k hlt
              rw [HL.out] at h2
              have := HIF.out.2 h2
              simp at this
            exact ⟨(HKP.out.alloc _).trans HB2.out, by rw [if_neg hno]; rfl⟩
          | false =>
            cases b2 with
            | true =>
              go_wp2_with (first | (go_at_call 24; go_loud (refine HC1.out.mono ?_; rintro e w2 ⟨rfl, hb⟩; have HB2 := Lib.hid hb; clear hb)) | (go_at_call 24; go_loud (refine (HC2.out _ HB2.out).mono ?_; rintro e w3 ⟨rfl, hb⟩; have HB3 := Lib.hid hb; clear hb)))
              go_ret3
              have hno : ¬ FormOk N E s t order (plainWays ls) := fun h => by
                have h2 := (form_places.1 h).2.2.2 k hlt
                rw [HL.out] at h2
                have := HIF.out.2 h2
                simp at this
              exact ⟨((HKP.out.alloc _).trans HB2.out).trans HB3.out, by rw [if_neg hno]; rfl⟩
            | false =>
              go_wp2_with (first | (go_at_call 24; go_loud (refine HC1.out.mono ?_; rintro e w2 ⟨rfl, hb⟩; have HB2 := Lib.hid hb; clear hb)) | (go_at_call 24; go_loud (refine (HC2.out _ HB2.out).mono ?_; rintro e w3 ⟨rfl, hb⟩; have HB3 := Lib.hid hb; clear hb)))
              go_roundw
              case rel => exact ⟨k + 1, by omega, by go_num, fun a ha => by
                rcases lt_succ_cases ha with h | rfl
                · exact HA.out a h
                · rw [HL.out]; exact HIF.out.1 rfl, ((HOK.out.alloc _).trans HB2.out).trans HB3.out⟩
              case measure => simp [intOf]; omega
        · obtain rfl : k = ls.length := by omega
          clear hlt
          have hform : FormOk N E s t order (plainWays ls) := form_places.2 ⟨⟨HN.out, HS.out, HT.out, hst, ol, hwl⟩, (all_getD (P := SrcOk E s)).1 HTK.out.2.2.2.2.2.2, nodup_getD.1 HTK.out.2.2.2.2.2.1, HA.out⟩
          have HFO := Lib.hid hform
          clear hform HA
          rename World => wo
          have HSZO := Lib.hid sz
          have hcl : ∀ W, Kept wo W → _ := fun W hW' => cloneE_all A c E W (HE.out.fix (HKP.out.trans hW')) (by omega) hA0
          have HCL := Lib.hid hcl
          clear hcl
          go_upto_region 11 with fail
          go_cut [17] from 60 (fun vb wx => ∃ (X : Nat) (A2 : Option Addr) (c2 : Nat), vb = .pointer (some ⟨X, 0, none⟩) ∧ wo.heap.size ≤ X ∧ wx.heap[X]? = some (.cells #[.int .i64 N, .slice A2 E.length c2] 24) ∧ (0 < E.length → ∃ g, A2 = some ⟨g, 0, none⟩ ∧ wo.heap.size ≤ g ∧ g ≠ X ∧ RowE wx g E) ∧ Kept wo wx)
          case first =>
            go_region_with (go_at_call 26; go_loud (refine (HCL.out _ (by first | exact ((Only.refl _ _).alloc _).drew | exact (Only.refl _ _).drew | exact ((Only.refl _ _).drew).alloc _)).mono ?_; rintro e w2 ⟨A2, c2, rfl, hre, hk2⟩; have HRE := Lib.hid hre; have HK2 := Lib.hid hk2; have hkw0 : Kept wo w2 := (by first | exact (((Only.refl _ _).alloc _).drew).trans hk2 | exact ((Only.refl _ _).drew).trans hk2 | exact (((Only.refl _ _).drew).alloc _).trans hk2); have y0 := (hkw0.cell (p := ⟨w.heap.size, 0, none⟩) (by simp; omega) (fun x => x)).trans n0; have y1 := (hkw0.cell (p := ⟨w.heap.size, 1, none⟩) (by simp; omega) (fun x => x)).trans n1; have y2 : w.heap.size < w2.heap.size := Nat.lt_of_lt_of_le nb0 hkw0.size; clear hkw0; try (have hob : w2.heap[wo.heap.size]? = some (.cells #[.int .i64 0, .slice none 0 0] 24) := (by first | exact (hk2.block wo.heap.size (by simp) (fun x => x)).trans (heap_alloc_new wo _) | exact (hk2.block wo.heap.size (by simp) (fun x => x)).trans (heap_alloc_new wo.drew _)); have z0 := obj_cell hob 0; have z1 := obj_cell hob 1; have zf0 := obj_fr hob 0; have zf1 := obj_fr hob 1; simp only [List.getElem?_toArray, List.getElem?_cons_zero, List.getElem?_cons_succ] at z0 z1; have HOB := Lib.hid hob; clear hob); clear hre hk2))
            all_goals (go_wp2_with fail; go_meet)
            all_goals
              have hkw : Kept wo w2 := by first | exact (((Only.refl _ _).alloc _).drew).trans HK2.out | exact ((Only.refl _ _).drew).trans HK2.out | exact (((Only.refl _ _).drew).alloc _).trans HK2.out
              have hsw := hkw.size
            all_goals first
              | exact ⟨w2.heap.size, A2, c2, rfl, hsw, heap_alloc_new _ _, fun h => by obtain ⟨g, a, b, e⟩ := HRE.out h; exact ⟨g, a, by simp at b; omega, by have := e.lt; omega, e.only ((Only.refl (fun _ => False) _).alloc _) (fun x => x)⟩, hkw.alloc _⟩
              | (refine ⟨wo.heap.size, A2, c2, rfl, Nat.le_refl _, ?_, fun h => ?_, (hkw.store _ _ (fun h => absurd h (by simp)) _).store _ _ (fun h => absurd h (by simp)) _⟩
                 · have h1 := rblk_setCell (i := 1) (rblk_setCell (i := 0) HOB.out (.int .i64 N)) (.slice A2 E.length c2)
                   simpa using h1
                 · obtain ⟨g, a, b, e⟩ := HRE.out h
                   simp at b
                   exact ⟨g, a, by omega, by omega, e.only ((store_only w2 wo.heap.size 0 _).trans (store_only _ wo.heap.size 1 _)) (by omega)⟩)
          case rest =>
            obtain ⟨X, A2, c2, rfl, hX, hob, hre, hkc⟩ := hcut
            have HOB := Lib.hid hob
            have HRE := Lib.hid hre
            have HKC := Lib.hid hkc
            have hwc := hkc.size
            have HKW := Lib.hid (HOK.out.trans hkc)
            clear hob hre hkc
            have hgA : 0 < E.length → ∃ g, A2 = some ⟨g, 0, none⟩ ∧ wo.heap.size ≤ g ∧ g ≠ X := fun h => by obtain ⟨g, a, b, e, _⟩ := HRE.out h; exact ⟨g, a, b, e⟩
            have HGA := Lib.hid hgA
            have hrow0 : ∀ g, A2 = some ⟨g, 0, none⟩ → 0 < E.length → RowE wc g (closeK E s 0) := fun g hg h => by
              obtain ⟨g', a, _, _, e⟩ := HRE.out h
              rw [hg] at a
              cases a
              rw [closeK_zero]
              exact e
            have HROW0 := Lib.hid hrow0
            clear hgA hrow0 HRE HCL
            have hob1 := obj_cell HOB.out 1
            simp only [List.getElem?_toArray, List.getElem?_cons_zero, List.getElem?_cons_succ] at hob1
            go_wp2
            go_loopw [69] (fun q wq => ∃ k : Nat, k ≤ E.length ∧ q = .int .i64 k ∧ (∀ g, A2 = some ⟨g, 0, none⟩ → 0 < E.length → RowE wq g (closeK E s k)) ∧ wq.heap[X]? = some (.cells #[.int .i64 N, .slice A2 E.length c2] 24) ∧ Kept (fillW w N s t A B E.length c order.length d) wq ∧ wo.heap.size ≤ wq.heap.size) (fun q _ => E.length - (intOf q).toNat)
            case atStart => exact ⟨0, Nat.zero_le _, rfl, HROW0.out, HOB.out, HKW.out, hwc⟩
            case round =>
              clear n0 n1 o0 k0 k1 k2 k3 k4 sz nb0 nb1 nb2 hob1
              obtain ⟨k, hk, rfl, hrk, hobk, hok, hszk⟩ := hrel
              obtain ⟨n0, n1, o0, k0, k1, k2, k3, k4, sz⟩ := fbox hok
              have nb0 : w.heap.size < wr.heap.size := by omega
              have nb1 : w.heap.size + 1 < wr.heap.size := by omega
              have nb2 : w.heap.size + 2 < wr.heap.size := by omega
              have x1 := obj_cell hobk 1
              simp only [List.getElem?_toArray, List.getElem?_cons_zero, List.getElem?_cons_succ] at x1
              have hkpk := HK0.out.trans hok
              have HRK := Lib.hid hrk
              have HOBK := Lib.hid hobk
              have HOKK := Lib.hid hok
              have HKPK := Lib.hid hkpk
              clear hrk hobk hok hkpk
              by_cases hlt : k < E.length
              · obtain ⟨g, rfl, hg1, hgX⟩ := HGA.out (by omega)
                have hrow := HRK.out g rfl (by omega)
                have hrd := hrow.reads (by rw [closeK_len _ _ _ (by omega)]; omega)
                obtain ⟨_, _, hv, hgl, _, _, y2⟩ := hrd.cell k (by rw [closeK_len _ _ _ (by omega)]; exact hlt)
                cases hv
                rw [Nat.zero_add] at y2
                have yf := hrow.fr (k * 3 + 2)
                have hset := hrow.setC (i := k) (by rw [closeK_len _ _ _ (by omega)]; exact hlt) 0
                have HSET := Lib.hid hset
                have HROWK := Lib.hid hrow
                have hsrc := isSource_any N s t k A B c order.length d E wr (HE.out.fix HKPK.out)
                unfold taskV at hsrc
                have hiff : SrcOk E s k ↔ (E.getD k default).f = s := ⟨fun h => by have := h.2.2; rwa [Int.toNat_natCast] at this, fun h => ⟨by omega, by omega, by rwa [Int.toNat_natCast]⟩⟩
                rw [bool_iff hiff] at hsrc
                clear hrd hrow hset hiff
                generalize ((closeK E s k).getD k default).c = yc at *
                by_cases hf : (E.getD k default).f = s
                · rw [decide_eq_true hf] at hsrc
                  have hcy := closeK_yes E s k hlt hf
                  have HCY := Lib.hid hcy
                  have HSRC := Lib.hid hsrc
                  clear hcy hsrc hf
                  go_wp2_with (go_at_call 27; go_loud (refine HSRC.out.mono ?_; rintro e w4 ⟨rfl, hb⟩; have z2 := (hb.cell (p := ⟨g, k * 3 + 2, none⟩) hgl (fun x => x)).trans y2; have zf := (hb.frozen (p := ⟨g, k * 3 + 2, none⟩) hgl (fun x => x)).trans yf; have zx := (hb.cell (p := ⟨X, 1, none⟩) (Array.getElem?_eq_some_iff.1 HOBK.out).1 (fun x => x)).trans x1; have HB4 := Lib.hid hb; clear hb))
                  go_roundw
                  case rel =>
                    refine ⟨k + 1, by omega, by go_num, fun g' hg' _ => ?_, (Below.heap_setCell w4 ⟨g, k * 3 + 2, none⟩ (.int .i64 0) X (fun h => hgX h.symm)).trans ((HB4.out.block X (Array.getElem?_eq_some_iff.1 HOBK.out).1 (fun x => x)).trans HOBK.out), (HOKK.out.trans HB4.out).store g _ (fun h => absurd h (by have := HSZO.out; unfold fillW; simp; omega)) _, by have := HB4.out.size; simp [World.setCell]; omega⟩
                    cases hg'
                    rw [HCY.out]
                    exact (HROWK.out.only HB4.out (fun x => x)).setC (by rw [closeK_len _ _ _ (by omega)]; exact hlt) 0
                  case measure => simp [intOf]; omega
                · rw [decide_eq_false hf] at hsrc
                  have hcn := closeK_no E s k hlt hf
                  have HCN := Lib.hid hcn
                  have HSRC := Lib.hid hsrc
                  clear hcn hsrc hf
                  go_wp2_with (go_at_call 27; go_loud (refine HSRC.out.mono ?_; rintro e w4 ⟨rfl, hb⟩; have HB4 := Lib.hid hb; clear hb))
                  go_roundw
                  case rel => exact ⟨k + 1, by omega, by go_num, fun g' hg' h' => by rw [HCN.out]; exact (HRK.out g' hg' h').only HB4.out (fun x => x), (HB4.out.block X (Array.getElem?_eq_some_iff.1 HOBK.out).1 (fun x => x)).trans HOBK.out, HOKK.out.trans HB4.out, by have := HB4.out.size; omega⟩
                  case measure => simp [intOf]; omega
              · obtain rfl : k = E.length := by omega
                clear hlt
                rw [closeK_all] at HRK
                have hmk := make_ints E.length (by omega)
                go_wp2
                clear hmk
                have hz0 : fillN N.toNat E s t (natsOf order) (waysN (plainWays ls)) 0 = List.replicate E.length 0 := rfl
                have hv0 : RowI (wr.alloc (.cells (Array.replicate E.length (.int .i64 0)) 3)) wr.heap.size (fillN N.toNat E s t (natsOf order) (waysN (plainWays ls)) 0) := by rw [hz0]; exact RowI.made wr E.length
                have HV0 := Lib.hid hv0
                clear hv0 hz0
                have hopn0 : opn E s [] = opn E s (natsOf (order.take 0)) := rfl
                rw [hopn0] at HRK
                clear hopn0
                rename World => wp
                go_loopw [19, 87] (fun vf q wq => ∃ (k gf : Nat), k ≤ order.length ∧ q = .int .i64 k ∧ vf = .slice (some ⟨gf, 0, none⟩) E.length E.length ∧ wp.heap.size ≤ gf ∧ RowI wq gf (fillN N.toNat E s t (natsOf order) (waysN (plainWays ls)) k) ∧ (∀ g, A2 = some ⟨g, 0, none⟩ → 0 < E.length → RowE wq g (opn E s (natsOf (order.take k)))) ∧ wq.heap[X]? = some (.cells #[.int .i64 N, .slice A2 E.length c2] 24) ∧ Kept (fillW w N s t A B E.length c order.length d) wq ∧ wp.heap.size ≤ wq.heap.size) (fun _ q _ => order.length - (intOf q).toNat)
                case atStart => exact ⟨0, wp.heap.size, Nat.zero_le _, rfl, rfl, Nat.le_refl _, HV0.out, fun g hg h => (HRK.out g hg h).only ((Only.refl (fun _ => False) _).alloc _) (fun x => x), (heap_alloc_old wp _ (Array.getElem?_eq_some_iff.1 HOBK.out).1).trans HOBK.out, HOKK.out.alloc _, by simp⟩
                case round =>
                  clear n0 n1 o0 k0 k1 k2 k3 k4 sz nb0 nb1 nb2 x1
                  obtain ⟨k, gf, hk, rfl, rfl, hgf, hrf, hre, hobx, hok3, hsz3⟩ := hrel
                  obtain ⟨n0, n1, o0, k0, k1, k2, k3, k4, sz⟩ := fbox hok3
                  have nb0 : w.heap.size < wr.heap.size := by omega
                  have nb1 : w.heap.size + 1 < wr.heap.size := by omega
                  have nb2 : w.heap.size + 2 < wr.heap.size := by omega
                  have lX := (Array.getElem?_eq_some_iff.1 hobx).1
                  have lX0 := (Array.getElem?_eq_some_iff.1 HOBK.out).1
                  have x1 := obj_cell hobx 1
                  simp only [List.getElem?_toArray, List.getElem?_cons_zero, List.getElem?_cons_succ] at x1
                  have HRF := Lib.hid hrf
                  have HREE := Lib.hid hre
                  have HOBX := Lib.hid hobx
                  have HOK3 := Lib.hid hok3
                  have HKP3 := Lib.hid (HK0.out.trans hok3)
                  have hgfl := hrf.lt
                  clear hrf hre hobx hok3
                  by_cases hlt : k < order.length
                  · obtain ⟨g, rfl, hg1, hgX⟩ := HGA.out (by omega)
                    obtain ⟨bk, off, rfl, lb, lb0, e0⟩ := int_at2 HO.out hlt HKP3.out
                    obtain ⟨so0, so1, so2⟩ := (all_getD (P := SrcOk E s)).1 HTK.out.2.2.2.2.2.2 k hlt
                    obtain ⟨i, hi'⟩ : ∃ i : Nat, order.getD k 0 = i := ⟨(order.getD k 0).toNat, by omega⟩
                    have hrow := HREE.out g rfl (by omega)
                    have htk : natsOf (order.take (k + 1)) = natsOf (order.take k) ++ [i] := by
                      unfold natsOf
                      rw [take_snoc order k 0 hlt, List.map_append, hi']
                      rfl
                    rw [hi'] at e0 so0 so1
                    have hrd := hrow.reads (by rw [opn_length]; omega)
                    obtain ⟨_, _, hv, hgl, _, _, y2⟩ := hrd.cell i (by rw [opn_length]; omega)
                    cases hv
                    rw [Nat.zero_add] at y2
                    have yf := hrow.fr (i * 3 + 2)
                    obtain ⟨bk2, off2, rfl, lb2, lb20, _, _, e2⟩ := edge_at2 HE.out (show i < E.length by omega) HKP3.out
                    have hset := hrow.setC (i := i) (by rw [opn_length]; omega) (E.getD i default).c
                    rw [opn_add E s _ i (by omega), ← htk] at hset
                    have HSET := Lib.hid hset
                    have hbg : bk2 ≠ g := by have := HSZO.out; omega
                    have hbg2 : bk ≠ g := by have := HSZO.out; omega
                    have ii : (i : Int) < (E.length : Int) := so1
                    have hXg : X ≠ g := fun h => hgX h.symm
                    have hgf2 : g ≠ gf := by have := HRK.out g rfl (by omega); have := this.lt; omega
                    have HII := Lib.hid hi'
                    clear hrow htk hi' so0 so2 hrd hset
                    generalize ((opn E s (natsOf (order.take k))).getD i default).c = yc at *
                    generalize hce : (E.getD i default).c = ce at *
                    have HCE := Lib.hid hce
                    clear hce
                    go_wp2
                    go_region
                    obtain ⟨w5, hw5⟩ : ∃ w5, w5 = (wr.setCell ⟨g, i * 3 + 2, none⟩ (.int .i64 ce)).drew := ⟨_, rfl⟩
                    have hs5 : w5.heap.size = wr.heap.size := by rw [hw5]; simp [World.setCell]
                    have hse5 : RowE w5 g (opn E s (natsOf (order.take (k + 1)))) := by rw [hw5]; exact ⟨HSET.out.obj⟩
                    have hrf5 : RowI w5 gf (fillN N.toNat E s t (natsOf order) (waysN (plainWays ls)) k) := by rw [hw5]; exact (HRF.out.only (store_only wr g _ _) (fun h => hgf2 h.symm)).drew
                    have hox5 : w5.heap[X]? = some (.cells #[.int .i64 N, .slice (some ⟨g, 0, none⟩) E.length c2] 24) := by rw [hw5]; exact (Below.heap_setCell wr ⟨g, i * 3 + 2, none⟩ (.int .i64 ce) X hXg).trans HOBX.out
                    have hws5 : Kept (fillW w N s t (some ⟨bk2, off2, none⟩) (some ⟨bk, off, none⟩) E.length c order.length d) w5 := by rw [hw5]; exact (HOK3.out.store g _ (fun h => absurd h (by have := HSZO.out; unfold fillW; simp; omega)) _).drew
                    rw [← hw5]
                    have hsz5 : wp.heap.size ≤ w5.heap.size := by omega
                    clear hw5 x1 n0 n1 o0 k0 k1 k2 k3 k4 e0 e2 y2 yf
                    obtain ⟨n0, n1, o0, k0, k1, k2, k3, k4, sz5⟩ := fbox hws5
                    have m0 : w.heap.size < w5.heap.size := by omega
                    have m1 : w.heap.size + 1 < w5.heap.size := by omega
                    have m2 : w.heap.size + 2 < w5.heap.size := by omega
                    have x0 := obj_cell hox5 0
                    have x1 := obj_cell hox5 1
                    simp only [List.getElem?_toArray, List.getElem?_cons_zero, List.getElem?_cons_succ] at x0 x1
                    have hgf5 := hrf5.lt
                    have lX5 : X < w5.heap.size := by omega
                    have HSE5 := Lib.hid hse5
                    have HRF5 := Lib.hid hrf5
                    have HOX5 := Lib.hid hox5
                    have HWS5 := Lib.hid hws5
                    have HS5 := Lib.hid hs5
                    have HKP5 := Lib.hid (HK0.out.trans hws5)
                    clear hs5 hse5 hrf5 hox5 hws5
                    have HTI := Lib.hid (TI.start HFO.out.1.lexT (HFO.out.inv k (by omega)))
                    obtain ⟨f0, hf0⟩ : ∃ f0, f0 = fillN N.toNat E s t (natsOf order) (waysN (plainWays ls)) k := ⟨_, rfl⟩
                    rw [← hf0] at HRF5 HTI
                    have HF0 := Lib.hid hf0
                    clear hf0
                    by_cases hkl : k < ls.length
                    · obtain ⟨bk6, off6, rfl, lb6, lb60, wl0, hws⟩ := wayl_at HW.out hkl HKP5.out
                      have lws := hws.len
                      unfold maxLen at lws
                      have HWS := Lib.hid hws
                      clear hws
                      generalize hL : ls.getD k default = L at *
                      have HL := Lib.hid hL
                      clear hL
                      go_wp2
                      go_loopw [112] (fun q wz => ∃ j : Nat, j ≤ L.ws.length ∧ q = .int .i64 j ∧ RowI wz gf (tryK E f0 L.ws j) ∧ Only (fun b => b = gf) w5 wz) (fun q _ => L.ws.length - (intOf q).toNat)
                      case atStart => exact ⟨0, Nat.zero_le _, rfl, HRF5.out, Only.refl _ _⟩
                      case round =>
                        obtain ⟨j, hj, rfl, hrj, hoj⟩ := hrel
                        have HRJ := Lib.hid hrj
                        have HOJ := Lib.hid hoj
                        have HKQ := Lib.hid (show Kept w wr from HKP5.out.trans' hoj (fun _ _ x => x) (fun q hq x => by have x' : q = gf := x; have := HSZO.out; omega))
                        have hszj := hoj.size
                        have p1 := (hoj.cell (p := ⟨w.heap.size + 2, 0, none⟩) (by simp; omega) (by have := HSZO.out; simp; omega)).trans k0
                        have p2 := (hoj.cell (p := ⟨w.heap.size + 2, 1, none⟩) (by simp; omega) (by have := HSZO.out; simp; omega)).trans k1
                        have p3 := (hoj.cell (p := ⟨w.heap.size + 2, 2, none⟩) (by simp; omega) (by have := HSZO.out; simp; omega)).trans k2
                        have p4 := (hoj.cell (p := ⟨w.heap.size + 2, 3, none⟩) (by simp; omega) (by have := HSZO.out; simp; omega)).trans k3
                        have p5 := (hoj.cell (p := ⟨w.heap.size + 2, 4, none⟩) (by simp; omega) (by have := HSZO.out; simp; omega)).trans k4
                        have hti := tryK_inv HFO.out k hlt hkl HTI.out j (by rw [HL.out]; exact hj)
                        rw [HL.out] at hti
                        have HTJ := Lib.hid hti
                        clear hrj hoj hti
                        have nbr : w.heap.size + 2 < wr.heap.size := by omega
                        by_cases hlt2 : j < L.ws.length
                        · obtain ⟨bk7, off7, hb7, lb7, lb70, v0, v1, hes⟩ := way_at HWS.out hlt2 HKQ.out
                          have hwk := (form_places.1 HFO.out).2.2.2 k hkl j (by rw [HL.out]; exact hlt2)
                          rw [HL.out] at hwk
                          obtain ⟨_, hct, hhead, hwalk⟩ := hwk
                          have hsucc := tryK_succ E f0 L.ws j hlt2
                          have hcon := try_any N s t (some ⟨bk2, off2, none⟩) (some ⟨bk, off, none⟩) c order.length d gf E.length E (tryK E f0 L.ws j) (L.ws.getD j default) (wr.alloc (.cells #[.slice (L.ws.getD j default).eA (L.ws.getD j default).es.length (L.ws.getD j default).ec, .int .i64 (L.ws.getD j default).count] 44))
                            (HE.out.fix (HKQ.out.alloc _)) (hes.fix (HKQ.out.alloc _)) HN.out (HRJ.out.fix ((Only.refl _ _).alloc _)) HTJ.out.ok hwalk hct (fun ad h => by cases h; have := HSZO.out; show bk2 ≠ gf; omega) (fun ad h => by
                              have hl0 : 0 < (L.ws.getD j default).es.length := by
                                cases hq : (L.ws.getD j default).es with
                                | nil => have hh : (L.ws.getD j default).es.head? = _ := hhead; rw [hq] at hh; cases hh
                                | cons a l => simp
                              obtain ⟨b0, o0', hv0, hl00, _⟩ := hes.cell 0 hl0
                              rw [h] at hv0
                              cases hv0
                              have := HSZO.out
                              show b0 ≠ gf
                              omega)
                          unfold taskV WayR0.val at hcon
                          have HCON := Lib.hid hcon
                          have HSU := Lib.hid hsucc
                          clear hsucc hcon hhead hwalk hct hes
                          generalize L.ws.getD j default = x at *
                          generalize L.ws.length = wn at *
                          generalize L.wA = wA at *
                          subst hb7
                          obtain ⟨es, ct, eA, ec⟩ := x
                          simp only at v0 v1 HCON
                          go_wp2_with (go_at_call 28; go_loud (refine HCON.out.mono ?_; rintro e w8 ⟨rfl, hr8, ho8⟩; have HR8 := Lib.hid hr8; have HO8 := Lib.hid ho8; clear hr8 ho8))
                          go_roundw
                          case rel => exact ⟨j + 1, by omega, by go_num, by rw [HSU.out]; exact HR8.out, HOJ.out.trans (((Only.refl _ _).alloc _).trans HO8.out)⟩
                          case measure => simp [intOf]; omega
                        · obtain rfl : j = L.ws.length := by omega
                          clear hlt2
                          obtain ⟨FF, hFF⟩ : ∃ FF, FF = tryK E f0 L.ws L.ws.length := ⟨_, rfl⟩
                          have hta : TI N.toNat E s t (natsOf order) k FF := by rw [hFF]; exact HTJ.out
                          have hfa : RowI wr gf FF := by rw [hFF]; exact HRJ.out
                          have hox : Only (fun b => b = gf) w5 wr := HOJ.out
                          have hstep : fillN N.toNat E s t (natsOf order) (waysN (plainWays ls)) (k + 1) = (push N.toNat (opn E s (natsOf (order.take (k + 1)))) s t lots30 FF).1 := by rw [fillN_step, if_pos hkl, HL.out, hFF, HF0.out]
                          have hok : Okf N.toNat (opn E s (natsOf (order.take (k + 1)))) FF s t := by have := hta.close; unfold natsOf at this ⊢; rwa [← List.map_take] at this
                          have z0 := (hox.cell (p := ⟨X, 0, none⟩) lX5 (by simp; omega)).trans x0
                          have z1 := (hox.cell (p := ⟨X, 1, none⟩) lX5 (by simp; omega)).trans x1
                          have hrE : RowE wr g (opn E s (natsOf (order.take (k + 1)))) := HSE5.out.only hox hgf2
                          have hoX := (hox.block X lX5 (by omega)).trans HOX5.out
                          have hszw := hox.size
                          have hkW : Kept (fillW w N s t (some ⟨bk2, off2, none⟩) (some ⟨bk, off, none⟩) E.length c order.length d) wr := HWS5.out.trans' hox (fun _ _ x => x) (fun q hq x => by have x' : q = gf := x; have := HSZO.out; unfold fillW at hq; simp at hq; omega)
                          have hlff := hta.ok.len
                          have hpu := fpush_any N s t 1073741824 (some ⟨g, 0, none⟩) (some ⟨gf, 0, none⟩) c2 E.length (opn E s (natsOf (order.take (k + 1)))) FF wr (hrE.reads (by rw [opn_length]; omega)) (hfa.reads (by rw [hlff]; unfold maxLen; omega)) (HN.out.opn s _) hok HS.out HT.out hst (by omega) (by omega) (by rw [opn_length]; omega)
                          rw [opn_length, hlff] at hpu
                          have HPU := Lib.hid hpu
                          have HRE9 := Lib.hid hrE
                          have HOX9 := Lib.hid hoX
                          have HKW9 := Lib.hid hkW
                          have HST9 := Lib.hid hstep
                          clear hta hfa hox hstep hok hpu hrE hoX hkW hlff hFF
                          go_wp2_with (go_at_call 29; go_loud (refine HPU.out.mono ?_; rintro e w9 ⟨g9, rfl, hg9, hr9, hl9, hk9⟩; have HR9 := Lib.hid hr9; have HK9 := Lib.hid hk9; clear hr9 hl9 hk9))
                          go_roundw
                          case rel => exact ⟨k + 1, g9, by omega, by go_num, rfl, by omega, by rw [HST9.out]; exact HR9.out, fun g' hg' _ => by cases hg'; exact HRE9.out.only HK9.out (fun x => x), (HK9.out.block X (by omega) (fun x => x)).trans HOX9.out, HKW9.out.trans HK9.out, by have := HK9.out.size; omega⟩
                          case measure => simp [intOf]; omega
                    · have hklb : (ls.length : Int) ≤ (k : Int) := by omega
                      obtain ⟨FF, hFF⟩ : ∃ FF, FF = f0 := ⟨_, rfl⟩
                      have hta : TI N.toNat E s t (natsOf order) k FF := by rw [hFF]; exact HTI.out
                      have hfa : RowI w5 gf FF := by rw [hFF]; exact HRF5.out
                      have hox : Only (fun b => b = gf) w5 w5 := Only.refl _ _
                      have hstep : fillN N.toNat E s t (natsOf order) (waysN (plainWays ls)) (k + 1) = (push N.toNat (opn E s (natsOf (order.take (k + 1)))) s t lots30 FF).1 := by rw [fillN_step, if_neg hkl, hFF, HF0.out]
                      have hok : Okf N.toNat (opn E s (natsOf (order.take (k + 1)))) FF s t := by have := hta.close; unfold natsOf at this ⊢; rwa [← List.map_take] at this
                      have z0 := (hox.cell (p := ⟨X, 0, none⟩) lX5 (by simp; omega)).trans x0
                      have z1 := (hox.cell (p := ⟨X, 1, none⟩) lX5 (by simp; omega)).trans x1
                      have hrE : RowE w5 g (opn E s (natsOf (order.take (k + 1)))) := HSE5.out.only hox hgf2
                      have hoX := (hox.block X lX5 (by omega)).trans HOX5.out
                      have hszw := hox.size
                      have hkW : Kept (fillW w N s t (some ⟨bk2, off2, none⟩) (some ⟨bk, off, none⟩) E.length c order.length d) w5 := HWS5.out.trans' hox (fun _ _ x => x) (fun q hq x => by have x' : q = gf := x; have := HSZO.out; unfold fillW at hq; simp at hq; omega)
                      have hlff := hta.ok.len
                      have hpu := fpush_any N s t 1073741824 (some ⟨g, 0, none⟩) (some ⟨gf, 0, none⟩) c2 E.length (opn E s (natsOf (order.take (k + 1)))) FF w5 (hrE.reads (by rw [opn_length]; omega)) (hfa.reads (by rw [hlff]; unfold maxLen; omega)) (HN.out.opn s _) hok HS.out HT.out hst (by omega) (by omega) (by rw [opn_length]; omega)
                      rw [opn_length, hlff] at hpu
                      have HPU := Lib.hid hpu
                      have HRE9 := Lib.hid hrE
                      have HOX9 := Lib.hid hoX
                      have HKW9 := Lib.hid hkW
                      have HST9 := Lib.hid hstep
                      clear hta hfa hox hstep hok hpu hrE hoX hkW hlff hFF
                      go_wp2_with (go_at_call 29; go_loud (refine HPU.out.mono ?_; rintro e w9 ⟨g9, rfl, hg9, hr9, hl9, hk9⟩; have HR9 := Lib.hid hr9; have HK9 := Lib.hid hk9; clear hr9 hl9 hk9))
                      go_roundw
                      case rel => exact ⟨k + 1, g9, by omega, by go_num, rfl, by omega, by rw [HST9.out]; exact HR9.out, fun g' hg' _ => by cases hg'; exact HRE9.out.only HK9.out (fun x => x), (HK9.out.block X (by omega) (fun x => x)).trans HOX9.out, HKW9.out.trans HK9.out, by have := HK9.out.size; omega⟩
                      case measure => simp [intOf]; omega
                  · obtain rfl : k = order.length := by omega
                    clear hlt
                    have hlff := HFO.out.len order.length (Nat.le_refl _)
                    have hflow : flowR N E s t order (plainWays ls) = fillN N.toNat E s t (natsOf order) (waysN (plainWays ls)) order.length := rfl
                    obtain ⟨FF, hFF⟩ : ∃ FF, FF = fillN N.toNat E s t (natsOf order) (waysN (plainWays ls)) order.length := ⟨_, rfl⟩
                    rw [← hFF] at hlff hflow HRF
                    have HFL := Lib.hid hflow
                    have HLFF := Lib.hid hlff
                    have hmk2 := make_ints order.length (by omega)
                    clear hflow hlff hFF
                    go_wp2
                    clear hmk2
                    have hg0 : RowI (wr.alloc (.cells (Array.replicate order.length (.int .i64 0)) 3)) wr.heap.size (gotK order FF 0) := by
                      have := RowI.made wr order.length
                      unfold gotK gotR
                      simpa using this
                    have HG0 := Lib.hid hg0
                    clear hg0
                    rename World => wz
                    go_loopw [136] (fun v wq => ∃ q : Nat, q ≤ order.length ∧ v = .int .i64 q ∧ RowI wq wz.heap.size (gotK order FF q) ∧ Kept wz wq) (fun v _ => order.length - (intOf v).toNat)
                    case atStart => exact ⟨0, Nat.zero_le _, rfl, HG0.out, (Only.refl _ _).alloc _⟩
                    case round =>
                      obtain ⟨q, hq, rfl, hrow, hkq⟩ := hrel
                      have HROW := Lib.hid hrow
                      have HKQ := Lib.hid hkq
                      have hrl := hrow.lt
                      clear hrow hkq
                      by_cases hlt : q < order.length
                      · obtain ⟨bk, off, rfl, lb, lb0, e0⟩ := int_at2 HO.out hlt (HKP3.out.trans HKQ.out)
                        obtain ⟨so0, so1, so2⟩ := (all_getD (P := SrcOk E s)).1 HTK.out.2.2.2.2.2.2 q hlt
                        obtain ⟨i, hi'⟩ : ∃ i : Nat, order.getD q 0 = i := ⟨(order.getD q 0).toNat, by omega⟩
                        have hsucc := gotK_succ order FF q hlt
                        rw [hi'] at e0 so0 so1 hsucc
                        rw [Int.toNat_natCast] at hsucc
                        have cf := (HRF.out.fix HKQ.out).at (i := i) (by rw [HLFF.out]; omega)
                        have hgfr := (HRF.out.fix HKQ.out).lt
                        have cg := HROW.out.at (i := q) (by rw [gotK_len _ _ _ hq]; exact hlt)
                        have cgf := HROW.out.fr q
                        have ii : (i : Int) < (E.length : Int) := so1
                        have HSU := Lib.hid hsucc
                        have HNX := Lib.hid (HROW.out.set (i := q) (by rw [gotK_len _ _ _ hq]; exact hlt) (FF.getD i 0))
                        clear hsucc hi' so0 so2
                        generalize FF.getD i 0 = fx at *
                        generalize (gotK order FF q).getD q 0 = ox at *
                        go_wp2
                        try (go_region; go_wp2)
                        go_roundw
                        case rel => exact ⟨q + 1, by omega, by go_num, by rw [HSU.out]; exact ⟨HNX.out.obj⟩, by first | exact HKQ.out.store _ _ (fun h => absurd h (by omega)) _ | exact (HKQ.out.store _ _ (fun h => absurd h (by omega)) _).drew⟩
                        case measure => simp [intOf]; omega
                      · obtain rfl : q = order.length := by omega
                        clear hlt
                        rw [gotK_all] at HROW
                        go_wp2
                        go_ret3
                        refine ⟨HKP3.out.trans HKQ.out, ?_⟩
                        rw [if_pos HFO.out]
                        refine ⟨_, _, rfl, ?_, ?_⟩
                        · rw [HFL.out]
                          exact ⟨some ⟨gf, 0, none⟩, E.length, by rw [HLFF.out]; rfl, (HRF.out.fix HKQ.out).reads (by rw [HLFF.out]; unfold maxLen; omega), by rw [HLFF.out]; exact Nat.le_refl _⟩
                        · rw [HFL.out]
                          have hl2 : (gotR order FF).length = order.length := by unfold gotR; simp
                          exact ⟨some ⟨wz.heap.size, 0, none⟩, order.length, by rw [hl2]; rfl, HROW.out.reads (by rw [hl2]; unfold maxLen; omega), by rw [hl2]; exact Nat.le_refl _⟩
    · have hno : ¬ FormOk N E s t order (plainWays ls) := fun h => hwl (by have := h.2.1; simpa [plainWays] using this)
      have hwl2 : order.length < ls.length := by omega
      have HNO := Lib.hid hno
      clear hno hwl hT
      go_enter Try.func11, Try.ntmps11
      go_wp2_with (go_at_call 22; go_loud (refine HR.out.mono ?_; rintro e w1 ⟨rfl, hb⟩; obtain ⟨n0, n1, o0, k0, k1, k2, k3, k4, sz⟩ := fbox hb; have HB := Lib.hid hb; clear hb))
      go_ret3
      exact ⟨HK0.out.trans HB.out, by rw [if_neg HNO.out]; rfl⟩
  · rw [decide_eq_false hT] at hr
    have HR := Lib.hid hr
    have hno : ¬ FormOk N E s t order (plainWays ls) := fun h => hT h.1
    have HNO := Lib.hid hno
    clear hr hno hT
    go_enter Try.func11, Try.ntmps11
    go_wp2_with (go_at_call 22; go_loud (refine HR.out.mono ?_; rintro e w1 ⟨rfl, hb⟩; have HB := Lib.hid hb; clear hb))
    go_ret3
    exact ⟨HK0.out.trans HB.out, by rw [if_neg HNO.out]; rfl⟩
end Go.Proofs.Ytlpccebackmahaa

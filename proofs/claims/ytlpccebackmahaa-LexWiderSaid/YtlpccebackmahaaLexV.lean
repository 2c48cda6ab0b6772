/- Layer 7: billetref07.Fill walked. -/
import Derived.Test.YtlpccebackmahaaLexU
import Derived.Deep.CutRange
set_option linter.unusedVariables false
set_option linter.unusedSimpArgs false
namespace Go.Proofs.Ytlpccebackmahaa
open Go.RowKit

/-- A value that holds ints. -/
def IntsV (w : World) (v : Value) (xs : List Int) : Prop := ∃ A c, v = .slice A xs.length c ∧ ReadsI w A xs ∧ xs.length ≤ c
theorem IntsV.fix {w w' : World} {v : Value} {xs : List Int} (h : IntsV w v xs) (ho : Kept w w') : IntsV w' v xs := by
  obtain ⟨A, c, h1, h2, h3⟩ := h
  exact ⟨A, c, h1, h2.fix ho, h3⟩
theorem row_cap {w : World} {base n m c : Nat} {A : Option Addr} {e : TypeId} {size : Nat} {xs : List Value} (h : w.ownsRow base e size (.slice A m c) n xs) : n ≤ c := by
  rcases h.2 with ⟨h1, h2⟩ | ⟨g, cap, cur, h1, _, _, h2, _⟩
  · omega
  · cases h1; exact h2
theorem FlowV.intsV {w : World} {base : Nat} {v : Value} {fl : List Int} (h : FlowV w base v fl) (hm : fl.length ≤ 300) : IntsV w v fl := by
  obtain ⟨A, c, rfl⟩ := row_slice h
  exact ⟨A, c, rfl, h.reads hm, row_cap h⟩
theorem nil_ints (w : World) : IntsV w (.slice none 0 0) [] := ⟨none, 0, rfl, ⟨fun i hi => absurd hi (by simp), Nat.zero_le _⟩, Nat.zero_le _⟩
theorem take_reads {w : World} {A : Option Addr} {xs : List Int} (h : ReadsI w A xs) (k : Nat) (hk : k ≤ xs.length) : ReadsI w A (xs.take k) := by
  refine ⟨fun i hi => ?_, by have := h.len; rw [List.length_take]; omega⟩
  rw [List.length_take] at hi
  obtain ⟨bk, off, h1, h2, h3⟩ := h.cell i (by omega)
  refine ⟨bk, off, h1, h2, ?_⟩
  rw [h3]
  simp only [List.getD_eq_getElem?_getD, List.getElem?_take]
  rw [if_pos (by omega)]
theorem FormOk.len {N : Int} {E : List Ed} {s t : Int} {order : List Int} {ls : List WayL} (h : FormOk N E s t order (plainWays ls)) (k : Nat) (hk : k ≤ order.length) : (fillN N.toNat E s t (natsOf order) (waysN (plainWays ls)) k).length = E.length := by
  have := (h.inv k hk).ok.len
  rwa [opn_length] at this
theorem NetOk.opn {N : Int} {E : List Ed} (h : NetOk N E) (s : Int) (A : List Nat) : NetOk N (opn E s A) := by
  obtain ⟨h1, h2, h3, h4⟩ := h
  refine ⟨h1, h2, by rw [opn_length]; exact h3, (edok_at (Nat.le_refl _)).2 (fun j hj => ?_)⟩
  rw [opn_length] at hj
  have := (edok_at (Nat.le_refl _)).1 h4 j hj
  rw [opn_get _ _ _ _ hj]
  split
  · obtain ⟨a, b, c, d⟩ := this; exact ⟨a, b, c, Int.le_refl 0, (by omega : (0 : Int) ≤ 1000)⟩
  · exact this

set_option maxHeartbeats 8000000 in
set_option maxRecDepth 100000 in
theorem r7fill_yes (N s t : Int) (A B C : Option Addr) (c d cw : Nat) (E : List Ed) (order : List Int) (ls : List WayL) (w : World) (hE : ReadsE w A E) (hO : ReadsI w B order) (hW : ReadsWW w C ls) (hd : order.length ≤ d) (hF : FormOk N E s t order (plainWays ls)) :
    Calls Try.prog 12 #[.agg #[.int .i64 N, .slice A E.length c], .int .i64 s, .int .i64 t, .slice B order.length d, .slice C ls.length cw] w fun e w' => Kept w w' ∧ ∃ v1 v2,
      e = .returned (.tuple #[v1, v2, .int .i64 0]) ∧ IntsV w' v1 (flowR N E s t order (plainWays ls)) ∧ IntsV w' v2 (gotR order (flowR N E s t order (plainWays ls))) := by
  have hr := r7form_any N s t A B C c d cw E order ls (w.alloc (.cells #[.int .i64 N, .slice A E.length c] 24)) (hE.fix ((Only.refl _ _).alloc _)) (hO.fix ((Only.refl _ _).alloc _)) (hW.fix ((Only.refl _ _).alloc _))
  rw [decide_eq_true hF] at hr
  have HR := Lib.hid hr
  obtain ⟨⟨hN, hs, ht, hst, ol, wl⟩, hsrc, _, hways⟩ := form_places.1 hF
  have n2 := hN.1
  have n3 := hN.2.1
  have lE := hN.2.2.1
  have HFO := Lib.hid hF
  have HE := Lib.hid hE
  have HO := Lib.hid hO
  have HW := Lib.hid hW
  have HN := Lib.hid hN
  have HS := Lib.hid hs
  have HT := Lib.hid ht
  have HSR := Lib.hid hsrc
  have HWY := Lib.hid hways
  obtain ⟨n, rfl⟩ : ∃ n : Nat, N = n := ⟨N.toNat, by omega⟩
  clear hr hE hO hW hN hF hs ht hsrc hways
  obtain ⟨i0, hi, hz0, hz1, hz2⟩ := info_parts infoInt
  have hmk := make_ints E.length (by omega)
  go_enter Try.func12, Try.ntmps12
  go_wp2_with (go_at_call 30; refine HR.out.mono ?_; rintro e w1 ⟨rfl, hb⟩; obtain ⟨m0, m1, mb⟩ := box_at hb; have HB := Lib.hid hb; clear hb)
  clear hmk
  have hv0 : FlowV (w1.alloc (.cells (Array.replicate E.length (.int .i64 0)) 3)) (w.heap.size + 1) (.slice (some ⟨w1.heap.size, 0, none⟩) E.length E.length) (fillN n E s t (natsOf order) (waysN (plainWays ls)) 0) := by
    show World.ownsRow _ _ _ _ _ (List.replicate E.length (0 : Int)).length ((List.replicate E.length (0 : Int)).map (Value.int .i64))
    refine ⟨by simp, .inr ⟨w1.heap.size, E.length, _, by simp, by omega, (MapKept.heap_alloc w1 _).1, by simp, by unfold maxLen; omega, by simp, by simp⟩⟩
  have HV0 := Lib.hid hv0
  clear hv0 m0 m1
  go_loopw [14, 15] (fun v i wr => ∃ k : Nat, k ≤ order.length ∧ i = .int .i64 k ∧ FlowV wr (w.heap.size + 1) v (fillN n E s t (natsOf order) (waysN (plainWays ls)) k) ∧ Kept (w.alloc (.cells #[.int .i64 n, .slice A E.length c] 24)) wr) (fun _ i _ => order.length - (intOf i).toNat)
  case atStart => exact ⟨0, Nat.zero_le _, rfl, HV0.out, HB.out.alloc _⟩
  case round =>
    obtain ⟨k, hk, rfl, hfv, ho⟩ := hrel
    obtain ⟨q0, q1, qb⟩ := box_at ho
    have hlf := HFO.out.len k hk
    rw [Int.toNat_natCast] at hlf
    have HLF := Lib.hid hlf
    have HFV := Lib.hid hfv
    have HOK := Lib.hid ho
    have HKP := Lib.hid (show Kept w wr from ((Only.refl _ _).alloc _).trans ho)
    clear ho HV0 HB
    by_cases hlt : k < order.length
    · obtain ⟨g, cf, rfl, hg1, hg2, _⟩ := hfv.parts (by rw [hlf]; omega)
      obtain ⟨bk, off, rfl, lb, lb0, e0⟩ := int_at2 HO.out hlt HKP.out
      rw [hlf]
      clear hfv hlf
      have hop : ∀ W, Kept wr W → _ := fun W hW => r7open_any n s A (some ⟨bk, off, none⟩) c d E (order.take (k + 1)) W (HE.out.fix (HKP.out.trans hW)) (take_reads (HO.out.fix (HKP.out.trans hW)) (k + 1) (by omega)) lE (fun x hx => by
        obtain ⟨a, ha, rfl⟩ := List.getElem_of_mem (List.mem_of_mem_take hx)
        have := (HSR.out a ha).1
        rwa [List.getD_eq_getElem?_getD, List.getElem?_eq_getElem ha] at this)
      rw [List.length_take, Nat.min_eq_left (by omega)] at hop
      have HOP := Lib.hid hop
      clear hop
      have ik1 : (k : Int) + 1 ≤ (d : Int) := by omega
      have ik2 : (0 : Int) ≤ (k : Int) + 1 := by omega
      have hwrap : IntKind.i64.wrap ((k : Int) + 1) = (k : Int) + 1 := by rw [IntKind.wrap_i64]; omega
      go_upto_region 8 with fail
      go_cut [16] from 38 to 136 (fun vb wx => ∃ (X : Nat) (A2 : Option Addr) (c2 : Nat), vb = .pointer (some ⟨X, 0, none⟩) ∧ wr.heap.size ≤ X ∧ wx.heap[X]? = some (.cells #[.int .i64 n, .slice A2 E.length c2] 24) ∧ ReadsE wx A2 (opn E s (natsOf (order.take (k + 1)))) ∧ (∀ ad, A2 = some ad → wr.heap.size ≤ ad.block) ∧ Kept wr wx)
      case first =>
        go_region_with (go_at_call 19; go_loud (refine (HOP.out _ (by first | exact ((Only.refl _ _).alloc _).drew | exact (Only.refl _ _).drew | exact ((Only.refl _ _).drew).alloc _)).mono ?_; rintro e w2 ⟨A2, c2, rfl, hre, hfresh, hk2⟩; have HRE := Lib.hid hre; have HFR := Lib.hid hfresh; have HK2 := Lib.hid hk2; try (have hob : w2.heap[wr.heap.size]? = some (.cells #[.int .i64 0, .slice none 0 0] 24) := (by first | exact (hk2.block wr.heap.size (by simp) (fun x => x)).trans (heap_alloc_new wr _) | exact (hk2.block wr.heap.size (by simp) (fun x => x)).trans (heap_alloc_new wr.drew _)); have z0 := obj_cell hob 0; have z1 := obj_cell hob 1; have zf0 := obj_fr hob 0; have zf1 := obj_fr hob 1; simp only [List.getElem?_toArray, List.getElem?_cons_zero, List.getElem?_cons_succ] at z0 z1; have HOB := Lib.hid hob; clear hob); clear hre hfresh hk2))
        all_goals (go_wp2_with fail; go_meet)
        all_goals
          have hkw : Kept wr w2 := by first | exact (((Only.refl _ _).alloc _).drew).trans HK2.out | exact ((Only.refl _ _).drew).trans HK2.out | exact (((Only.refl _ _).drew).alloc _).trans HK2.out
          have hsw := hkw.size
        all_goals first
          | exact ⟨w2.heap.size, A2, c2, rfl, hsw, heap_alloc_new _ _, HRE.out.fix ((Only.refl _ _).alloc _), fun ad h => by have := HFR.out ad h; simp at this; omega, hkw.alloc _⟩
          | (have hfr2 : ∀ ad, A2 = some ad → wr.heap.size + 1 ≤ ad.block := fun ad h => by have := HFR.out ad h; simpa using this
             refine ⟨wr.heap.size, A2, c2, rfl, Nat.le_refl _, ?_, HRE.out.only ((store_only w2 wr.heap.size 0 _).trans (store_only _ wr.heap.size 1 _)) (fun ad h => by have := hfr2 ad h; omega), fun ad h => by have := hfr2 ad h; omega, (hkw.store _ _ (fun h => absurd h (by simp)) _).store _ _ (fun h => absurd h (by simp)) _⟩
             have h1 := rblk_setCell (i := 1) (rblk_setCell (i := 0) HOB.out (.int .i64 n)) (.slice A2 E.length c2)
             simpa using h1)
      case rest =>
        obtain ⟨X, A2, c2, rfl, hX, hob, hre, hfresh, hkc⟩ := hcut
        have HOB := Lib.hid hob
        have HRE := Lib.hid hre
        have HFR := Lib.hid hfresh
        have HKC := Lib.hid hkc
        have hwc := hkc.size
        clear hob hre hfresh hkc ik1 ik2 hwrap
        have HTI := Lib.hid (TI.start HFO.out.1.lexT (HFO.out.inv k hk))
        obtain ⟨f0, hf0⟩ : ∃ f0, f0 = fillN n E s t (natsOf order) (waysN (plainWays ls)) k := ⟨_, rfl⟩
        have HF0 := Lib.hid hf0
        have HLF0 := Lib.hid (show f0.length = E.length by rw [hf0]; exact HLF.out)
        have HTI0 := Lib.hid (show TI n E s t (natsOf order) k f0 by rw [hf0]; have := HTI.out; rwa [Int.toNat_natCast] at this)
        have HFVC := Lib.hid (show FlowV wc (w.heap.size + 1) (.slice (some ⟨g, 0, none⟩) E.length cf) f0 by rw [hf0]; have := HFV.out; rw [HLF.out] at this; exact this.fix HKC.out)
        clear hf0 HTI
        by_cases hkl : k < ls.length
        · obtain ⟨bk2, off2, rfl, lb2, lb20, f0c, hws⟩ := wayl_at HW.out hkl (HKP.out.trans HKC.out)
          have lws := hws.len
          unfold maxLen at lws
          have HWS := Lib.hid hws
          have HFVC2 := HFVC
          clear hws
          generalize hL : ls.getD k default = L at *
          have HL := Lib.hid hL
          clear hL
          go_wp2
          go_loopw [18] (fun vj wq => ∃ j : Nat, j ≤ L.ws.length ∧ vj = .int .i64 j ∧ FlowV wq (w.heap.size + 1) (.slice (some ⟨g, 0, none⟩) E.length cf) (tryK E f0 L.ws j) ∧ Only (fun b => b = g) wc wq) (fun vj _ => L.ws.length - (intOf vj).toNat)
          case atStart => exact ⟨0, Nat.zero_le _, rfl, HFVC.out, Only.refl _ _⟩
          case round =>
            obtain ⟨j, hj, rfl, hfj, hoj⟩ := hrel
            have hti := tryK_inv HFO.out k hlt hkl (f := f0) (by rw [Int.toNat_natCast]; exact HTI0.out) j (by rw [HL.out]; exact hj)
            rw [HL.out, Int.toNat_natCast] at hti
            have HTJ := Lib.hid hti
            have HFJ := Lib.hid hfj
            have HOJ := Lib.hid hoj
            have HKQ := Lib.hid (show Kept w wr from (HKP.out.trans HKC.out).trans' hoj (fun _ _ x => x) (fun q hq x => by have x' : q = g := x; omega))
            have q0 := (hoj.cell (p := ⟨w.heap.size, 0, none⟩) (by simp; omega) (by simp; omega)).trans ((HKC.out.cell (p := ⟨w.heap.size, 0, none⟩) (by simp; omega) (fun x => x)).trans q0)
            have q1 := (hoj.cell (p := ⟨w.heap.size, 1, none⟩) (by simp; omega) (by simp; omega)).trans ((HKC.out.cell (p := ⟨w.heap.size, 1, none⟩) (by simp; omega) (fun x => x)).trans q1)
            clear hti hfj hoj
            by_cases hlt2 : j < L.ws.length
            · obtain ⟨bk3, off3, hb3, lb3, lb30, g0, g1, hes⟩ := way_at HWS.out hlt2 HKQ.out
              have hwk := HWY.out k hkl j (by rw [HL.out]; exact hlt2)
              rw [HL.out] at hwk
              obtain ⟨_, ⟨ct0, ct1⟩, _, hwalk⟩ := hwk
              have hsucc := tryK_succ E f0 L.ws j hlt2
              have HSU := Lib.hid hsucc
              have les := hes.len
              unfold maxLen at les
              clear hsucc
              generalize hxx : L.ws.getD j default = x at *
              have HXX := Lib.hid hxx
              clear hxx
              obtain ⟨es, ct, eA, ec⟩ := x
              simp only [WayR0.plain] at g0 g1 hes ct0 ct1 hwalk les
              generalize hF : tryK E f0 L.ws j = f at *
              have HFE := Lib.hid hF
              clear hF
              have hlf := HTJ.out.ok.len
              have hsm := HTJ.out.ok.small HN.out
              have HLF2 := Lib.hid hlf
              have HSM := Lib.hid hsm
              have HWK := Lib.hid hwalk
              have HES := Lib.hid hes
              have HWSN := Lib.hid (show (L.ws.length : Int) = L.ws.length from rfl)
              have qbb := World.block_lt_of_cell? wr _ q0
              simp only at qbb
              rename World => wj
              have hA2 := hb3
              clear hlf hsm hwalk hes
              generalize hwA : L.wA = wA at *
              have HWA := Lib.hid hwA
              subst hA2
              clear hwA
              go_wp2
              go_loopw [19, 20] (fun vr q wz => ∃ m : Nat, m ≤ es.length ∧ q = .int .i64 m ∧ vr = .int .i64 (roomOf E f ((stepsOf E (natsOf es)).take m) ct) ∧ Kept wj wz) (fun _ q _ => es.length - (intOf q).toNat)
              case atStart => exact ⟨0, Nat.zero_le _, rfl, rfl, Only.refl _ _⟩
              case round =>
                obtain ⟨m, hm, rfl, rfl, hkz⟩ := hrel
                have HKZ := Lib.hid hkz
                have qz0 := (hkz.cell (p := ⟨w.heap.size, 0, none⟩) (by simp; omega) (fun x => x)).trans q0
                have qz1 := (hkz.cell (p := ⟨w.heap.size, 1, none⟩) (by simp; omega) (fun x => x)).trans q1
                have gz0 := (hkz.cell (p := ⟨bk3, off3 + j * 2, none⟩) lb3 (fun x => x)).trans g0
                clear hkz
                by_cases hlt3 : m < es.length
                · obtain ⟨wi0, wi1⟩ := walk_at HWK.out m hlt3
                  obtain ⟨bk4, off4, rfl, lb4, lb40, e0⟩ := int_at2 HES.out hlt3 (HKQ.out.trans HKZ.out)
                  obtain ⟨i, hi'⟩ : ∃ i : Nat, es.getD m 0 = i := ⟨(es.getD m 0).toNat, by omega⟩
                  have hst := steps_at E es m hlt3
                  have hsn := roomOf_snoc E f (stepsOf E (natsOf es)) m ct (by rw [steps_len]; exact hlt3)
                  rw [hst] at hsn
                  rw [hi'] at e0 wi0 wi1 hsn
                  rw [Int.toNat_natCast] at hsn
                  unfold roomAt at hsn
                  simp only [Bool.false_eq_true, if_false] at hsn
                  obtain ⟨bk5, off5, rfl, lb5, lb50, _, _, e2⟩ := edge_at2 HE.out (show i < E.length by omega) (HKQ.out.trans HKZ.out)
                  obtain ⟨g', c', hgg, _, hg4, hcf, _⟩ := (HFJ.out.fix HKZ.out).parts (by rw [HLF2.out]; omega)
                  rw [HLF2.out] at hgg
                  cases hgg
                  have cf1 := hcf i (by rw [HLF2.out]; omega)
                  obtain ⟨s1, s2⟩ := HSM.out i
                  obtain ⟨s3, s4⟩ := HN.out.caps i
                  have HSN := Lib.hid hsn
                  have HII := Lib.hid hi'
                  clear hst hsn hi' hcf wi0
                  generalize f.getD i 0 = fx at *
                  generalize (E.getD i default).c = y at *
                  generalize roomOf E f ((stepsOf E (natsOf es)).take m) ct = ro at *
                  go_wp2
                  go_quiet (fail)
                  go_wp2
                  go_roundw
                  case rel => exact ⟨m + 1, by omega, by go_num, by rw [HSN.out, min_if], HKZ.out.drewN _⟩
                  case measure => simp [intOf]; omega
                · obtain rfl : m = es.length := by omega
                  clear hlt3
                  rw [show (stepsOf E (natsOf es)).take es.length = stepsOf E (natsOf es) by rw [← steps_len E es, List.take_length]] at *
                  have hr0 : 0 ≤ roomOf E f (stepsOf E (natsOf es)) ct ∧ roomOf E f (stepsOf E (natsOf es)) ct ≤ 1000 := by
                    refine ⟨roomOf_nonneg E f _ ct ct0 (fun p hp => ?_), Int.le_trans (roomOf_le E f _ ct).1 ct1⟩
                    obtain ⟨i, hi, rfl⟩ := List.mem_map.1 hp
                    have hil := (walk_idx (walkI_ok HWK.out) i hi).1
                    have := HTJ.out.ok.fit i hil
                    unfold roomAt
                    simp only [Bool.false_eq_true, if_false]
                    omega
                  have hty : tryWay E f (wayN ⟨es, ct, eA, ec⟩) = addAll (roomOf E f (stepsOf E (natsOf es)) ct) f (stepsOf E (natsOf es)) := rfl
                  rw [hty] at HSU
                  obtain ⟨r1, r2⟩ := hr0
                  generalize roomOf E f (stepsOf E (natsOf es)) ct = R at *
                  have HF5 := Lib.hid (HFJ.out.fix HKZ.out)
                  clear hty
                  rename World => wy
                  go_wp2
                  go_loopw [22] (fun q wz => ∃ m : Nat, m ≤ es.length ∧ q = .int .i64 m ∧ FlowV wz (w.heap.size + 1) (.slice (some ⟨g, 0, none⟩) E.length cf) (addAll R f ((stepsOf E (natsOf es)).take m)) ∧ Only (fun b => b = g) wy wz) (fun q _ => es.length - (intOf q).toNat)
                  case atStart => exact ⟨0, Nat.zero_le _, rfl, HF5.out, Only.refl _ _⟩
                  case round =>
                    obtain ⟨m, hm, rfl, hfm, hom⟩ := hrel
                    have HFM := Lib.hid hfm
                    have HOM := Lib.hid hom
                    have hol : Only (fun b => b = g) wj wr := (HKZ.out.mono (fun _ _ x => x.elim)).trans hom
                    have HOL := Lib.hid hol
                    have HKR := Lib.hid (show Kept w wr from HKQ.out.trans' hol (fun _ _ x => x) (fun q hq x => by have x' : q = g := x; omega))
                    have qz0 := (hol.cell (p := ⟨w.heap.size, 0, none⟩) (by simp; omega) (by simp; omega)).trans q0
                    have qz1 := (hol.cell (p := ⟨w.heap.size, 1, none⟩) (by simp; omega) (by simp; omega)).trans q1
                    have gz0 := (hol.cell (p := ⟨bk3, off3 + j * 2, none⟩) lb3 (by simp; omega)).trans g0
                    have hcl : (addAll R f ((stepsOf E (natsOf es)).take m)).length = E.length := by rw [addAll_length]; exact HLF2.out
                    have HCL := Lib.hid hcl
                    have hszy := hol.size
                    clear hfm hom hol hcl
                    by_cases hlt3 : m < es.length
                    · obtain ⟨wi0, wi1⟩ := walk_at HWK.out m hlt3
                      obtain ⟨bk4, off4, rfl, lb4, lb40, e0⟩ := int_at2 HES.out hlt3 HKR.out
                      obtain ⟨i, hi'⟩ : ∃ i : Nat, es.getD m 0 = i := ⟨(es.getD m 0).toNat, by omega⟩
                      have hst := steps_at E es m hlt3
                      have hfresh2 := steps_fresh HWK.out HLF2.out R m hlt3
                      have hsn := addAll_snoc R f (stepsOf E (natsOf es)) m (by rw [steps_len]; exact hlt3)
                      rw [hst] at hsn
                      rw [hi'] at e0 wi0 wi1 hsn hfresh2
                      rw [Int.toNat_natCast] at hsn hfresh2
                      unfold addAt at hsn
                      simp only [Bool.false_eq_true, if_false] at hsn
                      rw [hfresh2] at hsn
                      obtain ⟨g', c', hgg, _, hg4, hcf, hff⟩ := HFM.out.parts (by rw [HCL.out]; omega)
                      rw [HCL.out] at hgg
                      cases hgg
                      have cf1 := hcf i (by rw [HCL.out]; omega)
                      have ff1 := hff i
                      rw [hfresh2] at cf1
                      obtain ⟨s1, s2⟩ := HSM.out i
                      have hfv2 : ∀ x, FlowV (wr.setCell ⟨g, i, none⟩ (.int .i64 x)) (w.heap.size + 1) (.slice (some ⟨g, 0, none⟩) E.length cf) ((addAll R f ((stepsOf E (natsOf es)).take m)).set i x) := fun x => by
                        have := HFM.out
                        rw [← HCL.out] at this
                        have h2 := this.set i (by rw [HCL.out]; omega) x
                        rw [HCL.out] at h2
                        exact h2
                      have HFV2 := Lib.hid hfv2
                      have HSN := Lib.hid hsn
                      clear hst hsn hi' hcf wi0 hfresh2 hff hfv2
                      generalize f.getD i 0 = fx at *
                      go_wp2
                      try (go_region; go_wp2)
                      go_roundw
                      case rel => exact ⟨m + 1, by omega, by go_num, by rw [HSN.out]; exact HFV2.out (fx + R), HOM.out.store g i (fun _ => rfl) _⟩
                      case measure => simp [intOf]; omega
                    · obtain rfl : m = es.length := by omega
                      clear hlt3
                      rw [show (stepsOf E (natsOf es)).take es.length = stepsOf E (natsOf es) by rw [← steps_len E es, List.take_length]] at *
                      go_wp2
                      go_roundw
                      case rel => exact ⟨j + 1, by omega, by go_num, by rw [HSU.out]; exact HFM.out, HOJ.out.trans HOL.out⟩
                      case measure => simp [intOf]; omega
            · obtain rfl : j = L.ws.length := by omega
              clear hlt2
              obtain ⟨FF, hFF⟩ : ∃ FF, FF = tryK E f0 L.ws L.ws.length := ⟨_, rfl⟩
              have hta : TI n E s t (natsOf order) k FF := by rw [hFF]; exact HTJ.out
              have hfa : FlowV wr (w.heap.size + 1) (.slice (some ⟨g, 0, none⟩) E.length cf) FF := by rw [hFF]; exact HFJ.out
              have hox : Only (fun b => b = g) wc wr := HOJ.out
              have hstep : fillN n E s t (natsOf order) (waysN (plainWays ls)) (k + 1) = (push n (opn E s (natsOf (order.take (k + 1)))) s t lots30 FF).1 := by rw [fillN_step, if_pos hkl, HL.out, hFF, HF0.out]
              have hok : Okf n (opn E s (natsOf (order.take (k + 1)))) FF s t := by have := hta.close; unfold natsOf at this ⊢; rwa [← List.map_take] at this
              have hobx := (hox.block X (by have := HOB.out; exact (Array.getElem?_eq_some_iff.1 this).1) (by omega)).trans HOB.out
              have x0 := obj_cell hobx 0
              have x1 := obj_cell hobx 1
              simp only [List.getElem?_toArray, List.getElem?_cons_zero, List.getElem?_cons_succ] at x0 x1
              have hlff := hta.ok.len
              have hpu := r6push_any n s t 1073741824 A2 (some ⟨g, 0, none⟩) c2 cf (opn E s (natsOf (order.take (k + 1)))) FF wr (HRE.out.only hox (fun ad h => by have := HFR.out ad h; omega)) (hfa.reads (by rw [hlff]; omega)) (HN.out.opn s _) (by rw [Int.toNat_natCast]; exact hok) HS.out HT.out hst (by omega) (by omega) (by rw [opn_length]; omega)
              rw [opn_length, Int.toNat_natCast, hlff] at hpu
              have hkq : Kept (w.alloc (.cells #[.int .i64 n, .slice A E.length c] 24)) wr := (HOK.out.trans HKC.out).trans' hox (fun _ _ x => x) (fun q hq x => by have x' : q = g := x; simp at hq; omega)
              have HPU := Lib.hid hpu
              have HKQ9 := Lib.hid hkq
              have HST9 := Lib.hid hstep
              have HSZ9 := Lib.hid (show w.heap.size + 1 ≤ wr.heap.size by have := hkq.size; simpa using this)
              clear hta hfa hox hstep hok hobx hlff hpu hkq hFF
              go_wp2_with (go_at_call 31; go_loud (refine HPU.out.mono ?_; rintro e w9 ⟨v9, rfl, hf9, hl9, hk9⟩; have HF9 := Lib.hid hf9; have HK9 := Lib.hid hk9; clear hf9 hl9 hk9))
              go_roundw
              case rel => exact ⟨k + 1, by omega, by go_num, by rw [HST9.out]; exact HF9.out.base HSZ9.out, HKQ9.out.trans HK9.out⟩
              case measure => simp [intOf]; omega
        · have hklb : ¬ (k : Int) < (ls.length : Int) := by omega
          go_wp2
          go_loopw [18] (fun vj wq => vj = .int .i64 0 ∧ Kept wc wq) (fun _ _ => 0)
          case atStart => exact ⟨rfl, Only.refl _ _⟩
          case round =>
            obtain ⟨rfl, hkn⟩ := hrel
            have HKN := Lib.hid hkn
            clear hkn hklb
            obtain ⟨FF, hFF⟩ : ∃ FF, FF = f0 := ⟨_, rfl⟩
            have hta : TI n E s t (natsOf order) k FF := by rw [hFF]; exact HTI0.out
            have hfa : FlowV wr (w.heap.size + 1) (.slice (some ⟨g, 0, none⟩) E.length cf) FF := by rw [hFF]; exact HFVC.out.fix HKN.out
            have hox : Only (fun b => b = g) wc wr := HKN.out.mono (fun _ _ x => x.elim)
            have hstep : fillN n E s t (natsOf order) (waysN (plainWays ls)) (k + 1) = (push n (opn E s (natsOf (order.take (k + 1)))) s t lots30 FF).1 := by rw [fillN_step, if_neg hkl, hFF, HF0.out]
            have hok : Okf n (opn E s (natsOf (order.take (k + 1)))) FF s t := by have := hta.close; unfold natsOf at this ⊢; rwa [← List.map_take] at this
            have hobx := (hox.block X (by have := HOB.out; exact (Array.getElem?_eq_some_iff.1 this).1) (by omega)).trans HOB.out
            have x0 := obj_cell hobx 0
            have x1 := obj_cell hobx 1
            simp only [List.getElem?_toArray, List.getElem?_cons_zero, List.getElem?_cons_succ] at x0 x1
            have hlff := hta.ok.len
            have hpu := r6push_any n s t 1073741824 A2 (some ⟨g, 0, none⟩) c2 cf (opn E s (natsOf (order.take (k + 1)))) FF wr (HRE.out.only hox (fun ad h => by have := HFR.out ad h; omega)) (hfa.reads (by rw [hlff]; omega)) (HN.out.opn s _) (by rw [Int.toNat_natCast]; exact hok) HS.out HT.out hst (by omega) (by omega) (by rw [opn_length]; omega)
            rw [opn_length, Int.toNat_natCast, hlff] at hpu
            have hkq : Kept (w.alloc (.cells #[.int .i64 n, .slice A E.length c] 24)) wr := (HOK.out.trans HKC.out).trans' hox (fun _ _ x => x) (fun q hq x => by have x' : q = g := x; simp at hq; omega)
            have HPU := Lib.hid hpu
            have HKQ9 := Lib.hid hkq
            have HST9 := Lib.hid hstep
            have HSZ9 := Lib.hid (show w.heap.size + 1 ≤ wr.heap.size by have := hkq.size; simpa using this)
            clear hta hfa hox hstep hok hobx hlff hpu hkq hFF
            go_wp2_with (go_at_call 31; go_loud (refine HPU.out.mono ?_; rintro e w9 ⟨v9, rfl, hf9, hl9, hk9⟩; have HF9 := Lib.hid hf9; have HK9 := Lib.hid hk9; clear hf9 hl9 hk9))
            go_roundw
            case rel => exact ⟨k + 1, by omega, by go_num, by rw [HST9.out]; exact HF9.out.base HSZ9.out, HKQ9.out.trans HK9.out⟩
            case measure => simp [intOf]; omega
    · obtain rfl : k = order.length := by omega
      clear hlt
      have hgot : flowR n E s t order (plainWays ls) = fillN n E s t (natsOf order) (waysN (plainWays ls)) order.length := by unfold flowR; rw [Int.toNat_natCast]
      have HGOT := Lib.hid hgot
      clear hgot
      rename World => wo
      have hsz := HOK.out.size
      simp at hsz
      clear hfv
      obtain ⟨FF, hFF⟩ : ∃ FF, FF = fillN n E s t (natsOf order) (waysN (plainWays ls)) order.length := ⟨_, rfl⟩
      rw [← hFF] at HGOT HFV HLF
      clear hFF
      go_wp2
      go_loopw [24, 25] (fun vo i wr => ∃ q : Nat, q ≤ order.length ∧ i = .int .i64 q ∧ wr.ownsRow wo.heap.size 3 1 vo q ((gotR (order.take q) FF).map (Value.int .i64)) ∧ Kept wo wr) (fun _ i _ => order.length - (intOf i).toNat)
      case atStart => exact ⟨0, Nat.zero_le _, rfl, ⟨rfl, .inl ⟨rfl, rfl⟩⟩, Only.refl _ _⟩
      case round =>
        obtain ⟨q, hq, rfl, hrow, hkr⟩ := hrel
        obtain ⟨A4, c4, hv4⟩ := row_slice hrow
        subst hv4
        have HROW := Lib.hid hrow
        have HKR := Lib.hid hkr
        have hszr := hkr.size
        clear hrow hkr
        by_cases hlt : q < order.length
        · obtain ⟨g, cf, rfl, hg1, hg2, hcf, _⟩ := HFV.out.parts (by rw [HLF.out]; omega)
          obtain ⟨bk, off, rfl, lb, lb0, e0⟩ := int_at2 HO.out hlt (HKP.out.trans HKR.out)
          obtain ⟨so0, so1, _⟩ := HSR.out q hlt
          have htk : gotR (order.take (q + 1)) FF = gotR (order.take q) FF ++ [FF.getD (order.getD q 0).toNat 0] := by
            unfold gotR
            rw [take_snoc order q 0 hlt, List.map_append]
            rfl
          obtain ⟨i, hi'⟩ : ∃ i : Nat, order.getD q 0 = i := ⟨(order.getD q 0).toNat, by omega⟩
          rw [hi'] at e0 so0 so1 htk
          rw [Int.toNat_natCast] at htk
          have cf1 := (HKR.out.cell (p := ⟨g, i, none⟩) hg2 (fun x => x)).trans (hcf i (by rw [HLF.out]; omega))
          rw [HLF.out]
          have hgl : g < wr.heap.size := by omega
          have ig : (i : Int) < (E.length : Int) := so1
          have HTK := Lib.hid htk
          clear htk hcf hi' so0
          generalize FF.getD i 0 = fx at *
          go_wp2_with (at_builtin; go_loud (refine wpList_append_own _ rfl _ _ 25 rfl wo.heap.size 3 i0 _ 1 8 Try.underlying25 hi hz0 hz1 hz2 rfl (by decide) _ _ _ rfl (RowOwned.alloc HROW.out _) ⟨_, 0, none⟩ 1 1 [.int .i64 fx] rfl rfl (one_new_at _ _ _ (by simp)) (by simp [Value.oneCell']) (by unfold maxLen; omega) (by omega) (by simp; omega) ?_; intro v1 w2 hown1 hgrow1 hnil1; have ho1 := app_only HROW.out hgrow1 ((Only.refl _ _).alloc _); have HO1 := Lib.hid ho1; have HN1 := Lib.hid hown1; clear hown1 hgrow1 hnil1 ho1))
          go_roundw
          case rel => exact ⟨q + 1, by omega, by go_num, by rw [HTK.out, List.map_append]; exact HN1.out, HKR.out.trans' HO1.out (fun _ _ x => x) (fun k hk x => by omega)⟩
          case measure => simp [intOf]; omega
        · obtain rfl : q = order.length := by omega
          clear hlt
          rw [List.take_length] at HROW
          obtain ⟨A5, c5, hv5⟩ := row_slice (show World.ownsRow wo (w.heap.size + 1) 3 1 _ FF.length (FF.map (Value.int .i64)) from HFV.out)
          subst hv5
          go_wp2
          go_ret3
          refine ⟨HKP.out.trans HKR.out, _, _, rfl, ?_, ?_⟩
          · rw [HGOT.out]; exact (HFV.out.fix HKR.out).intsV (by rw [HLF.out]; omega)
          · rw [HGOT.out]
            have hf : FlowV wr wo.heap.size (.slice A4 order.length c4) (gotR order FF) := by
              unfold FlowV
              rw [show (gotR order FF).length = order.length by unfold gotR; rw [List.length_map]]
              exact HROW.out
            exact hf.intsV (by unfold gotR; rw [List.length_map]; omega)
set_option maxHeartbeats 1000000 in
theorem r7fill_no (N s t : Int) (A B C : Option Addr) (c d cw : Nat) (E : List Ed) (order : List Int) (ls : List WayL) (w : World) (hE : ReadsE w A E) (hO : ReadsI w B order) (hW : ReadsWW w C ls) (hF : ¬ FormOk N E s t order (plainWays ls)) :
    Calls Try.prog 12 #[.agg #[.int .i64 N, .slice A E.length c], .int .i64 s, .int .i64 t, .slice B order.length d, .slice C ls.length cw] w fun e w' => Kept w w' ∧ e = .returned (.tuple #[.slice none 0 0, .slice none 0 0, .int .i64 50]) := by
  have hr := r7form_any N s t A B C c d cw E order ls (w.alloc (.cells #[.int .i64 N, .slice A E.length c] 24)) (hE.fix ((Only.refl _ _).alloc _)) (hO.fix ((Only.refl _ _).alloc _)) (hW.fix ((Only.refl _ _).alloc _))
  rw [decide_eq_false hF] at hr
  have HR := Lib.hid hr
  clear hr hE hO hW hF
  go_enter Try.func12, Try.ntmps12
  go_wp2_with (go_at_call 30; refine HR.out.mono ?_; rintro e w1 ⟨rfl, hb⟩; have HB := Lib.hid hb; clear hb)
  go_ret3
  exact ⟨((Only.refl _ _).alloc _).trans HB.out, rfl⟩
/-- What both answer. -/
def FillAns (N : Int) (E : List Ed) (s t : Int) (order : List Int) (ls : List WayL) (w : World) (e : Ending) (w' : World) : Prop :=
  Kept w w' ∧ if FormOk N E s t order (plainWays ls) then ∃ v1 v2, e = .returned (.tuple #[v1, v2, .int .i64 0]) ∧ IntsV w' v1 (flowR N E s t order (plainWays ls)) ∧ IntsV w' v2 (gotR order (flowR N E s t order (plainWays ls)))
    else e = .returned (.tuple #[.slice none 0 0, .slice none 0 0, .int .i64 50])
theorem r7fill_any (N s t : Int) (A B C : Option Addr) (c d cw : Nat) (E : List Ed) (order : List Int) (ls : List WayL) (w : World) (hE : ReadsE w A E) (hO : ReadsI w B order) (hW : ReadsWW w C ls) (hd : order.length ≤ d) :
    Calls Try.prog 12 #[.agg #[.int .i64 N, .slice A E.length c], .int .i64 s, .int .i64 t, .slice B order.length d, .slice C ls.length cw] w (FillAns N E s t order ls w) := by
  by_cases hF : FormOk N E s t order (plainWays ls)
  · exact (r7fill_yes N s t A B C c d cw E order ls w hE hO hW hd hF).mono fun e w' ⟨h1, h2⟩ => ⟨h1, by rw [if_pos hF]; exact h2⟩
  · exact (r7fill_no N s t A B C c d cw E order ls w hE hO hW hF).mono fun e w' ⟨h1, h2⟩ => ⟨h1, by rw [if_neg hF]; exact h2⟩
end Go.Proofs.Ytlpccebackmahaa

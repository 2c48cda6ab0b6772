/- Layer 7: LexWider walked. -/
import Derived.Test.YtlpccebackmahaaLexTo
import Derived.Deep.RegionWith
import Derived.IntWalk
import Derived.Deep.CutRange
import Derived.Deep.DeepCutAuto
import Derived.Deep.RegionHeld3
import Derived.StillTailTactics
import Derived.Deep.RegionLaw
import Derived.Deep.QuietTactic
import Derived.BigQuiet
set_option linter.unusedVariables false
set_option linter.unusedSimpArgs false
namespace Go.Proofs.Ytlpccebackmahaa
open Go.RowKit

theorem eds_one (E : List Ed) : ∀ u ∈ edCells E, u.oneCell' = true := by
  intro u hu
  obtain ⟨e, _, he⟩ := List.mem_flatMap.1 hu
  simp only [List.mem_cons, List.not_mem_nil, or_false] at he
  rcases he with rfl | rfl | rfl <;> rfl
theorem edCells_set : ∀ (E : List Ed) (k : Nat) (x : Int), k < E.length → (edCells E).set (k * 3 + 2) (.int .i64 x) = edCells (E.set k { E.getD k default with c := x }) := by
  intro E
  induction E with
  | nil => intro k x hk; simp at hk
  | cons e l ih =>
    intro k x hk
    have e1 : ∀ (p : Ed) (q : List Ed), edCells (p :: q) = Value.int .i64 p.f :: Value.int .i64 p.t :: Value.int .i64 p.c :: edCells q := fun p q => by unfold edCells; rw [List.flatMap_cons]; rfl
    cases k with
    | zero => rw [e1, List.set_cons_zero, e1]; rfl
    | succ k =>
      have := ih k x (by simpa using hk)
      rw [e1, show (k + 1) * 3 + 2 = (k * 3 + 2) + 1 + 1 + 1 by omega, List.set_cons_succ, List.set_cons_succ, List.set_cons_succ, this, List.set_cons_succ, e1, List.getD_cons_succ]
theorem row_fr3 {w : World} {base n : Nat} {e : TypeId} {v : Value} {xs : List Value} (h : w.ownsRow base e 3 v n xs) (hp : 0 < n) :
    ∃ g c, v = .slice (some ⟨g, 0, none⟩) n c ∧ base ≤ g ∧ g < w.heap.size ∧ (∀ i, i < n * 3 → w.cell? ⟨g, i, none⟩ = xs[i]?) ∧ ∀ i, w.frozen? ⟨g, i, none⟩ = false := by
  rcases h.2 with ⟨_, h0⟩ | ⟨g, cap, cur, rfl, hb, hh, hn, hc, _⟩
  · omega
  · exact ⟨g, cap, rfl, hb, (Array.getElem?_eq_some_iff.1 hh).1, fun i hi => h.cellAt i (by omega), fun i => by simp [World.frozen?, hh]⟩
theorem size_le_drew (w : World) : w.heap.size ≤ w.drew.heap.size := Nat.le_refl _
theorem size_succ_drew_alloc (w : World) (o : Obj) : w.heap.size + 1 ≤ (w.alloc o).drew.heap.size := by show w.heap.size + 1 ≤ (w.heap.push o).size; simp
theorem size_le_drew_alloc (w : World) (o : Obj) : w.heap.size ≤ (w.alloc o).drew.heap.size := Nat.le_trans (Nat.le_succ _) (size_succ_drew_alloc w o)
theorem sum_take1 (a : Int) (l : List Int) : ((a :: l).drop 1).sum = l.sum := rfl
/-- What lies behind 'm := Net{n.N, append(nil, n.Edges...)}'. -/
def WiPost (w5 : World) (M : Int) (n : Nat) (xs : List Value) (v13 : Value) (wx : World) : Prop :=
  ∃ (X g2 c3 : Nat), v13 = .pointer (some ⟨X, 0, none⟩) ∧ w5.heap.size ≤ X ∧ wx.heap[X]? = some (.cells #[.int .i64 M, .slice (some ⟨g2, 0, none⟩) n c3] 24) ∧ wx.ownsRow w5.heap.size 50 3 (.slice (some ⟨g2, 0, none⟩) n c3) n xs ∧ X ≠ g2 ∧ Kept w5 wx
theorem wi_arm1 {w5 w6 : World} {M : Int} {n b g2 c3 : Nat} {xs : List Value} (hk : Kept w5 w6) (h : w6.ownsRow b 50 3 (.slice (some ⟨g2, 0, none⟩) n c3) n xs) (hb : w5.heap.size ≤ b) (hl : g2 < w6.heap.size) :
    WiPost w5 M n xs (.pointer (some ⟨w6.heap.size, 0, none⟩)) (w6.alloc (.cells #[.int .i64 M, .slice (some ⟨g2, 0, none⟩) n c3] 24)) :=
  ⟨w6.heap.size, g2, c3, rfl, hk.size, heap_alloc_new _ _, row_base (RowOwned.alloc h _) hb, Nat.ne_of_gt hl, hk.alloc _⟩
theorem wi_arm2 {w5 w6 : World} {M : Int} {n b g2 c3 : Nat} {xs : List Value} (hk : Kept w5 w6) (h : w6.ownsRow b 50 3 (.slice (some ⟨g2, 0, none⟩) n c3) n xs) (hb : w5.heap.size + 1 ≤ b) (hg : b ≤ g2) (ho : w6.heap[w5.heap.size]? = some (.cells #[.int .i64 0, .slice none 0 0] 24)) :
    WiPost w5 M n xs (.pointer (some ⟨w5.heap.size, 0, none⟩)) ((w6.setCell ⟨w5.heap.size, 0, none⟩ (.int .i64 M)).setCell ⟨w5.heap.size, 1, none⟩ (.slice (some ⟨g2, 0, none⟩) n c3)) := by
  have hb6 : w5.heap.size + 1 ≤ g2 := Nat.le_trans hb hg
  have h1 := rblk_setCell (i := 1) (rblk_setCell (i := 0) ho (.int .i64 M)) (.slice (some ⟨g2, 0, none⟩) n c3)
  refine ⟨w5.heap.size, g2, c3, rfl, Nat.le_refl _, ?_, ?_, Nat.ne_of_lt hb6, ?_⟩
  · simpa using h1
  · refine ownsRow_setCell_ne (ownsRow_setCell_ne (row_base h (Nat.le_of_succ_le hb)) (fun q hq => ?_) _) (fun q hq => ?_) _
    all_goals (obtain rfl : g2 = q := Option.some.inj hq; exact (Nat.ne_of_gt hb6))
  · exact (hk.store _ _ (fun h => absurd h (Nat.lt_irrefl _)) _).store _ _ (fun h => absurd h (Nat.lt_irrefl _)) _
set_option maxHeartbeats 4000000 in
set_option maxRecDepth 100000 in
theorem lexWider_any (N more : Int) (A B : Option Addr) (c d : Nat) (E : List Ed) (raw : List Int) (w : World) (hE : ReadsE w A E) (hR : ReadsI w B raw)
    (hN : i64ok N) (hm : i64ok more) (hb : ∀ e ∈ E, e.Ok) (hrb : ∀ n ∈ raw, i64ok n) :
    Calls Try.prog 9 #[.agg #[.int .i64 N, .slice A E.length c], .slice B raw.length d, .int .i64 more] w fun e w' => e = .returned (.bool true) ∧ Kept w w' := by
  have lR := hR.len
  unfold maxLen at lR
  have HE := Lib.hid hE
  have HR := Lib.hid hR
  have HEB := Lib.hid hb
  have HRB := Lib.hid hrb
  have HNB := Lib.hid hN
  have HMB := Lib.hid hm
  obtain ⟨i0, hi, hz0, hz1, hz2⟩ := info_parts infoEdge
  clear hE hR hb hrb hN hm
  go_enter Try.func9, Try.ntmps9
  go_wp2_with (go_at_call 10; refine (awake_any _).mono ?_; rintro e w1 ⟨rfl, hk⟩; obtain ⟨c0, c1, clt, hk⟩ := nbox hk; have HK1 := Lib.hid hk; clear hk)
  refine (fit_any N A c E w1 (HE.out.fix HK1.out) HNB.out HEB.out).mono ?_
  rintro e w2 ⟨A2, c2, rfl, hown, hk2⟩
  have hfit := fit_ok N E
  have hM9 := (fitN_range N).2
  have hfl := fitE_len N E
  have hc9 : ∀ e ∈ fitE N E, e.c ≤ 9 := fit_small N E
  have HM0 := Lib.hid (edges_of_row hown (by omega))
  have HNil := Lib.hid (edges_nil hown)
  have HEC := Lib.hid (row_cap hown)
  have HOWN := Lib.hid hown
  have HC9 := Lib.hid hc9
  have HK2 := Lib.hid (HK1.out.trans hk2)
  have HFIT := Lib.hid hfit
  clear hown hk2 hfit c0 c1 clt hc9
  generalize fitN N = M at *
  generalize fitE N E = E2 at *
  have HB3 := Lib.hid (heap_alloc_new w2 (.cells #[.int .i64 M, .slice A2 E2.length c2] 24))
  have hs3 : (w2.alloc (.cells #[.int .i64 M, .slice A2 E2.length c2] 24)).heap.size = w2.heap.size + 1 := by simp
  have HK3 := Lib.hid (HK2.out.alloc (.cells #[.int .i64 M, .slice A2 E2.length c2] 24))
  have HKK := Lib.hid ((Only.refl (fun _ => False) w2).alloc (.cells #[.int .i64 M, .slice A2 E2.length c2] 24))
  have HE3 := Lib.hid (HM0.out.fix HKK.out)
  go_wp2_with (fail)
  refine (order_any M A2 B c2 d E2 raw _ HE3.out (HR.out.fix HK3.out) HRB.out (by omega)).mono ?_
  rintro e w4 ⟨v, rfl, hv, hk4⟩
  obtain ⟨Ao, co, rfl⟩ := row_slice hv
  have hoo := orderR_ok E2 raw
  have hol := hoo.2.2
  have hF := form_of_sub HFIT.out (List.Sublist.refl _) hoo
  have HMD := Lib.hid (show Made w4 M E2 (orderR E2 raw) w2.heap.size A2 Ao c2 co from ⟨(hk4.cell (p := ⟨w2.heap.size, 0, none⟩) (by rw [hs3]; simp) (fun x => x)).trans (obj_cell HB3.out 0), (hk4.cell (p := ⟨w2.heap.size, 1, none⟩) (by rw [hs3]; simp) (fun x => x)).trans (obj_cell HB3.out 1), by have := hk4.size; omega, HE3.out.fix hk4, hv.reads (by omega), HNil.out, row_cap hv⟩)
  have HK4 := Lib.hid (HK3.out.trans hk4)
  have HKK4 := Lib.hid (HKK.out.trans hk4)
  have HF := Lib.hid hF
  have HALL := Lib.hid (orderR_all E2 raw)
  clear hv hk4 hoo hF hs3 HB3 HE3 HK3 HM0 HK2 HKK
  generalize orderR E2 raw = o at *
  obtain ⟨n0, n1, nlt, _, _, _, ncap⟩ := HMD.out
  go_wp2_with (fail)
  refine (fill_yes0 A2 Ao c2 co w4 HMD.out.edges HMD.out.order HNil.out HF.out).mono ?_
  rintro e w5 ⟨hk5, A7, c7, A8, c8, rfl, hr7, hr8, hc8⟩
  have HR8 := Lib.hid hr8
  have HMD5 := Lib.hid (HMD.out.fix hk5)
  have HKK5 := Lib.hid (HKK4.out.trans hk5)
  have HK5 := Lib.hid (HK4.out.trans hk5)
  clear hk5 hr7 hr8 hc8 n0 n1 nlt
  by_cases ho0 : o.length = 0
  · rw [ho0]
    go_wp2_with (fail)
    go_ret
    exact ⟨rfl, HK5.out⟩
  · have hol2 : 0 < o.length := by omega
    have hm0 : o.getD 0 0 ∈ o := by rw [List.getD_eq_getElem?_getD, List.getElem?_eq_getElem hol2]; exact List.getElem_mem hol2
    obtain ⟨s0, s1, s2⟩ := HF.out.1.2.2.2.2.2.2 _ hm0
    obtain ⟨k, hk⟩ : ∃ k : Nat, o.getD 0 0 = k := ⟨_, (Int.toNat_of_nonneg s0).symm⟩
    have hkl : k < E2.length := by rw [hk] at s1; omega
    have hE0 : 0 < E2.length := by omega
    obtain ⟨g, cg, hv, hg0, hgl, hcells⟩ := row_parts3 HOWN.out hE0
    cases hv
    have hnews : ∀ W, Kept w2 W → ∀ j u, (edCells E2)[j]? = some u → W.cell? ((⟨g, 0, none⟩ : Addr).add j) = some u := fun W hW j u hu => by
      have e : (⟨g, 0, none⟩ : Addr).add j = ⟨g, j, none⟩ := by unfold Addr.add; split <;> simp_all
      have hj : j < E2.length * 3 := by have := (List.getElem?_eq_some_iff.1 hu).1; rwa [edCells_len] at this
      rw [e, hW.cell (p := ⟨g, j, none⟩) hgl (fun x => x), hcells j hj, hu]
    have HNEWS := Lib.hid hnews
    have HKO := Lib.hid hk
    have lE2 : E2.length ≤ 40 := hfl
    have m1 : (edCells E2).length = E2.length * 3 := edCells_len E2
    have m2 : 0 + E2.length ≤ maxLen := by unfold maxLen; omega
    have m3 : (0 + E2.length) * 24 ≤ 140737488355328 := by omega
    clear hnews hcells s0 s1 s2 hm0 hk
    obtain ⟨n0, n1, nlt, _, _, _, _⟩ := HMD5.out
    go_upto_region 7 with fail
    go_cut [13] (fun v13 wx => WiPost w5 M E2.length (edCells E2) v13 wx)
    case first =>
      go_region_law (go_loud (refine step_append_own rfl (.const (.slice none 0 0)) (.tmp 49) 22 rfl _ 50 i0 _ 3 24 Try.underlying22 hi hz0 hz1 hz2 rfl (by decide) (.slice none 0 0) 0 [] rfl (World.ownsRow_nil _ _ _ _) ⟨g, 0, none⟩ E2.length c2 (edCells E2) (by kernel_rfl) m1 (HNEWS.out _ (HKK5.out.trans (by first | exact ((Only.refl _ _).alloc _).drew | exact (Only.refl _ _).drew | exact ((Only.refl _ _).drew).alloc _ | exact (Only.refl _ _)))) (eds_one _) m2 m3 (Nat.le_refl _) ?_; intro v5 w6 h51 h52 h53; rw [Nat.zero_add, List.nil_append] at h51; obtain ⟨g2, c3, rfl, hb5, hl5, _, _⟩ := row_fr3 h51 hE0; have HK6 := Lib.hid (show Kept _ w6 from Only.of_grown (S := fun _ => False) h52 (fun k hk _ => by simp [Value.ownBlock] at hk)); have HK56 := Lib.hid (show Kept w5 w6 from (by first | exact (((Only.refl _ _).alloc _).drew).trans HK6.out | exact ((Only.refl _ _).drew).trans HK6.out | exact (((Only.refl _ _).drew).alloc _).trans HK6.out | exact HK6.out)); obtain ⟨m0, m1', mlt, _, _, _, _⟩ := HMD5.out.fix HK56.out; (try (have hob : w6.heap[w5.heap.size]? = some (.cells #[.int .i64 0, .slice none 0 0] 24) := (by first | exact (HK6.out.block w5.heap.size (by simp) (fun x => x)).trans (heap_alloc_new w5 _) | exact (HK6.out.block w5.heap.size (by simp) (fun x => x)).trans (heap_alloc_new w5.drew _)); have z0 := obj_cell hob 0; have z1 := obj_cell hob 1; have zf0 := obj_fr hob 0; have zf1 := obj_fr hob 1; simp only [List.getElem?_toArray, List.getElem?_cons_zero, List.getElem?_cons_succ] at z0 z1; have HOB := Lib.hid hob; clear hob)); have H51 := Lib.hid h51; clear h51 h52 h53))
      all_goals (go_wp2_with fail; go_meet)
      all_goals first
        | with_reducible exact wi_arm1 HK56.out H51.out (size_le_drew _) hl5
        | exact wi_arm2 HK56.out H51.out (size_succ_drew_alloc _ _) hb5 HOB.out
    case rest =>
      rename World => w6
      obtain ⟨X, g2, c3, rfl, hX, hob, hrow, hne, hk6⟩ := hcut
      obtain ⟨g2', c3', e2, hb5, hl5, hcel, hfr⟩ := row_fr3 hrow hE0
      cases e2
      have hXl : X < w6.heap.size := (Array.getElem?_eq_some_iff.1 hob).1
      have x0 := obj_cell hob 0
      have x1 := obj_cell hob 1
      simp only [List.getElem?_toArray, List.getElem?_cons_zero, List.getElem?_cons_succ] at x0 x1
      obtain ⟨bo, fo, rfl, lbo, cgo⟩ := (HMD5.out.order.fix hk6).cell 0 hol2
      rw [HKO.out, Nat.add_zero] at cgo
      have y2 := hcel (k * 3 + 2) (by omega)
      rw [(edCells_get E2 k hkl).2.2] at y2
      have y2f := hfr (k * 3 + 2)
      have hem : E2.getD k default ∈ E2 := by rw [List.getD_eq_getElem?_getD, List.getElem?_eq_getElem hkl]; exact List.getElem_mem hkl
      have hck := HC9.out _ hem
      have hck0 := (HFIT.out.2.2.2 _ hem).2.2.2.1
      have hpr := pick_range more 9 (by decide)
      have hset := edCells_set E2 k ((E2.getD k default).c + pickOf more 9) hkl
      have hform := widen_ok HF.out HC9.out (k := k) (d := pickOf more 9) (by omega)
      have hlaw := law_wider HF.out hol2 HKO.out (d := pickOf more 9) (by omega) HALL.out hform
      have hpk := fun W => pick7_any more 9 W HMB.out.1 HMB.out.2 (by decide) (by decide)
      have HPK := Lib.hid hpk
      have HSET := Lib.hid (show (edCells E2).set (k * 3 + 2) (.int .i64 ((E2.getD k default).c + pickOf more 9)) = edCells (widen E2 k (pickOf more 9)) from hset)
      have hwl := widen_len E2 k (pickOf more 9)
      have HFORM := Lib.hid hform
      have HLAW := Lib.hid hlaw
      have HOB := Lib.hid hob
      have HROW := Lib.hid hrow
      have HK6 := Lib.hid hk6
      clear hpk hset hform hlaw hob hrow hk6 hcel hfr hem n0 n1 nlt
      generalize widen E2 k (pickOf more 9) = E3 at *
      generalize (E2.getD k default).c = ck at *
      generalize pickOf more 9 = pk at *
      go_upto_region 8 with fail
      go_cut [13] (fun v13 wx => v13 = .pointer (some ⟨X, 0, none⟩) ∧ wx.heap[X]? = some (.cells #[.int .i64 M, .slice (some ⟨g2, 0, none⟩) E2.length c3] 24) ∧ wx.ownsRow w5.heap.size 50 3 (.slice (some ⟨g2, 0, none⟩) E2.length c3) E2.length (edCells E3) ∧ Kept w5 wx)
      case first =>
        have x1' : w6.cell? ⟨X, 1, none⟩ = some (.slice (some ⟨g2, 0, none⟩) E2.length c3) := x1
        go_still_tail 18, (by kernel_rfl)
        still_call ((HPK.out _).mono fun e w'' h => ⟨h.1, h.2.symm⟩)
        repeat still_step
        refine wpStill_nil ?_
        change wpList _ _ _ _ _ w6.drew
        go_wp2_with fail
        go_meet
        refine ⟨rfl, ?_, ?_, ?_⟩
        · exact (Below.heap_setCell _ ⟨g2, k * 3 + 2, none⟩ _ X hne).trans HOB.out
        · have := ownsRow_set HROW.out (.int .i64 (ck + pk)) (i := k * 3 + 2) (by omega)
          rw [HSET.out] at this
          exact this
        · exact (HK6.out.store _ _ (fun h => absurd h (by show ¬ g2 < w5.heap.size; omega)) _).drew
      case rest =>
        rename World => w7
        obtain ⟨rfl, hob7, hrow7, hk7⟩ := hcut
        rw [← hwl] at hrow7
        have hRE := edges_of_row hrow7 (by omega)
        have z0 := obj_cell hob7 0
        have z1 := obj_cell hob7 1
        simp only [List.getElem?_toArray, List.getElem?_cons_zero, List.getElem?_cons_succ] at z0 z1
        have hfill := fill_yes0 (some ⟨g2, 0, none⟩) (some ⟨bo, fo, none⟩) c3 co w7 hRE (HMD5.out.order.fix hk7) (fun h => by cases h) HFORM.out
        rw [hwl] at hfill
        have HFILL := Lib.hid hfill
        have HK7 := Lib.hid (HK5.out.trans hk7)
        have HR87 := Lib.hid (HR8.out.fix hk7)
        have HP1 := Lib.hid (got_range HF.out)
        have HQ1 := Lib.hid (got_range HFORM.out)
        have hp2 := gotR_len o (flowR M E2 0 1 o [])
        have hq2 := gotR_len o (flowR M E3 0 1 o [])
        clear hfill hk7 hob7 hrow7 hRE x0 x1 cgo y2 y2f
        generalize gotR o (flowR M E2 0 1 o []) = P at *
        generalize gotR o (flowR M E3 0 1 o []) = Q at *
        go_wp2_with (fail)
        refine HFILL.out.mono ?_
        rintro e w8 ⟨hk8, A9, c9, A10, c10, rfl, hr9, hr10, hc10⟩
        have HR10 := Lib.hid hr10
        have HR88 := Lib.hid (HR87.out.fix hk8)
        have HK8 := Lib.hid (HK7.out.trans hk8)
        clear hk8 hr9 hr10 hc10 HFILL HR87
        obtain ⟨P1, hP1⟩ : ∃ P1, P.drop 1 = P1 := ⟨_, rfl⟩
        obtain ⟨Q1, hQ1⟩ : ∃ Q1, Q.drop 1 = Q1 := ⟨_, rfl⟩
        have lP1 : P1.length = o.length - 1 := by rw [← hP1, List.length_drop, hp2]
        have lQ1 : Q1.length = o.length - 1 := by rw [← hQ1, List.length_drop, hq2]
        have gP1 : ∀ j, P.getD (j + 1) 0 = P1.getD j 0 := fun j => by rw [← hP1, List.getD_eq_getElem?_getD, List.getD_eq_getElem?_getD, List.getElem?_drop, Nat.add_comm 1 j]
        have gQ1 : ∀ j, Q.getD (j + 1) 0 = Q1.getD j 0 := fun j => by rw [← hQ1, List.getD_eq_getElem?_getD, List.getD_eq_getElem?_getD, List.getElem?_drop, Nat.add_comm 1 j]
        have hlw := HLAW.out
        rw [hP1, hQ1] at hlw
        have HPR := Lib.hid (sum_take_range (l := P1) (fun x hx => HP1.out x (List.mem_of_mem_drop (by rw [hP1]; exact hx))) (by omega))
        have HQR := Lib.hid (sum_take_range (l := Q1) (fun x hx => HQ1.out x (List.mem_of_mem_drop (by rw [hQ1]; exact hx))) (by omega))
        have HGP := Lib.hid gP1
        have HGQ := Lib.hid gQ1
        have HLW := Lib.hid hlw
        clear hP1 hQ1 gP1 gQ1 hlw HLAW
        go_wp2_with (fail)
        go_loopw [17, 18, 19] (fun a b i wr => ∃ k : Nat, k + 1 ≤ o.length ∧ i = .int .i64 ((k : Int) + 1) ∧ a = .int .i64 (P1.take k).sum ∧ b = .int .i64 (Q1.take k).sum ∧ Kept w8 wr) (fun _ _ i _ => o.length - (intOf i).toNat)
        case atStart => exact ⟨0, by omega, rfl, rfl, rfl, Only.refl _ _⟩
        case round =>
          obtain ⟨j, hj, rfl, rfl, rfl, hkp⟩ := hrel
          have HKP := Lib.hid hkp
          clear hkp
          have hb1 := HPR.out j
          have hb2 := HQR.out j
          by_cases hlt : j + 1 < o.length
          · obtain ⟨bp, fp, rfl, lbp, cp⟩ := (HR88.out.fix HKP.out).cell (j + 1) (by omega)
            obtain ⟨bq, fq, rfl, lbq, cq⟩ := (HR10.out.fix HKP.out).cell (j + 1) (by omega)
            rw [HGP.out] at cp
            rw [HGQ.out] at cq
            have hs1 := sum_take_succ P1 j (by omega)
            have hs2 := sum_take_succ Q1 j (by omega)
            have hb3 := HPR.out (j + 1)
            have hb4 := HQR.out (j + 1)
            rw [hs1] at hb3
            rw [hs2] at hb4
            have HS1 := Lib.hid hs1
            have HS2 := Lib.hid hs2
            clear hs1 hs2
            generalize P1.getD j 0 = y1 at *
            generalize Q1.getD j 0 = y2 at *
            generalize hS1 : (P1.take j).sum = S1 at *
            generalize hS2 : (Q1.take j).sum = S2 at *
            clear hS1 hS2
            have hj2 : (j : Int) + 1 < o.length := by omega
            go_wp2
            go_roundw
            case rel => exact ⟨j + 1, by omega, by go_num, by first | (rw [HS1.out]; done) | (rw [HS1.out]; go_num), by first | (rw [HS2.out]; done) | (rw [HS2.out]; go_num), HKP.out⟩
            case measure => simp [intOf]; omega
          · have hj3 : j = o.length - 1 := by omega
            have e1 : P1.take j = P1 := List.take_of_length_le (by omega)
            have e2 : Q1.take j = Q1 := List.take_of_length_le (by omega)
            rw [e1] at hb1 ⊢
            rw [e2] at hb2 ⊢
            obtain ⟨bp, fp, rfl, lbp, cp⟩ := (HR88.out.fix HKP.out).cell 0 (by omega)
            obtain ⟨bq, fq, rfl, lbq, cq⟩ := (HR10.out.fix HKP.out).cell 0 (by omega)
            rw [Nat.add_zero] at cp cq
            have hol3 : (0 : Int) < (o.length : Int) := by omega
            obtain ⟨l1, l2⟩ := HLW.out
            have d1 : decide (P.getD 0 0 ≤ Q.getD 0 0) = true := decide_eq_true l1
            have d2 : decide (Q1.sum ≤ P1.sum) = true := decide_eq_true l2
            have hj2 : ¬ (j : Int) + 1 < o.length := by omega
            generalize P.getD 0 0 = p0 at *
            generalize Q.getD 0 0 = q0 at *
            generalize P1.sum = S1 at *
            generalize Q1.sum = S2 at *
            go_upto_region 19 with fail
            go_quiet (fail)
            go_wp2
            go_ret
            exact ⟨rfl, HK8.out.trans (HKP.out.drewN _)⟩
end Go.Proofs.Ytlpccebackmahaa
namespace Go.Proofs.Ytlpccebackmahaa
open Go.ChangeShapes Go.WideShapes Go.ChangeAt Go.RowKit Go.WideMaps Go.WideElems Go.Deep

set_option maxRecDepth 100000 in
theorem lexWider_walk {H : Type} {enc : TypeId × Value → H} {W : World} {base base' : Nat} {sp : Nat → Bool} {held : Bool} {d0 d1 : DataW H} {p0 p1 : List MemPlace}
    (v0 : Value) (hv0 : Value.okWide Try.prog W .any base 24 v0) (h0 : DataW.Trod enc Try.prog W base' sp held 24 v0 d0 p0)
    (v1 : Value) (hv1 : Value.okWide Try.prog W .any base 25 v1) (h1 : DataW.Trod enc Try.prog W base' sp held 25 v1 d1 p1) (a2 : Int) (w2 : (Lit.int .i64 a2).wf = true) :
    Calls Try.prog 9 #[v0, v1, .int .i64 a2] W fun e w' => e = .returned (.bool true) ∧ Below W.heap.size W w' := by
  obtain ⟨N, A, c, E, rfl, hE, hc, hA, hN, hEb⟩ := open_netV hv0 h0
  obtain ⟨B, d, raw, rfl, hO, hd, hrb⟩ := open_intsV hv1 h1
  exact (lexWider_any N a2 A B c d E raw W hE hO hN (bounds_i64 w2) hEb hrb).mono fun e w' ⟨h1, h2⟩ => ⟨h1, h2.below (Nat.le_refl _) (fun _ _ x => x)⟩
end Go.Proofs.Ytlpccebackmahaa

/- Layer 7: LexStays walked. -/
import Derived.Test.YtlpccebackmahaaTakenP
set_option linter.unusedVariables false
set_option linter.unusedSimpArgs false
namespace Go.Proofs.Ytlpccebackmahaa
open PW Go.RowKit Go.Proofs.YtlpccebackmahaaW.PrintWords

theorem ReadsE.heap {w W : World} {A : Option Addr} {E : List Ed} (h : ReadsE w A E) (h1 : w.heap.size ≤ W.heap.size) (h2 : ∀ k, k < w.heap.size → W.heap[k]? = w.heap[k]?) : ReadsE W A E := by
  have h' : ReadsE { W with os := w.os, tape := w.tape, output := w.output } A E := h.fix ⟨rfl, rfl, rfl, h1, fun k hk _ => h2 k hk⟩
  exact ⟨fun i hi => h'.cell i hi, h'.len⟩
/-- The statement's taken, as the walk needs it. -/
theorem taken_any {N : Int} {E : List Ed} {rest : List Int} {src : Int} {w0 w : World} (A : Option Addr) (c : Nat) (u : Value) (hB : Below w0.heap.size w0 w) (hE : ReadsE w0 A E) (hc : E.length ≤ c)
    (ho : Kd.R (Kd.int .i64) 3 w w0.heap.size (fun b => some b = u.ownBlock) u rest)
    (hN : NetOk N E) (hN9 : N ≤ 9) (hl : rest.length = E.length) (hs : ∀ k, k < E.length → 0 ≤ rest.getD k 0 ∧ rest.getD k 0 ≤ 1000) (hsrc : SrcOk E 0 src) (hp : 0 < rest.getD src.toNat 0) :
    Calls Try.prog 20 #[.agg #[.int .i64 N, .slice A E.length c], u, .int .i64 src] w fun e w' => ∃ (v0 : Value) (es : List Int) (b : Bool) (r4 : List Int),
      e = .returned (.tuple #[.agg #[v0, .int .i64 1], .bool b]) ∧ (b = true → walkI E 1 [0] 0 es ∧ es.head? = some src ∧ (es.length : Int) ≤ N ∧ (∀ e ∈ natsOf es, 0 < rest.getD e 0) ∧ r4 = decAll rest (natsOf es)) ∧
      Kd.R (Kd.int .i64) 3 w' w0.heap.size (fun b => w.heap.size ≤ b ∧ some b ≠ u.ownBlock) v0 es ∧ Kd.R (Kd.int .i64) 3 w' w0.heap.size (fun b => some b = u.ownBlock) u r4 ∧ Below w0.heap.size w0 w' ∧ Go.Proofs.YtlpccebackmahaaW.PrintWords.Kept w w' (fun b => some b = u.ownBlock) := by
  obtain ⟨n, rfl⟩ : ∃ n : Nat, N = n := ⟨N.toNat, by have := hN.1; omega⟩
  obtain ⟨k, ⟨es, x, b, r4⟩, ⟨hx, hr⟩, hk⟩ := taken_good (N := n) hN (by omega) hl hs hsrc hp
  obtain rfl : x = 1 := hx
  have hcall := billetlaw07_taken.calls k (n : Int) A c (E.map Ed.toS) (fun b => some b = u.ownBlock) u rest src es 1 b r4 w0 w hB (fun W hW => CE_of_reads (hE.heap (Nat.le_trans hB.size hW.1) (fun k hk => (hW.2 k (Nat.lt_of_lt_of_le hk hB.size) (fun h => by have := own_base (Kd.own_of_R ho) k h.symm; omega)).trans (hB.block k hk)))) (by rw [List.length_map]; exact hc) ho hk
  rw [List.length_map] at hcall
  refine hcall.mono ?_
  rintro e w' ⟨v0, rfl, h1, h2, h3, h4⟩
  refine ⟨v0, es, b, r4, rfl, hr, Kd.R_mono h1 (fun b hb => ⟨hb.1.resolve_left (fun h => hb.2 h), hb.2⟩), Kd.R_of_own (Kd.own_of_R h2) (fun k hk => hk.symm), h3, h4⟩

/-- What lies behind a call of taken. -/
structure StF (w8 wx : World) (V : Value) (bnd : Nat) (v0 : Value) (es r4 : List Int) (v14 : Value) (all : List (List S44)) (v16 : Value) (l : List S44) : Prop where
  a : Kd.R (Kd.int .i64) 3 wx w8.heap.size (fun b => some b ≠ V.ownBlock) v0 es
  b : Kd.R (Kd.int .i64) 3 wx w8.heap.size (fun b => some b = V.ownBlock) V r4
  c : Kd.R (Kd.slice 44 k44) 42 wx w8.heap.size (fun b => (some b ≠ V.ownBlock ∧ some b ≠ v16.ownBlock) ∧ b < bnd) v14 all
  d : Kd.R k44 44 wx w8.heap.size (fun b => some b ≠ V.ownBlock ∧ b < bnd) v16 l
  e : Below w8.heap.size w8 wx
section
variable {w8 wx wi : World} {V : Value} {bnd : Nat} {v0 : Value} {es r4 : List Int} {v14 : Value} {all : List (List S44)} {v16 : Value} {l : List S44}
theorem StF.alloc (h : StF w8 wx V bnd v0 es r4 v14 all v16 l) (o : Obj) : StF w8 (wx.alloc o) V bnd v0 es r4 v14 all v16 l :=
  ⟨Kd.R_alloc h.a o, Kd.R_alloc h.b o, Kd.R_alloc h.c o, Kd.R_alloc h.d o, h.e.alloc h.e.size o⟩
theorem StF.drew (h : StF w8 wx V bnd v0 es r4 v14 all v16 l) : StF w8 wx.drew V bnd v0 es r4 v14 all v16 l :=
  ⟨Kd.R_drew h.a, Kd.R_drew h.b, Kd.R_drew h.c, Kd.R_drew h.d, h.e.drew⟩
theorem StF.set (h : StF w8 wx V bnd v0 es r4 v14 all v16 l) {X : Nat} {cs : Array Value} (hX : wx.heap[X]? = some (.cells cs 44)) (hb : bnd ≤ X) (hw : w8.heap.size ≤ bnd) (j : Nat) (u : Value) : StF w8 (wx.setCell ⟨X, j, none⟩ u) V bnd v0 es r4 v14 all v16 l :=
  ⟨Kd.R_set h.a hX (by decide) j u, Kd.R_set h.b hX (by decide) j u, Kd.R_far (p := ⟨X, j, none⟩) h.c (fun k hk => by have := hk.2; show k ≠ X; omega) u, Kd.R_far (p := ⟨X, j, none⟩) h.d (fun k hk => by have := hk.2; show k ≠ X; omega) u, h.e.setCell (p := ⟨X, j, none⟩) (Nat.le_trans hw hb) u⟩
theorem taken_st {N : Int} {E : List Ed} {rest : List Int} {src : Int} (A : Option Addr) (c : Nat) (W : World) (hW : Below wi.heap.size wi W) (hB : Below w8.heap.size w8 wi) (hE : ReadsE w8 A E) (hc : E.length ≤ c)
    (h13 : Kd.R (Kd.int .i64) 3 wi w8.heap.size (fun b => some b = V.ownBlock) V rest) (h14 : Kd.R (Kd.slice 44 k44) 42 wi w8.heap.size (fun b => some b ≠ V.ownBlock ∧ some b ≠ v16.ownBlock) v14 all) (h16 : Kd.R k44 44 wi w8.heap.size (fun b => some b ≠ V.ownBlock) v16 l)
    (hN : NetOk N E) (hN9 : N ≤ 9) (hl : rest.length = E.length) (hs : ∀ k, k < E.length → 0 ≤ rest.getD k 0 ∧ rest.getD k 0 ≤ 1000) (hsrc : SrcOk E 0 src) (hp : 0 < rest.getD src.toNat 0) :
    Calls Try.prog 20 #[.agg #[.int .i64 N, .slice A E.length c], V, .int .i64 src] W fun e w' => ∃ (A0 : Option Addr) (c0 : Nat) (es : List Int) (b : Bool) (r4 : List Int),
      e = .returned (.tuple #[.agg #[.slice A0 es.length c0, .int .i64 1], .bool b]) ∧ (b = true → walkI E 1 [0] 0 es ∧ es.head? = some src ∧ (es.length : Int) ≤ N ∧ (∀ e ∈ natsOf es, 0 < rest.getD e 0) ∧ r4 = decAll rest (natsOf es)) ∧
      StF w8 w' V wi.heap.size (.slice A0 es.length c0) es r4 v14 all v16 l ∧ (∀ k, k < W.heap.size → some k ≠ V.ownBlock → w'.heap[k]? = W.heap[k]?) := by
  refine (taken_any A c V (hB.trans (hW.mono hB.size)) hE hc (Kd.R_below h13 hW) hN hN9 hl hs hsrc hp).mono ?_
  rintro e w' ⟨v0, es, b, r4, rfl, h1, h2, h3, h4, h5⟩
  obtain ⟨A0, c0, rfl⟩ := Kd.R_slice h2
  refine ⟨A0, c0, es, b, r4, rfl, h1, ⟨Kd.R_mono h2 (fun k hk => hk.2), h3, ?_, ?_, h4⟩, fun k hk hn => h5.2 k hk hn⟩
  · exact Kd.R_move (Kd.R_mono (Kd.R_bound h14) (fun k hk => ⟨hk.1, hk.2.2.1⟩)) (fun k hk => (h5.2 k (Nat.lt_of_lt_of_le hk.2 hW.size) (fun e => hk.1.1 e)).trans (hW.block k hk.2))
  · exact Kd.R_move (Kd.R_mono (Kd.R_bound h16) (fun k hk => ⟨hk.1, hk.2.2.1⟩)) (fun k hk => (h5.2 k (Nat.lt_of_lt_of_le hk.2 hW.size) (fun e => hk.1 e)).trans (hW.block k hk.2))
end
theorem cell_two {w : World} {X : Nat} {p : Addr} (h : p.block ≠ X) (u v : Value) : ((w.setCell ⟨X, 0, none⟩ u).setCell ⟨X, 1, none⟩ v).cell? p = w.cell? p :=
  World.cell?_of_block (w := w) ((Below.heap_setCell _ ⟨X, 1, none⟩ v p.block h).trans (Below.heap_setCell _ ⟨X, 0, none⟩ u p.block h))
theorem plainsOf_snoc (all : List (List S44)) (l : List S44) : plainsOf (all ++ [l]) = plainsOf all ++ [l.map planeOf] := by simp [plainsOf]

set_option maxHeartbeats 4000000 in
set_option maxRecDepth 100000 in
theorem lexStays_any (N : Int) (A B D : Option Addr) (c d cr : Nat) (E : List Ed) (raw : List Int) (rw3 : List (List Int)) (w : World) (hE : ReadsE w A E) (hR : ReadsI w B raw) (hR3 : Go.Proofs.YtlpccebackmahaaW.PrintWords.Kd.C (Go.Proofs.YtlpccebackmahaaW.PrintWords.Kd.slice 3 (Go.Proofs.YtlpccebackmahaaW.PrintWords.Kd.int .i64)) w D rw3.length rw3) (hcr : rw3.length ≤ cr)
    (hN : i64ok N) (hb : ∀ e ∈ E, e.Ok) (hrb : ∀ n ∈ raw, i64ok n) (hrb3 : ∀ l ∈ rw3, ∀ n ∈ l, i64ok n) :
    Calls Try.prog 6 #[.agg #[.int .i64 N, .slice A E.length c], .slice B raw.length d, .slice D rw3.length cr] w fun e w' => e = .returned (.bool true) ∧ Kept w w' := by
  have lR := hR.len
  unfold maxLen at lR
  have HE := Lib.hid hE
  have HR := Lib.hid hR
  have HR3 := Lib.hid hR3
  have HEB := Lib.hid hb
  have HRB := Lib.hid hrb
  have HRB3 := Lib.hid hrb3
  have HNB := Lib.hid hN
  have HCR := Lib.hid hcr
  clear hE hR hR3 hb hrb hrb3 hN hcr
  go_enter Try.func6, Try.ntmps6
  go_wp2_with (go_at_call 10; refine (awake_any _).mono ?_; rintro e w1 ⟨rfl, hk⟩; obtain ⟨c0, c1, clt, hk⟩ := nbox hk; have HK1 := Lib.hid hk; clear hk)
  refine (fit_any N A c E w1 (HE.out.fix HK1.out) HNB.out HEB.out).mono ?_
  rintro e w2 ⟨A2, c2, rfl, hown, hk2⟩
  have hfit := fit_ok N E
  have hM9 := (fitN_range N).2
  have hfl := fitE_len N E
  have hc9 : ∀ e ∈ fitE N E, e.c ≤ 9 := fit_small N E
  have HM0 := Lib.hid (edges_of_row hown (by omega))
  have HNil := Lib.hid (edges_nil hown)
  have HEC := Lib.hid (row_cap hown)
  have HK2 := Lib.hid (HK1.out.trans hk2)
  have HFIT := Lib.hid hfit
  clear hown hk2 hfit c0 c1 clt
  generalize fitN N = M at *
  generalize fitE N E = E2 at *
  have HB3 := Lib.hid (heap_alloc_new w2 (.cells #[.int .i64 M, .slice A2 E2.length c2] 24))
  have hs3 : (w2.alloc (.cells #[.int .i64 M, .slice A2 E2.length c2] 24)).heap.size = w2.heap.size + 1 := by simp
  have HK3 := Lib.hid (HK2.out.alloc (.cells #[.int .i64 M, .slice A2 E2.length c2] 24))
  have HE3 := Lib.hid (HM0.out.fix ((Only.refl (fun _ => False) w2).alloc (.cells #[.int .i64 M, .slice A2 E2.length c2] 24)))
  go_wp2_with (fail)
  refine (order_any M A2 B c2 d E2 raw _ HE3.out (HR.out.fix HK3.out) HRB.out (by omega)).mono ?_
  rintro e w4 ⟨v, rfl, hv, hk4⟩
  obtain ⟨Ao, co, rfl⟩ := row_slice hv
  have hoo := orderR_ok E2 raw
  have hol := hoo.2.2
  have hF := form_of_sub HFIT.out (List.Sublist.refl _) hoo
  have HMD := Lib.hid (show Made w4 M E2 (orderR E2 raw) w2.heap.size A2 Ao c2 co from ⟨(hk4.cell (p := ⟨w2.heap.size, 0, none⟩) (by rw [hs3]; simp) (fun x => x)).trans (obj_cell HB3.out 0), (hk4.cell (p := ⟨w2.heap.size, 1, none⟩) (by rw [hs3]; simp) (fun x => x)).trans (obj_cell HB3.out 1), by have := hk4.size; omega, HE3.out.fix hk4, hv.reads (by omega), HNil.out, row_cap hv⟩)
  have HK4 := Lib.hid (HK3.out.trans hk4)
  have HF := Lib.hid hF
  clear hv hk4 hoo hF hs3 HB3 HE3 HK3 HM0 HK2
  generalize orderR E2 raw = o at *
  obtain ⟨n0, n1, nlt, _, _, _, ncap⟩ := HMD.out
  have hways := fun W (hk : Kept w4 W) => ways_any M A2 Ao D c2 co cr E2 o rw3 W (HMD.out.edges.fix hk) (HMD.out.order.fix hk) (Go.Proofs.YtlpccebackmahaaW.PrintWords.Kd.C_below HR3.out ((HK4.out.trans hk).below (Nat.le_refl _) (fun _ _ x => x))) HEC.out ncap HCR.out HFIT.out hM9 HRB3.out HF.out
  have HWAYS := Lib.hid hways
  clear hways
  go_upto_region 4 with fail
  go_cut [10, 11, 12] (fun v10 v11 v12 wx => v12 = .int .i64 0 ∧ ∃ A7 c7 A8 c8 ls, v10 = .slice A7 E2.length c7 ∧ v11 = .slice A8 o.length c8 ∧ FormOk M E2 0 1 o (plainWays ls) ∧ ReadsI wx A7 (flowR M E2 0 1 o (plainWays ls)) ∧ ReadsI wx A8 (gotR o (flowR M E2 0 1 o (plainWays ls))) ∧ Kept w4 wx)
  case first =>
    go_region_held3 (fun W => W.cell? ⟨w2.heap.size, 0, none⟩ = some (.int .i64 M) ∧ W.cell? ⟨w2.heap.size, 1, none⟩ = some (.slice A2 E2.length c2)) (first | exact ⟨n0, n1⟩ | exact ⟨r0, r1⟩ | exact ⟨m0, m1⟩ | go_keep)
      (first
        | (go_at_call 16; go_loud (refine (HWAYS.out _ (by first | exact (Only.refl _ _).drew | exact Only.refl _ _)).mono ?_; rintro e w6 ⟨D6, cw6, ls, rfl, hww, hfo, hk6⟩; have HWW := Lib.hid hww; have HFO := Lib.hid hfo; have HK6 := Lib.hid (show Kept w4 w6 from (by first | exact hk6 | exact ((Only.refl _ _).drew).trans hk6)); obtain ⟨m0, m1, mlt, _, _, _, _⟩ := HMD.out.fix HK6.out; clear hww hfo hk6))
        | (go_at_call 11; go_loud (refine (fill_yes A2 Ao D6 c2 co cw6 ls w6 (HMD.out.edges.fix HK6.out) (HMD.out.order.fix HK6.out) HWW.out HNil.out HFO.out).mono ?_; rintro e w7 ⟨hk7, A7, c7, A8, c8, rfl, hr7, hr8, hc8⟩; have HK7 := Lib.hid (HK6.out.trans hk7); have HR7 := Lib.hid hr7; have HR8 := Lib.hid hr8; obtain ⟨r0, r1, rlt, _, _, _, _⟩ := HMD.out.fix HK7.out; clear hk7 hr7 hr8 hc8)))
    go_wp2_with fail
    go_meet
    exact ⟨rfl, A7, c7, A8, c8, ls, rfl, rfl, HFO.out, HR7.out, HR8.out, HK7.out⟩
  case rest =>
  rename World => w7
  obtain ⟨rfl, A7, c7, A8, c8, ls, rfl, rfl, hfo, hr7, hr8, hk7⟩ := hcut
  have HFO := Lib.hid hfo
  have HR7 := Lib.hid hr7
  have HR8 := Lib.hid hr8
  have HK7 := Lib.hid hk7
  clear hfo hr7 hr8 hk7 n0 n1 nlt
  obtain ⟨n0, n1, nlt, _, _, _, _⟩ := HMD.out.fix HK7.out
  have lfl := flowR_len HFO.out
  have hM2 : 2 ≤ M := HFIT.out.1
  have hgood := r5good_yes M 0 1 A2 A7 c2 c7 E2 (flowR M E2 0 1 o (plainWays ls)) w7 (HMD.out.edges.fix HK7.out) HR7.out HFIT.out (flow_okf HFO.out) (by omega) (by omega) (by decide)
  rw [lfl] at hgood
  have HGOOD := Lib.hid hgood
  clear hgood
  go_upto_region 7 with (go_at_call 17; refine HGOOD.out.mono ?_; rintro e w8 ⟨rfl, hk8⟩)
  have HK8 := Lib.hid (HK7.out.trans hk8)
  have HR7' := Lib.hid (HR7.out.fix hk8)
  have HR8' := Lib.hid (HR8.out.fix hk8)
  have HMD8 := Lib.hid (HMD.out.fix HK8.out)
  have hp2 := gotR_len o (flowR M E2 0 1 o (plainWays ls))
  have hokf := flow_okf HFO.out
  have hcap : ∀ k, k < E2.length → (flowR M E2 0 1 o (plainWays ls)).getD k 0 ≤ (E2.getD k default).c := fun k hk => (hokf.fit k hk).2
  have hst := Apart.start (N := M) (s := 0) (t := 1) (o := o) lfl (fun k hk => (hokf.fit k hk).1)
  obtain ⟨FL, hFL⟩ : ∃ FL, flowR M E2 0 1 o (plainWays ls) = FL := ⟨_, rfl⟩
  rw [hFL] at HR7' HR8' hp2 lfl hcap hst
  have HFL := Lib.hid hFL
  have HST := Lib.hid hst
  have HCAP := Lib.hid hcap
  have HC9 := Lib.hid hc9
  have hCI := CI_of_reads HR7'.out
  have HLF := Lib.hid lfl
  rw [lfl] at hCI
  have HCI := Lib.hid hCI
  clear hk8 n0 n1 nlt HMD HWAYS HR8 HR7 HGOOD hokf hFL hst hcap hCI hc9
  go_wp2_with (first | ((with_reducible refine gate_builtin (b := .append) (xs := #[.const (.slice none 0 0), .tmp 61]) rfl ?_); (try (refine gate_guard (by rfl) ?_; dsimp only)); at_builtin; go_loud (refine Kd.R_append_row (Value.int .i64) 0 (w0 := w8) w8.heap.size rfl (.const (.slice none 0 0)) (.tmp 61) 25 3 (.int .i64 0) 8 rfl Try.underlying25 info3 rfl (by decide) (.slice none 0 0) [] FL A7 E2.length c7 (fun _ => True) rfl rfl (fun _ _ => trivial) (Kd.R_nil _ _ _ _ _) HCI.out (Below.refl _ _) (Nat.le_refl _) (by simp only [List.length_nil]; omega) ?_; intro v13 w9 h13 hb9 _ _; rw [List.nil_append] at h13; obtain ⟨A13, c13, rfl, _, _⟩ := Kd.R_reads h13; rw [HLF.out] at h13 ⊢; have H13 := Lib.hid h13; have HB9 := Lib.hid hb9; clear h13 hb9)))
  go_loopw [14, 15] (fun v14 i wr => ∃ (k : Nat) (rest : List Int) (all : List (List S44)), k ≤ o.length ∧ i = .int .i64 k ∧ Apart M E2 0 1 o FL rest k (plainsOf all) ∧ Kd.R (Kd.int .i64) 3 wr w8.heap.size (fun b => some b = (Value.slice A13 E2.length c13).ownBlock) (.slice A13 E2.length c13) rest ∧ Kd.R (Kd.slice 44 k44) 42 wr w8.heap.size (fun b => some b ≠ (Value.slice A13 E2.length c13).ownBlock) v14 all ∧ Below w8.heap.size w8 wr) (fun _ i _ => o.length - (intOf i).toNat)
  case atStart => exact ⟨0, FL, [], Nat.zero_le _, rfl, HST.out, Kd.R_of_own (Kd.own_of_R H13.out) (fun k hk => hk.symm), Kd.R_nil _ _ _ _ _, HB9.out⟩
  case round =>
    obtain ⟨k, rest, all, hk, rfl, hap, h13, h14, hbo⟩ := hrel
    obtain ⟨A14, c14, hv14⟩ := Kd.R_slice h14
    subst hv14
    have hmany : all.length = k := by have := hap.many; unfold plainsOf at this; rwa [List.length_map] at this
    have HMANY := Lib.hid hmany
    clear hmany
    have HAP := Lib.hid hap
    have HR13 := Lib.hid h13
    have HR14 := Lib.hid h14
    have HBO := Lib.hid hbo
    clear hap h13 h14 hbo
    rename World => wo
    by_cases hlt : k < o.length
    · have hmo : o.getD k 0 ∈ o := by rw [List.getD_eq_getElem?_getD, List.getElem?_eq_getElem hlt]; exact List.getElem_mem hlt
      have hsrc := HF.out.1.2.2.2.2.2.2 _ hmo
      obtain ⟨s0, s1, s2⟩ := id hsrc
      obtain ⟨xn, hxn⟩ : ∃ xn : Nat, o.getD k 0 = xn := ⟨_, (Int.toNat_of_nonneg s0).symm⟩
      rw [hxn] at hsrc s1
      have HSRC := Lib.hid hsrc
      have hxl : xn < E2.length := by omega
      have hx9 : FL.getD xn 0 ≤ 9 := Int.le_trans (HCAP.out xn hxl) (HC9.out _ (by rw [List.getD_eq_getElem?_getD, List.getElem?_eq_getElem hxl]; exact List.getElem_mem hxl))
      have hlow := (HAP.out.low xn hxl).2
      have HXN := Lib.hid hxn
      clear hsrc hxn s0 s2 hmo
      go_wp2
      go_loopw [16, 17] (fun v16 kk wr => ∃ (n : Nat) (rest : List Int) (l : List S44), kk = .int .i64 n ∧ n ≤ 9 ∧ l.length = n ∧ rest.getD xn 0 + n ≤ 9 ∧ ApartIn M E2 0 1 o FL rest k (plainsOf all) (l.map planeOf) ∧ Kd.R (Kd.int .i64) 3 wr w8.heap.size (fun b => some b = (Value.slice A13 E2.length c13).ownBlock) (.slice A13 E2.length c13) rest ∧ Kd.R (Kd.slice 44 k44) 42 wr w8.heap.size (fun b => some b ≠ (Value.slice A13 E2.length c13).ownBlock ∧ some b ≠ v16.ownBlock) (.slice A14 all.length c14) all ∧ Kd.R k44 44 wr w8.heap.size (fun b => some b ≠ (Value.slice A13 E2.length c13).ownBlock) v16 l ∧ Below w8.heap.size w8 wr) (fun _ kk _ => 10 - (intOf kk).toNat)
      case atStart => exact ⟨0, rest, [], rfl, by omega, rfl, by omega, HAP.out.into, HR13.out, Kd.R_mono HR14.out (fun b hb => ⟨hb, by simp [Value.ownBlock]⟩), Kd.R_nil _ _ _ _ _, HBO.out⟩
      case round =>
        clear HAP HR13 HR14 HBO
        obtain ⟨n, rest, l, rfl, hn9, hln, hcnt, hap, h13, h14, h16, hb⟩ := hrel
        rename World => wi
        obtain ⟨A16, c16, hv16⟩ := Kd.R_slice h16
        subst hv16
        have hbk := Only.of_below (S := fun _ => False) hb
        obtain ⟨bo, fo, rfl, lbo, cgo8⟩ := HMD8.out.order.cell k hlt
        rw [HXN.out] at cgo8
        have hcg := fun W (hW : Kept w8 W) => (hW.cell (p := ⟨bo, fo + k, none⟩) lbo (fun x => x)).trans cgo8
        have HCG := Lib.hid hcg
        have cgo := hcg wi hbk
        have hlb : bo < wi.heap.size := Nat.lt_of_lt_of_le lbo hb.size
        obtain ⟨n0, n1, nlt, _, _, _, _⟩ := HMD8.out.fix hbk
        have hrl : rest.length = E2.length := hap.len
        obtain ⟨A', c', e13, _, hC13⟩ := Kd.R_reads h13
        injection e13 with e1 e2 e3
        subst e1
        clear e2 e3
        obtain ⟨b13, f13, rfl, lb13, c13x⟩ := (readsI_of_C hC13).cell xn (by rw [hrl]; exact hxl)
        obtain ⟨rx, hrx⟩ : ∃ rx, rest.getD xn 0 = rx := ⟨_, rfl⟩
        rw [hrx] at c13x hcnt
        have hrx0 : 0 ≤ rx := by have := (hap.low xn hxl).1; omega
        have HRX := Lib.hid hrx
        have HAP := Lib.hid hap
        have HR13 := Lib.hid h13
        have HR14 := Lib.hid h14
        have HR16 := Lib.hid h16
        have HBI := Lib.hid hb
        have HRL := Lib.hid hrl
        have HBK := Lib.hid hbk
        have HLN := Lib.hid hln
        clear hrx hap h13 h14 h16 hb hC13 hbk hcg cgo8 hln hrl
        have hn1000 : (n : Int) < 1000 := by omega
        by_cases hr0 : 0 < rx
        · have hs9 : ∀ j, j < E2.length → 0 ≤ rest.getD j 0 ∧ rest.getD j 0 ≤ 1000 := fun j hj => by
            have h1 := HAP.out.low j hj
            have h2 := HCAP.out j hj
            have h3 := HC9.out (E2.getD j default) (by rw [List.getD_eq_getElem?_getD, List.getElem?_eq_getElem hj]; exact List.getElem_mem hj)
            omega
          have htk := fun W (hW : Below wi.heap.size wi W) => taken_st (v14 := .slice A14 all.length c14) (v16 := .slice A16 l.length c16) A2 c2 W hW HBI.out HMD8.out.edges HEC.out HR13.out HR14.out HR16.out HFIT.out hM9 HRL.out hs9 HSRC.out (by rw [Int.toNat_natCast, HRX.out]; exact hr0)
          have HTK := Lib.hid htk
          have hown13 : ∀ b, some b = (Value.slice (some ⟨b13, f13, none⟩) E2.length c13).ownBlock → b < wi.heap.size := fun b hb => own_lt (Kd.own_of_R HR13.out) b hb.symm
          have HOWN13 := Lib.hid hown13
          clear hs9 htk hown13
          go_upto_region 16 with fail
          go_cut [18, 19] (fun v18 v19 wx => ∃ (X : Nat) (A0 : Option Addr) (c0 : Nat) (es : List Int) (b : Bool) (r4 : List Int), v18 = .pointer (some ⟨X, 0, none⟩) ∧ v19 = .bool b ∧ (b = true → walkI E2 1 [0] 0 es ∧ es.head? = some (xn : Int) ∧ (es.length : Int) ≤ M ∧ (∀ e ∈ natsOf es, 0 < rest.getD e 0) ∧ r4 = decAll rest (natsOf es)) ∧
            wx.heap[X]? = some (.cells #[.slice A0 es.length c0, .int .i64 1] 44) ∧ StF w8 wx (.slice (some ⟨b13, f13, none⟩) E2.length c13) wi.heap.size (.slice A0 es.length c0) es r4 (.slice A14 all.length c14) all (.slice A16 l.length c16) l)
          case first =>
            go_region_held3 (fun W => W.cell? ⟨w2.heap.size, 0, none⟩ = some (.int .i64 M) ∧ W.cell? ⟨w2.heap.size, 1, none⟩ = some (.slice A2 E2.length c2) ∧ W.cell? ⟨bo, fo + k, none⟩ = some (.int .i64 xn)) (first | exact ⟨n0, n1, cgo⟩ | exact ⟨m0, m1, m2⟩ | exact ⟨(cell_two (p := ⟨w2.heap.size, 0, none⟩) (by show w2.heap.size ≠ wi.heap.size; omega) _ _).trans m0, (cell_two (p := ⟨w2.heap.size, 1, none⟩) (by show w2.heap.size ≠ wi.heap.size; omega) _ _).trans m1, (cell_two (p := ⟨bo, fo + k, none⟩) (by show bo ≠ wi.heap.size; omega) _ _).trans m2⟩ | go_keep)
              (first | (go_at_call 20; go_loud (refine (HTK.out _ (by repeat (first | exact Below.refl _ _ | apply below_alloc | apply below_drew1))).mono ?_; rintro e w10 ⟨A0, c0, es, b, r4, rfl, hb1, hst, hkp⟩; have HB1 := Lib.hid hb1; have HST := Lib.hid hst; obtain ⟨m0, m1, mlt, _, _, _, _⟩ := HMD8.out.fix (Only.of_below (S := fun _ => False) hst.e); have m2 := HCG.out _ (Only.of_below (S := fun _ => False) hst.e); try (have hob : w10.heap[wi.heap.size]? = some (.cells #[.slice none 0 0, .int .i64 0] 44) := (hkp wi.heap.size (by simp) (fun e => by have := HOWN13.out _ e; omega)).trans (by first | exact heap_alloc_new wi _ | exact heap_alloc_new wi.drew _); have z0 := obj_cell hob 0; have z1 := obj_cell hob 1; have zf0 := obj_fr hob 0; have zf1 := obj_fr hob 1; simp only [List.getElem?_toArray, List.getElem?_cons_zero, List.getElem?_cons_succ] at z0 z1; have HOB := Lib.hid hob; clear hob); clear hb1 hst hkp)))
            all_goals (go_wp2_with fail; go_meet)
            all_goals first
              | (refine ⟨w10.heap.size, A0, c0, es, b, r4, (by with_reducible rfl), (by with_reducible rfl), HB1.out, ?_, HST.out.alloc _⟩
                 exact heap_alloc_new _ _)
              | (have h0 := rblk_setCell (i := 0) HOB.out (.slice A0 es.length c0)
                 have h1 := rblk_setCell (i := 1) h0 (.int .i64 1)
                 refine ⟨wi.heap.size, A0, c0, es, b, r4, (by with_reducible rfl), (by with_reducible rfl), HB1.out, ?_, (HST.out.set HOB.out (Nat.le_refl _) HBI.out.size 0 _).set h0 (Nat.le_refl _) HBI.out.size 1 _⟩
                 simpa using h1)
          case rest =>
            rename World => w11
            obtain ⟨X, A0, c0, es, b, r4, rfl, rfl, hb1, hob, hst⟩ := hcut
            cases b
            · go_wp2
              go_ret
              exact ⟨rfl, (HK4.out.trans HK8.out).trans (Only.of_below hst.e)⟩
            · obtain ⟨q1, q2, q3, q4, rfl⟩ := hb1 rfl
              have x0 := obj_cell hob 0
              have x1 := obj_cell hob 1
              simp only [List.getElem?_toArray, List.getElem?_cons_zero, List.getElem?_cons_succ] at x0 x1
              have HST := Lib.hid hst
              have HQ := Lib.hid (And.intro q1 (And.intro q2 (And.intro q3 q4)))
              clear hst q1 q2 q3 q4 hob hb1
              go_wp2_with (first | ((with_reducible refine gate_builtin (b := .append) (xs := #[.tmp 95, .tmp 97]) rfl ?_); (try (refine gate_guard (by rfl) ?_; dsimp only)); at_builtin; go_loud (refine Kd.R_append k44 (w0 := w8) w8.heap.size rfl (.tmp 95) (.tmp 97) 42 44 (.agg #[(.slice none 0 0), (.int .i64 0)]) 32 rfl Try.underlying42 info44 rfl (by decide) (by omega) (.slice A16 l.length c16) l (⟨es, 1⟩ : S44) [.slice A0 es.length c0, .int .i64 1] (fun b => some b ≠ (Value.slice (some ⟨b13, f13, none⟩) E2.length c13).ownBlock) (fun b => some b ≠ (Value.slice (some ⟨b13, f13, none⟩) E2.length c13).ownBlock ∧ some b ≠ (Value.slice A16 l.length c16).ownBlock) (by rfl) (by rfl) (k44_mkM _ _ _ (⟨es, 1⟩ : S44) (Kd.R_apart' HST.out.a (Kd.R_typed HST.out.d) (by decide))) (fun _ h => h) (fun b hb e => by have := own_lt (Kd.own_of_R HST.out.b) b e.symm; omega) (Kd.R_mono HST.out.d (fun _ h => h.1)) HST.out.e HST.out.e.size (by have := HLN.out; omega) ?_; intro v16 w12 ho hb hg hat; have H16 := Lib.hid ho; have HB12 := Lib.hid hb; have H14 := Lib.hid (Kd.R_after (ok := fun b => some b ≠ (Value.slice (some ⟨b13, f13, none⟩) E2.length c13).ownBlock) (Kd.R_mono HST.out.c (fun _ h => h.1)) hg hat); have H13 := Lib.hid (Kd.R_over' HST.out.b (Kd.R_typed HST.out.d) (by decide) hg); clear ho hb hg hat)))
              go_roundw
              case rel =>
                obtain ⟨q1, q2, q3, q4⟩ := HQ.out
                refine ⟨n + 1, decAll rest (natsOf es), l ++ [⟨es, 1⟩], by go_num, by omega, by rw [List.length_append, HLN.out]; rfl, ?_, ?_, H13.out, H14.out, H16.out, HB12.out⟩
                · have := dec_source HRL.out q1 q2
                  rw [Int.toNat_natCast] at this
                  rw [this, HRX.out]
                  omega
                · rw [List.map_append]
                  exact HAP.out.step HLF.out HCAP.out ⟨q3, ⟨by show (0 : Int) ≤ 1; decide, by show (1 : Int) ≤ 1000; decide⟩, by rw [HXN.out]; exact q2, q1⟩ q4
              case measure => simp [intOf]; omega
        · have hrz : rest.getD xn 0 = 0 := by rw [HRX.out]; omega
          have hnx := HAP.out.next HFO.out HFL.out.symm hlt (by rw [HXN.out, Int.toNat_natCast]; exact hrz)
          rw [← plainsOf_snoc] at hnx
          have HNX := Lib.hid hnx
          clear hnx hrz
          go_wp2_with (first | ((with_reducible refine gate_builtin (b := .append) (xs := #[.tmp 99, .tmp 101]) rfl ?_); (try (refine gate_guard (by rfl) ?_; dsimp only)); at_builtin; go_loud (refine Kd.R_append (Kd.slice 44 k44) (w0 := w8) w8.heap.size rfl (.tmp 99) (.tmp 101) 26 42 (.slice none 0 0) 24 rfl Try.underlying26 info42 rfl (by decide) (by omega) (.slice A14 all.length c14) all l [.slice A16 l.length c16] (fun b => some b ≠ (Value.slice (some ⟨b13, f13, none⟩) E2.length c13).ownBlock) (fun b => some b ≠ (Value.slice (some ⟨b13, f13, none⟩) E2.length c13).ownBlock ∧ some b ≠ (Value.slice A14 all.length c14).ownBlock) (by rfl) (by rfl) (Kd.M_row (Kd.R_apart' HR16.out (Kd.R_typed HR14.out) (by decide))) (fun _ h => h) (fun b hb e => by have := own_lt (Kd.own_of_R HR13.out) b e.symm; omega) (Kd.R_mono HR14.out (fun _ h => h.1)) HBI.out HBI.out.size (by have := HMANY.out; omega) ?_; intro v14 w12 ho hb hg hat; have H14 := Lib.hid ho; have HB12 := Lib.hid hb; have H13 := Lib.hid (Kd.R_over' HR13.out (Kd.R_typed HR14.out) (by decide) hg); clear ho hb hg hat)))
          go_roundw
          case rel => exact ⟨k + 1, rest, all ++ [l], by omega, by go_num, HNX.out, H13.out, H14.out, HB12.out⟩
          case measure => simp [intOf]; omega
    · obtain rfl : k = o.length := by omega
      clear hlt
      have hrl : rest.length = E2.length := HAP.out.len
      have hzl := fun hz => HAP.out.last HFO.out HFL.out.symm hz
      have HZL := Lib.hid hzl
      obtain ⟨A', c', e13, _, hC13⟩ := Kd.R_reads HR13.out
      injection e13 with e1 e2 e3
      subst e1
      clear e2 e3
      obtain ⟨A', c', e14, _, hC14⟩ := Kd.R_reads HR14.out
      injection e14 with e1 e2 e3
      subst e1
      clear e2 e3
      obtain ⟨ls2, hl2, hp14, hww⟩ := readsWW_of_C hC14
      have HRD := Lib.hid (readsI_of_C hC13)
      have HWW := Lib.hid hww
      have HRL := Lib.hid hrl
      have HL2 := Lib.hid hl2
      have HP14 := Lib.hid hp14
      have HBK := Lib.hid (Only.of_below (S := fun _ => False) HBO.out)
      clear hzl hC13 hC14 hww hp14 HAP
      go_wp2
      go_loopw [20] (fun i wr => ∃ j : Nat, j ≤ E2.length ∧ i = .int .i64 j ∧ (∀ q, q < j → rest.getD q 0 = 0) ∧ wr = wo) (fun i _ => E2.length - (intOf i).toNat)
      case atStart => exact ⟨0, Nat.zero_le _, rfl, fun q hq => absurd hq (Nat.not_lt_zero q), rfl⟩
      case round =>
        obtain ⟨j, hj, rfl, hz, rfl⟩ := hrel
        have HZ := Lib.hid hz
        clear hz
        by_cases hjl : j < E2.length
        · obtain ⟨b13, f13, rfl, lb13, c13x⟩ := HRD.out.cell j (by omega)
          obtain ⟨y, hy⟩ : ∃ y, rest.getD j 0 = y := ⟨_, rfl⟩
          rw [hy] at c13x
          have HY := Lib.hid hy
          clear hy
          by_cases hy0 : y = 0
          · subst hy0
            go_wp2
            go_roundw
            case rel => exact ⟨j + 1, by omega, by go_num, fun q hq => by
              rcases Nat.lt_or_ge q j with h | h
              · exact HZ.out q h
              · obtain rfl : q = j := by omega
                exact HY.out, by first | rfl | trivial⟩
            case measure => simp [intOf]; omega
          · go_wp2
            go_ret
            exact ⟨rfl, (HK4.out.trans HK8.out).trans HBK.out⟩
        · obtain rfl : j = E2.length := by omega
          obtain ⟨hF2, hfl2⟩ := HZL.out HZ.out
          rw [← HP14.out] at hF2 hfl2
          have hfill := fill_yes A2 Ao A14 c2 co c14 ls2 wr (HMD8.out.edges.fix HBK.out) (HMD8.out.order.fix HBK.out) HWW.out HNil.out hF2
          rw [hfl2, HL2.out] at hfill
          have HFILL := Lib.hid hfill
          obtain ⟨n0, n1, nlt, _, _, _, _⟩ := HMD8.out.fix HBK.out
          clear hfill hF2 hfl2 hjl
          go_upto_region 27 with (go_at_call 11; go_loud (refine HFILL.out.mono ?_; rintro e w20 ⟨hk20, A9, c9, A10, c10, rfl, hr9, hr10, _⟩; have hi1 := ints_quiet A9 A7 c9 c7 FL; have hi2 := ints_quiet A10 A8 c10 c8 (gotR o FL); rw [HLF.out] at hi1; rw [hp2] at hi2; have hk8 := HBK.out.trans hk20; have HI1 := Lib.hid (hi1 w20 hr9 (HR7'.out.fix hk8)); have HI2 := Lib.hid (fun n => hi2 (w20.drewN n) (hr10.fix ((Only.refl _ _).drewN n)) ((HR8'.out.fix hk8).fix ((Only.refl _ _).drewN n))); have HK20 := Lib.hid ((HK4.out.trans HK8.out).trans hk8); clear hi1 hi2 hk20 hr9 hr10 hk8))
          go_wp2_with (first | (go_at_call_of 13 A9; refine HI1.out.mono ?_; rintro e w21 ⟨rfl, m, rfl⟩) | (go_at_call_of 13 A10; refine (HI2.out m).mono ?_; rintro e w22 ⟨rfl, m2, rfl⟩))
          go_ret
          exact ⟨rfl, by first | exact (HK20.out.drewN _).drewN _ | exact HK20.out.drewN _⟩
end Go.Proofs.Ytlpccebackmahaa
namespace Go.Proofs.Ytlpccebackmahaa
open Go.ChangeShapes Go.WideShapes Go.ChangeAt Go.RowKit Go.WideMaps Go.WideElems Go.Deep

set_option maxRecDepth 100000 in
theorem lexStays_walk {H : Type} {enc : TypeId × Value → H} {W : World} {base base' : Nat} {sp : Nat → Bool} {held : Bool} {d0 d1 d2 : DataW H} {p0 p1 p2 : List MemPlace}
    (v0 : Value) (hv0 : Value.okWide Try.prog W .any base 24 v0) (h0 : DataW.Trod enc Try.prog W base' sp held 24 v0 d0 p0)
    (v1 : Value) (hv1 : Value.okWide Try.prog W .any base 25 v1) (h1 : DataW.Trod enc Try.prog W base' sp held 25 v1 d1 p1)
    (v2 : Value) (hv2 : Value.okWide Try.prog W .any base 33 v2) (h2 : DataW.Trod enc Try.prog W base' sp held 33 v2 d2 p2) :
    Calls Try.prog 6 #[v0, v1, v2] W fun e w' => e = .returned (.bool true) ∧ Below W.heap.size W w' := by
  obtain ⟨N, A, c, E, rfl, hE, hc, hA, hN, hEb⟩ := open_netV hv0 h0
  obtain ⟨B, d, raw, rfl, hO, hd, hrb⟩ := open_intsV hv1 h1
  obtain ⟨D, cr, rw3, rfl, hR3, hcr, hrb3⟩ := open_rawV hv2 h2
  exact (lexStays_any N A B D c d cr E raw rw3 W hE hO hR3 hcr hN hEb hrb hrb3).mono fun e w' ⟨h1, h2⟩ => ⟨h1, h2.below (Nat.le_refl _) (fun _ _ x => x)⟩
end Go.Proofs.Ytlpccebackmahaa

/- Layer 11: opens (of WalLasts) walked. -/
import Derived.Test.YtlmnmjnmilaipaaGreatDoorWalAg
set_option linter.unusedVariables false
set_option linter.unusedSimpArgs false
namespace Go.Proofs.YtlmnmjnmilaipaaGreatDoor
open Go Go.RowKit Go.Sort PR Go.Proofs.YtlmnmjnmilaipaaGreatDoorW.PrintWords

def Dk.with (D : Dk) (n : Nat) : Dk := ⟨D.files, D.acts, n, D.off⟩
theorem arm_zero (D : Dk) : D.arm 0 = (0, D.with 0) := by
  unfold Dk.arm Dk.with
  simp
theorem arm_pos (D : Dk) (n : Int) (h1 : 1 ≤ n) (h2 : n ≤ 1000) : D.arm n = (0, D.with (D.acts + n.toNat)) := by
  unfold Dk.arm Dk.with
  rw [if_neg (by omega), if_pos (by omega)]
theorem Lies.with {D : Dk} (h : Lies D) {n : Nat} (hn : n < 4611686018427387904) : Lies (D.with n) := ⟨.mk' h.ok.files h.ok.acts hn, h.k3⟩
theorem Calm.with {D : Dk} {st : St} {m : Nat} (h : Calm D st m) {n : Nat} (hn : n < 4611686018427387904) : Calm (D.with n) st m := ⟨h.lies.with hn, h.off, h.new, h.holds⟩
/-- A round of opens. -/
theorem opens_round {D : Dk} {st st' : St} {m : Nat} (hL : Lies D) (hW : Wreck D.files st st' m) (hm : m ≤ 65536) (ha : D.acts ≤ 100000) (keep : List Int) (p : Int) (p0 : 0 ≤ p) (p1 : p < 5) :
    ∃ D3, (D.restart keep).arm (1 + p) = (0, D3) ∧ (D.restart keep).Ok ∧ D3.Ok ∧ D3.acts ≤ 100000 ∧
    ((∃ s D4, (s = st ∨ s = st') ∧ openP D3 = ⟨some (s.seq : Int), s.text, s.l, 0, D4⟩ ∧ Calm (D4.with 0) s m ∧ D4.Ok ∧ D4.acts ≤ D.acts + 4) ∨
     (∃ D4, (openP D3).err = 100 ∧ (openP D3).disk = D4 ∧ D4.Ok ∧ Lies (D4.with 0) ∧ Wreck D4.files st st' m ∧ D4.acts ≤ D.acts + 4)) := by
  obtain ⟨g1, g2, g3, g4, g5, g6⟩ := restart_out hL keep hW
  have hD3 : Lies ((D.restart keep).with ((D.restart keep).acts + (1 + p).toNat)) := g1.with (by omega)
  refine ⟨_, arm_pos _ _ (by omega) (by omega), g1.ok, hD3.ok, by show (D.restart keep).acts ≤ _; omega, ?_⟩
  rcases open_out hD3 g2 g5 hm g6 (by show (D.restart keep).acts + 4 < _; omega) with ⟨s, D4, h1, h2, h3, h4⟩ | ⟨h1, h2, h3, h4, h5⟩
  · have hle := h4.le
    exact .inl ⟨s, D4, h1, h2, h3.with (by omega), h3.lies.ok, by rw [← g4]; exact hle⟩
  · have hle := h4.le
    exact .inr ⟨_, h1, rfl, h4.lies.ok, h4.lies.with (by omega), h5, by rw [← g4]; exact hle⟩
/-- The last Open of opens. -/
theorem opens_last {D : Dk} {st st' : St} {m : Nat} (hL : Lies D) (hW : Wreck D.files st st' m) (hm : m ≤ 65536) (ha : D.acts ≤ 100000) (keep : List Int) :
    (D.restart keep).Ok ∧ (D.restart keep).acts ≤ 100000 ∧ ∃ s D4, (s = st ∨ s = st') ∧ openP (D.restart keep) = ⟨some (s.seq : Int), s.text, s.l, 0, D4⟩ ∧ Calm D4 s m ∧ D4.armed = 0 ∧ D4.acts ≤ D.acts + 4 := by
  obtain ⟨g1, g2, g3, g4, g5, g6⟩ := restart_out hL keep hW
  refine ⟨g1.ok, by omega, ?_⟩
  rcases open_out g1 g2 g5 hm g6 (by omega) with ⟨s, D4, h1, h2, h3, h4⟩ | ⟨h1, h2, h3, h4, h5⟩
  · have hle := h4.le
    exact ⟨s, D4, h1, h2, h3, h4.armed.trans g3, by rw [← g4]; exact hle⟩
  · exact absurd g3 h2
theorem arm_dsk {w0 w : World} {b mb : Nat} {n r : Int} {D D' : Dk} (e : D.arm n = (r, D')) (h : Dsk w0 w b mb D) (hD : D.Ok) (h0 : -9223372036854775808 ≤ n) (h1 : n ≤ 9223372036854775807) :
    Calls Tryz.prog 28 #[.pointer (some ⟨b, 0, none⟩), .int .i64 n] w fun e w' => e = .returned (.int .i64 r) ∧ Dsk w0 w' b mb D' ∧ Only (Own b mb) w w' := by
  refine (arm_any b mb D n w h.dk hD h0 h1).mono ?_
  rw [e]
  rintro ev w' ⟨rfl, hd, ho⟩
  exact ⟨rfl, h.upd ho hd, ho⟩
theorem restart_dsk {wz w0 w : World} {b mb : Nat} {A : Option Addr} {c : Nat} {keep : List Int} {D : Dk} (h : Dsk w0 w b mb D) (hD : D.Ok) (hk : ReadsI wz A keep) (hz : wz.heap.size ≤ w0.heap.size) (hb : Below wz.heap.size wz w) :
    Calls Tryz.prog 33 #[.pointer (some ⟨b, 0, none⟩), .slice A keep.length c] w fun e w' => e = .returned (.tuple #[]) ∧ Dsk w0 w' b mb (D.restart keep) ∧ Only (Own b mb) w w' := by
  have hk2 : ReadsI w A keep := hk.keepW (Only.of_below (S := fun _ => False) hb) (fun _ _ h => h)
  refine (restart_any b mb D A c keep w h.dk hD ?_ hk2).mono ?_
  · intro ad e hl
    obtain ⟨bk, off, e2, hlt, _⟩ := hk.at 0 hl
    rw [e] at e2
    injection e2 with e2
    subst e2
    have := h.lb
    show bk ≠ b
    omega
  · rintro ev w' ⟨rfl, hd, ho⟩
    exact ⟨rfl, h.upd ho hd, ho⟩
theorem Dsk.sit {w0 w w' : World} {bw b mb : Nat} {D D' : Dk} {W : Wl} (h : Sit w0 w bw b mb D W) (h' : Dsk w0 w' b mb D') (ho : Only (Own b mb) w w') : Sit w0 w' bw b mb D' W := h.upd ho h'.dk
def OpensPost (b mb : Nat) (st st' : St) (m N : Nat) (w0 w : World) (e : Ending) (w' : World) : Prop :=
  ∃ s D1 bw A c, (s = st ∨ s = st') ∧ e = .returned (.tuple #[.pointer (some ⟨bw, 0, none⟩), .string (ba s.text), .slice A s.l.length c, .int .i64 0]) ∧ Sit w0 w' bw b mb D1 ⟨(s.seq : Nat), 0⟩ ∧ Calm D1 s m ∧ D1.armed = 0 ∧ D1.acts ≤ N ∧ w.heap.size ≤ bw ∧ Texts w' w.heap.size (.slice A s.l.length c) s.l ∧ Only (Own b mb) w w'
theorem below_own {w0 w w' : World} {b mb : Nat} {D : Dk} {wz : World} (h : Dsk w0 w b mb D) (hz : wz.heap.size ≤ w0.heap.size) (hb : Below wz.heap.size wz w) (ho : Only (Own b mb) w w') : Below wz.heap.size wz w' :=
  hb.trans (ho.below hb.size (fun k hk h2 => h2.elim (fun e => by have := h.lb; omega) (fun e => by have := h.lm; omega)))
set_option maxHeartbeats 40000000 in
set_option maxRecDepth 100000 in
theorem opens_any (b mb : Nat) (D : Dk) (st st' : St) (m : Nat) (kA cA : Option Addr) (kc cc : Nat) (keep cuts : List Int) (wz w0 w : World) (h : Dsk w0 w b mb D) (hL : Lies D) (hW : Wreck D.files st st' m) (hm : m ≤ 65536) (ha : D.acts ≤ 10000)
    (hk : ReadsI wz kA keep) (hc : ReadsI wz cA cuts) (hz : wz.heap.size ≤ w0.heap.size) (hb : Below wz.heap.size wz w) :
    Calls Tryz.prog 30 #[.pointer (some ⟨b, 0, none⟩), .slice kA keep.length kc, .slice cA cuts.length cc] w (OpensPost b mb st st' m (D.acts + 20) w0 w) := by
  have HK := Lib.hid hk
  have HC := Lib.hid hc
  have hcl := hc.len
  unfold maxLen at hcl
  have H0 := Lib.hid h
  have HL := Lib.hid hL
  have HWR := Lib.hid hW
  have HB := Lib.hid hb
  have RST := Lib.hid (fun W D' (h : Dsk w0 W b mb D') (hD : D'.Ok) (hb : Below wz.heap.size wz W) => restart_dsk (A := kA) (c := kc) h hD HK.out hz hb)
  clear hk hc h hL hW hb
  go_enter Tryz.func30, Tryz.ntmps30
  go_wp2
  go_loopw [10] (fun i wr => ∃ (k : Nat) (D' : Dk), i = .int .i64 k ∧ k ≤ cuts.length ∧ k ≤ 4 ∧ Dsk w0 wr b mb D' ∧ Lies D' ∧ Wreck D'.files st st' m ∧ D'.acts ≤ D.acts + 4 * k ∧ Only (Own b mb) w wr) (fun i _ => 4 - (intOf i).toNat)
  case atStart => exact ⟨0, D, rfl, Nat.zero_le _, Nat.zero_le _, H0.out, HL.out, HWR.out, Nat.le_refl _, Only.refl _ _⟩
  case round =>
    obtain ⟨k, D', rfl, hk1, hk2, hd, hl, hw, hac, ho⟩ := hrel
    have HD := Lib.hid hd
    have HO := Lib.hid ho
    have HBR := Lib.hid (below_own H0.out hz HB.out ho)
    have R1 := Lib.hid (RST.out wr D' hd hl.ok HBR.out)
    by_cases hlt : k < cuts.length ∧ k < 4
    · obtain ⟨hlt1, hlt2⟩ := hlt
      obtain ⟨bk, off, rfl, hbk, hcell⟩ := HC.out.at k hlt1
      have hcz := HC.out.wf (cuts.getD k 0) (by rw [List.getD_eq_getElem?_getD, List.getElem?_eq_getElem hlt1]; exact List.getElem_mem hlt1)
      have HCELL := Lib.hid (show ∀ W, Below wz.heap.size wz W → W.cell? ⟨bk, off + k, none⟩ = some (.int .i64 (cuts.getD k 0)) from fun W hb => (hb.cell (p := ⟨bk, off + k, none⟩) hbk).trans hcell)
      have PK := Lib.hid (fun W => pick_any (cuts.getD k 0) 5 hcz.1 hcz.2 (by decide) W)
      obtain ⟨p0, p1⟩ := pickN_range (cuts.getD k 0) 5 (by decide)
      clear hcell
      generalize pickN (cuts.getD k 0) 5 = p at *
      generalize cuts.getD k 0 = cz at *
      obtain ⟨D3, e1, o1, o3, n3, hres⟩ := opens_round hl hw hm (by omega) keep p p0 p1
      have hrn : (D'.restart keep).acts = D'.acts := rfl
      have AR := Lib.hid (fun W (h : Dsk w0 W b mb (D'.restart keep)) => arm_dsk e1 h o1 (by omega) (by omega))
      rcases hres with ⟨s, D4, hs, e2, c4, o4, n4⟩ | ⟨D4, e2, e3, o4, l4, w4, n4⟩
      · have OP := Lib.hid (fun W (h : Dsk w0 W b mb D3) => open_by e2 h o3 (by omega))
        have AZ := Lib.hid (fun W (h : Dsk w0 W b mb D4) => arm_dsk (arm_zero D4) h o4 (by decide) (by decide))
        have HF := Lib.hid (And.intro hs (And.intro c4 n4))
        have hzz := HB.out.size
        clear hd ho hl hw e1 o1 o3 n3 hrn e2 c4 o4 n4 hs
        go_wp2_with (first
          | (go_at_call 33; refine R1.out.mono ?_; rintro ev w1 ⟨rfl, hd, ho⟩; have T1 := Lib.hid hd; have O1 := Lib.hid (HO.out.trans ho); have hcm := HCELL.out w1 (below_own H0.out hz HB.out O1.out); clear hd ho)
          | (go_at_call 12; refine (PK.out _).mono ?_; rintro ev w2 ⟨rfl, hb⟩; have T2 := Lib.hid (T1.out.below hb); have O2 := Lib.hid (O1.out.then_below hb); clear hb)
          | (go_at_call 28; have zz := X4; clear zz; (with_reducible refine (AZ.out _ T4.out.toDsk).mono ?_); rintro ev w5 ⟨rfl, hd, ho⟩; have T5 := Lib.hid (Dsk.sit T4.out hd ho); have O5 := Lib.hid (O4.out.trans ho); have X5 := Lib.hid (X4.out.own L3.out.1 L3.out.2 ho); clear hd ho)
          | (go_at_call 28; (with_reducible refine (AR.out _ T2.out).mono ?_); rintro ev w3 ⟨rfl, hd, ho⟩; have T3 := Lib.hid hd; have O3 := Lib.hid (O2.out.trans ho); have L3 := Lib.hid (And.intro hd.dk.lt hd.dk.map.lt); clear hd ho)
          | (go_at_call 11; (with_reducible refine (OP.out _ T3.out).mono ?_); rintro ev w4 ⟨bw, A4, c4, rfl, hs, hbw, hx, ho⟩; have T4 := Lib.hid hs; have X4 := Lib.hid hx; have O4 := Lib.hid (O3.out.trans ho); have B4 := Lib.hid hbw; clear hs hx ho hbw))
        exact bodyPost_ret (v := .tuple #[.pointer (some ⟨bw, 0, none⟩), .string (ba s.text), .slice A4 s.l.length c4, .int .i64 0]) (by simp [results, Tryz.results30, go_sem]) rfl
          ⟨s, D4.with 0, bw, A4, c4, HF.out.1, rfl, T5.out, HF.out.2.1, rfl, by show D4.acts ≤ _; have := HF.out.2.2; omega, Nat.le_trans O3.out.size B4.out, Kd.R_lower X5.out O3.out.size, O5.out⟩
      · have OP := Lib.hid (fun W (h : Dsk w0 W b mb D3) => open_err e2 e3 n100 h o3 (by omega))
        have AZ := Lib.hid (fun W (h : Dsk w0 W b mb D4) => arm_dsk (arm_zero D4) h o4 (by decide) (by decide))
        have HF := Lib.hid (And.intro l4 (And.intro w4 n4))
        clear hd ho hl hw e1 o1 o3 n3 hrn e2 e3 o4 l4 w4 n4
        go_wp2_with (first
          | (go_at_call 33; refine R1.out.mono ?_; rintro ev w1 ⟨rfl, hd, ho⟩; have T1 := Lib.hid hd; have O1 := Lib.hid (HO.out.trans ho); have hcm := HCELL.out w1 (below_own H0.out hz HB.out O1.out); clear hd ho)
          | (go_at_call 12; refine (PK.out _).mono ?_; rintro ev w2 ⟨rfl, hb⟩; have T2 := Lib.hid (T1.out.below hb); have O2 := Lib.hid (O1.out.then_below hb); clear hb)
          | (go_at_call 28; have zz := T4; clear zz; (with_reducible refine (AZ.out _ T4.out).mono ?_); rintro ev w5 ⟨rfl, hd, ho⟩; have T5 := Lib.hid hd; have O5 := Lib.hid (O4.out.trans ho); clear hd ho)
          | (go_at_call 28; (with_reducible refine (AR.out _ T2.out).mono ?_); rintro ev w3 ⟨rfl, hd, ho⟩; have T3 := Lib.hid hd; have O3 := Lib.hid (O2.out.trans ho); clear hd ho)
          | (go_at_call 11; (with_reducible refine (OP.out _ T3.out).mono ?_); rintro ev w4 ⟨rfl, hs, ho⟩; have T4 := Lib.hid hs; have O4 := Lib.hid (O3.out.trans ho); clear hs ho))
        go_roundw
        case rel => exact ⟨k + 1, D4.with 0, by go_num, by omega, by omega, T5.out, HF.out.1, HF.out.2.1, by show D4.acts ≤ _; have := HF.out.2.2; omega, O5.out⟩
        case measure => simp [intOf]; omega
    · by_cases hl1 : k < cuts.length
      · have hk4 : 4 ≤ k := by omega
        clear hlt
        obtain ⟨o1, n1, s, D4, hs, e2, c4, r4, n4⟩ := opens_last hl hw hm (by omega) keep
        have OP := Lib.hid (fun W (h : Dsk w0 W b mb (D'.restart keep)) => open_by e2 h o1 (by omega))
        have HF := Lib.hid (And.intro hs (And.intro c4 (And.intro r4 n4)))
        clear hd ho hl hw o1 n1 e2 c4 r4 n4 hs
        go_wp2_with (first
          | (go_at_call 33; refine R1.out.mono ?_; rintro ev w1 ⟨rfl, hd, ho⟩; have T1 := Lib.hid hd; have O1 := Lib.hid (HO.out.trans ho); clear hd ho)
          | (go_at_call 11; (with_reducible refine (OP.out _ T1.out).mono ?_); rintro ev w4 ⟨bw, A4, c4, rfl, hs, hbw, hx, ho⟩; have T4 := Lib.hid hs; have X4 := Lib.hid hx; have O4 := Lib.hid (O1.out.trans ho); have B4 := Lib.hid hbw; clear hs hx ho hbw))
        exact bodyPost_ret (v := .tuple #[.pointer (some ⟨bw, 0, none⟩), .string (ba s.text), .slice A4 s.l.length c4, .int .i64 0]) (by simp [results, Tryz.results30, go_sem]) rfl
          ⟨s, D4, bw, A4, c4, HF.out.1, rfl, T4.out, HF.out.2.1, HF.out.2.2.1, by have := HF.out.2.2.2; omega, Nat.le_trans O1.out.size B4.out, Kd.R_lower X4.out O1.out.size, O4.out⟩
      · have hk4 : cuts.length ≤ k := by omega
        clear hlt hl1
        obtain ⟨o1, n1, s, D4, hs, e2, c4, r4, n4⟩ := opens_last hl hw hm (by omega) keep
        have OP := Lib.hid (fun W (h : Dsk w0 W b mb (D'.restart keep)) => open_by e2 h o1 (by omega))
        have HF := Lib.hid (And.intro hs (And.intro c4 (And.intro r4 n4)))
        clear hd ho hl hw o1 n1 e2 c4 r4 n4 hs
        go_wp2_with (first
          | (go_at_call 33; refine R1.out.mono ?_; rintro ev w1 ⟨rfl, hd, ho⟩; have T1 := Lib.hid hd; have O1 := Lib.hid (HO.out.trans ho); clear hd ho)
          | (go_at_call 11; (with_reducible refine (OP.out _ T1.out).mono ?_); rintro ev w4 ⟨bw, A4, c4, rfl, hs, hbw, hx, ho⟩; have T4 := Lib.hid hs; have X4 := Lib.hid hx; have O4 := Lib.hid (O1.out.trans ho); have B4 := Lib.hid hbw; clear hs hx ho hbw))
        exact bodyPost_ret (v := .tuple #[.pointer (some ⟨bw, 0, none⟩), .string (ba s.text), .slice A4 s.l.length c4, .int .i64 0]) (by simp [results, Tryz.results30, go_sem]) rfl
          ⟨s, D4, bw, A4, c4, HF.out.1, rfl, T4.out, HF.out.2.1, HF.out.2.2.1, by have := HF.out.2.2.2; omega, Nat.le_trans O1.out.size B4.out, Kd.R_lower X4.out O1.out.size, O4.out⟩
end Go.Proofs.YtlmnmjnmilaipaaGreatDoor

/- Layer 11: WalAgain walked. -/
import Derived.Test.YtlmnmjnmilaipaaGreatDoorWalCt
import Derived.Test.YtlmnmjnmilaipaaGreatDoorOpen11
import Derived.Deep.QuietTactic
import Derived.BigQuiet
set_option linter.unusedVariables false
set_option linter.unusedSimpArgs false
namespace Go.Proofs.YtlmnmjnmilaipaaGreatDoor
open Go Go.RowKit Go.Sort PR Go.Proofs.YtlmnmjnmilaipaaGreatDoorW.PrintWords

/-- The cells of an act, in a later world. -/
theorem act_at {w : World} {A : Option Addr} {xs : List ActV} (h : ReadsA w A xs) {i : Nat} (hi : i < xs.length) : ∃ bk off, A = some ⟨bk, off, none⟩ ∧ bk < w.heap.size ∧ ∀ W, Below w.heap.size w W → W.cell? ⟨bk, off + i * 4, none⟩ = some (.int .i64 xs[i].what) ∧ W.cell? ⟨bk, off + i * 4 + 1, none⟩ = some (.int .i64 xs[i].n) ∧ W.cell? ⟨bk, off + i * 4 + 2, none⟩ = some (.string xs[i].text) ∧ W.cell? ⟨bk, off + i * 4 + 3, none⟩ = some (.slice xs[i].kA xs[i].keep.length xs[i].kc) := by
  obtain ⟨bk, off, e, hc⟩ := h.cell i hi
  have h0 := hc 0 _ rfl
  have hlt := World.block_lt_of_cell? w _ h0
  exact ⟨bk, off, e, hlt, fun W hb => ⟨(hb.cell (p := ⟨bk, off + i * 4, none⟩) hlt).trans h0, (hb.cell (p := ⟨bk, off + i * 4 + 1, none⟩) hlt).trans (hc 1 _ rfl), (hb.cell (p := ⟨bk, off + i * 4 + 2, none⟩) hlt).trans (hc 2 _ rfl), (hb.cell (p := ⟨bk, off + i * 4 + 3, none⟩) hlt).trans (hc 3 _ rfl)⟩⟩
/-- What a script of at most 30 acts has left. -/
structure AgD (k : Nat) (D : Dk) (st : St) : Prop where
  calm : Calm D st (312 * k)
  armed : D.armed = 0
  acts : D.acts ≤ 4 * k
  seq : st.seq ≤ k
theorem ag_append {k : Nat} {D : Dk} {st : St} (h : AgD k D st) (hk : k ≤ 30) (t : Bs) (ht : t.length ≤ 300) : ∃ D1, appendP ⟨st.seq, 0⟩ D t = (0, ⟨((st.seq + 1 : Nat) : Int), 0⟩, D1) ∧ AgD (k + 1) D1 (st.add t) := by
  have := h.acts
  have := h.seq
  obtain ⟨D1, e1, c1, r1, _, n1⟩ := append_ok h.calm h.armed t (by omega) (pay_small (by omega) (by omega)) (by omega) (by omega)
  exact ⟨D1, e1, ⟨⟨c1.lies, c1.off, c1.new, c1.holds.mono (by omega)⟩, r1, by omega, by show st.seq + 1 ≤ k + 1; omega⟩⟩
theorem ag_check {k : Nat} {D : Dk} {st : St} (h : AgD k D st) (hk : k ≤ 30) (t : Bs) (ht : t.length ≤ 300) : ∃ D1, checkP ⟨st.seq, 0⟩ D t = (0, ⟨st.seq, 0⟩, D1) ∧ AgD (k + 1) D1 (st.check t) := by
  have := h.acts
  have := h.seq
  obtain ⟨D1, e1, c1, r1, _, n1, _⟩ := check_ok h.calm h.armed t (pay_small (by omega) (by omega)) (by omega)
  exact ⟨D1, e1, ⟨⟨c1.lies, c1.off, c1.new, c1.holds.mono (Nat.zero_le _)⟩, r1, by omega, by show st.seq ≤ k + 1; omega⟩⟩
theorem ag_new : AgD 0 Dk.new ⟨[], [], 0⟩ := ⟨calm_new, rfl, Nat.le_refl _, Nat.le_refl _⟩
theorem acts_by {w0 w : World} {bw b mb : Nat} {D : Dk} {W : Wl} (h : Sit w0 w bw b mb D W) : Calls Tryz.prog 27 #[.pointer (some ⟨b, 0, none⟩)] w fun e w' => e = .returned (.int .i64 D.acts) ∧ w = w' := acts_any b D.acts w h.dk.c1
theorem seq_same {w0 w : World} {bw b mb : Nat} {D : Dk} {W : Wl} (h : Sit w0 w bw b mb D W) : Calls Tryz.prog 16 #[.pointer (some ⟨bw, 0, none⟩)] w fun e w' => e = .returned (.int .i64 W.seq) ∧ w = w' := by
  have c1 : w.cell? ⟨bw, 1, none⟩ = some (.int .i64 W.seq) := by simp [World.cell?, h.wl.blk]
  clear h
  go_enter Tryz.func16, Tryz.ntmps16
  go_wp2
  go_ret
  exact ⟨rfl, rfl⟩
theorem Texts.own {w w' : World} {base b mb : Nat} {v : Value} {l : List Bs} (h : Texts w base v l) (hb : b < base) (hm : mb < base) (ho : Only (Own b mb) w w') : Texts w' base v l :=
  Kd.R_mono (Kd.R_step (Kd.R_bound h) (fun k hk hlt => ho.block k hlt (fun h2 => h2.elim (fun e => by have := hk.2.1; omega) (fun e => by have := hk.2.1; omega)))) (fun _ _ => trivial)
theorem holds_len {fs : Fl} {st : St} {x : Bs} {m : Nat} (h : Holds fs st x m) : st.l.length ≤ st.seq := by
  obtain ⟨q, a, ts, hT, hl, hs, _⟩ := h
  have := hT.num
  rw [hl, List.length_drop]; omega
set_option maxHeartbeats 40000000 in
set_option maxRecDepth 100000 in
theorem walAgain_row (A : Option Addr) (c : Nat) (xs : List ActV) (w : World) (hx : ReadsA w A xs) (hT : ErrTab w) :
    Calls Tryz.prog 6 #[.slice A xs.length c] w fun e w' => e = .returned (.bool true) ∧ Below w.heap.size w w' := by
  have AW := Lib.hid (awake_any w hT)
  have NW := Lib.hid (fun W (hT : ErrTab W) => new_dsk W hT)
  have C1 := Lib.hid (fun w0 W b mb (h : Dsk w0 W b mb Dk.new) => open_by (open_calm calm_new) h Dk.new_ok (by decide))
  have HX := Lib.hid hx
  have hxl := hx.len
  unfold maxLen at hxl
  clear hx
  go_enter Tryz.func6, Tryz.ntmps6
  go_wp2_with (first
    | (go_at_call 9; refine AW.out.mono ?_; rintro ev wa ⟨rfl, hb⟩; have HA := Lib.hid hb; clear hb)
    | (go_at_call 10; refine (new_any _).mono ?_; rintro ev w1 ⟨rfl, rfl⟩; have T0 := Lib.hid (NW.out _ (hT.keep2 HA.out)))
    | (go_at_call 11; (with_reducible refine (C1.out _ _ _ _ T0.out).mono ?_); rintro ev w2 ⟨bw, A1, ca1, rfl, hs, _, _, _⟩; have T1 := Lib.hid hs; clear hs))
  have hb0 := HA.out.size
  go_loopw [9] (fun i wr => ∃ (k : Nat) (D : Dk) (st : St), i = .int .i64 k ∧ k ≤ xs.length ∧ k ≤ 30 ∧ AgD k D st ∧ Sit wa wr bw (wa.heap.size + 1) wa.heap.size D ⟨(st.seq : Nat), 0⟩) (fun i _ => 30 - (intOf i).toNat)
  case atStart => exact ⟨0, Dk.new, ⟨[], [], 0⟩, rfl, Nat.zero_le _, Nat.zero_le _, ag_new, T1.out⟩
  case round =>
    obtain ⟨k, D, st, rfl, hk1, hk2, hag, hsit⟩ := hrel
    have AG := Lib.hid hag
    have S0 := Lib.hid hsit
    have HB := Lib.hid (HA.out.trans (hsit.be.mono HA.out.size))
    clear hag hsit
    by_cases hlt : k < xs.length ∧ k < 30
    · obtain ⟨hlt1, hlt2⟩ := hlt
      obtain ⟨bk, off, rfl, hbk, hcell⟩ := act_at HX.out hlt1
      have HCELL := Lib.hid hcell
      have hok := HX.out.ok _ (List.getElem_mem hlt1)
      have htx := hok.text
      unfold maxLen at htx
      have PK := fun W => pick_any xs[k].what 9 hok.what.1 hok.what.2 (by decide) W
      clear hcell
      generalize xs[k] = x at *
      obtain ⟨what, n, text, keep, kA, kc⟩ := x
      dsimp only at HCELL htx PK
      have PKH := Lib.hid PK
      clear PK hok
      have hcm := HCELL.out wr HB.out
      obtain ⟨e0, e1, e2, e3⟩ := hcm
      have hmn : 0 ≤ (min (text.size : Int) 300) ∧ (min (text.size : Int) 300) ≤ text.size := by omega
      generalize pickN what 9 = pk at *
      obtain ⟨D1, f1, g1⟩ := ag_append AG.out hk2 (bs (cut3 text)) (cut3_len _)
      obtain ⟨D2, f2, g2⟩ := ag_check AG.out hk2 (bs (cut3 text)) (cut3_len _)
      have hac := AG.out.acts
      have hsq := AG.out.seq
      have AP := Lib.hid (fun W (h : Sit wa W bw (wa.heap.size + 1) wa.heap.size D ⟨((st.seq : Nat) : Int), 0⟩) => (show Calls Tryz.prog 17 #[.pointer (some ⟨bw, 0, none⟩), .string (text.extract 0 (min (text.size : Int) 300).toNat)] W fun e w' => e = .returned (.int .i64 0) ∧ Sit wa w' bw (wa.heap.size + 1) wa.heap.size D1 ⟨((st.seq + 1 : Nat) : Int), 0⟩ ∧ Only (WOwn bw (wa.heap.size + 1) wa.heap.size) W w' from append_by (t := cut3 text) f1 h AG.out.calm.lies.ok (by omega) (by omega) (Nat.le_trans (cut3_size _) (by omega))))
      have CK := Lib.hid (fun W (h : Sit wa W bw (wa.heap.size + 1) wa.heap.size D ⟨((st.seq : Nat) : Int), 0⟩) => (show Calls Tryz.prog 13 #[.pointer (some ⟨bw, 0, none⟩), .string (text.extract 0 (min (text.size : Int) 300).toNat)] W fun e w' => e = .returned (.int .i64 0) ∧ Sit wa w' bw (wa.heap.size + 1) wa.heap.size D2 ⟨((st.seq : Nat) : Int), 0⟩ ∧ Only (WOwn bw (wa.heap.size + 1) wa.heap.size) W w' from check_by (t := cut3 text) f2 h AG.out.calm.lies.ok (by omega) (by omega) (Nat.le_trans (cut3_size _) (by omega))))
      have G1 := Lib.hid g1
      have G2 := Lib.hid g2
      clear f1 f2 g1 g2 hac hsq
      by_cases hp : pk = 5
      · subst hp
        go_wp2
        go_quiet (fail)
        go_wp2_with (first
          | (go_at_call 12; refine (PKH.out _).mono ?_; rintro ev w1 ⟨rfl, hb⟩; have T1 := Lib.hid ((S0.out.below (below_drewN (Below.refl _ _) _)).below hb); clear hb)
          | (go_at_call 13; refine (CK.out _ T1.out).mono ?_; rintro ev w2 ⟨rfl, hs, _⟩; have T2 := Lib.hid hs; clear hs))
        go_roundw
        case rel => exact ⟨k + 1, D2, _, by go_num, by omega, by omega, G2.out, T2.out⟩
        case measure => simp [intOf]; omega
      · have hp5 : (pk == 5) = false := by rw [beq_eq_false_iff_ne]; exact hp
        clear hp
        go_wp2
        go_quiet (fail)
        go_wp2_with (first
          | (go_at_call 12; refine (PKH.out _).mono ?_; rintro ev w1 ⟨rfl, hb⟩; have T1 := Lib.hid ((S0.out.below (below_drewN (Below.refl _ _) _)).below hb); clear hb)
          | (go_at_call 17; refine (AP.out _ T1.out).mono ?_; rintro ev w2 ⟨rfl, hs, _⟩; have T2 := Lib.hid hs; clear hs))
        go_roundw
        case rel => exact ⟨k + 1, D1, _, by go_num, by omega, by omega, G1.out, T2.out⟩
        case measure => simp [intOf]; omega
    · by_cases hl1 : k < xs.length
      · have hk30 : 30 ≤ k := by omega
        clear hlt
        have ACT := Lib.hid (fun W (h : Sit wa W bw (wa.heap.size + 1) wa.heap.size D ⟨((st.seq : Nat) : Int), 0⟩) => acts_by h)
        have hac := AG.out.acts
        have hrl := holds_len AG.out.calm.holds
        have hsq := AG.out.seq
        have OPN := Lib.hid (fun W (h : Dsk wa W (wa.heap.size + 1) wa.heap.size D) => open_by (open_calm AG.out.calm) h AG.out.calm.lies.ok (by omega))
        have SQ := Lib.hid (fun bw W (h : Sit wa W bw (wa.heap.size + 1) wa.heap.size D ⟨((st.seq : Nat) : Int), 0⟩) => seq_same h)
        have SM := Lib.hid (fun W base A c B base2 d (h1 : Texts W base (.slice A st.l.length c) st.l) (h2 : Texts W base2 (.slice B st.l.length d) st.l) => (show Calls Tryz.prog 14 #[.slice A st.l.length c, .slice B st.l.length d] W fun e w' => e = .returned (.bool true) ∧ Below W.heap.size W w' from (same_C (l := st.l) (by omega) h1.reads.2 h1.reads.1 h2.reads.2 h2.reads.1).mono (fun e w' h => by rw [decide_eq_true (rfl : st.l = st.l)] at h; exact h)))
        clear hac hrl hsq
        go_wp2_with (first
          | (go_at_call 27; have zz := X4; clear zz; (with_reducible refine (ACT.out _ Z5.out.2.2).mono ?_); rintro ev w6 ⟨rfl, rfl⟩)
          | (go_at_call 27; (with_reducible refine (ACT.out _ S0.out).mono ?_); rintro ev w1 ⟨rfl, rfl⟩; have T1 := Lib.hid S0.out)
          | (go_at_call 11; have zz := T2; clear zz; (with_reducible refine (OPN.out _ T2.out.toDsk).mono ?_); rintro ev w3 ⟨bwb, A3, c3, rfl, hs, hbb, hx, ho⟩; have X3 := Lib.hid hx; have X2b := Lib.hid (X2.out.own L2.out.1 L2.out.2 ho); have Z4 := Lib.hid (And.intro (T2.out.upd ho hs.dk) (And.intro hs (TW.out.upd ho hs.dk))); clear hs hx ho hbb)
          | (go_at_call 11; (with_reducible refine (OPN.out _ T1.out.toDsk).mono ?_); rintro ev w2 ⟨bwa, A2, c2, rfl, hs, hba, hx, ho⟩; have L2 := Lib.hid (And.intro T1.out.dk.lt T1.out.dk.map.lt); have T2 := Lib.hid hs; have X2 := Lib.hid hx; have TW := Lib.hid (T1.out.upd ho hs.dk); clear hs hx ho hba)
          | (go_at_call 14; (with_reducible refine (SM.out _ _ _ _ _ _ _ X2b.out X3.out).mono ?_); rintro ev w4 ⟨rfl, hb⟩; have X4 : True := trivial; have Z5 := Lib.hid (And.intro (Z4.out.1.below hb) (And.intro (Z4.out.2.1.below hb) (Z4.out.2.2.below hb))); clear hb)
          | (go_at_call 16; (with_reducible refine (SQ.out bwa _ Z5.out.1).mono ?_); rintro ev w5 ⟨rfl, rfl⟩)
          | (go_at_call 16; (with_reducible refine (SQ.out bwb _ Z5.out.2.1).mono ?_); rintro ev w5 ⟨rfl, rfl⟩)
          | (go_at_call 16; (with_reducible refine (SQ.out bw _ Z5.out.2.2).mono ?_); rintro ev w5 ⟨rfl, rfl⟩))
        go_ret
        exact ⟨rfl, HA.out.trans (Z5.out.1.be.mono HA.out.size)⟩
      · have hk30 : xs.length ≤ k := by omega
        clear hlt hl1
        have ACT := Lib.hid (fun W (h : Sit wa W bw (wa.heap.size + 1) wa.heap.size D ⟨((st.seq : Nat) : Int), 0⟩) => acts_by h)
        have hac := AG.out.acts
        have hrl := holds_len AG.out.calm.holds
        have hsq := AG.out.seq
        have OPN := Lib.hid (fun W (h : Dsk wa W (wa.heap.size + 1) wa.heap.size D) => open_by (open_calm AG.out.calm) h AG.out.calm.lies.ok (by omega))
        have SQ := Lib.hid (fun bw W (h : Sit wa W bw (wa.heap.size + 1) wa.heap.size D ⟨((st.seq : Nat) : Int), 0⟩) => seq_same h)
        have SM := Lib.hid (fun W base A c B base2 d (h1 : Texts W base (.slice A st.l.length c) st.l) (h2 : Texts W base2 (.slice B st.l.length d) st.l) => (show Calls Tryz.prog 14 #[.slice A st.l.length c, .slice B st.l.length d] W fun e w' => e = .returned (.bool true) ∧ Below W.heap.size W w' from (same_C (l := st.l) (by omega) h1.reads.2 h1.reads.1 h2.reads.2 h2.reads.1).mono (fun e w' h => by rw [decide_eq_true (rfl : st.l = st.l)] at h; exact h)))
        clear hac hrl hsq
        go_wp2_with (first
          | (go_at_call 27; have zz := X4; clear zz; (with_reducible refine (ACT.out _ Z5.out.2.2).mono ?_); rintro ev w6 ⟨rfl, rfl⟩)
          | (go_at_call 27; (with_reducible refine (ACT.out _ S0.out).mono ?_); rintro ev w1 ⟨rfl, rfl⟩; have T1 := Lib.hid S0.out)
          | (go_at_call 11; have zz := T2; clear zz; (with_reducible refine (OPN.out _ T2.out.toDsk).mono ?_); rintro ev w3 ⟨bwb, A3, c3, rfl, hs, hbb, hx, ho⟩; have X3 := Lib.hid hx; have X2b := Lib.hid (X2.out.own L2.out.1 L2.out.2 ho); have Z4 := Lib.hid (And.intro (T2.out.upd ho hs.dk) (And.intro hs (TW.out.upd ho hs.dk))); clear hs hx ho hbb)
          | (go_at_call 11; (with_reducible refine (OPN.out _ T1.out.toDsk).mono ?_); rintro ev w2 ⟨bwa, A2, c2, rfl, hs, hba, hx, ho⟩; have L2 := Lib.hid (And.intro T1.out.dk.lt T1.out.dk.map.lt); have T2 := Lib.hid hs; have X2 := Lib.hid hx; have TW := Lib.hid (T1.out.upd ho hs.dk); clear hs hx ho hba)
          | (go_at_call 14; (with_reducible refine (SM.out _ _ _ _ _ _ _ X2b.out X3.out).mono ?_); rintro ev w4 ⟨rfl, hb⟩; have X4 : True := trivial; have Z5 := Lib.hid (And.intro (Z4.out.1.below hb) (And.intro (Z4.out.2.1.below hb) (Z4.out.2.2.below hb))); clear hb)
          | (go_at_call 16; (with_reducible refine (SQ.out bwa _ Z5.out.1).mono ?_); rintro ev w5 ⟨rfl, rfl⟩)
          | (go_at_call 16; (with_reducible refine (SQ.out bwb _ Z5.out.2.1).mono ?_); rintro ev w5 ⟨rfl, rfl⟩)
          | (go_at_call 16; (with_reducible refine (SQ.out bw _ Z5.out.2.2).mono ?_); rintro ev w5 ⟨rfl, rfl⟩))
        go_ret
        exact ⟨rfl, HA.out.trans (Z5.out.1.be.mono HA.out.size)⟩
set_option maxRecDepth 100000 in
open Go.ChangeShapes Go.WideShapes Go.ChangeAt Go.WideMaps Go.WideElems Go.Deep in
/-- WalAgain, of arguments as a row hands them. -/
theorem walAgain_walk (v0 : Value) {base base' : Nat} {sp : Nat → Bool} {held : Bool} {H : Type} {enc : TypeId × Value → H} {W : World} {d : DataW H} {p : List MemPlace} (hval : Value.okWide Tryz.prog W .any base 49 v0) (h : DataW.Trod enc Tryz.prog W base' sp held 49 v0 d p)
    (hT : ErrTab W) :
    Calls Tryz.prog 6 #[v0] W fun e w' => e = .returned (.bool true) ∧ Below W.heap.size W w' := by
  obtain ⟨A, c, xs, rfl, hx⟩ := open_readsA hval h
  exact walAgain_row A c xs W hx hT
end Go.Proofs.YtlmnmjnmilaipaaGreatDoor

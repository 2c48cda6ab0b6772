/- Layer 11: WalPlays walked. -/
import Derived.Test.YtlmnmjnmilaipaaGreatDoorWsA
import Derived.Deep.RegionWith
set_option linter.unusedVariables false
set_option linter.unusedSimpArgs false
namespace Go.Proofs.YtlmnmjnmilaipaaGreatDoor.Rk
open Go Go.RowKit PR Go.Proofs.YtlmnmjnmilaipaaGreatDoorW.PrintWords

theorem open_new_D : openP Dk.new = ⟨some ((0 : Nat) : Int), [], [], 0, Dk.new⟩ := open_calm calm_new
/-- The document's first Open. -/
theorem ropen_first (base rb : Nat) (w : World) (h : RDk w base rb Dk.new) :
    Calls Tryz.prog 23 #[.pointer (some ⟨rb, 0, none⟩)] w fun e w' => ∃ rw A c, e = .returned (.tuple #[.pointer (some ⟨rw, 0, none⟩), .string ⟨#[]⟩, .slice A 0 c, .int .i64 0]) ∧ RLog w' base rb rw Dk.new ⟨((0 : Nat) : Int), 0⟩ ∧ w.heap.size ≤ rw ∧ Only (RS w base rb) w w' := by
  refine (ropen_on base rb Dk.new w h Dk.new_ok (by decide) rfl).mono ?_
  rintro e w' ⟨ho, hd, hp⟩
  rw [open_new_D] at hd hp
  rcases hp with ⟨hn, _⟩ | ⟨_, rw', v, q, hq, hrw, he, hw, hr⟩
  · exact absurd rfl hn
  · obtain rfl := Option.some.inj hq
    obtain ⟨A, c, rfl⟩ := Kd.R_slice hr
    exact ⟨rw', A, c, he, ⟨hd, hw⟩, hrw, ho⟩
theorem Both.drew {w0 w : World} {bw b mb base rb rw : Nat} {D : Dk} {W : Wl} (h : Both w0 w bw b mb base rb rw D W) : Both w0 w.drew bw b mb base rb rw D W := h.below ⟨rfl, rfl, rfl, Nat.le_refl _, fun _ _ => rfl⟩
theorem ActBox.drew {w : World} {x : Nat} {what n : Int} {text : ByteArray} {kv : Value} (h : ActBox w x what n text kv) : ActBox w.drew x what n text kv := h
theorem Half.below {w0 w w' : World} {bw b mb base rb rw : Nat} {D D2 : Dk} {W W2 : Wl} (h : Half w0 w bw b mb base rb rw D D2 W W2) (hb : Below w.heap.size w w') : Half w0 w' bw b mb base rb rw D D2 W W2 := ⟨h.s.below hb, h.r.below hb, h.hb, h.hr⟩
theorem RDk.made (w : World) (base : Nat) (hb : base ≤ w.heap.size) : RDk (w.alloc (.cells #[.slice none 0 0, .int .i64 0, .int .i64 0, .bool false] 86)) base w.heap.size Dk.new := ⟨_, _, RIs.made w base hb⟩
set_option maxHeartbeats 40000000 in
set_option maxRecDepth 100000 in
theorem walPlays_row (A : Option Addr) (c : Nat) (xs : List ActV) (w : World) (hx : ReadsA w A xs) (hT : ErrTab w) :
    Calls Tryz.prog 8 #[.slice A xs.length c] w fun e w' => e = .returned (.bool true) ∧ Below w.heap.size w w' := by
  have AW := Lib.hid (awake_any w hT)
  have NW := Lib.hid (fun W (hT : ErrTab W) => new_dsk W hT)
  have C1 := Lib.hid (fun w0 W b mb (h : Dsk w0 W b mb Dk.new) => open_by (open_calm calm_new) h Dk.new_ok (by decide))
  have HX := Lib.hid hx
  have hxl := hx.len
  unfold maxLen at hxl
  clear hx
  go_enter Tryz.func8, Tryz.ntmps8
  go_wp2_with (first
    | (go_at_call 9; refine AW.out.mono ?_; rintro ev wa ⟨rfl, hb⟩; have HA := Lib.hid hb; clear hb)
    | (go_at_call 10; refine (new_any _).mono ?_; rintro ev w1 ⟨rfl, hw1⟩; have T0 := Lib.hid (NW.out _ (hT.keep2 HA.out)); rw [← hw1] at T0; have hs1 : w1.heap.size = wa.heap.size + 2 := (by rw [hw1]; simp); clear hw1)
    | (go_at_call 18; refine (rnew_any _).mono ?_; rintro ev w2 ⟨rfl, hw2⟩; have hd2 := RDk.made w1 wa.heap.size (by omega); have hb2 : Below w1.heap.size w1 w2 := (by rw [hw2]; exact below_alloc (Below.refl _ _) _); rw [← hw2] at hd2; have R2 := Lib.hid hd2; have T2 := Lib.hid (T0.out.below hb2); obtain ⟨rb, hrb⟩ : ∃ rb, w1.heap.size = rb := ⟨_, rfl⟩; rw [hrb] at R2 ⊢; clear hw2 hd2 hb2)
    | (go_at_call 11; (with_reducible refine (C1.out _ _ _ _ T2.out).mono ?_); rintro ev w3 ⟨bw, A1, ca1, rfl, hs, _, _, ho⟩; have T3 := Lib.hid hs; have R3 := Lib.hid (R2.out.own T2.out.dk ho); clear hs ho)
    | (go_at_call 23; refine (ropen_first _ _ _ R3.out).mono ?_; rintro ev w4 ⟨rw, A2, ca2, rfl, hl, hrw, ho⟩; have B4 := Lib.hid (Both.mk (Sit.rs T3.out R3.out (Nat.le_refl _) ho) hl (Nat.le_refl _) (Nat.le_trans T3.out.be.size hrw)); clear hl hrw ho))
  have hb0 := HA.out.size
  go_loopw [6, 10, 14] (fun va vb i wr => ∃ (k q : Nat) (er : Int) (D : Dk) (ba rb2 : Nat), i = .int .i64 k ∧ va = .pointer (some ⟨ba, 0, none⟩) ∧ vb = .pointer (some ⟨rb2, 0, none⟩) ∧ k ≤ xs.length ∧ k ≤ 60 ∧ PlD k D q ∧ Both wa wr ba (wa.heap.size + 1) wa.heap.size wa.heap.size rb rb2 D ⟨(q : Nat), er⟩) (fun _ _ i _ => 60 - (intOf i).toNat)
  case atStart => exact ⟨0, 0, 0, Dk.new, bw, rw, rfl, rfl, rfl, Nat.zero_le _, Nat.zero_le _, pl_new, B4.out⟩
  case round =>
    clear T0 T2 T3 R2 R3 B4
    obtain ⟨k, q, er, D, bx, rx, rfl, rfl, rfl, hk1, hk2, hpl, hB⟩ := hrel
    have PL := Lib.hid hpl
    have BB := Lib.hid hB
    have HB := Lib.hid (HA.out.trans (hB.s.be.mono HA.out.size))
    clear hpl hB
    by_cases hlt : k < xs.length ∧ k < 60
    · obtain ⟨hlt1, hlt2⟩ := hlt
      obtain ⟨bk, off, rfl, hbk, hcell⟩ := act_at HX.out hlt1
      have HCELL := Lib.hid hcell
      have hok := HX.out.ok _ (List.getElem_mem hlt1)
      have htx := hok.text
      unfold maxLen at htx
      have PK := fun W => pick_any xs[k].what 9 hok.what.1 hok.what.2 (by decide) W
      have hpk := pickN_range xs[k].what 9 (by decide)
      have HKP := Lib.hid hok.keep
      have hnb := hok.n
      clear hcell
      generalize xs[k] = x at *
      obtain ⟨what, n, text, keep, kA, kc⟩ := x
      dsimp only at HCELL htx PK hpk HKP hnb
      have PKH := Lib.hid PK
      clear PK hok
      obtain ⟨e0, e1, e2, e3⟩ := HCELL.out wr HB.out
      have hbkw : bk < wr.heap.size := Nat.lt_of_lt_of_le hbk HB.out.size
      obtain ⟨hn0, hn1⟩ := hnb
      have hmn : 0 ≤ (min (text.size : Int) 4200) ∧ (min (text.size : Int) 4200) ≤ text.size := by omega
      generalize pickN what 9 = pk at *
      have htl : (text.extract 0 (min (text.size : Int) 4200).toNat).size ≤ 90000 := by rw [ByteArray.size_extract]; omega
      have hmx : (min (text.size : Int) 4200).toNat ≤ text.size := by omega
      -- PATHS
      have hpks : pk = 0 ∨ pk = 1 ∨ pk = 2 ∨ pk = 3 ∨ pk = 4 ∨ pk = 5 ∨ pk = 6 ∨ pk = 7 ∨ pk = 8 := by omega
      have HAC := Lib.hid (show D.acts ≤ 1000 by have := PL.out.acts; omega)
      clear hpk
      rcases hpks with rfl | rfl | rfl | rfl | rfl | rfl | rfl | rfl | rfl
      · as_aux_lemma =>
        obtain ⟨xr, q2, er2, D2, f1, pn⟩ := pl_append (er := er) PL.out (by omega) (bs (text.extract 0 (min (text.size : Int) 4200).toNat))
        have F1 := Lib.hid f1
        have PN := Lib.hid pn
        clear f1 pn
        go_wp2_with (first | (go_at_call_of 12 (Value.int .i64 9); refine (PKH.out _).mono ?_; rintro ev w1p ⟨rfl, hb⟩; have B1 := Lib.hid ((BB.out.below (below_alloc (Below.refl _ _) _)).below hb); have X1 := Lib.hid (show ActBox _ _ _ _ _ _ from (hb.block wr.heap.size (by simp)).trans (MapKept.heap_alloc wr _).1); obtain ⟨z0, z1, z2, z3, zl⟩ := X1.out.cells; clear hb) | (go_at_call 17; refine (ap1 F1.out B1.out PL.out.ok HAC.out PL.out.seq htl).mono ?_; rintro ev wq ⟨rfl, hh⟩; have HF := Lib.hid hh; clear hh) | (go_at_call 25; refine (ap2 F1.out HF.out PL.out.ok HAC.out PL.out.seq htl).mono ?_; rintro ev wq ⟨rfl, hh⟩; have B6 := Lib.hid hh; clear hh) | (go_at_call 16; refine (sq1 B6.out.s).mono ?_; rintro ev wq ⟨rfl, rfl⟩; skip) | (go_at_call 26; refine (sq2 B6.out.r).mono ?_; rintro ev wq ⟨rfl, rfl⟩; skip) | (go_at_call 24; refine (two_any _ _ _ _ _ _ B6.out.s.dk B6.out.r.dk PN.out.ok).mono ?_; rintro ev wq ⟨rfl, hb⟩; have B9 := Lib.hid (B6.out.below hb); clear hb))
        go_roundw
        case rel => exact ⟨k + 1, q2, er2, D2, bx, rx, by go_num, rfl, rfl, by omega, by omega, PN.out, B9.out⟩
        case measure => simp [intOf]; omega
      · as_aux_lemma =>
        obtain ⟨xr, q2, er2, D2, f1, pn⟩ := pl_append (er := er) PL.out (by omega) (bs (text.extract 0 (min (text.size : Int) 4200).toNat))
        have F1 := Lib.hid f1
        have PN := Lib.hid pn
        clear f1 pn
        go_wp2_with (first | (go_at_call_of 12 (Value.int .i64 9); refine (PKH.out _).mono ?_; rintro ev w1p ⟨rfl, hb⟩; have B1 := Lib.hid ((BB.out.below (below_alloc (Below.refl _ _) _)).below hb); have X1 := Lib.hid (show ActBox _ _ _ _ _ _ from (hb.block wr.heap.size (by simp)).trans (MapKept.heap_alloc wr _).1); obtain ⟨z0, z1, z2, z3, zl⟩ := X1.out.cells; clear hb) | (go_at_call 17; refine (ap1 F1.out B1.out PL.out.ok HAC.out PL.out.seq htl).mono ?_; rintro ev wq ⟨rfl, hh⟩; have HF := Lib.hid hh; clear hh) | (go_at_call 25; refine (ap2 F1.out HF.out PL.out.ok HAC.out PL.out.seq htl).mono ?_; rintro ev wq ⟨rfl, hh⟩; have B6 := Lib.hid hh; clear hh) | (go_at_call 16; refine (sq1 B6.out.s).mono ?_; rintro ev wq ⟨rfl, rfl⟩; skip) | (go_at_call 26; refine (sq2 B6.out.r).mono ?_; rintro ev wq ⟨rfl, rfl⟩; skip) | (go_at_call 24; refine (two_any _ _ _ _ _ _ B6.out.s.dk B6.out.r.dk PN.out.ok).mono ?_; rintro ev wq ⟨rfl, hb⟩; have B9 := Lib.hid (B6.out.below hb); clear hb))
        go_roundw
        case rel => exact ⟨k + 1, q2, er2, D2, bx, rx, by go_num, rfl, rfl, by omega, by omega, PN.out, B9.out⟩
        case measure => simp [intOf]; omega
      · as_aux_lemma =>
        obtain ⟨xr, q2, er2, D2, f1, pn⟩ := pl_append (er := er) PL.out (by omega) (bs (text.extract 0 (min (text.size : Int) 4200).toNat))
        have F1 := Lib.hid f1
        have PN := Lib.hid pn
        clear f1 pn
        go_wp2_with (first | (go_at_call_of 12 (Value.int .i64 9); refine (PKH.out _).mono ?_; rintro ev w1p ⟨rfl, hb⟩; have B1 := Lib.hid ((BB.out.below (below_alloc (Below.refl _ _) _)).below hb); have X1 := Lib.hid (show ActBox _ _ _ _ _ _ from (hb.block wr.heap.size (by simp)).trans (MapKept.heap_alloc wr _).1); obtain ⟨z0, z1, z2, z3, zl⟩ := X1.out.cells; clear hb) | (go_at_call 17; refine (ap1 F1.out B1.out PL.out.ok HAC.out PL.out.seq htl).mono ?_; rintro ev wq ⟨rfl, hh⟩; have HF := Lib.hid hh; clear hh) | (go_at_call 25; refine (ap2 F1.out HF.out PL.out.ok HAC.out PL.out.seq htl).mono ?_; rintro ev wq ⟨rfl, hh⟩; have B6 := Lib.hid hh; clear hh) | (go_at_call 16; refine (sq1 B6.out.s).mono ?_; rintro ev wq ⟨rfl, rfl⟩; skip) | (go_at_call 26; refine (sq2 B6.out.r).mono ?_; rintro ev wq ⟨rfl, rfl⟩; skip) | (go_at_call 24; refine (two_any _ _ _ _ _ _ B6.out.s.dk B6.out.r.dk PN.out.ok).mono ?_; rintro ev wq ⟨rfl, hb⟩; have B9 := Lib.hid (B6.out.below hb); clear hb))
        go_roundw
        case rel => exact ⟨k + 1, q2, er2, D2, bx, rx, by go_num, rfl, rfl, by omega, by omega, PN.out, B9.out⟩
        case measure => simp [intOf]; omega
      · as_aux_lemma =>
        obtain ⟨xr, q2, er2, D2, f1, pn⟩ := pl_append (er := er) PL.out (by omega) (bs (text.extract 0 (min (text.size : Int) 4200).toNat))
        have F1 := Lib.hid f1
        have PN := Lib.hid pn
        clear f1 pn
        go_wp2_with (first | (go_at_call_of 12 (Value.int .i64 9); refine (PKH.out _).mono ?_; rintro ev w1p ⟨rfl, hb⟩; have B1 := Lib.hid ((BB.out.below (below_alloc (Below.refl _ _) _)).below hb); have X1 := Lib.hid (show ActBox _ _ _ _ _ _ from (hb.block wr.heap.size (by simp)).trans (MapKept.heap_alloc wr _).1); obtain ⟨z0, z1, z2, z3, zl⟩ := X1.out.cells; clear hb) | (go_at_call 17; refine (ap1 F1.out B1.out PL.out.ok HAC.out PL.out.seq htl).mono ?_; rintro ev wq ⟨rfl, hh⟩; have HF := Lib.hid hh; clear hh) | (go_at_call 25; refine (ap2 F1.out HF.out PL.out.ok HAC.out PL.out.seq htl).mono ?_; rintro ev wq ⟨rfl, hh⟩; have B6 := Lib.hid hh; clear hh) | (go_at_call 16; refine (sq1 B6.out.s).mono ?_; rintro ev wq ⟨rfl, rfl⟩; skip) | (go_at_call 26; refine (sq2 B6.out.r).mono ?_; rintro ev wq ⟨rfl, rfl⟩; skip) | (go_at_call 24; refine (two_any _ _ _ _ _ _ B6.out.s.dk B6.out.r.dk PN.out.ok).mono ?_; rintro ev wq ⟨rfl, hb⟩; have B9 := Lib.hid (B6.out.below hb); clear hb))
        go_roundw
        case rel => exact ⟨k + 1, q2, er2, D2, bx, rx, by go_num, rfl, rfl, by omega, by omega, PN.out, B9.out⟩
        case measure => simp [intOf]; omega
      · as_aux_lemma =>
        obtain ⟨xr, q2, er2, D2, f1, pn⟩ := pl_append (er := er) PL.out (by omega) (bs (text.extract 0 (min (text.size : Int) 4200).toNat))
        have F1 := Lib.hid f1
        have PN := Lib.hid pn
        clear f1 pn
        go_wp2_with (first | (go_at_call_of 12 (Value.int .i64 9); refine (PKH.out _).mono ?_; rintro ev w1p ⟨rfl, hb⟩; have B1 := Lib.hid ((BB.out.below (below_alloc (Below.refl _ _) _)).below hb); have X1 := Lib.hid (show ActBox _ _ _ _ _ _ from (hb.block wr.heap.size (by simp)).trans (MapKept.heap_alloc wr _).1); obtain ⟨z0, z1, z2, z3, zl⟩ := X1.out.cells; clear hb) | (go_at_call 17; refine (ap1 F1.out B1.out PL.out.ok HAC.out PL.out.seq htl).mono ?_; rintro ev wq ⟨rfl, hh⟩; have HF := Lib.hid hh; clear hh) | (go_at_call 25; refine (ap2 F1.out HF.out PL.out.ok HAC.out PL.out.seq htl).mono ?_; rintro ev wq ⟨rfl, hh⟩; have B6 := Lib.hid hh; clear hh) | (go_at_call 16; refine (sq1 B6.out.s).mono ?_; rintro ev wq ⟨rfl, rfl⟩; skip) | (go_at_call 26; refine (sq2 B6.out.r).mono ?_; rintro ev wq ⟨rfl, rfl⟩; skip) | (go_at_call 24; refine (two_any _ _ _ _ _ _ B6.out.s.dk B6.out.r.dk PN.out.ok).mono ?_; rintro ev wq ⟨rfl, hb⟩; have B9 := Lib.hid (B6.out.below hb); clear hb))
        go_roundw
        case rel => exact ⟨k + 1, q2, er2, D2, bx, rx, by go_num, rfl, rfl, by omega, by omega, PN.out, B9.out⟩
        case measure => simp [intOf]; omega
      · as_aux_lemma =>
        obtain ⟨xr, er2, D2, f1, pn⟩ := pl_check (er := er) PL.out (by omega) (bs (text.extract 0 (min (text.size : Int) 4200).toNat))
        have F1 := Lib.hid f1
        have PN := Lib.hid pn
        clear f1 pn
        go_wp2_with (first | (go_at_call_of 12 (Value.int .i64 9); refine (PKH.out _).mono ?_; rintro ev w1p ⟨rfl, hb⟩; have B1 := Lib.hid ((BB.out.below (below_alloc (Below.refl _ _) _)).below hb); have X1 := Lib.hid (show ActBox _ _ _ _ _ _ from (hb.block wr.heap.size (by simp)).trans (MapKept.heap_alloc wr _).1); obtain ⟨z0, z1, z2, z3, zl⟩ := X1.out.cells; clear hb) | (go_at_call 13; refine (ck1 F1.out B1.out PL.out.ok HAC.out PL.out.seq htl).mono ?_; rintro ev wq ⟨rfl, hh⟩; have HF := Lib.hid hh; clear hh) | (go_at_call 31; refine (ck2 F1.out HF.out PL.out.ok HAC.out PL.out.seq htl).mono ?_; rintro ev wq ⟨rfl, hh⟩; have B6 := Lib.hid hh; clear hh) | (go_at_call 16; refine (sq1 B6.out.s).mono ?_; rintro ev wq ⟨rfl, rfl⟩; skip) | (go_at_call 26; refine (sq2 B6.out.r).mono ?_; rintro ev wq ⟨rfl, rfl⟩; skip) | (go_at_call 24; refine (two_any _ _ _ _ _ _ B6.out.s.dk B6.out.r.dk PN.out.ok).mono ?_; rintro ev wq ⟨rfl, hb⟩; have B9 := Lib.hid (B6.out.below hb); clear hb))
        go_roundw
        case rel => exact ⟨k + 1, q, er2, D2, bx, rx, by go_num, rfl, rfl, by omega, by omega, PN.out, B9.out⟩
        case measure => simp [intOf]; omega
      · as_aux_lemma =>
        have pn := pl_next (pl_arm PL.out (by omega) n)
        obtain ⟨xr, D2, f1⟩ : ∃ xr D2, D.arm n = (xr, D2) := ⟨_, _, rfl⟩
        rw [f1] at pn
        dsimp only at pn
        have F1 := Lib.hid f1
        have PN := Lib.hid pn
        clear f1 pn
        go_wp2_with (first | (go_at_call_of 12 (Value.int .i64 9); refine (PKH.out _).mono ?_; rintro ev w1p ⟨rfl, hb⟩; have B1 := Lib.hid ((BB.out.below (below_alloc (Below.refl _ _) _)).below hb); have X1 := Lib.hid (show ActBox _ _ _ _ _ _ from (hb.block wr.heap.size (by simp)).trans (MapKept.heap_alloc wr _).1); obtain ⟨z0, z1, z2, z3, zl⟩ := X1.out.cells; clear hb))
        go_region_with (first | (go_at_call 28; refine (ar1 F1.out (Both.drew B1.out) PL.out.ok (ActBox.drew X1.out) hn0 hn1).mono ?_; rintro ev wq ⟨rfl, hh, hx⟩; have HF := Lib.hid hh; have X2 := Lib.hid hx; obtain ⟨y0, y1, y2, y3, yl⟩ := hx.cells; clear hh hx) | (go_at_call 32; refine (ar2 F1.out HF.out PL.out.ok X2.out hn0 hn1).mono ?_; rintro ev wq ⟨rfl, hh, hx⟩; have B6 := Lib.hid hh; clear hh hx))
        all_goals
          go_wp2_with (first | (go_at_call 16; refine (sq1 B6.out.s).mono ?_; rintro ev wq ⟨rfl, rfl⟩; skip) | (go_at_call 26; refine (sq2 B6.out.r).mono ?_; rintro ev wq ⟨rfl, rfl⟩; skip) | (go_at_call 24; refine (two_any _ _ _ _ _ _ B6.out.s.dk B6.out.r.dk PN.out.ok).mono ?_; rintro ev wq ⟨rfl, hb⟩; have B9 := Lib.hid (B6.out.below hb); clear hb))
          go_roundw
          case rel => exact ⟨k + 1, q, er, D2, bx, rx, by go_num, rfl, rfl, by omega, by omega, PN.out, B9.out⟩
          case measure => simp [intOf]; omega
      · by_cases hn3 : n.tmod 3 = 0
        · as_aux_lemma =>
          have PLR := Lib.hid (pl_restart PL.out keep)
          have hm3 : (n.tmod 3 == 0) = true := beq_iff_eq.2 hn3
          have PK5 := Lib.hid (fun W => pick_any n 5 hn0 hn1 (by decide) W)
          have hp5 := pickN_range n 5 (by decide)
          generalize pickN n 5 = p5 at *
          obtain ⟨hp50, hp51⟩ := hp5
          have pla := pl_arm PLR.out (by omega) (1 + p5)
          obtain ⟨xa, DA, fa⟩ : ∃ xa DA, (D.restart keep).arm (1 + p5) = (xa, DA) := ⟨_, _, rfl⟩
          rw [fa] at pla
          dsimp only at pla
          have FA := Lib.hid fa
          have PLA := Lib.hid pla
          clear fa pla
          have HAX := Lib.hid (show DA.acts ≤ 1000 by have := PLA.out.acts; omega)
          rcases openP_shape PLA.out.ok (by have := HAX.out; omega) with ⟨qi, tt, tl, D2, e, hl⟩ | ⟨ne, D2, hne, e⟩
          · obtain ⟨qn, hqn, pn⟩ := (pl_open PLA.out (by omega)).2 qi (by rw [e])
            subst hqn
            rw [e] at pn
            have PN := Lib.hid pn
            have E := Lib.hid e
            clear pn e
            go_wp2_with (first | (go_at_call_of 12 (Value.int .i64 9); refine (PKH.out _).mono ?_; rintro ev w1p ⟨rfl, hb⟩; have B1 := Lib.hid ((BB.out.below (below_alloc (Below.refl _ _) _)).below hb); have X1 := Lib.hid (show ActBox _ _ _ _ _ _ from (hb.block wr.heap.size (by simp)).trans (MapKept.heap_alloc wr _).1); obtain ⟨z0, z1, z2, z3, zl⟩ := X1.out.cells; clear hb) | (go_at_call 33; refine (rs1 B1.out PL.out.ok HKP.out hb0 (HA.out.trans (B1.out.s.be.mono HA.out.size)) X1.out).mono ?_; rintro ev wq ⟨rfl, hh, hx⟩; have HF := Lib.hid hh; have X2 := Lib.hid hx; obtain ⟨y0, y1, y2, y3, yl⟩ := hx.cells; clear hh hx) | (go_at_call 34; refine (rs2 HF.out PL.out.ok HKP.out hb0 (HA.out.trans (HF.out.s.be.mono HA.out.size)) X2.out).mono ?_; rintro ev wq ⟨rfl, hh, hx⟩; have B3 := Lib.hid hh; have X3 := Lib.hid hx; obtain ⟨x0, x1, x2, x3, xl⟩ := hx.cells; clear hh hx) | (go_at_call_of 12 (Value.int .i64 5); have zz := HG; clear zz; refine (PK5.out _).mono ?_; rintro ev wq ⟨rfl, hb⟩; have HG2 := Lib.hid (Half.below HG.out hb); have X5 := Lib.hid (X4.out.below hb); clear hb) | (go_at_call_of 12 (Value.int .i64 5); refine (PK5.out _).mono ?_; rintro ev wq ⟨rfl, hb⟩; have B3b := Lib.hid (B3.out.below hb); have X3b := Lib.hid (X3.out.below hb); obtain ⟨v0, v1, v2, v3, vl⟩ := X3b.out.cells; clear hb) | (go_at_call 28; refine (ar1 FA.out B3b.out PLR.out.ok X3b.out (by omega) (by omega)).mono ?_; rintro ev wq ⟨rfl, hh, hx⟩; have HG := Lib.hid hh; have X4 := Lib.hid hx; obtain ⟨u0, u1, u2, u3, ul⟩ := hx.cells; clear hh hx) | (go_at_call 32; refine (ar2 FA.out HG2.out PLR.out.ok X5.out (by omega) (by omega)).mono ?_; rintro ev wq ⟨rfl, hh, hx⟩; have B4 := Lib.hid hh; clear hh hx) | (go_at_call 11; refine (op1 E.out B4.out PLA.out.ok HAX.out).mono ?_; rintro ev wq ⟨bn, Ao, co, rfl, hf, ht⟩; have FO := Lib.hid hf; have TO := Lib.hid ht; clear hf ht) | (go_at_call 23; refine (op2 E.out FO.out TO.out PLA.out.ok HAX.out).mono ?_; rintro ev wq ⟨rn, Ap, cp, rfl, hh, ht1, ht2⟩; have B5 := Lib.hid hh; have T5 := Lib.hid ht1; have T6 := Lib.hid ht2; clear hh ht1 ht2) | (go_at_call 14; refine (same_texts (by omega) T5.out T6.out).mono ?_; rintro ev wq ⟨rfl, hb⟩; have B6 := Lib.hid (B5.out.below hb); clear hb) | (go_at_call 16; refine (sq1 B6.out.s).mono ?_; rintro ev wq ⟨rfl, rfl⟩; skip) | (go_at_call 26; refine (sq2 B6.out.r).mono ?_; rintro ev wq ⟨rfl, rfl⟩; skip) | (go_at_call 24; refine (two_any _ _ _ _ _ _ B6.out.s.dk B6.out.r.dk PN.out.ok).mono ?_; rintro ev wq ⟨rfl, hb⟩; have B9 := Lib.hid (B6.out.below hb); clear hb))
            go_roundw
            case rel => exact ⟨k + 1, qn, 0, D2, bn, rn, by go_num, rfl, rfl, by omega, by omega, PN.out, B9.out⟩
            case measure => simp [intOf]; omega
          · have pn := (pl_open PLA.out (by omega)).1
            rw [e] at pn
            have PN := Lib.hid pn
            have E := Lib.hid e
            have HNE := Lib.hid hne
            have t1 : (ne == 0) = false := beq_eq_false_iff_ne.2 hne
            have t2 : (ne != 0) = true := bne_iff_ne.2 hne
            clear pn e hne
            go_wp2_with (first | (go_at_call_of 12 (Value.int .i64 9); refine (PKH.out _).mono ?_; rintro ev w1p ⟨rfl, hb⟩; have B1 := Lib.hid ((BB.out.below (below_alloc (Below.refl _ _) _)).below hb); have X1 := Lib.hid (show ActBox _ _ _ _ _ _ from (hb.block wr.heap.size (by simp)).trans (MapKept.heap_alloc wr _).1); obtain ⟨z0, z1, z2, z3, zl⟩ := X1.out.cells; clear hb) | (go_at_call 33; refine (rs1 B1.out PL.out.ok HKP.out hb0 (HA.out.trans (B1.out.s.be.mono HA.out.size)) X1.out).mono ?_; rintro ev wq ⟨rfl, hh, hx⟩; have HF := Lib.hid hh; have X2 := Lib.hid hx; obtain ⟨y0, y1, y2, y3, yl⟩ := hx.cells; clear hh hx) | (go_at_call 34; refine (rs2 HF.out PL.out.ok HKP.out hb0 (HA.out.trans (HF.out.s.be.mono HA.out.size)) X2.out).mono ?_; rintro ev wq ⟨rfl, hh, hx⟩; have B3 := Lib.hid hh; have X3 := Lib.hid hx; obtain ⟨x0, x1, x2, x3, xl⟩ := hx.cells; clear hh hx) | (go_at_call_of 12 (Value.int .i64 5); have zz := HG; clear zz; refine (PK5.out _).mono ?_; rintro ev wq ⟨rfl, hb⟩; have HG2 := Lib.hid (Half.below HG.out hb); have X5 := Lib.hid (X4.out.below hb); clear hb) | (go_at_call_of 12 (Value.int .i64 5); refine (PK5.out _).mono ?_; rintro ev wq ⟨rfl, hb⟩; have B3b := Lib.hid (B3.out.below hb); have X3b := Lib.hid (X3.out.below hb); obtain ⟨v0, v1, v2, v3, vl⟩ := X3b.out.cells; clear hb) | (go_at_call 28; refine (ar1 FA.out B3b.out PLR.out.ok X3b.out (by omega) (by omega)).mono ?_; rintro ev wq ⟨rfl, hh, hx⟩; have HG := Lib.hid hh; have X4 := Lib.hid hx; obtain ⟨u0, u1, u2, u3, ul⟩ := hx.cells; clear hh hx) | (go_at_call 32; refine (ar2 FA.out HG2.out PLR.out.ok X5.out (by omega) (by omega)).mono ?_; rintro ev wq ⟨rfl, hh, hx⟩; have B4 := Lib.hid hh; clear hh hx) | (go_at_call 11; refine (oe1 E.out HNE.out B4.out PLA.out.ok HAX.out).mono ?_; rintro ev wq ⟨rfl, hh⟩; have HO := Lib.hid hh; clear hh) | (go_at_call 23; refine (oe2 E.out HNE.out HO.out PLA.out.ok HAX.out).mono ?_; rintro ev wq ⟨rfl, hh⟩; have B5 := Lib.hid hh; clear hh) | (go_at_call 14; refine (same_nil _).mono ?_; rintro ev wq ⟨rfl, hb⟩; have B6 := Lib.hid (B5.out.below hb); clear hb) | (go_at_call 16; refine (sq1 B6.out.s).mono ?_; rintro ev wq ⟨rfl, rfl⟩; skip) | (go_at_call 26; refine (sq2 B6.out.r).mono ?_; rintro ev wq ⟨rfl, rfl⟩; skip) | (go_at_call 24; refine (two_any _ _ _ _ _ _ B6.out.s.dk B6.out.r.dk PN.out.ok).mono ?_; rintro ev wq ⟨rfl, hb⟩; have B9 := Lib.hid (B6.out.below hb); clear hb))
            go_roundw
            case rel => exact ⟨k + 1, q, er, D2, bx, rx, by go_num, rfl, rfl, by omega, by omega, PN.out, B9.out⟩
            case measure => simp [intOf]; omega
        · as_aux_lemma =>
          have PLR := Lib.hid (pl_restart PL.out keep)
          have hm3 : (n.tmod 3 == 0) = false := beq_eq_false_iff_ne.2 hn3
          have HAX := Lib.hid (show (D.restart keep).acts ≤ 1000 by have := PLR.out.acts; omega)
          rcases openP_shape PLR.out.ok (by have := HAX.out; omega) with ⟨qi, tt, tl, D2, e, hl⟩ | ⟨ne, D2, hne, e⟩
          · obtain ⟨qn, hqn, pn⟩ := (pl_open PLR.out (by omega)).2 qi (by rw [e])
            subst hqn
            rw [e] at pn
            have PN := Lib.hid pn
            have E := Lib.hid e
            clear pn e
            go_wp2_with (first | (go_at_call_of 12 (Value.int .i64 9); refine (PKH.out _).mono ?_; rintro ev w1p ⟨rfl, hb⟩; have B1 := Lib.hid ((BB.out.below (below_alloc (Below.refl _ _) _)).below hb); have X1 := Lib.hid (show ActBox _ _ _ _ _ _ from (hb.block wr.heap.size (by simp)).trans (MapKept.heap_alloc wr _).1); obtain ⟨z0, z1, z2, z3, zl⟩ := X1.out.cells; clear hb) | (go_at_call 33; refine (rs1 B1.out PL.out.ok HKP.out hb0 (HA.out.trans (B1.out.s.be.mono HA.out.size)) X1.out).mono ?_; rintro ev wq ⟨rfl, hh, hx⟩; have HF := Lib.hid hh; have X2 := Lib.hid hx; obtain ⟨y0, y1, y2, y3, yl⟩ := hx.cells; clear hh hx) | (go_at_call 34; refine (rs2 HF.out PL.out.ok HKP.out hb0 (HA.out.trans (HF.out.s.be.mono HA.out.size)) X2.out).mono ?_; rintro ev wq ⟨rfl, hh, hx⟩; have B3 := Lib.hid hh; have X3 := Lib.hid hx; obtain ⟨x0, x1, x2, x3, xl⟩ := hx.cells; clear hh hx) | (go_at_call 11; refine (op1 E.out B3.out PLR.out.ok HAX.out).mono ?_; rintro ev wq ⟨bn, Ao, co, rfl, hf, ht⟩; have FO := Lib.hid hf; have TO := Lib.hid ht; clear hf ht) | (go_at_call 23; refine (op2 E.out FO.out TO.out PLR.out.ok HAX.out).mono ?_; rintro ev wq ⟨rn, Ap, cp, rfl, hh, ht1, ht2⟩; have B5 := Lib.hid hh; have T5 := Lib.hid ht1; have T6 := Lib.hid ht2; clear hh ht1 ht2) | (go_at_call 14; refine (same_texts (by omega) T5.out T6.out).mono ?_; rintro ev wq ⟨rfl, hb⟩; have B6 := Lib.hid (B5.out.below hb); clear hb) | (go_at_call 16; refine (sq1 B6.out.s).mono ?_; rintro ev wq ⟨rfl, rfl⟩; skip) | (go_at_call 26; refine (sq2 B6.out.r).mono ?_; rintro ev wq ⟨rfl, rfl⟩; skip) | (go_at_call 24; refine (two_any _ _ _ _ _ _ B6.out.s.dk B6.out.r.dk PN.out.ok).mono ?_; rintro ev wq ⟨rfl, hb⟩; have B9 := Lib.hid (B6.out.below hb); clear hb))
            go_roundw
            case rel => exact ⟨k + 1, qn, 0, D2, bn, rn, by go_num, rfl, rfl, by omega, by omega, PN.out, B9.out⟩
            case measure => simp [intOf]; omega
          · have pn := (pl_open PLR.out (by omega)).1
            rw [e] at pn
            have PN := Lib.hid pn
            have E := Lib.hid e
            have HNE := Lib.hid hne
            have t1 : (ne == 0) = false := beq_eq_false_iff_ne.2 hne
            have t2 : (ne != 0) = true := bne_iff_ne.2 hne
            clear pn e hne
            go_wp2_with (first | (go_at_call_of 12 (Value.int .i64 9); refine (PKH.out _).mono ?_; rintro ev w1p ⟨rfl, hb⟩; have B1 := Lib.hid ((BB.out.below (below_alloc (Below.refl _ _) _)).below hb); have X1 := Lib.hid (show ActBox _ _ _ _ _ _ from (hb.block wr.heap.size (by simp)).trans (MapKept.heap_alloc wr _).1); obtain ⟨z0, z1, z2, z3, zl⟩ := X1.out.cells; clear hb) | (go_at_call 33; refine (rs1 B1.out PL.out.ok HKP.out hb0 (HA.out.trans (B1.out.s.be.mono HA.out.size)) X1.out).mono ?_; rintro ev wq ⟨rfl, hh, hx⟩; have HF := Lib.hid hh; have X2 := Lib.hid hx; obtain ⟨y0, y1, y2, y3, yl⟩ := hx.cells; clear hh hx) | (go_at_call 34; refine (rs2 HF.out PL.out.ok HKP.out hb0 (HA.out.trans (HF.out.s.be.mono HA.out.size)) X2.out).mono ?_; rintro ev wq ⟨rfl, hh, hx⟩; have B3 := Lib.hid hh; have X3 := Lib.hid hx; obtain ⟨x0, x1, x2, x3, xl⟩ := hx.cells; clear hh hx) | (go_at_call 11; refine (oe1 E.out HNE.out B3.out PLR.out.ok HAX.out).mono ?_; rintro ev wq ⟨rfl, hh⟩; have HO := Lib.hid hh; clear hh) | (go_at_call 23; refine (oe2 E.out HNE.out HO.out PLR.out.ok HAX.out).mono ?_; rintro ev wq ⟨rfl, hh⟩; have B5 := Lib.hid hh; clear hh) | (go_at_call 14; refine (same_nil _).mono ?_; rintro ev wq ⟨rfl, hb⟩; have B6 := Lib.hid (B5.out.below hb); clear hb) | (go_at_call 16; refine (sq1 B6.out.s).mono ?_; rintro ev wq ⟨rfl, rfl⟩; skip) | (go_at_call 26; refine (sq2 B6.out.r).mono ?_; rintro ev wq ⟨rfl, rfl⟩; skip) | (go_at_call 24; refine (two_any _ _ _ _ _ _ B6.out.s.dk B6.out.r.dk PN.out.ok).mono ?_; rintro ev wq ⟨rfl, hb⟩; have B9 := Lib.hid (B6.out.below hb); clear hb))
            go_roundw
            case rel => exact ⟨k + 1, q, er, D2, bx, rx, by go_num, rfl, rfl, by omega, by omega, PN.out, B9.out⟩
            case measure => simp [intOf]; omega
      · as_aux_lemma =>
        have HAX := Lib.hid (show D.acts ≤ 1000 by have := PL.out.acts; omega)
        rcases openP_shape PL.out.ok (by have := HAX.out; omega) with ⟨qi, tt, tl, D2, e, hl⟩ | ⟨ne, D2, hne, e⟩
        · obtain ⟨qn, hqn, pn⟩ := (pl_open PL.out (by omega)).2 qi (by rw [e])
          subst hqn
          rw [e] at pn
          have PN := Lib.hid pn
          have E := Lib.hid e
          clear pn e
          go_wp2_with (first | (go_at_call_of 12 (Value.int .i64 9); refine (PKH.out _).mono ?_; rintro ev w1p ⟨rfl, hb⟩; have B1 := Lib.hid ((BB.out.below (below_alloc (Below.refl _ _) _)).below hb); have X1 := Lib.hid (show ActBox _ _ _ _ _ _ from (hb.block wr.heap.size (by simp)).trans (MapKept.heap_alloc wr _).1); obtain ⟨z0, z1, z2, z3, zl⟩ := X1.out.cells; clear hb) | (go_at_call 11; refine (op1 E.out B1.out PL.out.ok HAX.out).mono ?_; rintro ev wq ⟨bn, Ao, co, rfl, hf, ht⟩; have FO := Lib.hid hf; have TO := Lib.hid ht; clear hf ht) | (go_at_call 23; refine (op2 E.out FO.out TO.out PL.out.ok HAX.out).mono ?_; rintro ev wq ⟨rn, Ap, cp, rfl, hh, ht1, ht2⟩; have B5 := Lib.hid hh; have T5 := Lib.hid ht1; have T6 := Lib.hid ht2; clear hh ht1 ht2) | (go_at_call 14; refine (same_texts (by omega) T5.out T6.out).mono ?_; rintro ev wq ⟨rfl, hb⟩; have B6 := Lib.hid (B5.out.below hb); clear hb) | (go_at_call 16; refine (sq1 B6.out.s).mono ?_; rintro ev wq ⟨rfl, rfl⟩; skip) | (go_at_call 26; refine (sq2 B6.out.r).mono ?_; rintro ev wq ⟨rfl, rfl⟩; skip) | (go_at_call 24; refine (two_any _ _ _ _ _ _ B6.out.s.dk B6.out.r.dk PN.out.ok).mono ?_; rintro ev wq ⟨rfl, hb⟩; have B9 := Lib.hid (B6.out.below hb); clear hb))
          go_roundw
          case rel => exact ⟨k + 1, qn, 0, D2, bn, rn, by go_num, rfl, rfl, by omega, by omega, PN.out, B9.out⟩
          case measure => simp [intOf]; omega
        · have pn := (pl_open PL.out (by omega)).1
          rw [e] at pn
          have PN := Lib.hid pn
          have E := Lib.hid e
          have HNE := Lib.hid hne
          have t1 : (ne == 0) = false := beq_eq_false_iff_ne.2 hne
          have t2 : (ne != 0) = true := bne_iff_ne.2 hne
          clear pn e hne
          go_wp2_with (first | (go_at_call_of 12 (Value.int .i64 9); refine (PKH.out _).mono ?_; rintro ev w1p ⟨rfl, hb⟩; have B1 := Lib.hid ((BB.out.below (below_alloc (Below.refl _ _) _)).below hb); have X1 := Lib.hid (show ActBox _ _ _ _ _ _ from (hb.block wr.heap.size (by simp)).trans (MapKept.heap_alloc wr _).1); obtain ⟨z0, z1, z2, z3, zl⟩ := X1.out.cells; clear hb) | (go_at_call 11; refine (oe1 E.out HNE.out B1.out PL.out.ok HAX.out).mono ?_; rintro ev wq ⟨rfl, hh⟩; have HO := Lib.hid hh; clear hh) | (go_at_call 23; refine (oe2 E.out HNE.out HO.out PL.out.ok HAX.out).mono ?_; rintro ev wq ⟨rfl, hh⟩; have B5 := Lib.hid hh; clear hh) | (go_at_call 14; refine (same_nil _).mono ?_; rintro ev wq ⟨rfl, hb⟩; have B6 := Lib.hid (B5.out.below hb); clear hb) | (go_at_call 16; refine (sq1 B6.out.s).mono ?_; rintro ev wq ⟨rfl, rfl⟩; skip) | (go_at_call 26; refine (sq2 B6.out.r).mono ?_; rintro ev wq ⟨rfl, rfl⟩; skip) | (go_at_call 24; refine (two_any _ _ _ _ _ _ B6.out.s.dk B6.out.r.dk PN.out.ok).mono ?_; rintro ev wq ⟨rfl, hb⟩; have B9 := Lib.hid (B6.out.below hb); clear hb))
          go_roundw
          case rel => exact ⟨k + 1, q, er, D2, bx, rx, by go_num, rfl, rfl, by omega, by omega, PN.out, B9.out⟩
          case measure => simp [intOf]; omega
    · by_cases hl1 : k < xs.length
      · have hk60 : 60 ≤ k := by omega
        clear hlt
        go_wp2
        go_ret
        exact ⟨rfl, HB.out⟩
      · have hk60 : xs.length ≤ k := by omega
        clear hlt hl1
        go_wp2
        go_ret
        exact ⟨rfl, HB.out⟩
end Go.Proofs.YtlmnmjnmilaipaaGreatDoor.Rk
/- Layer 11: WalPlays, of arguments as a row hands them. -/
set_option linter.unusedVariables false
namespace Go.Proofs.YtlmnmjnmilaipaaGreatDoor
open Go.ChangeShapes Go.WideShapes Go.ChangeAt Go.RowKit Go.WideMaps Go.WideElems Go.Deep

set_option maxRecDepth 100000 in
theorem walPlays_walk (v0 : Value) {base base' : Nat} {sp : Nat → Bool} {held : Bool} {H : Type} {enc : TypeId × Value → H} {W : World} {d : DataW H} {p : List MemPlace} (hval : Value.okWide Tryz.prog W .any base 49 v0) (h : DataW.Trod enc Tryz.prog W base' sp held 49 v0 d p)
    (hT : ErrTab W) :
    Calls Tryz.prog 8 #[v0] W fun e w' => e = .returned (.bool true) ∧ Below W.heap.size W w' := by
  obtain ⟨A, c, xs, rfl, hx⟩ := open_readsA hval h
  exact Rk.walPlays_row A c xs W hx hT
end Go.Proofs.YtlmnmjnmilaipaaGreatDoor

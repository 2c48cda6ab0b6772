/- Layer 11: WalFound walked, left = false. -/
import Derived.Test.YtlmnmjnmilaipaaGreatDoorWfA
set_option linter.unusedVariables false
set_option linter.unusedSimpArgs false
namespace Go.Proofs.YtlmnmjnmilaipaaGreatDoor.Rk
open Go Go.RowKit PR Go.Proofs.YtlmnmjnmilaipaaGreatDoorW.PrintWords

set_option maxHeartbeats 40000000 in
set_option maxRecDepth 100000 in
theorem walFound_row0 (sA lA : Option Addr) (sc lc : Nat) (snap log : List EntV) (more behind : ByteArray) (w : World) (hs : ReadsE w sA snap) (hl : ReadsE w lA log) (hm : more.size ≤ maxLen) (hbh : behind.size ≤ maxLen) (hT : ErrTab w) :
    Calls Tryz.prog 5 #[.slice sA snap.length sc, .slice lA log.length lc, .string more, .string behind, .bool false] w fun e w' => e = .returned (.bool true) ∧ Below w.heap.size w w' := by
  have AW := Lib.hid (awake_any w hT)
  have NW := Lib.hid (fun W (hT : ErrTab W) => new_dsk W hT)
  have HS := Lib.hid hs
  have HL := Lib.hid hl
  have hsl := hs.len
  have hll := hl.len
  unfold maxLen at hsl hll hm hbh
  clear hs hl
  -- PATHS
  have L0 := Lib.hid pl_new
  have L0b := Lib.hid (pl_next pl_new)
  have hm1 : 0 ≤ (min (more.size : Int) 300) ∧ (min (more.size : Int) 300) ≤ more.size := by omega
  have hm2 : 0 ≤ (min (behind.size : Int) 300) ∧ (min (behind.size : Int) 300) ≤ behind.size := by omega
  have hc : (0 < snap.length) ∨ (snap.length ≤ 0 ∧ 0 < behind.size) ∨ (snap.length ≤ 0 ∧ behind.size ≤ 0) := by omega
  · rcases hc with hc1 | ⟨hc1, hc2⟩ | ⟨hc1, hc2⟩
    iterate 2
      focus
        as_aux_lemma =>
          go_enter Tryz.func5, Tryz.ntmps5
          go_wp2_with (first | (go_at_call 9; refine AW.out.mono ?_; rintro ev wa ⟨rfl, hb⟩; have HA := Lib.hid hb; clear hb) | (go_at_call 10; refine (new_any _).mono ?_; rintro ev w1 ⟨rfl, hw1⟩; have T0 := Lib.hid (NW.out _ (hT.keep2 HA.out)); rw [← hw1] at T0; have hs1 : w1.heap.size = wa.heap.size + 2 := (by rw [hw1]; simp); clear hw1) | (go_at_call 18; refine (rnew_any _).mono ?_; rintro ev w2 ⟨rfl, hw2⟩; obtain ⟨pp, hs2, hc2⟩ := pre_new T0.out hs1 hw2; have P3 := Lib.hid pp; obtain ⟨db, dbl⟩ := pp.bx.cell; obtain ⟨qb, qbl⟩ := pp.rx.cell; clear hw2 pp))
          have P3d := Lib.hid (Pre.drew P3.out)
          go_region_held3 (fun _ => True) (exact trivial) (first | (go_at_call 22; refine (laid_any sA sc snap w _ HS.out (HA.out.trans (P3d.out.s.be.mono HA.out.size))).mono ?_; rintro ev wq ⟨s1, hs1, rfl, hb⟩; have P4 := Lib.hid (P3d.out.below hb); have hq8 : ¬ 9223372036854775807 < s1.size + (min (behind.size : Int) 300).toNat := (by omega); have hq9 : decide (9223372036854775807 < s1.size + (min (behind.size : Int) 300).toNat) = false := decide_eq_false hq8; have hq7 : (9223372036854775807 < s1.size + (min (behind.size : Int) 300).toNat) = False := eq_false hq8; clear hb) | (go_at_call 19; refine (put2_any L0.out (by omega) P4.out (by decide) (by rw [ByteArray.size_append, ByteArray.size_extract]; unfold maxLen; omega)).mono ?_; rintro ev wq ⟨rfl, D1, l1, hh⟩; have L1 := Lib.hid l1; have P5 := Lib.hid hh; obtain ⟨db, dbl⟩ := hh.bx.cell; obtain ⟨qb, qbl⟩ := hh.rx.cell; clear l1 hh))
          all_goals (
            go_wp2_with fail
            have P5d := Lib.hid (Pre.drew P5.out)
            go_region_held3 (fun _ => True) (exact trivial) (first | (go_at_call 22; refine (laid_any lA lc log w _ HL.out (HA.out.trans (P5d.out.s.be.mono HA.out.size))).mono ?_; rintro ev wq ⟨s2, hs2, rfl, hb⟩; have P6 := Lib.hid (P5d.out.below hb); have hq8 : ¬ 9223372036854775807 < s2.size + (min (more.size : Int) 300).toNat := (by omega); have hq9 : decide (9223372036854775807 < s2.size + (min (more.size : Int) 300).toNat) = false := decide_eq_false hq8; have hq7 : (9223372036854775807 < s2.size + (min (more.size : Int) 300).toNat) = False := eq_false hq8; clear hb) | (go_at_call 19; refine (put2_any L1.out (by omega) P6.out (by decide) (by rw [ByteArray.size_append, ByteArray.size_extract]; unfold maxLen; omega)).mono ?_; rintro ev wq ⟨rfl, D2, l1, hh⟩; have L2 := Lib.hid l1; have P7 := Lib.hid hh; obtain ⟨db, dbl⟩ := hh.bx.cell; obtain ⟨qb, qbl⟩ := hh.rx.cell; clear l1 hh))
            all_goals (
              go_wp2_with fail
              have HAX := Lib.hid (show D2.acts ≤ 1000 by have := L2.out.acts; omega)
              rcases openP_shape L2.out.ok (by have := HAX.out; omega) with ⟨qi, tt, tl, D9, e, hl⟩ | ⟨ne, D9, hne, e⟩
              · obtain ⟨qn, hqn, pn⟩ := (pl_open L2.out (by omega)).2 qi (by rw [e])
                subst hqn
                rw [e] at pn
                dsimp only at pn
                obtain ⟨xr, q2, er2, D10, f1, pn2⟩ := pl_append (er := 0) pn (by omega) (bs ⟨#[120]⟩)
                have PN := Lib.hid pn
                have HAY := Lib.hid (show D9.acts ≤ 1000 by have := pn.acts; omega)
                have PN2 := Lib.hid pn2
                have F1 := Lib.hid f1
                have E := Lib.hid e
                clear pn pn2 f1 e
                refine (po1 E.out P7.out L2.out.ok HAX.out).mono ?_
                rintro ev wo ⟨bn, Ao, co, rfl, hf, ht⟩
                have FO := Lib.hid hf
                have TO := Lib.hid ht
                obtain ⟨db, dbl⟩ := hf.h.bx.cell
                obtain ⟨qb, qbl⟩ := hf.h.rx.cell
                clear hf ht
                go_wp2_with (first | (go_at_call 24; have zz := B8; clear zz; refine (two_any _ _ _ _ _ _ B8.out.h.s.dk B8.out.h.r.dk PN2.out.ok).mono ?_; rintro ev wq ⟨rfl, hb⟩; have B9 := Lib.hid (B8.out.h.below hb); have b0 := And.intro (B8.out.bx.below hb).cell.1 (B8.out.rx.below hb).cell.1; clear hb) | (go_at_call 17; refine (pap1 F1.out B7.out PN.out.ok HAY.out PN.out.seq (by decide)).mono ?_; rintro ev wq ⟨rfl, hh⟩; have HF := Lib.hid hh; obtain ⟨db, dbl⟩ := hh.bx.cell; obtain ⟨qb, qbl⟩ := hh.rx.cell; clear hh) | (go_at_call 25; refine (pap2 F1.out HF.out PN.out.ok HAY.out PN.out.seq (by decide)).mono ?_; rintro ev wq ⟨rfl, hh⟩; have B8 := Lib.hid hh; obtain ⟨db, dbl⟩ := hh.bx.cell; obtain ⟨qb, qbl⟩ := hh.rx.cell; clear hh) | (go_at_call 16; refine (sq1 B8.out.h.s).mono ?_; rintro ev wq ⟨rfl, rfl⟩; skip) | (go_at_call 26; refine (sq2 B8.out.h.r).mono ?_; rintro ev wq ⟨rfl, rfl⟩; skip) | (go_at_call 23; refine (po2 E.out FO.out TO.out L2.out.ok HAX.out).mono ?_; rintro ev wq ⟨rn, Ap, cp, rfl, hh, ht1, ht2⟩; have B5 := Lib.hid hh; have T5 := Lib.hid ht1; have T6 := Lib.hid ht2; obtain ⟨db, dbl⟩ := hh.p.bx.cell; obtain ⟨qb, qbl⟩ := hh.p.rx.cell; clear hh ht1 ht2) | (go_at_call 14; refine (same_texts (by omega) T5.out T6.out).mono ?_; rintro ev wq ⟨rfl, hb⟩; have B6 := Lib.hid (B5.out.below hb); obtain ⟨db, dbl⟩ := B6.out.p.bx.cell; obtain ⟨qb, qbl⟩ := B6.out.p.rx.cell; clear hb) | (go_at_call 24; refine (two_any _ _ _ _ _ _ B6.out.h.s.dk B6.out.h.r.dk PN.out.ok).mono ?_; rintro ev wq ⟨rfl, hb⟩; have B7 := Lib.hid (B6.out.below hb); obtain ⟨db, dbl⟩ := B7.out.p.bx.cell; obtain ⟨qb, qbl⟩ := B7.out.p.rx.cell; clear hb))
                all_goals go_ret
                all_goals exact ⟨rfl, HA.out.trans (B9.out.s.be.mono HA.out.size)⟩
              · have pn := (pl_open L2.out (by omega)).1
                rw [e] at pn
                dsimp only at pn
                have PN := Lib.hid pn
                have E := Lib.hid e
                have HNE := Lib.hid hne
                have t1 : (ne == 0) = false := beq_eq_false_iff_ne.2 hne
                have t2 : (ne != 0) = true := bne_iff_ne.2 hne
                clear pn e hne
                refine (pe1 E.out HNE.out P7.out L2.out.ok HAX.out).mono ?_
                rintro ev wo ⟨rfl, hf⟩
                have HO := Lib.hid hf
                obtain ⟨db, dbl⟩ := hf.bx.cell
                obtain ⟨qb, qbl⟩ := hf.rx.cell
                clear hf
                go_wp2_with (first | (go_at_call 23; refine (pe2 E.out HNE.out HO.out L2.out.ok HAX.out).mono ?_; rintro ev wq ⟨rfl, hh⟩; have B5 := Lib.hid hh; obtain ⟨db, dbl⟩ := hh.bx.cell; obtain ⟨qb, qbl⟩ := hh.rx.cell; clear hh) | (go_at_call 14; refine (same_nil _).mono ?_; rintro ev wq ⟨rfl, hb⟩; have B6 := Lib.hid (B5.out.below hb); obtain ⟨db, dbl⟩ := B6.out.bx.cell; obtain ⟨qb, qbl⟩ := B6.out.rx.cell; clear hb) | (go_at_call 24; refine (two_any _ _ _ _ _ _ B6.out.s.dk B6.out.r PN.out.ok).mono ?_; rintro ev wq ⟨rfl, hb⟩; have B7 := Lib.hid (B6.out.below hb); clear hb))
                go_ret
                exact ⟨rfl, HA.out.trans (B7.out.s.be.mono HA.out.size)⟩))
    · as_aux_lemma =>
      go_enter Tryz.func5, Tryz.ntmps5
      go_wp2_with (first | (go_at_call 9; refine AW.out.mono ?_; rintro ev wa ⟨rfl, hb⟩; have HA := Lib.hid hb; clear hb) | (go_at_call 10; refine (new_any _).mono ?_; rintro ev w1 ⟨rfl, hw1⟩; have T0 := Lib.hid (NW.out _ (hT.keep2 HA.out)); rw [← hw1] at T0; have hs1 : w1.heap.size = wa.heap.size + 2 := (by rw [hw1]; simp); clear hw1) | (go_at_call 18; refine (rnew_any _).mono ?_; rintro ev w2 ⟨rfl, hw2⟩; obtain ⟨pp, hs2, hc2⟩ := pre_new T0.out hs1 hw2; have P3 := Lib.hid pp; obtain ⟨db, dbl⟩ := pp.bx.cell; obtain ⟨qb, qbl⟩ := pp.rx.cell; clear hw2 pp))
      have P5d := Lib.hid (Pre.drew P3.out)
      go_region_held3 (fun _ => True) (exact trivial) (first | (go_at_call 22; refine (laid_any lA lc log w _ HL.out (HA.out.trans (P5d.out.s.be.mono HA.out.size))).mono ?_; rintro ev wq ⟨s2, hs2, rfl, hb⟩; have P6 := Lib.hid (P5d.out.below hb); have hq8 : ¬ 9223372036854775807 < s2.size + (min (more.size : Int) 300).toNat := (by omega); have hq9 : decide (9223372036854775807 < s2.size + (min (more.size : Int) 300).toNat) = false := decide_eq_false hq8; have hq7 : (9223372036854775807 < s2.size + (min (more.size : Int) 300).toNat) = False := eq_false hq8; clear hb) | (go_at_call 19; refine (put2_any L0b.out (by omega) P6.out (by decide) (by rw [ByteArray.size_append, ByteArray.size_extract]; unfold maxLen; omega)).mono ?_; rintro ev wq ⟨rfl, D2, l1, hh⟩; have L2 := Lib.hid l1; have P7 := Lib.hid hh; obtain ⟨db, dbl⟩ := hh.bx.cell; obtain ⟨qb, qbl⟩ := hh.rx.cell; clear l1 hh))
      all_goals (
        go_wp2_with fail
        have HAX := Lib.hid (show D2.acts ≤ 1000 by have := L2.out.acts; omega)
        rcases openP_shape L2.out.ok (by have := HAX.out; omega) with ⟨qi, tt, tl, D9, e, hl⟩ | ⟨ne, D9, hne, e⟩
        · obtain ⟨qn, hqn, pn⟩ := (pl_open L2.out (by omega)).2 qi (by rw [e])
          subst hqn
          rw [e] at pn
          dsimp only at pn
          obtain ⟨xr, q2, er2, D10, f1, pn2⟩ := pl_append (er := 0) pn (by omega) (bs ⟨#[120]⟩)
          have PN := Lib.hid pn
          have HAY := Lib.hid (show D9.acts ≤ 1000 by have := pn.acts; omega)
          have PN2 := Lib.hid pn2
          have F1 := Lib.hid f1
          have E := Lib.hid e
          clear pn pn2 f1 e
          refine (po1 E.out P7.out L2.out.ok HAX.out).mono ?_
          rintro ev wo ⟨bn, Ao, co, rfl, hf, ht⟩
          have FO := Lib.hid hf
          have TO := Lib.hid ht
          obtain ⟨db, dbl⟩ := hf.h.bx.cell
          obtain ⟨qb, qbl⟩ := hf.h.rx.cell
          clear hf ht
          go_wp2_with (first | (go_at_call 24; have zz := B8; clear zz; refine (two_any _ _ _ _ _ _ B8.out.h.s.dk B8.out.h.r.dk PN2.out.ok).mono ?_; rintro ev wq ⟨rfl, hb⟩; have B9 := Lib.hid (B8.out.h.below hb); have b0 := And.intro (B8.out.bx.below hb).cell.1 (B8.out.rx.below hb).cell.1; clear hb) | (go_at_call 17; refine (pap1 F1.out B7.out PN.out.ok HAY.out PN.out.seq (by decide)).mono ?_; rintro ev wq ⟨rfl, hh⟩; have HF := Lib.hid hh; obtain ⟨db, dbl⟩ := hh.bx.cell; obtain ⟨qb, qbl⟩ := hh.rx.cell; clear hh) | (go_at_call 25; refine (pap2 F1.out HF.out PN.out.ok HAY.out PN.out.seq (by decide)).mono ?_; rintro ev wq ⟨rfl, hh⟩; have B8 := Lib.hid hh; obtain ⟨db, dbl⟩ := hh.bx.cell; obtain ⟨qb, qbl⟩ := hh.rx.cell; clear hh) | (go_at_call 16; refine (sq1 B8.out.h.s).mono ?_; rintro ev wq ⟨rfl, rfl⟩; skip) | (go_at_call 26; refine (sq2 B8.out.h.r).mono ?_; rintro ev wq ⟨rfl, rfl⟩; skip) | (go_at_call 23; refine (po2 E.out FO.out TO.out L2.out.ok HAX.out).mono ?_; rintro ev wq ⟨rn, Ap, cp, rfl, hh, ht1, ht2⟩; have B5 := Lib.hid hh; have T5 := Lib.hid ht1; have T6 := Lib.hid ht2; obtain ⟨db, dbl⟩ := hh.p.bx.cell; obtain ⟨qb, qbl⟩ := hh.p.rx.cell; clear hh ht1 ht2) | (go_at_call 14; refine (same_texts (by omega) T5.out T6.out).mono ?_; rintro ev wq ⟨rfl, hb⟩; have B6 := Lib.hid (B5.out.below hb); obtain ⟨db, dbl⟩ := B6.out.p.bx.cell; obtain ⟨qb, qbl⟩ := B6.out.p.rx.cell; clear hb) | (go_at_call 24; refine (two_any _ _ _ _ _ _ B6.out.h.s.dk B6.out.h.r.dk PN.out.ok).mono ?_; rintro ev wq ⟨rfl, hb⟩; have B7 := Lib.hid (B6.out.below hb); obtain ⟨db, dbl⟩ := B7.out.p.bx.cell; obtain ⟨qb, qbl⟩ := B7.out.p.rx.cell; clear hb))
          all_goals go_ret
          all_goals exact ⟨rfl, HA.out.trans (B9.out.s.be.mono HA.out.size)⟩
        · have pn := (pl_open L2.out (by omega)).1
          rw [e] at pn
          dsimp only at pn
          have PN := Lib.hid pn
          have E := Lib.hid e
          have HNE := Lib.hid hne
          have t1 : (ne == 0) = false := beq_eq_false_iff_ne.2 hne
          have t2 : (ne != 0) = true := bne_iff_ne.2 hne
          clear pn e hne
          refine (pe1 E.out HNE.out P7.out L2.out.ok HAX.out).mono ?_
          rintro ev wo ⟨rfl, hf⟩
          have HO := Lib.hid hf
          obtain ⟨db, dbl⟩ := hf.bx.cell
          obtain ⟨qb, qbl⟩ := hf.rx.cell
          clear hf
          go_wp2_with (first | (go_at_call 23; refine (pe2 E.out HNE.out HO.out L2.out.ok HAX.out).mono ?_; rintro ev wq ⟨rfl, hh⟩; have B5 := Lib.hid hh; obtain ⟨db, dbl⟩ := hh.bx.cell; obtain ⟨qb, qbl⟩ := hh.rx.cell; clear hh) | (go_at_call 14; refine (same_nil _).mono ?_; rintro ev wq ⟨rfl, hb⟩; have B6 := Lib.hid (B5.out.below hb); obtain ⟨db, dbl⟩ := B6.out.bx.cell; obtain ⟨qb, qbl⟩ := B6.out.rx.cell; clear hb) | (go_at_call 24; refine (two_any _ _ _ _ _ _ B6.out.s.dk B6.out.r PN.out.ok).mono ?_; rintro ev wq ⟨rfl, hb⟩; have B7 := Lib.hid (B6.out.below hb); clear hb))
          go_ret
          exact ⟨rfl, HA.out.trans (B7.out.s.be.mono HA.out.size)⟩)
end Go.Proofs.YtlmnmjnmilaipaaGreatDoor.Rk

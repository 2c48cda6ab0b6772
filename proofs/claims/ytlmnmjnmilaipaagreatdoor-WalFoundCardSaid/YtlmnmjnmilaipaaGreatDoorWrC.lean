/- The reference's Open walked. -/
import Derived.Test.YtlmnmjnmilaipaaGreatDoorWrB
set_option linter.unusedVariables false
set_option linter.unusedSimpArgs false
namespace Go.Proofs.YtlmnmjnmilaipaaGreatDoor.Rk
open Go Go.RowKit PR Go.Proofs.YtlmnmjnmilaipaaGreatDoorW.PrintWords

/-- Block rw is the reference's log on the disk rb. -/
def RW (w : World) (rb rw : Nat) (W : Wl) : Prop := w.heap[rw]? = some (.cells #[.pointer (some ⟨rb, 0, none⟩), .int .i64 W.seq, .int .i64 W.err] 105)
def ROpen (base rb : Nat) (R : OpenR) (w : World) (e : Ending) (w' : World) : Prop := Only (RS w base rb) w w' ∧ RDk w' base rb R.disk ∧
  ((R.err ≠ 0 ∧ e = .returned (.tuple #[.pointer none, .string ⟨#[]⟩, .slice none 0 0, .int .i64 R.err])) ∨
   (R.err = 0 ∧ ∃ rw v q, R.seq = some q ∧ w.heap.size ≤ rw ∧ e = .returned (.tuple #[.pointer (some ⟨rw, 0, none⟩), .string (ba R.text), v, .int .i64 0]) ∧ RW w' rb rw ⟨q, 0⟩ ∧ Kd.R Kd.string 9 w' w.heap.size (fun _ => True) v (R.recs.map ba)))
theorem ropen_err {base rb : Nat} {R : OpenR} {w w' : World} {e : Ending} {n : Int} {D' : Dk} (h1 : R.err = n) (h2 : R.disk = D') (hn : n ≠ 0) (he : e = .returned (.tuple #[.pointer none, .string ⟨#[]⟩, .slice none 0 0, .int .i64 n])) (h : RDk w' base rb D') (ho : Only (RS w base rb) w w') : ROpen base rb R w e w' := by
  subst h1 h2
  exact ⟨ho, h, .inl ⟨hn, he⟩⟩
theorem logOf_facts {q : Int} {s : Bs} {all : List Ent} {u : Nat} {m : Bool} (h : logOf q s = some (all, u, m)) : ordP q all = true ∧ 0 ≤ firstP all ∧ firstP all ≤ 1099511627776 ∧ all.length ≤ s.length := by
  refine ⟨?_, ?_, ?_, logOf_len h⟩
  all_goals
    unfold logOf at h
    cases hp : parseP (allP (s.length + 1) s).1 with
    | none => rw [hp] at h; cases h
    | some es =>
      rw [hp] at h
      dsimp only at h
      split at h
      · cases h
      · split at h
        · rename_i ho
          obtain ⟨rfl, _⟩ := Prod.mk.inj (Option.some.inj h)
          have hb := parse_bounds _ _ hp
          first
            | exact ho
            | (unfold firstP
               cases es with
               | nil => simp
               | cons y t =>
                 have := hb 0 (by simp)
                 simp only [List.getD_cons_zero] at this
                 simp only [List.head?_cons, Option.map_some, Option.getD_some]
                 omega)
        · cases h
/-- The log of whatever file there is. -/
theorem rlog_any (base rb : Nat) (D : Dk) (q : Nat) (w : World) (h : RDk w base rb D) (hD : D.Ok) (ha : D.acts + 3 < 4611686018427387904) (hoff : D.off = false) (hq : q ≤ 1099511627776) :
    Calls Tryz.prog 58 #[.pointer (some ⟨rb, 0, none⟩), .int .i64 (q : Int)] w (RLogPost base rb D ((fileP D kLog).getD []) (logOf q ((fileP D kLog).getD [])) w) := by
  cases hg : aget D.files kLog with
  | none =>
    have e : (fileP D kLog).getD [] = [] := by unfold fileP; rw [hg]; rfl
    rw [e]
    exact rlog_none base rb D q w h hD hg
  | some f =>
    have e : (fileP D kLog).getD [] = bs f.1 := by unfold fileP; rw [hg]; rfl
    rw [e]
    exact rlog_some base rb D q f w h hD ha hoff hq hg
set_option maxHeartbeats 4000000 in
set_option maxRecDepth 100000 in
theorem ropen_off (base rb : Nat) (D : Dk) (w : World) (h : RDk w base rb D) (hoff : D.off = true) :
    Calls Tryz.prog 23 #[.pointer (some ⟨rb, 0, none⟩)] w (ROpen base rb (openP D) w) := by
  have e : openP D = ⟨none, [], [], 100, D⟩ := by unfold openP; rw [if_pos hoff]
  rw [e]
  have c3 := h.c3
  rw [hoff] at c3
  have O := Lib.hid (show Calls Tryz.prog 54 #[.pointer (some ⟨rb, 0, none⟩)] w fun e w' => e = .returned (.bool true) ∧ w = w' by
    go_enter Tryz.func54, Tryz.ntmps54
    go_wp2
    go_ret
    exact ⟨rfl, rfl⟩)
  have H := Lib.hid h
  clear h e hoff c3
  go_enter Tryz.func23, Tryz.ntmps23
  go_wp2_with (go_at_call 54; refine O.out.mono ?_; rintro ev w1 ⟨rfl, rfl⟩)
  exact bodyPost_ret (v := .tuple #[.pointer none, .string ⟨#[]⟩, .slice none 0 0, .int .i64 100]) (by simp [results, Tryz.results23, go_sem]) rfl (ropen_err rfl rfl (show (100 : Int) ≠ 0 by decide) rfl H.out (Only.refl _ _))
theorem rdoff_any (base rb : Nat) (D : Dk) (w : World) (h : RDk w base rb D) : Calls Tryz.prog 54 #[.pointer (some ⟨rb, 0, none⟩)] w fun e w' => e = .returned (.bool D.off) ∧ w = w' := by
  have c3 := h.c3
  clear h
  go_enter Tryz.func54, Tryz.ntmps54
  go_wp2
  go_ret
  exact ⟨rfl, rfl⟩
/-- What holds at a round's head of Open's loop. -/
structure RRel (rw rb : Nat) (q : Int) (xs : List Ent) (w0 : World) (k : Nat) (v : Value) (wr : World) : Prop where
  kl : k ≤ xs.length
  row : Kd.R Kd.string 9 wr w0.heap.size (fun j => w0.heap.size ≤ j) v ((keepL q (xs.take k)).map fun x => ba x.2)
  wal : RW wr rb rw ⟨logSeq q (keepL q (xs.take k)), 0⟩
  only : Only (· = rw) w0 wr
theorem RRel.start {rw rb : Nat} {q : Int} {xs : List Ent} {w0 : World} (h : RW w0 rb rw ⟨q, 0⟩) : RRel rw rb q xs w0 0 (.slice none 0 0) w0 :=
  ⟨Nat.zero_le _, Kd.R_nil _ _ _ _ _, h, Only.refl _ _⟩
theorem RRel.skip {rw rb : Nat} {q : Int} {xs : List Ent} {w0 wr : World} {k : Nat} {v : Value} (h : RRel rw rb q xs w0 k v wr) (hk : k < xs.length) (hx : ¬ q < (xs.getD k ent0).1) : RRel rw rb q xs w0 (k + 1) v wr := by
  have e : keepL q (xs.take (k + 1)) = keepL q (xs.take k) := by rw [take_getD xs k hk, keep_snoc, if_neg hx]
  exact ⟨hk, by rw [e]; exact h.row, by rw [e]; exact h.wal, h.only⟩
theorem RRel.step {rw rb : Nat} {q : Int} {xs : List Ent} {w0 wr w3 : World} {k : Nat} {v v3 : Value} (h : RRel rw rb q xs w0 k v wr) (hk : k < xs.length) (hx : q < (xs.getD k ent0).1) (hbw : rw < w0.heap.size)
    (hr : Kd.R Kd.string 9 w3 w0.heap.size (fun j => w0.heap.size ≤ j) v3 ((keepL q (xs.take k)).map (fun x => ba x.2) ++ [ba (xs.getD k ent0).2])) (hg : wr.grownBy w3 v.ownBlock) :
    RRel rw rb q xs w0 (k + 1) v3 (w3.setCell ⟨rw, 1, none⟩ (.int .i64 (xs.getD k ent0).1)) := by
  have e : keepL q (xs.take (k + 1)) = keepL q (xs.take k) ++ [xs.getD k ent0] := by rw [take_getD xs k hk, keep_snoc, if_pos hx]
  have hvo : ∀ j, v.ownBlock = some j → w0.heap.size ≤ j := fun j hj => h.row.1 j hj
  have ho : Only (· = rw) w0 w3 := h.only.trans' (Only.of_grown (S := fun j => w0.heap.size ≤ j) hg (fun j hj _ => hvo j hj)) (fun _ _ h => h) (fun j hj hs => absurd hj (by omega))
  refine ⟨hk, ?_, ?_, ho.setCell (fun _ => rfl) _⟩
  · rw [e, List.map_append]
    exact Kd.R_far hr (p := ⟨rw, 1, none⟩) (fun j hj => by show j ≠ rw; omega) _
  · have h1 : w3.heap[rw]? = wr.heap[rw]? := by
      have hs := h.only.size
      exact hg.block rw (by omega) (fun e => by have := hvo rw e.symm; omega)
    rw [e, logSeq_snoc]
    exact blk_setCell (h1.trans h.wal) _
theorem RRel.grown {rw rb : Nat} {q : Int} {xs : List Ent} {w0 wr w3 : World} {k : Nat} {v : Value} (h : RRel rw rb q xs w0 k v wr) (hbw : rw < w0.heap.size) (hg : wr.grownBy w3 v.ownBlock) :
    w3.cell? ⟨rw, 1, none⟩ = some (.int .i64 (logSeq q (keepL q (xs.take k)))) ∧ w3.frozen? ⟨rw, 1, none⟩ = false ∧ rw < w3.heap.size := by
  have hvo : ∀ j, v.ownBlock = some j → w0.heap.size ≤ j := fun j hj => h.row.1 j hj
  have hs := h.only.size
  have h1 : w3.heap[rw]? = wr.heap[rw]? := hg.block rw (by omega) (fun e => by have := hvo rw e.symm; omega)
  have h2 := h1.trans h.wal
  refine ⟨by simp [World.cell?, h2], by simp [World.frozen?, h2], (Array.getElem?_eq_some_iff.1 h2).1⟩
theorem RDk.past {w w' : World} {base rb r : Nat} {D : Dk} (h : RDk w base rb D) (ho : Only (· = r) w w') (hr : w.heap.size ≤ r) : RDk w' base rb D := by
  obtain ⟨l, v, h⟩ := h
  exact ⟨l, v, h.only ho (fun e => by have := h.lt; omega) (fun k hk e => by have := (h.row_ne k hk).2.2.1; omega)⟩
theorem ropen_ok {base rb : Nat} {D5 : Dk} {w w4 W0 wr : World} {q : Int} {text : Bs} {xs : List Ent} {v : Value} {e : Ending} (hV : RDk w4 base rb D5 ∧ Only (RS w base rb) w w4) (hB : Below w4.heap.size w4 W0) (f2 : Kd.R Kd.string 9 wr W0.heap.size (fun j => W0.heap.size ≤ j) v (xs.map fun x => ba x.2))
    (f3 : RW wr rb w4.heap.size ⟨logSeq q xs, 0⟩) (f4 : Only (· = w4.heap.size) W0 wr) (he : e = .returned (.tuple #[.pointer (some ⟨w4.heap.size, 0, none⟩), .string (ba text), v, .int .i64 0])) : ROpen base rb ⟨some (logSeq q xs), text, xs.map (·.2), 0, D5⟩ w e wr := by
  have hs := hV.2.size
  have hb := hB.size
  have h40 : Only (· = w4.heap.size) w4 wr := (Only.of_below (S := (· = w4.heap.size)) hB).trans f4
  refine ⟨(hV.2.then_below hB).trans' f4 (fun _ _ h => h) (fun j hj e => by omega), hV.1.past h40 (Nat.le_refl _), .inr ⟨rfl, w4.heap.size, v, _, rfl, hs, he, f3, ?_⟩⟩
  rw [List.map_map]
  exact Kd.R_mono (Kd.R_lower f2 (by omega)) (fun _ _ => trivial)
-- OPEN
set_option maxHeartbeats 8000000 in
set_option maxRecDepth 100000 in
theorem ropen_on (base rb : Nat) (D : Dk) (w : World) (h : RDk w base rb D) (hD : D.Ok) (ha : D.acts + 4 < 4611686018427387904) (hoff : D.off = false) :
    Calls Tryz.prog 23 #[.pointer (some ⟨rb, 0, none⟩)] w (ROpen base rb (openP D) w) := by
  have O := Lib.hid (rdoff_any base rb D w h)
  have L := Lib.hid (rhas_any base rb D kNew w h hD)
  have RM := Lib.hid (fun W (hW : RDk W base rb D) => rd_remove (nm := kNew) hW hD)
  have rok := Dk.remove_ok hD (by omega) kNew
  have rac := Dk.remove_acts D kNew
  have H := Lib.hid h
  rw [hoff] at O
  rw [openP_on hoff]
  by_cases hn : (aget D.files kNew).isSome = true
  · rw [hn] at L
    rw [hn, if_pos rfl]
    have hro := remove_on hoff (k := kNew)
    obtain ⟨r1, D1, hr1⟩ : ∃ r1 D1, D.remove kNew = (r1, D1) := ⟨_, _, rfl⟩
    rw [hr1] at RM rok rac hro ⊢
    dsimp only at RM rok rac hro ⊢
    by_cases h1 : r1 ≠ 0
    · rw [if_pos h1]
      have H1 := Lib.hid h1
      have t1 : (r1 == 0) = false := beq_eq_false_iff_ne.2 h1
      clear hr1 rok rac h hD hn hro
      go_enter Tryz.func23, Tryz.ntmps23
      go_wp2_with (first | (go_at_call 54; refine O.out.mono ?_; rintro ev w1 ⟨rfl, rfl⟩) | (go_at_call 55; refine L.out.mono ?_; rintro ev w1 ⟨rfl, hb⟩; have HZ := Lib.hid (And.intro (H.out.below hb) (RS.below (base := base) (b := rb) hb)); clear hb) | (go_at_call 56; refine (RM.out _ HZ.out.1).mono ?_; rintro ev w2 ⟨rfl, hd, ho⟩; have HY := Lib.hid (And.intro hd (RS.trans HZ.out.2 ho)); clear hd ho))
      exact bodyPost_ret (v := .tuple #[.pointer none, .string ⟨#[]⟩, .slice none 0 0, .int .i64 r1]) (by simp [results, Tryz.results23, go_sem]) rfl (ropen_err rfl rfl H1.out rfl HY.out.1 HY.out.2)
    · obtain rfl : r1 = 0 := by simpa using h1
      rw [if_neg (by simp)]
      have ok0 := rok
      have ac0 : D1.acts + 3 < 4611686018427387904 := by omega
      have off0 := hro rfl
      clear hr1 rok rac h hD hn hro hoff h1
      generalize D1 = D0 at *
      have SN := Lib.hid (fun W (hW : RDk W base rb D0) => rsnap_any base rb D0 W hW ok0 off0)
      unfold open2
      cases hs : snapOf (fileP D0 kSnap) with
      | none =>
        rw [hs] at SN
        unfold snapV at SN
        dsimp only at SN ⊢
        clear hs ok0 ac0 off0
        go_enter Tryz.func23, Tryz.ntmps23
        go_wp2_with (first | (go_at_call 54; refine O.out.mono ?_; rintro ev w1 ⟨rfl, rfl⟩) | (go_at_call 55; refine L.out.mono ?_; rintro ev w1 ⟨rfl, hb⟩; have HZ := Lib.hid (And.intro (H.out.below hb) (RS.below (base := base) (b := rb) hb)); clear hb) | (go_at_call 56; refine (RM.out _ HZ.out.1).mono ?_; rintro ev w2 ⟨rfl, hd, ho⟩; have HY := Lib.hid (And.intro hd (RS.trans HZ.out.2 ho)); clear hd ho) | (go_at_call 57; refine (SN.out _ HY.out.1).mono ?_; rintro ev w3 ⟨rfl, hb⟩; have HX := Lib.hid (And.intro (HY.out.1.below hb) (RS.trans HY.out.2 (RS.below (base := base) (b := rb) hb))); clear hb))
        exact bodyPost_ret (v := .tuple #[.pointer none, .string ⟨#[]⟩, .slice none 0 0, .int .i64 110]) (by simp [results, Tryz.results23, go_sem]) rfl (ropen_err rfl rfl (show (110 : Int) ≠ 0 by decide) rfl HX.out.1 HX.out.2)
      | some x =>
        rw [hs] at SN
        obtain ⟨q, text⟩ := x
        obtain ⟨hq0, hq1⟩ := snapOf_bound hs
        obtain ⟨q, rfl⟩ : ∃ m : Nat, q = m := ⟨q.toNat, by dsimp only at hq0; omega⟩
        unfold snapV at SN
        dsimp only at SN hq1 ⊢
        have hq2 : q ≤ 1099511627776 := by omega
        have LG := Lib.hid (fun W (hW : RDk W base rb D0) => rlog_any base rb D0 q W hW ok0 ac0 off0 hq2)
        have hfl : ((fileP D0 kLog).getD []).length ≤ 65536 := by
          have := file_size ok0 kLog
          rwa [← bs_len, bs_fileV] at this
        generalize (fileP D0 kLog).getD [] = fl at *
        cases hl : logOf q fl with
        | none =>
          rw [hl] at LG
          unfold RLogPost at LG
          dsimp only at LG ⊢
          clear hs hl ok0 ac0 off0
          go_enter Tryz.func23, Tryz.ntmps23
          go_wp2_with (first | (go_at_call 54; refine O.out.mono ?_; rintro ev w1 ⟨rfl, rfl⟩) | (go_at_call 55; refine L.out.mono ?_; rintro ev w1 ⟨rfl, hb⟩; have HZ := Lib.hid (And.intro (H.out.below hb) (RS.below (base := base) (b := rb) hb)); clear hb) | (go_at_call 56; refine (RM.out _ HZ.out.1).mono ?_; rintro ev w2 ⟨rfl, hd, ho⟩; have HY := Lib.hid (And.intro hd (RS.trans HZ.out.2 ho)); clear hd ho) | (go_at_call 57; refine (SN.out _ HY.out.1).mono ?_; rintro ev w3 ⟨rfl, hb⟩; have HX := Lib.hid (And.intro (HY.out.1.below hb) (RS.trans HY.out.2 (RS.below (base := base) (b := rb) hb))); clear hb) | (go_at_call 58; refine (LG.out _ HX.out.1).mono ?_; rintro ev w4 ⟨rfl, hd, ho⟩; have HV := Lib.hid (And.intro hd (RS.trans HX.out.2 ho)); clear hd ho))
          exact bodyPost_ret (v := .tuple #[.pointer none, .string ⟨#[]⟩, .slice none 0 0, .int .i64 110]) (by simp [results, Tryz.results23, go_sem]) rfl (ropen_err rfl rfl (show (110 : Int) ≠ 0 by decide) rfl HV.out.1 HV.out.2)
        | some r =>
          obtain ⟨all, used, more⟩ := r
          rw [hl] at LG
          obtain ⟨hor, hf0, hf1, hal⟩ := logOf_facts hl
          unfold RLogPost at LG
          dsimp only at LG ⊢
          generalize mendP D0 fl used more = M at *
          obtain ⟨mr, D5⟩ := M
          dsimp only at LG ⊢
          by_cases hm : mr ≠ 0
          · rw [if_pos hm]
            have HM := Lib.hid hm
            have t1 : (mr == 0) = false := beq_eq_false_iff_ne.2 hm
            clear hs hl ok0 ac0 off0 hor hm
            go_enter Tryz.func23, Tryz.ntmps23
            go_wp2_with (first | (go_at_call 54; refine O.out.mono ?_; rintro ev w1 ⟨rfl, rfl⟩) | (go_at_call 55; refine L.out.mono ?_; rintro ev w1 ⟨rfl, hb⟩; have HZ := Lib.hid (And.intro (H.out.below hb) (RS.below (base := base) (b := rb) hb)); clear hb) | (go_at_call 56; refine (RM.out _ HZ.out.1).mono ?_; rintro ev w2 ⟨rfl, hd, ho⟩; have HY := Lib.hid (And.intro hd (RS.trans HZ.out.2 ho)); clear hd ho) | (go_at_call 57; refine (SN.out _ HY.out.1).mono ?_; rintro ev w3 ⟨rfl, hb⟩; have HX := Lib.hid (And.intro (HY.out.1.below hb) (RS.trans HY.out.2 (RS.below (base := base) (b := rb) hb))); clear hb) | (go_at_call 58; refine (LG.out _ HX.out.1).mono ?_; rintro ev w4 ⟨v4, rfl, hr, hd, ho⟩; have hzz := HX.out.2.size; obtain ⟨A4, c4, rfl⟩ := Kd.R_slice hr; have HR4 := Lib.hid hr; have HV := Lib.hid (And.intro hd (RS.trans HX.out.2 ho)); have hz4 := ho.size; clear hd ho hr))
            exact bodyPost_ret (v := .tuple #[.pointer none, .string ⟨#[]⟩, .slice none 0 0, .int .i64 mr]) (by simp [results, Tryz.results23, go_sem]) rfl (ropen_err rfl rfl HM.out rfl HV.out.1 HV.out.2)
          · obtain rfl : mr = 0 := by simpa using hm
            rw [if_neg (by simp)]
            have HORD := Lib.hid hor
            have hlm : (all.map fun x => ba x.2).length = all.length := List.length_map _
            have hal2 : all.length ≤ 65536 := Nat.le_trans hal hfl
            clear hs hl ok0 ac0 off0 hor hal hfl hm
            obtain ⟨fn, hfn⟩ : ∃ fn, fn = firstP all := ⟨_, rfl⟩
            rw [← hfn] at hf0 hf1 LG
            have HFN := Lib.hid hfn
            clear hfn
            go_enter Tryz.func23, Tryz.ntmps23
            go_wp2_with (first | (go_at_call 54; refine O.out.mono ?_; rintro ev w1 ⟨rfl, rfl⟩) | (go_at_call 55; refine L.out.mono ?_; rintro ev w1 ⟨rfl, hb⟩; have HZ := Lib.hid (And.intro (H.out.below hb) (RS.below (base := base) (b := rb) hb)); clear hb) | (go_at_call 56; refine (RM.out _ HZ.out.1).mono ?_; rintro ev w2 ⟨rfl, hd, ho⟩; have HY := Lib.hid (And.intro hd (RS.trans HZ.out.2 ho)); clear hd ho) | (go_at_call 57; refine (SN.out _ HY.out.1).mono ?_; rintro ev w3 ⟨rfl, hb⟩; have HX := Lib.hid (And.intro (HY.out.1.below hb) (RS.trans HY.out.2 (RS.below (base := base) (b := rb) hb))); clear hb) | (go_at_call 58; refine (LG.out _ HX.out.1).mono ?_; rintro ev w4 ⟨v4, rfl, hr, hd, ho⟩; have hzz := HX.out.2.size; obtain ⟨A4, c4, rfl⟩ := Kd.R_slice hr; have HR4 := Lib.hid hr; have HV := Lib.hid (And.intro hd (RS.trans HX.out.2 ho)); have hz4 := ho.size; clear hd ho hr))
            obtain ⟨W0, HW0⟩ : ∃ W0, Hid (W0 = w4.alloc (.cells #[.pointer (some ⟨rb, 0, none⟩), .int .i64 (q : Int), .int .i64 0] 105)) := ⟨_, Lib.hid rfl⟩
            have HRW := Lib.hid (show RW W0 rb w4.heap.size ⟨q, 0⟩ by rw [HW0.out]; exact (MapKept.heap_alloc w4 _).1)
            have hs0 : W0.heap.size = w4.heap.size + 1 := by rw [HW0.out]; simp
            have HB0 := Lib.hid (show Below w4.heap.size w4 W0 by rw [HW0.out]; exact below_alloc (Below.refl _ _) _)
            have hw3 := hzz
            rw [← HW0.out]
            go_loopw [15, 16] (fun v i wr => ∃ k : Nat, i = .int .i64 k ∧ RRel w4.heap.size rb q all W0 k v wr) (fun _ i _ => all.length - (intOf i).toNat)
            case atStart => exact ⟨0, rfl, RRel.start HRW.out⟩
            case round =>
              obtain ⟨k, rfl, hrel⟩ := hrel
              have hkl := hrel.kl
              have hrsz := hrel.only.size
              obtain ⟨Av, cv, rfl⟩ := Kd.R_slice hrel.row
              have hlr : ((keepL q (all.take k)).map fun x => ba x.2).length = (keepL q (all.take k)).length := List.length_map _
              have hlk : (keepL q (all.take k)).length ≤ k := Nat.le_trans (keep_len q _) (List.length_take_le _ _)
              rw [hlr] at hrel ⊢
              have HREL := Lib.hid hrel
              have HROW := Lib.hid hrel.row
              have hwal := hrel.wal
              clear hrel
              by_cases hlt : k < all.length
              · obtain ⟨g4, rfl, hc4⟩ := Kd_R_at HR4.out k (by rw [hlm]; exact hlt)
                have hg4 := World.block_lt_of_cell? _ _ hc4
                simp only at hg4
                have hcw := ((HREL.out.only.cell (p := ⟨g4, k, none⟩) (by show g4 < _; omega) (fun e => by have e : g4 = w4.heap.size := e; omega)).trans (HB0.out.cell (p := ⟨g4, k, none⟩) hg4)).trans hc4
                have hx1 := ord_at HORD.out k hlt
                rw [show (all.head?.map (·.1)).getD 0 = fn from HFN.out.symm] at hx1
                rw [show ((all.map fun x => ba x.2).getD k ⟨#[]⟩) = ba (all.getD k ent0).2 from by rw [List.getD_eq_getElem?_getD, List.getElem?_map, List.getD_eq_getElem?_getD, List.getElem?_eq_getElem hlt]; rfl] at hcw
                have HSKIP := Lib.hid (HREL.out.skip hlt)
                have HSTEP := Lib.hid (fun hx w3 v3 => HREL.out.step (w3 := w3) (v3 := v3) hlt hx (by omega))
                rw [hx1] at HSKIP HSTEP
                have hgw : g4 < wr.heap.size := by omega
                have r1 : wr.cell? ⟨w4.heap.size, 1, none⟩ = some (.int .i64 (logSeq q (keepL q (all.take k)))) := by simp [World.cell?, show wr.heap[w4.heap.size]? = _ from hwal]
                have hrl : w4.heap.size < wr.heap.size := by omega
                clear hc4 hg4 hx1 hwal
                generalize ba (all.getD k ent0).2 = p at *
                by_cases hgt : (q : Int) < fn + k
                · have hst := Lib.hid (HSTEP.out hgt)
                  have HG := Lib.hid (fun w3 (hg : wr.grownBy w3 (Value.slice Av (keepL q (all.take k)).length cv).ownBlock) => HREL.out.grown (by omega) hg)
                  have HBASE := Lib.hid hrsz
                  go_wp2_with ((with_reducible refine gate_builtin (b := .append) (xs := #[.tmp 63, .tmp 68]) rfl ?_); (try (refine gate_guard (by rfl) ?_; dsimp only)); at_builtin; go_loud (refine Kd.R_append Kd.string (w0 := wr) W0.heap.size rfl (.tmp 63) (.tmp 68) 22 9 (.string ⟨#[]⟩) 16 rfl Tryz.underlying22 infoStr rfl (by decide) (by decide) (.slice Av (keepL q (all.take k)).length cv) ((keepL q (all.take k)).map fun x => ba x.2) p [.string p] (fun j => W0.heap.size ≤ j) (fun _ => False) (by rfl) (by rfl) rfl (fun _ h => h.elim) (fun j hj => Nat.le_trans HBASE.out hj) HROW.out (Below.refl _ _) HBASE.out (by rw [List.length_map]; omega) ?_; intro v5 w5 ho hb5 hgr _; obtain ⟨x0, x1, x2⟩ := HG.out w5 hgr; have HH := Lib.hid (hst.out w5 v5 ho hgr); clear ho hb5 hgr))
                  go_roundw
                  case rel => exact ⟨k + 1, by go_num, HH.out⟩
                  case measure => simp [intOf]; omega
                · have hsk := Lib.hid (HSKIP.out hgt)
                  have hle : fn + (k : Int) ≤ q := by omega
                  clear hgt
                  go_wp2
                  go_roundw
                  case rel => exact ⟨k + 1, by go_num, hsk.out⟩
                  case measure => simp [intOf]; omega
              · obtain rfl : k = all.length := by omega
                obtain ⟨f1, f2, f3, f4⟩ := HREL.out
                rw [List.take_length] at f2 f3
                clear hwal
                have HF2 := Lib.hid f2
                have HF3 := Lib.hid f3
                have HF4 := Lib.hid f4
                rw [List.take_length]
                clear f1 f2 f3 f4 hlk hlr HROW HREL
                go_wp2
                exact bodyPost_ret (v := .tuple #[.pointer (some ⟨w4.heap.size, 0, none⟩), .string (ba text), .slice Av (keepL q all).length cv, .int .i64 0]) (by simp [results, Tryz.results23, go_sem]) rfl (ropen_ok HV.out HB0.out HF2.out HF3.out HF4.out rfl)
  · have hn' : (aget D.files kNew).isSome = false := by simpa using hn
    rw [hn'] at L
    rw [hn', if_neg (show ¬ (false = true) by simp), if_neg (show ¬ ((0, D) : Int × Dk).1 ≠ 0 by simp)]
    have ok0 := hD
    have ac0 : D.acts + 3 < 4611686018427387904 := by omega
    have off0 := hoff
    clear rok rac h hD hn hn' hoff RM
    generalize D = D0 at *
    have SN := Lib.hid (fun W (hW : RDk W base rb D0) => rsnap_any base rb D0 W hW ok0 off0)
    unfold open2
    cases hs : snapOf (fileP D0 kSnap) with
    | none =>
      rw [hs] at SN
      unfold snapV at SN
      dsimp only at SN ⊢
      clear hs ok0 ac0 off0
      go_enter Tryz.func23, Tryz.ntmps23
      go_wp2_with (first | (go_at_call 54; refine O.out.mono ?_; rintro ev w1 ⟨rfl, rfl⟩) | (go_at_call 55; refine L.out.mono ?_; rintro ev w1 ⟨rfl, hb⟩; have HY := Lib.hid (And.intro (H.out.below hb) (RS.below (base := base) (b := rb) hb)); clear hb) | (go_at_call 57; refine (SN.out _ HY.out.1).mono ?_; rintro ev w3 ⟨rfl, hb⟩; have HX := Lib.hid (And.intro (HY.out.1.below hb) (RS.trans HY.out.2 (RS.below (base := base) (b := rb) hb))); clear hb))
      exact bodyPost_ret (v := .tuple #[.pointer none, .string ⟨#[]⟩, .slice none 0 0, .int .i64 110]) (by simp [results, Tryz.results23, go_sem]) rfl (ropen_err rfl rfl (show (110 : Int) ≠ 0 by decide) rfl HX.out.1 HX.out.2)
    | some x =>
      rw [hs] at SN
      obtain ⟨q, text⟩ := x
      obtain ⟨hq0, hq1⟩ := snapOf_bound hs
      obtain ⟨q, rfl⟩ : ∃ m : Nat, q = m := ⟨q.toNat, by dsimp only at hq0; omega⟩
      unfold snapV at SN
      dsimp only at SN hq1 ⊢
      have hq2 : q ≤ 1099511627776 := by omega
      have LG := Lib.hid (fun W (hW : RDk W base rb D0) => rlog_any base rb D0 q W hW ok0 ac0 off0 hq2)
      have hfl : ((fileP D0 kLog).getD []).length ≤ 65536 := by
        have := file_size ok0 kLog
        rwa [← bs_len, bs_fileV] at this
      generalize (fileP D0 kLog).getD [] = fl at *
      cases hl : logOf q fl with
      | none =>
        rw [hl] at LG
        unfold RLogPost at LG
        dsimp only at LG ⊢
        clear hs hl ok0 ac0 off0
        go_enter Tryz.func23, Tryz.ntmps23
        go_wp2_with (first | (go_at_call 54; refine O.out.mono ?_; rintro ev w1 ⟨rfl, rfl⟩) | (go_at_call 55; refine L.out.mono ?_; rintro ev w1 ⟨rfl, hb⟩; have HY := Lib.hid (And.intro (H.out.below hb) (RS.below (base := base) (b := rb) hb)); clear hb) | (go_at_call 57; refine (SN.out _ HY.out.1).mono ?_; rintro ev w3 ⟨rfl, hb⟩; have HX := Lib.hid (And.intro (HY.out.1.below hb) (RS.trans HY.out.2 (RS.below (base := base) (b := rb) hb))); clear hb) | (go_at_call 58; refine (LG.out _ HX.out.1).mono ?_; rintro ev w4 ⟨rfl, hd, ho⟩; have HV := Lib.hid (And.intro hd (RS.trans HX.out.2 ho)); clear hd ho))
        exact bodyPost_ret (v := .tuple #[.pointer none, .string ⟨#[]⟩, .slice none 0 0, .int .i64 110]) (by simp [results, Tryz.results23, go_sem]) rfl (ropen_err rfl rfl (show (110 : Int) ≠ 0 by decide) rfl HV.out.1 HV.out.2)
      | some r =>
        obtain ⟨all, used, more⟩ := r
        rw [hl] at LG
        obtain ⟨hor, hf0, hf1, hal⟩ := logOf_facts hl
        unfold RLogPost at LG
        dsimp only at LG ⊢
        generalize mendP D0 fl used more = M at *
        obtain ⟨mr, D5⟩ := M
        dsimp only at LG ⊢
        by_cases hm : mr ≠ 0
        · rw [if_pos hm]
          have HM := Lib.hid hm
          have t1 : (mr == 0) = false := beq_eq_false_iff_ne.2 hm
          clear hs hl ok0 ac0 off0 hor hm
          go_enter Tryz.func23, Tryz.ntmps23
          go_wp2_with (first | (go_at_call 54; refine O.out.mono ?_; rintro ev w1 ⟨rfl, rfl⟩) | (go_at_call 55; refine L.out.mono ?_; rintro ev w1 ⟨rfl, hb⟩; have HY := Lib.hid (And.intro (H.out.below hb) (RS.below (base := base) (b := rb) hb)); clear hb) | (go_at_call 57; refine (SN.out _ HY.out.1).mono ?_; rintro ev w3 ⟨rfl, hb⟩; have HX := Lib.hid (And.intro (HY.out.1.below hb) (RS.trans HY.out.2 (RS.below (base := base) (b := rb) hb))); clear hb) | (go_at_call 58; refine (LG.out _ HX.out.1).mono ?_; rintro ev w4 ⟨v4, rfl, hr, hd, ho⟩; have hzz := HX.out.2.size; obtain ⟨A4, c4, rfl⟩ := Kd.R_slice hr; have HR4 := Lib.hid hr; have HV := Lib.hid (And.intro hd (RS.trans HX.out.2 ho)); have hz4 := ho.size; clear hd ho hr))
          exact bodyPost_ret (v := .tuple #[.pointer none, .string ⟨#[]⟩, .slice none 0 0, .int .i64 mr]) (by simp [results, Tryz.results23, go_sem]) rfl (ropen_err rfl rfl HM.out rfl HV.out.1 HV.out.2)
        · obtain rfl : mr = 0 := by simpa using hm
          rw [if_neg (by simp)]
          have HORD := Lib.hid hor
          have hlm : (all.map fun x => ba x.2).length = all.length := List.length_map _
          have hal2 : all.length ≤ 65536 := Nat.le_trans hal hfl
          clear hs hl ok0 ac0 off0 hor hal hfl hm
          obtain ⟨fn, hfn⟩ : ∃ fn, fn = firstP all := ⟨_, rfl⟩
          rw [← hfn] at hf0 hf1 LG
          have HFN := Lib.hid hfn
          clear hfn
          go_enter Tryz.func23, Tryz.ntmps23
          go_wp2_with (first | (go_at_call 54; refine O.out.mono ?_; rintro ev w1 ⟨rfl, rfl⟩) | (go_at_call 55; refine L.out.mono ?_; rintro ev w1 ⟨rfl, hb⟩; have HY := Lib.hid (And.intro (H.out.below hb) (RS.below (base := base) (b := rb) hb)); clear hb) | (go_at_call 57; refine (SN.out _ HY.out.1).mono ?_; rintro ev w3 ⟨rfl, hb⟩; have HX := Lib.hid (And.intro (HY.out.1.below hb) (RS.trans HY.out.2 (RS.below (base := base) (b := rb) hb))); clear hb) | (go_at_call 58; refine (LG.out _ HX.out.1).mono ?_; rintro ev w4 ⟨v4, rfl, hr, hd, ho⟩; have hzz := HX.out.2.size; obtain ⟨A4, c4, rfl⟩ := Kd.R_slice hr; have HR4 := Lib.hid hr; have HV := Lib.hid (And.intro hd (RS.trans HX.out.2 ho)); have hz4 := ho.size; clear hd ho hr))
          obtain ⟨W0, HW0⟩ : ∃ W0, Hid (W0 = w4.alloc (.cells #[.pointer (some ⟨rb, 0, none⟩), .int .i64 (q : Int), .int .i64 0] 105)) := ⟨_, Lib.hid rfl⟩
          have HRW := Lib.hid (show RW W0 rb w4.heap.size ⟨q, 0⟩ by rw [HW0.out]; exact (MapKept.heap_alloc w4 _).1)
          have hs0 : W0.heap.size = w4.heap.size + 1 := by rw [HW0.out]; simp
          have HB0 := Lib.hid (show Below w4.heap.size w4 W0 by rw [HW0.out]; exact below_alloc (Below.refl _ _) _)
          have hw3 := hzz
          rw [← HW0.out]
          go_loopw [15, 16] (fun v i wr => ∃ k : Nat, i = .int .i64 k ∧ RRel w4.heap.size rb q all W0 k v wr) (fun _ i _ => all.length - (intOf i).toNat)
          case atStart => exact ⟨0, rfl, RRel.start HRW.out⟩
          case round =>
            obtain ⟨k, rfl, hrel⟩ := hrel
            have hkl := hrel.kl
            have hrsz := hrel.only.size
            obtain ⟨Av, cv, rfl⟩ := Kd.R_slice hrel.row
            have hlr : ((keepL q (all.take k)).map fun x => ba x.2).length = (keepL q (all.take k)).length := List.length_map _
            have hlk : (keepL q (all.take k)).length ≤ k := Nat.le_trans (keep_len q _) (List.length_take_le _ _)
            rw [hlr] at hrel ⊢
            have HREL := Lib.hid hrel
            have HROW := Lib.hid hrel.row
            have hwal := hrel.wal
            clear hrel
            by_cases hlt : k < all.length
            · obtain ⟨g4, rfl, hc4⟩ := Kd_R_at HR4.out k (by rw [hlm]; exact hlt)
              have hg4 := World.block_lt_of_cell? _ _ hc4
              simp only at hg4
              have hcw := ((HREL.out.only.cell (p := ⟨g4, k, none⟩) (by show g4 < _; omega) (fun e => by have e : g4 = w4.heap.size := e; omega)).trans (HB0.out.cell (p := ⟨g4, k, none⟩) hg4)).trans hc4
              have hx1 := ord_at HORD.out k hlt
              rw [show (all.head?.map (·.1)).getD 0 = fn from HFN.out.symm] at hx1
              rw [show ((all.map fun x => ba x.2).getD k ⟨#[]⟩) = ba (all.getD k ent0).2 from by rw [List.getD_eq_getElem?_getD, List.getElem?_map, List.getD_eq_getElem?_getD, List.getElem?_eq_getElem hlt]; rfl] at hcw
              have HSKIP := Lib.hid (HREL.out.skip hlt)
              have HSTEP := Lib.hid (fun hx w3 v3 => HREL.out.step (w3 := w3) (v3 := v3) hlt hx (by omega))
              rw [hx1] at HSKIP HSTEP
              have hgw : g4 < wr.heap.size := by omega
              have r1 : wr.cell? ⟨w4.heap.size, 1, none⟩ = some (.int .i64 (logSeq q (keepL q (all.take k)))) := by simp [World.cell?, show wr.heap[w4.heap.size]? = _ from hwal]
              have hrl : w4.heap.size < wr.heap.size := by omega
              clear hc4 hg4 hx1 hwal
              generalize ba (all.getD k ent0).2 = p at *
              by_cases hgt : (q : Int) < fn + k
              · have hst := Lib.hid (HSTEP.out hgt)
                have HG := Lib.hid (fun w3 (hg : wr.grownBy w3 (Value.slice Av (keepL q (all.take k)).length cv).ownBlock) => HREL.out.grown (by omega) hg)
                have HBASE := Lib.hid hrsz
                go_wp2_with ((with_reducible refine gate_builtin (b := .append) (xs := #[.tmp 63, .tmp 68]) rfl ?_); (try (refine gate_guard (by rfl) ?_; dsimp only)); at_builtin; go_loud (refine Kd.R_append Kd.string (w0 := wr) W0.heap.size rfl (.tmp 63) (.tmp 68) 22 9 (.string ⟨#[]⟩) 16 rfl Tryz.underlying22 infoStr rfl (by decide) (by decide) (.slice Av (keepL q (all.take k)).length cv) ((keepL q (all.take k)).map fun x => ba x.2) p [.string p] (fun j => W0.heap.size ≤ j) (fun _ => False) (by rfl) (by rfl) rfl (fun _ h => h.elim) (fun j hj => Nat.le_trans HBASE.out hj) HROW.out (Below.refl _ _) HBASE.out (by rw [List.length_map]; omega) ?_; intro v5 w5 ho hb5 hgr _; obtain ⟨x0, x1, x2⟩ := HG.out w5 hgr; have HH := Lib.hid (hst.out w5 v5 ho hgr); clear ho hb5 hgr))
                go_roundw
                case rel => exact ⟨k + 1, by go_num, HH.out⟩
                case measure => simp [intOf]; omega
              · have hsk := Lib.hid (HSKIP.out hgt)
                have hle : fn + (k : Int) ≤ q := by omega
                clear hgt
                go_wp2
                go_roundw
                case rel => exact ⟨k + 1, by go_num, hsk.out⟩
                case measure => simp [intOf]; omega
            · obtain rfl : k = all.length := by omega
              obtain ⟨f1, f2, f3, f4⟩ := HREL.out
              rw [List.take_length] at f2 f3
              clear hwal
              have HF2 := Lib.hid f2
              have HF3 := Lib.hid f3
              have HF4 := Lib.hid f4
              rw [List.take_length]
              clear f1 f2 f3 f4 hlk hlr HROW HREL
              go_wp2
              exact bodyPost_ret (v := .tuple #[.pointer (some ⟨w4.heap.size, 0, none⟩), .string (ba text), .slice Av (keepL q all).length cv, .int .i64 0]) (by simp [results, Tryz.results23, go_sem]) rfl (ropen_ok HV.out HB0.out HF2.out HF3.out HF4.out rfl)
end Go.Proofs.YtlmnmjnmilaipaaGreatDoor.Rk
/- The reference's Append, Checkpoint, Seq walked. -/
set_option linter.unusedVariables false
set_option linter.unusedSimpArgs false
namespace Go.Proofs.YtlmnmjnmilaipaaGreatDoor.Rk
open Go Go.RowKit PR Go.Proofs.YtlmnmjnmilaipaaGreatDoorW.PrintWords

theorem RW.facts {w : World} {rb rw : Nat} {W : Wl} (h : RW w rb rw W) : w.cell? ⟨rw, 0, none⟩ = some (.pointer (some ⟨rb, 0, none⟩)) ∧ w.cell? ⟨rw, 1, none⟩ = some (.int .i64 W.seq) ∧ w.cell? ⟨rw, 2, none⟩ = some (.int .i64 W.err) ∧ w.frozen? ⟨rw, 1, none⟩ = false ∧ w.frozen? ⟨rw, 2, none⟩ = false ∧ rw < w.heap.size := by
  unfold RW at h
  refine ⟨by simp [World.cell?, h], by simp [World.cell?, h], by simp [World.cell?, h], by simp [World.frozen?, h], by simp [World.frozen?, h], (Array.getElem?_eq_some_iff.1 h).1⟩
theorem RW.below {w w' : World} {rb rw : Nat} {W : Wl} (h : RW w rb rw W) (hb : Below w.heap.size w w') : RW w' rb rw W := (hb.block rw h.facts.2.2.2.2.2).trans h
theorem RW.no {w : World} {base rb rw : Nat} {D : Dk} {W : Wl} (h : RW w rb rw W) (hd : RDk w base rb D) : rb ≠ rw ∧ ¬ RS w base rb rw := by
  obtain ⟨l, v, hd⟩ := hd
  have hne : rb ≠ rw := by
    rintro rfl
    have := hd.blk.symm.trans h
    injection this with e
    injection e with _ e
    exact absurd e (by decide)
  refine ⟨hne, ?_⟩
  rintro (e | ⟨_, cs, e⟩)
  · exact hne e.symm
  · have := e.symm.trans h
    injection this with e
    injection e with _ e
    exact absurd e (by decide)
theorem RW.rs {w w' : World} {base rb rw : Nat} {D : Dk} {W : Wl} (h : RW w rb rw W) (hd : RDk w base rb D) (ho : Only (RS w base rb) w w') : RW w' rb rw W :=
  (ho.block rw h.facts.2.2.2.2.2 (h.no hd).2).trans h
theorem RDk.setW {w : World} {base rb rw : Nat} {D : Dk} {W : Wl} (hd : RDk w base rb D) (h : RW w rb rw W) (i : Nat) (u : Value) : RDk (w.setCell ⟨rw, i, none⟩ u) base rb D := by
  have hn := h.no hd
  obtain ⟨l, v, hd⟩ := hd
  refine ⟨l, v, hd.only (S := (· = rw)) ((Only.refl (· = rw) w).setCell (p := ⟨rw, i, none⟩) (fun _ => rfl) u) hn.1 (fun k hk e => ?_)⟩
  subst e
  exact hn.2 (hd.rs k hk)
theorem RW.err {w : World} {rb rw : Nat} {W : Wl} (h : RW w rb rw W) (n : Int) : RW (w.setCell ⟨rw, 2, none⟩ (.int .i64 n)) rb rw ⟨W.seq, n⟩ := by
  unfold RW at h ⊢
  simp [World.setCell, Array.getElem?_modify, h]
theorem RW.seq {w : World} {rb rw : Nat} {W : Wl} (h : RW w rb rw W) (n : Int) : RW (w.setCell ⟨rw, 1, none⟩ (.int .i64 n)) rb rw ⟨n, W.err⟩ := by
  unfold RW at h ⊢
  simp [World.setCell, Array.getElem?_modify, h]
/-- What may turn in a call of a log. -/
def RT (w : World) (base rb rw : Nat) (k : Nat) : Prop := RS w base rb k ∨ k = rw
theorem RT.trans {w w1 w2 : World} {base rb rw : Nat} (h : Only (RT w base rb rw) w w1) (k : Only (RT w1 base rb rw) w1 w2) : Only (RT w base rb rw) w w2 :=
  h.trans' k (fun _ _ q => q) (fun i hi q => by
    by_cases hS : RT w base rb rw i
    · exact hS
    · rcases q with (q | ⟨q1, cs, q2⟩) | q
      · exact .inl (.inl q)
      · exact .inl (.inr ⟨q1, cs, (h.block i hi hS).symm.trans q2⟩)
      · exact .inr q)
theorem RT.rs {w w' : World} {base rb rw : Nat} (h : Only (RS w base rb) w w') : Only (RT w base rb rw) w w' := h.mono fun _ _ q => .inl q
theorem RT.set {w : World} {base rb rw : Nat} (i : Nat) (u : Value) : Only (RT w base rb rw) w (w.setCell ⟨rw, i, none⟩ u) := (Only.refl _ w).setCell (p := ⟨rw, i, none⟩) (fun _ => .inr rfl) u
/-- A log of the reference on its disk. -/
structure RLog (w : World) (base rb rw : Nat) (D : Dk) (W : Wl) : Prop where
  dk : RDk w base rb D
  wl : RW w rb rw W
theorem RLog.below {w w' : World} {base rb rw : Nat} {D : Dk} {W : Wl} (h : RLog w base rb rw D W) (hb : Below w.heap.size w w') : RLog w' base rb rw D W := ⟨h.dk.below hb, h.wl.below hb⟩
theorem RLog.rs {w w' : World} {base rb rw : Nat} {D D' : Dk} {W : Wl} (h : RLog w base rb rw D W) (ho : Only (RS w base rb) w w') (hd : RDk w' base rb D') : RLog w' base rb rw D' W := ⟨hd, h.wl.rs h.dk ho⟩
theorem RLog.err {w : World} {base rb rw : Nat} {D : Dk} {W : Wl} (h : RLog w base rb rw D W) (n : Int) : RLog (w.setCell ⟨rw, 2, none⟩ (.int .i64 n)) base rb rw D ⟨W.seq, n⟩ := ⟨h.dk.setW h.wl _ _, h.wl.err n⟩
theorem RLog.seq {w : World} {base rb rw : Nat} {D : Dk} {W : Wl} (h : RLog w base rb rw D W) (n : Int) : RLog (w.setCell ⟨rw, 1, none⟩ (.int .i64 n)) base rb rw D ⟨n, W.err⟩ := ⟨h.dk.setW h.wl _ _, h.wl.seq n⟩
def RPost (base rb rw : Nat) (r : Int × Wl × Dk) (w : World) (e : Ending) (w' : World) : Prop := e = .returned (.int .i64 r.1) ∧ RLog w' base rb rw r.2.2 r.2.1 ∧ Only (RT w base rb rw) w w'
set_option maxHeartbeats 8000000 in
set_option maxRecDepth 100000 in
theorem rappend_log (base rb rw q : Nat) (er : Int) (D : Dk) (t : ByteArray) (w : World) (h : RLog w base rb rw D ⟨q, er⟩) (hD : D.Ok) (ha : D.acts + 2 < 4611686018427387904) (hq : q ≤ 1099511627776) (ht : t.size ≤ 90000) :
    Calls Tryz.prog 25 #[.pointer (some ⟨rw, 0, none⟩), .string t] w (RPost base rb rw (appendP ⟨q, er⟩ D (bs t)) w) := by
  obtain ⟨c0, c1, c2, g1, g2, lw⟩ := h.wl.facts
  dsimp only at c1 c2
  have H := Lib.hid h
  by_cases he : er ≠ 0
  · have e : appendP ⟨q, er⟩ D (bs t) = (er, ⟨q, er⟩, D) := by unfold appendP; rw [if_pos he]
    rw [e]
    have t1 : (er == 0) = false := beq_eq_false_iff_ne.2 he
    clear e he h hD
    go_enter Tryz.func25, Tryz.ntmps25
    go_wp2
    go_ret
    exact ⟨rfl, H.out, Only.refl _ _⟩
  · obtain rfl : er = 0 := by simpa using he
    have NM := Lib.hid (fun W => rnum_any (q + 1) (by omega) W)
    rw [Int.natCast_add, Int.natCast_one] at NM
    have hd := numD_len 9 (2 * (q + 1)) (by have : (128 : Nat) ^ (9 + 1) = 1180591620717411303424 := by decide
                                            omega)
    have hsz : (ba (numD (2 * (q + 1)))).size ≤ 10 := by rw [ba_size]; exact hd
    have e2 : ba (numD (2 * (q + 1))) ++ t = ba (numD (2 * (q + 1)) ++ bs t) := by rw [← ba_app, ba_bs]
    have hpl : (ba (numD (2 * (q + 1)) ++ bs t)).size ≤ 95000 := by rw [ba_size, List.length_append, bs_len]; omega
    have LY := Lib.hid (fun W => rlay_any (ba (numD (2 * (q + 1)) ++ bs t)) (by omega) W)
    rw [bs_ba, ← e2] at LY
    have hma : appendP ⟨q, 0⟩ D (bs t) = if (layP (numD (2 * (q + 1)) ++ bs t)).2 ≠ 0 ∨ q = 1099511627776 then (111, ⟨q, 0⟩, D) else
        (if (D.append kLog (ba (layP (numD (2 * (q + 1)) ++ bs t)).1)).1 ≠ 0 then ((D.append kLog (ba (layP (numD (2 * (q + 1)) ++ bs t)).1)).1, ⟨q, (D.append kLog (ba (layP (numD (2 * (q + 1)) ++ bs t)).1)).1⟩, (D.append kLog (ba (layP (numD (2 * (q + 1)) ++ bs t)).1)).2)
         else if ((D.append kLog (ba (layP (numD (2 * (q + 1)) ++ bs t)).1)).2.sync kLog).1 ≠ 0 then (((D.append kLog (ba (layP (numD (2 * (q + 1)) ++ bs t)).1)).2.sync kLog).1, ⟨q, ((D.append kLog (ba (layP (numD (2 * (q + 1)) ++ bs t)).1)).2.sync kLog).1⟩, ((D.append kLog (ba (layP (numD (2 * (q + 1)) ++ bs t)).1)).2.sync kLog).2)
         else (0, ⟨(q : Int) + 1, 0⟩, ((D.append kLog (ba (layP (numD (2 * (q + 1)) ++ bs t)).1)).2.sync kLog).2)) := by
      unfold appendP
      dsimp only
      rw [if_neg (by simp)]
      unfold madeP
      rw [show ((q : Int) + 1).toNat = q + 1 by omega]
      by_cases hx : (layP (numD (2 * (q + 1)) ++ bs t)).2 ≠ 0 ∨ q = 1099511627776
      · rw [if_pos hx, if_pos (show (layP (numD (2 * (q + 1)) ++ bs t)).2 ≠ 0 ∨ 1099511627776 < (q : Int) + 1 by omega), if_pos (by simp)]
      · rw [if_neg hx, if_neg (show ¬ ((layP (numD (2 * (q + 1)) ++ bs t)).2 ≠ 0 ∨ 1099511627776 < (q : Int) + 1) by omega), if_neg (by simp)]
    rw [hma]
    have hls : (ba (layP (numD (2 * (q + 1)) ++ bs t)).1).size ≤ maxLen := by
      rw [ba_size]; unfold layP maxLen; split
      · simp
      · have := frameP_len (numD (2 * (q + 1)) ++ bs t)
        have := numD_len 8 (2 * (numD (2 * (q + 1)) ++ bs t).length) (by rw [pow128_9]; omega)
        show (frameP (numD (2 * (q + 1)) ++ bs t)).length ≤ _
        omega
    clear hma hpl hd e2 he
    generalize hly : layP (numD (2 * (q + 1)) ++ bs t) = R at *
    have hR : R.2 = 0 ∨ R.2 = 1 := by rw [← hly]; unfold layP; split <;> simp
    obtain ⟨r1, r2⟩ := R
    dsimp only at hls hR LY ⊢
    clear hly
    have HLS := Lib.hid hls
    clear hls
    obtain ⟨z, hz⟩ : ∃ z : Int, z = q := ⟨_, rfl⟩
    have hz0 : 0 ≤ z := by omega
    have hz1 : z ≤ 1099511627800 := by omega
    rw [← hz] at NM H c1 h ⊢
    by_cases hx : r2 ≠ 0 ∨ q = 1099511627776
    · rw [if_pos hx]
      have hx2 : r2 = 1 ∨ (r2 = 0 ∧ 1099511627776 ≤ z) := by omega
      clear hx hR hq hz
      rcases hx2 with rfl | ⟨rfl, hx2⟩
      all_goals go_enter Tryz.func25, Tryz.ntmps25
      all_goals go_wp2_with (first | (go_at_call 53; refine (NM.out _).mono ?_; rintro ev w1 ⟨rfl, hb⟩; have HB1 := Lib.hid hb; obtain ⟨d0, d1, d2, e1, e2, dl⟩ := (H.out.wl.below hb).facts; dsimp only at d1 d2; clear hb) | (go_at_call 52; refine (LY.out _).mono ?_; rintro ev w2 ⟨rfl, hb⟩; have HB2 := Lib.hid (HB1.out.trans (hb.mono HB1.out.size)); obtain ⟨f0, f1, f2, h1, h2, fl⟩ := (H.out.wl.below HB2.out).facts; dsimp only at f1 f2; clear hb))
      all_goals go_ret
      all_goals exact ⟨rfl, H.out.below HB2.out, RT.rs (RS.below HB2.out)⟩
    · rw [if_neg hx]
      obtain rfl : r2 = 0 := by omega
      have hc2 : z < 1099511627776 := by omega
      have k1 := Dk.append_ok hD (by omega) kLog (ba r1)
      have a1 := Dk.append_acts D kLog (ba r1)
      have A := Lib.hid (fun W (hW : RDk W base rb D) => rd_append (nm := kLog) (s := ba r1) hW hD (by decide) HLS.out)
      clear hx hR hq hz
      obtain ⟨x1, D1, hx1⟩ : ∃ x1 D1, D.append kLog (ba r1) = (x1, D1) := ⟨_, _, rfl⟩
      rw [hx1] at A k1 a1 ⊢
      dsimp only at A k1 a1 ⊢
      by_cases h1 : x1 ≠ 0
      · rw [if_pos h1]
        have t1 : (x1 == 0) = false := beq_eq_false_iff_ne.2 h1
        have HX1 := Lib.hid h1
        clear hx1 k1 a1 h hD h1
        go_enter Tryz.func25, Tryz.ntmps25
        go_wp2_with (first | (go_at_call 53; refine (NM.out _).mono ?_; rintro ev w1 ⟨rfl, hb⟩; have HB1 := Lib.hid hb; obtain ⟨d0, d1, d2, e1, e2, dl⟩ := (H.out.wl.below hb).facts; dsimp only at d1 d2; clear hb) | (go_at_call 52; refine (LY.out _).mono ?_; rintro ev w2 ⟨rfl, hb⟩; have HB2 := Lib.hid (HB1.out.trans (hb.mono HB1.out.size)); obtain ⟨f0, f1, f2, h1, h2, fl⟩ := (H.out.wl.below HB2.out).facts; dsimp only at f1 f2; clear hb) | (go_at_call 21; refine (A.out _ (H.out.dk.below HB2.out)).mono ?_; rintro ev w3 ⟨rfl, hd, ho⟩; have L3 := Lib.hid ((H.out.below HB2.out).rs ho hd); have O3 := Lib.hid (RT.rs (rw := rw) (RS.trans (RS.below HB2.out) ho)); obtain ⟨j0, j1, j2, i1, i2, jl⟩ := L3.out.wl.facts; dsimp only at j1 j2; clear hd ho))
        go_ret
        exact ⟨rfl, L3.out.err x1, RT.trans O3.out (RT.set 2 _)⟩
      · obtain rfl : x1 = 0 := by simpa using h1
        rw [if_neg (by simp)]
        have B := Lib.hid (fun W (hW : RDk W base rb D1) => rd_sync (nm := kLog) hW k1)
        obtain ⟨x2, D2, hx2⟩ : ∃ x2 D2, D1.sync kLog = (x2, D2) := ⟨_, _, rfl⟩
        rw [hx2] at B ⊢
        dsimp only at B ⊢
        by_cases h2 : x2 ≠ 0
        · rw [if_pos h2]
          have t1 : (x2 == 0) = false := beq_eq_false_iff_ne.2 h2
          clear hx1 hx2 k1 a1 h hD h2 h1
          go_enter Tryz.func25, Tryz.ntmps25
          go_wp2_with (first | (go_at_call 53; refine (NM.out _).mono ?_; rintro ev w1 ⟨rfl, hb⟩; have HB1 := Lib.hid hb; obtain ⟨d0, d1, d2, e1, e2, dl⟩ := (H.out.wl.below hb).facts; dsimp only at d1 d2; clear hb) | (go_at_call 52; refine (LY.out _).mono ?_; rintro ev w2 ⟨rfl, hb⟩; have HB2 := Lib.hid (HB1.out.trans (hb.mono HB1.out.size)); obtain ⟨f0, f1, f2, h1, h2, fl⟩ := (H.out.wl.below HB2.out).facts; dsimp only at f1 f2; clear hb) | (go_at_call 21; refine (A.out _ (H.out.dk.below HB2.out)).mono ?_; rintro ev w3 ⟨rfl, hd, ho⟩; have L3 := Lib.hid ((H.out.below HB2.out).rs ho hd); have O3 := Lib.hid (RT.rs (rw := rw) (RS.trans (RS.below HB2.out) ho)); obtain ⟨j0, j1, j2, i1, i2, jl⟩ := L3.out.wl.facts; dsimp only at j1 j2; clear hd ho) | (go_at_call 63; refine (B.out _ (L3.out.err 0).dk).mono ?_; rintro ev w4 ⟨rfl, hd, ho⟩; have L4 := Lib.hid ((L3.out.err 0).rs ho hd); have O4 := Lib.hid (RT.trans (RT.trans O3.out (RT.set 2 (.int .i64 0))) (RT.rs (rw := rw) ho)); obtain ⟨y0, y1, y2, v1, v2, yl⟩ := L4.out.wl.facts; dsimp only at y1 y2; clear hd ho))
          go_ret
          exact ⟨rfl, L4.out.err x2, RT.trans O4.out (RT.set 2 _)⟩
        · obtain rfl : x2 = 0 := by simpa using h2
          rw [if_neg (by simp)]
          clear hx1 hx2 k1 a1 h hD h2 h1
          go_enter Tryz.func25, Tryz.ntmps25
          go_wp2_with (first | (go_at_call 53; refine (NM.out _).mono ?_; rintro ev w1 ⟨rfl, hb⟩; have HB1 := Lib.hid hb; obtain ⟨d0, d1, d2, e1, e2, dl⟩ := (H.out.wl.below hb).facts; dsimp only at d1 d2; clear hb) | (go_at_call 52; refine (LY.out _).mono ?_; rintro ev w2 ⟨rfl, hb⟩; have HB2 := Lib.hid (HB1.out.trans (hb.mono HB1.out.size)); obtain ⟨f0, f1, f2, h1, h2, fl⟩ := (H.out.wl.below HB2.out).facts; dsimp only at f1 f2; clear hb) | (go_at_call 21; refine (A.out _ (H.out.dk.below HB2.out)).mono ?_; rintro ev w3 ⟨rfl, hd, ho⟩; have L3 := Lib.hid ((H.out.below HB2.out).rs ho hd); have O3 := Lib.hid (RT.rs (rw := rw) (RS.trans (RS.below HB2.out) ho)); obtain ⟨j0, j1, j2, i1, i2, jl⟩ := L3.out.wl.facts; dsimp only at j1 j2; clear hd ho) | (go_at_call 63; refine (B.out _ (L3.out.err 0).dk).mono ?_; rintro ev w4 ⟨rfl, hd, ho⟩; have L4 := Lib.hid ((L3.out.err 0).rs ho hd); have O4 := Lib.hid (RT.trans (RT.trans O3.out (RT.set 2 (.int .i64 0))) (RT.rs (rw := rw) ho)); obtain ⟨y0, y1, y2, v1, v2, yl⟩ := L4.out.wl.facts; dsimp only at y1 y2; clear hd ho))
          go_ret
          exact ⟨rfl, (L4.out.err 0).seq (z + 1), RT.trans (RT.trans O4.out (RT.set 2 _)) (RT.set 1 _)⟩
set_option maxHeartbeats 8000000 in
set_option maxRecDepth 100000 in
theorem rcheck_log (base rb rw q : Nat) (er : Int) (D : Dk) (t : ByteArray) (w : World) (h : RLog w base rb rw D ⟨q, er⟩) (hD : D.Ok) (ha : D.acts + 4 < 4611686018427387904) (hq : q ≤ 1099511627776) (ht : t.size ≤ 90000) :
    Calls Tryz.prog 31 #[.pointer (some ⟨rw, 0, none⟩), .string t] w (RPost base rb rw (checkP ⟨q, er⟩ D (bs t)) w) := by
  obtain ⟨c0, c1, c2, g1, g2, lw⟩ := h.wl.facts
  dsimp only at c1 c2
  have H := Lib.hid h
  by_cases he : er ≠ 0
  · have e : checkP ⟨q, er⟩ D (bs t) = (er, ⟨q, er⟩, D) := by unfold checkP; rw [if_pos he]
    rw [e]
    have t1 : (er == 0) = false := beq_eq_false_iff_ne.2 he
    clear e he h hD
    go_enter Tryz.func31, Tryz.ntmps31
    go_wp2
    go_ret
    exact ⟨rfl, H.out, Only.refl _ _⟩
  · obtain rfl : er = 0 := by simpa using he
    have NM := Lib.hid (fun W => rnum_any q (by omega) W)
    have hd := numD_len 9 (2 * q) (by have : (128 : Nat) ^ (9 + 1) = 1180591620717411303424 := by decide
                                      omega)
    have hsz : (ba (numD (2 * q))).size ≤ 10 := by rw [ba_size]; exact hd
    have e2 : ba (numD (2 * q)) ++ t = ba (numD (2 * q) ++ bs t) := by rw [← ba_app, ba_bs]
    have hpl : (ba (numD (2 * q) ++ bs t)).size ≤ 95000 := by rw [ba_size, List.length_append, bs_len]; omega
    have LY := Lib.hid (fun W => rlay_any (ba (numD (2 * q) ++ bs t)) (by omega) W)
    rw [bs_ba, ← e2] at LY
    have hma : checkP ⟨q, 0⟩ D (bs t) = if (layP (numD (2 * q) ++ bs t)).2 ≠ 0 then (111, ⟨q, 0⟩, D) else
        (if (renewP D kSnap (ba (layP (numD (2 * q) ++ bs t)).1)).1 ≠ 0 then ((renewP D kSnap (ba (layP (numD (2 * q) ++ bs t)).1)).1, ⟨q, (renewP D kSnap (ba (layP (numD (2 * q) ++ bs t)).1)).1⟩, (renewP D kSnap (ba (layP (numD (2 * q) ++ bs t)).1)).2)
         else if (aget (renewP D kSnap (ba (layP (numD (2 * q) ++ bs t)).1)).2.files kLog).isSome then (((renewP D kSnap (ba (layP (numD (2 * q) ++ bs t)).1)).2.remove kLog).1, ⟨q, ((renewP D kSnap (ba (layP (numD (2 * q) ++ bs t)).1)).2.remove kLog).1⟩, ((renewP D kSnap (ba (layP (numD (2 * q) ++ bs t)).1)).2.remove kLog).2)
         else (0, ⟨q, 0⟩, (renewP D kSnap (ba (layP (numD (2 * q) ++ bs t)).1)).2)) := by
      unfold checkP
      dsimp only
      rw [if_neg (by simp)]
      unfold madeP
      rw [show ((q : Int)).toNat = q by omega]
      by_cases hx : (layP (numD (2 * q) ++ bs t)).2 ≠ 0
      · rw [if_pos hx, if_pos (show (layP (numD (2 * q) ++ bs t)).2 ≠ 0 ∨ 1099511627776 < (q : Int) by omega), if_pos (by simp)]
      · rw [if_neg hx, if_neg (show ¬ ((layP (numD (2 * q) ++ bs t)).2 ≠ 0 ∨ 1099511627776 < (q : Int)) by omega), if_neg (by simp)]
    rw [hma]
    have hls : (ba (layP (numD (2 * q) ++ bs t)).1).size ≤ maxLen := by
      rw [ba_size]; unfold layP maxLen; split
      · simp
      · have := frameP_len (numD (2 * q) ++ bs t)
        have := numD_len 8 (2 * (numD (2 * q) ++ bs t).length) (by rw [pow128_9]; omega)
        show (frameP (numD (2 * q) ++ bs t)).length ≤ _
        omega
    clear hma hpl hd e2 he
    generalize hly : layP (numD (2 * q) ++ bs t) = R at *
    have hR : R.2 = 0 ∨ R.2 = 1 := by rw [← hly]; unfold layP; split <;> simp
    obtain ⟨r1, r2⟩ := R
    dsimp only at hls hR LY ⊢
    clear hly
    have HLS := Lib.hid hls
    clear hls
    obtain ⟨z, hz⟩ : ∃ z : Int, z = q := ⟨_, rfl⟩
    have hz0 : 0 ≤ z := by omega
    have hz1 : z ≤ 1099511627800 := by omega
    rw [← hz] at NM H c1 h ⊢
    by_cases hx : r2 ≠ 0
    · rw [if_pos hx]
      obtain rfl : r2 = 1 := by omega
      clear hx hR hq hz
      go_enter Tryz.func31, Tryz.ntmps31
      go_wp2_with (first | (go_at_call 53; refine (NM.out _).mono ?_; rintro ev w1 ⟨rfl, hb⟩; have HB1 := Lib.hid hb; obtain ⟨d0, d1, d2, e1, e2, dl⟩ := (H.out.wl.below hb).facts; dsimp only at d1 d2; clear hb) | (go_at_call 52; refine (LY.out _).mono ?_; rintro ev w2 ⟨rfl, hb⟩; have HB2 := Lib.hid (HB1.out.trans (hb.mono HB1.out.size)); obtain ⟨f0, f1, f2, h1, h2, fl⟩ := (H.out.wl.below HB2.out).facts; dsimp only at f1 f2; clear hb))
      go_ret
      exact ⟨rfl, H.out.below HB2.out, RT.rs (RS.below HB2.out)⟩
    · rw [if_neg hx]
      obtain rfl : r2 = 0 := by omega
      have k1 := renewP_ok hD (by omega) kSnap (ba r1)
      have a1 := renewP_acts D kSnap (ba r1)
      have A := Lib.hid (fun W (hW : RDk W base rb D) => rrenews_any base rb D kSnap (ba r1) W hW hD (by omega) (by decide) HLS.out)
      clear hx hR hq hz
      obtain ⟨x1, D1, hx1⟩ : ∃ x1 D1, renewP D kSnap (ba r1) = (x1, D1) := ⟨_, _, rfl⟩
      rw [hx1] at A k1 a1 ⊢
      dsimp only at A k1 a1 ⊢
      have C := Lib.hid (fun W (hW : RDk W base rb D1) => rhas_any base rb D1 kLog W hW k1)
      by_cases h1 : x1 ≠ 0
      · rw [if_pos h1]
        have t1 : (x1 == 0) = false := beq_eq_false_iff_ne.2 h1
        clear hx1 k1 a1 h hD h1
        generalize (aget D1.files kLog).isSome = is at *
        go_enter Tryz.func31, Tryz.ntmps31
        go_wp2_with (first | (go_at_call 53; refine (NM.out _).mono ?_; rintro ev w1 ⟨rfl, hb⟩; have HB1 := Lib.hid hb; obtain ⟨d0, d1, d2, e1, e2, dl⟩ := (H.out.wl.below hb).facts; dsimp only at d1 d2; clear hb) | (go_at_call 52; refine (LY.out _).mono ?_; rintro ev w2 ⟨rfl, hb⟩; have HB2 := Lib.hid (HB1.out.trans (hb.mono HB1.out.size)); obtain ⟨f0, f1, f2, h1, h2, fl⟩ := (H.out.wl.below HB2.out).facts; dsimp only at f1 f2; clear hb) | (go_at_call 64; refine (A.out _ (H.out.dk.below HB2.out)).mono ?_; rintro ev w3 ⟨rfl, hd, ho⟩; have L3 := Lib.hid ((H.out.below HB2.out).rs ho hd); have O3 := Lib.hid (RT.rs (rw := rw) (RS.trans (RS.below HB2.out) ho)); obtain ⟨j0, j1, j2, i1, i2, jl⟩ := L3.out.wl.facts; dsimp only at j1 j2; clear hd ho) | (go_at_call 55; refine (C.out _ (L3.out.err x1).dk).mono ?_; rintro ev w4 ⟨rfl, hb⟩; have L4 := Lib.hid ((L3.out.err x1).below hb); have O4 := Lib.hid (RT.trans (RT.trans O3.out (RT.set 2 (.int .i64 x1))) (RT.rs (rw := rw) (RS.below hb))); obtain ⟨y0, y1, y2, v1, v2, yl⟩ := L4.out.wl.facts; dsimp only at y1 y2; clear hb))
        all_goals go_ret
        all_goals exact ⟨rfl, L4.out, O4.out⟩
      · obtain rfl : x1 = 0 := by simpa using h1
        rw [if_neg (by simp)]
        by_cases hl : (aget D1.files kLog).isSome = true
        · rw [hl] at C ⊢
          rw [if_pos rfl]
          have B := Lib.hid (fun W (hW : RDk W base rb D1) => rd_remove (nm := kLog) hW k1)
          obtain ⟨x2, D2, hx2⟩ : ∃ x2 D2, D1.remove kLog = (x2, D2) := ⟨_, _, rfl⟩
          rw [hx2] at B ⊢
          dsimp only at B ⊢
          clear hx1 hx2 k1 a1 h hD h1 hl
          go_enter Tryz.func31, Tryz.ntmps31
          go_wp2_with (first | (go_at_call 53; refine (NM.out _).mono ?_; rintro ev w1 ⟨rfl, hb⟩; have HB1 := Lib.hid hb; obtain ⟨d0, d1, d2, e1, e2, dl⟩ := (H.out.wl.below hb).facts; dsimp only at d1 d2; clear hb) | (go_at_call 52; refine (LY.out _).mono ?_; rintro ev w2 ⟨rfl, hb⟩; have HB2 := Lib.hid (HB1.out.trans (hb.mono HB1.out.size)); obtain ⟨f0, f1, f2, h1, h2, fl⟩ := (H.out.wl.below HB2.out).facts; dsimp only at f1 f2; clear hb) | (go_at_call 64; refine (A.out _ (H.out.dk.below HB2.out)).mono ?_; rintro ev w3 ⟨rfl, hd, ho⟩; have L3 := Lib.hid ((H.out.below HB2.out).rs ho hd); have O3 := Lib.hid (RT.rs (rw := rw) (RS.trans (RS.below HB2.out) ho)); obtain ⟨j0, j1, j2, i1, i2, jl⟩ := L3.out.wl.facts; dsimp only at j1 j2; clear hd ho) | (go_at_call 55; refine (C.out _ (L3.out.err 0).dk).mono ?_; rintro ev w4 ⟨rfl, hb⟩; have L4 := Lib.hid ((L3.out.err 0).below hb); have O4 := Lib.hid (RT.trans (RT.trans O3.out (RT.set 2 (.int .i64 0))) (RT.rs (rw := rw) (RS.below hb))); obtain ⟨y0, y1, y2, v1, v2, yl⟩ := L4.out.wl.facts; dsimp only at y1 y2; clear hb) | (go_at_call 56; refine (B.out _ L4.out.dk).mono ?_; rintro ev w5 ⟨rfl, hd, ho⟩; have L5 := Lib.hid (L4.out.rs ho hd); have O5 := Lib.hid (RT.trans O4.out (RT.rs (rw := rw) ho)); obtain ⟨q0, q1, q2, u1, u2, ul⟩ := L5.out.wl.facts; dsimp only at q1 q2; clear hd ho))
          go_ret
          exact ⟨rfl, L5.out.err x2, RT.trans O5.out (RT.set 2 _)⟩
        · have hl' : (aget D1.files kLog).isSome = false := by simpa using hl
          rw [hl'] at C ⊢
          rw [if_neg (by simp)]
          clear hx1 k1 a1 h hD h1 hl hl'
          go_enter Tryz.func31, Tryz.ntmps31
          go_wp2_with (first | (go_at_call 53; refine (NM.out _).mono ?_; rintro ev w1 ⟨rfl, hb⟩; have HB1 := Lib.hid hb; obtain ⟨d0, d1, d2, e1, e2, dl⟩ := (H.out.wl.below hb).facts; dsimp only at d1 d2; clear hb) | (go_at_call 52; refine (LY.out _).mono ?_; rintro ev w2 ⟨rfl, hb⟩; have HB2 := Lib.hid (HB1.out.trans (hb.mono HB1.out.size)); obtain ⟨f0, f1, f2, h1, h2, fl⟩ := (H.out.wl.below HB2.out).facts; dsimp only at f1 f2; clear hb) | (go_at_call 64; refine (A.out _ (H.out.dk.below HB2.out)).mono ?_; rintro ev w3 ⟨rfl, hd, ho⟩; have L3 := Lib.hid ((H.out.below HB2.out).rs ho hd); have O3 := Lib.hid (RT.rs (rw := rw) (RS.trans (RS.below HB2.out) ho)); obtain ⟨j0, j1, j2, i1, i2, jl⟩ := L3.out.wl.facts; dsimp only at j1 j2; clear hd ho) | (go_at_call 55; refine (C.out _ (L3.out.err 0).dk).mono ?_; rintro ev w4 ⟨rfl, hb⟩; have L4 := Lib.hid ((L3.out.err 0).below hb); have O4 := Lib.hid (RT.trans (RT.trans O3.out (RT.set 2 (.int .i64 0))) (RT.rs (rw := rw) (RS.below hb))); obtain ⟨y0, y1, y2, v1, v2, yl⟩ := L4.out.wl.facts; dsimp only at y1 y2; clear hb))
          go_ret
          exact ⟨rfl, L4.out, O4.out⟩
theorem rseq_log (base rb rw : Nat) (D : Dk) (W : Wl) (w : World) (h : RLog w base rb rw D W) :
    Calls Tryz.prog 26 #[.pointer (some ⟨rw, 0, none⟩)] w fun e w' => e = .returned (.int .i64 W.seq) ∧ w = w' := by
  obtain ⟨c0, c1, c2, g1, g2, lw⟩ := h.wl.facts
  clear h
  go_enter Tryz.func26, Tryz.ntmps26
  go_wp2
  go_ret
  exact ⟨rfl, rfl⟩
end Go.Proofs.YtlmnmjnmilaipaaGreatDoor.Rk

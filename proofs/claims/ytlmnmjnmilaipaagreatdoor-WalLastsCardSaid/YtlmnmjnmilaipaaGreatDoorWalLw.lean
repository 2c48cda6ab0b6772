/- Layer 11: WalLasts walked. -/
import Derived.Test.YtlmnmjnmilaipaaGreatDoorWalLs
import Derived.Test.YtlmnmjnmilaipaaGreatDoorWalCu
set_option linter.unusedVariables false
set_option linter.unusedSimpArgs false
namespace Go.Proofs.YtlmnmjnmilaipaaGreatDoor
open Go Go.RowKit Go.Sort PR Go.Proofs.YtlmnmjnmilaipaaGreatDoorW.PrintWords

theorem ls_append {k : Nat} {D : Dk} {st : St} (h : Calm D st (312 * k)) (hn : D.acts ≤ 100 * k + 10) (hs : st.seq ≤ k) (hk : k < 40) (t : Bs) (ht : t.length ≤ 300) :
    (∃ D1, appendP ⟨st.seq, 0⟩ D t = (0, ⟨((st.seq + 1 : Nat) : Int), 0⟩, D1) ∧ Calm D1 (st.add t) (312 * (k + 1)) ∧ D1.acts ≤ 100 * k + 20) ∨
    (D.armed ≠ 0 ∧ ∃ W1 D1, appendP ⟨st.seq, 0⟩ D t = (100, W1, D1) ∧ D1.off = true ∧ Lies D1 ∧ Wreck D1.files st (st.add t) (312 * (k + 1)) ∧ D1.acts ≤ 100 * k + 20) := by
  have hp := pay_small (n := st.seq + 1) (by omega) (t := t) (by omega)
  have h1 := frame_len hp
  have h2 := pay_len (n := st.seq + 1) (by omega) t
  rcases append_out h t (by omega) hp (by omega) (by omega) with ⟨a, b, c, d⟩ | ⟨a, b, c, d, e⟩
  · have := c.le
    exact .inl ⟨_, Prod.ext a (Prod.ext b rfl), ⟨d.lies, d.off, d.new, d.holds.mono (by omega)⟩, Nat.le_trans c.le (by omega)⟩
  · have := d.le
    refine .inr ⟨b, _, _, Prod.ext a (Prod.ext rfl rfl), c, d.lies, ?_, Nat.le_trans d.le (by omega)⟩
    rcases e with ⟨x, e1, e2⟩ | e1
    · exact .inl ⟨x, e1.mono (by omega), e2⟩
    · exact .inr (e1.mono (by omega))
theorem ls_check {k : Nat} {D : Dk} {st : St} (h : Calm D st (312 * k)) (hn : D.acts ≤ 100 * k + 10) (hs : st.seq ≤ k) (hk : k < 40) (t : Bs) (ht : t.length ≤ 300) :
    (∃ D1, checkP ⟨st.seq, 0⟩ D t = (0, ⟨st.seq, 0⟩, D1) ∧ Calm D1 (st.check t) (312 * (k + 1)) ∧ D1.acts ≤ 100 * k + 20) ∨
    (D.armed ≠ 0 ∧ ∃ W1 D1, checkP ⟨st.seq, 0⟩ D t = (100, W1, D1) ∧ D1.off = true ∧ Lies D1 ∧ Wreck D1.files st (st.check t) (312 * (k + 1)) ∧ D1.acts ≤ 100 * k + 20) := by
  have hp := pay_small (n := st.seq) (by omega) (t := t) (by omega)
  rcases check_out h t hp (by omega) with ⟨a, b, c, d, _⟩ | ⟨a, b, c, d, e⟩
  · have := c.le
    exact .inl ⟨_, Prod.ext a (Prod.ext b rfl), ⟨d.lies, d.off, d.new, d.holds.mono (Nat.zero_le _)⟩, Nat.le_trans c.le (by omega)⟩
  · have := d.le
    refine .inr ⟨b, _, _, Prod.ext a (Prod.ext rfl rfl), c, d.lies, ?_, Nat.le_trans d.le (by omega)⟩
    rcases e with ⟨x, e1, e2⟩ | e1
    · exact .inl ⟨x, e1.mono (by omega), e2⟩
    · exact .inr (e1.mono (by omega))
/-- A row of the law's own: it lies in none of the log's blocks. -/
def RowL (w0 w : World) (bw b mb : Nat) (v : Value) (l : List Bs) : Prop := Kd.R Kd.string 9 w 0 (fun j => j ≠ b ∧ j ≠ mb ∧ j ≠ bw ∧ w0.heap.size ≤ j) v (l.map ba)
theorem RowL.wown {w0 w w' : World} {bw b mb : Nat} {v : Value} {l : List Bs} (h : RowL w0 w bw b mb v l) (ho : Only (WOwn bw b mb) w w') : RowL w0 w' bw b mb v l := row_wown h ho
theorem RowL.own {w0 w w' : World} {bw b mb : Nat} {v : Value} {l : List Bs} (h : RowL w0 w bw b mb v l) (ho : Only (Own b mb) w w') : RowL w0 w' bw b mb v l := row_wown h (ho.mono (fun _ _ h => .inr h))
theorem RowL.below {w0 w w' : World} {bw b mb : Nat} {v : Value} {l : List Bs} (h : RowL w0 w bw b mb v l) (hb : Below w.heap.size w w') : RowL w0 w' bw b mb v l := Kd.R_below h hb
theorem RowL.fresh {w0 w w' : World} {bw bw' b mb : Nat} {v : Value} {l : List Bs} (h : RowL w0 w bw b mb v l) (ho : Only (Own b mb) w w') (hb : w.heap.size ≤ bw') : RowL w0 w' bw' b mb v l :=
  Kd.R_step (Kd.R_mono (Kd.R_bound h) (fun k hk => ⟨hk.1.1, hk.1.2.1, by have := hk.2.2.1; omega, hk.1.2.2.2⟩)) (fun k hk hlt => ho.block k hlt (fun h => h.elim (fun e => hk.1 e) (fun e => hk.2.1 e)))
theorem RowL.next {w0 W w1 w2 : World} {bw b mb : Nat} {v v1 : Value} {l : List Bs} (h : RowL w0 W bw b mb v l) (hg1 : W.grownBy w1 none) (hat : v1.ownBlock = none ∨ ∃ j, v1.ownBlock = some j ∧ W.heap.size ≤ j) (hg2 : w1.grownBy w2 v1.ownBlock) : RowL w0 w2 bw b mb v l :=
  Kd.R_step (Kd.R_mono (Kd.R_bound h) (fun k hk => hk)) (fun k hk hlt => (hg2.block k (Nat.lt_of_lt_of_le hlt hg1.size) (fun e => by
    rcases hat with h0 | ⟨j, h1, h2⟩
    · rw [h0] at e; cases e
    · rw [h1] at e; injection e with e; omega)).trans (hg1.block k hlt (by simp))) |> fun h => Kd.R_mono h (fun k hk => hk.1)
theorem RowL.texts {w0 w : World} {bw b mb : Nat} {v : Value} {l : List Bs} (h : RowL w0 w bw b mb v l) : Texts w 0 v l := Kd.R_mono h (fun _ _ => trivial)
theorem RowL.nil (w0 w : World) (bw b mb : Nat) : RowL w0 w bw b mb (.slice none 0 0) [] := Kd.R_nil _ _ _ _ _
theorem beq_str (a b : ByteArray) : (a.toList == b.toList) = decide (bs a = bs b) := by
  rw [ByteArray.toList_eq, ByteArray.toList_eq]
  show (bs a == bs b) = _
  rw [Bool.eq_iff_iff, beq_iff_eq, decide_eq_true_eq]
/-- The act of a round, boxed. -/
structure BoxA (n : Nat) (x : ActV) (W : World) : Prop where
  lt : n < W.heap.size
  c0 : W.cell? ⟨n, 0, none⟩ = some (.int .i64 x.what)
  c1 : W.cell? ⟨n, 1, none⟩ = some (.int .i64 x.n)
  c2 : W.cell? ⟨n, 2, none⟩ = some (.string x.text)
  c3 : W.cell? ⟨n, 3, none⟩ = some (.slice x.kA x.keep.length x.kc)
theorem BoxA.only {n : Nat} {x : ActV} {W W' : World} (h : BoxA n x W) {S : Nat → Prop} (ho : Only S W W') (hn : ¬ S n) : BoxA n x W' :=
  ⟨Nat.lt_of_lt_of_le h.lt ho.size, (ho.cell (p := ⟨n, 0, none⟩) h.lt hn).trans h.c0, (ho.cell (p := ⟨n, 1, none⟩) h.lt hn).trans h.c1, (ho.cell (p := ⟨n, 2, none⟩) h.lt hn).trans h.c2, (ho.cell (p := ⟨n, 3, none⟩) h.lt hn).trans h.c3⟩
theorem BoxA.below {n : Nat} {x : ActV} {W W' : World} (h : BoxA n x W) (hb : Below W.heap.size W W') : BoxA n x W' := h.only (Only.of_below (S := fun _ => False) hb) (fun h => h)
theorem BoxA.made (W : World) (x : ActV) : BoxA W.heap.size x (W.alloc (.cells #[.int .i64 x.what, .int .i64 x.n, .string x.text, .slice x.kA x.keep.length x.kc] 52)) :=
  ⟨by simp, by go_simp, by go_simp, by go_simp, by go_simp⟩
theorem BoxA.next {n : Nat} {x : ActV} {W w1 w2 : World} {v1 : Value} (h : BoxA n x W) (hg1 : W.grownBy w1 none) (hat : v1.ownBlock = none ∨ ∃ j, v1.ownBlock = some j ∧ W.heap.size ≤ j) (hg2 : w1.grownBy w2 v1.ownBlock) : BoxA n x w2 :=
  (h.only (Only.of_grown (S := fun _ => False) hg1 (fun k e _ => by cases e)) (fun h => h)).only (Only.of_grown (S := fun k => v1.ownBlock = some k) hg2 (fun k e _ => e)) (fun e => by
    have := h.lt
    rcases hat with h0 | ⟨j, h1, h2⟩
    · rw [h0] at e; cases e
    · rw [h1] at e; injection e with e; omega)
theorem BoxA.wown {n : Nat} {x : ActV} {W W' : World} {bw b mb : Nat} (h : BoxA n x W) (ho : Only (WOwn bw b mb) W W') (h1 : bw < n) (h2 : b < n) (h3 : mb < n) : BoxA n x W' :=
  h.only ho (fun h => h.elim (fun e => by omega) (fun h => h.elim (fun e => by omega) (fun e => by omega)))
/-- What holds at a round's head of WalLasts. -/
structure LsRel (w0 : World) (k : Nat) (st : St) (bw b mb : Nat) (v : Value) (D : Dk) (wr : World) : Prop where
  k40 : k ≤ 40
  sit : Sit w0 wr bw b mb D ⟨(st.seq : Nat), 0⟩
  calm : Calm D st (312 * k)
  armed : D.armed = 0
  acts : D.acts ≤ 100 * k
  seq : st.seq ≤ k
  row : RowL w0 wr bw b mb v st.l

set_option maxHeartbeats 80000000 in
set_option maxRecDepth 100000 in
theorem walLasts_row (A cA : Option Addr) (c cc : Nat) (xs : List ActV) (cuts : List Int) (w : World) (hx : ReadsA w A xs) (hcu : ReadsI w cA cuts) (hT : ErrTab w) :
    Calls Tryz.prog 7 #[.slice A xs.length c, .slice cA cuts.length cc] w fun e w' => e = .returned (.bool true) ∧ Below w.heap.size w w' := by
  have AW := Lib.hid (awake_any w hT)
  have NW := Lib.hid (fun W (hT : ErrTab W) => new_dsk W hT)
  have C1 := Lib.hid (fun w0 W b mb (h : Dsk w0 W b mb Dk.new) => (show Calls Tryz.prog 11 #[.pointer (some ⟨b, 0, none⟩)] W fun e w' => ∃ bw A c, e = .returned (.tuple #[.pointer (some ⟨bw, 0, none⟩), .string ⟨#[]⟩, .slice A 0 c, .int .i64 0]) ∧ Sit w0 w' bw b mb Dk.new ⟨(0 : Nat), 0⟩ ∧ W.heap.size ≤ bw ∧ Texts w' W.heap.size (.slice A 0 c) [] ∧ Only (Own b mb) W w' from open_by (open_calm calm_new) h Dk.new_ok (by decide)))
  have HX := Lib.hid hx
  have HCU := Lib.hid hcu
  have hxl := hx.len
  unfold maxLen at hxl
  clear hx hcu
  go_enter Tryz.func7, Tryz.ntmps7
  go_wp2_with (first
    | (go_at_call 9; refine AW.out.mono ?_; rintro ev wa ⟨rfl, hb⟩; have HA := Lib.hid hb; clear hb)
    | (go_at_call 10; refine (new_any _).mono ?_; rintro ev w1 ⟨rfl, rfl⟩; have T0 := Lib.hid (NW.out _ (hT.keep2 HA.out)))
    | (go_at_call 11; (with_reducible refine (C1.out _ _ _ _ T0.out).mono ?_); rintro ev w2 ⟨bw, A1, ca1, rfl, hs, _, _, _⟩; have TI := Lib.hid hs; clear hs))
  have hb0 := HA.out.size
  go_loopw [7, 11, 12, 13] (fun pw tx v i wr => ∃ (k : Nat) (D : Dk) (st : St) (bw : Nat), i = .int .i64 k ∧ k ≤ xs.length ∧ pw = .pointer (some ⟨bw, 0, none⟩) ∧ tx = .string (ba st.text) ∧ LsRel wa k st bw (wa.heap.size + 1) wa.heap.size v D wr) (fun _ _ _ i _ => 40 - (intOf i).toNat)
  case atStart => exact ⟨0, Dk.new, ⟨[], [], 0⟩, bw, rfl, Nat.zero_le _, rfl, rfl, Nat.zero_le _, TI.out, calm_new, rfl, Nat.zero_le _, Nat.le_refl _, RowL.nil _ _ _ _ _⟩
  case round =>
    obtain ⟨k, D, st, bw, rfl, hk1, rfl, rfl, hrel⟩ := hrel
    obtain ⟨Av, cv, rfl⟩ := Kd.R_slice hrel.row
    have hlv : (st.l.map ba).length = st.l.length := List.length_map _
    rw [hlv] at hrel ⊢
    have S0 := Lib.hid hrel.sit
    have R0 := Lib.hid hrel.row
    have HB := Lib.hid (HA.out.trans (hrel.sit.be.mono HA.out.size))
    have hk2 := hrel.k40
    have hcalm := hrel.calm
    have harm := hrel.armed
    have hact := hrel.acts
    have hseq := hrel.seq
    have hll := holds_len hrel.calm.holds
    have hwl := hrel.sit.wl.lt
    have hdl := hrel.sit.dk.lt
    clear hlv hrel
    by_cases hlt : k < xs.length ∧ k < 40
    · obtain ⟨hlt1, hlt2⟩ := hlt
      obtain ⟨bk, off, rfl, hbk, hcell⟩ := act_at HX.out hlt1
      obtain ⟨e0, e1, e2, e3⟩ := hcell wr HB.out
      have hok := HX.out.ok _ (List.getElem_mem hlt1)
      clear hcell
      generalize xs[k] = x at *
      have BX0 := Lib.hid (BoxA.made wr x)
      have htx := hok.text
      unfold maxLen at htx
      have PK8 := fun W => pick_any x.what 8 hok.what.1 hok.what.2 (by decide) W
      have PK4 := fun W => pick_any x.n 4 hok.n.1 hok.n.2 (by decide) W
      obtain ⟨p80, p81⟩ := pickN_range x.what 8 (by decide)
      obtain ⟨p40, p41⟩ := pickN_range x.n 4 (by decide)
      have HKP := Lib.hid hok.keep
      have hnw := Lib.hid hok.n
      clear hok
      obtain ⟨what, n, text, keep, kA, kc⟩ := x
      dsimp only at e0 e1 e2 e3 htx PK8 PK4 p80 p81 p40 p41
      have hmn : 0 ≤ (min (text.size : Int) 300) ∧ (min (text.size : Int) 300) ≤ text.size := by omega
      generalize pickN what 8 = pk at *
      generalize pickN n 4 = p4 at *
      have PK8H := Lib.hid PK8
      have PK4H := Lib.hid PK4
      clear PK8 PK4
      by_cases h5 : pk = 5
      · subst h5
        as_aux_lemma =>
          have hcal2 := hcalm
          obtain ⟨D1, f1, c1, n1⟩ := (ls_check hcal2 (by omega) hseq hlt2 (bs (cut3 text)) (cut3_len _)).resolve_right (fun h => h.1 harm)
          have CK := Lib.hid (fun W (h : Sit wa W bw (wa.heap.size + 1) wa.heap.size D ⟨((st.seq : Nat) : Int), 0⟩) => (show Calls Tryz.prog 13 #[.pointer (some ⟨bw, 0, none⟩), .string (text.extract 0 (min (text.size : Int) 300).toNat)] W fun e w' => e = .returned (.int .i64 0) ∧ Sit wa w' bw (wa.heap.size + 1) wa.heap.size D1 ⟨((st.seq : Nat) : Int), 0⟩ ∧ Only (WOwn bw (wa.heap.size + 1) wa.heap.size) W w' from check_by (t := cut3 text) f1 h hcal2.lies.ok (by omega) (by omega) (Nat.le_trans (cut3_size _) (by omega))))
          have OFF := Lib.hid (fun (W2 : Wl) W (h : Sit wa W bw (wa.heap.size + 1) wa.heap.size D1 W2) => (show Calls Tryz.prog 29 #[.pointer (some ⟨wa.heap.size + 1, 0, none⟩)] W fun e w' => e = .returned (.bool false) ∧ W = w' from by have := off_any (wa.heap.size + 1) D1.off W h.dk.c3; rw [c1.off] at this; exact this))
          have AZ := Lib.hid (fun W (h : Dsk wa W (wa.heap.size + 1) wa.heap.size D1) => arm_dsk (arm_zero D1) h c1.lies.ok (by decide) (by decide))
          have C1H := Lib.hid (And.intro c1 n1)
          clear f1 c1 n1 hcalm hcal2 harm
          go_wp2_with (first
            | (go_at_call 12; refine (PK8H.out _).mono ?_; rintro ev w1 ⟨rfl, hb⟩; have T1 := Lib.hid ((S0.out.below ((Below.refl _ _).alloc (Nat.le_refl _) _)).below hb); have R1 := Lib.hid ((R0.out.below ((Below.refl _ _).alloc (Nat.le_refl _) _)).below hb); have BX1 := Lib.hid (BX0.out.below hb); obtain ⟨_, o0, o1, o2, o3⟩ := BX1.out; clear hb ; have T3 := T1; have R3 := R1; have BX3 := BX1; have HC3 := Lib.hid (show Kd.C Kd.string w1 Av st.l.length (st.l.map ba) from by have h := R3.out.texts.reads.2; rwa [List.length_map] at h); have z31 := T3.out.wl.lt; have z32 := T3.out.dk.lt)
            | (go_at_call 28; have zz := T6; clear zz; (with_reducible refine (AZ.out _ T6.out.toDsk).mono ?_); rintro ev w8 ⟨rfl, hd, ho⟩; have T7 := Lib.hid (Dsk.sit T6.out hd ho); have R7 := Lib.hid (R6.out.own ho); have N7 := Lib.hid (N6.out.own ho); have BX7 := Lib.hid (BX6.out.wown (ho.mono (fun _ _ h => (.inr h : WOwn bw (wa.heap.size + 1) wa.heap.size _))) hwl hdl (by omega)); obtain ⟨_, y0, y1, y2, y3⟩ := BX7.out; clear hd ho)
            | ((with_reducible refine gate_builtin (b := .append) (xs := #[.const (.slice none 0 0), .tmp 82]) rfl ?_); (try (refine gate_guard (by rfl) ?_; dsimp only)); at_builtin; go_loud (refine Kd.R_append_row Value.string ByteArray.empty (w0 := w1) 0 rfl (.const (.slice none 0 0)) (.tmp 82) 22 9 (.string ⟨#[]⟩) 16 rfl Tryz.underlying22 infoStr rfl (by decide) (.slice none 0 0) [] (st.l.map ba) Av st.l.length cv (fun j => j ≠ wa.heap.size + 1 ∧ j ≠ wa.heap.size ∧ j ≠ bw ∧ wa.heap.size ≤ j) rfl rfl (fun j hj => ⟨by omega, by omega, by omega, by omega⟩) (Kd.R_nil _ _ _ _ _) HC3.out (Below.refl _ _) (Nat.zero_le _) (by simp only [List.length_nil]; omega) ?_; intro v4 w4 h4 hb4 hg4 hat4; rw [List.nil_append] at h4; obtain ⟨A4, c4, rfl⟩ := Kd.R_slice h4; rw [List.length_map] at h4 hat4 ⊢; have N4 := Lib.hid h4; have G4 := Lib.hid hg4; have HT4 := Lib.hid hat4; have T4 := Lib.hid (T3.out.grown hg4 (fun j hj => by simp [Value.ownBlock] at hj)); have z41 := T4.out.wl.lt; have z42 := T4.out.dk.lt; clear h4 hb4 hg4 hat4))
            | ((with_reducible refine gate_builtin (b := .append) (xs := #[.tmp 83, .tmp 85]) rfl ?_); (try (refine gate_guard (by rfl) ?_; dsimp only)); at_builtin; go_loud (refine Kd.R_append Kd.string (w0 := w4) 0 rfl (.tmp 83) (.tmp 85) 22 9 (.string ⟨#[]⟩) 16 rfl Tryz.underlying22 infoStr rfl (by decide) (by decide) (.slice A4 st.l.length c4) (st.l.map ba) (ba (bs (cut3 text))) [.string (cut3 text)] (fun j => j ≠ wa.heap.size + 1 ∧ j ≠ wa.heap.size ∧ j ≠ bw ∧ wa.heap.size ≤ j) (fun _ => False) (by rfl) (by rfl) (by show [Value.string _] = [Value.string _]; rw [ba_bs]) (fun _ h => h.elim) (fun j hj => ⟨by omega, by omega, by omega, by omega⟩) N4.out (Below.refl _ _) (Nat.zero_le _) (by rw [List.length_map]; omega) ?_; intro v5 w5 h5 hb5 hg5 _; obtain ⟨A5, c5, rfl⟩ := Kd.R_slice h5; rw [show (st.l.map ba ++ [ba (bs (cut3 text))]).length = st.l.length + 1 from by rw [List.length_append, List.length_map]; rfl] at h5 ⊢; have N5 := Lib.hid (show RowL wa w5 bw (wa.heap.size + 1) wa.heap.size (.slice A5 (st.l.length + 1) c5) (st.l ++ [bs (cut3 text)]) from by unfold RowL; rw [List.map_append]; exact h5); have T5 := Lib.hid (T4.out.grown hg5 (fun j hj => N4.out.1 j hj)); have R5 := Lib.hid (R3.out.next G4.out HT4.out hg5); have BX5 := Lib.hid (BX3.out.next G4.out HT4.out hg5); obtain ⟨_, q0, q1, q2, q3⟩ := BX5.out; clear h5 hb5 hg5))
            | (go_at_call 13; refine (CK.out _ T5.out).mono ?_; rintro ev w6 ⟨rfl, hs, ho⟩; have T6 := Lib.hid hs; have R6 := Lib.hid (R5.out.wown ho); have N6 := Lib.hid (RowL.nil wa w6 bw (wa.heap.size + 1) wa.heap.size); have BX6 := Lib.hid (BX5.out.wown ho hwl hdl (by omega)); clear hs ho)
            | (go_at_call 29; (with_reducible refine (OFF.out _ _ T6.out).mono ?_); rintro ev w7 ⟨rfl, rfl⟩))
          go_roundw
          case rel => exact ⟨k + 1, D1.with 0, (st.check (bs (cut3 text))), bw, by go_num, by omega, rfl, (by show Value.string (cut3 text) = Value.string (ba (bs (cut3 text))); rw [ba_bs]), by omega, T7.out, C1H.out.1.with (by decide), rfl, by show D1.acts ≤ _; have := C1H.out.2; omega, by show st.seq ≤ k + 1; omega, N7.out⟩
          case measure => simp [intOf]; omega
      · by_cases h6 : pk = 6
        · subst h6
          clear h5
          have hcal2 : Calm (D.with (D.acts + (1 + p4).toNat)) st (312 * k) := hcalm.with (by omega)
          have hac2 : (D.with (D.acts + (1 + p4).toNat)).acts = D.acts := rfl
          by_cases hev : Int.tmod n 2 = 0
          · have te : (Int.tmod n 2 == 0) = true := by rw [beq_iff_eq]; exact hev
            clear hev
            rcases ls_check hcal2 (by omega) hseq hlt2 (bs (cut3 text)) (cut3_len _) with ⟨D1, f1, c1, n1⟩ | ⟨_, W1, D1, f1, o1, l1, w1r, n1⟩
            · clear hac2
              as_aux_lemma =>
                have AR := Lib.hid (fun W (h : Dsk wa W (wa.heap.size + 1) wa.heap.size D) => arm_dsk (arm_pos D (1 + p4) (by omega) (by omega)) h hcalm.lies.ok (by omega) (by omega))
                have CK := Lib.hid (fun W (h : Sit wa W bw (wa.heap.size + 1) wa.heap.size (D.with (D.acts + (1 + p4).toNat)) ⟨((st.seq : Nat) : Int), 0⟩) => (show Calls Tryz.prog 13 #[.pointer (some ⟨bw, 0, none⟩), .string (text.extract 0 (min (text.size : Int) 300).toNat)] W fun e w' => e = .returned (.int .i64 0) ∧ Sit wa w' bw (wa.heap.size + 1) wa.heap.size D1 ⟨((st.seq : Nat) : Int), 0⟩ ∧ Only (WOwn bw (wa.heap.size + 1) wa.heap.size) W w' from check_by (t := cut3 text) f1 h hcal2.lies.ok (by show D.acts + _ < _; omega) (by omega) (Nat.le_trans (cut3_size _) (by omega))))
                have OFF := Lib.hid (fun (W2 : Wl) W (h : Sit wa W bw (wa.heap.size + 1) wa.heap.size D1 W2) => (show Calls Tryz.prog 29 #[.pointer (some ⟨wa.heap.size + 1, 0, none⟩)] W fun e w' => e = .returned (.bool false) ∧ W = w' from by have := off_any (wa.heap.size + 1) D1.off W h.dk.c3; rw [c1.off] at this; exact this))
                have AZ := Lib.hid (fun W (h : Dsk wa W (wa.heap.size + 1) wa.heap.size D1) => arm_dsk (arm_zero D1) h c1.lies.ok (by decide) (by decide))
                have C1H := Lib.hid (And.intro c1 n1)
                clear f1 c1 n1 hcalm hcal2 harm
                go_wp2_with (first
                  | (go_at_call 12; have zz := T1; clear zz; refine (PK4H.out _).mono ?_; rintro ev w2 ⟨rfl, hb⟩; have T2 := Lib.hid (T1.out.below hb); have R2 := Lib.hid (R1.out.below hb); have BX2 := Lib.hid (BX1.out.below hb); clear hb)
                  | (go_at_call 12; refine (PK8H.out _).mono ?_; rintro ev w1 ⟨rfl, hb⟩; have T1 := Lib.hid ((S0.out.below ((Below.refl _ _).alloc (Nat.le_refl _) _)).below hb); have R1 := Lib.hid ((R0.out.below ((Below.refl _ _).alloc (Nat.le_refl _) _)).below hb); have BX1 := Lib.hid (BX0.out.below hb); obtain ⟨_, o0, o1, o2, o3⟩ := BX1.out; clear hb )
                  | (go_at_call 28; have zz := T6; clear zz; (with_reducible refine (AZ.out _ T6.out.toDsk).mono ?_); rintro ev w8 ⟨rfl, hd, ho⟩; have T7 := Lib.hid (Dsk.sit T6.out hd ho); have R7 := Lib.hid (R6.out.own ho); have N7 := Lib.hid (N6.out.own ho); have BX7 := Lib.hid (BX6.out.wown (ho.mono (fun _ _ h => (.inr h : WOwn bw (wa.heap.size + 1) wa.heap.size _))) hwl hdl (by omega)); obtain ⟨_, y0, y1, y2, y3⟩ := BX7.out; clear hd ho)
                  | (go_at_call 28; (with_reducible refine (AR.out _ T2.out.toDsk).mono ?_); rintro ev w3 ⟨rfl, hd, ho⟩; have T3 := Lib.hid (Dsk.sit T2.out hd ho); have R3 := Lib.hid (R2.out.own ho); have BX3 := Lib.hid (BX2.out.wown (ho.mono (fun _ _ h => (.inr h : WOwn bw (wa.heap.size + 1) wa.heap.size _))) hwl hdl (by omega)); obtain ⟨_, r0, r1, r2, r3⟩ := BX3.out; have HC3 := Lib.hid (show Kd.C Kd.string w3 Av st.l.length (st.l.map ba) from by have h := R3.out.texts.reads.2; rwa [List.length_map] at h); have z31 := T3.out.wl.lt; have z32 := T3.out.dk.lt; clear hd ho)
                  | ((with_reducible refine gate_builtin (b := .append) (xs := #[.const (.slice none 0 0), .tmp 82]) rfl ?_); (try (refine gate_guard (by rfl) ?_; dsimp only)); at_builtin; go_loud (refine Kd.R_append_row Value.string ByteArray.empty (w0 := w3) 0 rfl (.const (.slice none 0 0)) (.tmp 82) 22 9 (.string ⟨#[]⟩) 16 rfl Tryz.underlying22 infoStr rfl (by decide) (.slice none 0 0) [] (st.l.map ba) Av st.l.length cv (fun j => j ≠ wa.heap.size + 1 ∧ j ≠ wa.heap.size ∧ j ≠ bw ∧ wa.heap.size ≤ j) rfl rfl (fun j hj => ⟨by omega, by omega, by omega, by omega⟩) (Kd.R_nil _ _ _ _ _) HC3.out (Below.refl _ _) (Nat.zero_le _) (by simp only [List.length_nil]; omega) ?_; intro v4 w4 h4 hb4 hg4 hat4; rw [List.nil_append] at h4; obtain ⟨A4, c4, rfl⟩ := Kd.R_slice h4; rw [List.length_map] at h4 hat4 ⊢; have N4 := Lib.hid h4; have G4 := Lib.hid hg4; have HT4 := Lib.hid hat4; have T4 := Lib.hid (T3.out.grown hg4 (fun j hj => by simp [Value.ownBlock] at hj)); have z41 := T4.out.wl.lt; have z42 := T4.out.dk.lt; clear h4 hb4 hg4 hat4))
                  | ((with_reducible refine gate_builtin (b := .append) (xs := #[.tmp 83, .tmp 85]) rfl ?_); (try (refine gate_guard (by rfl) ?_; dsimp only)); at_builtin; go_loud (refine Kd.R_append Kd.string (w0 := w4) 0 rfl (.tmp 83) (.tmp 85) 22 9 (.string ⟨#[]⟩) 16 rfl Tryz.underlying22 infoStr rfl (by decide) (by decide) (.slice A4 st.l.length c4) (st.l.map ba) (ba (bs (cut3 text))) [.string (cut3 text)] (fun j => j ≠ wa.heap.size + 1 ∧ j ≠ wa.heap.size ∧ j ≠ bw ∧ wa.heap.size ≤ j) (fun _ => False) (by rfl) (by rfl) (by show [Value.string _] = [Value.string _]; rw [ba_bs]) (fun _ h => h.elim) (fun j hj => ⟨by omega, by omega, by omega, by omega⟩) N4.out (Below.refl _ _) (Nat.zero_le _) (by rw [List.length_map]; omega) ?_; intro v5 w5 h5 hb5 hg5 _; obtain ⟨A5, c5, rfl⟩ := Kd.R_slice h5; rw [show (st.l.map ba ++ [ba (bs (cut3 text))]).length = st.l.length + 1 from by rw [List.length_append, List.length_map]; rfl] at h5 ⊢; have N5 := Lib.hid (show RowL wa w5 bw (wa.heap.size + 1) wa.heap.size (.slice A5 (st.l.length + 1) c5) (st.l ++ [bs (cut3 text)]) from by unfold RowL; rw [List.map_append]; exact h5); have T5 := Lib.hid (T4.out.grown hg5 (fun j hj => N4.out.1 j hj)); have R5 := Lib.hid (R3.out.next G4.out HT4.out hg5); have BX5 := Lib.hid (BX3.out.next G4.out HT4.out hg5); obtain ⟨_, q0, q1, q2, q3⟩ := BX5.out; clear h5 hb5 hg5))
                  | (go_at_call 13; refine (CK.out _ T5.out).mono ?_; rintro ev w6 ⟨rfl, hs, ho⟩; have T6 := Lib.hid hs; have R6 := Lib.hid (R5.out.wown ho); have N6 := Lib.hid (RowL.nil wa w6 bw (wa.heap.size + 1) wa.heap.size); have BX6 := Lib.hid (BX5.out.wown ho hwl hdl (by omega)); clear hs ho)
                  | (go_at_call 29; (with_reducible refine (OFF.out _ _ T6.out).mono ?_); rintro ev w7 ⟨rfl, rfl⟩))
                go_roundw
                case rel => exact ⟨k + 1, D1.with 0, (st.check (bs (cut3 text))), bw, by go_num, by omega, rfl, (by show Value.string (cut3 text) = Value.string (ba (bs (cut3 text))); rw [ba_bs]), by omega, T7.out, C1H.out.1.with (by decide), rfl, by show D1.acts ≤ _; have := C1H.out.2; omega, by show st.seq ≤ k + 1; omega, N7.out⟩
                case measure => simp [intOf]; omega
            · clear hac2
              as_aux_lemma =>
                have AR := Lib.hid (fun W (h : Dsk wa W (wa.heap.size + 1) wa.heap.size D) => arm_dsk (arm_pos D (1 + p4) (by omega) (by omega)) h hcalm.lies.ok (by omega) (by omega))
                have CK := Lib.hid (fun W (h : Sit wa W bw (wa.heap.size + 1) wa.heap.size (D.with (D.acts + (1 + p4).toNat)) ⟨((st.seq : Nat) : Int), 0⟩) => (show Calls Tryz.prog 13 #[.pointer (some ⟨bw, 0, none⟩), .string (text.extract 0 (min (text.size : Int) 300).toNat)] W fun e w' => e = .returned (.int .i64 100) ∧ Sit wa w' bw (wa.heap.size + 1) wa.heap.size D1 W1 ∧ Only (WOwn bw (wa.heap.size + 1) wa.heap.size) W w' from check_by (t := cut3 text) f1 h hcal2.lies.ok (by show D.acts + _ < _; omega) (by omega) (Nat.le_trans (cut3_size _) (by omega))))
                have OFF := Lib.hid (fun (W2 : Wl) W (h : Sit wa W bw (wa.heap.size + 1) wa.heap.size D1 W2) => (show Calls Tryz.prog 29 #[.pointer (some ⟨wa.heap.size + 1, 0, none⟩)] W fun e w' => e = .returned (.bool true) ∧ W = w' from by have := off_any (wa.heap.size + 1) D1.off W h.dk.c3; rw [o1] at this; exact this))
                have AZ := Lib.hid (fun W (h : Dsk wa W (wa.heap.size + 1) wa.heap.size D1) => arm_dsk (arm_zero D1) h l1.ok (by decide) (by decide))
                obtain ⟨st2, hst2⟩ : ∃ s2, Hid (s2 = st.check (bs (cut3 text))) := ⟨_, Lib.hid rfl⟩
                rw [← hst2.out] at w1r
                have N9A := Lib.hid (show (D1.with 0).acts ≤ 100 * k + 20 from n1)
                have OPN := Lib.hid (fun W (h : Dsk wa W (wa.heap.size + 1) wa.heap.size (D1.with 0)) (hb : Below w.heap.size w W) => opens_any (wa.heap.size + 1) wa.heap.size (D1.with 0) st st2 (312 * (k + 1)) kA cA kc cc keep cuts w wa W h (l1.with (by decide)) w1r (by omega) (by show D1.acts ≤ _; omega) HKP.out HCU.out hb0 hb)
                clear f1 n1 hcalm hcal2 harm w1r l1 o1
                go_wp2_with (first
                  | (go_at_call 12; have zz := T1; clear zz; refine (PK4H.out _).mono ?_; rintro ev w2 ⟨rfl, hb⟩; have T2 := Lib.hid (T1.out.below hb); have R2 := Lib.hid (R1.out.below hb); have BX2 := Lib.hid (BX1.out.below hb); clear hb)
                  | (go_at_call 12; refine (PK8H.out _).mono ?_; rintro ev w1 ⟨rfl, hb⟩; have T1 := Lib.hid ((S0.out.below ((Below.refl _ _).alloc (Nat.le_refl _) _)).below hb); have R1 := Lib.hid ((R0.out.below ((Below.refl _ _).alloc (Nat.le_refl _) _)).below hb); have BX1 := Lib.hid (BX0.out.below hb); obtain ⟨_, o0, o1, o2, o3⟩ := BX1.out; clear hb )
                  | (go_at_call 28; have zz := T6; clear zz; (with_reducible refine (AZ.out _ T6.out.toDsk).mono ?_); rintro ev w8 ⟨rfl, hd, ho⟩; have T7 := Lib.hid (Dsk.sit T6.out hd ho); have R7 := Lib.hid (R6.out.own ho); have N7 := Lib.hid (N6.out.own ho); have BX7 := Lib.hid (BX6.out.wown (ho.mono (fun _ _ h => (.inr h : WOwn bw (wa.heap.size + 1) wa.heap.size _))) hwl hdl (by omega)); obtain ⟨_, y0, y1, y2, y3⟩ := BX7.out; clear hd ho)
                  | (go_at_call 28; (with_reducible refine (AR.out _ T2.out.toDsk).mono ?_); rintro ev w3 ⟨rfl, hd, ho⟩; have T3 := Lib.hid (Dsk.sit T2.out hd ho); have R3 := Lib.hid (R2.out.own ho); have BX3 := Lib.hid (BX2.out.wown (ho.mono (fun _ _ h => (.inr h : WOwn bw (wa.heap.size + 1) wa.heap.size _))) hwl hdl (by omega)); obtain ⟨_, r0, r1, r2, r3⟩ := BX3.out; have HC3 := Lib.hid (show Kd.C Kd.string w3 Av st.l.length (st.l.map ba) from by have h := R3.out.texts.reads.2; rwa [List.length_map] at h); have z31 := T3.out.wl.lt; have z32 := T3.out.dk.lt; clear hd ho)
                  | ((with_reducible refine gate_builtin (b := .append) (xs := #[.const (.slice none 0 0), .tmp 82]) rfl ?_); (try (refine gate_guard (by rfl) ?_; dsimp only)); at_builtin; go_loud (refine Kd.R_append_row Value.string ByteArray.empty (w0 := w3) 0 rfl (.const (.slice none 0 0)) (.tmp 82) 22 9 (.string ⟨#[]⟩) 16 rfl Tryz.underlying22 infoStr rfl (by decide) (.slice none 0 0) [] (st.l.map ba) Av st.l.length cv (fun j => j ≠ wa.heap.size + 1 ∧ j ≠ wa.heap.size ∧ j ≠ bw ∧ wa.heap.size ≤ j) rfl rfl (fun j hj => ⟨by omega, by omega, by omega, by omega⟩) (Kd.R_nil _ _ _ _ _) HC3.out (Below.refl _ _) (Nat.zero_le _) (by simp only [List.length_nil]; omega) ?_; intro v4 w4 h4 hb4 hg4 hat4; rw [List.nil_append] at h4; obtain ⟨A4, c4, rfl⟩ := Kd.R_slice h4; rw [List.length_map] at h4 hat4 ⊢; have N4 := Lib.hid h4; have G4 := Lib.hid hg4; have HT4 := Lib.hid hat4; have T4 := Lib.hid (T3.out.grown hg4 (fun j hj => by simp [Value.ownBlock] at hj)); have z41 := T4.out.wl.lt; have z42 := T4.out.dk.lt; clear h4 hb4 hg4 hat4))
                  | ((with_reducible refine gate_builtin (b := .append) (xs := #[.tmp 83, .tmp 85]) rfl ?_); (try (refine gate_guard (by rfl) ?_; dsimp only)); at_builtin; go_loud (refine Kd.R_append Kd.string (w0 := w4) 0 rfl (.tmp 83) (.tmp 85) 22 9 (.string ⟨#[]⟩) 16 rfl Tryz.underlying22 infoStr rfl (by decide) (by decide) (.slice A4 st.l.length c4) (st.l.map ba) (ba (bs (cut3 text))) [.string (cut3 text)] (fun j => j ≠ wa.heap.size + 1 ∧ j ≠ wa.heap.size ∧ j ≠ bw ∧ wa.heap.size ≤ j) (fun _ => False) (by rfl) (by rfl) (by show [Value.string _] = [Value.string _]; rw [ba_bs]) (fun _ h => h.elim) (fun j hj => ⟨by omega, by omega, by omega, by omega⟩) N4.out (Below.refl _ _) (Nat.zero_le _) (by rw [List.length_map]; omega) ?_; intro v5 w5 h5 hb5 hg5 _; obtain ⟨A5, c5, rfl⟩ := Kd.R_slice h5; rw [show (st.l.map ba ++ [ba (bs (cut3 text))]).length = st.l.length + 1 from by rw [List.length_append, List.length_map]; rfl] at h5 ⊢; have N5 := Lib.hid (show RowL wa w5 bw (wa.heap.size + 1) wa.heap.size (.slice A5 (st.l.length + 1) c5) (st.l ++ [bs (cut3 text)]) from by unfold RowL; rw [List.map_append]; exact h5); have T5 := Lib.hid (T4.out.grown hg5 (fun j hj => N4.out.1 j hj)); have R5 := Lib.hid (R3.out.next G4.out HT4.out hg5); have BX5 := Lib.hid (BX3.out.next G4.out HT4.out hg5); obtain ⟨_, q0, q1, q2, q3⟩ := BX5.out; clear h5 hb5 hg5))
                  | (go_at_call 13; refine (CK.out _ T5.out).mono ?_; rintro ev w6 ⟨rfl, hs, ho⟩; have T6 := Lib.hid hs; have R6 := Lib.hid (R5.out.wown ho); have N6 := Lib.hid (RowL.nil wa w6 bw (wa.heap.size + 1) wa.heap.size); have BX6 := Lib.hid (BX5.out.wown ho hwl hdl (by omega)); clear hs ho)
                  | (go_at_call 29; (with_reducible refine (OFF.out _ _ T6.out).mono ?_); rintro ev w7 ⟨rfl, rfl⟩))
                refine (OPN.out _ T7.out.toDsk (HA.out.trans (T7.out.be.mono HA.out.size))).mono ?_
                rintro ev w9 ⟨s, D9, bw9, A9, c9, hs, rfl, hsit, hcal, har, hac, hbw, htx, ho⟩
                have T9 := Lib.hid hsit
                have X9 := Lib.hid htx
                have R9 := Lib.hid (R7.out.fresh ho hbw)
                have N9 := Lib.hid (N7.out.fresh ho hbw)
                have L9 := Lib.hid (And.intro T7.out.dk.lt T7.out.dk.map.lt)
                have F9 := Lib.hid (And.intro hcal (And.intro har hac))
                have hsq9 : s.seq ≤ k + 1 := by
                  rcases hs with h | h
                  · rw [h]; first | (rw [hst2.out]; show st.seq + 1 ≤ k + 1; omega) | (rw [hst2.out]; show st.seq ≤ k + 1; omega) | omega
                  · rw [h, hst2.out]; first | (show st.seq + 1 ≤ k + 1; omega) | (show st.seq ≤ k + 1; omega)
                have HSQ9 := Lib.hid hsq9
                have HLN := Lib.hid (show s.l.length ≤ 1000000 from by have := holds_len hcal.holds; omega)
                have OP2 := Lib.hid (fun W (h : Dsk wa W (wa.heap.size + 1) wa.heap.size D9) => open_by (open_calm hcal) h hcal.lies.ok (by have := N9A.out; omega))
                have SQ := Lib.hid (fun bw W (h : Sit wa W bw (wa.heap.size + 1) wa.heap.size D9 ⟨((s.seq : Nat) : Int), 0⟩) => seq_same h)
                have SM := Lib.hid (fun W (l m : List Bs) bb b1 b2 A c B d (n1 n2 : Nat) (en1 : l.length = n1) (en2 : m.length = n2) (hbb : decide (l = m) = bb) (hl : l.length ≤ 1000000) (h1 : Texts W b1 (.slice A n1 c) l) (h2 : Texts W b2 (.slice B n2 d) m) => (show Calls Tryz.prog 14 #[.slice A n1 c, .slice B n2 d] W fun e w' => e = .returned (.bool bb) ∧ Below W.heap.size W w' from by subst en1; subst en2; have h := same_C (l := l) (m := m) hl h1.reads.2 h1.reads.1 h2.reads.2 h2.reads.1; rw [hbb] at h; exact h))
                have hbz9 := hac
                clear hsit hcal har hac hbw htx ho hsq9 hbz9
                rcases hs with hs | hs
                · have HS9 := Lib.hid hs
                  clear hs
                  by_cases hte : bs (cut3 text) = st.text
                  · have HTE := Lib.hid hte
                    clear hte
                    by_cases hsl : st.l = []
                    · have HSL := Lib.hid hsl
                      clear hsl
                      as_aux_lemma =>
                        have q1 : ((ba s.text).toList == (ba st.text).toList) = true := by rw [beq_str, bs_ba, bs_ba]; exact decide_eq_true (by rw [HS9.out])
                        have q2 : ((ba s.text).toList == (text.extract 0 (min (text.size : Int) 300).toNat).toList) = true := by rw [beq_str, bs_ba]; exact decide_eq_true (by rw [HS9.out]; exact HTE.out.symm)
                        have HD0 := Lib.hid (show decide (s.l = st.l) = true from decide_eq_true (by rw [HS9.out]))
                        have HD1 := Lib.hid (show decide (s.l = ([] : List Bs)) = true from decide_eq_true (by rw [HS9.out]; exact HSL.out))
                        go_wp2_with (first
                          | (go_at_call 14; have zz := TU; clear zz; refine (SM.out _ s.l s.l true _ _ _ _ _ _ _ _ rfl rfl (decide_eq_true rfl) HLN.out XU.out XV.out).mono ?_; rintro ev wz ⟨rfl, hb⟩; have TZ := Lib.hid (And.intro (TU.out.below hb) (TV.out.below hb)); have RZ := Lib.hid (RU.out.below hb); have NZ := Lib.hid (NU.out.below hb); clear hb)
                          | (go_at_call 14; have zz := T10; clear zz; go_loud (refine (SM.out _ s.l ([] : List Bs) true _ _ _ _ _ _ _ _ rfl rfl HD1.out HLN.out X10.out N10.out.texts).mono ?_); rintro ev w11 ⟨rfl, hb⟩; have T11 := Lib.hid (T10.out.below hb); have X11 := Lib.hid (X10.out.below hb); have R11 := Lib.hid (R10.out.below hb); have N11 := Lib.hid (N10.out.below hb); clear hb)
                          | (go_at_call 14; go_loud (refine (SM.out _ s.l st.l true _ _ _ _ _ _ _ _ rfl rfl HD0.out HLN.out X9.out R9.out.texts).mono ?_); rintro ev w10 ⟨rfl, hb⟩; have T10 := Lib.hid (T9.out.below hb); have X10 := Lib.hid (X9.out.below hb); have R10 := Lib.hid (R9.out.below hb); have N10 := Lib.hid (N9.out.below hb); clear hb)
                          | (go_at_call 11; (with_reducible refine (OP2.out _ T11.out.toDsk).mono ?_); rintro ev wu ⟨bwu, Au, cu, rfl, hsu, hbu, hxu, hou⟩; have TU := Lib.hid hsu; have TV := Lib.hid (T11.out.upd hou hsu.dk); have XU := Lib.hid hxu; have XV := Lib.hid (X11.out.own L9.out.1 L9.out.2 hou); have RU := Lib.hid (R11.out.fresh hou hbu); have NU := Lib.hid (N11.out.fresh hou hbu); clear hsu hxu hou hbu)
                          | (go_at_call 16; (with_reducible refine (SQ.out bwu _ TZ.out.1).mono ?_); rintro ev w5 ⟨rfl, rfl⟩)
                          | (go_at_call 16; (with_reducible refine (SQ.out bw9 _ TZ.out.2).mono ?_); rintro ev w5 ⟨rfl, rfl⟩))
                        go_roundw
                        case rel => exact ⟨k + 1, D9, st, bwu, by go_num, by omega, rfl, (by show Value.string (cut3 text) = Value.string (ba st.text); rw [← HTE.out, ba_bs]), by omega, by have h := TZ.out.1; rw [HS9.out] at h; exact h, by have h := F9.out.1; rw [HS9.out] at h; exact h, F9.out.2.1, by have := F9.out.2.2; have := N9A.out; omega, by have h := HSQ9.out; rw [HS9.out] at h; exact h, (by rw [HSL.out]; exact NZ.out)⟩
                        case measure => simp [intOf]; omega
                    · have HSL := Lib.hid hsl
                      clear hsl
                      as_aux_lemma =>
                        have q1 : ((ba s.text).toList == (ba st.text).toList) = true := by rw [beq_str, bs_ba, bs_ba]; exact decide_eq_true (by rw [HS9.out])
                        have q2 : ((ba s.text).toList == (text.extract 0 (min (text.size : Int) 300).toNat).toList) = true := by rw [beq_str, bs_ba]; exact decide_eq_true (by rw [HS9.out]; exact HTE.out.symm)
                        have HD0 := Lib.hid (show decide (s.l = st.l) = true from decide_eq_true (by rw [HS9.out]))
                        have HD1 := Lib.hid (show decide (s.l = ([] : List Bs)) = false from decide_eq_false (by rw [HS9.out]; exact HSL.out))
                        go_wp2_with (first
                          | (go_at_call 14; have zz := TU; clear zz; refine (SM.out _ s.l s.l true _ _ _ _ _ _ _ _ rfl rfl (decide_eq_true rfl) HLN.out XU.out XV.out).mono ?_; rintro ev wz ⟨rfl, hb⟩; have TZ := Lib.hid (And.intro (TU.out.below hb) (TV.out.below hb)); have RZ := Lib.hid (RU.out.below hb); have NZ := Lib.hid (NU.out.below hb); clear hb)
                          | (go_at_call 14; have zz := T10; clear zz; go_loud (refine (SM.out _ s.l ([] : List Bs) false _ _ _ _ _ _ _ _ rfl rfl HD1.out HLN.out X10.out N10.out.texts).mono ?_); rintro ev w11 ⟨rfl, hb⟩; have T11 := Lib.hid (T10.out.below hb); have X11 := Lib.hid (X10.out.below hb); have R11 := Lib.hid (R10.out.below hb); have N11 := Lib.hid (N10.out.below hb); clear hb)
                          | (go_at_call 14; go_loud (refine (SM.out _ s.l st.l true _ _ _ _ _ _ _ _ rfl rfl HD0.out HLN.out X9.out R9.out.texts).mono ?_); rintro ev w10 ⟨rfl, hb⟩; have T10 := Lib.hid (T9.out.below hb); have X10 := Lib.hid (X9.out.below hb); have R10 := Lib.hid (R9.out.below hb); have N10 := Lib.hid (N9.out.below hb); clear hb)
                          | (go_at_call 11; (with_reducible refine (OP2.out _ T11.out.toDsk).mono ?_); rintro ev wu ⟨bwu, Au, cu, rfl, hsu, hbu, hxu, hou⟩; have TU := Lib.hid hsu; have TV := Lib.hid (T11.out.upd hou hsu.dk); have XU := Lib.hid hxu; have XV := Lib.hid (X11.out.own L9.out.1 L9.out.2 hou); have RU := Lib.hid (R11.out.fresh hou hbu); have NU := Lib.hid (N11.out.fresh hou hbu); clear hsu hxu hou hbu)
                          | (go_at_call 16; (with_reducible refine (SQ.out bwu _ TZ.out.1).mono ?_); rintro ev w5 ⟨rfl, rfl⟩)
                          | (go_at_call 16; (with_reducible refine (SQ.out bw9 _ TZ.out.2).mono ?_); rintro ev w5 ⟨rfl, rfl⟩))
                        go_roundw
                        case rel => exact ⟨k + 1, D9, st, bwu, by go_num, by omega, rfl, rfl, by omega, by have h := TZ.out.1; rw [HS9.out] at h; exact h, by have h := F9.out.1; rw [HS9.out] at h; exact h, F9.out.2.1, by have := F9.out.2.2; have := N9A.out; omega, by have h := HSQ9.out; rw [HS9.out] at h; exact h, RZ.out⟩
                        case measure => simp [intOf]; omega
                  · have HTE := Lib.hid hte
                    clear hte
                    as_aux_lemma =>
                      have q1 : ((ba s.text).toList == (ba st.text).toList) = true := by rw [beq_str, bs_ba, bs_ba]; exact decide_eq_true (by rw [HS9.out])
                      have q2 : ((ba s.text).toList == (text.extract 0 (min (text.size : Int) 300).toNat).toList) = false := by rw [beq_str, bs_ba]; exact decide_eq_false (by rw [HS9.out]; exact fun h => HTE.out h.symm)
                      have HD0 := Lib.hid (show decide (s.l = st.l) = true from decide_eq_true (by rw [HS9.out]))
                      go_wp2_with (first
                        | (go_at_call 14; have zz := TU; clear zz; refine (SM.out _ s.l s.l true _ _ _ _ _ _ _ _ rfl rfl (decide_eq_true rfl) HLN.out XU.out XV.out).mono ?_; rintro ev wz ⟨rfl, hb⟩; have TZ := Lib.hid (And.intro (TU.out.below hb) (TV.out.below hb)); have RZ := Lib.hid (RU.out.below hb); have NZ := Lib.hid (NU.out.below hb); clear hb)
                        | (go_at_call 14; go_loud (refine (SM.out _ s.l st.l true _ _ _ _ _ _ _ _ rfl rfl HD0.out HLN.out X9.out R9.out.texts).mono ?_); rintro ev w10 ⟨rfl, hb⟩; have T10 := Lib.hid (T9.out.below hb); have X10 := Lib.hid (X9.out.below hb); have R10 := Lib.hid (R9.out.below hb); have N10 := Lib.hid (N9.out.below hb); clear hb)
                        | (go_at_call 11; (with_reducible refine (OP2.out _ T10.out.toDsk).mono ?_); rintro ev wu ⟨bwu, Au, cu, rfl, hsu, hbu, hxu, hou⟩; have TU := Lib.hid hsu; have TV := Lib.hid (T10.out.upd hou hsu.dk); have XU := Lib.hid hxu; have XV := Lib.hid (X10.out.own L9.out.1 L9.out.2 hou); have RU := Lib.hid (R10.out.fresh hou hbu); have NU := Lib.hid (N10.out.fresh hou hbu); clear hsu hxu hou hbu)
                        | (go_at_call 16; (with_reducible refine (SQ.out bwu _ TZ.out.1).mono ?_); rintro ev w5 ⟨rfl, rfl⟩)
                        | (go_at_call 16; (with_reducible refine (SQ.out bw9 _ TZ.out.2).mono ?_); rintro ev w5 ⟨rfl, rfl⟩))
                      go_roundw
                      case rel => exact ⟨k + 1, D9, st, bwu, by go_num, by omega, rfl, rfl, by omega, by have h := TZ.out.1; rw [HS9.out] at h; exact h, by have h := F9.out.1; rw [HS9.out] at h; exact h, F9.out.2.1, by have := F9.out.2.2; have := N9A.out; omega, by have h := HSQ9.out; rw [HS9.out] at h; exact h, RZ.out⟩
                      case measure => simp [intOf]; omega
                · have HS9 := Lib.hid (hs.trans hst2.out)
                  clear hs
                  by_cases hte : bs (cut3 text) = st.text
                  · have HTE := Lib.hid hte
                    clear hte
                    by_cases hsl : st.l = []
                    · have HSL := Lib.hid hsl
                      clear hsl
                      as_aux_lemma =>
                        have q1 : ((ba s.text).toList == (ba st.text).toList) = true := by rw [beq_str, bs_ba, bs_ba]; exact decide_eq_true (by rw [HS9.out]; exact HTE.out)
                        have q2 : ((ba s.text).toList == (text.extract 0 (min (text.size : Int) 300).toNat).toList) = true := by rw [beq_str, bs_ba]; exact decide_eq_true (by rw [HS9.out]; rfl)
                        have HD0 := Lib.hid (show decide (s.l = st.l) = true from decide_eq_true (by rw [HS9.out]; exact HSL.out.symm))
                        have HD1 := Lib.hid (show decide (s.l = ([] : List Bs)) = true from decide_eq_true (by rw [HS9.out]; rfl))
                        go_wp2_with (first
                          | (go_at_call 14; have zz := TU; clear zz; refine (SM.out _ s.l s.l true _ _ _ _ _ _ _ _ rfl rfl (decide_eq_true rfl) HLN.out XU.out XV.out).mono ?_; rintro ev wz ⟨rfl, hb⟩; have TZ := Lib.hid (And.intro (TU.out.below hb) (TV.out.below hb)); have RZ := Lib.hid (RU.out.below hb); have NZ := Lib.hid (NU.out.below hb); clear hb)
                          | (go_at_call 14; have zz := T10; clear zz; go_loud (refine (SM.out _ s.l ([] : List Bs) true _ _ _ _ _ _ _ _ rfl rfl HD1.out HLN.out X10.out N10.out.texts).mono ?_); rintro ev w11 ⟨rfl, hb⟩; have T11 := Lib.hid (T10.out.below hb); have X11 := Lib.hid (X10.out.below hb); have R11 := Lib.hid (R10.out.below hb); have N11 := Lib.hid (N10.out.below hb); clear hb)
                          | (go_at_call 14; go_loud (refine (SM.out _ s.l st.l true _ _ _ _ _ _ _ _ rfl rfl HD0.out HLN.out X9.out R9.out.texts).mono ?_); rintro ev w10 ⟨rfl, hb⟩; have T10 := Lib.hid (T9.out.below hb); have X10 := Lib.hid (X9.out.below hb); have R10 := Lib.hid (R9.out.below hb); have N10 := Lib.hid (N9.out.below hb); clear hb)
                          | (go_at_call 11; (with_reducible refine (OP2.out _ T11.out.toDsk).mono ?_); rintro ev wu ⟨bwu, Au, cu, rfl, hsu, hbu, hxu, hou⟩; have TU := Lib.hid hsu; have TV := Lib.hid (T11.out.upd hou hsu.dk); have XU := Lib.hid hxu; have XV := Lib.hid (X11.out.own L9.out.1 L9.out.2 hou); have RU := Lib.hid (R11.out.fresh hou hbu); have NU := Lib.hid (N11.out.fresh hou hbu); clear hsu hxu hou hbu)
                          | (go_at_call 16; (with_reducible refine (SQ.out bwu _ TZ.out.1).mono ?_); rintro ev w5 ⟨rfl, rfl⟩)
                          | (go_at_call 16; (with_reducible refine (SQ.out bw9 _ TZ.out.2).mono ?_); rintro ev w5 ⟨rfl, rfl⟩))
                        go_roundw
                        case rel => exact ⟨k + 1, D9, (st.check (bs (cut3 text))), bwu, by go_num, by omega, rfl, (by show Value.string (cut3 text) = Value.string (ba (bs (cut3 text))); rw [ba_bs]), by omega, by have h := TZ.out.1; rw [HS9.out] at h; exact h, by have h := F9.out.1; rw [HS9.out] at h; exact h, F9.out.2.1, by have := F9.out.2.2; have := N9A.out; omega, by have h := HSQ9.out; rw [HS9.out] at h; exact h, NZ.out⟩
                        case measure => simp [intOf]; omega
                    · have HSL := Lib.hid hsl
                      clear hsl
                      as_aux_lemma =>
                        have q1 : ((ba s.text).toList == (ba st.text).toList) = true := by rw [beq_str, bs_ba, bs_ba]; exact decide_eq_true (by rw [HS9.out]; exact HTE.out)
                        have q2 : ((ba s.text).toList == (text.extract 0 (min (text.size : Int) 300).toNat).toList) = true := by rw [beq_str, bs_ba]; exact decide_eq_true (by rw [HS9.out]; rfl)
                        have HD0 := Lib.hid (show decide (s.l = st.l) = false from decide_eq_false (by rw [HS9.out]; exact fun h => HSL.out h.symm))
                        have HD1 := Lib.hid (show decide (s.l = ([] : List Bs)) = true from decide_eq_true (by rw [HS9.out]; rfl))
                        go_wp2_with (first
                          | (go_at_call 14; have zz := TU; clear zz; refine (SM.out _ s.l s.l true _ _ _ _ _ _ _ _ rfl rfl (decide_eq_true rfl) HLN.out XU.out XV.out).mono ?_; rintro ev wz ⟨rfl, hb⟩; have TZ := Lib.hid (And.intro (TU.out.below hb) (TV.out.below hb)); have RZ := Lib.hid (RU.out.below hb); have NZ := Lib.hid (NU.out.below hb); clear hb)
                          | (go_at_call 14; have zz := T10; clear zz; go_loud (refine (SM.out _ s.l ([] : List Bs) true _ _ _ _ _ _ _ _ rfl rfl HD1.out HLN.out X10.out N10.out.texts).mono ?_); rintro ev w11 ⟨rfl, hb⟩; have T11 := Lib.hid (T10.out.below hb); have X11 := Lib.hid (X10.out.below hb); have R11 := Lib.hid (R10.out.below hb); have N11 := Lib.hid (N10.out.below hb); clear hb)
                          | (go_at_call 14; go_loud (refine (SM.out _ s.l st.l false _ _ _ _ _ _ _ _ rfl rfl HD0.out HLN.out X9.out R9.out.texts).mono ?_); rintro ev w10 ⟨rfl, hb⟩; have T10 := Lib.hid (T9.out.below hb); have X10 := Lib.hid (X9.out.below hb); have R10 := Lib.hid (R9.out.below hb); have N10 := Lib.hid (N9.out.below hb); clear hb)
                          | (go_at_call 11; (with_reducible refine (OP2.out _ T11.out.toDsk).mono ?_); rintro ev wu ⟨bwu, Au, cu, rfl, hsu, hbu, hxu, hou⟩; have TU := Lib.hid hsu; have TV := Lib.hid (T11.out.upd hou hsu.dk); have XU := Lib.hid hxu; have XV := Lib.hid (X11.out.own L9.out.1 L9.out.2 hou); have RU := Lib.hid (R11.out.fresh hou hbu); have NU := Lib.hid (N11.out.fresh hou hbu); clear hsu hxu hou hbu)
                          | (go_at_call 16; (with_reducible refine (SQ.out bwu _ TZ.out.1).mono ?_); rintro ev w5 ⟨rfl, rfl⟩)
                          | (go_at_call 16; (with_reducible refine (SQ.out bw9 _ TZ.out.2).mono ?_); rintro ev w5 ⟨rfl, rfl⟩))
                        go_roundw
                        case rel => exact ⟨k + 1, D9, (st.check (bs (cut3 text))), bwu, by go_num, by omega, rfl, (by show Value.string (cut3 text) = Value.string (ba (bs (cut3 text))); rw [ba_bs]), by omega, by have h := TZ.out.1; rw [HS9.out] at h; exact h, by have h := F9.out.1; rw [HS9.out] at h; exact h, F9.out.2.1, by have := F9.out.2.2; have := N9A.out; omega, by have h := HSQ9.out; rw [HS9.out] at h; exact h, NZ.out⟩
                        case measure => simp [intOf]; omega
                  · have HTE := Lib.hid hte
                    clear hte
                    as_aux_lemma =>
                      have q1 : ((ba s.text).toList == (ba st.text).toList) = false := by rw [beq_str, bs_ba, bs_ba]; exact decide_eq_false (by rw [HS9.out]; exact HTE.out)
                      have q2 : ((ba s.text).toList == (text.extract 0 (min (text.size : Int) 300).toNat).toList) = true := by rw [beq_str, bs_ba]; exact decide_eq_true (by rw [HS9.out]; rfl)
                      have HD0 := Lib.hid (show decide (s.l = ([] : List Bs)) = true from decide_eq_true (by rw [HS9.out]; rfl))
                      go_wp2_with (first
                        | (go_at_call 14; have zz := TU; clear zz; refine (SM.out _ s.l s.l true _ _ _ _ _ _ _ _ rfl rfl (decide_eq_true rfl) HLN.out XU.out XV.out).mono ?_; rintro ev wz ⟨rfl, hb⟩; have TZ := Lib.hid (And.intro (TU.out.below hb) (TV.out.below hb)); have RZ := Lib.hid (RU.out.below hb); have NZ := Lib.hid (NU.out.below hb); clear hb)
                        | (go_at_call 14; go_loud (refine (SM.out _ s.l ([] : List Bs) true _ _ _ _ _ _ _ _ rfl rfl HD0.out HLN.out X9.out N9.out.texts).mono ?_); rintro ev w10 ⟨rfl, hb⟩; have T10 := Lib.hid (T9.out.below hb); have X10 := Lib.hid (X9.out.below hb); have R10 := Lib.hid (R9.out.below hb); have N10 := Lib.hid (N9.out.below hb); clear hb)
                        | (go_at_call 11; (with_reducible refine (OP2.out _ T10.out.toDsk).mono ?_); rintro ev wu ⟨bwu, Au, cu, rfl, hsu, hbu, hxu, hou⟩; have TU := Lib.hid hsu; have TV := Lib.hid (T10.out.upd hou hsu.dk); have XU := Lib.hid hxu; have XV := Lib.hid (X10.out.own L9.out.1 L9.out.2 hou); have RU := Lib.hid (R10.out.fresh hou hbu); have NU := Lib.hid (N10.out.fresh hou hbu); clear hsu hxu hou hbu)
                        | (go_at_call 16; (with_reducible refine (SQ.out bwu _ TZ.out.1).mono ?_); rintro ev w5 ⟨rfl, rfl⟩)
                        | (go_at_call 16; (with_reducible refine (SQ.out bw9 _ TZ.out.2).mono ?_); rintro ev w5 ⟨rfl, rfl⟩))
                      go_roundw
                      case rel => exact ⟨k + 1, D9, (st.check (bs (cut3 text))), bwu, by go_num, by omega, rfl, (by show Value.string (cut3 text) = Value.string (ba (bs (cut3 text))); rw [ba_bs]), by omega, by have h := TZ.out.1; rw [HS9.out] at h; exact h, by have h := F9.out.1; rw [HS9.out] at h; exact h, F9.out.2.1, by have := F9.out.2.2; have := N9A.out; omega, by have h := HSQ9.out; rw [HS9.out] at h; exact h, NZ.out⟩
                      case measure => simp [intOf]; omega

          · have te : (Int.tmod n 2 == 0) = false := by rw [beq_eq_false_iff_ne]; exact hev
            clear hev
            rcases ls_append hcal2 (by omega) hseq hlt2 (bs (cut3 text)) (cut3_len _) with ⟨D1, f1, c1, n1⟩ | ⟨_, W1, D1, f1, o1, l1, w1r, n1⟩
            · clear hac2
              as_aux_lemma =>
                have AR := Lib.hid (fun W (h : Dsk wa W (wa.heap.size + 1) wa.heap.size D) => arm_dsk (arm_pos D (1 + p4) (by omega) (by omega)) h hcalm.lies.ok (by omega) (by omega))
                have AP := Lib.hid (fun W (h : Sit wa W bw (wa.heap.size + 1) wa.heap.size (D.with (D.acts + (1 + p4).toNat)) ⟨((st.seq : Nat) : Int), 0⟩) => (show Calls Tryz.prog 17 #[.pointer (some ⟨bw, 0, none⟩), .string (text.extract 0 (min (text.size : Int) 300).toNat)] W fun e w' => e = .returned (.int .i64 0) ∧ Sit wa w' bw (wa.heap.size + 1) wa.heap.size D1 ⟨((st.seq + 1 : Nat) : Int), 0⟩ ∧ Only (WOwn bw (wa.heap.size + 1) wa.heap.size) W w' from append_by (t := cut3 text) f1 h hcal2.lies.ok (by show D.acts + _ < _; omega) (by omega) (Nat.le_trans (cut3_size _) (by omega))))
                have OFF := Lib.hid (fun (W2 : Wl) W (h : Sit wa W bw (wa.heap.size + 1) wa.heap.size D1 W2) => (show Calls Tryz.prog 29 #[.pointer (some ⟨wa.heap.size + 1, 0, none⟩)] W fun e w' => e = .returned (.bool false) ∧ W = w' from by have := off_any (wa.heap.size + 1) D1.off W h.dk.c3; rw [c1.off] at this; exact this))
                have AZ := Lib.hid (fun W (h : Dsk wa W (wa.heap.size + 1) wa.heap.size D1) => arm_dsk (arm_zero D1) h c1.lies.ok (by decide) (by decide))
                have C1H := Lib.hid (And.intro c1 n1)
                clear f1 c1 n1 hcalm hcal2 harm
                go_wp2_with (first
                  | (go_at_call 12; have zz := T1; clear zz; refine (PK4H.out _).mono ?_; rintro ev w2 ⟨rfl, hb⟩; have T2 := Lib.hid (T1.out.below hb); have R2 := Lib.hid (R1.out.below hb); have BX2 := Lib.hid (BX1.out.below hb); clear hb)
                  | (go_at_call 12; refine (PK8H.out _).mono ?_; rintro ev w1 ⟨rfl, hb⟩; have T1 := Lib.hid ((S0.out.below ((Below.refl _ _).alloc (Nat.le_refl _) _)).below hb); have R1 := Lib.hid ((R0.out.below ((Below.refl _ _).alloc (Nat.le_refl _) _)).below hb); have BX1 := Lib.hid (BX0.out.below hb); obtain ⟨_, o0, o1, o2, o3⟩ := BX1.out; clear hb )
                  | (go_at_call 28; have zz := T6; clear zz; (with_reducible refine (AZ.out _ T6.out.toDsk).mono ?_); rintro ev w8 ⟨rfl, hd, ho⟩; have T7 := Lib.hid (Dsk.sit T6.out hd ho); have R7 := Lib.hid (R6.out.own ho); have N7 := Lib.hid (N6.out.own ho); have BX7 := Lib.hid (BX6.out.wown (ho.mono (fun _ _ h => (.inr h : WOwn bw (wa.heap.size + 1) wa.heap.size _))) hwl hdl (by omega)); obtain ⟨_, y0, y1, y2, y3⟩ := BX7.out; clear hd ho)
                  | (go_at_call 28; (with_reducible refine (AR.out _ T2.out.toDsk).mono ?_); rintro ev w3 ⟨rfl, hd, ho⟩; have T3 := Lib.hid (Dsk.sit T2.out hd ho); have R3 := Lib.hid (R2.out.own ho); have BX3 := Lib.hid (BX2.out.wown (ho.mono (fun _ _ h => (.inr h : WOwn bw (wa.heap.size + 1) wa.heap.size _))) hwl hdl (by omega)); obtain ⟨_, r0, r1, r2, r3⟩ := BX3.out; have HC3 := Lib.hid (show Kd.C Kd.string w3 Av st.l.length (st.l.map ba) from by have h := R3.out.texts.reads.2; rwa [List.length_map] at h); have z31 := T3.out.wl.lt; have z32 := T3.out.dk.lt; clear hd ho)
                  | ((with_reducible refine gate_builtin (b := .append) (xs := #[.const (.slice none 0 0), .tmp 82]) rfl ?_); (try (refine gate_guard (by rfl) ?_; dsimp only)); at_builtin; go_loud (refine Kd.R_append_row Value.string ByteArray.empty (w0 := w3) 0 rfl (.const (.slice none 0 0)) (.tmp 82) 22 9 (.string ⟨#[]⟩) 16 rfl Tryz.underlying22 infoStr rfl (by decide) (.slice none 0 0) [] (st.l.map ba) Av st.l.length cv (fun j => j ≠ wa.heap.size + 1 ∧ j ≠ wa.heap.size ∧ j ≠ bw ∧ wa.heap.size ≤ j) rfl rfl (fun j hj => ⟨by omega, by omega, by omega, by omega⟩) (Kd.R_nil _ _ _ _ _) HC3.out (Below.refl _ _) (Nat.zero_le _) (by simp only [List.length_nil]; omega) ?_; intro v4 w4 h4 hb4 hg4 hat4; rw [List.nil_append] at h4; obtain ⟨A4, c4, rfl⟩ := Kd.R_slice h4; rw [List.length_map] at h4 hat4 ⊢; have N4 := Lib.hid h4; have G4 := Lib.hid hg4; have HT4 := Lib.hid hat4; have T4 := Lib.hid (T3.out.grown hg4 (fun j hj => by simp [Value.ownBlock] at hj)); have z41 := T4.out.wl.lt; have z42 := T4.out.dk.lt; clear h4 hb4 hg4 hat4))
                  | ((with_reducible refine gate_builtin (b := .append) (xs := #[.tmp 83, .tmp 85]) rfl ?_); (try (refine gate_guard (by rfl) ?_; dsimp only)); at_builtin; go_loud (refine Kd.R_append Kd.string (w0 := w4) 0 rfl (.tmp 83) (.tmp 85) 22 9 (.string ⟨#[]⟩) 16 rfl Tryz.underlying22 infoStr rfl (by decide) (by decide) (.slice A4 st.l.length c4) (st.l.map ba) (ba (bs (cut3 text))) [.string (cut3 text)] (fun j => j ≠ wa.heap.size + 1 ∧ j ≠ wa.heap.size ∧ j ≠ bw ∧ wa.heap.size ≤ j) (fun _ => False) (by rfl) (by rfl) (by show [Value.string _] = [Value.string _]; rw [ba_bs]) (fun _ h => h.elim) (fun j hj => ⟨by omega, by omega, by omega, by omega⟩) N4.out (Below.refl _ _) (Nat.zero_le _) (by rw [List.length_map]; omega) ?_; intro v5 w5 h5 hb5 hg5 _; obtain ⟨A5, c5, rfl⟩ := Kd.R_slice h5; rw [show (st.l.map ba ++ [ba (bs (cut3 text))]).length = st.l.length + 1 from by rw [List.length_append, List.length_map]; rfl] at h5 ⊢; have N5 := Lib.hid (show RowL wa w5 bw (wa.heap.size + 1) wa.heap.size (.slice A5 (st.l.length + 1) c5) (st.l ++ [bs (cut3 text)]) from by unfold RowL; rw [List.map_append]; exact h5); have T5 := Lib.hid (T4.out.grown hg5 (fun j hj => N4.out.1 j hj)); have R5 := Lib.hid (R3.out.next G4.out HT4.out hg5); have BX5 := Lib.hid (BX3.out.next G4.out HT4.out hg5); obtain ⟨_, q0, q1, q2, q3⟩ := BX5.out; clear h5 hb5 hg5))
                  | (go_at_call 17; refine (AP.out _ T5.out).mono ?_; rintro ev w6 ⟨rfl, hs, ho⟩; have T6 := Lib.hid hs; have R6 := Lib.hid (R5.out.wown ho); have N6 := Lib.hid (N5.out.wown ho); have BX6 := Lib.hid (BX5.out.wown ho hwl hdl (by omega)); clear hs ho)
                  | (go_at_call 29; (with_reducible refine (OFF.out _ _ T6.out).mono ?_); rintro ev w7 ⟨rfl, rfl⟩))
                go_roundw
                case rel => exact ⟨k + 1, D1.with 0, (st.add (bs (cut3 text))), bw, by go_num, by omega, rfl, rfl, by omega, T7.out, C1H.out.1.with (by decide), rfl, by show D1.acts ≤ _; have := C1H.out.2; omega, by show st.seq + 1 ≤ k + 1; omega, N7.out⟩
                case measure => simp [intOf]; omega
            · clear hac2
              as_aux_lemma =>
                have AR := Lib.hid (fun W (h : Dsk wa W (wa.heap.size + 1) wa.heap.size D) => arm_dsk (arm_pos D (1 + p4) (by omega) (by omega)) h hcalm.lies.ok (by omega) (by omega))
                have AP := Lib.hid (fun W (h : Sit wa W bw (wa.heap.size + 1) wa.heap.size (D.with (D.acts + (1 + p4).toNat)) ⟨((st.seq : Nat) : Int), 0⟩) => (show Calls Tryz.prog 17 #[.pointer (some ⟨bw, 0, none⟩), .string (text.extract 0 (min (text.size : Int) 300).toNat)] W fun e w' => e = .returned (.int .i64 100) ∧ Sit wa w' bw (wa.heap.size + 1) wa.heap.size D1 W1 ∧ Only (WOwn bw (wa.heap.size + 1) wa.heap.size) W w' from append_by (t := cut3 text) f1 h hcal2.lies.ok (by show D.acts + _ < _; omega) (by omega) (Nat.le_trans (cut3_size _) (by omega))))
                have OFF := Lib.hid (fun (W2 : Wl) W (h : Sit wa W bw (wa.heap.size + 1) wa.heap.size D1 W2) => (show Calls Tryz.prog 29 #[.pointer (some ⟨wa.heap.size + 1, 0, none⟩)] W fun e w' => e = .returned (.bool true) ∧ W = w' from by have := off_any (wa.heap.size + 1) D1.off W h.dk.c3; rw [o1] at this; exact this))
                have AZ := Lib.hid (fun W (h : Dsk wa W (wa.heap.size + 1) wa.heap.size D1) => arm_dsk (arm_zero D1) h l1.ok (by decide) (by decide))
                obtain ⟨st2, hst2⟩ : ∃ s2, Hid (s2 = st.add (bs (cut3 text))) := ⟨_, Lib.hid rfl⟩
                rw [← hst2.out] at w1r
                have N9A := Lib.hid (show (D1.with 0).acts ≤ 100 * k + 20 from n1)
                have OPN := Lib.hid (fun W (h : Dsk wa W (wa.heap.size + 1) wa.heap.size (D1.with 0)) (hb : Below w.heap.size w W) => opens_any (wa.heap.size + 1) wa.heap.size (D1.with 0) st st2 (312 * (k + 1)) kA cA kc cc keep cuts w wa W h (l1.with (by decide)) w1r (by omega) (by show D1.acts ≤ _; omega) HKP.out HCU.out hb0 hb)
                clear f1 n1 hcalm hcal2 harm w1r l1 o1
                go_wp2_with (first
                  | (go_at_call 12; have zz := T1; clear zz; refine (PK4H.out _).mono ?_; rintro ev w2 ⟨rfl, hb⟩; have T2 := Lib.hid (T1.out.below hb); have R2 := Lib.hid (R1.out.below hb); have BX2 := Lib.hid (BX1.out.below hb); clear hb)
                  | (go_at_call 12; refine (PK8H.out _).mono ?_; rintro ev w1 ⟨rfl, hb⟩; have T1 := Lib.hid ((S0.out.below ((Below.refl _ _).alloc (Nat.le_refl _) _)).below hb); have R1 := Lib.hid ((R0.out.below ((Below.refl _ _).alloc (Nat.le_refl _) _)).below hb); have BX1 := Lib.hid (BX0.out.below hb); obtain ⟨_, o0, o1, o2, o3⟩ := BX1.out; clear hb )
                  | (go_at_call 28; have zz := T6; clear zz; (with_reducible refine (AZ.out _ T6.out.toDsk).mono ?_); rintro ev w8 ⟨rfl, hd, ho⟩; have T7 := Lib.hid (Dsk.sit T6.out hd ho); have R7 := Lib.hid (R6.out.own ho); have N7 := Lib.hid (N6.out.own ho); have BX7 := Lib.hid (BX6.out.wown (ho.mono (fun _ _ h => (.inr h : WOwn bw (wa.heap.size + 1) wa.heap.size _))) hwl hdl (by omega)); obtain ⟨_, y0, y1, y2, y3⟩ := BX7.out; clear hd ho)
                  | (go_at_call 28; (with_reducible refine (AR.out _ T2.out.toDsk).mono ?_); rintro ev w3 ⟨rfl, hd, ho⟩; have T3 := Lib.hid (Dsk.sit T2.out hd ho); have R3 := Lib.hid (R2.out.own ho); have BX3 := Lib.hid (BX2.out.wown (ho.mono (fun _ _ h => (.inr h : WOwn bw (wa.heap.size + 1) wa.heap.size _))) hwl hdl (by omega)); obtain ⟨_, r0, r1, r2, r3⟩ := BX3.out; have HC3 := Lib.hid (show Kd.C Kd.string w3 Av st.l.length (st.l.map ba) from by have h := R3.out.texts.reads.2; rwa [List.length_map] at h); have z31 := T3.out.wl.lt; have z32 := T3.out.dk.lt; clear hd ho)
                  | ((with_reducible refine gate_builtin (b := .append) (xs := #[.const (.slice none 0 0), .tmp 82]) rfl ?_); (try (refine gate_guard (by rfl) ?_; dsimp only)); at_builtin; go_loud (refine Kd.R_append_row Value.string ByteArray.empty (w0 := w3) 0 rfl (.const (.slice none 0 0)) (.tmp 82) 22 9 (.string ⟨#[]⟩) 16 rfl Tryz.underlying22 infoStr rfl (by decide) (.slice none 0 0) [] (st.l.map ba) Av st.l.length cv (fun j => j ≠ wa.heap.size + 1 ∧ j ≠ wa.heap.size ∧ j ≠ bw ∧ wa.heap.size ≤ j) rfl rfl (fun j hj => ⟨by omega, by omega, by omega, by omega⟩) (Kd.R_nil _ _ _ _ _) HC3.out (Below.refl _ _) (Nat.zero_le _) (by simp only [List.length_nil]; omega) ?_; intro v4 w4 h4 hb4 hg4 hat4; rw [List.nil_append] at h4; obtain ⟨A4, c4, rfl⟩ := Kd.R_slice h4; rw [List.length_map] at h4 hat4 ⊢; have N4 := Lib.hid h4; have G4 := Lib.hid hg4; have HT4 := Lib.hid hat4; have T4 := Lib.hid (T3.out.grown hg4 (fun j hj => by simp [Value.ownBlock] at hj)); have z41 := T4.out.wl.lt; have z42 := T4.out.dk.lt; clear h4 hb4 hg4 hat4))
                  | ((with_reducible refine gate_builtin (b := .append) (xs := #[.tmp 83, .tmp 85]) rfl ?_); (try (refine gate_guard (by rfl) ?_; dsimp only)); at_builtin; go_loud (refine Kd.R_append Kd.string (w0 := w4) 0 rfl (.tmp 83) (.tmp 85) 22 9 (.string ⟨#[]⟩) 16 rfl Tryz.underlying22 infoStr rfl (by decide) (by decide) (.slice A4 st.l.length c4) (st.l.map ba) (ba (bs (cut3 text))) [.string (cut3 text)] (fun j => j ≠ wa.heap.size + 1 ∧ j ≠ wa.heap.size ∧ j ≠ bw ∧ wa.heap.size ≤ j) (fun _ => False) (by rfl) (by rfl) (by show [Value.string _] = [Value.string _]; rw [ba_bs]) (fun _ h => h.elim) (fun j hj => ⟨by omega, by omega, by omega, by omega⟩) N4.out (Below.refl _ _) (Nat.zero_le _) (by rw [List.length_map]; omega) ?_; intro v5 w5 h5 hb5 hg5 _; obtain ⟨A5, c5, rfl⟩ := Kd.R_slice h5; rw [show (st.l.map ba ++ [ba (bs (cut3 text))]).length = st.l.length + 1 from by rw [List.length_append, List.length_map]; rfl] at h5 ⊢; have N5 := Lib.hid (show RowL wa w5 bw (wa.heap.size + 1) wa.heap.size (.slice A5 (st.l.length + 1) c5) (st.l ++ [bs (cut3 text)]) from by unfold RowL; rw [List.map_append]; exact h5); have T5 := Lib.hid (T4.out.grown hg5 (fun j hj => N4.out.1 j hj)); have R5 := Lib.hid (R3.out.next G4.out HT4.out hg5); have BX5 := Lib.hid (BX3.out.next G4.out HT4.out hg5); obtain ⟨_, q0, q1, q2, q3⟩ := BX5.out; clear h5 hb5 hg5))
                  | (go_at_call 17; refine (AP.out _ T5.out).mono ?_; rintro ev w6 ⟨rfl, hs, ho⟩; have T6 := Lib.hid hs; have R6 := Lib.hid (R5.out.wown ho); have N6 := Lib.hid (N5.out.wown ho); have BX6 := Lib.hid (BX5.out.wown ho hwl hdl (by omega)); clear hs ho)
                  | (go_at_call 29; (with_reducible refine (OFF.out _ _ T6.out).mono ?_); rintro ev w7 ⟨rfl, rfl⟩))
                refine (OPN.out _ T7.out.toDsk (HA.out.trans (T7.out.be.mono HA.out.size))).mono ?_
                rintro ev w9 ⟨s, D9, bw9, A9, c9, hs, rfl, hsit, hcal, har, hac, hbw, htx, ho⟩
                have T9 := Lib.hid hsit
                have X9 := Lib.hid htx
                have R9 := Lib.hid (R7.out.fresh ho hbw)
                have N9 := Lib.hid (N7.out.fresh ho hbw)
                have L9 := Lib.hid (And.intro T7.out.dk.lt T7.out.dk.map.lt)
                have F9 := Lib.hid (And.intro hcal (And.intro har hac))
                have hsq9 : s.seq ≤ k + 1 := by
                  rcases hs with h | h
                  · rw [h]; first | (rw [hst2.out]; show st.seq + 1 ≤ k + 1; omega) | (rw [hst2.out]; show st.seq ≤ k + 1; omega) | omega
                  · rw [h, hst2.out]; first | (show st.seq + 1 ≤ k + 1; omega) | (show st.seq ≤ k + 1; omega)
                have HSQ9 := Lib.hid hsq9
                have HLN := Lib.hid (show s.l.length ≤ 1000000 from by have := holds_len hcal.holds; omega)
                have OP2 := Lib.hid (fun W (h : Dsk wa W (wa.heap.size + 1) wa.heap.size D9) => open_by (open_calm hcal) h hcal.lies.ok (by have := N9A.out; omega))
                have SQ := Lib.hid (fun bw W (h : Sit wa W bw (wa.heap.size + 1) wa.heap.size D9 ⟨((s.seq : Nat) : Int), 0⟩) => seq_same h)
                have SM := Lib.hid (fun W (l m : List Bs) bb b1 b2 A c B d (n1 n2 : Nat) (en1 : l.length = n1) (en2 : m.length = n2) (hbb : decide (l = m) = bb) (hl : l.length ≤ 1000000) (h1 : Texts W b1 (.slice A n1 c) l) (h2 : Texts W b2 (.slice B n2 d) m) => (show Calls Tryz.prog 14 #[.slice A n1 c, .slice B n2 d] W fun e w' => e = .returned (.bool bb) ∧ Below W.heap.size W w' from by subst en1; subst en2; have h := same_C (l := l) (m := m) hl h1.reads.2 h1.reads.1 h2.reads.2 h2.reads.1; rw [hbb] at h; exact h))
                have hbz9 := hac
                clear hsit hcal har hac hbw htx ho hsq9 hbz9
                rcases hs with hs | hs
                · have HS9 := Lib.hid hs
                  clear hs
                  as_aux_lemma =>
                    have q1 : ((ba s.text).toList == (ba st.text).toList) = true := by rw [beq_str, bs_ba, bs_ba]; exact decide_eq_true (by rw [HS9.out])
                    have HD0 := Lib.hid (show decide (s.l = st.l) = true from decide_eq_true (by rw [HS9.out]))
                    have HD1 := Lib.hid (show decide (s.l = (st.l ++ [bs (cut3 text)])) = false from decide_eq_false (by rw [HS9.out]; intro h; have := congrArg List.length h; simp at this))
                    go_wp2_with (first
                      | (go_at_call 14; have zz := TU; clear zz; refine (SM.out _ s.l s.l true _ _ _ _ _ _ _ _ rfl rfl (decide_eq_true rfl) HLN.out XU.out XV.out).mono ?_; rintro ev wz ⟨rfl, hb⟩; have TZ := Lib.hid (And.intro (TU.out.below hb) (TV.out.below hb)); have RZ := Lib.hid (RU.out.below hb); have NZ := Lib.hid (NU.out.below hb); clear hb)
                      | (go_at_call 14; have zz := T10; clear zz; go_loud (refine (SM.out _ s.l (st.l ++ [bs (cut3 text)]) false _ _ _ _ _ _ _ _ rfl (by rw [List.length_append]; rfl) HD1.out HLN.out X10.out N10.out.texts).mono ?_); rintro ev w11 ⟨rfl, hb⟩; have T11 := Lib.hid (T10.out.below hb); have X11 := Lib.hid (X10.out.below hb); have R11 := Lib.hid (R10.out.below hb); have N11 := Lib.hid (N10.out.below hb); clear hb)
                      | (go_at_call 14; go_loud (refine (SM.out _ s.l st.l true _ _ _ _ _ _ _ _ rfl rfl HD0.out HLN.out X9.out R9.out.texts).mono ?_); rintro ev w10 ⟨rfl, hb⟩; have T10 := Lib.hid (T9.out.below hb); have X10 := Lib.hid (X9.out.below hb); have R10 := Lib.hid (R9.out.below hb); have N10 := Lib.hid (N9.out.below hb); clear hb)
                      | (go_at_call 11; (with_reducible refine (OP2.out _ T11.out.toDsk).mono ?_); rintro ev wu ⟨bwu, Au, cu, rfl, hsu, hbu, hxu, hou⟩; have TU := Lib.hid hsu; have TV := Lib.hid (T11.out.upd hou hsu.dk); have XU := Lib.hid hxu; have XV := Lib.hid (X11.out.own L9.out.1 L9.out.2 hou); have RU := Lib.hid (R11.out.fresh hou hbu); have NU := Lib.hid (N11.out.fresh hou hbu); clear hsu hxu hou hbu)
                      | (go_at_call 16; (with_reducible refine (SQ.out bwu _ TZ.out.1).mono ?_); rintro ev w5 ⟨rfl, rfl⟩)
                      | (go_at_call 16; (with_reducible refine (SQ.out bw9 _ TZ.out.2).mono ?_); rintro ev w5 ⟨rfl, rfl⟩))
                    go_roundw
                    case rel => exact ⟨k + 1, D9, st, bwu, by go_num, by omega, rfl, rfl, by omega, by have h := TZ.out.1; rw [HS9.out] at h; exact h, by have h := F9.out.1; rw [HS9.out] at h; exact h, F9.out.2.1, by have := F9.out.2.2; have := N9A.out; omega, by have h := HSQ9.out; rw [HS9.out] at h; exact h, RZ.out⟩
                    case measure => simp [intOf]; omega
                · have HS9 := Lib.hid (hs.trans hst2.out)
                  clear hs
                  as_aux_lemma =>
                    have q1 : ((ba s.text).toList == (ba st.text).toList) = true := by rw [beq_str, bs_ba, bs_ba]; exact decide_eq_true (by rw [HS9.out]; rfl)
                    have HD0 := Lib.hid (show decide (s.l = st.l) = false from decide_eq_false (by rw [HS9.out]; intro h; have := congrArg List.length h; simp [St.add] at this))
                    have HD1 := Lib.hid (show decide (s.l = (st.l ++ [bs (cut3 text)])) = true from decide_eq_true (by rw [HS9.out]; rfl))
                    go_wp2_with (first
                      | (go_at_call 14; have zz := TU; clear zz; refine (SM.out _ s.l s.l true _ _ _ _ _ _ _ _ rfl rfl (decide_eq_true rfl) HLN.out XU.out XV.out).mono ?_; rintro ev wz ⟨rfl, hb⟩; have TZ := Lib.hid (And.intro (TU.out.below hb) (TV.out.below hb)); have RZ := Lib.hid (RU.out.below hb); have NZ := Lib.hid (NU.out.below hb); clear hb)
                      | (go_at_call 14; have zz := T10; clear zz; go_loud (refine (SM.out _ s.l (st.l ++ [bs (cut3 text)]) true _ _ _ _ _ _ _ _ rfl (by rw [List.length_append]; rfl) HD1.out HLN.out X10.out N10.out.texts).mono ?_); rintro ev w11 ⟨rfl, hb⟩; have T11 := Lib.hid (T10.out.below hb); have X11 := Lib.hid (X10.out.below hb); have R11 := Lib.hid (R10.out.below hb); have N11 := Lib.hid (N10.out.below hb); clear hb)
                      | (go_at_call 14; go_loud (refine (SM.out _ s.l st.l false _ _ _ _ _ _ _ _ rfl rfl HD0.out HLN.out X9.out R9.out.texts).mono ?_); rintro ev w10 ⟨rfl, hb⟩; have T10 := Lib.hid (T9.out.below hb); have X10 := Lib.hid (X9.out.below hb); have R10 := Lib.hid (R9.out.below hb); have N10 := Lib.hid (N9.out.below hb); clear hb)
                      | (go_at_call 11; (with_reducible refine (OP2.out _ T11.out.toDsk).mono ?_); rintro ev wu ⟨bwu, Au, cu, rfl, hsu, hbu, hxu, hou⟩; have TU := Lib.hid hsu; have TV := Lib.hid (T11.out.upd hou hsu.dk); have XU := Lib.hid hxu; have XV := Lib.hid (X11.out.own L9.out.1 L9.out.2 hou); have RU := Lib.hid (R11.out.fresh hou hbu); have NU := Lib.hid (N11.out.fresh hou hbu); clear hsu hxu hou hbu)
                      | (go_at_call 16; (with_reducible refine (SQ.out bwu _ TZ.out.1).mono ?_); rintro ev w5 ⟨rfl, rfl⟩)
                      | (go_at_call 16; (with_reducible refine (SQ.out bw9 _ TZ.out.2).mono ?_); rintro ev w5 ⟨rfl, rfl⟩))
                    go_roundw
                    case rel => exact ⟨k + 1, D9, (st.add (bs (cut3 text))), bwu, by go_num, by omega, rfl, rfl, by omega, by have h := TZ.out.1; rw [HS9.out] at h; exact h, by have h := F9.out.1; rw [HS9.out] at h; exact h, F9.out.2.1, by have := F9.out.2.2; have := N9A.out; omega, by have h := HSQ9.out; rw [HS9.out] at h; exact h, NZ.out⟩
                    case measure => simp [intOf]; omega

        · by_cases h7 : pk = 7
          · subst h7
            clear h5 h6
            as_aux_lemma =>
              have hcal2 := hcalm
              obtain ⟨D1, f1, c1, n1⟩ := (ls_append hcal2 (by omega) hseq hlt2 (bs (cut3 text)) (cut3_len _)).resolve_right (fun h => h.1 harm)
              have AP := Lib.hid (fun W (h : Sit wa W bw (wa.heap.size + 1) wa.heap.size D ⟨((st.seq : Nat) : Int), 0⟩) => (show Calls Tryz.prog 17 #[.pointer (some ⟨bw, 0, none⟩), .string (text.extract 0 (min (text.size : Int) 300).toNat)] W fun e w' => e = .returned (.int .i64 0) ∧ Sit wa w' bw (wa.heap.size + 1) wa.heap.size D1 ⟨((st.seq + 1 : Nat) : Int), 0⟩ ∧ Only (WOwn bw (wa.heap.size + 1) wa.heap.size) W w' from append_by (t := cut3 text) f1 h hcal2.lies.ok (by omega) (by omega) (Nat.le_trans (cut3_size _) (by omega))))
              have OFF := Lib.hid (fun (W2 : Wl) W (h : Sit wa W bw (wa.heap.size + 1) wa.heap.size D1 W2) => (show Calls Tryz.prog 29 #[.pointer (some ⟨wa.heap.size + 1, 0, none⟩)] W fun e w' => e = .returned (.bool false) ∧ W = w' from by have := off_any (wa.heap.size + 1) D1.off W h.dk.c3; rw [c1.off] at this; exact this))
              have AZ := Lib.hid (fun W (h : Dsk wa W (wa.heap.size + 1) wa.heap.size D1) => arm_dsk (arm_zero D1) h c1.lies.ok (by decide) (by decide))
              obtain ⟨st2, hst2⟩ : ∃ s2, Hid (s2 = st.add (bs (cut3 text))) := ⟨_, Lib.hid rfl⟩
              have w1r : Wreck D1.files st2 st2 (312 * (k + 1)) := by rw [hst2.out]; exact c1.wreck _
              have l1 : Lies D1 := c1.lies
              have N9A := Lib.hid (show (D1.with 0).acts ≤ 100 * k + 20 from n1)
              have OPN := Lib.hid (fun W (h : Dsk wa W (wa.heap.size + 1) wa.heap.size (D1.with 0)) (hb : Below w.heap.size w W) => opens_any (wa.heap.size + 1) wa.heap.size (D1.with 0) st2 st2 (312 * (k + 1)) kA cA kc cc keep cuts w wa W h (l1.with (by decide)) w1r (by omega) (by show D1.acts ≤ _; omega) HKP.out HCU.out hb0 hb)
              clear f1 n1 hcalm hcal2 harm w1r l1 c1
              go_wp2_with (first
                | (go_at_call 12; refine (PK8H.out _).mono ?_; rintro ev w1 ⟨rfl, hb⟩; have T1 := Lib.hid ((S0.out.below ((Below.refl _ _).alloc (Nat.le_refl _) _)).below hb); have R1 := Lib.hid ((R0.out.below ((Below.refl _ _).alloc (Nat.le_refl _) _)).below hb); have BX1 := Lib.hid (BX0.out.below hb); obtain ⟨_, o0, o1, o2, o3⟩ := BX1.out; clear hb ; have T3 := T1; have R3 := R1; have BX3 := BX1; have HC3 := Lib.hid (show Kd.C Kd.string w1 Av st.l.length (st.l.map ba) from by have h := R3.out.texts.reads.2; rwa [List.length_map] at h); have z31 := T3.out.wl.lt; have z32 := T3.out.dk.lt)
                | (go_at_call 28; have zz := T6; clear zz; (with_reducible refine (AZ.out _ T6.out.toDsk).mono ?_); rintro ev w8 ⟨rfl, hd, ho⟩; have T7 := Lib.hid (Dsk.sit T6.out hd ho); have R7 := Lib.hid (R6.out.own ho); have N7 := Lib.hid (N6.out.own ho); have BX7 := Lib.hid (BX6.out.wown (ho.mono (fun _ _ h => (.inr h : WOwn bw (wa.heap.size + 1) wa.heap.size _))) hwl hdl (by omega)); obtain ⟨_, y0, y1, y2, y3⟩ := BX7.out; clear hd ho)
                | ((with_reducible refine gate_builtin (b := .append) (xs := #[.const (.slice none 0 0), .tmp 82]) rfl ?_); (try (refine gate_guard (by rfl) ?_; dsimp only)); at_builtin; go_loud (refine Kd.R_append_row Value.string ByteArray.empty (w0 := w1) 0 rfl (.const (.slice none 0 0)) (.tmp 82) 22 9 (.string ⟨#[]⟩) 16 rfl Tryz.underlying22 infoStr rfl (by decide) (.slice none 0 0) [] (st.l.map ba) Av st.l.length cv (fun j => j ≠ wa.heap.size + 1 ∧ j ≠ wa.heap.size ∧ j ≠ bw ∧ wa.heap.size ≤ j) rfl rfl (fun j hj => ⟨by omega, by omega, by omega, by omega⟩) (Kd.R_nil _ _ _ _ _) HC3.out (Below.refl _ _) (Nat.zero_le _) (by simp only [List.length_nil]; omega) ?_; intro v4 w4 h4 hb4 hg4 hat4; rw [List.nil_append] at h4; obtain ⟨A4, c4, rfl⟩ := Kd.R_slice h4; rw [List.length_map] at h4 hat4 ⊢; have N4 := Lib.hid h4; have G4 := Lib.hid hg4; have HT4 := Lib.hid hat4; have T4 := Lib.hid (T3.out.grown hg4 (fun j hj => by simp [Value.ownBlock] at hj)); have z41 := T4.out.wl.lt; have z42 := T4.out.dk.lt; clear h4 hb4 hg4 hat4))
                | ((with_reducible refine gate_builtin (b := .append) (xs := #[.tmp 83, .tmp 85]) rfl ?_); (try (refine gate_guard (by rfl) ?_; dsimp only)); at_builtin; go_loud (refine Kd.R_append Kd.string (w0 := w4) 0 rfl (.tmp 83) (.tmp 85) 22 9 (.string ⟨#[]⟩) 16 rfl Tryz.underlying22 infoStr rfl (by decide) (by decide) (.slice A4 st.l.length c4) (st.l.map ba) (ba (bs (cut3 text))) [.string (cut3 text)] (fun j => j ≠ wa.heap.size + 1 ∧ j ≠ wa.heap.size ∧ j ≠ bw ∧ wa.heap.size ≤ j) (fun _ => False) (by rfl) (by rfl) (by show [Value.string _] = [Value.string _]; rw [ba_bs]) (fun _ h => h.elim) (fun j hj => ⟨by omega, by omega, by omega, by omega⟩) N4.out (Below.refl _ _) (Nat.zero_le _) (by rw [List.length_map]; omega) ?_; intro v5 w5 h5 hb5 hg5 _; obtain ⟨A5, c5, rfl⟩ := Kd.R_slice h5; rw [show (st.l.map ba ++ [ba (bs (cut3 text))]).length = st.l.length + 1 from by rw [List.length_append, List.length_map]; rfl] at h5 ⊢; have N5 := Lib.hid (show RowL wa w5 bw (wa.heap.size + 1) wa.heap.size (.slice A5 (st.l.length + 1) c5) (st.l ++ [bs (cut3 text)]) from by unfold RowL; rw [List.map_append]; exact h5); have T5 := Lib.hid (T4.out.grown hg5 (fun j hj => N4.out.1 j hj)); have R5 := Lib.hid (R3.out.next G4.out HT4.out hg5); have BX5 := Lib.hid (BX3.out.next G4.out HT4.out hg5); obtain ⟨_, q0, q1, q2, q3⟩ := BX5.out; clear h5 hb5 hg5))
                | (go_at_call 17; refine (AP.out _ T5.out).mono ?_; rintro ev w6 ⟨rfl, hs, ho⟩; have T6 := Lib.hid hs; have R6 := Lib.hid (R5.out.wown ho); have N6 := Lib.hid (N5.out.wown ho); have BX6 := Lib.hid (BX5.out.wown ho hwl hdl (by omega)); clear hs ho)
                | (go_at_call 29; (with_reducible refine (OFF.out _ _ T6.out).mono ?_); rintro ev w7 ⟨rfl, rfl⟩))
              refine (OPN.out _ T7.out.toDsk (HA.out.trans (T7.out.be.mono HA.out.size))).mono ?_
              rintro ev w9 ⟨s, D9, bw9, A9, c9, hs, rfl, hsit, hcal, har, hac, hbw, htx, ho⟩
              have T9 := Lib.hid hsit
              have X9 := Lib.hid htx
              have R9 := Lib.hid (R7.out.fresh ho hbw)
              have N9 := Lib.hid (N7.out.fresh ho hbw)
              have L9 := Lib.hid (And.intro T7.out.dk.lt T7.out.dk.map.lt)
              have F9 := Lib.hid (And.intro hcal (And.intro har hac))
              have hsq9 : s.seq ≤ k + 1 := by
                rcases hs with h | h
                · rw [h]; first | (rw [hst2.out]; show st.seq + 1 ≤ k + 1; omega) | (rw [hst2.out]; show st.seq ≤ k + 1; omega) | omega
                · rw [h, hst2.out]; first | (show st.seq + 1 ≤ k + 1; omega) | (show st.seq ≤ k + 1; omega)
              have HSQ9 := Lib.hid hsq9
              have HLN := Lib.hid (show s.l.length ≤ 1000000 from by have := holds_len hcal.holds; omega)
              have OP2 := Lib.hid (fun W (h : Dsk wa W (wa.heap.size + 1) wa.heap.size D9) => open_by (open_calm hcal) h hcal.lies.ok (by have := N9A.out; omega))
              have SQ := Lib.hid (fun bw W (h : Sit wa W bw (wa.heap.size + 1) wa.heap.size D9 ⟨((s.seq : Nat) : Int), 0⟩) => seq_same h)
              have SM := Lib.hid (fun W (l m : List Bs) bb b1 b2 A c B d (n1 n2 : Nat) (en1 : l.length = n1) (en2 : m.length = n2) (hbb : decide (l = m) = bb) (hl : l.length ≤ 1000000) (h1 : Texts W b1 (.slice A n1 c) l) (h2 : Texts W b2 (.slice B n2 d) m) => (show Calls Tryz.prog 14 #[.slice A n1 c, .slice B n2 d] W fun e w' => e = .returned (.bool bb) ∧ Below W.heap.size W w' from by subst en1; subst en2; have h := same_C (l := l) (m := m) hl h1.reads.2 h1.reads.1 h2.reads.2 h2.reads.1; rw [hbb] at h; exact h))
              have hbz9 := hac
              clear hsit hcal har hac hbw htx ho hsq9 hbz9
              have HS9 := Lib.hid ((hs.elim id id).trans hst2.out)
              clear hs
              have q1 : ((ba s.text).toList == (ba st.text).toList) = true := by rw [beq_str, bs_ba, bs_ba]; exact decide_eq_true (by rw [HS9.out]; rfl)
              have HD0 := Lib.hid (show decide (s.l = (st.l ++ [bs (cut3 text)])) = true from decide_eq_true (by rw [HS9.out]; rfl))
              have HD1 := Lib.hid (show decide (s.l = (st.l ++ [bs (cut3 text)])) = true from decide_eq_true (by rw [HS9.out]; rfl))
              go_wp2_with (first
                | (go_at_call 14; have zz := TU; clear zz; refine (SM.out _ s.l s.l true _ _ _ _ _ _ _ _ rfl rfl (decide_eq_true rfl) HLN.out XU.out XV.out).mono ?_; rintro ev wz ⟨rfl, hb⟩; have TZ := Lib.hid (And.intro (TU.out.below hb) (TV.out.below hb)); have RZ := Lib.hid (RU.out.below hb); have NZ := Lib.hid (NU.out.below hb); clear hb)
                | (go_at_call 14; have zz := T10; clear zz; go_loud (refine (SM.out _ s.l (st.l ++ [bs (cut3 text)]) true _ _ _ _ _ _ _ _ rfl (by rw [List.length_append]; rfl) HD1.out HLN.out X10.out N10.out.texts).mono ?_); rintro ev w11 ⟨rfl, hb⟩; have T11 := Lib.hid (T10.out.below hb); have X11 := Lib.hid (X10.out.below hb); have R11 := Lib.hid (R10.out.below hb); have N11 := Lib.hid (N10.out.below hb); clear hb)
                | (go_at_call 14; go_loud (refine (SM.out _ s.l (st.l ++ [bs (cut3 text)]) true _ _ _ _ _ _ _ _ rfl (by rw [List.length_append]; rfl) HD0.out HLN.out X9.out N9.out.texts).mono ?_); rintro ev w10 ⟨rfl, hb⟩; have T10 := Lib.hid (T9.out.below hb); have X10 := Lib.hid (X9.out.below hb); have R10 := Lib.hid (R9.out.below hb); have N10 := Lib.hid (N9.out.below hb); clear hb)
                | (go_at_call 11; (with_reducible refine (OP2.out _ T11.out.toDsk).mono ?_); rintro ev wu ⟨bwu, Au, cu, rfl, hsu, hbu, hxu, hou⟩; have TU := Lib.hid hsu; have TV := Lib.hid (T11.out.upd hou hsu.dk); have XU := Lib.hid hxu; have XV := Lib.hid (X11.out.own L9.out.1 L9.out.2 hou); have RU := Lib.hid (R11.out.fresh hou hbu); have NU := Lib.hid (N11.out.fresh hou hbu); clear hsu hxu hou hbu)
                | (go_at_call 16; (with_reducible refine (SQ.out bwu _ TZ.out.1).mono ?_); rintro ev w5 ⟨rfl, rfl⟩)
                | (go_at_call 16; (with_reducible refine (SQ.out bw9 _ TZ.out.2).mono ?_); rintro ev w5 ⟨rfl, rfl⟩))
              go_roundw
              case rel => exact ⟨k + 1, D9, (st.add (bs (cut3 text))), bwu, by go_num, by omega, rfl, rfl, by omega, by have h := TZ.out.1; rw [HS9.out] at h; exact h, by have h := F9.out.1; rw [HS9.out] at h; exact h, F9.out.2.1, by have := F9.out.2.2; have := N9A.out; omega, by have h := HSQ9.out; rw [HS9.out] at h; exact h, NZ.out⟩
              case measure => simp [intOf]; omega
          · have t5 : (pk == 5) = false := by rw [beq_eq_false_iff_ne]; exact h5
            have t6 : (pk == 6) = false := by rw [beq_eq_false_iff_ne]; exact h6
            have t7 : (pk == 7) = false := by rw [beq_eq_false_iff_ne]; exact h7
            clear h5 h6 h7
            as_aux_lemma =>
              obtain ⟨D1, f1, c1, n1⟩ := (ls_append hcalm (by omega) hseq hlt2 (bs (cut3 text)) (cut3_len _)).resolve_right (fun h => h.1 harm)
              have AP := Lib.hid (fun W (h : Sit wa W bw (wa.heap.size + 1) wa.heap.size D ⟨((st.seq : Nat) : Int), 0⟩) => (show Calls Tryz.prog 17 #[.pointer (some ⟨bw, 0, none⟩), .string (text.extract 0 (min (text.size : Int) 300).toNat)] W fun e w' => e = .returned (.int .i64 0) ∧ Sit wa w' bw (wa.heap.size + 1) wa.heap.size D1 ⟨((st.seq + 1 : Nat) : Int), 0⟩ ∧ Only (WOwn bw (wa.heap.size + 1) wa.heap.size) W w' from append_by (t := cut3 text) f1 h hcalm.lies.ok (by omega) (by omega) (Nat.le_trans (cut3_size _) (by omega))))
              have OFF := Lib.hid (fun (W2 : Wl) W (h : Sit wa W bw (wa.heap.size + 1) wa.heap.size D1 W2) => (show Calls Tryz.prog 29 #[.pointer (some ⟨wa.heap.size + 1, 0, none⟩)] W fun e w' => e = .returned (.bool false) ∧ W = w' from by have := off_any (wa.heap.size + 1) D1.off W h.dk.c3; rw [c1.off] at this; exact this))
              have AZ := Lib.hid (fun W (h : Dsk wa W (wa.heap.size + 1) wa.heap.size D1) => arm_dsk (arm_zero D1) h c1.lies.ok (by decide) (by decide))
              have C1H := Lib.hid (And.intro c1 n1)
              clear f1 c1 n1 hcalm harm
              go_wp2_with (first
                | (go_at_call 12; refine (PK8H.out _).mono ?_; rintro ev w1 ⟨rfl, hb⟩; have T1 := Lib.hid ((S0.out.below ((Below.refl _ _).alloc (Nat.le_refl _) _)).below hb); have R1 := Lib.hid ((R0.out.below ((Below.refl _ _).alloc (Nat.le_refl _) _)).below hb); have BX1 := Lib.hid (BX0.out.below hb); obtain ⟨_, o0, o1, o2, o3⟩ := BX1.out; clear hb ; have T3 := T1; have R3 := R1; have BX3 := BX1; have HC3 := Lib.hid (show Kd.C Kd.string w1 Av st.l.length (st.l.map ba) from by have h := R3.out.texts.reads.2; rwa [List.length_map] at h); have z31 := T3.out.wl.lt; have z32 := T3.out.dk.lt)
                | ((with_reducible refine gate_builtin (b := .append) (xs := #[.const (.slice none 0 0), .tmp 82]) rfl ?_); (try (refine gate_guard (by rfl) ?_; dsimp only)); at_builtin; go_loud (refine Kd.R_append_row Value.string ByteArray.empty (w0 := w1) 0 rfl (.const (.slice none 0 0)) (.tmp 82) 22 9 (.string ⟨#[]⟩) 16 rfl Tryz.underlying22 infoStr rfl (by decide) (.slice none 0 0) [] (st.l.map ba) Av st.l.length cv (fun j => j ≠ wa.heap.size + 1 ∧ j ≠ wa.heap.size ∧ j ≠ bw ∧ wa.heap.size ≤ j) rfl rfl (fun j hj => ⟨by omega, by omega, by omega, by omega⟩) (Kd.R_nil _ _ _ _ _) HC3.out (Below.refl _ _) (Nat.zero_le _) (by simp only [List.length_nil]; omega) ?_; intro v4 w4 h4 hb4 hg4 hat4; rw [List.nil_append] at h4; obtain ⟨A4, c4, rfl⟩ := Kd.R_slice h4; rw [List.length_map] at h4 hat4 ⊢; have N4 := Lib.hid h4; have G4 := Lib.hid hg4; have HT4 := Lib.hid hat4; have T4 := Lib.hid (T3.out.grown hg4 (fun j hj => by simp [Value.ownBlock] at hj)); have z41 := T4.out.wl.lt; have z42 := T4.out.dk.lt; clear h4 hb4 hg4 hat4))
                | ((with_reducible refine gate_builtin (b := .append) (xs := #[.tmp 83, .tmp 85]) rfl ?_); (try (refine gate_guard (by rfl) ?_; dsimp only)); at_builtin; go_loud (refine Kd.R_append Kd.string (w0 := w4) 0 rfl (.tmp 83) (.tmp 85) 22 9 (.string ⟨#[]⟩) 16 rfl Tryz.underlying22 infoStr rfl (by decide) (by decide) (.slice A4 st.l.length c4) (st.l.map ba) (ba (bs (cut3 text))) [.string (cut3 text)] (fun j => j ≠ wa.heap.size + 1 ∧ j ≠ wa.heap.size ∧ j ≠ bw ∧ wa.heap.size ≤ j) (fun _ => False) (by rfl) (by rfl) (by show [Value.string _] = [Value.string _]; rw [ba_bs]) (fun _ h => h.elim) (fun j hj => ⟨by omega, by omega, by omega, by omega⟩) N4.out (Below.refl _ _) (Nat.zero_le _) (by rw [List.length_map]; omega) ?_; intro v5 w5 h5 hb5 hg5 _; obtain ⟨A5, c5, rfl⟩ := Kd.R_slice h5; rw [show (st.l.map ba ++ [ba (bs (cut3 text))]).length = st.l.length + 1 from by rw [List.length_append, List.length_map]; rfl] at h5 ⊢; have N5 := Lib.hid (show RowL wa w5 bw (wa.heap.size + 1) wa.heap.size (.slice A5 (st.l.length + 1) c5) (st.l ++ [bs (cut3 text)]) from by unfold RowL; rw [List.map_append]; exact h5); have T5 := Lib.hid (T4.out.grown hg5 (fun j hj => N4.out.1 j hj)); have R5 := Lib.hid (R3.out.next G4.out HT4.out hg5); have BX5 := Lib.hid (BX3.out.next G4.out HT4.out hg5); obtain ⟨_, q0, q1, q2, q3⟩ := BX5.out; clear h5 hb5 hg5))
                | (go_at_call 17; refine (AP.out _ T5.out).mono ?_; rintro ev w6 ⟨rfl, hs, ho⟩; have T6 := Lib.hid hs; have R6 := Lib.hid (R5.out.wown ho); have N6 := Lib.hid (N5.out.wown ho); have BX6 := Lib.hid (BX5.out.wown ho hwl hdl (by omega)); clear hs ho)
                | (go_at_call 29; (with_reducible refine (OFF.out _ _ T6.out).mono ?_); rintro ev w7 ⟨rfl, rfl⟩)
                | (go_at_call 28; have zz := T6; clear zz; (with_reducible refine (AZ.out _ T6.out.toDsk).mono ?_); rintro ev w8 ⟨rfl, hd, ho⟩; have T7 := Lib.hid (Dsk.sit T6.out hd ho); have R7 := Lib.hid (R6.out.own ho); have N7 := Lib.hid (N6.out.own ho); have BX7 := Lib.hid (BX6.out.wown (ho.mono (fun _ _ h => (.inr h : WOwn bw (wa.heap.size + 1) wa.heap.size _))) hwl hdl (by omega)); obtain ⟨_, y0, y1, y2, y3⟩ := BX7.out; clear hd ho))
              go_roundw
              case rel => exact ⟨k + 1, D1.with 0, st.add (bs (cut3 text)), bw, by go_num, by omega, rfl, rfl, by omega, T7.out, C1H.out.1.with (by decide), rfl, by show D1.acts ≤ _; have := C1H.out.2; omega, by show st.seq + 1 ≤ k + 1; omega, N7.out⟩
              case measure => simp [intOf]; omega
    · have hend : k < xs.length → 40 ≤ k := by omega
      by_cases hl1 : k < xs.length
      · have hk40 : 40 ≤ k := hend hl1
        clear hlt hend
        go_wp2
        go_ret
        exact ⟨rfl, HB.out⟩
      · have hk40 : xs.length ≤ k := by omega
        clear hlt hl1 hend
        go_wp2
        go_ret
        exact ⟨rfl, HB.out⟩
end Go.Proofs.YtlmnmjnmilaipaaGreatDoor

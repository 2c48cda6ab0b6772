/- billetlaw11.same walked: both disks in one state. -/
import Derived.Test.YtlmnmjnmilaipaaGreatDoorWrC
import Derived.Test.YtlmnmjnmilaipaaGreatDoorWalSit
import Derived.Test.YtlmnmjnmilaipaaGreatDoorWalAg
set_option linter.unusedVariables false
set_option linter.unusedSimpArgs false
namespace Go.Proofs.YtlmnmjnmilaipaaGreatDoor.Rk
open Go Go.RowKit PR Go.Proofs.YtlmnmjnmilaipaaGreatDoorW.PrintWords

theorem names_eq (D : Dk) : D.names.map ba = D.snames := rfl
theorem list_T (b mb : Nat) (D : Dk) (w : World) (h : DiskIs w b mb D) (hD : D.Ok) :
    Calls Tryz.prog 15 #[.pointer (some ⟨b, 0, none⟩)] w fun e w' => ∃ A c, e = .returned (.slice A D.names.length c) ∧ Texts w' 0 (.slice A D.names.length c) D.names ∧ Below w.heap.size w w' := by
  refine (list_names b mb D w h hD).mono ?_
  rintro e w' ⟨A, c, rfl, hN, hb⟩
  unfold NamesAt at hN
  rw [names_enc, ← D.names_length] at hN
  refine ⟨A, c, by rw [D.names_length], ?_, hb⟩
  exact Kd.R_of_own (by rw [List.length_map]; exact hN) (fun _ _ => trivial)
theorem rlist_T (base rb : Nat) (D : Dk) (w : World) (h : RDk w base rb D) (hD : D.Ok) :
    Calls Tryz.prog 59 #[.pointer (some ⟨rb, 0, none⟩)] w fun e w' => ∃ A c, e = .returned (.slice A D.names.length c) ∧ Texts w' w.heap.size (.slice A D.names.length c) D.names ∧ Below w.heap.size w w' := by
  obtain ⟨l, v, h⟩ := h
  have hlf := h.rel.len hD.nodup
  have hml := hD.many
  have hn := h.rel.names hD.nodup
  refine (rlist_any base rb D l v w h (by omega)).mono ?_
  rintro e w' ⟨A, c, rfl, hR, hb⟩
  have hl : l.length = D.names.length := by rw [D.names_length, hlf]
  rw [hn, ← names_eq] at hR
  rw [hl] at hR ⊢
  exact ⟨A, c, rfl, hR, hb⟩
/-- Both disks in one state. -/
structure Two (w0 W : World) (b mb base rb : Nat) (D : Dk) : Prop where
  dk : DiskIs W b mb D
  rd : RDk W base rb D
  be : Below w0.heap.size w0 W
theorem Two.below {w0 W W' : World} {b mb base rb : Nat} {D : Dk} (h : Two w0 W b mb base rb D) (hb : Below W.heap.size W W') : Two w0 W' b mb base rb D :=
  ⟨h.dk.only (Only.of_below (S := fun _ => False) hb) (fun h => h) (fun h => h), h.rd.below hb, h.be.trans (hb.mono h.be.size)⟩
theorem RDk.c1 {w : World} {base rb : Nat} {D : Dk} (h : RDk w base rb D) : w.cell? ⟨rb, 1, none⟩ = some (.int .i64 D.acts) := by
  obtain ⟨l, v, h⟩ := h; exact h.c1
theorem same_texts {w : World} {A B : Option Addr} {c d : Nat} {n1 n2 : Nat} {l : List Bs} (hl : l.length ≤ 1000000) (h1 : Texts w n1 (.slice A l.length c) l) (h2 : Texts w n2 (.slice B l.length d) l) :
    Calls Tryz.prog 14 #[.slice A l.length c, .slice B l.length d] w fun e w' => e = .returned (.bool true) ∧ Below w.heap.size w w' := by
  obtain ⟨a1, a2⟩ := h1.reads
  obtain ⟨b1, b2⟩ := h2.reads
  have := same_C hl a2 a1 b2 b1
  rwa [show decide (l = l) = true from decide_eq_true rfl] at this
set_option maxHeartbeats 4000000 in
set_option maxRecDepth 100000 in
theorem two_any (b mb base rb : Nat) (D : Dk) (w : World) (h : DiskIs w b mb D) (hr : RDk w base rb D) (hD : D.Ok) :
    Calls Tryz.prog 24 #[.pointer (some ⟨b, 0, none⟩), .pointer (some ⟨rb, 0, none⟩)] w fun e w' => e = .returned (.bool true) ∧ Below w.heap.size w w' := by
  have H0 := Lib.hid (Two.mk h hr (Below.refl w.heap.size w))
  have L1 := Lib.hid (fun W hW => list_T b mb D W hW hD)
  have L2 := Lib.hid (fun W hW => rlist_T base rb D W hW hD)
  have RD1 := Lib.hid (fun nm W (hW : DiskIs W b mb D) => read_any b mb D nm W hW)
  have RD2 := Lib.hid (fun nm W (hW : RDk W base rb D) => rd_read (nm := nm) hW)
  have hml : D.names.length ≤ 10 := by rw [D.names_length]; have := hD.many; omega
  obtain ⟨l, hl⟩ : ∃ l, D.names = l := ⟨_, rfl⟩
  rw [hl] at L1 L2 hml
  have hlm : (l.map ba).length = l.length := List.length_map _
  clear h hr hD hl
  go_enter Tryz.func24, Tryz.ntmps24
  go_wp2_with (first
    | (go_at_call 15; refine (L1.out _ H0.out.dk).mono ?_; rintro ev w1 ⟨A1, c1, rfl, hT, hb⟩; have H1 := Lib.hid (H0.out.below hb); have T1 := Lib.hid hT; clear hT hb)
    | (go_at_call 59; refine (L2.out _ H1.out.rd).mono ?_; rintro ev w2 ⟨A2, c2, rfl, hT, hb⟩; have H2 := Lib.hid (H1.out.below hb); have T1' := Lib.hid (T1.out.below hb); have T2 := Lib.hid hT; clear hT hb)
    | (go_at_call 14; refine (same_texts (by omega) T1'.out T2.out).mono ?_; rintro ev w3 ⟨rfl, hb⟩; have H3 := Lib.hid (H2.out.below hb); clear hb)
    | (go_at_call 27; refine (acts_any b _ _ H3.out.dk.c1).mono ?_; rintro ev w4 ⟨rfl, rfl⟩)
    | (go_at_call 60; refine (racts_any rb _ _ H3.out.rd.c1).mono ?_; rintro ev w5 ⟨rfl, rfl⟩)
    | (go_at_call 29; refine (off_any b _ _ H3.out.dk.c3).mono ?_; rintro ev w6 ⟨rfl, rfl⟩)
    | (go_at_call 54; refine (roff_any rb _ _ H3.out.rd.c3).mono ?_; rintro ev w7 ⟨rfl, rfl⟩)
    | (go_at_call 59; refine (L2.out _ H3.out.rd).mono ?_; rintro ev w8 ⟨A4, c4, rfl, hT, hb⟩; have H4 := Lib.hid (H3.out.below hb); have T4 := Lib.hid hT; clear hT hb))
  go_loopw [6] (fun i wr => ∃ k : Nat, k ≤ l.length ∧ i = .int .i64 k ∧ Below w8.heap.size w8 wr) (fun i _ => l.length - (intOf i).toNat)
  case atStart => exact ⟨0, Nat.zero_le _, rfl, Below.refl _ _⟩
  case round =>
    obtain ⟨k, hk, rfl, hb⟩ := hrel
    have H5 := Lib.hid (H4.out.below hb)
    have HB := Lib.hid hb
    have hbs := hb.size
    by_cases hlt : k < l.length
    · obtain ⟨g, rfl, hc⟩ := Kd_R_at T4.out k (by rw [hlm]; exact hlt)
      have hg := World.block_lt_of_cell? _ _ hc
      simp only at hg
      have hcw := (hb.cell (p := ⟨g, k, none⟩) hg).trans hc
      have hgw : g < wr.heap.size := by omega
      clear hc hg hb
      generalize (l.map ba).getD k ⟨#[]⟩ = nm at *
      obtain ⟨rs, re, hrd⟩ : ∃ rs re, D.read nm = (rs, re) := ⟨_, _, rfl⟩
      have R1 := Lib.hid (RD1.out nm)
      have R2 := Lib.hid (RD2.out nm)
      unfold _root_.Go.Proofs.YtlmnmjnmilaipaaGreatDoor.RPost at R1
      rw [hrd] at R1 R2
      dsimp only at R1 R2
      clear hrd
      go_wp2_with (first
        | (go_at_call 61; refine (R1.out _ H5.out.dk).mono ?_; rintro ev w9 ⟨rfl, ho⟩; have hb9 := ho.below (Nat.le_refl _) (fun _ _ h => h); have H6 := Lib.hid (H5.out.below hb9); have HB6 := Lib.hid (HB.out.trans (hb9.mono hbs)); have hcx := (hb9.cell (p := ⟨g, k, none⟩) hgw).trans hcw; have hgx := Nat.lt_of_lt_of_le hgw hb9.size; clear ho hb9)
        | (go_at_call 62; refine (R2.out _ H6.out.rd).mono ?_; rintro ev w10 ⟨rfl, rfl⟩))
      go_roundw
      case rel => exact ⟨k + 1, by omega, by go_num, HB6.out⟩
      case measure => simp [intOf]; omega
    · clear hb
      go_wp2
      go_ret
      exact ⟨rfl, H5.out.be⟩
end Go.Proofs.YtlmnmjnmilaipaaGreatDoor.Rk
/- Layer 11: the code's log and the document's, each on its own disk, in one state. -/
set_option linter.unusedVariables false
set_option linter.unusedSimpArgs false
namespace Go.Proofs.YtlmnmjnmilaipaaGreatDoor.Rk
open Go Go.RowKit PR Go.Proofs.YtlmnmjnmilaipaaGreatDoorW.PrintWords

theorem ty_ne {w : World} {k : Nat} {cs cs' : Array Value} {t t' : TypeId} (h : w.heap[k]? = some (.cells cs t)) (h' : w.heap[k]? = some (.cells cs' t')) : t = t' := by
  rw [h] at h'
  injection h' with h'
  injection h' with _ h'
theorem map_ne {w : World} {k : Nat} {cs : Array Value} {t : TypeId} {es : Array MapEntry} {c : Nat} (h : w.heap[k]? = some (.cells cs t)) (h' : w.heap[k]? = some (.map es c)) : False := by
  rw [h] at h'
  injection h' with h'
  cases h'
/-- The code's own blocks are none of the document's. -/
theorem own_not {w : World} {b mb k : Nat} {D : Dk} {cs : Array Value} {t : TypeId} (d : DiskIs w b mb D) (h : w.heap[k]? = some (.cells cs t)) (ht : t ≠ 60) : ¬ Own b mb k := by
  rintro (rfl | rfl)
  · exact ht (ty_ne h d.blk)
  · obtain ⟨es, c, hm, _⟩ := d.map
    exact map_ne h hm
theorem wown_not {w : World} {bw b mb k : Nat} {D : Dk} {W : Wl} {cs : Array Value} {t : TypeId} (d : DiskIs w b mb D) (l : WlIs w bw b W) (h : w.heap[k]? = some (.cells cs t)) (ht : t ≠ 60) (ht2 : t ≠ 70) : ¬ WOwn bw b mb k := by
  rintro (rfl | hk)
  · exact ht2 (ty_ne h l.blk)
  · exact own_not d h ht hk
theorem RDk.keep {w w' : World} {base rb : Nat} {D : Dk} (h : RDk w base rb D) {S : Nat → Prop} (ho : Only S w w') (h1 : ∀ k cs, w.heap[k]? = some (.cells cs 86) → ¬ S k) (h2 : ∀ k cs, w.heap[k]? = some (.cells cs 92) → ¬ S k) : RDk w' base rb D := by
  obtain ⟨l, v, h⟩ := h
  refine ⟨l, v, h.only ho (h1 _ _ h.blk) (fun k hk => ?_)⟩
  obtain ⟨_, _, _, cs, hc⟩ := h.row_ne k hk
  exact h2 k cs hc
theorem RDk.own {w w' : World} {b mb base rb : Nat} {D D2 : Dk} (h : RDk w base rb D2) (d : DiskIs w b mb D) (ho : Only (Own b mb) w w') : RDk w' base rb D2 :=
  h.keep ho (fun k cs hc => own_not d hc (by decide)) (fun k cs hc => own_not d hc (by decide))
theorem RLog.own {w w' : World} {b mb base rb rw : Nat} {D D2 : Dk} {W2 : Wl} (h : RLog w base rb rw D2 W2) (d : DiskIs w b mb D) (ho : Only (Own b mb) w w') : RLog w' base rb rw D2 W2 :=
  ⟨h.dk.own d ho, (ho.block rw h.wl.facts.2.2.2.2.2 (own_not d h.wl (by decide))).trans h.wl⟩
theorem RLog.wown {w w' : World} {bw b mb base rb rw : Nat} {D D2 : Dk} {W W2 : Wl} (h : RLog w base rb rw D2 W2) (d : DiskIs w b mb D) (l : WlIs w bw b W) (ho : Only (WOwn bw b mb) w w') : RLog w' base rb rw D2 W2 :=
  ⟨h.dk.keep ho (fun k cs hc => wown_not d l hc (by decide) (by decide)) (fun k cs hc => wown_not d l hc (by decide) (by decide)), (ho.block rw h.wl.facts.2.2.2.2.2 (wown_not d l h.wl (by decide) (by decide))).trans h.wl⟩
/-- The document's own blocks are none of the code's. -/
theorem rs_not {w : World} {base rb k : Nat} {D : Dk} {cs : Array Value} {t : TypeId} (d : RDk w base rb D) (h : w.heap[k]? = some (.cells cs t)) (ht : t ≠ 86) (ht2 : t ≠ 92) : ¬ RS w base rb k := by
  obtain ⟨l, v, d⟩ := d
  rintro (rfl | ⟨_, cs', hc⟩)
  · exact ht (ty_ne h d.blk)
  · exact ht2 (ty_ne h hc)
theorem rs_map {w : World} {base rb k : Nat} {D : Dk} {es : Array MapEntry} {c : Nat} (d : RDk w base rb D) (h : w.heap[k]? = some (.map es c)) : ¬ RS w base rb k := by
  obtain ⟨l, v, d⟩ := d
  rintro (rfl | ⟨_, cs', hc⟩)
  · exact map_ne d.blk h
  · exact map_ne hc h
theorem Dsk.rs {w0 w w' : World} {b mb base rb : Nat} {D D2 : Dk} (s : Dsk w0 w b mb D) (d : RDk w base rb D2) (hb : w0.heap.size ≤ base) (ho : Only (RS w base rb) w w') : Dsk w0 w' b mb D := by
  obtain ⟨es, c, hm, _⟩ := s.dk.map
  refine ⟨s.dk.only ho (rs_not d s.dk.blk (by decide) (by decide)) (rs_map d hm), s.be.trans (ho.below s.be.size (fun k hk hr => ?_)), s.lb, s.lm, s.err⟩
  have := RS.ge d.le hr
  omega
theorem Sit.rs {w0 w w' : World} {bw b mb base rb : Nat} {D D2 : Dk} {W : Wl} (s : Sit w0 w bw b mb D W) (d : RDk w base rb D2) (hb : w0.heap.size ≤ base) (ho : Only (RS w base rb) w w') : Sit w0 w' bw b mb D W :=
  ⟨Dsk.rs s.toDsk d hb ho, s.wl.only ho (rs_not d s.wl.blk (by decide) (by decide)), s.lw, s.n1, s.n2⟩
theorem Sit.rt {w0 w w' : World} {bw b mb base rb rw : Nat} {D D2 : Dk} {W W2 : Wl} (s : Sit w0 w bw b mb D W) (d : RLog w base rb rw D2 W2) (hb : w0.heap.size ≤ base) (hr : w0.heap.size ≤ rw) (ho : Only (RT w base rb rw) w w') : Sit w0 w' bw b mb D W := by
  obtain ⟨es, c, hm, _⟩ := s.dk.map
  have nrw : ∀ k cs t, w.heap[k]? = some (.cells cs t) → t ≠ 105 → k ≠ rw := by
    rintro k cs t h ht rfl
    exact ht (ty_ne h d.wl)
  refine ⟨⟨s.dk.only ho ?_ ?_, s.be.trans (ho.below s.be.size (fun k hk hrt => ?_)), s.lb, s.lm, s.err⟩, s.wl.only ho ?_, s.lw, s.n1, s.n2⟩
  · rintro (h | h)
    · exact rs_not d.dk s.dk.blk (by decide) (by decide) h
    · exact nrw _ _ _ s.dk.blk (by decide) h
  · rintro (h | rfl)
    · exact rs_map d.dk hm h
    · exact map_ne d.wl hm
  · rcases hrt with h | h
    · have := RS.ge d.dk.le h
      omega
    · omega
  · rintro (h | h)
    · exact rs_not d.dk s.wl.blk (by decide) (by decide) h
    · exact nrw _ _ _ s.wl.blk (by decide) h
/-- Both logs in one state. -/
structure Both (w0 w : World) (bw b mb base rb rw : Nat) (D : Dk) (W : Wl) : Prop where
  s : Sit w0 w bw b mb D W
  r : RLog w base rb rw D W
  hb : w0.heap.size ≤ base
  hr : w0.heap.size ≤ rw
theorem Both.below {w0 w w' : World} {bw b mb base rb rw : Nat} {D : Dk} {W : Wl} (h : Both w0 w bw b mb base rb rw D W) (hb : Below w.heap.size w w') : Both w0 w' bw b mb base rb rw D W := ⟨h.s.below hb, h.r.below hb, h.hb, h.hr⟩
/-- The code's log has gone on, the document's not yet. -/
structure Half (w0 w : World) (bw b mb base rb rw : Nat) (D D2 : Dk) (W W2 : Wl) : Prop where
  s : Sit w0 w bw b mb D W
  r : RLog w base rb rw D2 W2
  hb : w0.heap.size ≤ base
  hr : w0.heap.size ≤ rw
theorem Both.prog {w0 w w' : World} {bw b mb base rb rw : Nat} {D D' : Dk} {W W' : Wl} (h : Both w0 w bw b mb base rb rw D W) (s : Sit w0 w' bw b mb D' W') (ho : Only (WOwn bw b mb) w w') : Half w0 w' bw b mb base rb rw D' D W' W :=
  ⟨s, h.r.wown h.s.dk h.s.wl ho, h.hb, h.hr⟩
theorem Half.ref {w0 w w' : World} {bw b mb base rb rw : Nat} {D D' : Dk} {W W' : Wl} (h : Half w0 w bw b mb base rb rw D' D W' W) (r : RLog w' base rb rw D' W') (ho : Only (RT w base rb rw) w w') : Both w0 w' bw b mb base rb rw D' W' :=
  ⟨Sit.rt h.s h.r h.hb h.hr ho, r, h.hb, h.hr⟩
theorem rd_arm {w : World} {base rb : Nat} {D : Dk} {n : Int} (h : RDk w base rb D) (hD : D.Ok) (h0 : -9223372036854775808 ≤ n) (h1 : n ≤ 9223372036854775807) :
    Calls Tryz.prog 32 #[.pointer (some ⟨rb, 0, none⟩), .int .i64 n] w fun e w' => e = .returned (.int .i64 (D.arm n).1) ∧ RDk w' base rb (D.arm n).2 ∧ Only (RS w base rb) w w' := by
  obtain ⟨l, v, h⟩ := h
  exact (rarm_any base rb D l v n w h hD h0 h1).mono fun e w' ⟨a, b, c⟩ => ⟨a, ⟨l, v, b⟩, c.mono fun k _ hk => .inl hk⟩
theorem rd_restart {w : World} {base rb : Nat} {D : Dk} {A : Option Addr} {cp : Nat} {keep : List Int} (h : RDk w base rb D) (hD : D.Ok) (hA : ∀ ad, A = some ad → 0 < keep.length → ad.block < base) (hk : ReadsI w A keep) :
    Calls Tryz.prog 34 #[.pointer (some ⟨rb, 0, none⟩), .slice A keep.length cp] w fun e w' => e = .returned (.tuple #[]) ∧ RDk w' base rb (D.restart keep) ∧ Only (RS w base rb) w w' := by
  obtain ⟨l, v, h⟩ := h
  exact rrestart_any base rb D l v A cp keep w h hD hA hk
/-- What a script of k acts has left, plainly. -/
structure PlD (k : Nat) (D : Dk) (q : Nat) : Prop where
  ok : D.Ok
  acts : D.acts ≤ 4 * k + 4
  seq : q ≤ 1099511627776
theorem pl_append {k q : Nat} {D : Dk} {er : Int} (h : PlD k D q) (hk : k ≤ 100) (t : Bs) : ∃ x q' er' D', appendP ⟨q, er⟩ D t = (x, ⟨(q' : Nat), er'⟩, D') ∧ PlD (k + 1) D' q' := by
  have ha := h.acts
  unfold appendP
  dsimp only
  by_cases h1 : er ≠ 0
  · rw [if_pos h1]; exact ⟨_, q, _, _, rfl, h.ok, by omega, h.seq⟩
  · rw [if_neg h1]
    by_cases h2 : (madeP ((q : Int) + 1) t).2 ≠ 0
    · rw [if_pos h2]; exact ⟨_, q, _, _, rfl, h.ok, by omega, h.seq⟩
    · rw [if_neg h2]
      have hq : q + 1 ≤ 1099511627776 := by
        unfold madeP at h2
        by_cases h3 : (layP (numD (2 * ((q : Int) + 1).toNat) ++ t)).2 ≠ 0 ∨ 1099511627776 < (q : Int) + 1
        · rw [if_pos h3] at h2; exact absurd (show (111 : Int) ≠ 0 by decide) h2
        · omega
      generalize ba (madeP ((q : Int) + 1) t).1 = s
      have o1 := Dk.append_ok h.ok (by omega) kLog s
      have a1 := Dk.append_acts D kLog s
      by_cases h3 : (D.append kLog s).1 ≠ 0
      · rw [if_pos h3]; exact ⟨_, q, _, _, rfl, o1, by omega, h.seq⟩
      · rw [if_neg h3]
        have o2 := Dk.sync_ok o1 (by omega) kLog
        have a2 := Dk.sync_acts (D.append kLog s).2 kLog
        by_cases h4 : ((D.append kLog s).2.sync kLog).1 ≠ 0
        · rw [if_pos h4]; exact ⟨_, q, _, _, rfl, o2, by omega, h.seq⟩
        · rw [if_neg h4]; exact ⟨_, q + 1, _, _, rfl, o2, by omega, hq⟩
theorem pl_check {k q : Nat} {D : Dk} {er : Int} (h : PlD k D q) (hk : k ≤ 100) (t : Bs) : ∃ x er' D', checkP ⟨q, er⟩ D t = (x, ⟨(q : Nat), er'⟩, D') ∧ PlD (k + 1) D' q := by
  have ha := h.acts
  unfold checkP
  dsimp only
  by_cases h1 : er ≠ 0
  · rw [if_pos h1]; exact ⟨_, _, _, rfl, h.ok, by omega, h.seq⟩
  · rw [if_neg h1]
    by_cases h2 : (madeP (q : Int) t).2 ≠ 0
    · rw [if_pos h2]; exact ⟨_, _, _, rfl, h.ok, by omega, h.seq⟩
    · rw [if_neg h2]
      generalize ba (madeP (q : Int) t).1 = s
      have o1 := renewP_ok h.ok (by omega) kSnap s
      have a1 := renewP_acts D kSnap s
      by_cases h3 : (renewP D kSnap s).1 ≠ 0
      · rw [if_pos h3]; exact ⟨_, _, _, rfl, o1, by omega, h.seq⟩
      · rw [if_neg h3]
        by_cases h4 : (aget (renewP D kSnap s).2.files kLog).isSome = true
        · rw [if_pos h4]
          have o2 := Dk.remove_ok o1 (by omega) kLog
          have a2 := Dk.remove_acts (renewP D kSnap s).2 kLog
          exact ⟨_, _, _, rfl, o2, by omega, h.seq⟩
        · rw [if_neg h4]; exact ⟨_, _, _, rfl, o1, by omega, h.seq⟩
theorem pl_arm {k q : Nat} {D : Dk} (h : PlD k D q) (hk : k ≤ 100) (n : Int) : PlD k (D.arm n).2 q := by
  have ha := h.acts
  refine ⟨Dk.arm_ok h.ok (by omega) n, ?_, h.seq⟩
  have : (D.arm n).2.acts = D.acts := by unfold Dk.arm; split <;> rfl
  omega
theorem pl_restart {k q : Nat} {D : Dk} (h : PlD k D q) (keep : List Int) : PlD k (D.restart keep) q := ⟨Dk.restart_ok h.ok keep, h.acts, h.seq⟩
theorem pl_next {k q : Nat} {D : Dk} (h : PlD k D q) : PlD (k + 1) D q := ⟨h.ok, by have := h.acts; omega, h.seq⟩
theorem keep_bound {q : Int} {l : List Ent} (hq : 0 ≤ q ∧ q ≤ 1099511627776) (h : ∀ x ∈ l, 0 ≤ x.1 ∧ x.1 ≤ 1099511627776) : 0 ≤ logSeq q l ∧ logSeq q l ≤ 1099511627776 := by
  unfold logSeq
  cases hl : l.getLast? with
  | none => simpa using hq
  | some x =>
    have := h x (List.mem_of_getLast? hl)
    simpa using this
theorem logOf_bound {q : Int} {s : Bs} {all : List Ent} {u : Nat} {m : Bool} (h : logOf q s = some (all, u, m)) : ∀ x ∈ all, 0 ≤ x.1 ∧ x.1 ≤ 1099511627776 := by
  unfold logOf at h
  cases hp : parseP (allP (s.length + 1) s).1 with
  | none => rw [hp] at h; cases h
  | some es =>
    rw [hp] at h
    dsimp only at h
    split at h
    · cases h
    · split at h
      · obtain ⟨rfl, _⟩ := Prod.mk.inj (Option.some.inj h)
        intro x hx
        obtain ⟨j, hj, rfl⟩ := List.getElem_of_mem hx
        have := parse_bounds _ _ hp j hj
        rwa [List.getD_eq_getElem?_getD, List.getElem?_eq_getElem hj] at this
      · cases h
theorem mend_ok {D : Dk} (h : D.Ok) (ha : D.acts + 3 < 4611686018427387904) (s : Bs) (u : Nat) (m : Bool) : (mendP D s u m).2.Ok ∧ D.acts ≤ (mendP D s u m).2.acts ∧ (mendP D s u m).2.acts ≤ D.acts + 3 := by
  unfold mendP
  split
  · exact ⟨renewP_ok h ha _ _, renewP_acts D _ _⟩
  · exact ⟨h, Nat.le_refl _, by show D.acts ≤ _; omega⟩
theorem open2_ok {D : Dk} (h : D.Ok) (ha : D.acts + 3 < 4611686018427387904) : (open2 D).disk.Ok ∧ (open2 D).disk.acts ≤ D.acts + 3 ∧ ∀ q, (open2 D).seq = some q → 0 ≤ q ∧ q ≤ 1099511627776 := by
  unfold open2
  cases hs : snapOf (fileP D kSnap) with
  | none => exact ⟨h, by show D.acts ≤ _; omega, fun q hq => by cases hq⟩
  | some x =>
    obtain ⟨q, text⟩ := x
    have hb := snapOf_bound hs
    dsimp only
    cases hl : logOf q ((fileP D kLog).getD []) with
    | none => exact ⟨h, by show D.acts ≤ _; omega, fun q hq => by cases hq⟩
    | some r =>
      obtain ⟨all, used, more⟩ := r
      dsimp only
      have hm := mend_ok h ha ((fileP D kLog).getD []) used more
      split
      · exact ⟨hm.1, hm.2.2, fun q hq => by cases hq⟩
      · refine ⟨hm.1, hm.2.2, fun q' hq' => ?_⟩
        injection hq' with hq'
        subst hq'
        exact keep_bound hb fun x hx => logOf_bound hl x (List.mem_filter.1 hx).1
theorem openP_ok {D : Dk} (h : D.Ok) (ha : D.acts + 4 < 4611686018427387904) : (openP D).disk.Ok ∧ (openP D).disk.acts ≤ D.acts + 4 ∧ ∀ q, (openP D).seq = some q → 0 ≤ q ∧ q ≤ 1099511627776 := by
  cases hoff : D.off with
  | true =>
    unfold openP
    rw [if_pos hoff]
    exact ⟨h, by show D.acts ≤ _; omega, fun q hq => by cases hq⟩
  | false =>
    rw [openP_on hoff]
    by_cases hn : (aget D.files kNew).isSome = true
    · rw [if_pos hn]
      have o1 := Dk.remove_ok h (by omega) kNew
      have a1 := Dk.remove_acts D kNew
      split
      · exact ⟨o1, by show (D.remove kNew).2.acts ≤ _; omega, fun q hq => by cases hq⟩
      · obtain ⟨x, y, z⟩ := open2_ok o1 (by omega)
        exact ⟨x, by omega, z⟩
    · rw [if_neg hn, if_neg (by simp)]
      obtain ⟨x, y, z⟩ := open2_ok h (by omega)
      exact ⟨x, by show (open2 D).disk.acts ≤ _; omega, z⟩
theorem pl_open {k q : Nat} {D : Dk} (h : PlD k D q) (hk : k ≤ 100) : PlD (k + 1) (openP D).disk q ∧ ∀ q' : Int, (openP D).seq = some q' → ∃ n : Nat, q' = n ∧ PlD (k + 1) (openP D).disk n := by
  have ha := h.acts
  obtain ⟨x, y, z⟩ := openP_ok h.ok (by omega)
  refine ⟨⟨x, by omega, h.seq⟩, fun q' hq' => ?_⟩
  obtain ⟨z1, z2⟩ := z q' hq'
  exact ⟨q'.toNat, by omega, x, by omega, by omega⟩
theorem pl_new : PlD 0 Dk.new 0 := ⟨Dk.new_ok, Nat.zero_le _, Nat.zero_le _⟩
end Go.Proofs.YtlmnmjnmilaipaaGreatDoor.Rk
/- Layer 11: contracts of what both logs do, for walks of the laws. -/
set_option linter.unusedVariables false
set_option linter.unusedSimpArgs false
namespace Go.Proofs.YtlmnmjnmilaipaaGreatDoor.Rk
open Go Go.RowKit PR Go.Proofs.YtlmnmjnmilaipaaGreatDoorW.PrintWords

section
variable {w0 w : World} {bw b mb base rb rw q : Nat} {er : Int} {D : Dk}
theorem sq1 (h : Sit w0 w bw b mb D ⟨(q : Nat), er⟩) : Calls Tryz.prog 16 #[.pointer (some ⟨bw, 0, none⟩)] w fun e w' => e = .returned (.int .i64 (q : Nat)) ∧ w = w' := seq_same h
theorem sq2 (h : RLog w base rb rw D ⟨(q : Nat), er⟩) : Calls Tryz.prog 26 #[.pointer (some ⟨rw, 0, none⟩)] w fun e w' => e = .returned (.int .i64 (q : Nat)) ∧ w = w' := rseq_log _ _ _ _ _ _ h
theorem ap1 {t : ByteArray} {x er' : Int} {q' : Nat} {D' : Dk} (e : appendP ⟨q, er⟩ D (bs t) = (x, ⟨(q' : Nat), er'⟩, D')) (h : Both w0 w bw b mb base rb rw D ⟨(q : Nat), er⟩) (hD : D.Ok) (ha : D.acts ≤ 1000) (hq : q ≤ 1099511627776) (ht : t.size ≤ 90000) :
    Calls Tryz.prog 17 #[.pointer (some ⟨bw, 0, none⟩), .string t] w fun e w' => e = .returned (.int .i64 x) ∧ Half w0 w' bw b mb base rb rw D' D ⟨(q' : Nat), er'⟩ ⟨(q : Nat), er⟩ :=
  (append_by e h.s hD (by omega) (by omega) ht).mono fun ev w' ⟨h1, h2, h3⟩ => ⟨h1, h.prog h2 h3⟩
theorem ap2 {t : ByteArray} {x er' : Int} {q' : Nat} {D' : Dk} (e : appendP ⟨q, er⟩ D (bs t) = (x, ⟨(q' : Nat), er'⟩, D')) (h : Half w0 w bw b mb base rb rw D' D ⟨(q' : Nat), er'⟩ ⟨(q : Nat), er⟩) (hD : D.Ok) (ha : D.acts ≤ 1000) (hq : q ≤ 1099511627776) (ht : t.size ≤ 90000) :
    Calls Tryz.prog 25 #[.pointer (some ⟨rw, 0, none⟩), .string t] w fun e w' => e = .returned (.int .i64 x) ∧ Both w0 w' bw b mb base rb rw D' ⟨(q' : Nat), er'⟩ := by
  have := rappend_log base rb rw q er D t w h.r hD (by omega) hq ht
  rw [e] at this
  exact this.mono fun ev w' ⟨h1, h2, h3⟩ => ⟨h1, h.ref h2 h3⟩
theorem ck1 {t : ByteArray} {x er' : Int} {D' : Dk} (e : checkP ⟨q, er⟩ D (bs t) = (x, ⟨(q : Nat), er'⟩, D')) (h : Both w0 w bw b mb base rb rw D ⟨(q : Nat), er⟩) (hD : D.Ok) (ha : D.acts ≤ 1000) (hq : q ≤ 1099511627776) (ht : t.size ≤ 90000) :
    Calls Tryz.prog 13 #[.pointer (some ⟨bw, 0, none⟩), .string t] w fun e w' => e = .returned (.int .i64 x) ∧ Half w0 w' bw b mb base rb rw D' D ⟨(q : Nat), er'⟩ ⟨(q : Nat), er⟩ :=
  (check_by e h.s hD (by omega) (by omega) ht).mono fun ev w' ⟨h1, h2, h3⟩ => ⟨h1, h.prog h2 h3⟩
theorem ck2 {t : ByteArray} {x er' : Int} {D' : Dk} (e : checkP ⟨q, er⟩ D (bs t) = (x, ⟨(q : Nat), er'⟩, D')) (h : Half w0 w bw b mb base rb rw D' D ⟨(q : Nat), er'⟩ ⟨(q : Nat), er⟩) (hD : D.Ok) (ha : D.acts ≤ 1000) (hq : q ≤ 1099511627776) (ht : t.size ≤ 90000) :
    Calls Tryz.prog 31 #[.pointer (some ⟨rw, 0, none⟩), .string t] w fun e w' => e = .returned (.int .i64 x) ∧ Both w0 w' bw b mb base rb rw D' ⟨(q : Nat), er'⟩ := by
  have := rcheck_log base rb rw q er D t w h.r hD (by omega) hq ht
  rw [e] at this
  exact this.mono fun ev w' ⟨h1, h2, h3⟩ => ⟨h1, h.ref h2 h3⟩
/-- A box of the walk's own. -/
def ActBox (w : World) (x : Nat) (what n : Int) (text : ByteArray) (kv : Value) : Prop := w.heap[x]? = some (.cells #[.int .i64 what, .int .i64 n, .string text, kv] 52)
theorem ActBox.cells {x : Nat} {what n : Int} {text : ByteArray} {kv : Value} (h : ActBox w x what n text kv) : w.cell? ⟨x, 0, none⟩ = some (.int .i64 what) ∧ w.cell? ⟨x, 1, none⟩ = some (.int .i64 n) ∧ w.cell? ⟨x, 2, none⟩ = some (.string text) ∧ w.cell? ⟨x, 3, none⟩ = some kv ∧ x < w.heap.size := by
  unfold ActBox at h
  exact ⟨by simp [World.cell?, h], by simp [World.cell?, h], by simp [World.cell?, h], by simp [World.cell?, h], (Array.getElem?_eq_some_iff.1 h).1⟩
theorem ActBox.own {w' : World} {x : Nat} {what n : Int} {text : ByteArray} {kv : Value} (h : ActBox w x what n text kv) (d : DiskIs w b mb D) (ho : Only (Own b mb) w w') : ActBox w' x what n text kv :=
  (ho.block x h.cells.2.2.2.2 (own_not d h (by decide))).trans h
theorem ActBox.rs {w' : World} {x : Nat} {what n : Int} {text : ByteArray} {kv : Value} (h : ActBox w x what n text kv) (d : RDk w base rb D) (ho : Only (RS w base rb) w w') : ActBox w' x what n text kv :=
  (ho.block x h.cells.2.2.2.2 (rs_not d h (by decide) (by decide))).trans h
theorem ActBox.below {w' : World} {x : Nat} {what n : Int} {text : ByteArray} {kv : Value} (h : ActBox w x what n text kv) (hb : Below w.heap.size w w') : ActBox w' x what n text kv :=
  (hb.block x h.cells.2.2.2.2).trans h
theorem Both.own {w' : World} {D' : Dk} {W : Wl} (h : Both w0 w bw b mb base rb rw D W) (hd : DiskIs w' b mb D') (ho : Only (Own b mb) w w') : Half w0 w' bw b mb base rb rw D' D W W :=
  ⟨h.s.upd ho hd, h.r.own h.s.dk ho, h.hb, h.hr⟩
theorem Half.rs {w' : World} {D' : Dk} {W W2 : Wl} (h : Half w0 w bw b mb base rb rw D' D W W) (hd : RDk w' base rb D') (ho : Only (RS w base rb) w w') : Both w0 w' bw b mb base rb rw D' W :=
  ⟨Sit.rs h.s h.r.dk h.hb ho, h.r.rs ho hd, h.hb, h.hr⟩
theorem ar1 {x : Nat} {what n m r : Int} {text : ByteArray} {kv : Value} {D' : Dk} {W : Wl} (e : D.arm m = (r, D')) (h : Both w0 w bw b mb base rb rw D W) (hD : D.Ok) (hx : ActBox w x what n text kv) (h0 : -9223372036854775808 ≤ m) (h1 : m ≤ 9223372036854775807) :
    Calls Tryz.prog 28 #[.pointer (some ⟨b, 0, none⟩), .int .i64 m] w fun e w' => e = .returned (.int .i64 r) ∧ Half w0 w' bw b mb base rb rw D' D W W ∧ ActBox w' x what n text kv := by
  have := arm_any b mb D m w h.s.dk hD h0 h1
  rw [e] at this
  exact this.mono fun ev w' ⟨a1, a2, a3⟩ => ⟨a1, h.own a2 a3, hx.own h.s.dk a3⟩
theorem ar2 {x : Nat} {what n m r : Int} {text : ByteArray} {kv : Value} {D' : Dk} {W : Wl} (e : D.arm m = (r, D')) (h : Half w0 w bw b mb base rb rw D' D W W) (hD : D.Ok) (hx : ActBox w x what n text kv) (h0 : -9223372036854775808 ≤ m) (h1 : m ≤ 9223372036854775807) :
    Calls Tryz.prog 32 #[.pointer (some ⟨rb, 0, none⟩), .int .i64 m] w fun e w' => e = .returned (.int .i64 r) ∧ Both w0 w' bw b mb base rb rw D' W ∧ ActBox w' x what n text kv := by
  have := rd_arm (n := m) h.r.dk hD h0 h1
  rw [e] at this
  exact this.mono fun ev w' ⟨a1, a2, a3⟩ => ⟨a1, Half.rs (W2 := W) h a2 a3, hx.rs h.r.dk a3⟩
/-- What a slice that came in is, later. -/
structure KeepAt (wz : World) (kA : Option Addr) (keep : List Int) : Prop where
  reads : ReadsI wz kA keep
theorem keep_lt {wz : World} {kA : Option Addr} {keep : List Int} (h : ReadsI wz kA keep) : ∀ ad, kA = some ad → 0 < keep.length → ad.block < wz.heap.size := by
  intro ad e hl
  obtain ⟨bk, off, e2, hlt, _⟩ := h.at 0 hl
  rw [e] at e2
  injection e2 with e2
  subst e2
  exact hlt
theorem rs1 {wz : World} {x : Nat} {what n : Int} {text : ByteArray} {kv : Value} {kA : Option Addr} {kc : Nat} {keep : List Int} {W : Wl} (h : Both w0 w bw b mb base rb rw D W) (hD : D.Ok) (hk : ReadsI wz kA keep) (hz : wz.heap.size ≤ w0.heap.size) (hb : Below wz.heap.size wz w) (hx : ActBox w x what n text kv) :
    Calls Tryz.prog 33 #[.pointer (some ⟨b, 0, none⟩), .slice kA keep.length kc] w fun e w' => e = .returned (.tuple #[]) ∧ Half w0 w' bw b mb base rb rw (D.restart keep) D W W ∧ ActBox w' x what n text kv := by
  have hk2 : ReadsI w kA keep := hk.keepW (Only.of_below (S := fun _ => False) hb) (fun _ _ h => h)
  refine (restart_any b mb D kA kc keep w h.s.dk hD (fun ad e hl => ?_) hk2).mono fun ev w' ⟨a1, a2, a3⟩ => ⟨a1, h.own a2 a3, hx.own h.s.dk a3⟩
  have := keep_lt hk ad e hl
  have := h.s.lb
  omega
theorem rs2 {wz : World} {x : Nat} {what n : Int} {text : ByteArray} {kv : Value} {kA : Option Addr} {kc : Nat} {keep : List Int} {W : Wl} (h : Half w0 w bw b mb base rb rw (D.restart keep) D W W) (hD : D.Ok) (hk : ReadsI wz kA keep) (hz : wz.heap.size ≤ w0.heap.size) (hb : Below wz.heap.size wz w) (hx : ActBox w x what n text kv) :
    Calls Tryz.prog 34 #[.pointer (some ⟨rb, 0, none⟩), .slice kA keep.length kc] w fun e w' => e = .returned (.tuple #[]) ∧ Both w0 w' bw b mb base rb rw (D.restart keep) W ∧ ActBox w' x what n text kv := by
  have hk2 : ReadsI w kA keep := hk.keepW (Only.of_below (S := fun _ => False) hb) (fun _ _ h => h)
  refine (rd_restart h.r.dk hD (fun ad e hl => ?_) hk2).mono fun ev w' ⟨a1, a2, a3⟩ => ⟨a1, Half.rs (W2 := W) h a2 a3, hx.rs h.r.dk a3⟩
  have := keep_lt hk ad e hl
  have := h.hb
  omega
end
/-- What an Open finds: a log, or an error. -/
theorem open2_shape {D : Dk} (h : D.Ok) : (∃ q t l D', open2 D = ⟨some q, t, l, 0, D'⟩ ∧ l.length ≤ 65536) ∨ (∃ n D', n ≠ 0 ∧ open2 D = ⟨none, [], [], n, D'⟩) := by
  unfold open2
  cases hs : snapOf (fileP D kSnap) with
  | none => exact .inr ⟨110, D, by decide, rfl⟩
  | some x =>
    obtain ⟨q, text⟩ := x
    dsimp only
    cases hl : logOf q ((fileP D kLog).getD []) with
    | none => exact .inr ⟨110, D, by decide, rfl⟩
    | some r =>
      obtain ⟨all, used, more⟩ := r
      dsimp only
      split
      · rename_i hm
        exact .inr ⟨_, _, hm, rfl⟩
      · refine .inl ⟨_, _, _, _, rfl, ?_⟩
        rw [List.length_map]
        have h1 := keep_len q all
        have h2 := logOf_len hl
        have h3 := file_size h kLog
        rw [← bs_len, bs_fileV] at h3
        omega
theorem openP_shape {D : Dk} (h : D.Ok) (ha : D.acts + 4 < 4611686018427387904) : (∃ q t l D', openP D = ⟨some q, t, l, 0, D'⟩ ∧ l.length ≤ 65536) ∨ (∃ n D', n ≠ 0 ∧ openP D = ⟨none, [], [], n, D'⟩) := by
  cases hoff : D.off with
  | true =>
    unfold openP
    rw [if_pos hoff]
    exact .inr ⟨100, D, by decide, rfl⟩
  | false =>
    rw [openP_on hoff]
    by_cases hn : (aget D.files kNew).isSome = true
    · rw [if_pos hn]
      split
      · rename_i hm
        exact .inr ⟨_, _, hm, rfl⟩
      · exact open2_shape (Dk.remove_ok h (by omega) kNew)
    · rw [if_neg hn, if_neg (by simp)]
      exact open2_shape h
theorem ropen_any (base rb : Nat) (D : Dk) (w : World) (h : RDk w base rb D) (hD : D.Ok) (ha : D.acts + 4 < 4611686018427387904) :
    Calls Tryz.prog 23 #[.pointer (some ⟨rb, 0, none⟩)] w (ROpen base rb (openP D) w) := by
  cases hoff : D.off with
  | true => exact ropen_off base rb D w h hoff
  | false => exact ropen_on base rb D w h hD ha hoff
section
variable {w0 w : World} {bw b mb base rb rw q : Nat} {D : Dk} {W : Wl}
/-- The code has found a log; the document not yet. -/
structure Found (w0 w : World) (bx b mb base rb rw : Nat) (D D2 : Dk) (W W2 : Wl) (bw : Nat) (q : Nat) : Prop where
  h : Half w0 w bx b mb base rb rw D D2 W W2
  s : Sit w0 w bw b mb D ⟨(q : Nat), 0⟩
theorem op1 {q' : Nat} {t : Bs} {l : List Bs} {D' : Dk} (e : openP D = ⟨some ((q' : Nat) : Int), t, l, 0, D'⟩) (h : Both w0 w bw b mb base rb rw D W) (hD : D.Ok) (ha : D.acts ≤ 1000) :
    Calls Tryz.prog 11 #[.pointer (some ⟨b, 0, none⟩)] w fun e w' => ∃ bw' A c, e = .returned (.tuple #[.pointer (some ⟨bw', 0, none⟩), .string (ba t), .slice A l.length c, .int .i64 0]) ∧ Found w0 w' bw b mb base rb rw D' D W W bw' q' ∧ Texts w' 0 (.slice A l.length c) l :=
  (open_by e h.s.toDsk hD (by omega)).mono fun ev w' ⟨bw', A, c, h1, h2, _, h3, h4⟩ => ⟨bw', A, c, h1, ⟨h.own h2.dk h4, h2⟩, Kd.R_lower h3 (Nat.zero_le _)⟩
theorem op2 {q' : Nat} {t : Bs} {l : List Bs} {D' : Dk} {bw' : Nat} {A1 : Option Addr} {c1 : Nat} (e : openP D = ⟨some ((q' : Nat) : Int), t, l, 0, D'⟩) (h : Found w0 w bw b mb base rb rw D' D W W bw' q') (ht : Texts w 0 (.slice A1 l.length c1) l) (hD : D.Ok) (ha : D.acts ≤ 1000) :
    Calls Tryz.prog 23 #[.pointer (some ⟨rb, 0, none⟩)] w fun e w' => ∃ rw' A c, e = .returned (.tuple #[.pointer (some ⟨rw', 0, none⟩), .string (ba t), .slice A l.length c, .int .i64 0]) ∧ Both w0 w' bw' b mb base rb rw' D' ⟨(q' : Nat), 0⟩ ∧ Texts w' 0 (.slice A1 l.length c1) l ∧ Texts w' 0 (.slice A l.length c) l := by
  refine (ropen_any base rb D w h.h.r.dk hD (by omega)).mono fun ev w' ⟨ho, hd, hp⟩ => ?_
  rw [e] at hd hp
  rcases hp with ⟨hn, _⟩ | ⟨_, rw', v, q2, hq, hrw, he, hw, hr⟩
  · exact absurd rfl hn
  · obtain rfl := Option.some.inj hq
    obtain ⟨A, c, rfl⟩ := Kd.R_slice hr
    rw [List.length_map] at hr he
    exact ⟨rw', A, c, he, ⟨Sit.rs h.s h.h.r.dk h.h.hb ho, ⟨hd, hw⟩, h.h.hb, Nat.le_trans h.s.be.size hrw⟩, row_RS ht h.h.r.dk ho, Kd.R_lower hr (Nat.zero_le _)⟩
theorem oe1 {n : Int} {D' : Dk} (e : openP D = ⟨none, [], [], n, D'⟩) (hn : n ≠ 0) (h : Both w0 w bw b mb base rb rw D W) (hD : D.Ok) (ha : D.acts ≤ 1000) :
    Calls Tryz.prog 11 #[.pointer (some ⟨b, 0, none⟩)] w fun e w' => e = .returned (.tuple #[.pointer none, .string ⟨#[]⟩, .slice none 0 0, .int .i64 n]) ∧ Half w0 w' bw b mb base rb rw D' D W W :=
  (open_err (n := n) (D' := D') (by rw [e]) (by rw [e]) hn h.s.toDsk hD (by omega)).mono fun ev w' ⟨h1, h2, h3⟩ => ⟨h1, h.own h2.dk h3⟩
theorem oe2 {n : Int} {D' : Dk} (e : openP D = ⟨none, [], [], n, D'⟩) (hn : n ≠ 0) (h : Half w0 w bw b mb base rb rw D' D W W) (hD : D.Ok) (ha : D.acts ≤ 1000) :
    Calls Tryz.prog 23 #[.pointer (some ⟨rb, 0, none⟩)] w fun e w' => e = .returned (.tuple #[.pointer none, .string ⟨#[]⟩, .slice none 0 0, .int .i64 n]) ∧ Both w0 w' bw b mb base rb rw D' W := by
  refine (ropen_any base rb D w h.r.dk hD (by omega)).mono fun ev w' ⟨ho, hd, hp⟩ => ?_
  rw [e] at hd hp
  rcases hp with ⟨_, he⟩ | ⟨h0, _⟩
  · exact ⟨he, Half.rs (W2 := W) h hd ho⟩
  · exact absurd h0 hn
theorem nil_T (w : World) : Texts w 0 (.slice none ([] : List Bs).length 0) [] := Kd.R_nil _ _ _ _ _
theorem same_nil (w : World) : Calls Tryz.prog 14 #[.slice none 0 0, .slice none 0 0] w fun e w' => e = .returned (.bool true) ∧ Below w.heap.size w w' := same_texts (l := []) (by decide) (nil_T w) (nil_T w)
end
end Go.Proofs.YtlmnmjnmilaipaaGreatDoor.Rk

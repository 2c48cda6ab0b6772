/- Package wal: Open walked. -/
import Derived.Test.YtlmnmjnmilaipaaGreatDoorWalOp
set_option linter.unusedVariables false
set_option linter.unusedSimpArgs false
namespace Go.Proofs.YtlmnmjnmilaipaaGreatDoor
open Go Go.RowKit Go.Sort PR Go.Proofs.YtlmnmjnmilaipaaGreatDoorW.PrintWords

theorem infoStr : (Tryz.prog.info? 9).map (fun i => (i.zero, i.size, i.bytes)) = some (some (.string ⟨#[]⟩), 1, 16) := by kernel_rfl
/-- What Open hands back. -/
def OpenW (b mb : Nat) (R : OpenR) (w : World) (e : Ending) (w' : World) : Prop := Only (Own b mb) w w' ∧ DiskIs w' b mb R.disk ∧
  ((R.err ≠ 0 ∧ e = .returned (.tuple #[.pointer none, .string ⟨#[]⟩, .slice none 0 0, .int .i64 R.err])) ∨
   (R.err = 0 ∧ ∃ bw v q, R.seq = some q ∧ w.heap.size ≤ bw ∧ e = .returned (.tuple #[.pointer (some ⟨bw, 0, none⟩), .string (ba R.text), v, .int .i64 0]) ∧ WlIs w' bw b ⟨q, 0⟩ ∧ Kd.R Kd.string 9 w' w.heap.size (fun _ => True) v (R.recs.map ba)))
theorem openW_nil (w : World) : Calls Tryz.prog 11 #[.pointer none] w fun e w' => e = .returned (.tuple #[.pointer none, .string ⟨#[]⟩, .slice none 0 0, .int .i64 1]) ∧ Only (fun _ => False) w w' := by
  go_enter Tryz.func11, Tryz.ntmps11
  go_wp2
  exact bodyPost_ret (v := .tuple #[.pointer none, .string ⟨#[]⟩, .slice none 0 0, .int .i64 1]) (by simp [results, Tryz.results11, go_sem]) rfl ⟨rfl, Only.refl _ _⟩
theorem openW_off (b mb : Nat) (D : Dk) (w : World) (h : DiskIs w b mb D) (hoff : D.off = true) :
    Calls Tryz.prog 11 #[.pointer (some ⟨b, 0, none⟩)] w (OpenW b mb (openP D) w) := by
  have e : openP D = ⟨none, [], [], 100, D⟩ := by unfold openP; rw [if_pos hoff]
  rw [e]
  have O := Lib.hid (off_any b D.off w h.c3)
  rw [hoff] at O
  have HD := Lib.hid h
  clear h e hoff
  go_enter Tryz.func11, Tryz.ntmps11
  go_wp2_with (go_at_call 29; refine O.out.mono ?_; rintro ev w1 ⟨rfl, rfl⟩)
  exact bodyPost_ret (v := .tuple #[.pointer none, .string ⟨#[]⟩, .slice none 0 0, .int .i64 100]) (by simp [results, Tryz.results11, go_sem]) rfl ⟨Only.refl _ _, HD.out, .inl ⟨(show (100 : Int) ≠ 0 by decide), rfl⟩⟩
/-- What holds at a round's head of Open's loop. -/
structure RecsRel (bw b : Nat) (q : Int) (xs : List Ent) (w0 : World) (k : Nat) (v : Value) (wr : World) : Prop where
  kl : k ≤ xs.length
  row : Kd.R Kd.string 9 wr w0.heap.size (fun j => w0.heap.size ≤ j) v ((xs.take k).map fun x => ba x.2)
  wal : wr.heap[bw]? = some (.cells #[.pointer (some ⟨b, 0, none⟩), .int .i64 (logSeq q (xs.take k)), .int .i64 0] 70)
  only : Only (· = bw) w0 wr
theorem logSeq_snoc (q : Int) (l : List Ent) (x : Ent) : logSeq q (l ++ [x]) = x.1 := by unfold logSeq; simp
theorem recs_step {bw b : Nat} {q : Int} {xs : List Ent} {w0 wr w3 : World} {k : Nat} {v v3 : Value} (h : RecsRel bw b q xs w0 k v wr) (hk : k < xs.length) (hbw : bw < w0.heap.size) {o : Obj}
    (hr : Kd.R Kd.string 9 w3 w0.heap.size (fun j => w0.heap.size ≤ j) v3 ((xs.take k).map (fun x => ba x.2) ++ [ba (xs.getD k ent0).2])) (hg : (wr.alloc o).grownBy w3 v.ownBlock) :
    RecsRel bw b q xs w0 (k + 1) v3 (w3.setCell ⟨bw, 1, none⟩ (.int .i64 (xs.getD k ent0).1)) := by
  have ht := take_getD xs k hk
  have hvo : ∀ j, v.ownBlock = some j → w0.heap.size ≤ j := fun j hj => h.row.1 j hj
  have ho : Only (· = bw) w0 w3 := (h.only.alloc o).trans' (Only.of_grown (S := fun j => w0.heap.size ≤ j) hg (fun j hj _ => hvo j hj)) (fun _ _ h => h) (fun j hj hs => absurd hj (by omega))
  refine ⟨hk, ?_, ?_, ho.setCell (fun _ => rfl) _⟩
  · rw [ht, List.map_append]
    exact Kd.R_far hr (p := ⟨bw, 1, none⟩) (fun j hj => by show j ≠ bw; omega) _
  · have h1 : w3.heap[bw]? = wr.heap[bw]? := by
      have hs := h.only.size
      have := hg.block bw (by simp; omega) (fun e => by have := hvo bw e.symm; omega)
      rw [this]
      exact Below.heap_alloc wr o bw (by omega)
    rw [ht, logSeq_snoc]
    exact blk_setCell (h1.trans h.wal) _
theorem recs_facts {bw b : Nat} {q : Int} {xs : List Ent} {w0 wr w3 : World} {k : Nat} {v : Value} (h : RecsRel bw b q xs w0 k v wr) (hbw : bw < w0.heap.size) {o : Obj} (hg : (wr.alloc o).grownBy w3 v.ownBlock) :
    w3.heap[bw]? = some (.cells #[.pointer (some ⟨b, 0, none⟩), .int .i64 (logSeq q (xs.take k)), .int .i64 0] 70) ∧ w3.heap[wr.heap.size]? = some o := by
  have hs := h.only.size
  have hvo : ∀ j, v.ownBlock = some j → w0.heap.size ≤ j := fun j hj => h.row.1 j hj
  constructor
  · have := hg.block bw (by simp; omega) (fun e => by have := hvo bw e.symm; omega)
    rw [this, Below.heap_alloc wr o bw (by omega)]
    exact h.wal
  · obtain ⟨inner, hown⟩ := Kd.R_own h.row
    have := hg.block wr.heap.size (by simp) (fun e => by have := own_lt hown _ e.symm; omega)
    rw [this]
    exact (MapKept.heap_alloc wr o).1
theorem recs_start {bw b : Nat} {q : Int} {xs : List Ent} {w0 : World} (h : w0.heap[bw]? = some (.cells #[.pointer (some ⟨b, 0, none⟩), .int .i64 q, .int .i64 0] 70)) : RecsRel bw b q xs w0 0 (.slice none 0 0) w0 :=
  ⟨Nat.zero_le _, Kd.R_nil _ _ _ _ _, h, Only.refl _ _⟩
set_option maxHeartbeats 8000000 in
set_option maxRecDepth 100000 in
theorem openW_on (b mb : Nat) (D : Dk) (w : World) (h : DiskIs w b mb D) (hD : D.Ok) (ha : D.acts + 4 < 4611686018427387904) (hoff : D.off = false) (hg : ErrTab w) (g1 : b ≠ 0) (g2 : mb ≠ 0) :
    Calls Tryz.prog 11 #[.pointer (some ⟨b, 0, none⟩)] w (OpenW b mb (openP D) w) := by
  have O := Lib.hid (off_any b D.off w h.c3)
  rw [hoff] at O
  have OP := open_any b mb D w h hD ha hoff
  have lb := h.lt
  have lm := h.map.lt
  generalize openP D = R at *
  have HG := Lib.hid hg
  have hgb : ¬ Own b mb 0 := fun h => h.elim (fun e => g1 e.symm) (fun e => g2 e.symm)
  clear h hD ha hoff hg
  by_cases he : R.err = 0
  · have OP2 := Lib.hid (show Calls Tryz.prog 35 #[.pointer (some ⟨b, 0, none⟩)] w fun e w' => ∃ x xs g c, e = .returned (.tuple #[entV x, .slice (some ⟨g, 0, none⟩) xs.length c, .nilIface]) ∧ RowN w' g xs ∧ w.heap.size ≤ g ∧ x.2 = R.text ∧ R.seq = some (logSeq x.1 xs) ∧ R.recs = xs.map (·.2) ∧ xs.length ≤ 65536 ∧ Only (Own b mb) w w' ∧ DiskIs w' b mb R.disk from OP.mono fun e w' ⟨x, v, ev, h1, h2, h3, h4⟩ => by
      rcases h4 with ⟨h5, _⟩ | ⟨_, rfl, xs, g, c, rfl, hR, hg, hx, hs, hr, hl, _, _⟩
      · exact absurd he h5
      · exact ⟨x, xs, g, c, h1, hR, hg, hx, hs, hr, hl, h2, h3⟩)
    have HE := Lib.hid he
    clear OP he
    go_enter Tryz.func11, Tryz.ntmps11
    go_wp2_with (first
      | (go_at_call 29; refine O.out.mono ?_; rintro ev w1 ⟨rfl, rfl⟩)
      | (go_at_call 35; refine OP2.out.mono ?_; rintro ev w1 ⟨x, xs, g, c, rfl, hR, hg, hx, hs, hr, hl, ho, hd⟩; obtain ⟨q, text⟩ := x; dsimp only at hx hs; unfold entV; have HR := Lib.hid hR; have HX := Lib.hid hx; have HS := Lib.hid hs; have HRC := Lib.hid hr; have HO1 := Lib.hid ho; have HD1 := Lib.hid hd; have hgl := hR.lt; clear hR hx hs hr ho hd))
    have hw0 : ((w1.alloc (.cells #[.int .i64 q, .string (ba text)] 62)).alloc (.cells #[.pointer (some ⟨b, 0, none⟩), .int .i64 q, .int .i64 0] 70)).heap[w1.heap.size + 1]? = some (.cells #[.pointer (some ⟨b, 0, none⟩), .int .i64 q, .int .i64 0] 70) := by
      have := (MapKept.heap_alloc (w1.alloc (.cells #[.int .i64 q, .string (ba text)] 62)) (.cells #[.pointer (some ⟨b, 0, none⟩), .int .i64 q, .int .i64 0] 70)).1
      rwa [World.size_alloc] at this
    have HW0 := Lib.hid hw0
    have hR0 : RowN ((w1.alloc (.cells #[.int .i64 q, .string (ba text)] 62)).alloc (.cells #[.pointer (some ⟨b, 0, none⟩), .int .i64 q, .int .i64 0] 70)) g xs := (HR.out.alloc _).alloc _
    have HR0 := Lib.hid hR0
    have hsz0 : ((w1.alloc (.cells #[.int .i64 q, .string (ba text)] 62)).alloc (.cells #[.pointer (some ⟨b, 0, none⟩), .int .i64 q, .int .i64 0] 70)).heap.size = w1.heap.size + 2 := by simp
    have hb0 : ((w1.alloc (.cells #[.int .i64 q, .string (ba text)] 62)).alloc (.cells #[.pointer (some ⟨b, 0, none⟩), .int .i64 q, .int .i64 0] 70)).cell? ⟨w1.heap.size, 1, none⟩ = some (.string (ba text)) := by go_simp
    have hO0 : Only (Own b mb) w ((w1.alloc (.cells #[.int .i64 q, .string (ba text)] 62)).alloc (.cells #[.pointer (some ⟨b, 0, none⟩), .int .i64 q, .int .i64 0] 70)) := (HO1.out.alloc _).alloc _
    have hD0 : DiskIs ((w1.alloc (.cells #[.int .i64 q, .string (ba text)] 62)).alloc (.cells #[.pointer (some ⟨b, 0, none⟩), .int .i64 q, .int .i64 0] 70)) b mb R.disk := (HD1.out.alloc _).alloc _
    have HSZ0 := Lib.hid hsz0
    have HB0 := Lib.hid hb0
    have HO0 := Lib.hid hO0
    have HD0 := Lib.hid hD0
    have hsz1 := HO1.out.size
    have hbw : w1.heap.size + 1 < ((w1.alloc (.cells #[.int .i64 q, .string (ba text)] 62)).alloc (.cells #[.pointer (some ⟨b, 0, none⟩), .int .i64 q, .int .i64 0] 70)).heap.size := by rw [hsz0]; omega
    have HBW := Lib.hid hbw
    clear hw0 hR0 hsz0 hb0 hO0 hD0 hbw
    obtain ⟨W0, HW00⟩ : ∃ W0, Hid (W0 = ((w1.alloc (.cells #[.int .i64 q, .string (ba text)] 62)).alloc (.cells #[.pointer (some ⟨b, 0, none⟩), .int .i64 q, .int .i64 0] 70))) := ⟨_, Lib.hid rfl⟩
    rw [← HW00.out] at HW0 HR0 HSZ0 HB0 HO0 HD0 HBW ⊢
    go_loopw [10, 36] (fun v i wr => ∃ k : Nat, i = .int .i64 k ∧ RecsRel (w1.heap.size + 1) b q xs W0 k v wr) (fun _ i _ => xs.length - (intOf i).toNat)
    case atStart => exact ⟨0, rfl, recs_start HW0.out⟩
    case round =>
      obtain ⟨k, rfl, hrel⟩ := hrel
      obtain ⟨Av, cv, rfl⟩ := Kd.R_slice hrel.row
      have hlen : ((xs.take k).map fun x => ba x.2).length = k := by rw [List.length_map, List.length_take]; have := hrel.kl; omega
      rw [hlen] at hrel ⊢
      have HREL := Lib.hid hrel
      have hkl := hrel.kl
      have hrsz := hrel.only.size
      clear hrel
      have hgt := HSZ0.out
      by_cases hlt : k < xs.length
      · have hrow := HR0.out.only HREL.out.only (fun e => by have e : g = w1.heap.size + 1 := e; omega)
        obtain ⟨e0, e1⟩ := hrow.at hlt
        have hgl2 := hrow.lt
        have hst := fun w3 v3 o => recs_step (w3 := w3) (v3 := v3) (o := o) HREL.out hlt HBW.out
        have hfc := fun w3 o => recs_facts (w3 := w3) (o := o) HREL.out HBW.out
        clear hrow hgt
        generalize xs.getD k ent0 = x at *
        obtain ⟨n, t⟩ := x
        dsimp only at e0 e1 hst
        have HST := Lib.hid hst
        have HFC := Lib.hid hfc
        clear hst hfc
        have HRO := Lib.hid (Kd.R_below HREL.out.row (below_alloc (Below.refl _ _) (.cells #[.int .i64 n, .string (ba t)] 62)))
        have HBASE := Lib.hid (show W0.heap.size ≤ (wr.alloc (.cells #[.int .i64 n, .string (ba t)] 62)).heap.size from by simp; omega)
        have hbl := HBW.out
        clear hlen
        go_wp2_with ((with_reducible refine gate_builtin (b := .append) (xs := #[.tmp 40, .tmp 43]) rfl ?_); (try (refine gate_guard (by rfl) ?_; dsimp only)); at_builtin; go_loud (refine Kd.R_append Kd.string (w0 := wr.alloc (.cells #[.int .i64 n, .string (ba t)] 62)) W0.heap.size rfl (.tmp 40) (.tmp 43) 22 9 (.string ⟨#[]⟩) 16 rfl Tryz.underlying22 infoStr rfl (by decide) (by decide) (.slice Av k cv) ((xs.take k).map fun x => ba x.2) (ba t) [.string (ba t)] (fun j => W0.heap.size ≤ j) (fun _ => False) (by rfl) (by rw [World.size_alloc]; rfl) rfl (fun _ h => h.elim) (fun j hj => Nat.le_trans HBASE.out hj) HRO.out (Below.refl _ _) HBASE.out (by rw [List.length_map, List.length_take]; omega) ?_; intro v3 w3 ho hb hgr _; obtain ⟨f1, f2⟩ := HFC.out w3 _ hgr; have x0 : w3.cell? ⟨wr.heap.size, 0, none⟩ = some (.int .i64 n) := (by simp [World.cell?, f2]); have x1 : w3.cell? ⟨w1.heap.size + 1, 1, none⟩ = some (.int .i64 (logSeq q (xs.take k))) := (by simp [World.cell?, f1]); have x2 : w3.frozen? ⟨w1.heap.size + 1, 1, none⟩ = false := (by simp [World.frozen?, f1]); have HH := Lib.hid (HST.out w3 v3 _ ho hgr); have hz3 := hb.size; clear ho hb hgr f1 f2))
        go_roundw
        case rel => exact ⟨k + 1, by go_num, HH.out⟩
        case measure => simp [intOf]; omega
      · obtain rfl : k = xs.length := by omega
        have hb6 : wr.cell? ⟨w1.heap.size, 1, none⟩ = some (.string (ba text)) := (HREL.out.only.cell (p := ⟨w1.heap.size, 1, none⟩) (by show w1.heap.size < _; omega) (fun e => by have e : w1.heap.size = w1.heap.size + 1 := e; omega)).trans HB0.out
        have hl6 : w1.heap.size < wr.heap.size := by omega
        go_wp2
        go_quiet (fail)
        go_wp2
        have hfin := HREL.out
        obtain ⟨_, f2, f3, f4⟩ := hfin
        rw [List.take_of_length_le (Nat.le_refl _)] at f2 f3
        have hrec : R.recs.map ba = xs.map fun x => ba x.2 := by rw [HRC.out, List.map_map]; rfl
        exact bodyPost_ret (v := .tuple #[.pointer (some ⟨w1.heap.size + 1, 0, none⟩), .string (ba text), .slice Av xs.length cv, .int .i64 0]) (by simp [results, Tryz.results11, go_sem]) rfl
          ⟨HO0.out.trans' (f4.drewN _) (fun _ _ h => h) (fun j hj e => by have e : j = w1.heap.size + 1 := e; omega),
           HD0.out.only (f4.drewN _) (fun e => by have e : b = w1.heap.size + 1 := e; omega) (fun e => by have e : mb = w1.heap.size + 1 := e; omega),
           .inr ⟨HE.out, w1.heap.size + 1, _, _, HS.out, by omega, by rw [← HX.out], ⟨f3⟩, by
            rw [hrec]
            exact Kd.R_mono (Kd.R_lower (Kd.R_drewN f2 _) (by omega)) (fun _ _ => trivial)⟩⟩
  · have OP2 := Lib.hid (show Calls Tryz.prog 35 #[.pointer (some ⟨b, 0, none⟩)] w fun e w' => ∃ x v c, e = .returned (.tuple #[entV x, v, chV R.err c]) ∧ Only (Own b mb) w w' ∧ DiskIs w' b mb R.disk from OP.mono fun e w' ⟨x, v, ev, h1, h2, h3, h4⟩ => by
      rcases h4 with ⟨_, c, rfl⟩ | ⟨h5, _⟩
      · exact ⟨x, v, c, h1, h2, h3⟩
      · exact absurd h5 he)
    have CD := Lib.hid (fun c W (hW : ErrTab W) => code_any R.err c W hW)
    have HE := Lib.hid he
    clear OP he
    go_enter Tryz.func11, Tryz.ntmps11
    go_wp2_with (first
      | (go_at_call 29; refine O.out.mono ?_; rintro ev w1 ⟨rfl, rfl⟩)
      | (go_at_call 35; refine OP2.out.mono ?_; rintro ev w1 ⟨x, v, c, rfl, ho, hd⟩; have HO1 := Lib.hid ho; have HD1 := Lib.hid hd; have HG1 := Lib.hid ((HG.out.only ho hgb).only ((Only.refl (fun _ => False) w1).alloc (.cells #[.int .i64 x.1, .string (ba x.2)] 62)) (fun h => h)); obtain ⟨q, text⟩ := x; unfold entV; clear ho hd; obtain ⟨cv, HCV⟩ : ∃ cv, Hid (cv = chV R.err c) := ⟨_, Lib.hid rfl⟩; obtain ⟨tv, xv, HXV⟩ : ∃ tv xv, Hid (chV R.err c = .iface tv xv) := (by cases c <;> exact ⟨_, _, Lib.hid rfl⟩); rw [HXV.out])
      | (go_at_call 36; have hc := CD.out c _ HG1.out; rw [HXV.out] at hc; refine hc.mono ?_; rintro ev w2 ⟨rfl, hb⟩; have HB2 := Lib.hid hb; clear hb hc))
    have f4 := (((Only.refl (fun _ => False) w1).alloc (.cells #[.int .i64 q, .string (ba text)] 62)).then_below HB2.out)
    exact bodyPost_ret (v := .tuple #[.pointer none, .string ⟨#[]⟩, .slice none 0 0, .int .i64 R.err]) (by simp [results, Tryz.results11, go_sem]) rfl
      ⟨HO1.out.trans' f4 (fun _ _ h => h) (fun _ _ h => h.elim), HD1.out.only f4 (fun h => h) (fun h => h), .inl ⟨HE.out, rfl⟩⟩
theorem openW_any (b mb : Nat) (D : Dk) (w : World) (h : DiskIs w b mb D) (hD : D.Ok) (ha : D.acts + 4 < 4611686018427387904) (hg : ErrTab w) (g1 : b ≠ 0) (g2 : mb ≠ 0) :
    Calls Tryz.prog 11 #[.pointer (some ⟨b, 0, none⟩)] w (OpenW b mb (openP D) w) := by
  cases hoff : D.off with
  | true => exact openW_off b mb D w h hoff
  | false => exact openW_on b mb D w h hD ha hoff hg g1 g2
end Go.Proofs.YtlmnmjnmilaipaaGreatDoor

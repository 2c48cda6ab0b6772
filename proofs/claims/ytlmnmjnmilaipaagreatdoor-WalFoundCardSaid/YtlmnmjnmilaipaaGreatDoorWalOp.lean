/- Package wal: open walked. -/
import Derived.Test.YtlmnmjnmilaipaaGreatDoorWalO
import Derived.Test.YtlmnmjnmilaipaaGreatDoorWalCk
set_option linter.unusedVariables false
set_option linter.unusedSimpArgs false
namespace Go.Proofs.YtlmnmjnmilaipaaGreatDoor
open Go Go.RowKit Go.Sort PR Go.Proofs.YtlmnmjnmilaipaaGreatDoorW.PrintWords

/-- An Open behind the cleaning. -/
def open2 (D0 : Dk) : OpenR :=
  match snapOf (fileP D0 kSnap) with
  | none => ⟨none, [], [], 110, D0⟩
  | some (q, text) =>
    match logOf q ((fileP D0 kLog).getD []) with
    | none => ⟨none, [], [], 110, D0⟩
    | some (all, used, more) =>
      if (mendP D0 ((fileP D0 kLog).getD []) used more).1 ≠ 0 then ⟨none, [], [], (mendP D0 ((fileP D0 kLog).getD []) used more).1, (mendP D0 ((fileP D0 kLog).getD []) used more).2⟩
      else ⟨some (logSeq q (keepL q all)), text, (keepL q all).map (·.2), 0, (mendP D0 ((fileP D0 kLog).getD []) used more).2⟩
theorem openP_on {D : Dk} (hoff : D.off = false) : openP D = if (if (aget D.files kNew).isSome then D.remove kNew else (0, D)).1 ≠ 0 then ⟨none, [], [], (if (aget D.files kNew).isSome then D.remove kNew else (0, D)).1, (if (aget D.files kNew).isSome then D.remove kNew else (0, D)).2⟩ else open2 (if (aget D.files kNew).isSome then D.remove kNew else (0, D)).2 := by
  unfold openP
  rw [if_neg (by rw [hoff]; simp)]
  rfl
/-- What open hands back. -/
def OpenQ (b mb : Nat) (R : OpenR) (w : World) (x : Ent) (v ev : Value) (w' : World) : Prop := Only (Own b mb) w w' ∧ DiskIs w' b mb R.disk ∧
  ((R.err ≠ 0 ∧ ∃ c, ev = chV R.err c) ∨
   (R.err = 0 ∧ ev = .nilIface ∧ ∃ xs g c, v = .slice (some ⟨g, 0, none⟩) xs.length c ∧ RowN w' g xs ∧ w.heap.size ≤ g ∧ x.2 = R.text ∧ R.seq = some (logSeq x.1 xs) ∧ R.recs = xs.map (·.2) ∧ xs.length ≤ 65536 ∧ 0 ≤ x.1 ∧ x.1 ≤ 1099511627776))
def OpenPost (b mb : Nat) (R : OpenR) (w : World) (e : Ending) (w' : World) : Prop := ∃ x v ev, e = .returned (.tuple #[entV x, v, ev]) ∧ OpenQ b mb R w x v ev w'
theorem keep_len (q : Int) (xs : List Ent) : (keepL q xs).length ≤ xs.length := List.length_filter_le _ _
theorem logOf_len {q : Int} {s : Bs} {all : List Ent} {u : Nat} {m : Bool} (h : logOf q s = some (all, u, m)) : all.length ≤ s.length := by
  unfold logOf at h
  cases hp : parseP (allP (s.length + 1) s).1 with
  | none => rw [hp] at h; cases h
  | some es =>
    rw [hp] at h
    dsimp only at h
    split at h
    · cases h
    · split at h
      · obtain ⟨rfl, _⟩ := Prod.mk.inj (Option.some.inj h)
        rw [parse_len _ _ hp]
        exact all_many _ _
      · cases h
theorem openQ_log {b mb : Nat} {D0 : Dk} {q : Int} {text : Bs} (hs : snapOf (fileP D0 kSnap) = some (q, text)) (hq0 : 0 ≤ q) (hq1 : q ≤ 1099511627776) (hl : ((fileP D0 kLog).getD []).length ≤ 65536) {w w0 w1 w' : World} {v ev : Value} (h0 : Only (Own b mb) w w0) (hsz : w.heap.size ≤ w1.heap.size) (h01 : Only (Own b mb) w w1)
    (h : LogPost b mb D0 q ((fileP D0 kLog).getD []) (logOf q ((fileP D0 kLog).getD [])) w1 (.returned (.tuple #[v, ev])) w') : OpenQ b mb (open2 D0) w (q, text) v ev w' := by
  unfold open2
  rw [hs]
  dsimp only
  obtain ⟨ho, h⟩ := h
  refine ⟨h01.trans ho, ?_⟩
  cases hlg : logOf q ((fileP D0 kLog).getD []) with
  | none =>
    rw [hlg] at h
    obtain ⟨⟨c, hc⟩, hd⟩ := h
    injection hc with hc
    injection hc with hc
    injection hc with hc
    simp only [List.cons.injEq, and_true] at hc
    exact ⟨hd, .inl ⟨(show (110 : Int) ≠ 0 by decide), c, hc.2⟩⟩
  | some r =>
    obtain ⟨all, used, more⟩ := r
    have hal := logOf_len hlg
    rw [hlg] at h
    dsimp only at h ⊢
    obtain ⟨hd, h⟩ := h
    generalize mendP D0 ((fileP D0 kLog).getD []) used more = R at *
    obtain ⟨n, D1⟩ := R
    dsimp only at h hd ⊢
    rcases h with ⟨hn, c, hc⟩ | ⟨hn, g, c, hc, hR, hg⟩
    · rw [if_pos hn]
      injection hc with hc
      injection hc with hc
      injection hc with hc
      simp only [List.cons.injEq, and_true] at hc
      exact ⟨hd, .inl ⟨hn, c, hc.2⟩⟩
    · subst hn
      rw [if_neg (by simp)]
      injection hc with hc
      injection hc with hc
      injection hc with hc
      simp only [List.cons.injEq, and_true] at hc
      have := keep_len q all
      exact ⟨hd, .inr ⟨rfl, hc.2, keepL q all, g, c, hc.1, hR, Nat.le_trans hsz hg, rfl, rfl, rfl, by omega, hq0, hq1⟩⟩
theorem snapOf_bound {o : Option Bs} {x : Ent} (h : snapOf o = some x) : 0 ≤ x.1 ∧ x.1 ≤ 1099511627776 := by
  cases o with
  | none =>
    obtain rfl : (0, []) = x := Option.some.inj h
    exact ⟨Int.le_refl _, by decide⟩
  | some s =>
    unfold snapOf at h
    dsimp only at h
    split at h
    · split at h
      · rename_i p hp
        rw [parse_cons] at h
        obtain ⟨y, hy, h2⟩ := Option.bind_eq_some_iff.1 h
        obtain ⟨z, hz, h3⟩ := Option.bind_eq_some_iff.1 hy
        obtain ⟨ys, hys, rfl⟩ := Option.map_eq_some_iff.1 h3
        obtain rfl : z = x := Option.some.inj h2
        exact ent1_bound hz
      · cases h
    · cases h
theorem log_use (b mb : Nat) (D : Dk) (q : Int) (w : World) (h : DiskIs w b mb D) (hD : D.Ok) (ha : D.acts + 3 < 4611686018427387904) (hoff : D.off = false) (hq0 : 0 ≤ q) (hq1 : q ≤ 1099511627776) :
    Calls Tryz.prog 66 #[.pointer (some ⟨b, 0, none⟩), .int .i64 q] w fun e w' => ∃ v ev, e = .returned (.tuple #[v, ev]) ∧ LogPost b mb D q ((fileP D kLog).getD []) (logOf q ((fileP D kLog).getD [])) w (.returned (.tuple #[v, ev])) w' := by
  have h0 := log_any b mb D q w h hD ha hoff hq0 hq1
  rw [bs_fileV] at h0
  refine h0.mono fun e w' hp => ?_
  have : ∃ v ev, e = .returned (.tuple #[v, ev]) := by
    obtain ⟨ho, hp⟩ := hp
    cases hlg : logOf q ((fileP D kLog).getD []) with
    | none => rw [hlg] at hp; obtain ⟨⟨c, hc⟩, _⟩ := hp; exact ⟨_, _, hc⟩
    | some r =>
      obtain ⟨all, used, more⟩ := r
      rw [hlg] at hp
      rcases hp.2 with ⟨_, c, hc⟩ | ⟨_, g, c, hc, _⟩
      · exact ⟨_, _, hc⟩
      · exact ⟨_, _, hc⟩
  obtain ⟨v, ev, rfl⟩ := this
  exact ⟨v, ev, rfl, hp⟩
/-- The result's box behind calls that turn no more than a disk. -/
theorem boxE_own {b mb : Nat} {w w1 w2 : World} {u v : Value} (h0 : w1.cell? ⟨w.heap.size, 0, none⟩ = some u) (h1 : w1.cell? ⟨w.heap.size, 1, none⟩ = some v) (g0 : w1.frozen? ⟨w.heap.size, 0, none⟩ = false) (g1 : w1.frozen? ⟨w.heap.size, 1, none⟩ = false) (hl : w.heap.size < w1.heap.size) (hb : b < w.heap.size) (hm : mb < w.heap.size) (ho : Only (Own b mb) w1 w2) :
    w2.cell? ⟨w.heap.size, 0, none⟩ = some u ∧ w2.cell? ⟨w.heap.size, 1, none⟩ = some v ∧ w2.frozen? ⟨w.heap.size, 0, none⟩ = false ∧ w2.frozen? ⟨w.heap.size, 1, none⟩ = false ∧ w.heap.size < w2.heap.size := by
  have hn : ¬ Own b mb w.heap.size := fun h => h.elim (fun e => by have e : w.heap.size = b := e; omega) (fun e => by have e : w.heap.size = mb := e; omega)
  exact ⟨(ho.cell (p := ⟨w.heap.size, 0, none⟩) hl hn).trans h0, (ho.cell (p := ⟨w.heap.size, 1, none⟩) hl hn).trans h1, (ho.frozen (p := ⟨w.heap.size, 0, none⟩) hl hn).trans g0, (ho.frozen (p := ⟨w.heap.size, 1, none⟩) hl hn).trans g1, Nat.lt_of_lt_of_le hl ho.size⟩
theorem remove_on {D : Dk} (hoff : D.off = false) {k : ByteArray} (h : (D.remove k).1 = 0) : (D.remove k).2.off = false := by
  unfold Dk.remove at h ⊢
  split
  · rename_i hc; rw [if_pos hc] at h; cases h
  · rename_i hc
    split
    · simpa using hc
    · show D.tick.off = false; simpa using hc
theorem boxE_trk {b mb : Nat} {w W : World} (hb : b < w.heap.size) (hm : mb < w.heap.size) (ho : Only (Own b mb) (w.alloc boxE) W) :
    W.cell? ⟨w.heap.size, 0, none⟩ = some (.int .i64 0) ∧ W.cell? ⟨w.heap.size, 1, none⟩ = some (.string ⟨#[]⟩) ∧ W.frozen? ⟨w.heap.size, 0, none⟩ = false ∧ W.frozen? ⟨w.heap.size, 1, none⟩ = false ∧ w.heap.size < W.heap.size := by
  obtain ⟨a, b, c, d, e⟩ := boxE_at (Below.refl (w.alloc boxE).heap.size (w.alloc boxE))
  exact boxE_own a b c d e hb hm ho
theorem boxE_only {b mb : Nat} {w W : World} (ho : Only (Own b mb) (w.alloc boxE) W) : Only (Own b mb) w W := ((Only.refl _ w).alloc _).trans ho
theorem only_box {b mb : Nat} {w W : World} (ho : Only (Own b mb) w W) (hl : w.heap.size < W.heap.size) (u v : Value) : Only (Own b mb) w ((W.setCell ⟨w.heap.size, 0, none⟩ u).setCell ⟨w.heap.size, 1, none⟩ v) :=
  (ho.setCell (p := ⟨w.heap.size, 0, none⟩) (fun h => absurd h (Nat.lt_irrefl _)) u).setCell (p := ⟨w.heap.size, 1, none⟩) (fun h => absurd h (Nat.lt_irrefl _)) v
theorem box_read {n : Nat} {W : World} {x y : Value} (h0 : W.cell? ⟨n, 0, none⟩ = some x) (h1 : W.cell? ⟨n, 1, none⟩ = some y) (u v : Value) : (W.setCell ⟨n, 0, none⟩ u).cell? ⟨n, 0, none⟩ = some u ∧ ((W.setCell ⟨n, 0, none⟩ u).setCell ⟨n, 1, none⟩ v).cell? ⟨n, 0, none⟩ = some u ∧ ((W.setCell ⟨n, 0, none⟩ u).setCell ⟨n, 1, none⟩ v).cell? ⟨n, 1, none⟩ = some v := by
  have e1 : (W.setCell ⟨n, 0, none⟩ u).cell? ⟨n, 0, none⟩ = some u := World.cell?_setCell_same _ _ _ h0
  refine ⟨e1, (World.cell?_setCell_other _ _ _ _ (by simp)).trans e1, World.cell?_setCell_same (u := y) _ _ _ ?_⟩
  rw [← h1]
  exact World.cell?_setCell_other _ _ _ _ (by simp)
theorem openQ_err {b mb : Nat} {R : OpenR} {w w' : World} {x : Ent} {v : Value} {n : Int} {D' : Dk} {c : Ch} (hr : R.err = n) (hd : R.disk = D') (hn : n ≠ 0) (ho : Only (Own b mb) w w') (hD : DiskIs w' b mb D') : OpenQ b mb R w x v (chV n c) w' := by
  subst hr; subst hd
  exact ⟨ho, hD, .inl ⟨hn, c, rfl⟩⟩
theorem DiskIs.box {b mb n : Nat} {W : World} {D : Dk} (h : DiskIs W b mb D) (hb : b ≠ n) (hm : mb ≠ n) (u v : Value) : DiskIs ((W.setCell ⟨n, 0, none⟩ u).setCell ⟨n, 1, none⟩ v) b mb D :=
  h.only (((Only.refl (fun k => k = n) W).setCell (p := ⟨n, 0, none⟩) (fun _ => rfl) u).setCell (p := ⟨n, 1, none⟩) (fun _ => rfl) v) hb hm
set_option maxHeartbeats 16000000 in
set_option maxRecDepth 100000 in
theorem open_none (b mb : Nat) (D : Dk) (w : World) (h : DiskIs w b mb D) (hD : D.Ok) (ha : D.acts + 4 < 4611686018427387904) (hoff : D.off = false) (hnew : aget D.files kNew = none) :
    Calls Tryz.prog 35 #[.pointer (some ⟨b, 0, none⟩)] w (OpenPost b mb (openP D) w) := by
  have L := Lib.hid (list_names b mb D (w.alloc boxE) (h.alloc _) hD)
  have C := Lib.hid (fun A c W (hn : NamesAt W (.slice A D.files.length c) D) => contains_names A c D kNew W hD hn)
  have lb := h.lt
  have lm := h.map.lt
  have nb : b ≠ w.heap.size := by omega
  have nm : mb ≠ w.heap.size := by omega
  have HDB := Lib.hid (fun W (ho : Only (fun _ => False) (w.alloc boxE) W) => (h.alloc boxE).only ho (fun h => h) (fun h => h))
  have HR : openP D = open2 D := by rw [openP_on hoff, hnew]; rfl
  rw [HR]
  clear HR
  rw [hnew, Option.isSome_none] at C
  have S := Lib.hid (fun W (hW : DiskIs W b mb D) => snap_any b mb D W hW hD hoff)
  have G := Lib.hid (fun q h0 h1 W (hW : DiskIs W b mb D) => log_use b mb D q W hW hD (by omega) hoff h0 h1)
  have hfl : ((fileP D kLog).getD []).length ≤ 65536 := by rw [← bs_fileV, bs_len]; exact file_size hD kLog
  clear hD ha hoff hnew h
  cases hsn : snapOf (fileP D kSnap) with
  | none =>
    have HE := Lib.hid (show (open2 D).err = 110 ∧ (open2 D).disk = D from by unfold open2; rw [hsn]; exact ⟨rfl, rfl⟩)
    rw [hsn] at S
    clear hsn hfl
    go_enter Tryz.func35, Tryz.ntmps35
    go_wp2_with (first
      | (go_at_call 15; refine L.out.mono ?_; rintro ev w1 ⟨A, c, rfl, hn, hb⟩; have HN := Lib.hid hn; have HB := Lib.hid hb; clear hn hb)
      | (go_at_call 40; refine (C.out A c _ HN.out).mono ?_; rintro ev w2 ⟨rfl, hb⟩; have HOX := Lib.hid (show Only (Own b mb) (w.alloc boxE) w2 from Only.of_below (HB.out.trans (hb.mono HB.out.size))); have HDX := Lib.hid (HDB.out _ (Only.of_below (HB.out.trans (hb.mono HB.out.size)))); clear hb)
      | (go_at_call 65; refine (S.out _ HDX.out).mono ?_; rintro ev w5 ⟨hb, cs, rfl⟩; have HO5 := Lib.hid (HOX.out.then_below hb); have HD5 := Lib.hid (HDX.out.only (Only.of_below (S := fun _ => False) hb) (fun h => h) (fun h => h)); obtain ⟨z0, z1, y0, y1, zl⟩ := boxE_trk lb lm HO5.out; clear hb; unfold chV entV ent0))
    exact bodyPost_ret (v := .tuple #[entV ent0, .slice none 0 0, chV 110 (.one cs)]) (by simp [results, Tryz.results35, go_sem, zl, entV, ent0, ba, chV, (box_read z0 z1 (.int .i64 0) (.string ⟨#[]⟩)).1, (box_read z0 z1 (.int .i64 0) (.string ⟨#[]⟩)).2.2]) rfl ⟨_, _, _, rfl, openQ_err HE.out.1 HE.out.2 (by decide) (only_box (boxE_only HO5.out) zl _ _) (HD5.out.box nb nm _ _)⟩
  | some x =>
    have hbd := snapOf_bound hsn
    have HQ := Lib.hid (fun (w1 w' : World) (v ev : Value) hsz h01 h => openQ_log (b := b) (mb := mb) (D0 := D) (w := w) (w0 := w) (w1 := w1) (w' := w') (v := v) (ev := ev) (show snapOf (fileP D kSnap) = some (x.1, x.2) from hsn) hbd.1 hbd.2 hfl (Only.refl _ _) hsz h01 h)
    have GG := Lib.hid (fun W (hW : DiskIs W b mb D) => G.out x.1 hbd.1 hbd.2 W hW)
    rw [hsn] at S
    clear hsn hfl hbd G
    obtain ⟨q, text⟩ := x
    dsimp only at HQ GG
    go_enter Tryz.func35, Tryz.ntmps35
    go_wp2_with (first
      | (go_at_call 15; refine L.out.mono ?_; rintro ev w1 ⟨A, c, rfl, hn, hb⟩; have HN := Lib.hid hn; have HB := Lib.hid hb; clear hn hb)
      | (go_at_call 40; refine (C.out A c _ HN.out).mono ?_; rintro ev w2 ⟨rfl, hb⟩; have HOX := Lib.hid (show Only (Own b mb) (w.alloc boxE) w2 from Only.of_below (HB.out.trans (hb.mono HB.out.size))); have HDX := Lib.hid (HDB.out _ (Only.of_below (HB.out.trans (hb.mono HB.out.size)))); clear hb)
      | (go_at_call 65; refine (S.out _ HDX.out).mono ?_; rintro ev w5 ⟨hb, rfl⟩; have HO5 := Lib.hid (HOX.out.then_below hb); have HD5 := Lib.hid (HDX.out.only (Only.of_below (S := fun _ => False) hb) (fun h => h) (fun h => h)); obtain ⟨z0, z1, y0, y1, zl⟩ := boxE_trk lb lm HO5.out; have RD := Lib.hid (box_read z0 z1 (.int .i64 q) (.string (ba text))); clear hb; unfold entV)
      | (go_at_call 66; refine (GG.out _ (HD5.out.box nb nm _ _)).mono ?_; rintro ev w6 ⟨v6, ev6, rfl, hp⟩; have HP := Lib.hid hp; have HX := Lib.hid (boxE_own (b := b) (mb := mb) RD.out.2.1 RD.out.2.2 (by go_simp) (by go_simp) (by simp; exact zl) lb lm hp.1); clear hp))
    exact bodyPost_ret (v := .tuple #[entV (q, text), v6, ev6]) (by simp [results, Tryz.results35, go_sem, entV, HX.out.1, HX.out.2.1]) rfl ⟨(q, text), _, _, rfl, HQ.out _ _ _ _ (by simp; omega) (only_box (boxE_only HO5.out) zl _ _) HP.out⟩
set_option maxHeartbeats 16000000 in
set_option maxRecDepth 100000 in
theorem open_new (b mb : Nat) (D : Dk) (w : World) (h : DiskIs w b mb D) (hD : D.Ok) (ha : D.acts + 4 < 4611686018427387904) (hoff : D.off = false) (hnew : (aget D.files kNew).isSome = true) :
    Calls Tryz.prog 35 #[.pointer (some ⟨b, 0, none⟩)] w (OpenPost b mb (openP D) w) := by
  have L := Lib.hid (list_names b mb D (w.alloc boxE) (h.alloc _) hD)
  have C := Lib.hid (fun A c W (hn : NamesAt W (.slice A D.files.length c) D) => contains_names A c D kNew W hD hn)
  have lb := h.lt
  have lm := h.map.lt
  have nb : b ≠ w.heap.size := by omega
  have nm : mb ≠ w.heap.size := by omega
  have HDB := Lib.hid (fun W (ho : Only (fun _ => False) (w.alloc boxE) W) => (h.alloc boxE).only ho (fun h => h) (fun h => h))
  have HR : openP D = if (D.remove kNew).1 ≠ 0 then ⟨none, [], [], (D.remove kNew).1, (D.remove kNew).2⟩ else open2 (D.remove kNew).2 := by rw [openP_on hoff, if_pos hnew]
  rw [hnew] at C
  have k0 := Dk.remove_ok hD (by omega) kNew
  have q0 := (Dk.remove_acts D kNew).2
  have of0 := remove_on (D := D) hoff (k := kNew)
  have RM := fun W (hW : DiskIs W b mb D) => remove_any b mb D kNew W hW hD
  generalize D.remove kNew = R0 at *
  obtain ⟨n0, D0⟩ := R0
  dsimp only at HR k0 q0 RM of0
  have RMH := Lib.hid RM
  by_cases hn0 : n0 = 0
  · subst hn0
    have hof := of0 rfl
    rw [if_neg (by simp)] at HR
    rw [HR]
    have F0 := Lib.hid (fun x W => failed_none x W)
    have S := Lib.hid (fun W (hW : DiskIs W b mb D0) => snap_any b mb D0 W hW k0 hof)
    have G := Lib.hid (fun q h0 h1 W (hW : DiskIs W b mb D0) => log_use b mb D0 q W hW k0 (by omega) hof h0 h1)
    have hfl : ((fileP D0 kLog).getD []).length ≤ 65536 := by rw [← bs_fileV, bs_len]; exact file_size k0 kLog
    clear hD ha hoff hnew RM k0 q0 of0 hof HR h
    cases hsn : snapOf (fileP D0 kSnap) with
    | none =>
      have HE := Lib.hid (show (open2 D0).err = 110 ∧ (open2 D0).disk = D0 from by unfold open2; rw [hsn]; exact ⟨rfl, rfl⟩)
      rw [hsn] at S
      clear hsn hfl
      go_enter Tryz.func35, Tryz.ntmps35
      go_wp2_with (first
        | (go_at_call 15; refine L.out.mono ?_; rintro ev w1 ⟨A, c, rfl, hn, hb⟩; have HN := Lib.hid hn; have HB := Lib.hid hb; clear hn hb)
        | (go_at_call 40; refine (C.out A c _ HN.out).mono ?_; rintro ev w2 ⟨rfl, hb⟩; have HO2 := Lib.hid (show Only (Own b mb) (w.alloc boxE) w2 from Only.of_below (HB.out.trans (hb.mono HB.out.size))); have HD2 := Lib.hid (HDB.out _ (Only.of_below (HB.out.trans (hb.mono HB.out.size)))); clear hb)
        | (go_at_call 42; refine (RMH.out _ HD2.out).mono ?_; rintro ev w3 ⟨rfl, hd, ho⟩; have HD3 := Lib.hid hd; have HO3 := Lib.hid (HO2.out.trans ho); clear hd ho)
        | (go_at_call 41; refine (F0.out _ _).mono ?_; rintro ev w4 ⟨rfl, hb⟩; have HDX := Lib.hid (HD3.out.only (Only.of_below (S := fun _ => False) hb) (fun h => h) (fun h => h)); have HOX := Lib.hid (HO3.out.then_below hb); clear hb)
        | (go_at_call 65; refine (S.out _ HDX.out).mono ?_; rintro ev w5 ⟨hb, cs, rfl⟩; have HO5 := Lib.hid (HOX.out.then_below hb); have HD5 := Lib.hid (HDX.out.only (Only.of_below (S := fun _ => False) hb) (fun h => h) (fun h => h)); obtain ⟨z0, z1, y0, y1, zl⟩ := boxE_trk lb lm HO5.out; clear hb; unfold chV entV ent0))
      exact bodyPost_ret (v := .tuple #[entV ent0, .slice none 0 0, chV 110 (.one cs)]) (by simp [results, Tryz.results35, go_sem, zl, entV, ent0, ba, chV, (box_read z0 z1 (.int .i64 0) (.string ⟨#[]⟩)).1, (box_read z0 z1 (.int .i64 0) (.string ⟨#[]⟩)).2.2]) rfl ⟨_, _, _, rfl, openQ_err HE.out.1 HE.out.2 (by decide) (only_box (boxE_only HO5.out) zl _ _) (HD5.out.box nb nm _ _)⟩
    | some x =>
      have hbd := snapOf_bound hsn
      have HQ := Lib.hid (fun (w1 w' : World) (v ev : Value) hsz h01 h => openQ_log (b := b) (mb := mb) (D0 := D0) (w := w) (w0 := w) (w1 := w1) (w' := w') (v := v) (ev := ev) (show snapOf (fileP D0 kSnap) = some (x.1, x.2) from hsn) hbd.1 hbd.2 hfl (Only.refl _ _) hsz h01 h)
      have GG := Lib.hid (fun W (hW : DiskIs W b mb D0) => G.out x.1 hbd.1 hbd.2 W hW)
      rw [hsn] at S
      clear hsn hfl hbd G
      obtain ⟨q, text⟩ := x
      dsimp only at HQ GG
      go_enter Tryz.func35, Tryz.ntmps35
      go_wp2_with (first
        | (go_at_call 15; refine L.out.mono ?_; rintro ev w1 ⟨A, c, rfl, hn, hb⟩; have HN := Lib.hid hn; have HB := Lib.hid hb; clear hn hb)
        | (go_at_call 40; refine (C.out A c _ HN.out).mono ?_; rintro ev w2 ⟨rfl, hb⟩; have HO2 := Lib.hid (show Only (Own b mb) (w.alloc boxE) w2 from Only.of_below (HB.out.trans (hb.mono HB.out.size))); have HD2 := Lib.hid (HDB.out _ (Only.of_below (HB.out.trans (hb.mono HB.out.size)))); clear hb)
        | (go_at_call 42; refine (RMH.out _ HD2.out).mono ?_; rintro ev w3 ⟨rfl, hd, ho⟩; have HD3 := Lib.hid hd; have HO3 := Lib.hid (HO2.out.trans ho); clear hd ho)
        | (go_at_call 41; refine (F0.out _ _).mono ?_; rintro ev w4 ⟨rfl, hb⟩; have HDX := Lib.hid (HD3.out.only (Only.of_below (S := fun _ => False) hb) (fun h => h) (fun h => h)); have HOX := Lib.hid (HO3.out.then_below hb); clear hb)
        | (go_at_call 65; refine (S.out _ HDX.out).mono ?_; rintro ev w5 ⟨hb, rfl⟩; have HO5 := Lib.hid (HOX.out.then_below hb); have HD5 := Lib.hid (HDX.out.only (Only.of_below (S := fun _ => False) hb) (fun h => h) (fun h => h)); obtain ⟨z0, z1, y0, y1, zl⟩ := boxE_trk lb lm HO5.out; have RD := Lib.hid (box_read z0 z1 (.int .i64 q) (.string (ba text))); clear hb; unfold entV)
        | (go_at_call 66; refine (GG.out _ (HD5.out.box nb nm _ _)).mono ?_; rintro ev w6 ⟨v6, ev6, rfl, hp⟩; have HP := Lib.hid hp; have HX := Lib.hid (boxE_own (b := b) (mb := mb) RD.out.2.1 RD.out.2.2 (by go_simp) (by go_simp) (by simp; exact zl) lb lm hp.1); clear hp))
      exact bodyPost_ret (v := .tuple #[entV (q, text), v6, ev6]) (by simp [results, Tryz.results35, go_sem, entV, HX.out.1, HX.out.2.1]) rfl ⟨(q, text), _, _, rfl, HQ.out _ _ _ _ (by simp; omega) (only_box (boxE_only HO5.out) zl _ _) HP.out⟩
  · have HE := Lib.hid (show (openP D).err = n0 ∧ (openP D).disk = D0 from by rw [HR, if_pos hn0]; exact ⟨rfl, rfl⟩)
    have F := Lib.hid (fun x W => failed_some x n0 hn0 W)
    have HN0 := Lib.hid hn0
    clear hD ha hoff hnew RM k0 q0 of0 HR h hn0
    generalize openP D = R at *
    go_enter Tryz.func35, Tryz.ntmps35
    go_wp2_with (first
      | (go_at_call 15; refine L.out.mono ?_; rintro ev w1 ⟨A, c, rfl, hn, hb⟩; have HN := Lib.hid hn; have HB := Lib.hid hb; clear hn hb)
      | (go_at_call 40; refine (C.out A c _ HN.out).mono ?_; rintro ev w2 ⟨rfl, hb⟩; have HO2 := Lib.hid (show Only (Own b mb) (w.alloc boxE) w2 from Only.of_below (HB.out.trans (hb.mono HB.out.size))); have HD2 := Lib.hid (HDB.out _ (Only.of_below (HB.out.trans (hb.mono HB.out.size)))); clear hb)
      | (go_at_call 42; refine (RMH.out _ HD2.out).mono ?_; rintro ev w3 ⟨rfl, hd, ho⟩; have HD3 := Lib.hid hd; have HO3 := Lib.hid (HO2.out.trans ho); clear hd ho)
      | (go_at_call 41; refine (F.out _ _).mono ?_; rintro ev w4 ⟨rfl, hb⟩; have HD4 := Lib.hid (HD3.out.only (Only.of_below (S := fun _ => False) hb) (fun h => h) (fun h => h)); have HO4 := Lib.hid (HO3.out.then_below hb); obtain ⟨z0, z1, y0, y1, zl⟩ := boxE_trk lb lm HO4.out; clear hb; unfold chV))
    exact bodyPost_ret (v := .tuple #[entV ent0, .slice none 0 0, chV n0 (.one ⟨#[99, 108, 101, 97, 110]⟩)]) (by simp [results, Tryz.results35, go_sem, zl, entV, ent0, ba, chV, z0, z1]) rfl ⟨_, _, _, rfl, openQ_err HE.out.1 HE.out.2 HN0.out (boxE_only HO4.out) HD4.out⟩
theorem open_any (b mb : Nat) (D : Dk) (w : World) (h : DiskIs w b mb D) (hD : D.Ok) (ha : D.acts + 4 < 4611686018427387904) (hoff : D.off = false) :
    Calls Tryz.prog 35 #[.pointer (some ⟨b, 0, none⟩)] w (OpenPost b mb (openP D) w) := by
  cases hn : aget D.files kNew with
  | none => exact open_none b mb D w h hD ha hoff hn
  | some z => exact open_new b mb D w h hD ha hoff (by rw [hn]; rfl)
end Go.Proofs.YtlmnmjnmilaipaaGreatDoor

/- Layer 11: raw entries opened; laid walked. -/
import Derived.Test.YtlmnmjnmilaipaaGreatDoorWr3
import Derived.Test.YtlmnmjnmilaipaaGreatDoorWalAg
import Derived.Deep.RegionHeld3
import Derived.Test.YtlmnmjnmilaipaaGreatDoorWsA
import Derived.Deep.RegionWith
set_option linter.unusedVariables false
set_option linter.unusedSimpArgs false
namespace Go.Proofs.YtlmnmjnmilaipaaGreatDoor.Rk
open Go Go.ChangeShapes Go.WideShapes Go.ChangeAt Go.RowKit Go.WideMaps Go.WideElems Go.Deep PR Go.Proofs.YtlmnmjnmilaipaaGreatDoorW.PrintWords

/-- A raw entry. -/
structure EntV where
  n : Int
  text : ByteArray
def EntV.cells (x : EntV) : List Value := [.int .i64 x.n, .string x.text]
structure EntV.Ok (x : EntV) : Prop where
  n : i64ok x.n
  text : x.text.size ≤ maxLen
structure ReadsE (w : World) (A : Option Addr) (xs : List EntV) : Prop where
  cell : ∀ i, (hi : i < xs.length) → ∃ bk off, A = some ⟨bk, off, none⟩ ∧ ∀ j v, xs[i].cells[j]? = some v → w.cell? ⟨bk, off + i * 2 + j, none⟩ = some v
  ok : ∀ x ∈ xs, x.Ok
  len : xs.length ≤ maxLen
theorem list2 {α : Type} : ∀ (l : List α), l.length = 2 → ∃ a b, l = [a, b]
  | [a, b], _ => ⟨a, b, rfl⟩
section
variable {H : Type} {enc : TypeId × Value → H} {W : World} {v : Value} {d : DataW H} {p : List MemPlace} {base base' : Nat} {sp : Nat → Bool} {held : Bool}
theorem open_ent {fuel : Nat} {cs : List Value} {x : DataW H × List MemPlace} (h : DataW.trod enc Tryz.prog W base sp held fuel 98 cs = some x) : ∃ y : EntV, cs = y.cells ∧ y.Ok := by
  obtain ⟨xs, n, rfl, _, hl, hxl, hf⟩ := DataW.trod_struct Tryz.underlying98 h
  have hl4 : cs.length = 2 := by rw [hl]; kernel_rfl
  obtain ⟨c0, c1, rfl⟩ := list2 cs hl4
  have hx : ∀ i, i < 2 → ∃ z, xs[i]? = some z := fun i hi => ⟨xs[i]'(by rw [hxl]; exact hi), List.getElem?_eq_getElem _⟩
  have k3 : Tryz.prog.cellsOf 3 = 1 := by kernel_rfl
  have k9 : Tryz.prog.cellsOf 9 = 1 := by kernel_rfl
  have g0 : DataW.trod enc Tryz.prog W base sp held n 3 (([c0, c1].drop 0).take (Tryz.prog.cellsOf 3)) = xs[0]? := hf 0 _ rfl
  have g1 : DataW.trod enc Tryz.prog W base sp held n 9 (([c0, c1].drop 1).take (Tryz.prog.cellsOf 9)) = xs[1]? := hf 1 _ rfl
  obtain ⟨z0, e0⟩ := hx 0 (by decide)
  obtain ⟨z1, e1⟩ := hx 1 (by decide)
  rw [e0] at g0
  rw [e1] at g1
  simp only [k3, List.drop_zero, List.take_succ_cons, List.take_zero] at g0
  simp only [k9, List.drop_zero, List.drop_succ_cons, List.take_succ_cons, List.take_zero] at g1
  obtain ⟨n0, q0, _, w0⟩ := DataW.trod_int Tryz.underlying3 g0
  obtain ⟨s1, q1, _, w1⟩ := DataW.trod_string Tryz.underlying9 g1
  simp only [List.cons.injEq, and_true] at q0 q1
  subst q0 q1
  exact ⟨⟨n0, s1⟩, rfl, bounds_i64 w0, w1⟩
set_option maxRecDepth 100000 in
theorem open_readsE (hval : Value.okWide Tryz.prog W .any base 38 v) (h : DataW.Trod enc Tryz.prog W base' sp held 38 v d p) :
    ∃ A c xs, v = .slice A xs.length c ∧ ReadsE W A xs := by
  obtain ⟨a0, len0, cap0, rfl⟩ := okWide_slice Tryz.underlying38 hval
  obtain ⟨fuel, hf⟩ := h
  have k4 : Tryz.prog.cellsOf 98 = 2 := by kernel_rfl
  rcases open_slice Tryz.underlying38 hf with ⟨hcs, _⟩ | ⟨a, len, cap, m, n, D, Pl, hcs, hb, hl, hm, hmm, _, hel⟩
  · simp [Value.cells] at hcs
    obtain ⟨rfl, rfl, rfl⟩ := hcs
    exact ⟨none, 0, [], rfl, fun i hi => absurd hi (Nat.not_lt_zero _), (fun x hx => by cases hx), Nat.zero_le _⟩
  · simp [Value.cells] at hcs
    obtain ⟨rfl, rfl, rfl⟩ := hcs
    have hlm : len0 ≤ m := by rw [hmm]; split <;> omega
    rw [k4] at hel
    have hsp : 0 < len0 → a.spot = none := by
      intro h0
      obtain ⟨cs, h1, h2⟩ := hel 0 (by omega)
      obtain ⟨y, rfl, hy⟩ := open_ent h2
      unfold World.cells? at h1
      split at h1
      · obtain ⟨h3, h4⟩ := mapM_some _ h1
        have hc0 := h4 0 (by simp)
        simp only [List.getElem_range, EntV.cells, List.getElem?_cons_zero] at hc0
        have hs1 := spot_none hc0
        unfold Addr.add at hs1
        simpa using hs1
      · cases h1
    have hx : ∀ i, i < len0 → ∃ y : EntV, y.Ok ∧ ∀ j v, y.cells[j]? = some v → W.cell? ⟨a.block, a.off + i * 2 + j, none⟩ = some v := by
      intro i hi
      have hs := hsp (by omega)
      obtain ⟨cs, h1, h2⟩ := hel i (by omega)
      obtain ⟨y, rfl, hy⟩ := open_ent h2
      unfold World.cells? at h1
      split at h1
      · obtain ⟨h3, h4⟩ := mapM_some _ h1
        refine ⟨y, hy, fun j v hj => ?_⟩
        have hj6 : j < 2 := by have := (List.getElem?_eq_some_iff.1 hj).1; simpa [EntV.cells] using this
        have := h4 j (by simpa using hj6)
        rw [List.getElem_range, hj, add_eq hs, add_eq rfl] at this
        exact this
      · cases h1
    obtain ⟨xs, hl1, hall⟩ := choose_list _ len0 hx
    refine ⟨some a, cap0, xs, by rw [hl1], ⟨fun i hi => ?_, fun x hx => ?_, by omega⟩⟩
    · have hs := hsp (by omega)
      refine ⟨a.block, a.off, ?_, (hall i hi).2⟩
      obtain ⟨b, o, s⟩ := a
      simp only at hs
      subst hs
      rfl
    · obtain ⟨i, hi, rfl⟩ := List.getElem_of_mem hx
      exact (hall i hi).1
end
theorem ent_at {w : World} {A : Option Addr} {xs : List EntV} (h : ReadsE w A xs) {i : Nat} (hi : i < xs.length) : ∃ bk off, A = some ⟨bk, off, none⟩ ∧ bk < w.heap.size ∧ ∀ W, Below w.heap.size w W → W.cell? ⟨bk, off + i * 2, none⟩ = some (.int .i64 xs[i].n) ∧ W.cell? ⟨bk, off + i * 2 + 1, none⟩ = some (.string xs[i].text) := by
  obtain ⟨bk, off, e, hc⟩ := h.cell i hi
  have h0 := hc 0 _ rfl
  have hlt := World.block_lt_of_cell? w _ h0
  exact ⟨bk, off, e, hlt, fun W hb => ⟨(hb.cell (p := ⟨bk, off + i * 2, none⟩) hlt).trans h0, (hb.cell (p := ⟨bk, off + i * 2 + 1, none⟩) hlt).trans (hc 1 _ rfl)⟩⟩
theorem rlay_some (s : ByteArray) (hs : s.size ≤ 210) (w : World) : ∃ f : ByteArray, ∃ e : Int, f.size ≤ 300 ∧ Calls Tryz.prog 52 #[.string s] w fun ev w' => ev = .returned (.tuple #[.string f, .int .i64 e]) ∧ Below w.heap.size w w' := by
  refine ⟨_, _, ?_, rlay_any s (by omega) w⟩
  rw [ba_size]
  unfold layP
  rw [if_neg (by rw [bs_len]; omega)]
  show (frameP (bs s)).length ≤ 300
  have := frame_len (p := bs s) (by rw [bs_len]; omega)
  rw [bs_len] at this
  omega
theorem rnum_some (n : Int) (h1 : -9223372036854775808 ≤ n) (h2 : n ≤ 9223372036854775807) (w : World) : ∃ s : ByteArray, s.size ≤ 10 ∧ Calls Tryz.prog 53 #[.int .i64 n] w fun e w' => e = .returned (.string s) ∧ Below w.heap.size w w' := by
  obtain ⟨s, hs, h⟩ := rNum_any n h1 h2
  exact ⟨s, hs, billetref01_Num.calls 20 n s w h⟩
set_option maxHeartbeats 8000000 in
set_option maxRecDepth 100000 in
theorem laid_any (A : Option Addr) (c : Nat) (xs : List EntV) (wz w : World) (hx : ReadsE wz A xs) (hb : Below wz.heap.size wz w) :
    Calls Tryz.prog 22 #[.slice A xs.length c] w fun e w' => ∃ s : ByteArray, s.size ≤ 3600 ∧ e = .returned (.string s) ∧ Below w.heap.size w w' := by
  have HX := Lib.hid hx
  have HZ := Lib.hid hb
  have hxl := hx.len
  unfold maxLen at hxl
  clear hx hb
  go_enter Tryz.func22, Tryz.ntmps22
  go_wp2
  go_loopw [3, 4] (fun sv i wr => ∃ (k : Nat) (st : ByteArray), i = .int .i64 k ∧ sv = .string st ∧ k ≤ xs.length ∧ k ≤ 12 ∧ st.size ≤ 300 * k ∧ Below w.heap.size w wr) (fun _ i _ => 12 - (intOf i).toNat)
  case atStart => exact ⟨0, ⟨#[]⟩, rfl, rfl, Nat.zero_le _, Nat.zero_le _, Nat.zero_le _, Below.refl _ _⟩
  case round =>
    obtain ⟨k, st, rfl, rfl, hk1, hk2, hst, hb⟩ := hrel
    have HB := Lib.hid hb
    have HZ1 := Lib.hid (HZ.out.trans (hb.mono HZ.out.size))
    clear hb
    by_cases hlt : k < xs.length ∧ k < 12
    · obtain ⟨hlt1, hlt2⟩ := hlt
      obtain ⟨bk, off, rfl, hbk, hcell⟩ := ent_at HX.out hlt1
      have HCELL := Lib.hid hcell
      have hok := HX.out.ok _ (List.getElem_mem hlt1)
      have htx := hok.text
      have hn := hok.n
      unfold maxLen at htx
      clear hcell hok
      generalize xs[k] = x at *
      obtain ⟨n, text⟩ := x
      dsimp only at HCELL htx hn
      obtain ⟨e0, e1⟩ := HCELL.out wr HZ1.out
      have hbkw : bk < wr.heap.size := Nat.lt_of_lt_of_le hbk HZ1.out.size
      obtain ⟨hn0, hn1⟩ := hn
      obtain ⟨sn, hsn, hfn⟩ := rNum_any n hn0 hn1
      have NM := Lib.hid (fun W => billetref01_Num.calls 20 n sn W hfn)
      have hmn : 0 ≤ (min (text.size : Int) 200) ∧ (min (text.size : Int) 200) ≤ text.size := by omega
      have hcs : (text.extract 0 (min (text.size : Int) 200).toNat).size ≤ 200 := by rw [ByteArray.size_extract]; omega
      have hps : (sn ++ text.extract 0 (min (text.size : Int) 200).toNat).size ≤ 210 := by rw [ByteArray.size_append]; omega
      have LY := Lib.hid (fun W => rlay_any (sn ++ text.extract 0 (min (text.size : Int) 200).toNat) (by omega) W)
      have hfl : (ba (layP (bs (sn ++ text.extract 0 (min (text.size : Int) 200).toNat))).1).size ≤ 300 := by
        rw [ba_size]
        unfold layP
        rw [if_neg (by rw [bs_len]; omega)]
        show (frameP _).length ≤ 300
        have := frame_len (p := bs (sn ++ text.extract 0 (min (text.size : Int) 200).toNat)) (by rw [bs_len]; omega)
        rw [bs_len] at this
        omega
      have hps2 : sn.size + (min (text.size : Int) 200).toNat ≤ 210 := by omega
      have hq19 : ¬ 9223372036854775807 < sn.size + (min (text.size : Int) 200).toNat := by omega
      have hq20 : (9223372036854775807 < sn.size + (min (text.size : Int) 200).toNat) = False := eq_false hq19
      have hq21 : decide (9223372036854775807 < sn.size + (min (text.size : Int) 200).toNat) = false := decide_eq_false hq19
      clear hfn hps
      generalize layP (bs (sn ++ text.extract 0 (min (text.size : Int) 200).toNat)) = ly at *
      obtain ⟨fr, fe⟩ := ly
      dsimp only at LY hfl
      have HBd := Lib.hid (show Below w.heap.size w wr.drew from ⟨HB.out.os, HB.out.tape, HB.out.output, HB.out.size, HB.out.block⟩)
      go_wp2
      go_region_held3 (fun W => W.cell? ⟨bk, off + k * 2, none⟩ = some (.int .i64 n) ∧ W.cell? ⟨bk, off + k * 2 + 1, none⟩ = some (.string text)) (first | exact ⟨f0, f1⟩ | exact ⟨d0, d1⟩ | exact ⟨e0, e1⟩ | go_keep)
        (first
        | (go_at_call 53; refine (NM.out _).mono ?_; rintro ev w1 ⟨rfl, hb⟩; have HB1 := Lib.hid (HBd.out.trans (hb.mono HBd.out.size)); obtain ⟨d0, d1⟩ := HCELL.out w1 (HZ.out.trans (HB1.out.mono HZ.out.size)); have hbk1 := Nat.lt_of_lt_of_le hbk (HZ.out.trans (HB1.out.mono HZ.out.size)).size; clear hb)
        | (go_at_call 52; refine (LY.out _).mono ?_; rintro ev w2 ⟨rfl, hb⟩; have HB2 := Lib.hid (HB1.out.trans (hb.mono HB1.out.size)); obtain ⟨f0, f1⟩ := HCELL.out w2 (HZ.out.trans (HB2.out.mono HZ.out.size)); have hbk2 := Nat.lt_of_lt_of_le hbk (HZ.out.trans (HB2.out.mono HZ.out.size)).size; clear hb))
      all_goals go_wp2
      all_goals go_roundw
      all_goals first
        | exact ⟨k + 1, st ++ ba fr, by go_num, rfl, by omega, by omega, by rw [ByteArray.size_append]; omega, by first | exact HB2.out | exact below_drewN HB2.out _⟩
        | (simp [intOf]; omega)
    · by_cases hl1 : k < xs.length
      · have hk12 : 12 ≤ k := by omega
        clear hlt
        go_wp2
        go_ret
        exact ⟨st, by omega, rfl, HB.out⟩
      · have hk12 : xs.length ≤ k := by omega
        clear hlt hl1
        go_wp2
        go_ret
        exact ⟨st, by omega, rfl, HB.out⟩
end Go.Proofs.YtlmnmjnmilaipaaGreatDoor.Rk
/- Layer 11: two disks without logs; put (of WalFound) walked. -/
set_option linter.unusedVariables false
set_option linter.unusedSimpArgs false
namespace Go.Proofs.YtlmnmjnmilaipaaGreatDoor.Rk
open Go Go.RowKit PR Go.Proofs.YtlmnmjnmilaipaaGreatDoorW.PrintWords

/-- A box of one cell. -/
def BoxP (w : World) (x : Nat) (v : Value) (t : TypeId) : Prop := w.heap[x]? = some (.cells #[v] t)
theorem BoxP.cell {w : World} {x : Nat} {v : Value} {t : TypeId} (h : BoxP w x v t) : w.cell? ⟨x, 0, none⟩ = some v ∧ x < w.heap.size := by
  unfold BoxP at h
  exact ⟨by simp [World.cell?, h], (Array.getElem?_eq_some_iff.1 h).1⟩
theorem BoxP.below {w w' : World} {x : Nat} {v : Value} {t : TypeId} (h : BoxP w x v t) (hb : Below w.heap.size w w') : BoxP w' x v t := (hb.block x h.cell.2).trans h
theorem BoxP.made (w : World) (v : Value) (t : TypeId) : BoxP (w.alloc (.cells #[v] t)) w.heap.size v t := (MapKept.heap_alloc w _).1
/-- Both disks in one state, in boxes. -/
structure Pre (w0 w : World) (b mb base rb dx qx : Nat) (D : Dk) : Prop where
  s : Dsk w0 w b mb D
  r : RDk w base rb D
  hb : w0.heap.size ≤ base
  bx : BoxP w dx (.pointer (some ⟨b, 0, none⟩)) 24
  rx : BoxP w qx (.pointer (some ⟨rb, 0, none⟩)) 39
theorem Pre.below {w0 w w' : World} {b mb base rb dx qx : Nat} {D : Dk} (h : Pre w0 w b mb base rb dx qx D) (hb : Below w.heap.size w w') : Pre w0 w' b mb base rb dx qx D := ⟨h.s.below hb, h.r.below hb, h.hb, h.bx.below hb, h.rx.below hb⟩
/-- The code's disk has gone on. -/
structure PreH (w0 w : World) (b mb base rb dx qx : Nat) (D D2 : Dk) : Prop where
  s : Dsk w0 w b mb D
  r : RDk w base rb D2
  hb : w0.heap.size ≤ base
  bx : BoxP w dx (.pointer (some ⟨b, 0, none⟩)) 24
  rx : BoxP w qx (.pointer (some ⟨rb, 0, none⟩)) 39
theorem Pre.own {w0 w w' : World} {b mb base rb dx qx : Nat} {D D' : Dk} (h : Pre w0 w b mb base rb dx qx D) (hd : DiskIs w' b mb D') (ho : Only (Own b mb) w w') : PreH w0 w' b mb base rb dx qx D' D :=
  ⟨h.s.upd ho hd, h.r.own h.s.dk ho, h.hb, (ho.block dx h.bx.cell.2 (own_not h.s.dk h.bx (by decide))).trans h.bx, (ho.block qx h.rx.cell.2 (own_not h.s.dk h.rx (by decide))).trans h.rx⟩
theorem PreH.rs {w0 w w' : World} {b mb base rb dx qx : Nat} {D D' : Dk} (h : PreH w0 w b mb base rb dx qx D' D) (hd : RDk w' base rb D') (ho : Only (RS w base rb) w w') : Pre w0 w' b mb base rb dx qx D' :=
  ⟨Dsk.rs h.s h.r h.hb ho, hd, h.hb, (ho.block dx h.bx.cell.2 (rs_not h.r h.bx (by decide) (by decide))).trans h.bx, (ho.block qx h.rx.cell.2 (rs_not h.r h.rx (by decide) (by decide))).trans h.rx⟩
section
variable {w0 w : World} {b mb base rb dx qx : Nat} {D : Dk}
theorem pa1 {nm s : ByteArray} {x : Int} {D' : Dk} (e : D.append nm s = (x, D')) (h : Pre w0 w b mb base rb dx qx D) (hD : D.Ok) (hn : nm.size ≤ maxLen) (hs : s.size ≤ maxLen) :
    Calls Tryz.prog 20 #[.pointer (some ⟨b, 0, none⟩), .string nm, .string s] w fun e w' => e = .returned (.int .i64 x) ∧ PreH w0 w' b mb base rb dx qx D' D := by
  have := append_any b mb D nm s w h.s.dk hD hn hs
  rw [e] at this
  exact this.mono fun ev w' ⟨h1, h2, h3⟩ => ⟨h1, h.own h2 h3⟩
theorem pa2 {nm s : ByteArray} {x : Int} {D' : Dk} (e : D.append nm s = (x, D')) (h : PreH w0 w b mb base rb dx qx D' D) (hD : D.Ok) (hn : nm.size ≤ maxLen) (hs : s.size ≤ maxLen) :
    Calls Tryz.prog 21 #[.pointer (some ⟨rb, 0, none⟩), .string nm, .string s] w fun e w' => e = .returned (.int .i64 x) ∧ Pre w0 w' b mb base rb dx qx D' := by
  have := rd_append (nm := nm) (s := s) h.r hD hn hs
  rw [e] at this
  exact this.mono fun ev w' ⟨h1, h2, h3⟩ => ⟨h1, h.rs h2 h3⟩
end
set_option maxHeartbeats 4000000 in
set_option maxRecDepth 100000 in
theorem put_any (w0 w : World) (b mb base rb dx qx : Nat) (D : Dk) (nm s : ByteArray) (h : Pre w0 w b mb base rb dx qx D) (hD : D.Ok) (hn : nm.size ≤ maxLen) (hs : s.size ≤ maxLen) :
    Calls Tryz.prog 19 #[.string nm, .string s, .pointer (some ⟨dx, 0, none⟩), .pointer (some ⟨qx, 0, none⟩)] w fun e w' => e = .returned (.tuple #[]) ∧ Pre w0 w' b mb base rb dx qx (D.append nm s).2 := by
  obtain ⟨x, D', e⟩ : ∃ x D', D.append nm s = (x, D') := ⟨_, _, rfl⟩
  rw [e]
  have E := Lib.hid e
  have H0 := Lib.hid h
  have HD := Lib.hid hD
  have HN := Lib.hid hn
  have HS := Lib.hid hs
  obtain ⟨c1, l1⟩ := h.bx.cell
  obtain ⟨c2, l2⟩ := h.rx.cell
  clear h hD hn hs e
  go_enter Tryz.func19, Tryz.ntmps19
  go_wp2_with (first
    | (go_at_call 20; refine (pa1 E.out H0.out HD.out HN.out HS.out).mono ?_; rintro ev w1 ⟨rfl, hh⟩; have H1 := Lib.hid hh; obtain ⟨d1, k1⟩ := hh.bx.cell; obtain ⟨d2, k2⟩ := hh.rx.cell; clear hh)
    | (go_at_call 21; refine (pa2 E.out H1.out HD.out HN.out HS.out).mono ?_; rintro ev w2 ⟨rfl, hh⟩; have H2 := Lib.hid hh; clear hh))
  go_end0
  exact ⟨rfl, H2.out⟩
section
variable {w0 w : World} {b mb base rb dx qx : Nat} {D : Dk}
/-- The code has found a log; the document not yet. -/
structure FoundP (w0 w : World) (b mb base rb dx qx : Nat) (D D2 : Dk) (bw q : Nat) : Prop where
  h : PreH w0 w b mb base rb dx qx D D2
  s : Sit w0 w bw b mb D ⟨(q : Nat), 0⟩
theorem po1 {q' : Nat} {t : Bs} {l : List Bs} {D' : Dk} (e : openP D = ⟨some ((q' : Nat) : Int), t, l, 0, D'⟩) (h : Pre w0 w b mb base rb dx qx D) (hD : D.Ok) (ha : D.acts ≤ 1000) :
    Calls Tryz.prog 11 #[.pointer (some ⟨b, 0, none⟩)] w fun e w' => ∃ bw' A c, e = .returned (.tuple #[.pointer (some ⟨bw', 0, none⟩), .string (ba t), .slice A l.length c, .int .i64 0]) ∧ FoundP w0 w' b mb base rb dx qx D' D bw' q' ∧ Texts w' 0 (.slice A l.length c) l :=
  (open_by e h.s hD (by omega)).mono fun ev w' ⟨bw', A, c, h1, h2, _, h3, h4⟩ => ⟨bw', A, c, h1, ⟨h.own h2.dk h4, h2⟩, Kd.R_lower h3 (Nat.zero_le _)⟩
/-- Both logs, and the boxes. -/
structure BothP (w0 w : World) (bw b mb base rb rw dx qx : Nat) (D : Dk) (W : Wl) : Prop where
  h : Both w0 w bw b mb base rb rw D W
  p : Pre w0 w b mb base rb dx qx D
theorem BothP.below {w' : World} {bw rw : Nat} {W : Wl} (h : BothP w0 w bw b mb base rb rw dx qx D W) (hb : Below w.heap.size w w') : BothP w0 w' bw b mb base rb rw dx qx D W := ⟨h.h.below hb, h.p.below hb⟩
theorem po2 {q' : Nat} {t : Bs} {l : List Bs} {D' : Dk} {bw' : Nat} {A1 : Option Addr} {c1 : Nat} (e : openP D = ⟨some ((q' : Nat) : Int), t, l, 0, D'⟩) (h : FoundP w0 w b mb base rb dx qx D' D bw' q') (ht : Texts w 0 (.slice A1 l.length c1) l) (hD : D.Ok) (ha : D.acts ≤ 1000) :
    Calls Tryz.prog 23 #[.pointer (some ⟨rb, 0, none⟩)] w fun e w' => ∃ rw' A c, e = .returned (.tuple #[.pointer (some ⟨rw', 0, none⟩), .string (ba t), .slice A l.length c, .int .i64 0]) ∧ BothP w0 w' bw' b mb base rb rw' dx qx D' ⟨(q' : Nat), 0⟩ ∧ Texts w' 0 (.slice A1 l.length c1) l ∧ Texts w' 0 (.slice A l.length c) l := by
  refine (ropen_any base rb D w h.h.r hD (by omega)).mono fun ev w' ⟨ho, hd, hp⟩ => ?_
  rw [e] at hd hp
  rcases hp with ⟨hn, _⟩ | ⟨_, rw', v, q2, hq, hrw, he, hw, hr⟩
  · exact absurd rfl hn
  · obtain rfl := Option.some.inj hq
    obtain ⟨A, c, rfl⟩ := Kd.R_slice hr
    rw [List.length_map] at hr he
    exact ⟨rw', A, c, he, ⟨⟨Sit.rs h.s h.h.r h.h.hb ho, ⟨hd, hw⟩, h.h.hb, Nat.le_trans h.s.be.size hrw⟩, h.h.rs hd ho⟩, row_RS ht h.h.r ho, Kd.R_lower hr (Nat.zero_le _)⟩
theorem pe1 {n : Int} {D' : Dk} (e : openP D = ⟨none, [], [], n, D'⟩) (hn : n ≠ 0) (h : Pre w0 w b mb base rb dx qx D) (hD : D.Ok) (ha : D.acts ≤ 1000) :
    Calls Tryz.prog 11 #[.pointer (some ⟨b, 0, none⟩)] w fun e w' => e = .returned (.tuple #[.pointer none, .string ⟨#[]⟩, .slice none 0 0, .int .i64 n]) ∧ PreH w0 w' b mb base rb dx qx D' D :=
  (open_err (n := n) (D' := D') (by rw [e]) (by rw [e]) hn h.s hD (by omega)).mono fun ev w' ⟨h1, h2, h3⟩ => ⟨h1, h.own h2.dk h3⟩
theorem pe2 {n : Int} {D' : Dk} (e : openP D = ⟨none, [], [], n, D'⟩) (hn : n ≠ 0) (h : PreH w0 w b mb base rb dx qx D' D) (hD : D.Ok) (ha : D.acts ≤ 1000) :
    Calls Tryz.prog 23 #[.pointer (some ⟨rb, 0, none⟩)] w fun e w' => e = .returned (.tuple #[.pointer none, .string ⟨#[]⟩, .slice none 0 0, .int .i64 n]) ∧ Pre w0 w' b mb base rb dx qx D' := by
  refine (ropen_any base rb D w h.r hD (by omega)).mono fun ev w' ⟨ho, hd, hp⟩ => ?_
  rw [e] at hd hp
  rcases hp with ⟨_, he⟩ | ⟨h0, _⟩
  · exact ⟨he, h.rs hd ho⟩
  · exact absurd h0 hn
end
/-- What put leaves, plainly. -/
theorem pl_put {k : Nat} {D : Dk} (h : PlD k D 0) (hk : k ≤ 100) (nm s : ByteArray) : PlD (k + 1) (D.append nm s).2 0 := by
  have ha := h.acts
  have a1 := Dk.append_acts D nm s
  exact ⟨Dk.append_ok h.ok (by omega) nm s, by omega, h.seq⟩
end Go.Proofs.YtlmnmjnmilaipaaGreatDoor.Rk
/- Layer 11: boxes of WalFound. -/
set_option linter.unusedVariables false
set_option linter.unusedSimpArgs false
namespace Go.Proofs.YtlmnmjnmilaipaaGreatDoor.Rk
open Go Go.RowKit PR Go.Proofs.YtlmnmjnmilaipaaGreatDoorW.PrintWords

theorem Pre.drew {w0 w : World} {b mb base rb dx qx : Nat} {D : Dk} (h : Pre w0 w b mb base rb dx qx D) : Pre w0 w.drew b mb base rb dx qx D := h.below ⟨rfl, rfl, rfl, Nat.le_refl _, fun _ _ => rfl⟩
theorem RDk.made2 (w : World) (base : Nat) (hb : base ≤ w.heap.size) : RDk (w.alloc (.cells #[.slice none 0 0, .int .i64 0, .int .i64 0, .bool false] 86)) base w.heap.size Dk.new := ⟨_, _, RIs.made w base hb⟩
/-- The code's log has gone on, the document's not yet; the boxes. -/
structure HalfP (w0 w : World) (bw b mb base rb rw dx qx : Nat) (D D2 : Dk) (W W2 : Wl) : Prop where
  h : Half w0 w bw b mb base rb rw D D2 W W2
  bx : BoxP w dx (.pointer (some ⟨b, 0, none⟩)) 24
  rx : BoxP w qx (.pointer (some ⟨rb, 0, none⟩)) 39
structure DoneP (w0 w : World) (bw b mb base rb rw dx qx : Nat) (D : Dk) (W : Wl) : Prop where
  h : Both w0 w bw b mb base rb rw D W
  bx : BoxP w dx (.pointer (some ⟨b, 0, none⟩)) 24
  rx : BoxP w qx (.pointer (some ⟨rb, 0, none⟩)) 39
theorem rt_not {w : World} {base rb rw k : Nat} {D : Dk} {W : Wl} {cs : Array Value} {t : TypeId} (d : RLog w base rb rw D W) (h : w.heap[k]? = some (.cells cs t)) (ht : t ≠ 86) (ht2 : t ≠ 92) (ht3 : t ≠ 105) : ¬ RT w base rb rw k := by
  rintro (hk | rfl)
  · exact rs_not d.dk h ht ht2 hk
  · exact ht3 (ty_ne h d.wl)
section
variable {w0 w : World} {bw b mb base rb rw q dx qx : Nat} {er : Int} {D : Dk}
theorem pap1 {t : ByteArray} {x er' : Int} {q' : Nat} {D' : Dk} (e : appendP ⟨q, er⟩ D (bs t) = (x, ⟨(q' : Nat), er'⟩, D')) (h : BothP w0 w bw b mb base rb rw dx qx D ⟨(q : Nat), er⟩) (hD : D.Ok) (ha : D.acts ≤ 1000) (hq : q ≤ 1099511627776) (ht : t.size ≤ 90000) :
    Calls Tryz.prog 17 #[.pointer (some ⟨bw, 0, none⟩), .string t] w fun e w' => e = .returned (.int .i64 x) ∧ HalfP w0 w' bw b mb base rb rw dx qx D' D ⟨(q' : Nat), er'⟩ ⟨(q : Nat), er⟩ :=
  (append_by e h.h.s hD (by omega) (by omega) ht).mono fun ev w' ⟨h1, h2, h3⟩ => ⟨h1, h.h.prog h2 h3, (h3.block dx h.p.bx.cell.2 (wown_not h.h.s.dk h.h.s.wl h.p.bx (by decide) (by decide))).trans h.p.bx, (h3.block qx h.p.rx.cell.2 (wown_not h.h.s.dk h.h.s.wl h.p.rx (by decide) (by decide))).trans h.p.rx⟩
theorem pap2 {t : ByteArray} {x er' : Int} {q' : Nat} {D' : Dk} (e : appendP ⟨q, er⟩ D (bs t) = (x, ⟨(q' : Nat), er'⟩, D')) (h : HalfP w0 w bw b mb base rb rw dx qx D' D ⟨(q' : Nat), er'⟩ ⟨(q : Nat), er⟩) (hD : D.Ok) (ha : D.acts ≤ 1000) (hq : q ≤ 1099511627776) (ht : t.size ≤ 90000) :
    Calls Tryz.prog 25 #[.pointer (some ⟨rw, 0, none⟩), .string t] w fun e w' => e = .returned (.int .i64 x) ∧ DoneP w0 w' bw b mb base rb rw dx qx D' ⟨(q' : Nat), er'⟩ := by
  have := rappend_log base rb rw q er D t w h.h.r hD (by omega) hq ht
  rw [e] at this
  exact this.mono fun ev w' ⟨h1, h2, h3⟩ => ⟨h1, h.h.ref h2 h3, (h3.block dx h.bx.cell.2 (rt_not h.h.r h.bx (by decide) (by decide) (by decide))).trans h.bx, (h3.block qx h.rx.cell.2 (rt_not h.h.r h.rx (by decide) (by decide) (by decide))).trans h.rx⟩
theorem BothP.drew (h : BothP w0 w bw b mb base rb rw dx qx D ⟨(q : Nat), er⟩) : BothP w0 w.drew bw b mb base rb rw dx qx D ⟨(q : Nat), er⟩ := h.below ⟨rfl, rfl, rfl, Nat.le_refl _, fun _ _ => rfl⟩
end
theorem pre_new {wa w1 w2 : World} (T0 : Dsk wa w1 (wa.heap.size + 1) wa.heap.size Dk.new) (hs1 : w1.heap.size = wa.heap.size + 2)
    (hw2 : w2 = (w1.alloc (.cells #[.pointer (some ⟨wa.heap.size + 1, 0, none⟩)] 24)).alloc (.cells #[.slice none 0 0, .int .i64 0, .int .i64 0, .bool false] 86)) :
    Pre wa (w2.alloc (.cells #[.pointer (some ⟨wa.heap.size + 2 + 1, 0, none⟩)] 39)) (wa.heap.size + 1) wa.heap.size wa.heap.size (wa.heap.size + 2 + 1) (wa.heap.size + 2) (wa.heap.size + 4) Dk.new ∧ w2.heap.size = wa.heap.size + 4 ∧ w2.cell? ⟨wa.heap.size + 2, 0, none⟩ = some (.pointer (some ⟨wa.heap.size + 1, 0, none⟩)) := by
  have hsA : (w1.alloc (.cells #[.pointer (some ⟨wa.heap.size + 1, 0, none⟩)] 24)).heap.size = wa.heap.size + 3 := by rw [World.size_alloc, hs1]
  have hs2 : w2.heap.size = wa.heap.size + 4 := by rw [hw2, World.size_alloc, hsA]
  have b1 : Below w1.heap.size w1 (w1.alloc (.cells #[.pointer (some ⟨wa.heap.size + 1, 0, none⟩)] 24)) := below_alloc (Below.refl _ _) _
  have b2 : Below (w1.alloc (.cells #[.pointer (some ⟨wa.heap.size + 1, 0, none⟩)] 24)).heap.size (w1.alloc (.cells #[.pointer (some ⟨wa.heap.size + 1, 0, none⟩)] 24)) w2 := by rw [hw2]; exact below_alloc (Below.refl _ _) _
  have b3 : Below w2.heap.size w2 (w2.alloc (.cells #[.pointer (some ⟨wa.heap.size + 2 + 1, 0, none⟩)] 39)) := below_alloc (Below.refl _ _) _
  have r2 : RDk w2 wa.heap.size (wa.heap.size + 2 + 1) Dk.new := by
    have := RDk.made2 (w1.alloc (.cells #[.pointer (some ⟨wa.heap.size + 1, 0, none⟩)] 24)) wa.heap.size (by omega)
    rw [← hw2, hsA] at this
    exact this
  have x2 : BoxP w2 (wa.heap.size + 2) (.pointer (some ⟨wa.heap.size + 1, 0, none⟩)) 24 := by
    have := (BoxP.made w1 (.pointer (some ⟨wa.heap.size + 1, 0, none⟩)) 24).below b2
    rwa [hs1] at this
  exact ⟨⟨((T0.below b1).below b2).below b3, r2.below b3, Nat.le_refl _, x2.below b3, by have := BoxP.made w2 (.pointer (some ⟨wa.heap.size + 2 + 1, 0, none⟩)) 39; rwa [hs2] at this⟩, hs2, x2.cell.1⟩
theorem put2_any {w0 w : World} {b mb base rb dx qx k : Nat} {D : Dk} {nm s : ByteArray} (hpl : PlD k D 0) (hk : k ≤ 100) (h : Pre w0 w b mb base rb dx qx D) (hn : nm.size ≤ maxLen) (hs : s.size ≤ maxLen) :
    Calls Tryz.prog 19 #[.string nm, .string s, .pointer (some ⟨dx, 0, none⟩), .pointer (some ⟨qx, 0, none⟩)] w fun e w' => e = .returned (.tuple #[]) ∧ ∃ D', PlD (k + 1) D' 0 ∧ Pre w0 w' b mb base rb dx qx D' :=
  (put_any w0 w b mb base rb dx qx D nm s h hpl.ok hn hs).mono fun ev w' ⟨h1, h2⟩ => ⟨h1, _, pl_put hpl hk nm s, h2⟩
end Go.Proofs.YtlmnmjnmilaipaaGreatDoor.Rk

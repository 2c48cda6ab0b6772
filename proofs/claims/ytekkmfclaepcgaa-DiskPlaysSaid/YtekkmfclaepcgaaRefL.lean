/- Restart of the document's own disk. -/
import Derived.Test.YtekkmfclaepcgaaRefK
set_option linter.unusedVariables false
namespace Go.Proofs.Ytekkmfclaepcgaa
open Go.RowKit

theorem RIs.drew {w : World} {base b : Nat} {D : Dk} {l : Fl} {v : Value} (h : RIs w base b D l v) : RIs w.drew base b D l v := ⟨h.rel, h.blk, h.row, h.le⟩
/-- A file is written in its place. -/
theorem RIs.set3 {w : World} {base b g c : Nat} {D : Dk} {l : Fl} {m : Nat} (h : RIs w base b D l (.slice (some ⟨g, 0, none⟩) m c)) {i : Nat} {nm : ByteArray} {z : ByteArray × Nat} (hi : l[i]? = some (nm, z)) (z' : ByteArray × Nat) :
    RIs (((w.setCell ⟨g, i * 3, none⟩ (.string nm)).setCell ⟨g, i * 3 + 1, none⟩ (.string z'.1)).setCell ⟨g, i * 3 + 2, none⟩ (.int .i64 z'.2)) base b { D with files := aput D.files nm z' } (l.set i (nm, z')) (.slice (some ⟨g, 0, none⟩) m c) := by
  have hil := (List.getElem?_eq_some_iff.1 hi).1
  have hr := h.row
  have hm : m = l.length := by
    rcases hr.2 with ⟨hv, _⟩ | ⟨g', cap, cur, hv, _⟩
    · cases hv
    · cases hv; rfl
  subst hm
  refine ⟨h.rel.set hi _, ?_, ?_, h.le⟩
  · have := (h.row_ne g rfl).1
    rw [Below.heap_setCell _ _ _ _ (fun e => this (by simpa using e.symm)), Below.heap_setCell _ _ _ _ (fun e => this (by simpa using e.symm)), Below.heap_setCell _ _ _ _ (fun e => this (by simpa using e.symm))]
    exact h.blk
  · rw [List.length_set, flat_set3 l i nm z'.1 z'.2 hil]
    exact ownsRow_set (ownsRow_set (ownsRow_set hr _ (by omega)) _ (by omega)) _ (by omega)

set_option maxHeartbeats 4000000 in
set_option maxRecDepth 100000 in
theorem rrestart_any (base b : Nat) (D : Dk) (l : Fl) (v : Value) (A : Option Addr) (cp : Nat) (keep : List Int) (w : World) (h : RIs w base b D l v) (hD : D.Ok) (hA : ∀ ad, A = some ad → 0 < keep.length → ad.block < base) (hkp : ReadsI w A keep) :
    Calls Try.prog 29 #[.pointer (some ⟨b, 0, none⟩), .slice A keep.length cp] w fun e w' => e = .returned (.tuple #[]) ∧ (∃ l' v', RIs w' base b (D.restart keep) l' v') ∧ Only (base ≤ ·) w w' := by
  have hml := hD.many
  have hlf := h.rel.len hD.nodup
  have hfo : FOk D.files := fun p hp => ⟨hD.bytes p hp, hD.synced p hp⟩
  have hnames := h.rel.names hD.nodup
  have hkl := hkp.len
  unfold maxLen at hkl
  have lb := h.lt
  have hle := h.le
  obtain ⟨A0, c, rfl, hl, _⟩ := h.file
  unfold maxLen at hl
  have hset : D.restart keep = { D with files := refiles keep D.snames D.files l.length, armed := 0, off := false } := by rw [hlf]; rfl
  rw [hset]
  have HN := Lib.hid hnames
  have Hh := Lib.hid h
  have HK := Lib.hid hkp
  have HA := Lib.hid hA
  have HF := Lib.hid hfo
  clear hD h hkp hA hfo hnames hset
  go_enter Try.func29, Try.ntmps29
  go_wp2
  go_loopw [4] (fun ix wr => ∃ (k : Nat) (lk : Fl), k ≤ l.length ∧ ix = .int .i64 k ∧ lk.length = l.length ∧ lk.map (·.1) = l.map (·.1) ∧ RIs wr base b { D with files := refiles keep D.snames D.files k } lk (.slice A0 l.length c) ∧ Only (base ≤ ·) w wr) (fun ix _ => l.length - (intOf ix).toNat)
  case atStart => exact ⟨0, l, Nat.zero_le _, rfl, rfl, rfl, Hh.out, Only.refl _ _⟩
  case round =>
    obtain ⟨k, lk, hk, rfl, hlk, hmk, hd, ho⟩ := hrel
    have d0 := hd.c0
    have d1 := hd.lt
    by_cases hlt : k < l.length
    · have hlt' : k < lk.length := by omega
      obtain ⟨A1, c1, hv, _, hcell⟩ := hd.file
      injection hv with e1 _ e3
      subst e1 e3
      obtain ⟨g, rfl, hown, hgl, hfr, x1, x2, x3⟩ := hcell k hlt'
      have hgb := (hd.row_ne g hown).2.1
      generalize hp : lk[k] = p at *
      obtain ⟨nm, zb, zn⟩ := p
      simp only at x1 x2 x3
      have hp' : lk[k]? = some (nm, zb, zn) := by rw [List.getElem?_eq_getElem hlt', hp]
      have hag : aget (refiles keep D.snames D.files k) nm = some (zb, zn) := by
        rw [← hd.rel.same]
        exact aget_at hd.rel.sorted.nodup hp'
      have hzk := refiles_ok (keep := keep) (names := D.snames) HF.out k _ (aget_mem hag)
      have hnm : D.snames.getD k ⟨#[]⟩ = nm := by
        rw [← HN.out, ← hmk, List.getD_eq_getElem?_getD, List.getElem?_map, hp']
        rfl
      have hre : refiles keep D.snames D.files (k + 1) = aput (refiles keep D.snames D.files k) nm (cutTo (zb, zn) (keep.getD k 0)) := by
        show restep _ _ _ _ = _
        unfold restep
        rw [hnm, hag]
      have hmk2 := map_set_same lk k (nm, zb, zn) (nm, cutTo (zb, zn) (keep.getD k 0)) hp' rfl
      have f0 := hfr (k * 3)
      have f1 := hfr (k * 3 + 1)
      have f2 := hfr (k * 3 + 2)
      have hset := hd.set3 hp' (cutTo (zb, zn) (keep.getD k 0))
      obtain ⟨hz1, hz2⟩ := hzk
      simp only at hz1 hz2
      have hml2 : (lk.set k (nm, cutTo (zb, zn) (keep.getD k 0))).length = l.length := by simpa using hlk
      generalize hL : lk.set k (nm, cutTo (zb, zn) (keep.getD k 0)) = lk' at *
      have HS := Lib.hid hset
      have HM := Lib.hid (hmk2.trans hmk)
      have HOk := Lib.hid ho
      have RE := Lib.hid hre
      clear hset hmk2 hmk hnm hag hp' hd hre hcell hfr hp hL hlt'
      by_cases hkk : k < keep.length
      · obtain ⟨bk, off, rfl, hbk1, hbk2⟩ := HK.out.at k hkk
        have hkc := (HOk.out.cell (p := ⟨bk, off + k, none⟩) hbk1 (by have := HA.out _ rfl (by omega); simp at this ⊢; omega)).trans hbk2
        have hwf := HK.out.wf (keep.getD k 0) (by rw [List.getD_eq_getElem?_getD, List.getElem?_eq_getElem hkk]; exact List.getElem_mem hkk)
        generalize hcv : keep.getD k 0 = cv at *
        clear hcv
        have lk := World.block_lt_of_cell? wr _ hkc
        simp only at lk
        clear hbk1 hbk2
        obtain ⟨hwf1, hwf2⟩ := hwf
        by_cases hneg : cv < 0
        · obtain ⟨R, hRt, hR0, hR1, hcut⟩ := cutTo_neg zb zn cv hneg hz2
          have hre := RE.out
          rw [hcut] at hre HS
          have RE2 := Lib.hid hre
          clear hcut hre ho
          go_wp2
          go_region
          go_wp2
          go_region
          go_wp2
          go_roundw
          case rel => exact ⟨k + 1, lk', by omega, by go_num, hml2, HM.out, by rw [RE2.out]; exact ((RIs.alloc HS.out _).drew).drew, ((((HOk.out.setCell (p := ⟨g, k * 3, none⟩) (fun _ => hgb) _).setCell (p := ⟨g, k * 3 + 1, none⟩) (fun _ => hgb) _).setCell (p := ⟨g, k * 3 + 2, none⟩) (fun _ => hgb) _).alloc _).drew.drew⟩
          case measure => simp [intOf]; omega
        · obtain ⟨R, hRt, hR0, hR1, hcut⟩ := cutTo_pos zb zn cv (by omega) hz2
          have hre := RE.out
          rw [hcut] at hre HS
          have RE2 := Lib.hid hre
          clear hcut hre ho
          go_wp2
          go_region
          go_wp2
          go_region
          go_wp2
          go_roundw
          case rel => exact ⟨k + 1, lk', by omega, by go_num, hml2, HM.out, by rw [RE2.out]; exact ((RIs.alloc HS.out _).drew).drew, ((((HOk.out.setCell (p := ⟨g, k * 3, none⟩) (fun _ => hgb) _).setCell (p := ⟨g, k * 3 + 1, none⟩) (fun _ => hgb) _).setCell (p := ⟨g, k * 3 + 2, none⟩) (fun _ => hgb) _).alloc _).drew.drew⟩
          case measure => simp [intOf]; omega
      · have hcv : keep.getD k 0 = 0 := by rw [List.getD_eq_getElem?_getD, List.getElem?_eq_none (by omega)]; rfl
        rw [hcv] at RE HS
        clear hcv
        have hcut := cutTo_zero zb zn hz2
        have hre := RE.out
        rw [hcut] at hre HS
        have RE2 := Lib.hid hre
        clear hcut hre ho
        go_wp2
        go_region
        go_wp2
        go_region
        go_wp2
        go_roundw
        case rel => exact ⟨k + 1, lk', by omega, by go_num, hml2, HM.out, by rw [RE2.out]; exact ((RIs.alloc HS.out _).drew).drew, ((((HOk.out.setCell (p := ⟨g, k * 3, none⟩) (fun _ => hgb) _).setCell (p := ⟨g, k * 3 + 1, none⟩) (fun _ => hgb) _).setCell (p := ⟨g, k * 3 + 2, none⟩) (fun _ => hgb) _).alloc _).drew.drew⟩
        case measure => simp [intOf]; omega
    · obtain rfl : k = l.length := by omega
      have f2 := hd.fr 2
      have f3 := hd.fr 3
      have c2 := hd.c2
      have c3 := hd.c3
      have HP := Lib.hid (RIs.armed' (hd.offed false) 0)
      have HQ := Lib.hid ((ho.setCell (p := ⟨b, 3, none⟩) (fun _ => hle) (.bool false)).setCell (p := ⟨b, 2, none⟩) (fun _ => hle) (.int .i64 0))
      clear hd ho
      go_wp2
      go_end0
      exact ⟨rfl, ⟨lk, _, by first | exact HP.out | (rw [← hlf]; exact HP.out)⟩, HQ.out⟩
end Go.Proofs.Ytekkmfclaepcgaa

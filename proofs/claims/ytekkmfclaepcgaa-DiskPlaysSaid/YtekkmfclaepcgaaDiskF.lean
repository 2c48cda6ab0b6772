/- Rename, Remove, Read and Arm on a disk. -/
import Derived.Test.YtekkmfclaepcgaaDiskE
set_option linter.unusedVariables false
namespace Go.Proofs.Ytekkmfclaepcgaa
open Go.RowKit

set_option maxHeartbeats 1000000 in
set_option maxRecDepth 100000 in
theorem remove1 (b mb bd bn : Nat) (name : ByteArray) (z : ByteArray × Nat) (m : List (ByteArray × (ByteArray × Nat))) (w : World)
    (hd : w.cell? ⟨bd, 0, none⟩ = some (.pointer (some ⟨b, 0, none⟩))) (hn : w.cell? ⟨bn, 0, none⟩ = some (.string name)) (h0 : w.cell? ⟨b, 0, none⟩ = some (.map (some mb))) (hM : MapIs .string .string fv w mb m) :
    Calls Try.prog 47 #[.agg #[.string z.1, .int .i64 z.2], .pointer (some ⟨bd, 0, none⟩), .pointer (some ⟨bn, 0, none⟩)] w fun e w' =>
      e = .returned (.int .i64 0) ∧ MapIs .string .string fv w' mb (adel m name) ∧ Only (· = mb) w w' := by
  obtain ⟨zb, zn⟩ := z
  simp only
  have l1 := World.block_lt_of_cell? w _ hd
  have l2 := World.block_lt_of_cell? w _ hn
  have l4 := World.block_lt_of_cell? w _ h0
  simp only at l1 l2 l4
  obtain ⟨o, hu, hM'⟩ := run_delete_mapIs (P := Try.prog) keyK_string Try.underlying53 Try.underlying9 ((hM.alloc (.cells #[.string zb, .int .i64 zn] 58)).drew) name 9 0
  have HO := Lib.hid (show Only (· = mb) w (putM (w.alloc (.cells #[.string zb, .int .i64 zn] 58)).drew mb o) from (((Only.refl (· = mb) w).alloc _).drew.putM (fun _ => rfl) o))
  have HM := Lib.hid hM'
  clear hM' hM
  go_enter Try.func47, Try.ntmps47
  go_wp2
  go_region
  go_wp2
  go_ret
  exact ⟨rfl, HM.out, HO.out⟩

set_option maxHeartbeats 1000000 in
theorem remove_any (b mb : Nat) (D : Dk) (name : ByteArray) (w : World) (h : DiskIs w b mb D) (hD : D.Ok) :
    Calls Try.prog 26 #[.pointer (some ⟨b, 0, none⟩), .string name] w (DPost b mb w (D.remove name)) := by
  have lb := h.lt
  have HW := (show Only (Own b mb) w ((w.alloc (.cells #[.pointer (some ⟨b, 0, none⟩)] 23)).alloc (.cells #[.string name] 9)) from ((Only.refl _ w).alloc _).alloc _)
  have HC : Calls Try.prog 40 #[.pointer (some ⟨b, 0, none⟩), .string name, .func (.func 47) #[] #[.pointer (some ⟨w.heap.size, 0, none⟩), .pointer (some ⟨w.heap.size + 1, 0, none⟩)]]
      ((w.alloc (.cells #[.pointer (some ⟨b, 0, none⟩)] 23)).alloc (.cells #[.string name] 9)) (DPost b mb w (D.remove name)) := by
    refine with_D b mb D name _ _ _ ((h.alloc _).alloc _) hD.acts _ (fun args w1 => by go_simp) ?_ ?_ ?_
    · intro ht w' h' ho
      exact dpost (by simp [Dk.remove, ht]) (by simpa [Dk.remove, ht] using h') (HW.trans (ho.mono fun k _ => own_l k))
    · intro ht hg w' h' ho
      exact dpost (by simp [Dk.remove, ht, hg]) (by simpa [Dk.remove, ht, hg] using h') (HW.trans (ho.mono fun k _ => own_l k))
    · intro ht z hg w' h' ho
      have sz := ho.size
      simp only [World.size_alloc] at sz
      have c1 := (ho.cell (p := ⟨w.heap.size, 0, none⟩) (by simp; omega) (by simp; omega)).trans (show _ = some (Value.pointer (some ⟨b, 0, none⟩)) by go_simp)
      have c2 := (ho.cell (p := ⟨w.heap.size + 1, 0, none⟩) (by simp) (by simp; omega)).trans (show _ = some (Value.string name) by go_simp)
      refine (remove1 b mb _ _ name z D.tick.files w' c1 c2 h'.c0 h'.map).mono ?_
      rintro e w2 ⟨rfl, hm, ho2⟩
      refine ⟨_, rfl, dpost (by simp [Dk.remove, ht, hg]) ?_ (HW.trans (ho.trans' ho2 (fun k _ => own_l k) (fun k _ => own_r k)))⟩
      have := h'.put ho2 hm
      simpa [Dk.remove, ht, hg, tick_files] using this
  have H := Lib.hid HC
  clear HC h HW
  go_enter Try.func26, Try.ntmps26
  go_wp2_with (go_at_call 40; refine H.out.mono ?_; rintro e w' ⟨rfl, hq, ho⟩)
  go_ret
  exact dpost rfl hq ho

set_option maxHeartbeats 1000000 in
set_option maxRecDepth 100000 in
theorem rename1_bad (b mb bt bd bf : Nat) (to frm : ByteArray) (z : ByteArray × Nat) (m : List (ByteArray × (ByteArray × Nat))) (w : World) (hl : to.size ≤ maxLen) (hbad : isNm to = false)
    (ht : w.cell? ⟨bt, 0, none⟩ = some (.string to)) (hM : MapIs .string .string fv w mb m) :
    Calls Try.prog 42 #[.agg #[.string z.1, .int .i64 z.2], .pointer (some ⟨bt, 0, none⟩), .pointer (some ⟨bd, 0, none⟩), .pointer (some ⟨bf, 0, none⟩)] w fun e w' =>
      e = .returned (.int .i64 1) ∧ MapIs .string .string fv w' mb m ∧ Only (· = mb) w w' := by
  have h1' : to.size = 0 ∨ 12 < to.size := by simp [isNm] at hbad; omega
  have l1 := World.block_lt_of_cell? w _ ht
  simp only at l1
  have HM := Lib.hid (hM.alloc (.cells #[.string z.1, .int .i64 z.2] 58))
  clear hM hbad
  go_enter Try.func42, Try.ntmps42
  go_wp2_with (go_at_call 37; refine (isName_no to hl h1' _).mono ?_; rintro e w' ⟨rfl, rfl⟩)
  go_ret
  exact ⟨rfl, HM.out, (Only.refl _ w).alloc _⟩

set_option maxHeartbeats 1000000 in
set_option maxRecDepth 100000 in
theorem rename1_ok (b mb bt bd bf : Nat) (to frm : ByteArray) (z : ByteArray × Nat) (m : List (ByteArray × (ByteArray × Nat))) (w : World) (hgood : isNm to = true)
    (ht : w.cell? ⟨bt, 0, none⟩ = some (.string to)) (hd : w.cell? ⟨bd, 0, none⟩ = some (.pointer (some ⟨b, 0, none⟩))) (hf : w.cell? ⟨bf, 0, none⟩ = some (.string frm)) (h0 : w.cell? ⟨b, 0, none⟩ = some (.map (some mb))) (hM : MapIs .string .string fv w mb m) :
    Calls Try.prog 42 #[.agg #[.string z.1, .int .i64 z.2], .pointer (some ⟨bt, 0, none⟩), .pointer (some ⟨bd, 0, none⟩), .pointer (some ⟨bf, 0, none⟩)] w fun e w' =>
      e = .returned (.int .i64 0) ∧ MapIs .string .string fv w' mb (aput (adel m frm) to z) ∧ Only (· = mb) w w' := by
  obtain ⟨h1a, h1b⟩ : 0 < to.size ∧ to.size ≤ 12 := by simpa [isNm] using hgood
  clear hgood
  obtain ⟨zb, zn⟩ := z
  simp only
  have ne : ∀ (p : Addr) (v : Value), w.cell? p = some v → p.block ≠ mb := by
    rintro p v hc e
    obtain ⟨es, c, h1, _⟩ := hM
    rw [← e] at h1
    simp [World.cell?, h1] at hc
  have l1 := World.block_lt_of_cell? w _ hd
  have l2 := World.block_lt_of_cell? w _ ht
  have l3 := World.block_lt_of_cell? w _ hf
  have l4 := World.block_lt_of_cell? w _ h0
  have lm := hM.lt
  simp only at l1 l2 l3 l4
  obtain ⟨o, hu, hM'⟩ := run_delete_mapIs (P := Try.prog) keyK_string Try.underlying53 Try.underlying9 ((hM.alloc (.cells #[.string zb, .int .i64 zn] 58)).drew) frm 9 0
  have e0 : (putM (w.alloc (.cells #[.string zb, .int .i64 zn] 58)).drew mb o).cell? ⟨w.heap.size, 0, none⟩ = some (.string zb) := (cell_putM (by show w.heap.size ≠ mb; omega) o).trans (by go_simp)
  have e0' : (putM (w.alloc (.cells #[.string zb, .int .i64 zn] 58)).drew mb o).cell? ⟨w.heap.size, 1, none⟩ = some (.int .i64 zn) := (cell_putM (by show w.heap.size ≠ mb; omega) o).trans (by go_simp)
  have e1 : (putM (w.alloc (.cells #[.string zb, .int .i64 zn] 58)).drew mb o).cell? ⟨bd, 0, none⟩ = some (.pointer (some ⟨b, 0, none⟩)) := (cell_putM (ne _ _ hd) o).trans (by go_simp)
  have e2 : (putM (w.alloc (.cells #[.string zb, .int .i64 zn] 58)).drew mb o).cell? ⟨bt, 0, none⟩ = some (.string to) := (cell_putM (ne _ _ ht) o).trans (by go_simp)
  have e4 : (putM (w.alloc (.cells #[.string zb, .int .i64 zn] 58)).drew mb o).cell? ⟨b, 0, none⟩ = some (.map (some mb)) := (cell_putM (ne _ _ h0) o).trans (by go_simp)
  obtain ⟨o2, hu2, hM2⟩ := run_update_mapIs (P := Try.prog) keyK_string Try.underlying53 Try.underlying9 hM'.drew to (zb, zn)
  simp only [fv] at hu2
  have HO := Lib.hid (show Only (· = mb) w (putM (putM (w.alloc (.cells #[.string zb, .int .i64 zn] 58)).drew mb o).drew mb o2) from ((((Only.refl (· = mb) w).alloc _).drew.putM (fun _ => rfl) o).drew.putM (fun _ => rfl) o2))
  have HM := Lib.hid hM2
  clear hM' hM2 hM ne
  go_enter Try.func42, Try.ntmps42
  go_wp2_with (go_at_call 37; refine (isName_yes to h1a h1b _).mono ?_; rintro e w' ⟨rfl, rfl⟩)
  go_region
  go_wp2
  go_region
  go_wp2
  go_ret
  exact ⟨rfl, HM.out, HO.out⟩

set_option maxHeartbeats 1000000 in
theorem rename_any (b mb : Nat) (D : Dk) (frm to : ByteArray) (w : World) (h : DiskIs w b mb D) (hD : D.Ok) (hl : to.size ≤ maxLen) :
    Calls Try.prog 20 #[.pointer (some ⟨b, 0, none⟩), .string frm, .string to] w (DPost b mb w (D.rename frm to)) := by
  have lb := h.lt
  have HW := (show Only (Own b mb) w (((w.alloc (.cells #[.pointer (some ⟨b, 0, none⟩)] 23)).alloc (.cells #[.string frm] 9)).alloc (.cells #[.string to] 9)) from (((Only.refl _ w).alloc _).alloc _).alloc _)
  have HC : Calls Try.prog 40 #[.pointer (some ⟨b, 0, none⟩), .string frm, .func (.func 42) #[] #[.pointer (some ⟨w.heap.size + 2, 0, none⟩), .pointer (some ⟨w.heap.size, 0, none⟩), .pointer (some ⟨w.heap.size + 1, 0, none⟩)]]
      (((w.alloc (.cells #[.pointer (some ⟨b, 0, none⟩)] 23)).alloc (.cells #[.string frm] 9)).alloc (.cells #[.string to] 9)) (DPost b mb w (D.rename frm to)) := by
    refine with_D b mb D frm _ _ _ (((h.alloc _).alloc _).alloc _) hD.acts _ (fun args w1 => by go_simp) ?_ ?_ ?_
    · intro ht w' h' ho
      exact dpost (by simp [Dk.rename, ht]) (by simpa [Dk.rename, ht] using h') (HW.trans (ho.mono fun k _ => own_l k))
    · intro ht hg w' h' ho
      exact dpost (by simp [Dk.rename, ht, hg]) (by simpa [Dk.rename, ht, hg] using h') (HW.trans (ho.mono fun k _ => own_l k))
    · intro ht z hg w' h' ho
      have sz := ho.size
      simp only [World.size_alloc] at sz
      have c1 := (ho.cell (p := ⟨w.heap.size, 0, none⟩) (by simp; omega) (by simp; omega)).trans (show _ = some (Value.pointer (some ⟨b, 0, none⟩)) by go_simp)
      have c2 := (ho.cell (p := ⟨w.heap.size + 1, 0, none⟩) (by simp) (by simp; omega)).trans (show _ = some (Value.string frm) by go_simp)
      have c3 := (ho.cell (p := ⟨w.heap.size + 2, 0, none⟩) (by simp) (by simp; omega)).trans (show _ = some (Value.string to) by go_simp)
      cases hb : isNm to with
      | false =>
        refine (rename1_bad b mb _ _ _ to frm z D.tick.files w' hl hb c3 h'.map).mono ?_
        rintro e w2 ⟨rfl, hm, ho2⟩
        refine ⟨_, rfl, dpost (by simp [Dk.rename, ht, hg, hb]) ?_ (HW.trans (ho.trans' ho2 (fun k _ => own_l k) (fun k _ => own_r k)))⟩
        have := h'.put ho2 hm
        rw [tick_files, same_files] at this
        simpa [Dk.rename, ht, hg, hb] using this
      | true =>
        refine (rename1_ok b mb _ _ _ to frm z D.tick.files w' hb c3 c1 c2 h'.c0 h'.map).mono ?_
        rintro e w2 ⟨rfl, hm, ho2⟩
        refine ⟨_, rfl, dpost (by simp [Dk.rename, ht, hg, hb]) ?_ (HW.trans (ho.trans' ho2 (fun k _ => own_l k) (fun k _ => own_r k)))⟩
        have := h'.put ho2 hm
        simpa [Dk.rename, ht, hg, hb, tick_files] using this
  have H := Lib.hid HC
  clear HC h HW
  go_enter Try.func20, Try.ntmps20
  go_wp2_with (go_at_call 40; refine H.out.mono ?_; rintro e w' ⟨rfl, hq, ho⟩)
  go_ret
  exact dpost rfl hq ho

def RPost (w : World) (r : ByteArray × Int) (e : Ending) (w' : World) : Prop := e = .returned (.tuple #[.string r.1, .int .i64 r.2]) ∧ Only (fun _ => False) w w'
theorem rpost {w w' : World} {r : ByteArray × Int} {e : Ending} (h1 : e = .returned (.tuple #[.string r.1, .int .i64 r.2])) (h3 : Only (fun _ => False) w w') : RPost w r e w' := ⟨h1, h3⟩

set_option maxHeartbeats 1000000 in
set_option maxRecDepth 100000 in
theorem read_any (b mb : Nat) (D : Dk) (name : ByteArray) (w : World) (h : DiskIs w b mb D) :
    Calls Try.prog 13 #[.pointer (some ⟨b, 0, none⟩), .string name] w (RPost w (D.read name)) := by
  have lb := h.lt
  have c0 := h.c0
  have c3 := h.c3
  cases hoff : D.off with
  | true =>
    rw [hoff] at c3
    have hr : D.read name = (⟨#[]⟩, 100) := by simp [Dk.read, hoff]
    rw [hr]
    clear h hr hoff
    go_enter Try.func13, Try.ntmps13
    go_wp2
    go_ret2
    exact rpost rfl (Only.refl _ _)
  | false =>
    rw [hoff] at c3
    cases hg : aget D.files name with
    | none =>
      have hr : D.read name = (⟨#[]⟩, 101) := by simp [Dk.read, hoff, hg]
      have hk := run_look_none keyK_string Try.underlying53 Try.underlying9 (zeroDF w) h.map hg true
      simp only [if_true] at hk
      rw [hr]
      clear h hr hoff hg
      go_enter Try.func13, Try.ntmps13
      go_wp2
      all_goals (go_ret2; exact rpost rfl ((Only.refl _ w).alloc _))
    | some z =>
      obtain ⟨zb, zn⟩ := z
      have hr : D.read name = (zb, 0) := by simp [Dk.read, hoff, hg]
      have hk := run_look_some (P := Try.prog) keyK_string Try.underlying53 Try.underlying9 h.map hg true
      simp only [if_true, fv] at hk
      rw [hr]
      clear h hr hoff hg
      go_enter Try.func13, Try.ntmps13
      go_wp2
      all_goals (go_ret2; exact rpost rfl ((Only.refl _ w).alloc _))

theorem DiskIs.armed' {w : World} {b mb : Nat} {D : Dk} (h : DiskIs w b mb D) (n : Nat) : DiskIs (w.setCell ⟨b, 2, none⟩ (.int .i64 n)) b mb { D with armed := n } := by
  refine ⟨?_, h.map.setCell _ _⟩
  rw [blk_setCell h.blk _]
  simp

set_option maxHeartbeats 1000000 in
set_option maxRecDepth 100000 in
theorem arm_any (b mb : Nat) (D : Dk) (n : Int) (w : World) (h : DiskIs w b mb D) (hD : D.Ok) (h0 : -9223372036854775808 ≤ n) (h1 : n ≤ 9223372036854775807) :
    Calls Try.prog 18 #[.pointer (some ⟨b, 0, none⟩), .int .i64 n] w (DPost b mb w (D.arm n)) := by
  have c1 := h.c1
  have c2 := h.c2
  have f2 := h.fr 2
  have ha := hD.acts
  by_cases hneg : n < 0
  · have H := Lib.hid (dpost (b := b) (mb := mb) (w := w) (r := D.arm n) (e := .returned (.int .i64 1)) (by simp [Dk.arm, hneg]) (by simpa [Dk.arm, hneg] using h) (Only.refl _ _))
    clear h hD c1 c2 ha
    go_enter Try.func18, Try.ntmps18
    go_wp2
    all_goals go_ret
    all_goals exact H.out
  · by_cases hbig : 1099511627776 < n
    · have H := Lib.hid (dpost (b := b) (mb := mb) (w := w) (r := D.arm n) (e := .returned (.int .i64 1)) (by simp [Dk.arm, hneg, hbig]) (by simpa [Dk.arm, hneg, hbig] using h) (Only.refl _ _))
      clear h hD c1 c2 ha
      go_enter Try.func18, Try.ntmps18
      go_wp2
      all_goals go_ret
      all_goals exact H.out
    · by_cases hpos : 0 < n
      · have hx : ((D.acts : Int) + n) = ((D.acts + n.toNat : Nat) : Int) := by omega
        have H := Lib.hid (dpost (b := b) (mb := mb) (w := w) (w' := (w.setCell ⟨b, 2, none⟩ (.int .i64 0)).setCell ⟨b, 2, none⟩ (.int .i64 ((D.acts : Int) + n))) (r := D.arm n) (e := .returned (.int .i64 0)) (by simp [Dk.arm, hneg, hbig])
          (by rw [hx]; simpa [Dk.arm, hneg, hbig, hpos] using (h.armed' 0).armed' (D.acts + n.toNat)) (((Only.refl (Own b mb) w).setCell (p := ⟨b, 2, none⟩) (fun _ => own_l b rfl) _).setCell (p := ⟨b, 2, none⟩) (fun _ => own_l b rfl) _))
        clear h hD hx
        go_enter Try.func18, Try.ntmps18
        go_wp2
        all_goals go_ret
        all_goals exact H.out
      · have H := Lib.hid (dpost (b := b) (mb := mb) (w := w) (w' := w.setCell ⟨b, 2, none⟩ (.int .i64 0)) (r := D.arm n) (e := .returned (.int .i64 0)) (by simp [Dk.arm, hneg, hbig])
          (by simpa [Dk.arm, hneg, hbig, hpos] using (h.armed' 0)) ((Only.refl (Own b mb) w).setCell (p := ⟨b, 2, none⟩) (fun _ => own_l b rfl) _))
        clear h hD
        go_enter Try.func18, Try.ntmps18
        go_wp2
        all_goals go_ret
        all_goals exact H.out
end Go.Proofs.Ytekkmfclaepcgaa

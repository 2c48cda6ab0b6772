/- Sync, Remove of the document's own disk. -/
import Derived.Test.YtekkmfclaepcgaaRefH
set_option linter.unusedVariables false
namespace Go.Proofs.Ytekkmfclaepcgaa
open Go.RowKit

theorem tick_off_cases (D : Dk) : (D.tick.off = true ∧ (if D.tick.off then (100 : Int) else 0) = 100) ∨ (D.tick.off = false ∧ (if D.tick.off then (100 : Int) else 0) = 0) := by
  cases h : D.tick.off <;> simp

set_option maxHeartbeats 2000000 in
set_option maxRecDepth 100000 in
theorem rremove_any (base b : Nat) (D : Dk) (l : Fl) (v : Value) (nm : ByteArray) (w : World) (h : RIs w base b D l v) (hD : D.Ok) :
    Calls Try.prog 27 #[.pointer (some ⟨b, 0, none⟩), .string nm] w fun e w' => e = .returned (.int .i64 (D.remove nm).1) ∧ (∃ l' v', RIs w' base b (D.remove nm).2 l' v') ∧ Only (base ≤ ·) w w' := by
  have hact := ract_any base b D l v w h hD.acts
  have HA := Lib.hid hact
  have hle := h.le
  have hbs := Nat.le_trans h.le (Nat.le_of_lt h.lt)
  have hlen : l.length ≤ 9 := by have := h.rel.len hD.nodup; have := hD.many; omega
  have tf := tick_files D
  clear hact
  rcases tick_off_cases D with ⟨ho, hc⟩ | ⟨ho, hc⟩
  · rw [hc] at HA
    have hr : D.remove nm = (100, D.tick) := by simp [Dk.remove, ho]
    rw [hr]
    have HT := Lib.hid tf
    clear hr ho hc h hD tf
    go_enter Try.func27, Try.ntmps27
    go_wp2_with fail
    refine HA.out.mono ?_
    rintro e w1 ⟨rfl, h1, o1, s1⟩
    have H1 := Lib.hid h1
    have O1 := Lib.hid o1
    clear h1 o1
    go_wp2
    go_ret
    exact ⟨rfl, ⟨l, v, H1.out⟩, O1.out.mono (fun k _ hk => by subst hk; exact hle)⟩
  · rw [hc] at HA
    cases hg : aget D.files nm with
    | none =>
      have hr : D.remove nm = (101, D.tick) := by simp [Dk.remove, ho, hg]
      have hpl : placeOf l nm = -1 := place_none (by rw [h.rel.same, hg])
      rw [hr]
      clear hr ho hc h hD hg tf
      go_enter Try.func27, Try.ntmps27
      go_wp2_with fail
      refine HA.out.mono ?_
      rintro e w1 ⟨rfl, h1, o1, s1⟩
      have HT := Lib.hid (rat_any base b D.tick l v nm w1 h1)
      rw [hpl] at HT
      have H1 := Lib.hid h1
      have O1 := Lib.hid o1
      clear h1 o1 hpl
      go_wp2_with (go_at_call 44; refine HT.out.mono ?_; rintro e w2 ⟨rfl, rfl⟩)
      go_ret
      exact ⟨rfl, ⟨l, v, H1.out⟩, O1.out.mono (fun k _ hk => by subst hk; exact hle)⟩
    | some z =>
      have hr : D.remove nm = (0, { D.tick with files := adel D.files nm }) := by simp [Dk.remove, ho, hg]
      obtain ⟨i, hpl, hil, hz⟩ := place_some h.rel.sorted.nodup (by rw [h.rel.same]; exact hg)
      rw [hr]
      clear hr ho hc h hD hg hz
      go_enter Try.func27, Try.ntmps27
      go_wp2_with fail
      refine HA.out.mono ?_
      rintro e w1 ⟨rfl, h1, o1, s1⟩
      have HT := Lib.hid (rat_any base b D.tick l v nm w1 h1)
      rw [hpl] at HT
      have HD := Lib.hid (rdrop_any base b D.tick l v nm w1 h1 hlen (by omega))
      have TF := Lib.hid tf
      have O1 := Lib.hid o1
      clear h1 o1 hpl tf
      go_wp2_with (go_at_call 44; refine HT.out.mono ?_; rintro e w2 ⟨rfl, rfl⟩)
      refine HD.out.mono ?_
      rintro e w3 ⟨rfl, ⟨v3, h3, -⟩, o3⟩
      have H3 := Lib.hid h3
      have O3 := Lib.hid o3
      clear h3 o3
      go_wp2
      go_ret
      exact ⟨rfl, ⟨_, v3, by rw [← TF.out]; exact H3.out⟩, (O1.out.trans O3.out).mono (fun k _ hk => by subst hk; exact hle)⟩

set_option maxHeartbeats 2000000 in
set_option maxRecDepth 100000 in
theorem rsync_any (base b : Nat) (D : Dk) (l : Fl) (v : Value) (nm : ByteArray) (w : World) (h : RIs w base b D l v) (hD : D.Ok) :
    Calls Try.prog 24 #[.pointer (some ⟨b, 0, none⟩), .string nm] w fun e w' => e = .returned (.int .i64 (D.sync nm).1) ∧ (∃ l' v', RIs w' base b (D.sync nm).2 l' v') ∧ Only (base ≤ ·) w w' := by
  have hact := ract_any base b D l v w h hD.acts
  have HA := Lib.hid hact
  have hle := h.le
  have hbs := Nat.le_trans h.le (Nat.le_of_lt h.lt)
  have hlen : l.length ≤ 9 := by have := h.rel.len hD.nodup; have := hD.many; omega
  have tf := tick_files D
  clear hact
  rcases tick_off_cases D with ⟨ho, hc⟩ | ⟨ho, hc⟩
  · rw [hc] at HA
    have hr : D.sync nm = (100, D.tick) := by simp [Dk.sync, ho]
    rw [hr]
    have HT := Lib.hid tf
    clear hr ho hc h hD tf
    go_enter Try.func24, Try.ntmps24
    go_wp2_with fail
    refine HA.out.mono ?_
    rintro e w1 ⟨rfl, h1, o1, s1⟩
    have H1 := Lib.hid h1
    have O1 := Lib.hid o1
    clear h1 o1
    go_wp2
    go_ret
    exact ⟨rfl, ⟨l, v, H1.out⟩, O1.out.mono (fun k _ hk => by subst hk; exact hle)⟩
  · rw [hc] at HA
    cases hg : aget D.files nm with
    | none =>
      have hr : D.sync nm = (101, D.tick) := by simp [Dk.sync, ho, hg]
      have hpl : placeOf l nm = -1 := place_none (by rw [h.rel.same, hg])
      rw [hr]
      clear hr ho hc h hD hg tf
      go_enter Try.func24, Try.ntmps24
      go_wp2_with fail
      refine HA.out.mono ?_
      rintro e w1 ⟨rfl, h1, o1, s1⟩
      have HT := Lib.hid (rat_any base b D.tick l v nm w1 h1)
      rw [hpl] at HT
      have H1 := Lib.hid h1
      have O1 := Lib.hid o1
      clear h1 o1 hpl
      go_wp2_with (go_at_call 44; refine HT.out.mono ?_; rintro e w2 ⟨rfl, rfl⟩)
      go_ret
      exact ⟨rfl, ⟨l, v, H1.out⟩, O1.out.mono (fun k _ hk => by subst hk; exact hle)⟩
    | some z =>
      have hr : D.sync nm = (0, { D.tick with files := aput D.files nm (z.1, z.1.size) }) := by simp [Dk.sync, ho, hg]
      obtain ⟨i, hpl, hil, hz⟩ := place_some h.rel.sorted.nodup (by rw [h.rel.same]; exact hg)
      have hsz : z.1.size ≤ 65536 := hD.bytes _ (aget_mem' hg)
      rw [hr]
      clear hr ho hc h hD hg
      go_enter Try.func24, Try.ntmps24
      go_wp2_with fail
      refine HA.out.mono ?_
      rintro e w1 ⟨rfl, h1, o1, s1⟩
      have HT := Lib.hid (rat_any base b D.tick l v nm w1 h1)
      rw [hpl] at HT
      obtain ⟨A, c, rfl, hl, hf⟩ := h1.file
      unfold maxLen at hl
      obtain ⟨g, rfl, hown, hgl, hfr, c1, c2, c3⟩ := hf i hil
      have hgb := (h1.row_ne g hown).2.1
      rw [hz] at c2 c3
      have fr := hfr (i * 3 + 2)
      have d0 := h1.c0
      have hset := h1.set2 (i := i) (by rw [List.getElem?_eq_getElem hil, hz]) z.1.size
      have H1 := Lib.hid hset
      have O1 := Lib.hid ((o1.mono (T := (base ≤ ·)) (fun k _ hk => by subst hk; exact hle)).setCell (p := ⟨g, i * 3 + 2, none⟩) (fun _ => hgb) (.int .i64 z.1.size))
      have TF := Lib.hid tf
      obtain ⟨zb, zn⟩ := z
      simp only at c2 c3 H1 hsz
      clear h1 o1 hpl tf hf c1 hfr hset hz
      go_wp2_with (go_at_call 44; refine HT.out.mono ?_; rintro e w2 ⟨rfl, rfl⟩)
      go_region
      all_goals go_wp2
      all_goals go_ret
      all_goals exact ⟨rfl, ⟨_, _, by rw [← TF.out]; exact ⟨H1.out.rel, H1.out.blk, H1.out.row, H1.out.le⟩⟩, O1.out.drew⟩
end Go.Proofs.Ytekkmfclaepcgaa

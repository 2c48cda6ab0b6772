/- Rename of the document's own disk. -/
import Derived.Test.YtekkmfclaepcgaaRefJ
set_option linter.unusedVariables false
namespace Go.Proofs.Ytekkmfclaepcgaa
open Go.RowKit

theorem frozen_new (w : World) (cs : Array Value) (t : TypeId) (i : Nat) : (w.alloc (.cells cs t)).frozen? ⟨w.heap.size, i, none⟩ = false := by
  unfold World.frozen?
  rw [(MapKept.heap_alloc w _).1]
  rfl
set_option maxHeartbeats 4000000 in
set_option maxRecDepth 100000 in
theorem rrename_any (base b : Nat) (D : Dk) (l : Fl) (v : Value) (nm to : ByteArray) (w : World) (h : RIs w base b D l v) (hD : D.Ok) (hln : to.size ≤ maxLen) :
    Calls Try.prog 25 #[.pointer (some ⟨b, 0, none⟩), .string nm, .string to] w fun e w' => e = .returned (.int .i64 (D.rename nm to).1) ∧ (∃ l' v', RIs w' base b (D.rename nm to).2 l' v') ∧ Only (base ≤ ·) w w' := by
  have hact := ract_any base b D l v w h hD.acts
  have HA := Lib.hid hact
  have hle := h.le
  have hbs := Nat.le_trans h.le (Nat.le_of_lt h.lt)
  have hlf := h.rel.len hD.nodup
  have hmany := hD.many
  have hlen : l.length ≤ 9 := by omega
  have tf := tick_files D
  unfold maxLen at hln
  clear hact
  rcases tick_off_cases D with ⟨ho, hc⟩ | ⟨ho, hc⟩
  · rw [hc] at HA
    have hr : D.rename nm to = (100, D.tick) := by simp [Dk.rename, ho]
    rw [hr]
    have HT := Lib.hid tf
    clear hr ho hc h hD tf
    go_enter Try.func25, Try.ntmps25
    go_wp2_with fail
    refine HA.out.mono ?_
    rintro e w1 ⟨rfl, h1, o1, -⟩
    have H1 := Lib.hid h1
    have O1 := Lib.hid o1
    clear h1 o1
    go_wp2
    go_ret
    exact ⟨rfl, ⟨l, v, H1.out⟩, O1.out.mono (fun k _ hk => by subst hk; exact hle)⟩
  · rw [hc] at HA
    cases hg : aget D.files nm with
    | none =>
      have hr : D.rename nm to = (101, D.tick) := by simp [Dk.rename, ho, hg]
      have hpl : placeOf l nm = -1 := place_none (by rw [h.rel.same, hg])
      rw [hr]
      clear hr ho hc h hD hg tf
      go_enter Try.func25, Try.ntmps25
      go_wp2_with fail
      refine HA.out.mono ?_
      rintro e w1 ⟨rfl, h1, o1, -⟩
      have HT := Lib.hid (rat_any base b D.tick l v nm w1 h1)
      rw [hpl] at HT
      have H1 := Lib.hid h1
      have O1 := Lib.hid o1
      clear h1 o1 hpl
      go_wp2_with (go_at_call 44; refine HT.out.mono ?_; rintro e w2 ⟨rfl, rfl⟩)
      go_ret
      exact ⟨rfl, ⟨l, v, H1.out⟩, O1.out.mono (fun k _ hk => by subst hk; exact hle)⟩
    | some z =>
      obtain ⟨zb, zn⟩ := z
      obtain ⟨i, hpl, hil, hz⟩ := place_some h.rel.sorted.nodup (by rw [h.rel.same]; exact hg)
      by_cases hnm : isNm to = true
      · have hn : 0 < to.size ∧ to.size ≤ 12 := by simpa [isNm] using hnm
        obtain ⟨hn1, hn2⟩ := hn
        have hr : D.rename nm to = (0, { D.tick with files := aput (adel D.files nm) to (zb, zn) }) := by simp [Dk.rename, ho, hg, hnm]
        rw [hr]
        clear hr ho hc h hD hg hnm
        have TF := Lib.hid tf
        have PL := Lib.hid hpl
        clear tf hpl
        go_enter Try.func25, Try.ntmps25
        go_wp2_with fail
        refine HA.out.mono ?_
        rintro e w1 ⟨rfl, h1, o1, -⟩
        have HT := Lib.hid (rat_any base b D.tick l v nm w1 h1)
        rw [PL.out] at HT
        have H1 := Lib.hid h1
        have O1 := Lib.hid o1
        obtain ⟨A, c, rfl, hl, hcell⟩ := h1.file
        obtain ⟨g, rfl, _, hgl, _, c1, c2, c3⟩ := hcell i hil
        rw [hz] at c1 c2 c3
        simp only at c1 c2 c3
        have d0 := h1.c0
        have d1 := h1.lt
        unfold maxLen at hl
        clear hcell hz h1 o1
        have RD := Lib.hid (rdrop_any base b D.tick l _ nm _ (H1.out.alloc (.cells #[.string nm, .string zb, .int .i64 zn] 72)) hlen (alloc_le (Nat.le_trans hbs O1.out.size) _))
        go_wp2_with (go_at_call 44; refine HT.out.mono ?_; rintro e w2 ⟨rfl, rfl⟩)
        refine RD.out.mono ?_
        rintro e w3 ⟨rfl, ⟨v3, h3, r3⟩, o3⟩
        have s3 := o3.size
        simp only [World.size_alloc] at s3
        have e0 := (o3.cell (p := ⟨w1.heap.size, 0, none⟩) (by simp) (fun e => by simp at e; omega)).trans (World.cell?_alloc_new _ _ _ 0)
        have e1 := (o3.cell (p := ⟨w1.heap.size, 1, none⟩) (by simp) (fun e => by simp at e; omega)).trans (World.cell?_alloc_new _ _ _ 1)
        have e2 := (o3.cell (p := ⟨w1.heap.size, 2, none⟩) (by simp) (fun e => by simp at e; omega)).trans (World.cell?_alloc_new _ _ _ 2)
        have O3 := Lib.hid (((O1.out.mono (T := (base ≤ ·)) (fun k _ hk => by subst hk; exact hle)).alloc (.cells #[.string nm, .string zb, .int .i64 zn] 72)).trans' (T := (base ≤ ·)) o3 (fun k _ hk => hk) (fun k _ hk => by subst hk; exact hle))
        have ef : w3.frozen? ⟨w1.heap.size, 0, none⟩ = false := (o3.frozen (p := ⟨w1.heap.size, 0, none⟩) (by simp) (fun e => by simp at e; omega)).trans (frozen_new w1 _ _ _)
        have h4 : RIs (w3.setCell ⟨w1.heap.size, 0, none⟩ (.string to)) base b { D.tick with files := adel D.tick.files nm } (adel l nm) v3 := by
          refine h3.only (S := (· = w1.heap.size)) ((Only.refl (· = w1.heap.size) w3).setCell (p := ⟨w1.heap.size, 0, none⟩) (fun _ => rfl) _) (fun e => by omega) (fun k hk e => ?_)
          have := r3 k hk
          simp at this
          omega
        have RP := Lib.hid (rput_any base b _ _ v3 to zb zn _ h4 (by have := adel_len l nm; omega) (by have := O1.out.size; simp [World.setCell]; omega))
        clear o3 h3 r3 h4
        go_wp2_with fail
        refine RP.out.mono ?_
        rintro e w5 ⟨rfl, ⟨v5, h5⟩, o5⟩
        have H5 := Lib.hid h5
        have O5 := Lib.hid ((O3.out.setCell (p := ⟨w1.heap.size, 0, none⟩) (fun _ => Nat.le_trans hbs O1.out.size) (.string to)).trans' (T := (base ≤ ·)) o5 (fun k _ hk => hk) (fun k _ hk => by subst hk; exact hle))
        clear h5 o5
        go_wp2
        go_ret
        exact ⟨rfl, ⟨_, v5, by rw [← TF.out]; exact H5.out⟩, O5.out⟩
      · have hr : D.rename nm to = (1, D.tick) := by simp [Dk.rename, ho, hg, hnm]
        have hn : to.size < 1 ∨ 12 < to.size := by
          have : ¬ (0 < to.size ∧ to.size ≤ 12) := by simpa [isNm] using hnm
          omega
        rw [hr]
        clear hr ho hc h hD hg hnm tf hz
        go_enter Try.func25, Try.ntmps25
        go_wp2_with fail
        refine HA.out.mono ?_
        rintro e w1 ⟨rfl, h1, o1, -⟩
        have HT := Lib.hid (rat_any base b D.tick l v nm w1 h1)
        rw [hpl] at HT
        have H1 := Lib.hid h1
        have O1 := Lib.hid o1
        clear h1 o1 hpl
        rcases hn with hn | hn
        all_goals go_wp2_with (go_at_call 44; refine HT.out.mono ?_; rintro e w2 ⟨rfl, rfl⟩)
        all_goals go_ret
        all_goals exact ⟨rfl, ⟨l, v, H1.out⟩, O1.out.mono (fun k _ hk => by subst hk; exact hle)⟩
end Go.Proofs.Ytekkmfclaepcgaa

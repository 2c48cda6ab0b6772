/- Append, Rename of the document's own disk. -/
import Derived.Test.YtekkmfclaepcgaaRefI
set_option linter.unusedVariables false
namespace Go.Proofs.Ytekkmfclaepcgaa
open Go.RowKit

theorem RIs.alloc {w : World} {base b : Nat} {D : Dk} {l : Fl} {v : Value} (h : RIs w base b D l v) (o : Obj) : RIs (w.alloc o) base b D l v :=
  h.only ((Only.refl (fun _ => False) w).alloc o) (fun x => x) (fun _ _ x => x)
/-- A store into a new block. -/
theorem RIs.past {w w' : World} {base b : Nat} {D : Dk} {l : Fl} {v : Value} (h : RIs w base b D l v) (ho : Only (fun _ => False) w w') {p : Addr} (hp : w.heap.size ≤ p.block) (u : Value) : RIs (w'.setCell p u) base b D l v := by
  refine h.only (S := fun k => k = p.block) ((ho.mono (T := fun k => k = p.block) (fun _ _ x => x.elim)).setCell (fun _ => rfl) u) (fun e => ?_) (fun k hk e => ?_)
  · have := h.lt
    omega
  · have := (h.row_ne k hk).2.2.1
    omega
theorem Only.past {S : Nat → Prop} {w w' : World} (ho : Only S w w') {p : Addr} (hp : w.heap.size ≤ p.block) (u : Value) : Only S w (w'.setCell p u) := ho.setCell (fun h => absurd h (by omega)) u
theorem rput_zero (base b : Nat) (D : Dk) (l : Fl) (v : Value) (nm s : ByteArray) (w : World) (h : RIs w base b D l v) (hl9 : l.length ≤ 9) (hbase : base ≤ w.heap.size) :
    Calls Try.prog 45 #[.pointer (some ⟨b, 0, none⟩), .agg #[.string nm, .string s, .int .i64 0]] w fun e w' => e = .returned (.tuple #[]) ∧ (∃ v', RIs w' base b { D with files := aput D.files nm (s, 0) } (insL nm (s, 0) l) v') ∧ Only (· = b) w w' := rput_any base b D l v nm s 0 w h hl9 hbase
theorem ba_nil (s : ByteArray) : (⟨#[]⟩ : ByteArray) ++ s = s := by
  apply ByteArray.ext; simp

set_option maxHeartbeats 2000000 in
set_option maxRecDepth 100000 in
theorem rappend_any (base b : Nat) (D : Dk) (l : Fl) (v : Value) (nm s : ByteArray) (w : World) (h : RIs w base b D l v) (hD : D.Ok) (hln : nm.size ≤ maxLen) (hls : s.size ≤ maxLen) :
    Calls Try.prog 23 #[.pointer (some ⟨b, 0, none⟩), .string nm, .string s] w fun e w' => e = .returned (.int .i64 (D.append nm s).1) ∧ (∃ l' v', RIs w' base b (D.append nm s).2 l' v') ∧ Only (base ≤ ·) w w' := by
  have hact := ract_any base b D l v w h hD.acts
  have HA := Lib.hid hact
  have hle := h.le
  have hbs := Nat.le_trans h.le (Nat.le_of_lt h.lt)
  have hlf := h.rel.len hD.nodup
  have hmany := hD.many
  have hlen : l.length ≤ 9 := by omega
  have tf := tick_files D
  unfold maxLen at hln hls
  clear hact
  rcases tick_off_cases D with ⟨ho, hc⟩ | ⟨ho, hc⟩
  · rw [hc] at HA
    have hr : D.append nm s = (100, D.tick) := by simp [Dk.append, ho]
    rw [hr]
    have HT := Lib.hid tf
    clear hr ho hc h hD tf
    go_enter Try.func23, Try.ntmps23
    go_wp2_with fail
    refine HA.out.mono ?_
    rintro e w1 ⟨rfl, h1, o1, -⟩
    have H1 := Lib.hid h1
    have O1 := Lib.hid o1
    clear h1 o1
    go_wp2
    go_ret
    exact ⟨rfl, ⟨l, v, H1.out⟩, O1.out.mono (fun k _ hk => by subst hk; exact hle)⟩
  · rw [hc] at HA
    by_cases hnm : isNm nm = true
    · have hn : 0 < nm.size ∧ nm.size ≤ 12 := by simpa [isNm] using hnm
      obtain ⟨hn1, hn2⟩ := hn
      cases hg : aget D.files nm with
      | none =>
        have hr : D.append nm s = if 4 ≤ D.files.length ∨ 65536 < s.size then (102, D.tick) else (0, { D.tick with files := aput D.files nm (s, 0) }) := by simp [Dk.append, ho, hg, hnm]
        have hpl : placeOf l nm = -1 := place_none (by rw [h.rel.same, hg])
        clear ho hc hD hg hnm
        have TF := Lib.hid tf
        have PL := Lib.hid hpl
        clear tf hpl h
        by_cases hf : 4 ≤ D.files.length ∨ 65536 < s.size
        · rw [if_pos hf] at hr
          rw [hr]
          clear hr
          rw [← hlf] at hf
          go_enter Try.func23, Try.ntmps23
          go_wp2_with fail
          refine HA.out.mono ?_
          rintro e w1 ⟨rfl, h1, o1, -⟩
          have H1 := Lib.hid h1
          have O1 := Lib.hid o1
          clear h1 o1
          have AT := Lib.hid (rat_any base b D.tick l v nm _ (H1.out.alloc (.cells #[.string nm, .string ⟨#[]⟩, .int .i64 0] 72)))
          rw [PL.out] at AT
          obtain ⟨A, c, rfl, hl, _⟩ := H1.out.file
          have d0 := H1.out.c0
          have d1 := H1.out.lt
          unfold maxLen at hl
          rcases hf with hf | hf
          all_goals go_wp2_with (go_at_call 44; refine AT.out.mono ?_; rintro e w2 ⟨rfl, rfl⟩)
          all_goals go_ret
          all_goals exact ⟨rfl, ⟨l, _, H1.out.alloc _⟩, (O1.out.mono (fun k _ hk => by subst hk; exact hle)).alloc _⟩
        · rw [if_neg hf] at hr
          rw [hr]
          clear hr
          rw [← hlf] at hf
          obtain ⟨hf1, hf2⟩ := not_or.1 hf
          clear hf
          go_enter Try.func23, Try.ntmps23
          go_wp2_with fail
          refine HA.out.mono ?_
          rintro e w1 ⟨rfl, h1, o1, -⟩
          have H1 := Lib.hid h1
          have O1 := Lib.hid o1
          clear h1 o1
          have AT := Lib.hid (rat_any base b D.tick l v nm _ (H1.out.alloc (.cells #[.string nm, .string ⟨#[]⟩, .int .i64 0] 72)))
          rw [PL.out] at AT
          obtain ⟨A, c, rfl, hl, _⟩ := H1.out.file
          have d0 := H1.out.c0
          have d1 := H1.out.lt
          unfold maxLen at hl
          have hz : ((⟨#[]⟩ : ByteArray).size : Int) = 0 := rfl
          have RP := Lib.hid (rput_zero base b D.tick l _ nm (⟨#[]⟩ ++ s) _ (H1.out.alloc (.cells #[.string nm, .string (⟨#[]⟩ ++ s), .int .i64 0] 72)) hlen (alloc_le (Nat.le_trans hbs O1.out.size) _))
          go_wp2_with (go_at_call 44; refine AT.out.mono ?_; rintro e w2 ⟨rfl, rfl⟩)
          refine RP.out.mono ?_
          rintro e w3 ⟨rfl, ⟨v3, h3⟩, o3⟩
          rw [ba_nil] at h3
          have H3 := Lib.hid h3
          have O3 := Lib.hid (((O1.out.mono (T := (base ≤ ·)) (fun k _ hk => by subst hk; exact hle)).alloc (.cells #[.string nm, .string (⟨#[]⟩ ++ s), .int .i64 0] 72)).trans' (T := (base ≤ ·)) o3 (fun k _ hk => hk) (fun k _ hk => by subst hk; exact hle))
          clear h3 o3
          go_wp2
          go_ret
          exact ⟨rfl, ⟨_, v3, by rw [← TF.out]; exact H3.out⟩, O3.out⟩
      | some z =>
        obtain ⟨zb, zn⟩ := z
        have hr : D.append nm s = if 65536 < zb.size + s.size then (102, D.tick) else (0, { D.tick with files := aput D.files nm (zb ++ s, zn) }) := by simp [Dk.append, ho, hg, hnm]
        obtain ⟨i, hpl, hil, hz⟩ := place_some h.rel.sorted.nodup (by rw [h.rel.same]; exact hg)
        have hsz : zb.size ≤ 65536 := hD.bytes _ (aget_mem' hg)
        clear ho hc hD hg hnm
        have TF := Lib.hid tf
        have PL := Lib.hid hpl
        clear tf hpl h
        by_cases hf : 65536 < zb.size + s.size
        · rw [if_pos hf] at hr
          rw [hr]
          clear hr
          go_enter Try.func23, Try.ntmps23
          go_wp2_with fail
          refine HA.out.mono ?_
          rintro e w1 ⟨rfl, h1, o1, -⟩
          have H1 := Lib.hid h1
          have O1 := Lib.hid o1
          clear h1 o1
          have AT := Lib.hid (rat_any base b D.tick l v nm _ (H1.out.alloc (.cells #[.string nm, .string ⟨#[]⟩, .int .i64 0] 72)))
          rw [PL.out] at AT
          obtain ⟨A, c, rfl, hl, hcell⟩ := H1.out.file
          obtain ⟨g, rfl, _, hgl, _, c1, c2, c3⟩ := hcell i hil
          rw [hz] at c1 c2 c3
          simp only at c1 c2 c3
          have d0 := H1.out.c0
          have d1 := H1.out.lt
          unfold maxLen at hl
          clear hcell hz
          go_wp2_with (go_at_call 44; refine AT.out.mono ?_; rintro e w2 ⟨rfl, rfl⟩)
          go_ret
          exact ⟨rfl, ⟨l, _, H1.out.alloc _⟩, (O1.out.mono (fun k _ hk => by subst hk; exact hle)).alloc _⟩
        · rw [if_neg hf] at hr
          rw [hr]
          clear hr
          go_enter Try.func23, Try.ntmps23
          go_wp2_with fail
          refine HA.out.mono ?_
          rintro e w1 ⟨rfl, h1, o1, -⟩
          have H1 := Lib.hid h1
          have O1 := Lib.hid o1
          clear h1 o1
          have AT := Lib.hid (rat_any base b D.tick l v nm _ (H1.out.alloc (.cells #[.string nm, .string ⟨#[]⟩, .int .i64 0] 72)))
          rw [PL.out] at AT
          obtain ⟨A, c, rfl, hl, hcell⟩ := H1.out.file
          obtain ⟨g, rfl, _, hgl, _, c1, c2, c3⟩ := hcell i hil
          rw [hz] at c1 c2 c3
          simp only at c1 c2 c3
          have d0 := H1.out.c0
          have d1 := H1.out.lt
          unfold maxLen at hl
          clear hcell hz
          have RP := Lib.hid (rput_any base b D.tick l _ nm (zb ++ s) zn _ (H1.out.alloc (.cells #[.string nm, .string (zb ++ s), .int .i64 zn] 72)) hlen (alloc_le (Nat.le_trans hbs O1.out.size) _))
          go_wp2_with (go_at_call 44; refine AT.out.mono ?_; rintro e w2 ⟨rfl, rfl⟩)
          refine RP.out.mono ?_
          rintro e w3 ⟨rfl, ⟨v3, h3⟩, o3⟩
          have H3 := Lib.hid h3
          have O3 := Lib.hid (((O1.out.mono (T := (base ≤ ·)) (fun k _ hk => by subst hk; exact hle)).alloc (.cells #[.string nm, .string (zb ++ s), .int .i64 zn] 72)).trans' (T := (base ≤ ·)) o3 (fun k _ hk => hk) (fun k _ hk => by subst hk; exact hle))
          clear h3 o3
          go_wp2
          go_ret
          exact ⟨rfl, ⟨_, v3, by rw [← TF.out]; exact H3.out⟩, O3.out⟩
    · have hr : D.append nm s = (1, D.tick) := by simp [Dk.append, ho, hnm]
      have hn : nm.size < 1 ∨ 12 < nm.size := by
        have : ¬ (0 < nm.size ∧ nm.size ≤ 12) := by simpa [isNm] using hnm
        omega
      rw [hr]
      clear hr ho hc h hD hnm tf
      go_enter Try.func23, Try.ntmps23
      go_wp2_with fail
      refine HA.out.mono ?_
      rintro e w1 ⟨rfl, h1, o1, -⟩
      have H1 := Lib.hid h1
      have O1 := Lib.hid o1
      clear h1 o1
      rcases hn with hn | hn
      all_goals go_wp2
      all_goals go_ret
      all_goals exact ⟨rfl, ⟨l, v, H1.out⟩, O1.out.mono (fun k _ hk => by subst hk; exact hle)⟩
end Go.Proofs.Ytekkmfclaepcgaa

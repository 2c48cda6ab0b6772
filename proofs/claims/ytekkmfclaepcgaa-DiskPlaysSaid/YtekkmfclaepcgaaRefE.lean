/- The small functions of the document's own disk. -/
import Derived.Test.YtekkmfclaepcgaaRefD
import Derived.Test.YtekkmfclaepcgaaDiskX
set_option linter.unusedVariables false
namespace Go.Proofs.Ytekkmfclaepcgaa
open Go.RowKit

set_option maxHeartbeats 400000 in
theorem rnew_any (w : World) : Calls Try.prog 21 #[] w fun e w' => e = .returned (.pointer (some ⟨w.heap.size, 0, none⟩)) ∧ w' = w.alloc (.cells #[.slice none 0 0, .int .i64 0, .int .i64 0, .bool false] 70) := by
  go_enter Try.func21, Try.ntmps21
  go_wp2
  go_ret
  exact ⟨rfl, rfl⟩
theorem RIs.made (w : World) (base : Nat) (hb : base ≤ w.heap.size) : RIs (w.alloc (.cells #[.slice none 0 0, .int .i64 0, .int .i64 0, .bool false] 70)) base w.heap.size Dk.new [] (.slice none 0 0) :=
  ⟨⟨List.Pairwise.nil, fun _ => rfl⟩, (MapKept.heap_alloc w _).1, ⟨rfl, .inl ⟨rfl, rfl⟩⟩, hb⟩

set_option maxHeartbeats 400000 in
theorem roff_any (b : Nat) (o : Bool) (w : World) (h : w.cell? ⟨b, 3, none⟩ = some (.bool o)) :
    Calls Try.prog 32 #[.pointer (some ⟨b, 0, none⟩)] w fun e w' => e = .returned (.bool o) ∧ w = w' := by
  go_enter Try.func32, Try.ntmps32
  go_wp2
  go_ret
  exact ⟨rfl, rfl⟩
set_option maxHeartbeats 400000 in
theorem racts_any (b : Nat) (n : Int) (w : World) (h : w.cell? ⟨b, 1, none⟩ = some (.int .i64 n)) :
    Calls Try.prog 34 #[.pointer (some ⟨b, 0, none⟩)] w fun e w' => e = .returned (.int .i64 n) ∧ w = w' := by
  go_enter Try.func34, Try.ntmps34
  go_wp2
  go_ret
  exact ⟨rfl, rfl⟩

set_option maxHeartbeats 1000000 in
theorem ract_any (base b : Nat) (D : Dk) (l : Fl) (v : Value) (w : World) (h : RIs w base b D l v) (hn : D.acts < 4611686018427387904) :
    Calls Try.prog 43 #[.pointer (some ⟨b, 0, none⟩)] w fun e w' => e = .returned (.int .i64 (if D.tick.off then 100 else 0)) ∧ RIs w' base b D.tick l v ∧ Only (· = b) w w' ∧ w'.heap.size = w.heap.size := by
  have c1 := h.c1
  have c2 := h.c2
  have c3 := h.c3
  have f1 := h.fr 1
  have f3 := h.fr 3
  cases hoff : D.off with
  | true =>
    have ht : D.tick = D := by simp [Dk.tick, hoff]
    rw [ht, if_pos hoff]
    rw [hoff] at c3
    have HR := Lib.hid h
    clear h hoff ht
    go_enter Try.func43, Try.ntmps43
    go_wp2
    go_ret
    exact ⟨rfl, HR.out, Only.refl _ _, rfl⟩
  | false =>
    rw [hoff] at c3
    have HO := Lib.hid (((Only.refl (· = b) w).setCell (p := ⟨b, 1, none⟩) (fun _ => rfl) (.int .i64 ((D.acts : Int) + 1))).drew)
    by_cases ha : D.acts + 1 = D.armed
    · have ht : D.tick = { D with acts := D.acts + 1, off := true } := by simp [Dk.tick, hoff, ha]
      have hb : ((D.acts : Int) + 1 == (D.armed : Int)) = true := by rw [beq_iff_eq]; omega
      have HR := Lib.hid (show RIs (((w.setCell ⟨b, 1, none⟩ (.int .i64 ((D.acts : Int) + 1))).setCell ⟨b, 3, none⟩ (.bool true)).drew) base b D.tick l v from by
        rw [ht]
        have := (h.acted (D.acts + 1)).offed true
        exact ⟨this.rel, this.blk, this.row, this.le⟩)
      have HO2 := Lib.hid (((((Only.refl (· = b) w).setCell (p := ⟨b, 1, none⟩) (fun _ => rfl) (.int .i64 ((D.acts : Int) + 1))).setCell (p := ⟨b, 3, none⟩) (fun _ => rfl) (.bool true))).drew)
      have hto : (if D.tick.off then (100 : Int) else 0) = 100 := by rw [ht]; rfl
      rw [hto]
      clear h hoff ht ha hto
      go_enter Try.func43, Try.ntmps43
      go_wp2
      go_region
      all_goals go_wp2
      all_goals (go_ret; exact ⟨rfl, HR.out, HO2.out, by simp [World.setCell]⟩)
    · have ht : D.tick = { D with acts := D.acts + 1, off := false } := by simp [Dk.tick, hoff, ha]
      have hb : ((D.acts : Int) + 1 == (D.armed : Int)) = false := by rw [beq_eq_false_iff_ne]; omega
      have HR := Lib.hid (show RIs ((w.setCell ⟨b, 1, none⟩ (.int .i64 ((D.acts : Int) + 1))).drew) base b D.tick l v from by
        rw [ht]
        have := h.acted (D.acts + 1)
        exact ⟨this.rel, by have := this.blk; rw [hoff] at this; exact this, this.row, this.le⟩)
      have hto : (if D.tick.off then (100 : Int) else 0) = 0 := by rw [ht]; rfl
      rw [hto]
      clear h hoff ht ha hto
      go_enter Try.func43, Try.ntmps43
      go_wp2
      go_region
      all_goals go_wp2
      all_goals (go_ret; exact ⟨rfl, HR.out, HO.out, by simp [World.setCell]⟩)

/-- The place of a name: -1, or where it stands. -/
def placeOf (l : Fl) (nm : ByteArray) : Int := match l.findIdx? (fun p => decide (p.1 = nm)) with
  | some i => i
  | none => -1
theorem place_none {l : Fl} {nm : ByteArray} (h : aget l nm = none) : placeOf l nm = -1 := by
  unfold placeOf
  have : l.findIdx? (fun p => decide (p.1 = nm)) = none := by
    rw [List.findIdx?_eq_none_iff]
    intro p hp
    rw [decide_eq_false_iff_not]
    rintro rfl
    exact aget_none_iff.1 h (List.mem_map.2 ⟨p, hp, rfl⟩)
  rw [this]
theorem place_some {l : Fl} (hn : (l.map (·.1)).Nodup) {nm : ByteArray} {f : ByteArray × Nat} (h : aget l nm = some f) : ∃ i, placeOf l nm = (i : Nat) ∧ ∃ hi : i < l.length, l[i] = (nm, f) := by
  have hm := aget_mem' h
  unfold placeOf
  cases hx : l.findIdx? (fun p => decide (p.1 = nm)) with
  | none =>
    rw [List.findIdx?_eq_none_iff] at hx
    have := hx _ hm
    simp at this
  | some i =>
    rw [List.findIdx?_eq_some_iff_getElem] at hx
    obtain ⟨hi, h1, _⟩ := hx
    refine ⟨i, rfl, hi, ?_⟩
    have h2 : (l[i]).1 = nm := by simpa using h1
    have h3 := aget_at hn (j := i) (p := l[i]) (List.getElem?_eq_getElem hi)
    rw [h2, h] at h3
    exact Prod.ext h2 (Option.some.inj h3).symm

set_option maxHeartbeats 1000000 in
theorem rat_any (base b : Nat) (D : Dk) (l : Fl) (v : Value) (nm : ByteArray) (w : World) (h : RIs w base b D l v) :
    Calls Try.prog 44 #[.pointer (some ⟨b, 0, none⟩), .string nm] w fun e w' => e = .returned (.int .i64 (placeOf l nm)) ∧ w = w' := by
  obtain ⟨A, c, rfl, hl, hf⟩ := h.file
  have c0 := h.c0
  unfold maxLen at hl
  have HF := Lib.hid hf
  clear hf h
  go_enter Try.func44, Try.ntmps44
  go_wp2
  go_loop [5] (fun i => ∃ k : Nat, k ≤ l.length ∧ i = .int .i64 k ∧ ∀ j (hj : j < l.length), j < k → l[j].1 ≠ nm) (fun i => l.length - (intOf i).toNat)
  case atStart => exact ⟨0, Nat.zero_le _, rfl, fun j _ hj => absurd hj (by omega)⟩
  case round =>
    obtain ⟨k, hk, rfl, hne⟩ := hrel
    have HN := Lib.hid hne
    clear hne
    by_cases hlt : k < l.length
    · obtain ⟨g, rfl, _, hg, _, h1, _, _⟩ := HF.out k hlt
      by_cases e : l[k].1 = nm
      · have hp : placeOf l nm = k := by
          unfold placeOf
          have : l.findIdx? (fun p => decide (p.1 = nm)) = some k := by
            rw [List.findIdx?_eq_some_iff_getElem]
            exact ⟨hlt, by simpa using e, fun j hj => by simpa using HN.out j (by omega) hj⟩
          rw [this]
        rw [e] at h1
        have HP := Lib.hid hp
        clear e hp
        go_wp2
        go_ret
        exact ⟨ret_int HP.out.symm, rfl⟩
      · have hb := bytes_ne e
        have HE := Lib.hid e
        clear e
        generalize hnm : l[k].1 = x at h1 hb
        have HX := Lib.hid hnm
        clear hnm
        go_wp2
        go_round
        case rel => exact ⟨k + 1, by omega, by go_num, fun j hj hjk => by
          rcases Nat.lt_succ_iff_lt_or_eq.1 hjk with h | rfl
          · exact HN.out j hj h
          · exact HE.out⟩
        case measure => simp [intOf]; omega
    · obtain rfl : k = l.length := by omega
      have hp : placeOf l nm = -1 := by
        unfold placeOf
        have : l.findIdx? (fun p => decide (p.1 = nm)) = none := by
          rw [List.findIdx?_eq_none_iff]
          intro p hp
          obtain ⟨j, hj, rfl⟩ := List.getElem_of_mem hp
          simpa using HN.out j hj hj
        rw [this]
      have HP := Lib.hid hp
      clear hp
      go_wp2
      go_ret
      exact ⟨ret_int HP.out.symm, rfl⟩

set_option maxHeartbeats 1000000 in
theorem rread_any (base b : Nat) (D : Dk) (l : Fl) (v : Value) (nm : ByteArray) (w : World) (h : RIs w base b D l v) :
    Calls Try.prog 30 #[.pointer (some ⟨b, 0, none⟩), .string nm] w fun e w' => e = .returned (.tuple #[.string (D.read nm).1, .int .i64 (D.read nm).2]) ∧ w = w' := by
  have c3 := h.c3
  have c0 := h.c0
  have hat := rat_any base b D l v nm w h
  have HAT := Lib.hid hat
  clear hat
  cases hoff : D.off with
  | true =>
    rw [hoff] at c3
    have hr : D.read nm = (⟨#[]⟩, 100) := by simp [Dk.read, hoff]
    rw [hr]
    clear h hoff hr
    go_enter Try.func30, Try.ntmps30
    go_wp2
    go_ret2
    exact ⟨rfl, rfl⟩
  | false =>
    rw [hoff] at c3
    cases hg : aget D.files nm with
    | none =>
      have hr : D.read nm = (⟨#[]⟩, 101) := by simp [Dk.read, hoff, hg]
      rw [hr]
      rw [place_none (by rw [h.rel.same, hg])] at HAT
      clear h hoff hr hg
      go_enter Try.func30, Try.ntmps30
      go_wp2_with (go_at_call 44; refine HAT.out.mono ?_; rintro e w' ⟨rfl, rfl⟩)
      go_ret2
      exact ⟨rfl, rfl⟩
    | some z =>
      have hr : D.read nm = (z.1, 0) := by simp [Dk.read, hoff, hg]
      obtain ⟨i, hi, hil, hz⟩ := place_some h.rel.sorted.nodup (by rw [h.rel.same]; exact hg)
      obtain ⟨A, c, rfl, hl, hf⟩ := h.file
      obtain ⟨g, rfl, _, hgl, _, h1, h2, _⟩ := hf i hil
      unfold maxLen at hl
      rw [hz] at h2
      simp only at h2
      rw [hr]
      rw [hi] at HAT
      clear h hoff hr hg hf h1 hz hi
      generalize z.1 = zb at *
      go_enter Try.func30, Try.ntmps30
      go_wp2_with (go_at_call 44; refine HAT.out.mono ?_; rintro e w' ⟨rfl, rfl⟩)
      go_ret2
      exact ⟨rfl, rfl⟩

set_option maxHeartbeats 1000000 in
set_option maxRecDepth 100000 in
theorem rarm_any (base b : Nat) (D : Dk) (l : Fl) (v : Value) (n : Int) (w : World) (h : RIs w base b D l v) (hD : D.Ok) (h0 : -9223372036854775808 ≤ n) (h1 : n ≤ 9223372036854775807) :
    Calls Try.prog 28 #[.pointer (some ⟨b, 0, none⟩), .int .i64 n] w fun e w' => e = .returned (.int .i64 (D.arm n).1) ∧ RIs w' base b (D.arm n).2 l v ∧ Only (· = b) w w' := by
  have c1 := h.c1
  have c2 := h.c2
  have f2 := h.fr 2
  have ha := hD.acts
  by_cases hneg : n < 0
  · have hr : D.arm n = (1, D) := by simp [Dk.arm, hneg]
    rw [hr]
    have H := Lib.hid h
    clear h hD c1 c2 ha hr
    go_enter Try.func28, Try.ntmps28
    go_wp2
    all_goals go_ret
    all_goals exact ⟨rfl, H.out, Only.refl _ _⟩
  · by_cases hbig : 1099511627776 < n
    · have hr : D.arm n = (1, D) := by simp [Dk.arm, hbig]
      rw [hr]
      have H := Lib.hid h
      clear h hD c1 c2 ha hr
      go_enter Try.func28, Try.ntmps28
      go_wp2
      all_goals go_ret
      all_goals exact ⟨rfl, H.out, Only.refl _ _⟩
    · by_cases hpos : 0 < n
      · have hx : ((D.acts : Int) + n) = ((D.acts + n.toNat : Nat) : Int) := by omega
        have hr : D.arm n = (0, { D with armed := D.acts + n.toNat }) := by simp [Dk.arm, hneg, hbig, hpos]
        rw [hr]
        have H := Lib.hid (show RIs ((w.setCell ⟨b, 2, none⟩ (.int .i64 0)).setCell ⟨b, 2, none⟩ (.int .i64 ((D.acts : Int) + n))) base b { D with armed := D.acts + n.toNat } l v from by rw [hx]; exact (h.armed' 0).armed' (D.acts + n.toNat))
        have HO := Lib.hid (((Only.refl (· = b) w).setCell (p := ⟨b, 2, none⟩) (fun _ => rfl) (.int .i64 0)).setCell (p := ⟨b, 2, none⟩) (fun _ => rfl) (.int .i64 ((D.acts : Int) + n)))
        clear h hD hx hr
        go_enter Try.func28, Try.ntmps28
        go_wp2
        all_goals go_ret
        all_goals exact ⟨rfl, H.out, HO.out⟩
      · have hr : D.arm n = (0, { D with armed := 0 }) := by simp [Dk.arm, hneg, hbig, hpos]
        rw [hr]
        have H := Lib.hid (h.armed' 0)
        have HO := Lib.hid ((Only.refl (· = b) w).setCell (p := ⟨b, 2, none⟩) (fun _ => rfl) (.int .i64 0))
        clear h hD hr
        go_enter Try.func28, Try.ntmps28
        go_wp2
        all_goals go_ret
        all_goals exact ⟨rfl, H.out, HO.out⟩
end Go.Proofs.Ytekkmfclaepcgaa

/- A disk in memory; Append. -/
import Derived.Test.YtekkmfclaepcgaaDiskC
set_option linter.unusedVariables false
namespace Go.Proofs.Ytekkmfclaepcgaa
open Go.RowKit

/-- Block b is a disk, its files in the map mb. -/
structure DiskIs (w : World) (b mb : Nat) (D : Dk) : Prop where
  blk : w.heap[b]? = some (.cells #[.map (some mb), .int .i64 D.acts, .int .i64 D.armed, .bool D.off] 55)
  map : MapIs .string .string fv w mb D.files

theorem DiskIs.ne {w : World} {b mb : Nat} {D : Dk} (h : DiskIs w b mb D) : b ≠ mb := by
  rintro rfl
  obtain ⟨es, c, h1, _⟩ := h.map
  rw [h.blk] at h1
  cases h1
theorem DiskIs.lt {w : World} {b mb : Nat} {D : Dk} (h : DiskIs w b mb D) : b < w.heap.size := (Array.getElem?_eq_some_iff.1 h.blk).1
theorem DiskIs.c0 {w : World} {b mb : Nat} {D : Dk} (h : DiskIs w b mb D) : w.cell? ⟨b, 0, none⟩ = some (.map (some mb)) := by simp [World.cell?, h.blk]
theorem DiskIs.c1 {w : World} {b mb : Nat} {D : Dk} (h : DiskIs w b mb D) : w.cell? ⟨b, 1, none⟩ = some (.int .i64 D.acts) := by simp [World.cell?, h.blk]
theorem DiskIs.c2 {w : World} {b mb : Nat} {D : Dk} (h : DiskIs w b mb D) : w.cell? ⟨b, 2, none⟩ = some (.int .i64 D.armed) := by simp [World.cell?, h.blk]
theorem DiskIs.c3 {w : World} {b mb : Nat} {D : Dk} (h : DiskIs w b mb D) : w.cell? ⟨b, 3, none⟩ = some (.bool D.off) := by simp [World.cell?, h.blk]
theorem DiskIs.fr {w : World} {b mb : Nat} {D : Dk} (h : DiskIs w b mb D) (i : Nat) : w.frozen? ⟨b, i, none⟩ = false := by simp [World.frozen?, h.blk]
theorem DiskIs.only {w w' : World} {b mb : Nat} {D : Dk} (h : DiskIs w b mb D) {S : Nat → Prop} (ho : Only S w w') (h1 : ¬ S b) (h2 : ¬ S mb) : DiskIs w' b mb D :=
  ⟨(ho.block b h.lt h1).trans h.blk, h.map.of_heap (ho.block mb h.map.lt h2)⟩
theorem DiskIs.alloc {w : World} {b mb : Nat} {D : Dk} (h : DiskIs w b mb D) (o : Obj) : DiskIs (w.alloc o) b mb D :=
  h.only (S := fun _ => False) ((Only.refl _ w).alloc o) (fun x => x) (fun x => x)
theorem DiskIs.drew {w : World} {b mb : Nat} {D : Dk} (h : DiskIs w b mb D) : DiskIs w.drew b mb D := ⟨h.blk, h.map⟩
theorem blk_setCell {w : World} {b i : Nat} {cs : Array Value} {t : TypeId} (h : w.heap[b]? = some (.cells cs t)) (v : Value) : (w.setCell ⟨b, i, none⟩ v).heap[b]? = some (.cells (cs.setIfInBounds i v) t) := by
  simp [World.setCell, Array.getElem?_modify, h]
theorem DiskIs.put {w w' : World} {b mb : Nat} {D : Dk} (h : DiskIs w b mb D) (ho : Only (· = mb) w w') {m : List (ByteArray × (ByteArray × Nat))} (hm : MapIs .string .string fv w' mb m) : DiskIs w' b mb { D with files := m } :=
  ⟨(ho.block b h.lt h.ne).trans h.blk, hm⟩
theorem DiskIs.acted {w : World} {b mb : Nat} {D : Dk} (h : DiskIs w b mb D) (o : Bool) :
    DiskIs (((w.setCell ⟨b, 1, none⟩ (.int .i64 ((D.acts : Int) + 1))).setCell ⟨b, 3, none⟩ (.bool o)).drew) b mb { D with acts := D.acts + 1, off := o } := by
  refine ⟨?_, ((h.map.setCell _ _).setCell _ _).drew⟩
  show (((w.setCell ⟨b, 1, none⟩ (.int .i64 ((D.acts : Int) + 1))).setCell ⟨b, 3, none⟩ (.bool o))).heap[b]? = _
  rw [blk_setCell (blk_setCell h.blk _) _]
  simp

/-- What 'do' comes to at a disk: it is off; it goes off; or the act is done. -/
theorem do_D (b mb : Nat) (D : Dk) (f : FuncId) (caps : Array Value) (w : World) (h : DiskIs w b mb D) (hn : D.acts < 4611686018427387904) (R : Ending → World → Prop)
    (hf : ∀ args w1, (callFunc f args).run Try.prog w1 = .ok (.enter f args) w1)
    (h1 : D.tick.off = true → ∀ w', DiskIs w' b mb D.tick → Only (· = b) w w' → R (.returned (.int .i64 100)) w')
    (h2 : D.tick.off = false → ∀ w', DiskIs w' b mb D.tick → Only (· = b) w w' → w'.heap.size = w.heap.size → Calls Try.prog f caps w' fun e w2 => ∃ v, e = .returned v ∧ R e w2) :
    Calls Try.prog 35 #[.pointer (some ⟨b, 0, none⟩), .func (.func f) #[] caps] w R := by
  have hO : ∀ o, Only (· = b) w (((w.setCell ⟨b, 1, none⟩ (.int .i64 ((D.acts : Int) + 1))).setCell ⟨b, 3, none⟩ (.bool o)).drew) := fun o =>
    (((Only.refl (· = b) w).setCell (p := ⟨b, 1, none⟩) (fun _ => rfl) _).setCell (p := ⟨b, 3, none⟩) (fun _ => rfl) _).drew
  cases hoff : D.off with
  | true =>
    have ht : D.tick = D := by simp [Dk.tick, hoff]
    refine (do_off b f caps w (by rw [h.c3, hoff])).mono ?_
    rintro e w' ⟨rfl, rfl⟩
    exact h1 (by rw [ht, hoff]) w (by rw [ht]; exact h) (Only.refl _ _)
  | false =>
    by_cases ha : D.acts + 1 = D.armed
    · have ht : D.tick = { D with acts := D.acts + 1, off := true } := by simp [Dk.tick, hoff, ha]
      refine (do_arm b f caps w _ _ h.c1 h.c2 (by rw [h.c3, hoff]) (h.fr 1) (h.fr 3) (by omega) (by omega) (by rw [beq_iff_eq]; omega)).mono ?_
      rintro e w' ⟨rfl, rfl⟩
      exact h1 (by rw [ht]) _ (by rw [ht]; exact h.acted true) (hO true)
    · have ht : D.tick = { D with acts := D.acts + 1, off := false } := by simp [Dk.tick, hoff, ha]
      refine do_go b f caps w _ _ h.c1 h.c2 (by rw [h.c3, hoff]) (h.fr 1) (h.fr 3) (by omega) (by omega) (by rw [beq_eq_false_iff_ne]; omega) (fun _ => R) hf ?_
      exact h2 (by rw [ht]) _ (by rw [ht]; exact h.acted false) (hO false) (by simp [World.setCell])

theorem tick_files (D : Dk) : D.tick.files = D.files := by unfold Dk.tick; split <;> rfl

/-- The world behind a disk's call: its own two blocks alone have turned. -/
def Own (b mb : Nat) (k : Nat) : Prop := k = b ∨ k = mb
def DPost (b mb : Nat) (w : World) (r : Int × Dk) (e : Ending) (w' : World) : Prop := e = .returned (.int .i64 r.1) ∧ DiskIs w' b mb r.2 ∧ Only (Own b mb) w w'

theorem dpost {b mb : Nat} {w w' : World} {r : Int × Dk} {e : Ending} (h1 : e = .returned (.int .i64 r.1)) (h2 : DiskIs w' b mb r.2) (h3 : Only (Own b mb) w w') : DPost b mb w r e w' := ⟨h1, h2, h3⟩
theorem nil_append (s : ByteArray) : (⟨#[]⟩ : ByteArray) ++ s = s := ByteArray.empty_append
theorem own_l {b mb : Nat} : ∀ k, k = b → Own b mb k := fun _ h => .inl h
theorem own_r {b mb : Nat} : ∀ k, k = mb → Own b mb k := fun _ h => .inr h
theorem aget_mem {κ ν : Type} [DecidableEq κ] {m : List (κ × ν)} {k : κ} {v : ν} (h : aget m k = some v) : (k, v) ∈ m := by
  unfold aget at h
  rw [Option.map_eq_some_iff] at h
  obtain ⟨p, hp, rfl⟩ := h
  have h1 := List.find?_some hp
  have h2 := List.mem_of_find?_eq_some hp
  simp at h1
  subst h1
  exact h2

theorem append_do (b mb bd bn bs : Nat) (D : Dk) (name s : ByteArray) (w : World) (h : DiskIs w b mb D) (hD : D.Ok) (hln : name.size ≤ maxLen) (hls : s.size ≤ maxLen)
    (hd : w.cell? ⟨bd, 0, none⟩ = some (.pointer (some ⟨b, 0, none⟩))) (hn : w.cell? ⟨bn, 0, none⟩ = some (.string name)) (hs : w.cell? ⟨bs, 0, none⟩ = some (.string s)) (n1 : bd ≠ b) (n2 : bn ≠ b) (n3 : bs ≠ b) :
    Calls Try.prog 35 #[.pointer (some ⟨b, 0, none⟩), .func (.func 36) #[] #[.pointer (some ⟨bd, 0, none⟩), .pointer (some ⟨bn, 0, none⟩), .pointer (some ⟨bs, 0, none⟩)]] w (DPost b mb w (D.append name s)) := by
  refine do_D b mb D _ _ w h hD.acts _ (fun args w1 => by go_simp) ?_ ?_
  · intro ht w' h' ho
    unfold Dk.append
    rw [if_pos ht]
    exact ⟨rfl, h', ho.mono fun k _ => own_l k⟩
  · intro ht w' h' ho hsz
    have ld := World.block_lt_of_cell? w _ hd
    have ln := World.block_lt_of_cell? w _ hn
    have ls := World.block_lt_of_cell? w _ hs
    have hd' := (ho.cell (p := ⟨bd, 0, none⟩) ld n1).trans hd
    have hn' := (ho.cell (p := ⟨bn, 0, none⟩) ln n2).trans hn
    have hs' := (ho.cell (p := ⟨bs, 0, none⟩) ls n3).trans hs
    have hM := h'.map
    rw [tick_files] at hM
    have fin : ∀ (code : Int) (m : List (ByteArray × (ByteArray × Nat))) (r : Int × Dk), r = (code, { D.tick with files := m }) → ∀ e w2, (e = .returned (.int .i64 code) ∧ MapIs .string .string fv w2 mb m ∧ Only (· = mb) w' w2) → ∃ v, e = .returned v ∧ DPost b mb w r e w2 := by
      rintro code m r rfl e w2 ⟨rfl, hm, ho2⟩
      exact ⟨_, rfl, rfl, h'.put ho2 hm, ho.trans' ho2 (fun k _ => own_l k) (fun k _ => own_r k)⟩
    have same : ({ D.tick with files := D.files } : Dk) = D.tick := by conv => rhs; rw [show D.tick = { D.tick with files := D.tick.files } from rfl, tick_files]
    unfold Dk.append
    rw [if_neg (by rw [ht]; decide)]
    cases hnm : isNm name with
    | false =>
      cases hg : aget D.files name with
      | none => exact (app1_bad b mb bd bn bs name s (⟨#[]⟩, 0) false D.files w' hd' hn' hs' h'.c0 hM (.inr ⟨rfl, hg, rfl⟩) hln hnm).mono (fin _ _ _ (by simp [same]))
      | some z => exact (app1_bad b mb bd bn bs name s z true D.files w' hd' hn' hs' h'.c0 hM (.inl ⟨rfl, hg⟩) hln hnm).mono (fin _ _ _ (by simp [same]))
    | true =>
      have hm := hD.many
      cases hg : aget D.files name with
      | none =>
        by_cases h4 : 4 ≤ D.files.length
        · exact (app1_full b mb bd bn bs name s (⟨#[]⟩, 0) false D.files w' hd' hn' hs' h'.c0 hM (.inr ⟨rfl, hg, rfl⟩) hnm rfl h4 (by omega)).mono (fin _ _ _ (by simp [same, h4]))
        · by_cases h5 : 65536 < s.size
          · exact (app1_long b mb bd bn bs name s (⟨#[]⟩, 0) false D.files w' hd' hn' hs' h'.c0 hM (.inr ⟨rfl, hg, rfl⟩) hnm (fun _ => by omega) (by decide) hls (by show 65536 < 0 + s.size; omega)).mono (fin _ _ _ (by simp [same, h5]))
          · exact (app1_store b mb bd bn bs name s (⟨#[]⟩, 0) false D.files w' hd' hn' hs' h'.c0 hM (.inr ⟨rfl, hg, rfl⟩) hnm (fun _ => by omega) (by decide) (by show 0 + s.size ≤ 65536; omega)).mono (fin _ _ _ (by simp [h4, h5, nil_append]))
      | some z =>
        have hz := hD.bytes _ (aget_mem hg)
        by_cases h5 : 65536 < z.1.size + s.size
        · exact (app1_long b mb bd bn bs name s z true D.files w' hd' hn' hs' h'.c0 hM (.inl ⟨rfl, hg⟩) hnm (fun e => by cases e) hz hls h5).mono (fin _ _ _ (by simp [same, h5]))
        · exact (app1_store b mb bd bn bs name s z true D.files w' hd' hn' hs' h'.c0 hM (.inl ⟨rfl, hg⟩) hnm (fun e => by cases e) hz (by omega)).mono (fin _ _ _ (by simp [h5]))

set_option maxHeartbeats 1000000 in
theorem append_any (b mb : Nat) (D : Dk) (name s : ByteArray) (w : World) (h : DiskIs w b mb D) (hD : D.Ok) (hln : name.size ≤ maxLen) (hls : s.size ≤ maxLen) :
    Calls Try.prog 12 #[.pointer (some ⟨b, 0, none⟩), .string name, .string s] w (DPost b mb w (D.append name s)) := by
  have HC := append_do b mb w.heap.size (w.heap.size + 1) (w.heap.size + 2) D name s (((w.alloc (.cells #[.pointer (some ⟨b, 0, none⟩)] 23)).alloc (.cells #[.string name] 9)).alloc (.cells #[.string s] 9)) (((h.alloc _).alloc _).alloc _) hD hln hls
    (by go_simp) (by go_simp) (by go_simp) (by have := h.lt; omega) (by have := h.lt; omega) (by have := h.lt; omega)
  have H := Lib.hid HC
  clear HC
  have HW := Lib.hid (show Only (Own b mb) w (((w.alloc (.cells #[.pointer (some ⟨b, 0, none⟩)] 23)).alloc (.cells #[.string name] 9)).alloc (.cells #[.string s] 9)) from (((Only.refl _ w).alloc _).alloc _).alloc _)
  have hb := h.lt
  clear h
  go_enter Try.func12, Try.ntmps12
  go_wp2_with (go_at_call 35; refine H.out.mono ?_; rintro e w' ⟨rfl, hq, ho⟩)
  go_ret
  exact dpost rfl hq (HW.out.trans ho)
end Go.Proofs.Ytekkmfclaepcgaa

/- 'with': something is done with a file that there is. -/
import Derived.Test.YtekkmfclaepcgaaDiskD
set_option linter.unusedVariables false
namespace Go.Proofs.Ytekkmfclaepcgaa
open Go.RowKit

theorem tick_acts (D : Dk) : D.tick.acts = if D.off then D.acts else D.acts + 1 := by unfold Dk.tick; split <;> rfl

set_option maxHeartbeats 1000000 in
set_option maxRecDepth 100000 in
theorem with1_none (b mb bd bn ba g : Nat) (gc : Array Value) (name : ByteArray) (D : Dk) (w : World) (h : DiskIs w b mb D) (hg : aget D.files name = none)
    (hd : w.cell? ⟨bd, 0, none⟩ = some (.pointer (some ⟨b, 0, none⟩))) (hn : w.cell? ⟨bn, 0, none⟩ = some (.string name)) (ha : w.cell? ⟨ba, 0, none⟩ = some (.func (.func g) #[] gc)) :
    Calls Try.prog 51 #[.pointer (some ⟨bd, 0, none⟩), .pointer (some ⟨bn, 0, none⟩), .pointer (some ⟨ba, 0, none⟩)] w fun e w' =>
      e = .returned (.int .i64 101) ∧ DiskIs w' b mb D ∧ Only (fun _ => False) w w' := by
  have hlk : ∀ W : World, MapIs .string .string fv W mb D.files → (Instr.lookup 53 (.map (some mb)) (.string name) true).run Try.prog W = .ok (.tuple #[.agg #[.string ⟨#[]⟩, .int .i64 0], .bool false]) W := fun W hW => run_look_none keyK_string Try.underlying53 Try.underlying9 (zeroDF W) hW hg true
  have hk1 := hlk w.drew h.map.drew
  have hk2 := hlk (w.alloc (.cells #[.string ⟨#[]⟩, .int .i64 0] 58)).drew (h.map.alloc _).drew
  have l1 := World.block_lt_of_cell? w _ hd
  have l2 := World.block_lt_of_cell? w _ hn
  have l3 := World.block_lt_of_cell? w _ ha
  have l4 := h.lt
  have h0 := h.c0
  simp only at l1 l2 l3
  have HD := Lib.hid (h.alloc (.cells #[.string ⟨#[]⟩, .int .i64 0] 58)).drew
  clear hlk h hg
  go_enter Try.func51, Try.ntmps51
  go_wp2
  go_region
  all_goals go_wp2
  all_goals (go_ret; exact ⟨rfl, HD.out, ((Only.refl _ w).alloc _).drew⟩)

set_option maxHeartbeats 1000000 in
set_option maxRecDepth 100000 in
theorem with1_some (b mb bd bn ba g : Nat) (gc : Array Value) (name : ByteArray) (z : ByteArray × Nat) (D : Dk) (w : World) (h : DiskIs w b mb D) (hz : aget D.files name = some z)
    (hd : w.cell? ⟨bd, 0, none⟩ = some (.pointer (some ⟨b, 0, none⟩))) (hn : w.cell? ⟨bn, 0, none⟩ = some (.string name)) (ha : w.cell? ⟨ba, 0, none⟩ = some (.func (.func g) #[] gc))
    (hf : ∀ args w1, (callFunc g args).run Try.prog w1 = .ok (.enter g args) w1) (R : Ending → World → Prop)
    (hr : ∀ w', DiskIs w' b mb D → Only (fun _ => False) w w' → Calls Try.prog g (#[.agg #[.string z.1, .int .i64 z.2]] ++ gc) w' fun e w2 => ∃ v, e = .returned v ∧ R e w2) :
    Calls Try.prog 51 #[.pointer (some ⟨bd, 0, none⟩), .pointer (some ⟨bn, 0, none⟩), .pointer (some ⟨ba, 0, none⟩)] w R := by
  obtain ⟨zb, zn⟩ := z
  have hlk : ∀ W : World, MapIs .string .string fv W mb D.files → (Instr.lookup 53 (.map (some mb)) (.string name) true).run Try.prog W = .ok (.tuple #[.agg #[.string zb, .int .i64 zn], .bool true]) W := fun W hW => run_look_some keyK_string Try.underlying53 Try.underlying9 hW hz true
  have hk1 := hlk w.drew h.map.drew
  have hk2 := hlk (w.alloc (.cells #[.string ⟨#[]⟩, .int .i64 0] 58)).drew (h.map.alloc _).drew
  have l1 := World.block_lt_of_cell? w _ hd
  have l2 := World.block_lt_of_cell? w _ hn
  have l3 := World.block_lt_of_cell? w _ ha
  have l4 := h.lt
  have h0 := h.c0
  simp only at l1 l2 l3
  have HR := Lib.hid (hr (w.alloc (.cells #[.string zb, .int .i64 zn] 58)).drew (h.alloc _).drew ((Only.refl _ w).alloc _).drew)
  clear hlk h hz hr
  go_enter Try.func51, Try.ntmps51
  go_wp2
  go_region
  all_goals go_wp2
  all_goals (refine HR.out.mono ?_; rintro e w' ⟨v, rfl, hR⟩)
  all_goals go_wp2
  all_goals exact hR

/-- What 'with' comes to at a disk. -/
theorem with_D (b mb : Nat) (D : Dk) (name : ByteArray) (g : FuncId) (gc : Array Value) (w : World) (h : DiskIs w b mb D) (hn : D.acts < 4611686018427387904) (R : Ending → World → Prop)
    (hf : ∀ args w1, (callFunc g args).run Try.prog w1 = .ok (.enter g args) w1)
    (h1 : D.tick.off = true → ∀ w', DiskIs w' b mb D.tick → Only (· = b) w w' → R (.returned (.int .i64 100)) w')
    (h2 : D.tick.off = false → aget D.files name = none → ∀ w', DiskIs w' b mb D.tick → Only (· = b) w w' → R (.returned (.int .i64 101)) w')
    (h3 : D.tick.off = false → ∀ z, aget D.files name = some z → ∀ w', DiskIs w' b mb D.tick → Only (· = b) w w' → Calls Try.prog g (#[.agg #[.string z.1, .int .i64 z.2]] ++ gc) w' fun e w2 => ∃ v, e = .returned v ∧ R e w2) :
    Calls Try.prog 40 #[.pointer (some ⟨b, 0, none⟩), .string name, .func (.func g) #[] gc] w R := by
  have lb := h.lt
  have HW := (show Only (· = b) w (((w.alloc (.cells #[.pointer (some ⟨b, 0, none⟩)] 23)).alloc (.cells #[.string name] 9)).alloc (.cells #[.func (.func g) #[] gc] 67)) from (((Only.refl _ w).alloc _).alloc _).alloc _)
  have HC : Calls Try.prog 35 #[.pointer (some ⟨b, 0, none⟩), .func (.func 51) #[] #[.pointer (some ⟨w.heap.size, 0, none⟩), .pointer (some ⟨w.heap.size + 1, 0, none⟩), .pointer (some ⟨w.heap.size + 2, 0, none⟩)]]
      (((w.alloc (.cells #[.pointer (some ⟨b, 0, none⟩)] 23)).alloc (.cells #[.string name] 9)).alloc (.cells #[.func (.func g) #[] gc] 67)) (fun e w' => ∃ v, e = .returned v ∧ R e w') := by
    refine do_D b mb D _ _ _ (((h.alloc _).alloc _).alloc _) hn _ (fun args w1 => by go_simp) ?_ ?_
    · intro ht w' h' ho
      exact ⟨_, rfl, h1 ht w' h' (HW.trans ho)⟩
    · intro ht w' h' ho hsz
      have sz := hsz
      simp only [World.size_alloc] at sz
      have c1 := (ho.cell (p := ⟨w.heap.size, 0, none⟩) (by simp; omega) (by simp; omega)).trans (show _ = some (Value.pointer (some ⟨b, 0, none⟩)) by go_simp)
      have c2 := (ho.cell (p := ⟨w.heap.size + 1, 0, none⟩) (by simp) (by simp; omega)).trans (show _ = some (Value.string name) by go_simp)
      have c3 := (ho.cell (p := ⟨w.heap.size + 2, 0, none⟩) (by simp) (by simp; omega)).trans (show _ = some (Value.func (.func g) #[] gc) by go_simp)
      cases hg : aget D.files name with
      | none =>
        refine (with1_none b mb _ _ _ g gc name D.tick w' h' (by rw [tick_files]; exact hg) c1 c2 c3).mono ?_
        rintro e w2 ⟨rfl, h'', ho'⟩
        exact ⟨_, rfl, _, rfl, h2 ht hg w2 h'' ((HW.trans ho).trans' ho' (fun _ _ q => q) (fun _ _ q => q.elim))⟩
      | some z =>
        refine with1_some b mb _ _ _ g gc name z D.tick w' h' (by rw [tick_files]; exact hg) c1 c2 c3 hf _ ?_
        intro w2 h'' ho'
        refine (h3 ht z hg w2 h'' ((HW.trans ho).trans' ho' (fun _ _ q => q) (fun _ _ q => q.elim))).mono ?_
        rintro e w3 ⟨v, rfl, hR⟩
        exact ⟨_, rfl, _, rfl, _, rfl, hR⟩
  have H := Lib.hid HC
  clear HC h h1 h2 h3 hf HW
  go_enter Try.func40, Try.ntmps40
  go_wp2_with (go_at_call 35; refine H.out.mono ?_; rintro e w' ⟨v, rfl, hR⟩)
  exact hR

theorem same_files (D : Dk) : ({ D.tick with files := D.files } : Dk) = D.tick := by conv => rhs; rw [show D.tick = { D.tick with files := D.tick.files } from rfl, tick_files]

set_option maxHeartbeats 1000000 in
set_option maxRecDepth 100000 in
/-- 'd.files[name] = f' at the end of Sync. -/
theorem sync1 (b mb bd bn : Nat) (name : ByteArray) (z : ByteArray × Nat) (m : List (ByteArray × (ByteArray × Nat))) (w : World) (hsz : z.1.size ≤ 65536)
    (hd : w.cell? ⟨bd, 0, none⟩ = some (.pointer (some ⟨b, 0, none⟩))) (hn : w.cell? ⟨bn, 0, none⟩ = some (.string name)) (h0 : w.cell? ⟨b, 0, none⟩ = some (.map (some mb))) (hM : MapIs .string .string fv w mb m) :
    Calls Try.prog 41 #[.agg #[.string z.1, .int .i64 z.2], .pointer (some ⟨bd, 0, none⟩), .pointer (some ⟨bn, 0, none⟩)] w fun e w' =>
      e = .returned (.int .i64 0) ∧ MapIs .string .string fv w' mb (aput m name (z.1, z.1.size)) ∧ Only (· = mb) w w' := by
  obtain ⟨zb, zn⟩ := z
  simp only at hsz ⊢
  have l1 := World.block_lt_of_cell? w _ hd
  have l2 := World.block_lt_of_cell? w _ hn
  have l4 := World.block_lt_of_cell? w _ h0
  simp only at l1 l2 l4
  obtain ⟨o, hu, hM'⟩ := run_update_mapIs (P := Try.prog) keyK_string Try.underlying53 Try.underlying9 ((hM.alloc (.cells #[.string zb, .int .i64 zb.size] 58)).drew) name (zb, zb.size)
  simp only [fv] at hu
  have HO := Lib.hid (show Only (· = mb) w (putM (w.alloc (.cells #[.string zb, .int .i64 zb.size] 58)).drew mb o) from (((Only.refl (· = mb) w).alloc _).drew.putM (fun _ => rfl) o))
  have HM := Lib.hid hM'
  clear hM' hM
  go_enter Try.func41, Try.ntmps41
  go_wp2
  go_region
  go_wp2
  go_ret
  exact ⟨rfl, HM.out, HO.out⟩

set_option maxHeartbeats 1000000 in
theorem sync_any (b mb : Nat) (D : Dk) (name : ByteArray) (w : World) (h : DiskIs w b mb D) (hD : D.Ok) :
    Calls Try.prog 16 #[.pointer (some ⟨b, 0, none⟩), .string name] w (DPost b mb w (D.sync name)) := by
  have lb := h.lt
  have HW := (show Only (Own b mb) w ((w.alloc (.cells #[.pointer (some ⟨b, 0, none⟩)] 23)).alloc (.cells #[.string name] 9)) from ((Only.refl _ w).alloc _).alloc _)
  have HC : Calls Try.prog 40 #[.pointer (some ⟨b, 0, none⟩), .string name, .func (.func 41) #[] #[.pointer (some ⟨w.heap.size, 0, none⟩), .pointer (some ⟨w.heap.size + 1, 0, none⟩)]]
      ((w.alloc (.cells #[.pointer (some ⟨b, 0, none⟩)] 23)).alloc (.cells #[.string name] 9)) (DPost b mb w (D.sync name)) := by
    refine with_D b mb D name _ _ _ ((h.alloc _).alloc _) hD.acts _ (fun args w1 => by go_simp) ?_ ?_ ?_
    · intro ht w' h' ho
      exact dpost (by simp [Dk.sync, ht]) (by simpa [Dk.sync, ht] using h') (HW.trans (ho.mono fun k _ => own_l k))
    · intro ht hg w' h' ho
      exact dpost (by simp [Dk.sync, ht, hg]) (by simpa [Dk.sync, ht, hg] using h') (HW.trans (ho.mono fun k _ => own_l k))
    · intro ht z hg w' h' ho
      have sz := ho.size
      simp only [World.size_alloc] at sz
      have c1 := (ho.cell (p := ⟨w.heap.size, 0, none⟩) (by simp; omega) (by simp; omega)).trans (show _ = some (Value.pointer (some ⟨b, 0, none⟩)) by go_simp)
      have c2 := (ho.cell (p := ⟨w.heap.size + 1, 0, none⟩) (by simp) (by simp; omega)).trans (show _ = some (Value.string name) by go_simp)
      refine (sync1 b mb _ _ name z D.tick.files w' (hD.bytes _ (aget_mem hg)) c1 c2 h'.c0 h'.map).mono ?_
      rintro e w2 ⟨rfl, hm, ho2⟩
      refine ⟨_, rfl, dpost (by simp [Dk.sync, ht, hg]) ?_ (HW.trans (ho.trans' ho2 (fun k _ => own_l k) (fun k _ => own_r k)))⟩
      have := h'.put ho2 hm
      simpa [Dk.sync, ht, hg, tick_files] using this
  have H := Lib.hid HC
  clear HC h HW
  go_enter Try.func16, Try.ntmps16
  go_wp2_with (go_at_call 40; refine H.out.mono ?_; rintro e w' ⟨rfl, hq, ho⟩)
  go_ret
  exact dpost rfl hq ho
end Go.Proofs.Ytekkmfclaepcgaa

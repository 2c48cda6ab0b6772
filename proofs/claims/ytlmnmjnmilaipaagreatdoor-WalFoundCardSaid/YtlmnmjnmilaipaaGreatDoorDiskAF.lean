/- The small functions of package disk: what each call does to the world. -/
import Derived.Test.YtlmnmjnmilaipaaGreatDoorRows
import Derived.WalkKit
import Derived.WalkSpells
import Derived.WalkLawsBesides
import Derived.Lib.Hide
import Derived.RegionTactic
import Derived.ChangeAlike
import Derived.Test.YtlmnmjnmilaipaaGreatDoorDiskPl
import Derived.Test.YtlmnmjnmilaipaaGreatDoorOnly
namespace Go.Proofs.YtlmnmjnmilaipaaGreatDoor
open Go.RowKit

set_option maxHeartbeats 400000 in
theorem off_any (b : Nat) (o : Bool) (w : World) (h : w.cell? ⟨b, 3, none⟩ = some (.bool o)) :
    Calls Tryz.prog 29 #[.pointer (some ⟨b, 0, none⟩)] w fun e w' => e = .returned (.bool o) ∧ w = w' := by
  go_enter Tryz.func29, Tryz.ntmps29
  go_wp2
  go_ret
  exact ⟨rfl, rfl⟩

set_option maxHeartbeats 400000 in
theorem acts_any (b : Nat) (n : Int) (w : World) (h : w.cell? ⟨b, 1, none⟩ = some (.int .i64 n)) :
    Calls Tryz.prog 27 #[.pointer (some ⟨b, 0, none⟩)] w fun e w' => e = .returned (.int .i64 n) ∧ w = w' := by
  go_enter Tryz.func27, Tryz.ntmps27
  go_wp2
  go_ret
  exact ⟨rfl, rfl⟩

theorem ret_bool {a b : Bool} (h : a = b) : Ending.returned (.bool a) = .returned (.bool b) := by rw [h]
theorem ret_int {k : IntKind} {a b : Int} (h : a = b) : Ending.returned (.int k a) = .returned (.int k b) := by rw [h]
theorem size_toList (s : ByteArray) : s.toList.length = s.size := by rw [ByteArray.toList_eq, Array.length_toList]; rfl
theorem not_empty (s : ByteArray) (h0 : 0 < s.size) : s.toList.isEmpty = false := by
  rw [List.isEmpty_eq_false_iff]; intro e
  have := size_toList s
  rw [e] at this
  simp at this
  omega
theorem is_empty (s : ByteArray) (h0 : s.size = 0) : s.toList.isEmpty = true := by
  rw [List.isEmpty_iff]
  exact List.eq_nil_of_length_eq_zero (by rw [size_toList, h0])

set_option maxHeartbeats 400000 in
theorem isName_yes (s : ByteArray) (h0 : 0 < s.size) (h1 : s.size ≤ 12) (w : World) :
    Calls Tryz.prog 48 #[.string s] w fun e w' => e = .returned (.bool true) ∧ w = w' := by
  have hne := not_empty s h0
  go_enter Tryz.func48, Tryz.ntmps48
  go_wp2
  go_ret
  exact ⟨ret_bool (by simp; omega), rfl⟩

set_option maxHeartbeats 400000 in
theorem isName_no (s : ByteArray) (hs : s.size ≤ maxLen) (h : s.size = 0 ∨ 12 < s.size) (w : World) :
    Calls Tryz.prog 48 #[.string s] w fun e w' => e = .returned (.bool false) ∧ w = w' := by
  unfold maxLen at hs
  rcases h with h | h
  · have hne := is_empty s h
    go_enter Tryz.func48, Tryz.ntmps48
    go_wp2
    go_ret
    exact ⟨rfl, rfl⟩
  · have hne := not_empty s (by omega)
    go_enter Tryz.func48, Tryz.ntmps48
    go_wp2
    go_ret
    exact ⟨ret_bool (by simp; omega), rfl⟩

set_option maxHeartbeats 400000 in
theorem new_any (w : World) :
    Calls Tryz.prog 10 #[] w fun e w' => e = .returned (.pointer (some ⟨w.heap.size + 1, 0, none⟩)) ∧ w' = (w.alloc (.map #[] 0)).alloc (.cells #[.map (some w.heap.size), .int .i64 0, .int .i64 0, .bool false] 60) := by
  have hmm := @run_makeMap Tryz.prog
  go_enter Tryz.func10, Tryz.ntmps10
  go_wp2
  go_ret
  exact ⟨rfl, rfl⟩
end Go.Proofs.YtlmnmjnmilaipaaGreatDoor
/- What 'do' of a disk does: off, going off, or doing the act. -/
namespace Go.Proofs.YtlmnmjnmilaipaaGreatDoor
open Go.RowKit

set_option maxHeartbeats 400000 in
theorem do_off (b : Nat) (f : FuncId) (caps : Array Value) (w : World) (h : w.cell? ⟨b, 3, none⟩ = some (.bool true)) :
    Calls Tryz.prog 46 #[.pointer (some ⟨b, 0, none⟩), .func (.func f) #[] caps] w fun e w' => e = .returned (.int .i64 100) ∧ w = w' := by
  go_enter Tryz.func46, Tryz.ntmps46
  go_wp2
  go_ret
  exact ⟨rfl, rfl⟩

set_option maxHeartbeats 400000 in
theorem do_arm (b : Nat) (f : FuncId) (caps : Array Value) (w : World) (n m : Int) (h1 : w.cell? ⟨b, 1, none⟩ = some (.int .i64 n)) (h2 : w.cell? ⟨b, 2, none⟩ = some (.int .i64 m)) (h3 : w.cell? ⟨b, 3, none⟩ = some (.bool false))
    (g1 : w.frozen? ⟨b, 1, none⟩ = false) (g3 : w.frozen? ⟨b, 3, none⟩ = false) (hn0 : 0 ≤ n) (hn : n < 4611686018427387904) (hm : (n + 1 == m) = true) :
    Calls Tryz.prog 46 #[.pointer (some ⟨b, 0, none⟩), .func (.func f) #[] caps] w fun e w' => e = .returned (.int .i64 100) ∧ w' = ((w.setCell ⟨b, 1, none⟩ (.int .i64 (n + 1))).setCell ⟨b, 3, none⟩ (.bool true)).drew := by
  go_enter Tryz.func46, Tryz.ntmps46
  go_wp2
  go_region
  all_goals go_wp2
  all_goals go_ret
  all_goals exact ⟨rfl, rfl⟩

set_option maxHeartbeats 400000 in
theorem do_go (b : Nat) (f : FuncId) (caps : Array Value) (w : World) (n m : Int) (h1 : w.cell? ⟨b, 1, none⟩ = some (.int .i64 n)) (h2 : w.cell? ⟨b, 2, none⟩ = some (.int .i64 m)) (h3 : w.cell? ⟨b, 3, none⟩ = some (.bool false))
    (g1 : w.frozen? ⟨b, 1, none⟩ = false) (g3 : w.frozen? ⟨b, 3, none⟩ = false) (hn0 : 0 ≤ n) (hn : n < 4611686018427387904) (hm : (n + 1 == m) = false) (R : World → Ending → World → Prop)
    (hf : ∀ args w1, (callFunc f args).run Tryz.prog w1 = .ok (.enter f args) w1)
    (hr : Calls Tryz.prog f caps ((w.setCell ⟨b, 1, none⟩ (.int .i64 (n + 1))).setCell ⟨b, 3, none⟩ (.bool false)).drew fun e w' => ∃ v, e = .returned v ∧ R w e w') :
    Calls Tryz.prog 46 #[.pointer (some ⟨b, 0, none⟩), .func (.func f) #[] caps] w fun e w' => R w e w' := by
  have H := Lib.hid hr
  clear hr
  go_enter Tryz.func46, Tryz.ntmps46
  go_wp2
  go_region
  go_wp2
  refine H.out.mono ?_
  rintro e w' ⟨v, rfl, hR⟩
  go_wp2
  exact hR
end Go.Proofs.YtlmnmjnmilaipaaGreatDoor
/- Append on a disk. -/
set_option linter.unusedVariables false
namespace Go.Proofs.YtlmnmjnmilaipaaGreatDoor
open Go.RowKit

theorem zeroDF (w : World) : (zeroValue 83).run Tryz.prog w = .ok (.agg #[.string ⟨#[]⟩, .int .i64 0]) w := by kernel_rfl

set_option maxHeartbeats 1000000 in
set_option maxRecDepth 100000 in
theorem app1_bad (b mb bd bn bs : Nat) (name s : ByteArray) (z : ByteArray × Nat) (ok : Bool) (m : List (ByteArray × (ByteArray × Nat))) (w : World)
    (hd : w.cell? ⟨bd, 0, none⟩ = some (.pointer (some ⟨b, 0, none⟩))) (hn : w.cell? ⟨bn, 0, none⟩ = some (.string name)) (hs : w.cell? ⟨bs, 0, none⟩ = some (.string s))
    (hb : w.cell? ⟨b, 0, none⟩ = some (.map (some mb))) (hM : MapIs .string .string fv w mb m)
    (hz : (ok = true ∧ aget m name = some z) ∨ (ok = false ∧ aget m name = none ∧ z = (⟨#[]⟩, 0))) (hl : name.size ≤ maxLen) (h1 : isNm name = false) :
    Calls Tryz.prog 47 #[.pointer (some ⟨bd, 0, none⟩), .pointer (some ⟨bn, 0, none⟩), .pointer (some ⟨bs, 0, none⟩)] w fun e w' =>
      e = .returned (.int .i64 1) ∧ MapIs .string .string fv w' mb m ∧ Only (· = mb) w w' := by
  obtain ⟨zb, zn⟩ := z
  have hlk : ∀ W : World, MapIs .string .string fv W mb m → (Instr.lookup 58 (.map (some mb)) (.string name) true).run Tryz.prog W = .ok (.tuple #[.agg #[.string zb, .int .i64 zn], .bool ok]) W := by
    intro W hW
    rcases hz with ⟨rfl, hg⟩ | ⟨rfl, hg, hz⟩
    · exact run_look_some keyK_string Tryz.underlying58 Tryz.underlying9 hW hg true
    · cases hz
      exact run_look_none keyK_string Tryz.underlying58 Tryz.underlying9 (zeroDF W) hW hg true
  have hk1 := hlk w.drew hM.drew
  have hk2 := hlk (w.alloc (.cells #[.string ⟨#[]⟩, .int .i64 0] 83)).drew (hM.alloc _).drew
  have hlen := run_len_mapIs (P := Tryz.prog) Tryz.underlying58 ((hM.alloc (.cells #[.string zb, .int .i64 zn] 83)).drew) 3
  have l1 := World.block_lt_of_cell? w _ hd
  have l2 := World.block_lt_of_cell? w _ hn
  have l3 := World.block_lt_of_cell? w _ hs
  have l4 := World.block_lt_of_cell? w _ hb
  simp only at l1 l2 l3 l4
  clear hlk hz
  have h1' : name.size = 0 ∨ 12 < name.size := by simp [isNm] at h1; omega
  clear h1 hlen
  have HM := Lib.hid ((hM.alloc (.cells #[.string zb, .int .i64 zn] 83)).drew)
  clear hM
  go_enter Tryz.func47, Tryz.ntmps47
  go_wp2
  go_region
  all_goals (go_wp2_with (go_at_call 48; refine (isName_no name hl h1' _).mono ?_; rintro e w' ⟨rfl, rfl⟩))
  all_goals (go_ret; exact ⟨rfl, HM.out, ((Only.refl _ w).alloc _).drew⟩)

set_option maxHeartbeats 1000000 in
set_option maxRecDepth 100000 in
theorem app1_full (b mb bd bn bs : Nat) (name s : ByteArray) (z : ByteArray × Nat) (ok : Bool) (m : List (ByteArray × (ByteArray × Nat))) (w : World)
    (hd : w.cell? ⟨bd, 0, none⟩ = some (.pointer (some ⟨b, 0, none⟩))) (hn : w.cell? ⟨bn, 0, none⟩ = some (.string name)) (hs : w.cell? ⟨bs, 0, none⟩ = some (.string s))
    (hb : w.cell? ⟨b, 0, none⟩ = some (.map (some mb))) (hM : MapIs .string .string fv w mb m)
    (hz : (ok = true ∧ aget m name = some z) ∨ (ok = false ∧ aget m name = none ∧ z = (⟨#[]⟩, 0))) (h1 : isNm name = true) (hok : ok = false) (hm : 4 ≤ m.length) (hmx : m.length ≤ 9) :
    Calls Tryz.prog 47 #[.pointer (some ⟨bd, 0, none⟩), .pointer (some ⟨bn, 0, none⟩), .pointer (some ⟨bs, 0, none⟩)] w fun e w' =>
      e = .returned (.int .i64 102) ∧ MapIs .string .string fv w' mb m ∧ Only (· = mb) w w' := by
  obtain ⟨zb, zn⟩ := z
  have hlk : ∀ W : World, MapIs .string .string fv W mb m → (Instr.lookup 58 (.map (some mb)) (.string name) true).run Tryz.prog W = .ok (.tuple #[.agg #[.string zb, .int .i64 zn], .bool ok]) W := by
    intro W hW
    rcases hz with ⟨rfl, hg⟩ | ⟨rfl, hg, hz⟩
    · exact run_look_some keyK_string Tryz.underlying58 Tryz.underlying9 hW hg true
    · cases hz
      exact run_look_none keyK_string Tryz.underlying58 Tryz.underlying9 (zeroDF W) hW hg true
  have hk1 := hlk w.drew hM.drew
  have hk2 := hlk (w.alloc (.cells #[.string ⟨#[]⟩, .int .i64 0] 83)).drew (hM.alloc _).drew
  have hlen := run_len_mapIs (P := Tryz.prog) Tryz.underlying58 ((hM.alloc (.cells #[.string zb, .int .i64 zn] 83)).drew) 3
  have l1 := World.block_lt_of_cell? w _ hd
  have l2 := World.block_lt_of_cell? w _ hn
  have l3 := World.block_lt_of_cell? w _ hs
  have l4 := World.block_lt_of_cell? w _ hb
  simp only at l1 l2 l3 l4
  clear hlk hz
  obtain ⟨h1a, h1b⟩ : 0 < name.size ∧ name.size ≤ 12 := by simpa [isNm] using h1
  clear h1
  subst hok
  have HM := Lib.hid ((hM.alloc (.cells #[.string zb, .int .i64 zn] 83)).drew)
  clear hM
  go_enter Tryz.func47, Tryz.ntmps47
  go_wp2
  go_region
  all_goals (go_wp2_with (go_at_call 48; refine (isName_yes name h1a h1b _).mono ?_; rintro e w' ⟨rfl, rfl⟩))
  all_goals (go_ret; exact ⟨rfl, HM.out, ((Only.refl _ w).alloc _).drew⟩)

set_option maxHeartbeats 1000000 in
set_option maxRecDepth 100000 in
theorem app1_long (b mb bd bn bs : Nat) (name s : ByteArray) (z : ByteArray × Nat) (ok : Bool) (m : List (ByteArray × (ByteArray × Nat))) (w : World)
    (hd : w.cell? ⟨bd, 0, none⟩ = some (.pointer (some ⟨b, 0, none⟩))) (hn : w.cell? ⟨bn, 0, none⟩ = some (.string name)) (hs : w.cell? ⟨bs, 0, none⟩ = some (.string s))
    (hb : w.cell? ⟨b, 0, none⟩ = some (.map (some mb))) (hM : MapIs .string .string fv w mb m)
    (hz : (ok = true ∧ aget m name = some z) ∨ (ok = false ∧ aget m name = none ∧ z = (⟨#[]⟩, 0))) (h1 : isNm name = true) (hm : ok = false → m.length < 4) (hl : z.1.size ≤ 65536) (hsl : s.size ≤ maxLen) (hfit : 65536 < z.1.size + s.size) :
    Calls Tryz.prog 47 #[.pointer (some ⟨bd, 0, none⟩), .pointer (some ⟨bn, 0, none⟩), .pointer (some ⟨bs, 0, none⟩)] w fun e w' =>
      e = .returned (.int .i64 102) ∧ MapIs .string .string fv w' mb m ∧ Only (· = mb) w w' := by
  obtain ⟨zb, zn⟩ := z
  have hlk : ∀ W : World, MapIs .string .string fv W mb m → (Instr.lookup 58 (.map (some mb)) (.string name) true).run Tryz.prog W = .ok (.tuple #[.agg #[.string zb, .int .i64 zn], .bool ok]) W := by
    intro W hW
    rcases hz with ⟨rfl, hg⟩ | ⟨rfl, hg, hz⟩
    · exact run_look_some keyK_string Tryz.underlying58 Tryz.underlying9 hW hg true
    · cases hz
      exact run_look_none keyK_string Tryz.underlying58 Tryz.underlying9 (zeroDF W) hW hg true
  have hk1 := hlk w.drew hM.drew
  have hk2 := hlk (w.alloc (.cells #[.string ⟨#[]⟩, .int .i64 0] 83)).drew (hM.alloc _).drew
  have hlen := run_len_mapIs (P := Tryz.prog) Tryz.underlying58 ((hM.alloc (.cells #[.string zb, .int .i64 zn] 83)).drew) 3
  have l1 := World.block_lt_of_cell? w _ hd
  have l2 := World.block_lt_of_cell? w _ hn
  have l3 := World.block_lt_of_cell? w _ hs
  have l4 := World.block_lt_of_cell? w _ hb
  simp only at l1 l2 l3 l4
  clear hlk hz
  unfold maxLen at hsl
  obtain ⟨h1a, h1b⟩ : 0 < name.size ∧ name.size ≤ 12 := by simpa [isNm] using h1
  clear h1
  simp only at hl hfit
  have HM := Lib.hid ((hM.alloc (.cells #[.string zb, .int .i64 zn] 83)).drew)
  clear hM
  cases ok
  · have hm' := hm rfl
    clear hm
    go_enter Tryz.func47, Tryz.ntmps47
    go_wp2
    go_region
    all_goals (go_wp2_with (go_at_call 48; refine (isName_yes name h1a h1b _).mono ?_; rintro e w' ⟨rfl, rfl⟩))
    all_goals (go_ret; exact ⟨rfl, HM.out, ((Only.refl _ w).alloc _).drew⟩)
  · clear hm hlen
    go_enter Tryz.func47, Tryz.ntmps47
    go_wp2
    go_region
    all_goals (go_wp2_with (go_at_call 48; refine (isName_yes name h1a h1b _).mono ?_; rintro e w' ⟨rfl, rfl⟩))
    all_goals (go_ret; exact ⟨rfl, HM.out, ((Only.refl _ w).alloc _).drew⟩)

set_option maxHeartbeats 1000000 in
set_option maxRecDepth 100000 in
theorem app1_store (b mb bd bn bs : Nat) (name s : ByteArray) (z : ByteArray × Nat) (ok : Bool) (m : List (ByteArray × (ByteArray × Nat))) (w : World)
    (hd : w.cell? ⟨bd, 0, none⟩ = some (.pointer (some ⟨b, 0, none⟩))) (hn : w.cell? ⟨bn, 0, none⟩ = some (.string name)) (hs : w.cell? ⟨bs, 0, none⟩ = some (.string s))
    (hb : w.cell? ⟨b, 0, none⟩ = some (.map (some mb))) (hM : MapIs .string .string fv w mb m)
    (hz : (ok = true ∧ aget m name = some z) ∨ (ok = false ∧ aget m name = none ∧ z = (⟨#[]⟩, 0))) (h1 : isNm name = true) (hm : ok = false → m.length < 4) (hl : z.1.size ≤ 65536) (hfit : z.1.size + s.size ≤ 65536) :
    Calls Tryz.prog 47 #[.pointer (some ⟨bd, 0, none⟩), .pointer (some ⟨bn, 0, none⟩), .pointer (some ⟨bs, 0, none⟩)] w fun e w' =>
      e = .returned (.int .i64 0) ∧ MapIs .string .string fv w' mb (aput m name (z.1 ++ s, z.2)) ∧ Only (· = mb) w w' := by
  obtain ⟨zb, zn⟩ := z
  have hlk : ∀ W : World, MapIs .string .string fv W mb m → (Instr.lookup 58 (.map (some mb)) (.string name) true).run Tryz.prog W = .ok (.tuple #[.agg #[.string zb, .int .i64 zn], .bool ok]) W := by
    intro W hW
    rcases hz with ⟨rfl, hg⟩ | ⟨rfl, hg, hz⟩
    · exact run_look_some keyK_string Tryz.underlying58 Tryz.underlying9 hW hg true
    · cases hz
      exact run_look_none keyK_string Tryz.underlying58 Tryz.underlying9 (zeroDF W) hW hg true
  have hk1 := hlk w.drew hM.drew
  have hk2 := hlk (w.alloc (.cells #[.string ⟨#[]⟩, .int .i64 0] 83)).drew (hM.alloc _).drew
  have hlen := run_len_mapIs (P := Tryz.prog) Tryz.underlying58 ((hM.alloc (.cells #[.string zb, .int .i64 zn] 83)).drew) 3
  have l1 := World.block_lt_of_cell? w _ hd
  have l2 := World.block_lt_of_cell? w _ hn
  have l3 := World.block_lt_of_cell? w _ hs
  have l4 := World.block_lt_of_cell? w _ hb
  simp only at l1 l2 l3 l4
  clear hlk hz
  obtain ⟨h1a, h1b⟩ : 0 < name.size ∧ name.size ≤ 12 := by simpa [isNm] using h1
  clear h1
  simp only at hl hfit
  obtain ⟨o, hu, hM'⟩ := run_update_mapIs (P := Tryz.prog) keyK_string Tryz.underlying58 Tryz.underlying9 ((hM.alloc (.cells #[.string (zb ++ s), .int .i64 zn] 83)).drew.drew) name (zb ++ s, zn)
  simp only [fv] at hu
  have HO := Lib.hid (show Only (· = mb) w (putM (w.alloc (.cells #[.string (zb ++ s), .int .i64 zn] 83)).drew.drew mb o) from (((Only.refl (· = mb) w).alloc _).drew.drew.putM (fun _ => rfl) o))
  have HM := Lib.hid hM'
  clear hM' hM
  cases ok
  · have hm' := hm rfl
    clear hm
    go_enter Tryz.func47, Tryz.ntmps47
    go_wp2
    go_region
    all_goals (go_wp2_with (go_at_call 48; refine (isName_yes name h1a h1b _).mono ?_; rintro e w' ⟨rfl, rfl⟩))
    all_goals (go_region; go_wp2; go_ret; exact ⟨rfl, HM.out, HO.out⟩)
  · clear hm hlen
    go_enter Tryz.func47, Tryz.ntmps47
    go_wp2
    go_region
    all_goals (go_wp2_with (go_at_call 48; refine (isName_yes name h1a h1b _).mono ?_; rintro e w' ⟨rfl, rfl⟩))
    all_goals (go_region; go_wp2; go_ret; exact ⟨rfl, HM.out, HO.out⟩)
end Go.Proofs.YtlmnmjnmilaipaaGreatDoor
/- A disk in memory; Append. -/
set_option linter.unusedVariables false
namespace Go.Proofs.YtlmnmjnmilaipaaGreatDoor
open Go.RowKit

/-- Block b is a disk, its files in the map mb. -/
structure DiskIs (w : World) (b mb : Nat) (D : Dk) : Prop where
  blk : w.heap[b]? = some (.cells #[.map (some mb), .int .i64 D.acts, .int .i64 D.armed, .bool D.off] 60)
  map : MapIs .string .string fv w mb D.files

theorem DiskIs.ne {w : World} {b mb : Nat} {D : Dk} (h : DiskIs w b mb D) : b ≠ mb := by
  rintro rfl
  obtain ⟨es, c, h1, _⟩ := h.map
  rw [h.blk] at h1
  cases h1
theorem DiskIs.lt {w : World} {b mb : Nat} {D : Dk} (h : DiskIs w b mb D) : b < w.heap.size := (Array.getElem?_eq_some_iff.1 h.blk).1
theorem DiskIs.c0 {w : World} {b mb : Nat} {D : Dk} (h : DiskIs w b mb D) : w.cell? ⟨b, 0, none⟩ = some (.map (some mb)) := by simp [World.cell?, h.blk]
theorem DiskIs.c1 {w : World} {b mb : Nat} {D : Dk} (h : DiskIs w b mb D) : w.cell? ⟨b, 1, none⟩ = some (.int .i64 D.acts) := by simp [World.cell?, h.blk]
theorem DiskIs.c2 {w : World} {b mb : Nat} {D : Dk} (h : DiskIs w b mb D) : w.cell? ⟨b, 2, none⟩ = some (.int .i64 D.armed) := by simp [World.cell?, h.blk]
theorem DiskIs.c3 {w : World} {b mb : Nat} {D : Dk} (h : DiskIs w b mb D) : w.cell? ⟨b, 3, none⟩ = some (.bool D.off) := by simp [World.cell?, h.blk]
theorem DiskIs.fr {w : World} {b mb : Nat} {D : Dk} (h : DiskIs w b mb D) (i : Nat) : w.frozen? ⟨b, i, none⟩ = false := by simp [World.frozen?, h.blk]
theorem DiskIs.only {w w' : World} {b mb : Nat} {D : Dk} (h : DiskIs w b mb D) {S : Nat → Prop} (ho : Only S w w') (h1 : ¬ S b) (h2 : ¬ S mb) : DiskIs w' b mb D :=
  ⟨(ho.block b h.lt h1).trans h.blk, h.map.of_heap (ho.block mb h.map.lt h2)⟩
theorem DiskIs.alloc {w : World} {b mb : Nat} {D : Dk} (h : DiskIs w b mb D) (o : Obj) : DiskIs (w.alloc o) b mb D :=
  h.only (S := fun _ => False) ((Only.refl _ w).alloc o) (fun x => x) (fun x => x)
theorem DiskIs.drew {w : World} {b mb : Nat} {D : Dk} (h : DiskIs w b mb D) : DiskIs w.drew b mb D := ⟨h.blk, h.map⟩
theorem blk_setCell {w : World} {b i : Nat} {cs : Array Value} {t : TypeId} (h : w.heap[b]? = some (.cells cs t)) (v : Value) : (w.setCell ⟨b, i, none⟩ v).heap[b]? = some (.cells (cs.setIfInBounds i v) t) := by
  simp [World.setCell, Array.getElem?_modify, h]
theorem DiskIs.put {w w' : World} {b mb : Nat} {D : Dk} (h : DiskIs w b mb D) (ho : Only (· = mb) w w') {m : List (ByteArray × (ByteArray × Nat))} (hm : MapIs .string .string fv w' mb m) : DiskIs w' b mb { D with files := m } :=
  ⟨(ho.block b h.lt h.ne).trans h.blk, hm⟩
theorem DiskIs.acted {w : World} {b mb : Nat} {D : Dk} (h : DiskIs w b mb D) (o : Bool) :
    DiskIs (((w.setCell ⟨b, 1, none⟩ (.int .i64 ((D.acts : Int) + 1))).setCell ⟨b, 3, none⟩ (.bool o)).drew) b mb { D with acts := D.acts + 1, off := o } := by
  refine ⟨?_, ((h.map.setCell _ _).setCell _ _).drew⟩
  show (((w.setCell ⟨b, 1, none⟩ (.int .i64 ((D.acts : Int) + 1))).setCell ⟨b, 3, none⟩ (.bool o))).heap[b]? = _
  rw [blk_setCell (blk_setCell h.blk _) _]
  simp

/-- What 'do' comes to at a disk: it is off; it goes off; or the act is done. -/
theorem do_D (b mb : Nat) (D : Dk) (f : FuncId) (caps : Array Value) (w : World) (h : DiskIs w b mb D) (hn : D.acts < 4611686018427387904) (R : Ending → World → Prop)
    (hf : ∀ args w1, (callFunc f args).run Tryz.prog w1 = .ok (.enter f args) w1)
    (h1 : D.tick.off = true → ∀ w', DiskIs w' b mb D.tick → Only (· = b) w w' → R (.returned (.int .i64 100)) w')
    (h2 : D.tick.off = false → ∀ w', DiskIs w' b mb D.tick → Only (· = b) w w' → w'.heap.size = w.heap.size → Calls Tryz.prog f caps w' fun e w2 => ∃ v, e = .returned v ∧ R e w2) :
    Calls Tryz.prog 46 #[.pointer (some ⟨b, 0, none⟩), .func (.func f) #[] caps] w R := by
  have hO : ∀ o, Only (· = b) w (((w.setCell ⟨b, 1, none⟩ (.int .i64 ((D.acts : Int) + 1))).setCell ⟨b, 3, none⟩ (.bool o)).drew) := fun o =>
    (((Only.refl (· = b) w).setCell (p := ⟨b, 1, none⟩) (fun _ => rfl) _).setCell (p := ⟨b, 3, none⟩) (fun _ => rfl) _).drew
  cases hoff : D.off with
  | true =>
    have ht : D.tick = D := by simp [Dk.tick, hoff]
    refine (do_off b f caps w (by rw [h.c3, hoff])).mono ?_
    rintro e w' ⟨rfl, rfl⟩
    exact h1 (by rw [ht, hoff]) w (by rw [ht]; exact h) (Only.refl _ _)
  | false =>
    by_cases ha : D.acts + 1 = D.armed
    · have ht : D.tick = { D with acts := D.acts + 1, off := true } := by simp [Dk.tick, hoff, ha]
      refine (do_arm b f caps w _ _ h.c1 h.c2 (by rw [h.c3, hoff]) (h.fr 1) (h.fr 3) (by omega) (by omega) (by rw [beq_iff_eq]; omega)).mono ?_
      rintro e w' ⟨rfl, rfl⟩
      exact h1 (by rw [ht]) _ (by rw [ht]; exact h.acted true) (hO true)
    · have ht : D.tick = { D with acts := D.acts + 1, off := false } := by simp [Dk.tick, hoff, ha]
      refine do_go b f caps w _ _ h.c1 h.c2 (by rw [h.c3, hoff]) (h.fr 1) (h.fr 3) (by omega) (by omega) (by rw [beq_eq_false_iff_ne]; omega) (fun _ => R) hf ?_
      exact h2 (by rw [ht]) _ (by rw [ht]; exact h.acted false) (hO false) (by simp [World.setCell])

theorem tick_files (D : Dk) : D.tick.files = D.files := by unfold Dk.tick; split <;> rfl

/-- The world behind a disk's call: its own two blocks alone have turned. -/
def Own (b mb : Nat) (k : Nat) : Prop := k = b ∨ k = mb
def DPost (b mb : Nat) (w : World) (r : Int × Dk) (e : Ending) (w' : World) : Prop := e = .returned (.int .i64 r.1) ∧ DiskIs w' b mb r.2 ∧ Only (Own b mb) w w'

theorem dpost {b mb : Nat} {w w' : World} {r : Int × Dk} {e : Ending} (h1 : e = .returned (.int .i64 r.1)) (h2 : DiskIs w' b mb r.2) (h3 : Only (Own b mb) w w') : DPost b mb w r e w' := ⟨h1, h2, h3⟩
theorem nil_append (s : ByteArray) : (⟨#[]⟩ : ByteArray) ++ s = s := ByteArray.empty_append
theorem own_l {b mb : Nat} : ∀ k, k = b → Own b mb k := fun _ h => .inl h
theorem own_r {b mb : Nat} : ∀ k, k = mb → Own b mb k := fun _ h => .inr h
theorem aget_mem {κ ν : Type} [DecidableEq κ] {m : List (κ × ν)} {k : κ} {v : ν} (h : aget m k = some v) : (k, v) ∈ m := by
  unfold aget at h
  rw [Option.map_eq_some_iff] at h
  obtain ⟨p, hp, rfl⟩ := h
  have h1 := List.find?_some hp
  have h2 := List.mem_of_find?_eq_some hp
  simp at h1
  subst h1
  exact h2

theorem append_do (b mb bd bn bs : Nat) (D : Dk) (name s : ByteArray) (w : World) (h : DiskIs w b mb D) (hD : D.Ok) (hln : name.size ≤ maxLen) (hls : s.size ≤ maxLen)
    (hd : w.cell? ⟨bd, 0, none⟩ = some (.pointer (some ⟨b, 0, none⟩))) (hn : w.cell? ⟨bn, 0, none⟩ = some (.string name)) (hs : w.cell? ⟨bs, 0, none⟩ = some (.string s)) (n1 : bd ≠ b) (n2 : bn ≠ b) (n3 : bs ≠ b) :
    Calls Tryz.prog 46 #[.pointer (some ⟨b, 0, none⟩), .func (.func 47) #[] #[.pointer (some ⟨bd, 0, none⟩), .pointer (some ⟨bn, 0, none⟩), .pointer (some ⟨bs, 0, none⟩)]] w (DPost b mb w (D.append name s)) := by
  refine do_D b mb D _ _ w h hD.acts _ (fun args w1 => by go_simp) ?_ ?_
  · intro ht w' h' ho
    unfold Dk.append
    rw [if_pos ht]
    exact ⟨rfl, h', ho.mono fun k _ => own_l k⟩
  · intro ht w' h' ho hsz
    have ld := World.block_lt_of_cell? w _ hd
    have ln := World.block_lt_of_cell? w _ hn
    have ls := World.block_lt_of_cell? w _ hs
    have hd' := (ho.cell (p := ⟨bd, 0, none⟩) ld n1).trans hd
    have hn' := (ho.cell (p := ⟨bn, 0, none⟩) ln n2).trans hn
    have hs' := (ho.cell (p := ⟨bs, 0, none⟩) ls n3).trans hs
    have hM := h'.map
    rw [tick_files] at hM
    have fin : ∀ (code : Int) (m : List (ByteArray × (ByteArray × Nat))) (r : Int × Dk), r = (code, { D.tick with files := m }) → ∀ e w2, (e = .returned (.int .i64 code) ∧ MapIs .string .string fv w2 mb m ∧ Only (· = mb) w' w2) → ∃ v, e = .returned v ∧ DPost b mb w r e w2 := by
      rintro code m r rfl e w2 ⟨rfl, hm, ho2⟩
      exact ⟨_, rfl, rfl, h'.put ho2 hm, ho.trans' ho2 (fun k _ => own_l k) (fun k _ => own_r k)⟩
    have same : ({ D.tick with files := D.files } : Dk) = D.tick := by conv => rhs; rw [show D.tick = { D.tick with files := D.tick.files } from rfl, tick_files]
    unfold Dk.append
    rw [if_neg (by rw [ht]; decide)]
    cases hnm : isNm name with
    | false =>
      cases hg : aget D.files name with
      | none => exact (app1_bad b mb bd bn bs name s (⟨#[]⟩, 0) false D.files w' hd' hn' hs' h'.c0 hM (.inr ⟨rfl, hg, rfl⟩) hln hnm).mono (fin _ _ _ (by simp [same]))
      | some z => exact (app1_bad b mb bd bn bs name s z true D.files w' hd' hn' hs' h'.c0 hM (.inl ⟨rfl, hg⟩) hln hnm).mono (fin _ _ _ (by simp [same]))
    | true =>
      have hm := hD.many
      cases hg : aget D.files name with
      | none =>
        by_cases h4 : 4 ≤ D.files.length
        · exact (app1_full b mb bd bn bs name s (⟨#[]⟩, 0) false D.files w' hd' hn' hs' h'.c0 hM (.inr ⟨rfl, hg, rfl⟩) hnm rfl h4 (by omega)).mono (fin _ _ _ (by simp [same, h4]))
        · by_cases h5 : 65536 < s.size
          · exact (app1_long b mb bd bn bs name s (⟨#[]⟩, 0) false D.files w' hd' hn' hs' h'.c0 hM (.inr ⟨rfl, hg, rfl⟩) hnm (fun _ => by omega) (by decide) hls (by show 65536 < 0 + s.size; omega)).mono (fin _ _ _ (by simp [same, h5]))
          · exact (app1_store b mb bd bn bs name s (⟨#[]⟩, 0) false D.files w' hd' hn' hs' h'.c0 hM (.inr ⟨rfl, hg, rfl⟩) hnm (fun _ => by omega) (by decide) (by show 0 + s.size ≤ 65536; omega)).mono (fin _ _ _ (by simp [h4, h5, nil_append]))
      | some z =>
        have hz := hD.bytes _ (aget_mem hg)
        by_cases h5 : 65536 < z.1.size + s.size
        · exact (app1_long b mb bd bn bs name s z true D.files w' hd' hn' hs' h'.c0 hM (.inl ⟨rfl, hg⟩) hnm (fun e => by cases e) hz hls h5).mono (fin _ _ _ (by simp [same, h5]))
        · exact (app1_store b mb bd bn bs name s z true D.files w' hd' hn' hs' h'.c0 hM (.inl ⟨rfl, hg⟩) hnm (fun e => by cases e) hz (by omega)).mono (fin _ _ _ (by simp [h5]))

set_option maxHeartbeats 1000000 in
theorem append_any (b mb : Nat) (D : Dk) (name s : ByteArray) (w : World) (h : DiskIs w b mb D) (hD : D.Ok) (hln : name.size ≤ maxLen) (hls : s.size ≤ maxLen) :
    Calls Tryz.prog 20 #[.pointer (some ⟨b, 0, none⟩), .string name, .string s] w (DPost b mb w (D.append name s)) := by
  have HC := append_do b mb w.heap.size (w.heap.size + 1) (w.heap.size + 2) D name s (((w.alloc (.cells #[.pointer (some ⟨b, 0, none⟩)] 24)).alloc (.cells #[.string name] 9)).alloc (.cells #[.string s] 9)) (((h.alloc _).alloc _).alloc _) hD hln hls
    (by go_simp) (by go_simp) (by go_simp) (by have := h.lt; omega) (by have := h.lt; omega) (by have := h.lt; omega)
  have H := Lib.hid HC
  clear HC
  have HW := Lib.hid (show Only (Own b mb) w (((w.alloc (.cells #[.pointer (some ⟨b, 0, none⟩)] 24)).alloc (.cells #[.string name] 9)).alloc (.cells #[.string s] 9)) from (((Only.refl _ w).alloc _).alloc _).alloc _)
  have hb := h.lt
  clear h
  go_enter Tryz.func20, Tryz.ntmps20
  go_wp2_with (go_at_call 46; refine H.out.mono ?_; rintro e w' ⟨rfl, hq, ho⟩)
  go_ret
  exact dpost rfl hq (HW.out.trans ho)
end Go.Proofs.YtlmnmjnmilaipaaGreatDoor
/- 'with': something is done with a file that there is. -/
set_option linter.unusedVariables false
namespace Go.Proofs.YtlmnmjnmilaipaaGreatDoor
open Go.RowKit

theorem tick_acts (D : Dk) : D.tick.acts = if D.off then D.acts else D.acts + 1 := by unfold Dk.tick; split <;> rfl

set_option maxHeartbeats 1000000 in
set_option maxRecDepth 100000 in
theorem with1_none (b mb bd bn ba g : Nat) (gc : Array Value) (name : ByteArray) (D : Dk) (w : World) (h : DiskIs w b mb D) (hg : aget D.files name = none)
    (hd : w.cell? ⟨bd, 0, none⟩ = some (.pointer (some ⟨b, 0, none⟩))) (hn : w.cell? ⟨bn, 0, none⟩ = some (.string name)) (ha : w.cell? ⟨ba, 0, none⟩ = some (.func (.func g) #[] gc)) :
    Calls Tryz.prog 98 #[.pointer (some ⟨bd, 0, none⟩), .pointer (some ⟨bn, 0, none⟩), .pointer (some ⟨ba, 0, none⟩)] w fun e w' =>
      e = .returned (.int .i64 101) ∧ DiskIs w' b mb D ∧ Only (fun _ => False) w w' := by
  have hlk : ∀ W : World, MapIs .string .string fv W mb D.files → (Instr.lookup 58 (.map (some mb)) (.string name) true).run Tryz.prog W = .ok (.tuple #[.agg #[.string ⟨#[]⟩, .int .i64 0], .bool false]) W := fun W hW => run_look_none keyK_string Tryz.underlying58 Tryz.underlying9 (zeroDF W) hW hg true
  have hk1 := hlk w.drew h.map.drew
  have hk2 := hlk (w.alloc (.cells #[.string ⟨#[]⟩, .int .i64 0] 83)).drew (h.map.alloc _).drew
  have l1 := World.block_lt_of_cell? w _ hd
  have l2 := World.block_lt_of_cell? w _ hn
  have l3 := World.block_lt_of_cell? w _ ha
  have l4 := h.lt
  have h0 := h.c0
  simp only at l1 l2 l3
  have HD := Lib.hid (h.alloc (.cells #[.string ⟨#[]⟩, .int .i64 0] 83)).drew
  clear hlk h hg
  go_enter Tryz.func98, Tryz.ntmps98
  go_wp2
  go_region
  all_goals go_wp2
  all_goals (go_ret; exact ⟨rfl, HD.out, ((Only.refl _ w).alloc _).drew⟩)

set_option maxHeartbeats 1000000 in
set_option maxRecDepth 100000 in
theorem with1_some (b mb bd bn ba g : Nat) (gc : Array Value) (name : ByteArray) (z : ByteArray × Nat) (D : Dk) (w : World) (h : DiskIs w b mb D) (hz : aget D.files name = some z)
    (hd : w.cell? ⟨bd, 0, none⟩ = some (.pointer (some ⟨b, 0, none⟩))) (hn : w.cell? ⟨bn, 0, none⟩ = some (.string name)) (ha : w.cell? ⟨ba, 0, none⟩ = some (.func (.func g) #[] gc))
    (hf : ∀ args w1, (callFunc g args).run Tryz.prog w1 = .ok (.enter g args) w1) (R : Ending → World → Prop)
    (hr : ∀ w', DiskIs w' b mb D → Only (fun _ => False) w w' → Calls Tryz.prog g (#[.agg #[.string z.1, .int .i64 z.2]] ++ gc) w' fun e w2 => ∃ v, e = .returned v ∧ R e w2) :
    Calls Tryz.prog 98 #[.pointer (some ⟨bd, 0, none⟩), .pointer (some ⟨bn, 0, none⟩), .pointer (some ⟨ba, 0, none⟩)] w R := by
  obtain ⟨zb, zn⟩ := z
  have hlk : ∀ W : World, MapIs .string .string fv W mb D.files → (Instr.lookup 58 (.map (some mb)) (.string name) true).run Tryz.prog W = .ok (.tuple #[.agg #[.string zb, .int .i64 zn], .bool true]) W := fun W hW => run_look_some keyK_string Tryz.underlying58 Tryz.underlying9 hW hz true
  have hk1 := hlk w.drew h.map.drew
  have hk2 := hlk (w.alloc (.cells #[.string ⟨#[]⟩, .int .i64 0] 83)).drew (h.map.alloc _).drew
  have l1 := World.block_lt_of_cell? w _ hd
  have l2 := World.block_lt_of_cell? w _ hn
  have l3 := World.block_lt_of_cell? w _ ha
  have l4 := h.lt
  have h0 := h.c0
  simp only at l1 l2 l3
  have HR := Lib.hid (hr (w.alloc (.cells #[.string zb, .int .i64 zn] 83)).drew (h.alloc _).drew ((Only.refl _ w).alloc _).drew)
  clear hlk h hz hr
  go_enter Tryz.func98, Tryz.ntmps98
  go_wp2
  go_region
  all_goals go_wp2
  all_goals (refine HR.out.mono ?_; rintro e w' ⟨v, rfl, hR⟩)
  all_goals go_wp2
  all_goals exact hR

/-- What 'with' comes to at a disk. -/
theorem with_D (b mb : Nat) (D : Dk) (name : ByteArray) (g : FuncId) (gc : Array Value) (w : World) (h : DiskIs w b mb D) (hn : D.acts < 4611686018427387904) (R : Ending → World → Prop)
    (hf : ∀ args w1, (callFunc g args).run Tryz.prog w1 = .ok (.enter g args) w1)
    (h1 : D.tick.off = true → ∀ w', DiskIs w' b mb D.tick → Only (· = b) w w' → R (.returned (.int .i64 100)) w')
    (h2 : D.tick.off = false → aget D.files name = none → ∀ w', DiskIs w' b mb D.tick → Only (· = b) w w' → R (.returned (.int .i64 101)) w')
    (h3 : D.tick.off = false → ∀ z, aget D.files name = some z → ∀ w', DiskIs w' b mb D.tick → Only (· = b) w w' → Calls Tryz.prog g (#[.agg #[.string z.1, .int .i64 z.2]] ++ gc) w' fun e w2 => ∃ v, e = .returned v ∧ R e w2) :
    Calls Tryz.prog 72 #[.pointer (some ⟨b, 0, none⟩), .string name, .func (.func g) #[] gc] w R := by
  have lb := h.lt
  have HW := (show Only (· = b) w (((w.alloc (.cells #[.pointer (some ⟨b, 0, none⟩)] 24)).alloc (.cells #[.string name] 9)).alloc (.cells #[.func (.func g) #[] gc] 116)) from (((Only.refl _ w).alloc _).alloc _).alloc _)
  have HC : Calls Tryz.prog 46 #[.pointer (some ⟨b, 0, none⟩), .func (.func 98) #[] #[.pointer (some ⟨w.heap.size, 0, none⟩), .pointer (some ⟨w.heap.size + 1, 0, none⟩), .pointer (some ⟨w.heap.size + 2, 0, none⟩)]]
      (((w.alloc (.cells #[.pointer (some ⟨b, 0, none⟩)] 24)).alloc (.cells #[.string name] 9)).alloc (.cells #[.func (.func g) #[] gc] 116)) (fun e w' => ∃ v, e = .returned v ∧ R e w') := by
    refine do_D b mb D _ _ _ (((h.alloc _).alloc _).alloc _) hn _ (fun args w1 => by go_simp) ?_ ?_
    · intro ht w' h' ho
      exact ⟨_, rfl, h1 ht w' h' (HW.trans ho)⟩
    · intro ht w' h' ho hsz
      have sz := hsz
      simp only [World.size_alloc] at sz
      have c1 := (ho.cell (p := ⟨w.heap.size, 0, none⟩) (by simp; omega) (by simp; omega)).trans (show _ = some (Value.pointer (some ⟨b, 0, none⟩)) by go_simp)
      have c2 := (ho.cell (p := ⟨w.heap.size + 1, 0, none⟩) (by simp) (by simp; omega)).trans (show _ = some (Value.string name) by go_simp)
      have c3 := (ho.cell (p := ⟨w.heap.size + 2, 0, none⟩) (by simp) (by simp; omega)).trans (show _ = some (Value.func (.func g) #[] gc) by go_simp)
      cases hg : aget D.files name with
      | none =>
        refine (with1_none b mb _ _ _ g gc name D.tick w' h' (by rw [tick_files]; exact hg) c1 c2 c3).mono ?_
        rintro e w2 ⟨rfl, h'', ho'⟩
        exact ⟨_, rfl, _, rfl, h2 ht hg w2 h'' ((HW.trans ho).trans' ho' (fun _ _ q => q) (fun _ _ q => q.elim))⟩
      | some z =>
        refine with1_some b mb _ _ _ g gc name z D.tick w' h' (by rw [tick_files]; exact hg) c1 c2 c3 hf _ ?_
        intro w2 h'' ho'
        refine (h3 ht z hg w2 h'' ((HW.trans ho).trans' ho' (fun _ _ q => q) (fun _ _ q => q.elim))).mono ?_
        rintro e w3 ⟨v, rfl, hR⟩
        exact ⟨_, rfl, _, rfl, _, rfl, hR⟩
  have H := Lib.hid HC
  clear HC h h1 h2 h3 hf HW
  go_enter Tryz.func72, Tryz.ntmps72
  go_wp2_with (go_at_call 46; refine H.out.mono ?_; rintro e w' ⟨v, rfl, hR⟩)
  exact hR

theorem same_files (D : Dk) : ({ D.tick with files := D.files } : Dk) = D.tick := by conv => rhs; rw [show D.tick = { D.tick with files := D.tick.files } from rfl, tick_files]

set_option maxHeartbeats 1000000 in
set_option maxRecDepth 100000 in
/-- 'd.files[name] = f' at the end of Sync. -/
theorem sync1 (b mb bd bn : Nat) (name : ByteArray) (z : ByteArray × Nat) (m : List (ByteArray × (ByteArray × Nat))) (w : World) (hsz : z.1.size ≤ 65536)
    (hd : w.cell? ⟨bd, 0, none⟩ = some (.pointer (some ⟨b, 0, none⟩))) (hn : w.cell? ⟨bn, 0, none⟩ = some (.string name)) (h0 : w.cell? ⟨b, 0, none⟩ = some (.map (some mb))) (hM : MapIs .string .string fv w mb m) :
    Calls Tryz.prog 77 #[.agg #[.string z.1, .int .i64 z.2], .pointer (some ⟨bd, 0, none⟩), .pointer (some ⟨bn, 0, none⟩)] w fun e w' =>
      e = .returned (.int .i64 0) ∧ MapIs .string .string fv w' mb (aput m name (z.1, z.1.size)) ∧ Only (· = mb) w w' := by
  obtain ⟨zb, zn⟩ := z
  simp only at hsz ⊢
  have l1 := World.block_lt_of_cell? w _ hd
  have l2 := World.block_lt_of_cell? w _ hn
  have l4 := World.block_lt_of_cell? w _ h0
  simp only at l1 l2 l4
  obtain ⟨o, hu, hM'⟩ := run_update_mapIs (P := Tryz.prog) keyK_string Tryz.underlying58 Tryz.underlying9 ((hM.alloc (.cells #[.string zb, .int .i64 zb.size] 83)).drew) name (zb, zb.size)
  simp only [fv] at hu
  have HO := Lib.hid (show Only (· = mb) w (putM (w.alloc (.cells #[.string zb, .int .i64 zb.size] 83)).drew mb o) from (((Only.refl (· = mb) w).alloc _).drew.putM (fun _ => rfl) o))
  have HM := Lib.hid hM'
  clear hM' hM
  go_enter Tryz.func77, Tryz.ntmps77
  go_wp2
  go_region
  go_wp2
  go_ret
  exact ⟨rfl, HM.out, HO.out⟩

set_option maxHeartbeats 1000000 in
theorem sync_any (b mb : Nat) (D : Dk) (name : ByteArray) (w : World) (h : DiskIs w b mb D) (hD : D.Ok) :
    Calls Tryz.prog 45 #[.pointer (some ⟨b, 0, none⟩), .string name] w (DPost b mb w (D.sync name)) := by
  have lb := h.lt
  have HW := (show Only (Own b mb) w ((w.alloc (.cells #[.pointer (some ⟨b, 0, none⟩)] 24)).alloc (.cells #[.string name] 9)) from ((Only.refl _ w).alloc _).alloc _)
  have HC : Calls Tryz.prog 72 #[.pointer (some ⟨b, 0, none⟩), .string name, .func (.func 77) #[] #[.pointer (some ⟨w.heap.size, 0, none⟩), .pointer (some ⟨w.heap.size + 1, 0, none⟩)]]
      ((w.alloc (.cells #[.pointer (some ⟨b, 0, none⟩)] 24)).alloc (.cells #[.string name] 9)) (DPost b mb w (D.sync name)) := by
    refine with_D b mb D name _ _ _ ((h.alloc _).alloc _) hD.acts _ (fun args w1 => by go_simp) ?_ ?_ ?_
    · intro ht w' h' ho
      exact dpost (by simp [Dk.sync, ht]) (by simpa [Dk.sync, ht] using h') (HW.trans (ho.mono fun k _ => own_l k))
    · intro ht hg w' h' ho
      exact dpost (by simp [Dk.sync, ht, hg]) (by simpa [Dk.sync, ht, hg] using h') (HW.trans (ho.mono fun k _ => own_l k))
    · intro ht z hg w' h' ho
      have sz := ho.size
      simp only [World.size_alloc] at sz
      have c1 := (ho.cell (p := ⟨w.heap.size, 0, none⟩) (by simp; omega) (by simp; omega)).trans (show _ = some (Value.pointer (some ⟨b, 0, none⟩)) by go_simp)
      have c2 := (ho.cell (p := ⟨w.heap.size + 1, 0, none⟩) (by simp) (by simp; omega)).trans (show _ = some (Value.string name) by go_simp)
      refine (sync1 b mb _ _ name z D.tick.files w' (hD.bytes _ (aget_mem hg)) c1 c2 h'.c0 h'.map).mono ?_
      rintro e w2 ⟨rfl, hm, ho2⟩
      refine ⟨_, rfl, dpost (by simp [Dk.sync, ht, hg]) ?_ (HW.trans (ho.trans' ho2 (fun k _ => own_l k) (fun k _ => own_r k)))⟩
      have := h'.put ho2 hm
      simpa [Dk.sync, ht, hg, tick_files] using this
  have H := Lib.hid HC
  clear HC h HW
  go_enter Tryz.func45, Tryz.ntmps45
  go_wp2_with (go_at_call 72; refine H.out.mono ?_; rintro e w' ⟨rfl, hq, ho⟩)
  go_ret
  exact dpost rfl hq ho
end Go.Proofs.YtlmnmjnmilaipaaGreatDoor
/- Rename, Remove, Read and Arm on a disk. -/
set_option linter.unusedVariables false
namespace Go.Proofs.YtlmnmjnmilaipaaGreatDoor
open Go.RowKit

set_option maxHeartbeats 1000000 in
set_option maxRecDepth 100000 in
theorem remove1 (b mb bd bn : Nat) (name : ByteArray) (z : ByteArray × Nat) (m : List (ByteArray × (ByteArray × Nat))) (w : World)
    (hd : w.cell? ⟨bd, 0, none⟩ = some (.pointer (some ⟨b, 0, none⟩))) (hn : w.cell? ⟨bn, 0, none⟩ = some (.string name)) (h0 : w.cell? ⟨b, 0, none⟩ = some (.map (some mb))) (hM : MapIs .string .string fv w mb m) :
    Calls Tryz.prog 73 #[.agg #[.string z.1, .int .i64 z.2], .pointer (some ⟨bd, 0, none⟩), .pointer (some ⟨bn, 0, none⟩)] w fun e w' =>
      e = .returned (.int .i64 0) ∧ MapIs .string .string fv w' mb (adel m name) ∧ Only (· = mb) w w' := by
  obtain ⟨zb, zn⟩ := z
  simp only
  have l1 := World.block_lt_of_cell? w _ hd
  have l2 := World.block_lt_of_cell? w _ hn
  have l4 := World.block_lt_of_cell? w _ h0
  simp only at l1 l2 l4
  obtain ⟨o, hu, hM'⟩ := run_delete_mapIs (P := Tryz.prog) keyK_string Tryz.underlying58 Tryz.underlying9 ((hM.alloc (.cells #[.string zb, .int .i64 zn] 83)).drew) name 9 0
  have HO := Lib.hid (show Only (· = mb) w (putM (w.alloc (.cells #[.string zb, .int .i64 zn] 83)).drew mb o) from (((Only.refl (· = mb) w).alloc _).drew.putM (fun _ => rfl) o))
  have HM := Lib.hid hM'
  clear hM' hM
  go_enter Tryz.func73, Tryz.ntmps73
  go_wp2
  go_region
  go_wp2
  go_ret
  exact ⟨rfl, HM.out, HO.out⟩

set_option maxHeartbeats 1000000 in
theorem remove_any (b mb : Nat) (D : Dk) (name : ByteArray) (w : World) (h : DiskIs w b mb D) (hD : D.Ok) :
    Calls Tryz.prog 42 #[.pointer (some ⟨b, 0, none⟩), .string name] w (DPost b mb w (D.remove name)) := by
  have lb := h.lt
  have HW := (show Only (Own b mb) w ((w.alloc (.cells #[.pointer (some ⟨b, 0, none⟩)] 24)).alloc (.cells #[.string name] 9)) from ((Only.refl _ w).alloc _).alloc _)
  have HC : Calls Tryz.prog 72 #[.pointer (some ⟨b, 0, none⟩), .string name, .func (.func 73) #[] #[.pointer (some ⟨w.heap.size, 0, none⟩), .pointer (some ⟨w.heap.size + 1, 0, none⟩)]]
      ((w.alloc (.cells #[.pointer (some ⟨b, 0, none⟩)] 24)).alloc (.cells #[.string name] 9)) (DPost b mb w (D.remove name)) := by
    refine with_D b mb D name _ _ _ ((h.alloc _).alloc _) hD.acts _ (fun args w1 => by go_simp) ?_ ?_ ?_
    · intro ht w' h' ho
      exact dpost (by simp [Dk.remove, ht]) (by simpa [Dk.remove, ht] using h') (HW.trans (ho.mono fun k _ => own_l k))
    · intro ht hg w' h' ho
      exact dpost (by simp [Dk.remove, ht, hg]) (by simpa [Dk.remove, ht, hg] using h') (HW.trans (ho.mono fun k _ => own_l k))
    · intro ht z hg w' h' ho
      have sz := ho.size
      simp only [World.size_alloc] at sz
      have c1 := (ho.cell (p := ⟨w.heap.size, 0, none⟩) (by simp; omega) (by simp; omega)).trans (show _ = some (Value.pointer (some ⟨b, 0, none⟩)) by go_simp)
      have c2 := (ho.cell (p := ⟨w.heap.size + 1, 0, none⟩) (by simp) (by simp; omega)).trans (show _ = some (Value.string name) by go_simp)
      refine (remove1 b mb _ _ name z D.tick.files w' c1 c2 h'.c0 h'.map).mono ?_
      rintro e w2 ⟨rfl, hm, ho2⟩
      refine ⟨_, rfl, dpost (by simp [Dk.remove, ht, hg]) ?_ (HW.trans (ho.trans' ho2 (fun k _ => own_l k) (fun k _ => own_r k)))⟩
      have := h'.put ho2 hm
      simpa [Dk.remove, ht, hg, tick_files] using this
  have H := Lib.hid HC
  clear HC h HW
  go_enter Tryz.func42, Tryz.ntmps42
  go_wp2_with (go_at_call 72; refine H.out.mono ?_; rintro e w' ⟨rfl, hq, ho⟩)
  go_ret
  exact dpost rfl hq ho

set_option maxHeartbeats 1000000 in
set_option maxRecDepth 100000 in
theorem rename1_bad (b mb bt bd bf : Nat) (to frm : ByteArray) (z : ByteArray × Nat) (m : List (ByteArray × (ByteArray × Nat))) (w : World) (hl : to.size ≤ maxLen) (hbad : isNm to = false)
    (ht : w.cell? ⟨bt, 0, none⟩ = some (.string to)) (hM : MapIs .string .string fv w mb m) :
    Calls Tryz.prog 97 #[.agg #[.string z.1, .int .i64 z.2], .pointer (some ⟨bt, 0, none⟩), .pointer (some ⟨bd, 0, none⟩), .pointer (some ⟨bf, 0, none⟩)] w fun e w' =>
      e = .returned (.int .i64 1) ∧ MapIs .string .string fv w' mb m ∧ Only (· = mb) w w' := by
  have h1' : to.size = 0 ∨ 12 < to.size := by simp [isNm] at hbad; omega
  have l1 := World.block_lt_of_cell? w _ ht
  simp only at l1
  have HM := Lib.hid (hM.alloc (.cells #[.string z.1, .int .i64 z.2] 83))
  clear hM hbad
  go_enter Tryz.func97, Tryz.ntmps97
  go_wp2_with (go_at_call 48; refine (isName_no to hl h1' _).mono ?_; rintro e w' ⟨rfl, rfl⟩)
  go_ret
  exact ⟨rfl, HM.out, (Only.refl _ w).alloc _⟩

set_option maxHeartbeats 1000000 in
set_option maxRecDepth 100000 in
theorem rename1_ok (b mb bt bd bf : Nat) (to frm : ByteArray) (z : ByteArray × Nat) (m : List (ByteArray × (ByteArray × Nat))) (w : World) (hgood : isNm to = true)
    (ht : w.cell? ⟨bt, 0, none⟩ = some (.string to)) (hd : w.cell? ⟨bd, 0, none⟩ = some (.pointer (some ⟨b, 0, none⟩))) (hf : w.cell? ⟨bf, 0, none⟩ = some (.string frm)) (h0 : w.cell? ⟨b, 0, none⟩ = some (.map (some mb))) (hM : MapIs .string .string fv w mb m) :
    Calls Tryz.prog 97 #[.agg #[.string z.1, .int .i64 z.2], .pointer (some ⟨bt, 0, none⟩), .pointer (some ⟨bd, 0, none⟩), .pointer (some ⟨bf, 0, none⟩)] w fun e w' =>
      e = .returned (.int .i64 0) ∧ MapIs .string .string fv w' mb (aput (adel m frm) to z) ∧ Only (· = mb) w w' := by
  obtain ⟨h1a, h1b⟩ : 0 < to.size ∧ to.size ≤ 12 := by simpa [isNm] using hgood
  clear hgood
  obtain ⟨zb, zn⟩ := z
  simp only
  have ne : ∀ (p : Addr) (v : Value), w.cell? p = some v → p.block ≠ mb := by
    rintro p v hc e
    obtain ⟨es, c, h1, _⟩ := hM
    rw [← e] at h1
    simp [World.cell?, h1] at hc
  have l1 := World.block_lt_of_cell? w _ hd
  have l2 := World.block_lt_of_cell? w _ ht
  have l3 := World.block_lt_of_cell? w _ hf
  have l4 := World.block_lt_of_cell? w _ h0
  have lm := hM.lt
  simp only at l1 l2 l3 l4
  obtain ⟨o, hu, hM'⟩ := run_delete_mapIs (P := Tryz.prog) keyK_string Tryz.underlying58 Tryz.underlying9 ((hM.alloc (.cells #[.string zb, .int .i64 zn] 83)).drew) frm 9 0
  have e0 : (putM (w.alloc (.cells #[.string zb, .int .i64 zn] 83)).drew mb o).cell? ⟨w.heap.size, 0, none⟩ = some (.string zb) := (cell_putM (by show w.heap.size ≠ mb; omega) o).trans (by go_simp)
  have e0' : (putM (w.alloc (.cells #[.string zb, .int .i64 zn] 83)).drew mb o).cell? ⟨w.heap.size, 1, none⟩ = some (.int .i64 zn) := (cell_putM (by show w.heap.size ≠ mb; omega) o).trans (by go_simp)
  have e1 : (putM (w.alloc (.cells #[.string zb, .int .i64 zn] 83)).drew mb o).cell? ⟨bd, 0, none⟩ = some (.pointer (some ⟨b, 0, none⟩)) := (cell_putM (ne _ _ hd) o).trans (by go_simp)
  have e2 : (putM (w.alloc (.cells #[.string zb, .int .i64 zn] 83)).drew mb o).cell? ⟨bt, 0, none⟩ = some (.string to) := (cell_putM (ne _ _ ht) o).trans (by go_simp)
  have e4 : (putM (w.alloc (.cells #[.string zb, .int .i64 zn] 83)).drew mb o).cell? ⟨b, 0, none⟩ = some (.map (some mb)) := (cell_putM (ne _ _ h0) o).trans (by go_simp)
  obtain ⟨o2, hu2, hM2⟩ := run_update_mapIs (P := Tryz.prog) keyK_string Tryz.underlying58 Tryz.underlying9 hM'.drew to (zb, zn)
  simp only [fv] at hu2
  have HO := Lib.hid (show Only (· = mb) w (putM (putM (w.alloc (.cells #[.string zb, .int .i64 zn] 83)).drew mb o).drew mb o2) from ((((Only.refl (· = mb) w).alloc _).drew.putM (fun _ => rfl) o).drew.putM (fun _ => rfl) o2))
  have HM := Lib.hid hM2
  clear hM' hM2 hM ne
  go_enter Tryz.func97, Tryz.ntmps97
  go_wp2_with (go_at_call 48; refine (isName_yes to h1a h1b _).mono ?_; rintro e w' ⟨rfl, rfl⟩)
  go_region
  go_wp2
  go_region
  go_wp2
  go_ret
  exact ⟨rfl, HM.out, HO.out⟩

set_option maxHeartbeats 1000000 in
theorem rename_any (b mb : Nat) (D : Dk) (frm to : ByteArray) (w : World) (h : DiskIs w b mb D) (hD : D.Ok) (hl : to.size ≤ maxLen) :
    Calls Tryz.prog 70 #[.pointer (some ⟨b, 0, none⟩), .string frm, .string to] w (DPost b mb w (D.rename frm to)) := by
  have lb := h.lt
  have HW := (show Only (Own b mb) w (((w.alloc (.cells #[.pointer (some ⟨b, 0, none⟩)] 24)).alloc (.cells #[.string frm] 9)).alloc (.cells #[.string to] 9)) from (((Only.refl _ w).alloc _).alloc _).alloc _)
  have HC : Calls Tryz.prog 72 #[.pointer (some ⟨b, 0, none⟩), .string frm, .func (.func 97) #[] #[.pointer (some ⟨w.heap.size + 2, 0, none⟩), .pointer (some ⟨w.heap.size, 0, none⟩), .pointer (some ⟨w.heap.size + 1, 0, none⟩)]]
      (((w.alloc (.cells #[.pointer (some ⟨b, 0, none⟩)] 24)).alloc (.cells #[.string frm] 9)).alloc (.cells #[.string to] 9)) (DPost b mb w (D.rename frm to)) := by
    refine with_D b mb D frm _ _ _ (((h.alloc _).alloc _).alloc _) hD.acts _ (fun args w1 => by go_simp) ?_ ?_ ?_
    · intro ht w' h' ho
      exact dpost (by simp [Dk.rename, ht]) (by simpa [Dk.rename, ht] using h') (HW.trans (ho.mono fun k _ => own_l k))
    · intro ht hg w' h' ho
      exact dpost (by simp [Dk.rename, ht, hg]) (by simpa [Dk.rename, ht, hg] using h') (HW.trans (ho.mono fun k _ => own_l k))
    · intro ht z hg w' h' ho
      have sz := ho.size
      simp only [World.size_alloc] at sz
      have c1 := (ho.cell (p := ⟨w.heap.size, 0, none⟩) (by simp; omega) (by simp; omega)).trans (show _ = some (Value.pointer (some ⟨b, 0, none⟩)) by go_simp)
      have c2 := (ho.cell (p := ⟨w.heap.size + 1, 0, none⟩) (by simp) (by simp; omega)).trans (show _ = some (Value.string frm) by go_simp)
      have c3 := (ho.cell (p := ⟨w.heap.size + 2, 0, none⟩) (by simp) (by simp; omega)).trans (show _ = some (Value.string to) by go_simp)
      cases hb : isNm to with
      | false =>
        refine (rename1_bad b mb _ _ _ to frm z D.tick.files w' hl hb c3 h'.map).mono ?_
        rintro e w2 ⟨rfl, hm, ho2⟩
        refine ⟨_, rfl, dpost (by simp [Dk.rename, ht, hg, hb]) ?_ (HW.trans (ho.trans' ho2 (fun k _ => own_l k) (fun k _ => own_r k)))⟩
        have := h'.put ho2 hm
        rw [tick_files, same_files] at this
        simpa [Dk.rename, ht, hg, hb] using this
      | true =>
        refine (rename1_ok b mb _ _ _ to frm z D.tick.files w' hb c3 c1 c2 h'.c0 h'.map).mono ?_
        rintro e w2 ⟨rfl, hm, ho2⟩
        refine ⟨_, rfl, dpost (by simp [Dk.rename, ht, hg, hb]) ?_ (HW.trans (ho.trans' ho2 (fun k _ => own_l k) (fun k _ => own_r k)))⟩
        have := h'.put ho2 hm
        simpa [Dk.rename, ht, hg, hb, tick_files] using this
  have H := Lib.hid HC
  clear HC h HW
  go_enter Tryz.func70, Tryz.ntmps70
  go_wp2_with (go_at_call 72; refine H.out.mono ?_; rintro e w' ⟨rfl, hq, ho⟩)
  go_ret
  exact dpost rfl hq ho

def RPost (w : World) (r : ByteArray × Int) (e : Ending) (w' : World) : Prop := e = .returned (.tuple #[.string r.1, .int .i64 r.2]) ∧ Only (fun _ => False) w w'
theorem rpost {w w' : World} {r : ByteArray × Int} {e : Ending} (h1 : e = .returned (.tuple #[.string r.1, .int .i64 r.2])) (h3 : Only (fun _ => False) w w') : RPost w r e w' := ⟨h1, h3⟩

set_option maxHeartbeats 1000000 in
set_option maxRecDepth 100000 in
theorem read_any (b mb : Nat) (D : Dk) (name : ByteArray) (w : World) (h : DiskIs w b mb D) :
    Calls Tryz.prog 61 #[.pointer (some ⟨b, 0, none⟩), .string name] w (RPost w (D.read name)) := by
  have lb := h.lt
  have c0 := h.c0
  have c3 := h.c3
  cases hoff : D.off with
  | true =>
    rw [hoff] at c3
    have hr : D.read name = (⟨#[]⟩, 100) := by simp [Dk.read, hoff]
    rw [hr]
    clear h hr hoff
    go_enter Tryz.func61, Tryz.ntmps61
    go_wp2
    go_ret2
    exact rpost rfl (Only.refl _ _)
  | false =>
    rw [hoff] at c3
    cases hg : aget D.files name with
    | none =>
      have hr : D.read name = (⟨#[]⟩, 101) := by simp [Dk.read, hoff, hg]
      have hk := run_look_none keyK_string Tryz.underlying58 Tryz.underlying9 (zeroDF w) h.map hg true
      simp only [if_true] at hk
      rw [hr]
      clear h hr hoff hg
      go_enter Tryz.func61, Tryz.ntmps61
      go_wp2
      all_goals (go_ret2; exact rpost rfl ((Only.refl _ w).alloc _))
    | some z =>
      obtain ⟨zb, zn⟩ := z
      have hr : D.read name = (zb, 0) := by simp [Dk.read, hoff, hg]
      have hk := run_look_some (P := Tryz.prog) keyK_string Tryz.underlying58 Tryz.underlying9 h.map hg true
      simp only [if_true, fv] at hk
      rw [hr]
      clear h hr hoff hg
      go_enter Tryz.func61, Tryz.ntmps61
      go_wp2
      all_goals (go_ret2; exact rpost rfl ((Only.refl _ w).alloc _))

theorem DiskIs.armed' {w : World} {b mb : Nat} {D : Dk} (h : DiskIs w b mb D) (n : Nat) : DiskIs (w.setCell ⟨b, 2, none⟩ (.int .i64 n)) b mb { D with armed := n } := by
  refine ⟨?_, h.map.setCell _ _⟩
  rw [blk_setCell h.blk _]
  simp

set_option maxHeartbeats 1000000 in
set_option maxRecDepth 100000 in
theorem arm_any (b mb : Nat) (D : Dk) (n : Int) (w : World) (h : DiskIs w b mb D) (hD : D.Ok) (h0 : -9223372036854775808 ≤ n) (h1 : n ≤ 9223372036854775807) :
    Calls Tryz.prog 28 #[.pointer (some ⟨b, 0, none⟩), .int .i64 n] w (DPost b mb w (D.arm n)) := by
  have c1 := h.c1
  have c2 := h.c2
  have f2 := h.fr 2
  have ha := hD.acts
  by_cases hneg : n < 0
  · have H := Lib.hid (dpost (b := b) (mb := mb) (w := w) (r := D.arm n) (e := .returned (.int .i64 1)) (by simp [Dk.arm, hneg]) (by simpa [Dk.arm, hneg] using h) (Only.refl _ _))
    clear h hD c1 c2 ha
    go_enter Tryz.func28, Tryz.ntmps28
    go_wp2
    all_goals go_ret
    all_goals exact H.out
  · by_cases hbig : 1099511627776 < n
    · have H := Lib.hid (dpost (b := b) (mb := mb) (w := w) (r := D.arm n) (e := .returned (.int .i64 1)) (by simp [Dk.arm, hneg, hbig]) (by simpa [Dk.arm, hneg, hbig] using h) (Only.refl _ _))
      clear h hD c1 c2 ha
      go_enter Tryz.func28, Tryz.ntmps28
      go_wp2
      all_goals go_ret
      all_goals exact H.out
    · by_cases hpos : 0 < n
      · have hx : ((D.acts : Int) + n) = ((D.acts + n.toNat : Nat) : Int) := by omega
        have H := Lib.hid (dpost (b := b) (mb := mb) (w := w) (w' := (w.setCell ⟨b, 2, none⟩ (.int .i64 0)).setCell ⟨b, 2, none⟩ (.int .i64 ((D.acts : Int) + n))) (r := D.arm n) (e := .returned (.int .i64 0)) (by simp [Dk.arm, hneg, hbig])
          (by rw [hx]; simpa [Dk.arm, hneg, hbig, hpos] using (h.armed' 0).armed' (D.acts + n.toNat)) (((Only.refl (Own b mb) w).setCell (p := ⟨b, 2, none⟩) (fun _ => own_l b rfl) _).setCell (p := ⟨b, 2, none⟩) (fun _ => own_l b rfl) _))
        clear h hD hx
        go_enter Tryz.func28, Tryz.ntmps28
        go_wp2
        all_goals go_ret
        all_goals exact H.out
      · have H := Lib.hid (dpost (b := b) (mb := mb) (w := w) (w' := w.setCell ⟨b, 2, none⟩ (.int .i64 0)) (r := D.arm n) (e := .returned (.int .i64 0)) (by simp [Dk.arm, hneg, hbig])
          (by simpa [Dk.arm, hneg, hbig, hpos] using (h.armed' 0)) ((Only.refl (Own b mb) w).setCell (p := ⟨b, 2, none⟩) (fun _ => own_l b rfl) _))
        clear h hD
        go_enter Tryz.func28, Tryz.ntmps28
        go_wp2
        all_goals go_ret
        all_goals exact H.out
end Go.Proofs.YtlmnmjnmilaipaaGreatDoor

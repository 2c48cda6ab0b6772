/- Append on a disk. -/
import Derived.Test.YtekkmfclaepcgaaDiskB
import Derived.Test.YtekkmfclaepcgaaDiskM
import Derived.Test.YtekkmfclaepcgaaOnly
set_option linter.unusedVariables false
namespace Go.Proofs.Ytekkmfclaepcgaa
open Go.RowKit

theorem zeroDF (w : World) : (zeroValue 58).run Try.prog w = .ok (.agg #[.string ⟨#[]⟩, .int .i64 0]) w := by kernel_rfl

set_option maxHeartbeats 1000000 in
set_option maxRecDepth 100000 in
theorem app1_bad (b mb bd bn bs : Nat) (name s : ByteArray) (z : ByteArray × Nat) (ok : Bool) (m : List (ByteArray × (ByteArray × Nat))) (w : World)
    (hd : w.cell? ⟨bd, 0, none⟩ = some (.pointer (some ⟨b, 0, none⟩))) (hn : w.cell? ⟨bn, 0, none⟩ = some (.string name)) (hs : w.cell? ⟨bs, 0, none⟩ = some (.string s))
    (hb : w.cell? ⟨b, 0, none⟩ = some (.map (some mb))) (hM : MapIs .string .string fv w mb m)
    (hz : (ok = true ∧ aget m name = some z) ∨ (ok = false ∧ aget m name = none ∧ z = (⟨#[]⟩, 0))) (hl : name.size ≤ maxLen) (h1 : isNm name = false) :
    Calls Try.prog 36 #[.pointer (some ⟨bd, 0, none⟩), .pointer (some ⟨bn, 0, none⟩), .pointer (some ⟨bs, 0, none⟩)] w fun e w' =>
      e = .returned (.int .i64 1) ∧ MapIs .string .string fv w' mb m ∧ Only (· = mb) w w' := by
  obtain ⟨zb, zn⟩ := z
  have hlk : ∀ W : World, MapIs .string .string fv W mb m → (Instr.lookup 53 (.map (some mb)) (.string name) true).run Try.prog W = .ok (.tuple #[.agg #[.string zb, .int .i64 zn], .bool ok]) W := by
    intro W hW
    rcases hz with ⟨rfl, hg⟩ | ⟨rfl, hg, hz⟩
    · exact run_look_some keyK_string Try.underlying53 Try.underlying9 hW hg true
    · cases hz
      exact run_look_none keyK_string Try.underlying53 Try.underlying9 (zeroDF W) hW hg true
  have hk1 := hlk w.drew hM.drew
  have hk2 := hlk (w.alloc (.cells #[.string ⟨#[]⟩, .int .i64 0] 58)).drew (hM.alloc _).drew
  have hlen := run_len_mapIs (P := Try.prog) Try.underlying53 ((hM.alloc (.cells #[.string zb, .int .i64 zn] 58)).drew) 3
  have l1 := World.block_lt_of_cell? w _ hd
  have l2 := World.block_lt_of_cell? w _ hn
  have l3 := World.block_lt_of_cell? w _ hs
  have l4 := World.block_lt_of_cell? w _ hb
  simp only at l1 l2 l3 l4
  clear hlk hz
  have h1' : name.size = 0 ∨ 12 < name.size := by simp [isNm] at h1; omega
  clear h1 hlen
  have HM := Lib.hid ((hM.alloc (.cells #[.string zb, .int .i64 zn] 58)).drew)
  clear hM
  go_enter Try.func36, Try.ntmps36
  go_wp2
  go_region
  all_goals (go_wp2_with (go_at_call 37; refine (isName_no name hl h1' _).mono ?_; rintro e w' ⟨rfl, rfl⟩))
  all_goals (go_ret; exact ⟨rfl, HM.out, ((Only.refl _ w).alloc _).drew⟩)

set_option maxHeartbeats 1000000 in
set_option maxRecDepth 100000 in
theorem app1_full (b mb bd bn bs : Nat) (name s : ByteArray) (z : ByteArray × Nat) (ok : Bool) (m : List (ByteArray × (ByteArray × Nat))) (w : World)
    (hd : w.cell? ⟨bd, 0, none⟩ = some (.pointer (some ⟨b, 0, none⟩))) (hn : w.cell? ⟨bn, 0, none⟩ = some (.string name)) (hs : w.cell? ⟨bs, 0, none⟩ = some (.string s))
    (hb : w.cell? ⟨b, 0, none⟩ = some (.map (some mb))) (hM : MapIs .string .string fv w mb m)
    (hz : (ok = true ∧ aget m name = some z) ∨ (ok = false ∧ aget m name = none ∧ z = (⟨#[]⟩, 0))) (h1 : isNm name = true) (hok : ok = false) (hm : 4 ≤ m.length) (hmx : m.length ≤ 9) :
    Calls Try.prog 36 #[.pointer (some ⟨bd, 0, none⟩), .pointer (some ⟨bn, 0, none⟩), .pointer (some ⟨bs, 0, none⟩)] w fun e w' =>
      e = .returned (.int .i64 102) ∧ MapIs .string .string fv w' mb m ∧ Only (· = mb) w w' := by
  obtain ⟨zb, zn⟩ := z
  have hlk : ∀ W : World, MapIs .string .string fv W mb m → (Instr.lookup 53 (.map (some mb)) (.string name) true).run Try.prog W = .ok (.tuple #[.agg #[.string zb, .int .i64 zn], .bool ok]) W := by
    intro W hW
    rcases hz with ⟨rfl, hg⟩ | ⟨rfl, hg, hz⟩
    · exact run_look_some keyK_string Try.underlying53 Try.underlying9 hW hg true
    · cases hz
      exact run_look_none keyK_string Try.underlying53 Try.underlying9 (zeroDF W) hW hg true
  have hk1 := hlk w.drew hM.drew
  have hk2 := hlk (w.alloc (.cells #[.string ⟨#[]⟩, .int .i64 0] 58)).drew (hM.alloc _).drew
  have hlen := run_len_mapIs (P := Try.prog) Try.underlying53 ((hM.alloc (.cells #[.string zb, .int .i64 zn] 58)).drew) 3
  have l1 := World.block_lt_of_cell? w _ hd
  have l2 := World.block_lt_of_cell? w _ hn
  have l3 := World.block_lt_of_cell? w _ hs
  have l4 := World.block_lt_of_cell? w _ hb
  simp only at l1 l2 l3 l4
  clear hlk hz
  obtain ⟨h1a, h1b⟩ : 0 < name.size ∧ name.size ≤ 12 := by simpa [isNm] using h1
  clear h1
  subst hok
  have HM := Lib.hid ((hM.alloc (.cells #[.string zb, .int .i64 zn] 58)).drew)
  clear hM
  go_enter Try.func36, Try.ntmps36
  go_wp2
  go_region
  all_goals (go_wp2_with (go_at_call 37; refine (isName_yes name h1a h1b _).mono ?_; rintro e w' ⟨rfl, rfl⟩))
  all_goals (go_ret; exact ⟨rfl, HM.out, ((Only.refl _ w).alloc _).drew⟩)

set_option maxHeartbeats 1000000 in
set_option maxRecDepth 100000 in
theorem app1_long (b mb bd bn bs : Nat) (name s : ByteArray) (z : ByteArray × Nat) (ok : Bool) (m : List (ByteArray × (ByteArray × Nat))) (w : World)
    (hd : w.cell? ⟨bd, 0, none⟩ = some (.pointer (some ⟨b, 0, none⟩))) (hn : w.cell? ⟨bn, 0, none⟩ = some (.string name)) (hs : w.cell? ⟨bs, 0, none⟩ = some (.string s))
    (hb : w.cell? ⟨b, 0, none⟩ = some (.map (some mb))) (hM : MapIs .string .string fv w mb m)
    (hz : (ok = true ∧ aget m name = some z) ∨ (ok = false ∧ aget m name = none ∧ z = (⟨#[]⟩, 0))) (h1 : isNm name = true) (hm : ok = false → m.length < 4) (hl : z.1.size ≤ 65536) (hsl : s.size ≤ maxLen) (hfit : 65536 < z.1.size + s.size) :
    Calls Try.prog 36 #[.pointer (some ⟨bd, 0, none⟩), .pointer (some ⟨bn, 0, none⟩), .pointer (some ⟨bs, 0, none⟩)] w fun e w' =>
      e = .returned (.int .i64 102) ∧ MapIs .string .string fv w' mb m ∧ Only (· = mb) w w' := by
  obtain ⟨zb, zn⟩ := z
  have hlk : ∀ W : World, MapIs .string .string fv W mb m → (Instr.lookup 53 (.map (some mb)) (.string name) true).run Try.prog W = .ok (.tuple #[.agg #[.string zb, .int .i64 zn], .bool ok]) W := by
    intro W hW
    rcases hz with ⟨rfl, hg⟩ | ⟨rfl, hg, hz⟩
    · exact run_look_some keyK_string Try.underlying53 Try.underlying9 hW hg true
    · cases hz
      exact run_look_none keyK_string Try.underlying53 Try.underlying9 (zeroDF W) hW hg true
  have hk1 := hlk w.drew hM.drew
  have hk2 := hlk (w.alloc (.cells #[.string ⟨#[]⟩, .int .i64 0] 58)).drew (hM.alloc _).drew
  have hlen := run_len_mapIs (P := Try.prog) Try.underlying53 ((hM.alloc (.cells #[.string zb, .int .i64 zn] 58)).drew) 3
  have l1 := World.block_lt_of_cell? w _ hd
  have l2 := World.block_lt_of_cell? w _ hn
  have l3 := World.block_lt_of_cell? w _ hs
  have l4 := World.block_lt_of_cell? w _ hb
  simp only at l1 l2 l3 l4
  clear hlk hz
  unfold maxLen at hsl
  obtain ⟨h1a, h1b⟩ : 0 < name.size ∧ name.size ≤ 12 := by simpa [isNm] using h1
  clear h1
  simp only at hl hfit
  have HM := Lib.hid ((hM.alloc (.cells #[.string zb, .int .i64 zn] 58)).drew)
  clear hM
  cases ok
  · have hm' := hm rfl
    clear hm
    go_enter Try.func36, Try.ntmps36
    go_wp2
    go_region
    all_goals (go_wp2_with (go_at_call 37; refine (isName_yes name h1a h1b _).mono ?_; rintro e w' ⟨rfl, rfl⟩))
    all_goals (go_ret; exact ⟨rfl, HM.out, ((Only.refl _ w).alloc _).drew⟩)
  · clear hm hlen
    go_enter Try.func36, Try.ntmps36
    go_wp2
    go_region
    all_goals (go_wp2_with (go_at_call 37; refine (isName_yes name h1a h1b _).mono ?_; rintro e w' ⟨rfl, rfl⟩))
    all_goals (go_ret; exact ⟨rfl, HM.out, ((Only.refl _ w).alloc _).drew⟩)

set_option maxHeartbeats 1000000 in
set_option maxRecDepth 100000 in
theorem app1_store (b mb bd bn bs : Nat) (name s : ByteArray) (z : ByteArray × Nat) (ok : Bool) (m : List (ByteArray × (ByteArray × Nat))) (w : World)
    (hd : w.cell? ⟨bd, 0, none⟩ = some (.pointer (some ⟨b, 0, none⟩))) (hn : w.cell? ⟨bn, 0, none⟩ = some (.string name)) (hs : w.cell? ⟨bs, 0, none⟩ = some (.string s))
    (hb : w.cell? ⟨b, 0, none⟩ = some (.map (some mb))) (hM : MapIs .string .string fv w mb m)
    (hz : (ok = true ∧ aget m name = some z) ∨ (ok = false ∧ aget m name = none ∧ z = (⟨#[]⟩, 0))) (h1 : isNm name = true) (hm : ok = false → m.length < 4) (hl : z.1.size ≤ 65536) (hfit : z.1.size + s.size ≤ 65536) :
    Calls Try.prog 36 #[.pointer (some ⟨bd, 0, none⟩), .pointer (some ⟨bn, 0, none⟩), .pointer (some ⟨bs, 0, none⟩)] w fun e w' =>
      e = .returned (.int .i64 0) ∧ MapIs .string .string fv w' mb (aput m name (z.1 ++ s, z.2)) ∧ Only (· = mb) w w' := by
  obtain ⟨zb, zn⟩ := z
  have hlk : ∀ W : World, MapIs .string .string fv W mb m → (Instr.lookup 53 (.map (some mb)) (.string name) true).run Try.prog W = .ok (.tuple #[.agg #[.string zb, .int .i64 zn], .bool ok]) W := by
    intro W hW
    rcases hz with ⟨rfl, hg⟩ | ⟨rfl, hg, hz⟩
    · exact run_look_some keyK_string Try.underlying53 Try.underlying9 hW hg true
    · cases hz
      exact run_look_none keyK_string Try.underlying53 Try.underlying9 (zeroDF W) hW hg true
  have hk1 := hlk w.drew hM.drew
  have hk2 := hlk (w.alloc (.cells #[.string ⟨#[]⟩, .int .i64 0] 58)).drew (hM.alloc _).drew
  have hlen := run_len_mapIs (P := Try.prog) Try.underlying53 ((hM.alloc (.cells #[.string zb, .int .i64 zn] 58)).drew) 3
  have l1 := World.block_lt_of_cell? w _ hd
  have l2 := World.block_lt_of_cell? w _ hn
  have l3 := World.block_lt_of_cell? w _ hs
  have l4 := World.block_lt_of_cell? w _ hb
  simp only at l1 l2 l3 l4
  clear hlk hz
  obtain ⟨h1a, h1b⟩ : 0 < name.size ∧ name.size ≤ 12 := by simpa [isNm] using h1
  clear h1
  simp only at hl hfit
  obtain ⟨o, hu, hM'⟩ := run_update_mapIs (P := Try.prog) keyK_string Try.underlying53 Try.underlying9 ((hM.alloc (.cells #[.string (zb ++ s), .int .i64 zn] 58)).drew.drew) name (zb ++ s, zn)
  simp only [fv] at hu
  have HO := Lib.hid (show Only (· = mb) w (putM (w.alloc (.cells #[.string (zb ++ s), .int .i64 zn] 58)).drew.drew mb o) from (((Only.refl (· = mb) w).alloc _).drew.drew.putM (fun _ => rfl) o))
  have HM := Lib.hid hM'
  clear hM' hM
  cases ok
  · have hm' := hm rfl
    clear hm
    go_enter Try.func36, Try.ntmps36
    go_wp2
    go_region
    all_goals (go_wp2_with (go_at_call 37; refine (isName_yes name h1a h1b _).mono ?_; rintro e w' ⟨rfl, rfl⟩))
    all_goals (go_region; go_wp2; go_ret; exact ⟨rfl, HM.out, HO.out⟩)
  · clear hm hlen
    go_enter Try.func36, Try.ntmps36
    go_wp2
    go_region
    all_goals (go_wp2_with (go_at_call 37; refine (isName_yes name h1a h1b _).mono ?_; rintro e w' ⟨rfl, rfl⟩))
    all_goals (go_region; go_wp2; go_ret; exact ⟨rfl, HM.out, HO.out⟩)
end Go.Proofs.Ytekkmfclaepcgaa

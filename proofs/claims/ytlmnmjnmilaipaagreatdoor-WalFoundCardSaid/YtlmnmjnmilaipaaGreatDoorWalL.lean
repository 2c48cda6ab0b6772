/- Package wal: load walked; whether a disk has a file. -/
import Derived.Test.YtlmnmjnmilaipaaGreatDoorWalBA
import Derived.Test.YtlmnmjnmilaipaaGreatDoorDiskL
import Derived.Test.YtlmnmjnmilaipaaGreatDoorVarR
import Derived.Test.YtlmnmjnmilaipaaGreatDoorOwnRows
set_option linter.unusedVariables false
set_option linter.unusedSimpArgs false
namespace Go.Proofs.YtlmnmjnmilaipaaGreatDoor
open Go Go.RowKit Go.Sort PR Go.Proofs.YtlmnmjnmilaipaaGreatDoorW.PrintWords

theorem below_drawn {w w' : World} (h : Drawn0 w w') : Below w.heap.size w w' := by
  obtain ⟨n, rfl⟩ := h
  exact below_drewN (Below.refl _ _) n
/-- A value that lists a disk's names. -/
def NamesAt (w : World) (v : Value) (D : Dk) : Prop := w.ownsRow 0 9 1 v D.files.length (D.names.map encStr)
theorem names_enc (D : Dk) : D.names.map encStr = encs Value.string (D.names.map ba) := by
  unfold encs
  rw [List.map_map]
  rfl
theorem names_has (D : Dk) (name : ByteArray) : name ∈ D.names.map ba ↔ (aget D.files name).isSome = true := by
  rw [aget_isSome_iff]
  constructor
  · intro h
    obtain ⟨l, hl, rfl⟩ := List.mem_map.1 h
    obtain ⟨p, hp, rfl⟩ := D.mem_names.1 hl
    exact List.mem_map.2 ⟨p, hp, (ba_bs p.1).symm⟩
  · intro h
    obtain ⟨p, hp, rfl⟩ := List.mem_map.1 h
    exact List.mem_map.2 ⟨bs p.1, D.mem_names.2 ⟨p, hp, rfl⟩, ba_bs p.1⟩
theorem list_names (b mb : Nat) (D : Dk) (w : World) (h : DiskIs w b mb D) (hD : D.Ok) :
    Calls Tryz.prog 15 #[.pointer (some ⟨b, 0, none⟩)] w fun e w' => ∃ A c, e = .returned (.slice A D.files.length c) ∧ NamesAt w' (.slice A D.files.length c) D ∧ Below w.heap.size w w' := by
  refine (list_any b mb D w h hD).mono ?_
  rintro e w' ⟨v, rfl, hr, _, hb⟩
  obtain ⟨A, c, rfl⟩ := row_slice hr
  exact ⟨A, c, rfl, row_base hr (Nat.zero_le _), hb⟩
theorem contains_names (A : Option Addr) (c : Nat) (D : Dk) (name : ByteArray) (w : World) (hD : D.Ok) (h : NamesAt w (.slice A D.files.length c) D) :
    Calls Tryz.prog 40 #[.slice A D.files.length c, .string name] w fun e w' => e = .returned (.bool (aget D.files name).isSome) ∧ Below w.heap.size w w' := by
  have hl : (D.names.map ba).length = D.files.length := by rw [List.length_map, D.names_length]
  unfold NamesAt at h
  rw [names_enc, ← hl] at h
  have hR : Kd.R Kd.string 9 w 0 (fun _ => True) (.slice A (D.names.map ba).length c) (D.names.map ba) := Kd.R_of_own h (fun _ _ => trivial)
  obtain ⟨A', c', he, hc', hC⟩ := Kd.R_reads hR
  injection he with e1 e2 e3
  subst e1; subst e3
  obtain ⟨r, h1, h2⟩ := rContains (D.names.map ba) name (by have := hD.many; omega) (D.files.length + 1) (by omega)
  have hr : r = (aget D.files name).isSome := by
    rw [Bool.eq_iff_iff, h2, names_has]
  subst hr
  rw [← hl]
  refine (slices_Contains_string_string.calls _ A c (D.names.map ba) name _ w hC hc' h1).mono ?_
  rintro e w' ⟨rfl, hd⟩
  exact ⟨rfl, below_drawn hd⟩
theorem NamesAt.below {w w' : World} {v : Value} {D : Dk} (h : NamesAt w v D) (hb : Below w.heap.size w w') : NamesAt w' v D := own_move h (fun k hk => hb.block k (own_lt h k hk))

def fileV (D : Dk) (name : ByteArray) : ByteArray := ba ((fileP D name).getD [])
set_option maxHeartbeats 2000000 in
set_option maxRecDepth 100000 in
theorem load_any (b mb : Nat) (D : Dk) (name : ByteArray) (w : World) (h : DiskIs w b mb D) (hD : D.Ok) (hoff : D.off = false) :
    Calls Tryz.prog 85 #[.pointer (some ⟨b, 0, none⟩), .string name] w fun e w' => e = .returned (.tuple #[.string (fileV D name), .bool (aget D.files name).isSome, .nilIface]) ∧ Below w.heap.size w w' := by
  have L := Lib.hid (list_names b mb D w h hD)
  have C := Lib.hid (fun A c W (hn : NamesAt W (.slice A D.files.length c) D) => contains_names A c D name W hD hn)
  have R := Lib.hid (fun W (hW : DiskIs W b mb D) => read_any b mb D name W hW)
  have F := Lib.hid (fun x W => failed_none x W)
  have HD := Lib.hid h
  have OW := Lib.hid (fun w' (hb : Below w.heap.size w w') => h.only (Only.of_below (S := fun _ => False) hb) (fun h => h) (fun h => h))
  cases hg : aget D.files name with
  | none =>
    have hv : fileV D name = ⟨#[]⟩ := by unfold fileV fileP; rw [hg]; rfl
    rw [hg, Option.isSome_none] at C
    rw [hv, Option.isSome_none]
    clear h hD hoff hg hv
    go_enter Tryz.func85, Tryz.ntmps85
    go_wp2_with (first
      | (go_at_call 15; refine L.out.mono ?_; rintro ev w1 ⟨A, c, rfl, hn, hb⟩; have HN := Lib.hid hn; have HB := Lib.hid hb; clear hn hb)
      | (go_at_call 40; refine (C.out A c _ HN.out).mono ?_; rintro ev w2 ⟨rfl, hb⟩; have HB2 := Lib.hid (HB.out.trans (hb.mono HB.out.size)); clear hb))
    go_ret3
    exact ⟨rfl, HB2.out⟩
  | some z =>
    have hv : fileV D name = z.1 := by unfold fileV fileP; rw [hg]; exact ba_bs z.1
    have hrd : D.read name = (z.1, 0) := by unfold Dk.read; rw [if_neg (by rw [hoff]; simp), hg]
    rw [hg, Option.isSome_some] at C
    rw [hrd] at R
    rw [hv, Option.isSome_some]
    clear h hD hoff hg hv hrd
    go_enter Tryz.func85, Tryz.ntmps85
    go_wp2_with (first
      | (go_at_call 15; refine L.out.mono ?_; rintro ev w1 ⟨A, c, rfl, hn, hb⟩; have HN := Lib.hid hn; have HB := Lib.hid hb; clear hn hb)
      | (go_at_call 40; refine (C.out A c _ HN.out).mono ?_; rintro ev w2 ⟨rfl, hb⟩; have HB2 := Lib.hid (HB.out.trans (hb.mono HB.out.size)); clear hb)
      | (go_at_call 61; refine (R.out _ (OW.out _ HB2.out)).mono ?_; rintro ev w3 ⟨rfl, ho⟩; have HB3 := Lib.hid (HB2.out.trans (ho.below HB2.out.size (fun _ _ h => h))); clear ho)
      | (go_at_call 41; refine (F.out _ _).mono ?_; rintro ev w4 ⟨rfl, hb⟩; have HB4 := Lib.hid (HB3.out.trans (hb.mono HB3.out.size)); clear hb))
    go_ret3
    exact ⟨rfl, HB4.out⟩
end Go.Proofs.YtlmnmjnmilaipaaGreatDoor

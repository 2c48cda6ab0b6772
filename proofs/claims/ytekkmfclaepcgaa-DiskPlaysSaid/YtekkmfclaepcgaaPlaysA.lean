/- Name, and the calls of both disks by equations. -/
import Derived.Test.YtekkmfclaepcgaaRefL
import Derived.Test.YtekkmfclaepcgaaDiskV
set_option linter.unusedVariables false
namespace Go.Proofs.Ytekkmfclaepcgaa
open Go.RowKit

def name7 (k : Nat) : ByteArray := [(⟨#[97]⟩ : ByteArray), ⟨#[98]⟩, ⟨#[99]⟩, ⟨#[108, 111, 103]⟩, ⟨#[110, 101, 119]⟩, ⟨#[]⟩, ⟨#[116, 111, 111, 108, 111, 110, 103, 97, 110, 97, 109, 101, 46]⟩].getD k ⟨#[]⟩
def nameOf (n : Int) : ByteArray := name7 (pickOf n 7).toNat
theorem nameOf_len (n : Int) : (nameOf n).size ≤ maxLen := by
  obtain ⟨h1, h2⟩ := pickT_range n 7 (by decide)
  unfold nameOf
  obtain ⟨k, hk⟩ : ∃ k, (pickOf n 7).toNat = k := ⟨_, rfl⟩
  rw [hk]
  have : k < 7 := by omega
  have : ∀ j, j < 7 → (name7 j).size ≤ 13 := by decide
  have := this k (by omega)
  unfold maxLen; omega
theorem seven_get (k : Nat) (h : k < 7) : ([Value.string ⟨#[97]⟩, .string ⟨#[98]⟩, .string ⟨#[99]⟩, .string ⟨#[108, 111, 103]⟩, .string ⟨#[110, 101, 119]⟩, .string ⟨#[]⟩, .string ⟨#[116, 111, 111, 108, 111, 110, 103, 97, 110, 97, 109, 101, 46]⟩] : List Value)[k] = Value.string (name7 k) := by
  rcases k with _ | _ | _ | _ | _ | _ | _ | k
  all_goals first | rfl | omega

set_option maxHeartbeats 1000000 in
theorem name_any (n : Int) (w : World) (h1 : -9223372036854775808 ≤ n) (h2 : n ≤ 9223372036854775807) :
    Calls Try.prog 22 #[.int .i64 n] w fun e w' => e = .returned (.string (nameOf n)) ∧ Below w.heap.size w w' := by
  obtain ⟨q1, q2⟩ := pickT_range n 7 (by decide)
  have hn : nameOf n = name7 (pickOf n 7).toNat := rfl
  rw [hn]
  have HP := Lib.hid (fun W => pick_any n 7 W h1 h2 (by decide) (by decide))
  obtain ⟨k, hk⟩ : ∃ k : Nat, pickOf n 7 = k := ⟨(pickOf n 7).toNat, by omega⟩
  rw [hk] at HP
  rw [hk] at q2 ⊢
  simp only [Int.toNat_natCast]
  have hk7 : k < 7 := by omega
  have hget := seven_get k hk7
  have HG := Lib.hid hget
  have HB := Lib.hid ((Below.refl w.heap.size w).alloc (Nat.le_refl _) (.cells #[Value.string ⟨#[97]⟩, .string ⟨#[98]⟩, .string ⟨#[99]⟩, .string ⟨#[108, 111, 103]⟩, .string ⟨#[110, 101, 119]⟩, .string ⟨#[]⟩, .string ⟨#[116, 111, 111, 108, 111, 110, 103, 97, 110, 97, 109, 101, 46]⟩] 9))
  clear hget hk q1 q2 hn
  go_enter Try.func22, Try.ntmps22
  go_wp2_with fail
  refine (HP.out _).mono ?_
  rintro e w' ⟨rfl, rfl⟩
  go_wp2_with fail
  go_ret
  exact ⟨congrArg Ending.returned HG.out, HB.out⟩

section
variable {D D' : Dk} {r : Int} {base b : Nat} {l : Fl} {v : Value} {w : World}
theorem ref_append {nm s : ByteArray} (e : D.append nm s = (r, D')) (h : RIs w base b D l v) (hD : D.Ok) (hln : nm.size ≤ maxLen) (hls : s.size ≤ maxLen) :
    Calls Try.prog 23 #[.pointer (some ⟨b, 0, none⟩), .string nm, .string s] w fun e w' => e = .returned (.int .i64 r) ∧ (∃ l' v', RIs w' base b D' l' v') ∧ Only (base ≤ ·) w w' := by
  have := rappend_any base b D l v nm s w h hD hln hls
  rw [e] at this
  exact this
theorem ref_sync {nm : ByteArray} (e : D.sync nm = (r, D')) (h : RIs w base b D l v) (hD : D.Ok) :
    Calls Try.prog 24 #[.pointer (some ⟨b, 0, none⟩), .string nm] w fun e w' => e = .returned (.int .i64 r) ∧ (∃ l' v', RIs w' base b D' l' v') ∧ Only (base ≤ ·) w w' := by
  have := rsync_any base b D l v nm w h hD
  rw [e] at this
  exact this
theorem ref_remove {nm : ByteArray} (e : D.remove nm = (r, D')) (h : RIs w base b D l v) (hD : D.Ok) :
    Calls Try.prog 27 #[.pointer (some ⟨b, 0, none⟩), .string nm] w fun e w' => e = .returned (.int .i64 r) ∧ (∃ l' v', RIs w' base b D' l' v') ∧ Only (base ≤ ·) w w' := by
  have := rremove_any base b D l v nm w h hD
  rw [e] at this
  exact this
theorem ref_rename {nm to : ByteArray} (e : D.rename nm to = (r, D')) (h : RIs w base b D l v) (hD : D.Ok) (hln : to.size ≤ maxLen) :
    Calls Try.prog 25 #[.pointer (some ⟨b, 0, none⟩), .string nm, .string to] w fun e w' => e = .returned (.int .i64 r) ∧ (∃ l' v', RIs w' base b D' l' v') ∧ Only (base ≤ ·) w w' := by
  have := rrename_any base b D l v nm to w h hD hln
  rw [e] at this
  exact this
theorem ref_arm {n : Int} (e : D.arm n = (r, D')) (h : RIs w base b D l v) (hD : D.Ok) (h0 : -9223372036854775808 ≤ n) (h1 : n ≤ 9223372036854775807) :
    Calls Try.prog 28 #[.pointer (some ⟨b, 0, none⟩), .int .i64 n] w fun e w' => e = .returned (.int .i64 r) ∧ (∃ l' v', RIs w' base b D' l' v') ∧ Only (base ≤ ·) w w' := by
  have := rarm_any base b D l v n w h hD h0 h1
  rw [e] at this
  refine this.mono ?_
  rintro e w' ⟨h1, h2, h3⟩
  exact ⟨h1, ⟨l, v, h2⟩, h3.mono (fun k _ hk => by subst hk; exact h.le)⟩
theorem ref_restart {keep : List Int} {A : Option Addr} {n c : Nat} (e : D.restart keep = D') (hn : keep.length = n) (h : RIs w base b D l v) (hD : D.Ok) (hA : ∀ ad, A = some ad → 0 < keep.length → ad.block < base) (hk : ReadsI w A keep) :
    Calls Try.prog 29 #[.pointer (some ⟨b, 0, none⟩), .slice A n c] w fun e w' => e = .returned (.tuple #[]) ∧ (∃ l' v', RIs w' base b D' l' v') ∧ Only (base ≤ ·) w w' := by
  subst e hn
  exact rrestart_any base b D l v A c keep w h hD hA hk
theorem ref_read {nm s : ByteArray} (e : D.read nm = (s, r)) (h : RIs w base b D l v) :
    Calls Try.prog 30 #[.pointer (some ⟨b, 0, none⟩), .string nm] w fun e w' => e = .returned (.tuple #[.string s, .int .i64 r]) ∧ w = w' := by
  have := rread_any base b D l v nm w h
  rw [e] at this
  exact this
theorem ref_list (h : RIs w base b D l v) (hD : D.Ok) :
    Calls Try.prog 31 #[.pointer (some ⟨b, 0, none⟩)] w fun e w' => ∃ A c, e = .returned (.slice A D.files.length c) ∧ ReadsS w' A D.snames ∧ Below w.heap.size w w' := by
  have h1 := h.rel.len hD.nodup
  have h2 := h.rel.names hD.nodup
  have := rlist_any base b D l v w h (by have := hD.many; omega)
  rw [h1, h2] at this
  exact this
end
/-- The document's disk stands while the program's own blocks turn. -/
theorem RIs.own {w w' : World} {mb : Nat} {D : Dk} {l : Fl} {v : Value} (h : RIs w (mb + 2) (mb + 2) D l v) (ho : Only (Own (mb + 1) mb) w w') : RIs w' (mb + 2) (mb + 2) D l v :=
  h.only ho (by unfold Own; omega) (fun k hk hk2 => by have := (h.row_ne k hk).2.1; rcases hk2 with e | e <;> omega)
theorem DiskIs.ref {w w' : World} {mb : Nat} {D : Dk} (h : DiskIs w (mb + 1) mb D) (ho : Only (mb + 2 ≤ ·) w w') : DiskIs w' (mb + 1) mb D :=
  h.only ho (by omega) (by omega)
theorem RIs.below {w w' : World} {base b : Nat} {D : Dk} {l : Fl} {v : Value} (h : RIs w base b D l v) (ho : Below w.heap.size w w') : RIs w' base b D l v :=
  h.only (Only.of_below (S := fun _ => False) ho) (fun x => x) (fun _ _ x => x)
theorem DiskIs.below {w w' : World} {b mb : Nat} {D : Dk} (h : DiskIs w b mb D) (ho : Below w.heap.size w w') : DiskIs w' b mb D :=
  h.only (Only.of_below (S := fun _ => False) ho) (fun x => x) (fun x => x)
end Go.Proofs.Ytekkmfclaepcgaa

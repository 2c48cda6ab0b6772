/- awake: chapter 10's example. -/
import Derived.Test.YtekkmfclaepcgaaDiskW
set_option linter.unusedVariables false
namespace Go.Proofs.Ytekkmfclaepcgaa
open Go.RowKit

def aw1 : Dk := (Dk.new.append ⟨#[97]⟩ ⟨#[120, 121]⟩).2
def aw2 : Dk := (aw1.sync ⟨#[97]⟩).2
def aw3 : Dk := (aw2.append ⟨#[97]⟩ ⟨#[122, 119]⟩).2
def aw4 : Dk := aw3.restart [1]
def aw5 : Dk := (aw4.arm 1).2
def aw6 : Dk := (aw5.append ⟨#[97]⟩ ⟨#[113]⟩).2
theorem aw3_eq : aw3 = ⟨[(⟨#[97]⟩, (⟨#[120, 121, 122, 119]⟩, 2))], 3, 0, false⟩ := by kernel_rfl
theorem aw4_eq : aw4 = ⟨[(⟨#[97]⟩, (⟨#[120, 121, 122]⟩, 3))], 3, 0, false⟩ := by
  unfold aw4
  rw [aw3_eq]
  have h : Dk.snames ⟨[(⟨#[97]⟩, (⟨#[120, 121, 122, 119]⟩, 2))], 3, 0, false⟩ = [⟨#[97]⟩] := by simp [Dk.snames, Dk.names]
  show ({ files := refiles [1] (Dk.snames _) _ _, acts := 3, armed := 0, off := false } : Dk) = _
  rw [h]
  kernel_rfl
theorem aw_a : (Dk.new.append ⟨#[97]⟩ ⟨#[120, 121]⟩).1 = 0 := by kernel_rfl
theorem aw_b : (aw1.sync ⟨#[97]⟩).1 = 0 := by kernel_rfl
theorem aw_c : (aw2.append ⟨#[97]⟩ ⟨#[122, 119]⟩).1 = 0 := by kernel_rfl
theorem aw_s : aw4.read ⟨#[97]⟩ = (⟨#[120, 121, 122]⟩, 0) := by rw [aw4_eq]; kernel_rfl
theorem aw_f : (aw5.append ⟨#[97]⟩ ⟨#[113]⟩).1 = 100 := by unfold aw5; rw [aw4_eq]; kernel_rfl
theorem aw_g : aw6.read ⟨#[97]⟩ = (⟨#[]⟩, 100) := by unfold aw6 aw5; rw [aw4_eq]; kernel_rfl
theorem aw_off : aw6.off = true := by unfold aw6 aw5; rw [aw4_eq]; kernel_rfl
theorem aw_acts : aw6.acts = 4 := by unfold aw6 aw5; rw [aw4_eq]; kernel_rfl
theorem aw1_ok : aw1.Ok ∧ aw1.acts ≤ 1 := ⟨Dk.append_ok Dk.new_ok (by decide) _ _, (Dk.append_acts Dk.new _ _).2⟩
theorem aw2_ok : aw2.Ok ∧ aw2.acts ≤ 2 := ⟨Dk.sync_ok aw1_ok.1 (by have := aw1_ok.2; omega) _, by have := Dk.sync_acts aw1 ⟨#[97]⟩; have := aw1_ok.2; unfold aw2; omega⟩
theorem aw3_ok : aw3.Ok ∧ aw3.acts ≤ 3 := ⟨Dk.append_ok aw2_ok.1 (by have := aw2_ok.2; omega) _ _, by have := Dk.append_acts aw2 ⟨#[97]⟩ ⟨#[122, 119]⟩; have := aw2_ok.2; unfold aw3; omega⟩
theorem aw4_ok : aw4.Ok ∧ aw4.acts ≤ 3 := ⟨Dk.restart_ok aw3_ok.1 _, aw3_ok.2⟩
theorem aw5_ok : aw5.Ok ∧ aw5.acts ≤ 3 := ⟨Dk.arm_ok aw4_ok.1 (by have := aw4_ok.2; omega) _, by have := Dk.arm_acts aw4 1; have := aw4_ok.2; unfold aw5; omega⟩

theorem DiskIs.made (w : World) : DiskIs ((w.alloc (.map #[] 0)).alloc (.cells #[.map (some w.heap.size), .int .i64 0, .int .i64 0, .bool false] 55)) (w.heap.size + 1) w.heap.size Dk.new := by
  refine ⟨?_, (MapIs.made _ _ _ w).alloc _⟩
  have := (MapKept.heap_alloc (w.alloc (.map #[] 0)) (.cells #[.map (some w.heap.size), .int .i64 0, .int .i64 0, .bool false] 55)).1
  simpa [Dk.new] using this

theorem append_eq {D D' : Dk} {r : Int} {name s : ByteArray} (e : D.append name s = (r, D')) {b mb : Nat} {w : World} (h : DiskIs w b mb D) (hD : D.Ok) (hln : name.size ≤ maxLen) (hls : s.size ≤ maxLen) :
    Calls Try.prog 12 #[.pointer (some ⟨b, 0, none⟩), .string name, .string s] w fun e w' => e = .returned (.int .i64 r) ∧ DiskIs w' b mb D' ∧ Only (Own b mb) w w' := by
  have := append_any b mb D name s w h hD hln hls
  rw [e] at this
  exact this
theorem sync_eq {D D' : Dk} {r : Int} {name : ByteArray} (e : D.sync name = (r, D')) {b mb : Nat} {w : World} (h : DiskIs w b mb D) (hD : D.Ok) :
    Calls Try.prog 16 #[.pointer (some ⟨b, 0, none⟩), .string name] w fun e w' => e = .returned (.int .i64 r) ∧ DiskIs w' b mb D' ∧ Only (Own b mb) w w' := by
  have := sync_any b mb D name w h hD
  rw [e] at this
  exact this
theorem arm_eq {D D' : Dk} {r n : Int} (e : D.arm n = (r, D')) {b mb : Nat} {w : World} (h : DiskIs w b mb D) (hD : D.Ok) (h0 : -9223372036854775808 ≤ n) (h1 : n ≤ 9223372036854775807) :
    Calls Try.prog 18 #[.pointer (some ⟨b, 0, none⟩), .int .i64 n] w fun e w' => e = .returned (.int .i64 r) ∧ DiskIs w' b mb D' ∧ Only (Own b mb) w w' := by
  have := arm_any b mb D n w h hD h0 h1
  rw [e] at this
  exact this
theorem read_eq {D : Dk} {s name : ByteArray} {r : Int} (e : D.read name = (s, r)) {b mb : Nat} {w : World} (h : DiskIs w b mb D) :
    Calls Try.prog 13 #[.pointer (some ⟨b, 0, none⟩), .string name] w fun e w' => e = .returned (.tuple #[.string s, .int .i64 r]) ∧ DiskIs w' b mb D ∧ Only (Own b mb) w w' := by
  have := read_any b mb D name w h
  rw [e] at this
  refine this.mono ?_
  rintro e w' ⟨rfl, ho⟩
  exact ⟨rfl, h.only ho (fun x => x) (fun x => x), ho.mono (fun _ _ x => x.elim)⟩
theorem restart_eq {D D' : Dk} {keep : List Int} {A : Option Addr} {n c : Nat} (e : D.restart keep = D') {b mb : Nat} {w : World} (hn : keep.length = n) (h : DiskIs w b mb D) (hD : D.Ok) (hA : ∀ ad, A = some ad → 0 < keep.length → ad.block ≠ b) (hk : ReadsI w A keep) :
    Calls Try.prog 17 #[.pointer (some ⟨b, 0, none⟩), .slice A n c] w fun e w' => e = .returned (.tuple #[]) ∧ DiskIs w' b mb D' ∧ Only (Own b mb) w w' := by
  subst e hn
  exact restart_any b mb D A c keep w h hD hA hk

set_option maxHeartbeats 1000000 in
set_option maxRecDepth 100000 in
theorem awake_any (w : World) : Calls Try.prog 9 #[] w fun e w' => e = .returned (.bool true) ∧ Below w.heap.size w w' := by
  have own : ∀ k, Own (w.heap.size + 1) w.heap.size k → w.heap.size ≤ k := by rintro k (h | h) <;> omega
  have HOWN := Lib.hid own
  clear own
  go_enter Try.func9, Try.ntmps9
  go_wp2_with fail
  refine (new_any _).mono ?_
  rintro e w1 ⟨rfl, hw1⟩
  have hd1 := DiskIs.made w
  have ho1 : Only (fun k => w.heap.size ≤ k) w w1 := by rw [hw1]; exact ((Only.refl _ w).alloc _).alloc _
  rw [← hw1] at hd1
  have HD1 := Lib.hid hd1
  have HO1 := Lib.hid ho1
  clear hw1 hd1 ho1
  go_wp2_with fail
  refine (append_eq (D' := aw1) (Prod.ext aw_a rfl) HD1.out Dk.new_ok (by decide) (by decide)).mono ?_
  rintro e w2 ⟨rfl, hd2, ho2⟩
  have HD2 := Lib.hid hd2
  have HO2 := Lib.hid (HO1.out.trans (ho2.mono fun k _ h => HOWN.out k h))
  clear hd2 ho2
  go_wp2_with fail
  refine (sync_eq (D' := aw2) (Prod.ext aw_b rfl) HD2.out aw1_ok.1).mono ?_
  rintro e w3 ⟨rfl, hd3, ho3⟩
  have HD3 := Lib.hid hd3
  have HO3 := Lib.hid (HO2.out.trans (ho3.mono fun k _ h => HOWN.out k h))
  clear hd3 ho3
  go_wp2_with fail
  refine (append_eq (D' := aw3) (Prod.ext aw_c rfl) HD3.out aw2_ok.1 (by decide) (by decide)).mono ?_
  rintro e w4 ⟨rfl, hd4, ho4⟩
  have HD4 := Lib.hid hd4
  have HO4 := Lib.hid (HO3.out.trans (ho4.mono fun k _ h => HOWN.out k h))
  clear hd4 ho4
  have sz4 := HO4.out.size
  have hk := World.cell?_alloc_at (w := w4) #[.int .i64 1] 3 w4.heap.size 0 rfl
  have HR : ReadsI (w4.alloc (.cells #[.int .i64 1] 3)) (some ⟨w4.heap.size, 0, none⟩) [1] := ⟨fun i hi => by
    have : i = 0 := by simp at hi; omega
    subst this
    exact ⟨_, _, rfl, hk⟩, by decide, by simp⟩
  have lb4 := HD4.out.lt
  have H4 := Lib.hid (restart_eq (c := 1) (D' := aw4) rfl rfl (HD4.out.alloc (.cells #[.int .i64 1] 3)) aw3_ok.1 (fun ad h _ => by cases h; show w4.heap.size ≠ _; omega) HR)
  clear HR hk
  go_wp2_with fail
  refine H4.out.mono ?_
  rintro e w5 ⟨rfl, hd5, ho5⟩
  have HD5 := Lib.hid hd5
  have HO5 := Lib.hid ((HO4.out.alloc _).trans (ho5.mono fun k _ h => HOWN.out k h))
  clear hd5 ho5 H4
  go_wp2_with fail
  refine (read_eq aw_s HD5.out).mono ?_
  rintro e w6 ⟨rfl, hd6, ho6⟩
  have HD6 := Lib.hid hd6
  have HO6 := Lib.hid (HO5.out.trans (ho6.mono fun k _ h => HOWN.out k h))
  clear hd6 ho6
  go_wp2_with fail
  refine (arm_eq (D' := aw5) (n := 1) (r := 0) (by rfl) HD6.out aw4_ok.1 (by decide) (by decide)).mono ?_
  rintro e w7 ⟨rfl, hd7, ho7⟩
  have HD7 := Lib.hid hd7
  have HO7 := Lib.hid (HO6.out.trans (ho7.mono fun k _ h => HOWN.out k h))
  clear hd7 ho7
  go_wp2_with fail
  refine (append_eq (D' := aw6) (Prod.ext aw_f rfl) HD7.out aw5_ok.1 (by decide) (by decide)).mono ?_
  rintro e w8 ⟨rfl, hd8, ho8⟩
  have HD8 := Lib.hid hd8
  have HO8 := Lib.hid (HO7.out.trans (ho8.mono fun k _ h => HOWN.out k h))
  clear hd8 ho8
  go_wp2_with fail
  refine (read_eq aw_g HD8.out).mono ?_
  rintro e w9 ⟨rfl, hd9, ho9⟩
  have HD9 := Lib.hid hd9
  have HO9 := Lib.hid (HO8.out.trans (ho9.mono fun k _ h => HOWN.out k h))
  clear hd9 ho9
  have c1 := HD9.out.c1
  have c3 := HD9.out.c3
  rw [aw_acts] at c1
  rw [aw_off] at c3
  go_wp2
  go_ret
  exact ⟨rfl, HO9.out.below (Nat.le_refl _) (fun k hk h => by omega)⟩
end Go.Proofs.Ytekkmfclaepcgaa

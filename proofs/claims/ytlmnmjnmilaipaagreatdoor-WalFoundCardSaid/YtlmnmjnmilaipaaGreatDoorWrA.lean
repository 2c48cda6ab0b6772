/- Layer 1's reference: value and Reader.Num walked. -/
import Derived.Test.YtlmnmjnmilaipaaGreatDoorDiskAF
import Derived.Test.YtlmnmjnmilaipaaGreatDoorWrPQ
set_option linter.unusedVariables false
set_option linter.unusedSimpArgs false
namespace Go.Proofs.YtlmnmjnmilaipaaGreatDoor.Rk
open Go Go.RowKit

theorem bget (s : ByteArray) (k : Nat) (h : k < s.size) : ((bs s).getD k 0).toNat = (s[k]'h).toNat := by
  have h2 : k < (bs s).length := by rw [bs_len]; exact h
  rw [List.getD_eq_getElem?_getD, List.getElem?_eq_getElem h2]
  rfl
theorem val_step (s : ByteArray) (k : Nat) (h : k < s.size) (h0 : 1 ≤ k) : valU ((bs s).take (k + 1)) 0 / 2 = valU ((bs s).take k) 0 / 2 + (s[k]'h).toNat % 128 * 2 ^ (7 * k - 1) := by
  have h2 : k < (bs s).length := by rw [bs_len]; exact h
  have e : (bs s)[k].toNat = (s[k]'h).toNat := rfl
  rw [List.take_succ_eq_append_getElem h2, valU_snoc, e, List.length_take, Nat.min_eq_left (by omega), Nat.zero_add]
  have e2 : 2 ^ (7 * k) = 2 ^ (7 * k - 1) * 2 := by rw [← Nat.pow_succ]; congr 1; omega
  rw [e2, ← Nat.mul_assoc, Nat.add_mul_div_right _ _ (by omega)]
theorem val_one (s : ByteArray) (h : 0 < s.size) : valU ((bs s).take 1) 0 = (s[0]'h).toNat % 128 := by
  have h2 : 0 < (bs s).length := by rw [bs_len]; exact h
  have e : (bs s)[0].toNat = (s[0]'h).toNat := rfl
  rw [show (1 : Nat) = 0 + 1 from rfl, List.take_succ_eq_append_getElem h2, valU_snoc, e]
  simp [valU]
theorem val_odd (s : ByteArray) (h : 0 < s.size) : valU (bs s) 0 % 2 = (s[0]'h).toNat % 2 := by
  cases hb : bs s with
  | nil => have := bs_len s; rw [hb] at this; simp at this; omega
  | cons a t =>
    have e : (s[0]'h).toNat = a.toNat := by
      have h2 : 0 < (bs s).length := by rw [bs_len]; exact h
      have e : (bs s)[0].toNat = (s[0]'h).toNat := rfl
      rw [← e]; simp [hb]
    rw [e]
    show (a.toNat % 128 * 2 ^ (7 * 0) + valU t 1) % 2 = _
    have hv : ∀ (t : Bs) (i : Nat), 1 ≤ i → valU t i % 2 = 0 := by
      intro t
      induction t with
      | nil => intro i hi; rfl
      | cons c t ih =>
        intro i hi
        show (c.toNat % 128 * 2 ^ (7 * i) + valU t (i + 1)) % 2 = 0
        have e2 : 2 ^ (7 * i) = 2 * 2 ^ (7 * i - 1) := by rw [Nat.mul_comm 2, ← Nat.pow_succ]; congr 1; omega
        have := ih (i + 1) (by omega)
        rw [e2, Nat.mul_left_comm]
        omega
    have := hv t 1 (Nat.le_refl _)
    rw [Nat.mul_zero, Nat.pow_zero, Nat.mul_one]
    omega
theorem val_half_lt (s : ByteArray) (k : Nat) (h0 : 1 ≤ k) (hk : k ≤ s.size) : valU ((bs s).take k) 0 / 2 + 1 ≤ 2 ^ (7 * k - 1) := by
  have := valU_le ((bs s).take k) 0
  rw [List.length_take, Nat.min_eq_left (by rw [bs_len]; exact hk), Nat.zero_add, Nat.mul_zero, Nat.pow_zero] at this
  have e2 : 2 ^ (7 * k) = 2 * 2 ^ (7 * k - 1) := by rw [Nat.mul_comm 2, ← Nat.pow_succ]; congr 1; omega
  omega
theorem unit_facts (k : Nat) (h0 : 1 ≤ k) (h9 : k ≤ 8) : 2 ^ (7 * k - 1) ≤ 36028797018963968 ∧ 2 ^ (7 * (k + 1) - 1) = 128 * 2 ^ (7 * k - 1) := by
  constructor
  · have : 2 ^ (7 * k - 1) ≤ 2 ^ 55 := Nat.pow_le_pow_right (by omega) (by omega)
    exact this
  · rw [show 7 * (k + 1) - 1 = 7 + (7 * k - 1) by omega, Nat.pow_add]
def unitP (k : Nat) : Nat := if k ≤ 9 then 2 ^ (7 * k - 1) else 4611686018427387904
def valueR (s : ByteArray) : Value := if s.size = 10 ∧ 1 < ((bs s).getD 9 0).toNat % 128 then .tuple #[.int .i64 0, .bool false] else .tuple #[.int .i64 (unzig (valU (bs s) 0)), .bool true]
theorem valueR_no (s : ByteArray) (k : Nat) (hk : k = 9) (h : k < s.size) (h10 : s.size ≤ 10) (hb : 1 < (s[k]'h).toNat % 128) : valueR s = .tuple #[.int .i64 0, .bool false] := by
  subst hk
  unfold valueR
  rw [if_pos ⟨by omega, by rw [bget s 9 h]; exact hb⟩]
theorem val_nine (s : ByteArray) (k : Nat) (hk : k = 9) (h : k < s.size) (hb : (s[k]'h).toNat % 128 ≤ 1) : valU ((bs s).take k) 0 / 2 + 1 ≤ 4611686018427387904 ∧ valU ((bs s).take (k + 1)) 0 / 2 = valU ((bs s).take k) 0 / 2 + (s[k]'h).toNat % 128 * 4611686018427387904 := by
  subst hk
  exact ⟨val_half_lt s 9 (by omega) (by omega), val_step s 9 h (by omega)⟩
theorem nine_eq (s : ByteArray) (k : Nat) (hk : k = 9) (h : k < s.size) (h9 : 9 < s.size) (hb : (s[k]'h).toNat % 128 ≤ 1) : (s[9]'h9).toNat % 128 ≤ 1 := by
  subst hk; exact hb
theorem valU_last (s : ByteArray) (h1 : 1 ≤ s.size) (h2 : s.size ≤ 10) (h : ∀ h : 9 < s.size, (s[9]'h).toNat % 128 ≤ 1) : valU (bs s) 0 / 2 < 9223372036854775808 := by
  have hall : (bs s).take s.size = bs s := List.take_of_length_le (by rw [bs_len]; omega)
  by_cases h9 : 9 < s.size
  · have e : s.size = 9 + 1 := by omega
    have := val_nine s 9 rfl h9 (h h9)
    rw [e] at hall
    rw [hall] at this
    have := h h9
    omega
  · have := val_half_lt s s.size h1 (Nat.le_refl _)
    rw [hall] at this
    have h3 : 2 ^ (7 * s.size - 1) ≤ 2 ^ 62 := Nat.pow_le_pow_right (by omega) (by omega)
    omega
theorem valueR_yes (s : ByteArray) (h : ∀ h : 9 < s.size, (s[9]'h).toNat % 128 ≤ 1) : valueR s = .tuple #[.int .i64 (unzig (valU (bs s) 0)), .bool true] := by
  unfold valueR
  rw [if_neg]
  rintro ⟨h1, h2⟩
  rw [bget s 9 (by omega)] at h2
  have := h (by omega)
  omega
set_option maxHeartbeats 2000000 in
theorem rvalue_any (s : ByteArray) (w : World) (h1 : 1 ≤ s.size) (h2 : s.size ≤ 10) :
    Calls Tryz.prog 132 #[.string s] w fun e w' => e = .returned (valueR s) ∧ w = w' := by
  have hs0 : 0 < s.size := by omega
  have hb0 : (s[0]'hs0).toNat < 256 := UInt8.toNat_lt _
  have V1 := Lib.hid (val_one s hs0)
  have VO := Lib.hid (val_odd s hs0)
  generalize hR : valueR s = R
  have HR := Lib.hid hR
  clear hR
  go_enter Tryz.func132, Tryz.ntmps132
  go_wp2
  go_loop [5, 6, 7] (fun n u i => ∃ k : Nat, 1 ≤ k ∧ k ≤ s.size ∧ i = .int .i64 k ∧ n = .int .i64 ((valU ((bs s).take k) 0 / 2 : Nat) : Int) ∧ u = .int .i64 (unitP k : Nat) ∧ (∀ h : 9 < k, ∀ h9 : 9 < s.size, (s[9]'h9).toNat % 128 ≤ 1)) (fun _ _ i => s.size - (intOf i).toNat)
  case atStart => exact ⟨1, Nat.le_refl _, by omega, rfl, by rw [V1.out]; rfl, rfl, fun h => absurd h (by omega)⟩
  case round =>
    obtain ⟨k, hk1, hk2, rfl, rfl, rfl, h9⟩ := hrel
    have HN9 := Lib.hid h9
    clear h9
    by_cases hlt : k < s.size
    · have hb : (s[k]'hlt).toNat < 256 := UInt8.toNat_lt _
      have VS := Lib.hid (val_step s k hlt hk1)
      have hvl := val_half_lt s k hk1 hk2
      by_cases hk9 : k = 9
      · have h9a : 9 ≤ k := by omega
        have h9b : k ≤ 9 := by omega
        have HK9 := Lib.hid hk9
        clear hk9
        by_cases hd : 1 < (s[k]'hlt).toNat % 128
        · have HE := Lib.hid (valueR_no s k HK9.out hlt h2 hd)
          go_wp2
          go_ret2
          exact ⟨congrArg Ending.returned (HE.out.symm.trans HR.out), rfl⟩
        · have hd2 : (s[k]'hlt).toNat % 128 ≤ 1 := by omega
          obtain ⟨v1, v2⟩ := val_nine s k HK9.out hlt hd2
          have VS2 := Lib.hid v2
          generalize valU ((bs s).take k) 0 / 2 = n at *
          clear hd VS hvl v2
          go_wp2
          go_roundw
          case rel => exact ⟨k + 1, by omega, by omega, by go_num, by rw [VS2.out]; go_num, by rw [HK9.out]; rfl, fun _ h9 => nine_eq s k HK9.out hlt h9 hd2⟩
          case measure => simp [intOf]; omega
      · obtain ⟨g1, g2⟩ := unit_facts k hk1 (by omega)
        have hu1 : unitP k = 2 ^ (7 * k - 1) := if_pos (by omega)
        have hu2 : unitP (k + 1) = 128 * 2 ^ (7 * k - 1) := (if_pos (by omega)).trans g2
        have HU2 := Lib.hid hu2
        rw [hu1]
        clear hu1 hu2 g2
        generalize 2 ^ (7 * k - 1) = U at *
        generalize valU ((bs s).take k) 0 / 2 = n at *
        have hP : (s[k]'hlt).toNat % 128 * U ≤ 127 * U := Nat.mul_le_mul_right _ (by omega)
        have hP2 : (((s[k]'hlt).toNat : Int) % 128) * (U : Int) = (((s[k]'hlt).toNat % 128 * U : Nat) : Int) := by push_cast; rfl
        generalize (s[k]'hlt).toNat % 128 * U = P at *
        go_wp2
        go_roundw
        case rel => exact ⟨k + 1, by omega, by omega, by go_num, by rw [VS.out]; go_num, by rw [HU2.out]; go_num, fun h => absurd h (by omega)⟩
        case measure => simp [intOf]; omega
    · have hkl : k = s.size := by omega
      have hall : (bs s).take k = bs s := List.take_of_length_le (by rw [bs_len]; omega)
      rw [hall]
      have HE := Lib.hid (valueR_yes s (fun h => HN9.out (by omega) h))
      have hz := valU_last s h1 h2 (fun h => HN9.out (by omega) h)
      have ho := VO.out
      by_cases hodd : (s[0]'hs0).toNat % 2 = 1
      · have HU := Lib.hid (show unzig (valU (bs s) 0) = -((valU (bs s) 0 / 2 : Nat) : Int) - 1 by unfold unzig; rw [if_neg (by omega)])
        clear ho
        generalize valU (bs s) 0 / 2 = n at *
        go_wp2
        go_ret2
        exact ⟨congrArg Ending.returned ((by rw [HU.out] : Value.tuple #[.int .i64 (-(n : Int) - 1), .bool true] = _).trans (HE.out.symm.trans HR.out)), rfl⟩
      · have HU := Lib.hid (show unzig (valU (bs s) 0) = ((valU (bs s) 0 / 2 : Nat) : Int) by unfold unzig; rw [if_pos (by omega)])
        clear ho
        generalize valU (bs s) 0 / 2 = n at *
        go_wp2
        go_ret2
        exact ⟨congrArg Ending.returned ((by rw [HU.out] : Value.tuple #[.int .i64 (n : Int), .bool true] = _).trans (HE.out.symm.trans HR.out)), rfl⟩
end Go.Proofs.YtlmnmjnmilaipaaGreatDoor.Rk
/- Layer 1's reference: the reader walked. -/
set_option linter.unusedVariables false
set_option linter.unusedSimpArgs false
namespace Go.Proofs.YtlmnmjnmilaipaaGreatDoor.Rk
open Go Go.RowKit

/-- Block r is a reader of a text. -/
def RdIs (w : World) (r : Nat) (s : ByteArray) (bad : Bool) : Prop := w.heap[r]? = some (.cells #[.string s, .bool bad] 189)
theorem RdIs.c0 {w : World} {r : Nat} {s : ByteArray} {bad : Bool} (h : RdIs w r s bad) : w.cell? ⟨r, 0, none⟩ = some (.string s) := by unfold RdIs at h; simp [World.cell?, h]
theorem RdIs.c1 {w : World} {r : Nat} {s : ByteArray} {bad : Bool} (h : RdIs w r s bad) : w.cell? ⟨r, 1, none⟩ = some (.bool bad) := by unfold RdIs at h; simp [World.cell?, h]
theorem RdIs.fr {w : World} {r : Nat} {s : ByteArray} {bad : Bool} (h : RdIs w r s bad) (i : Nat) : w.frozen? ⟨r, i, none⟩ = false := by unfold RdIs at h; simp [World.frozen?, h]
theorem RdIs.lt {w : World} {r : Nat} {s : ByteArray} {bad : Bool} (h : RdIs w r s bad) : r < w.heap.size := (Array.getElem?_eq_some_iff.1 h).1
theorem RdIs.set {w : World} {r : Nat} {s : ByteArray} {bad : Bool} (h : RdIs w r s bad) (t : ByteArray) : RdIs (w.setCell ⟨r, 0, none⟩ (.string t)) r t bad := by
  unfold RdIs at h ⊢
  simp [World.setCell, Array.getElem?_modify, h]
theorem RdIs.spoil {w : World} {r : Nat} {s : ByteArray} {bad : Bool} (h : RdIs w r s bad) : RdIs (w.setCell ⟨r, 1, none⟩ (.bool true)) r s true := by
  unfold RdIs at h ⊢
  simp [World.setCell, Array.getElem?_modify, h]
def rdN (s : ByteArray) : Int × ByteArray × Bool := match readN (bs s) with
  | none => (0, s, true)
  | some (n, k) => (n, s.extract k s.size, false)
theorem rdnew_any (s : ByteArray) (w : World) : Calls Tryz.prog 104 #[.string s] w fun e w' => e = .returned (.pointer (some ⟨w.heap.size, 0, none⟩)) ∧ w' = w.alloc (.cells #[.string s, .bool false] 189) := by
  go_enter Tryz.func104, Tryz.ntmps104
  go_wp2
  go_ret
  exact ⟨rfl, rfl⟩
theorem RdIs.made (w : World) (s : ByteArray) : RdIs (w.alloc (.cells #[.string s, .bool false] 189)) w.heap.size s false := (MapKept.heap_alloc w _).1
theorem rdbad_any (r : Nat) (s : ByteArray) (bad : Bool) (w : World) (h : RdIs w r s bad) : Calls Tryz.prog 106 #[.pointer (some ⟨r, 0, none⟩)] w fun e w' => e = .returned (.bool bad) ∧ w = w' := by
  have c1 := h.c1
  clear h
  go_enter Tryz.func106, Tryz.ntmps106
  go_wp2
  go_ret
  exact ⟨rfl, rfl⟩
theorem rdleft_any (r : Nat) (s : ByteArray) (bad : Bool) (w : World) (h : RdIs w r s bad) : Calls Tryz.prog 107 #[.pointer (some ⟨r, 0, none⟩)] w fun e w' => e = .returned (.int .i64 s.size) ∧ w = w' := by
  have c0 := h.c0
  clear h
  go_enter Tryz.func107, Tryz.ntmps107
  go_wp2
  go_ret
  exact ⟨rfl, rfl⟩
theorem rdN_none {s : ByteArray} (h : rnumP (bs s) = none) : rdN s = (0, s, true) := by
  unfold rdN; rw [← rnum_eq, h]
theorem bs_extract0 (s : ByteArray) (k : Nat) : bs (s.extract 0 k) = (bs s).take k := by
  unfold bs
  rw [ByteArray.data_extract, Array.toList_extract]
  simp
theorem bs_extract (s : ByteArray) (k : Nat) : bs (s.extract k s.size) = (bs s).drop k := by
  unfold bs
  rw [ByteArray.data_extract, Array.toList_extract, List.extract_eq_take_drop, List.take_of_length_le (by rw [List.length_drop]; exact Nat.le_refl _)]
theorem getD_take (l : Bs) (k n : Nat) (h : k < n) : (l.take n).getD k 0 = l.getD k 0 := by
  rw [List.getD_eq_getElem?_getD, List.getD_eq_getElem?_getD, List.getElem?_take, if_pos h]
theorem rd_value {s : ByteArray} (h1 : lead (bs s) < 10) (h2 : lead (bs s) < s.size) (h3 : ¬ (0 < lead (bs s) ∧ (bs s).getD (lead (bs s)) 0 = 0)) :
    (valueR (s.extract 0 (lead (bs s) + 1)) = .tuple #[.int .i64 0, .bool false] ∧ rdN s = (0, s, true)) ∨
    (∃ n, valueR (s.extract 0 (lead (bs s) + 1)) = .tuple #[.int .i64 n, .bool true] ∧ rdN s = (n, s.extract (lead (bs s) + 1) s.size, false)) := by
  have hb := bs_len s
  have hz : (s.extract 0 (lead (bs s) + 1)).size = lead (bs s) + 1 := by rw [ByteArray.size_extract]; omega
  have hg : ¬ (10 ≤ lead (bs s) ∨ lead (bs s) = (bs s).length ∨ (0 < lead (bs s) ∧ (bs s).getD (lead (bs s)) 0 = 0)) := by
    rintro (h | h | h)
    · omega
    · omega
    · exact h3 h
  have hr : rnumP (bs s) = if lead (bs s) = 9 ∧ 1 < ((bs s).getD 9 0).toNat then none else some (unzig (valU ((bs s).take (lead (bs s) + 1)) 0), lead (bs s) + 1) := by
    unfold rnumP
    rw [if_neg hg]
  unfold valueR
  rw [hz, bs_extract0]
  by_cases h9 : lead (bs s) = 9 ∧ 1 < ((bs s).getD 9 0).toNat
  · left
    rw [if_pos h9] at hr
    refine ⟨?_, rdN_none hr⟩
    have ha := lead_at (bs s) (by omega)
    have he : ((bs s).getD 9 0).toNat < 128 := by
      rw [← h9.1, List.getD_eq_getElem?_getD, List.getElem?_eq_getElem (by omega)]
      exact ha
    rw [if_pos ⟨by omega, by rw [getD_take _ _ _ (by omega)]; omega⟩]
  · right
    rw [if_neg h9] at hr
    refine ⟨_, ?_, by unfold rdN; rw [← rnum_eq, hr]⟩
    rw [if_neg]
    rintro ⟨e1, e2⟩
    rw [getD_take _ _ _ (by omega)] at e2
    have e3 : lead (bs s) = 9 := by omega
    exact h9 ⟨e3, by omega⟩
set_option maxHeartbeats 4000000 in
set_option maxRecDepth 100000 in
theorem rdnum_any (r : Nat) (s : ByteArray) (w : World) (h : RdIs w r s false) (hs : s.size ≤ 1000000) :
    Calls Tryz.prog 105 #[.pointer (some ⟨r, 0, none⟩)] w fun e w' => e = .returned (.int .i64 (rdN s).1) ∧ RdIs w' r (rdN s).2.1 (rdN s).2.2 ∧ Only (· = r) w w' := by
  have c0 := h.c0
  have c1 := h.c1
  have f0 := h.fr 0
  have f1 := h.fr 1
  have H := Lib.hid h
  have lr := h.lt
  clear h
  obtain ⟨X, hX⟩ : ∃ X, X = rdN s := ⟨_, rfl⟩
  rw [← hX]
  have HX := Lib.hid hX
  clear hX
  go_enter Tryz.func105, Tryz.ntmps105
  go_wp2
  have hbl := bs_len s
  have hll := lead_le (bs s)
  rw [hbl] at hll
  obtain ⟨L, hL⟩ : ∃ L, L = lead (bs s) := ⟨_, rfl⟩
  have HL := Lib.hid hL
  rw [← hL] at hll
  clear hL hbl
  go_loop [3] (fun i => ∃ k : Nat, k ≤ L ∧ i = .int .i64 k) (fun i => s.size - (intOf i).toNat)
  case atStart => exact ⟨0, Nat.zero_le _, rfl⟩
  case round =>
    obtain ⟨k, hk, rfl⟩ := hrel
    by_cases hlt : k < L
    · have hks : k < s.size := by omega
      have hb : 128 ≤ (s[k]'hks).toNat := by
        have := lead_all (bs s) k (by rw [bs_len]; exact hks) (by rw [← HL.out]; exact hlt)
        exact this
      have hb2 : (s[k]'hks).toNat < 256 := UInt8.toNat_lt _
      go_wp2
      go_round
      case rel => exact ⟨k + 1, by omega, by go_num⟩
      case measure => simp [intOf]; omega
    · have hkL : k = L := by omega
      have HK := Lib.hid hkL
      have hk2 : L ≤ k := by omega
      clear hkL
      by_cases hks : k < s.size
      · have hb : (s[k]'hks).toNat < 128 := by
          have := lead_at (bs s) (by rw [bs_len, ← HL.out, ← HK.out]; exact hks)
          have e : ((bs s).getD k 0).toNat < 128 := by
            rw [HK.out, HL.out, List.getD_eq_getElem?_getD, List.getElem?_eq_getElem (by rw [bs_len, ← HL.out, ← HK.out]; exact hks)]
            exact this
          rw [bget s k hks] at e
          exact e
        by_cases h10 : 10 ≤ k
        · have HR := Lib.hid (rdN_none (s := s) (if_pos (.inl (by rw [← HL.out, ← HK.out]; exact h10))))
          go_wp2
          go_ret
          exact ⟨ret_int (by rw [HX.out, HR.out]), by rw [HX.out, HR.out]; exact H.out.spoil, (Only.refl (· = r) w).setCell (p := ⟨r, 1, none⟩) (fun _ => rfl) _⟩
        · by_cases hz : 0 < k ∧ (s[k]'hks).toNat = 0
          · have HR := Lib.hid (rdN_none (s := s) (if_pos (.inr (.inr (by rw [← HL.out, ← HK.out]; exact ⟨hz.1, UInt8.toNat_inj.1 (by rw [bget s k hks]; exact hz.2)⟩)))))
            obtain ⟨hz1, hz2⟩ := hz
            have hz3 : s[k]'hks = 0 := UInt8.toNat_inj.1 hz2
            go_wp2
            go_ret
            exact ⟨ret_int (by rw [HX.out, HR.out]), by rw [HX.out, HR.out]; exact H.out.spoil, (Only.refl (· = r) w).setCell (p := ⟨r, 1, none⟩) (fun _ => rfl) _⟩
          · have HV := Lib.hid (rd_value (s := s) (by rw [← HL.out, ← HK.out]; omega) (by rw [← HL.out, ← HK.out]; exact hks) (by
              rw [← HL.out, ← HK.out]
              rintro ⟨e1, e2⟩
              exact hz ⟨e1, by rw [← bget s k hks, e2]; rfl⟩))
            rw [← HL.out, ← HK.out] at HV
            have HC := Lib.hid (rvalue_any (s.extract 0 (k + 1)) w (by rw [ByteArray.size_extract]; omega) (by rw [ByteArray.size_extract]; omega))
            have hz2 : k ≤ 0 ∨ (s[k]'hks).toNat ≠ 0 := by
              rcases Nat.eq_zero_or_pos k with e | e
              · exact .inl (by omega)
              · exact .inr fun e2 => hz ⟨e, e2⟩
            clear hz
            have hq1 : ((k : Int) == (s.size : Int)) = false := beq_eq_false_iff_ne.2 (by omega)
            have hq3 : k ≤ 0 ∨ (((s[k]'hks).toNat : Int) == 0) = false := hz2.imp id (fun e => beq_eq_false_iff_ne.2 (by omega))
            clear hz2
            rcases hq3 with hq3 | hq3
            all_goals rcases HV.out with ⟨v1, v2⟩ | ⟨n, v1, v2⟩
            all_goals rw [v1] at HC
            all_goals go_wp2_with (go_at_call 132; refine HC.out.mono ?_; rintro e w' ⟨rfl, rfl⟩)
            all_goals go_ret
            all_goals first | exact ⟨ret_int (by rw [HX.out, v2]), by rw [HX.out, v2]; exact H.out.spoil, (Only.refl (· = r) w).setCell (p := ⟨r, 1, none⟩) (fun _ => rfl) _⟩ | exact ⟨ret_int (by rw [HX.out, v2]), by rw [HX.out, v2]; exact H.out.set _, (Only.refl (· = r) w).setCell (p := ⟨r, 0, none⟩) (fun _ => rfl) _⟩
      · have HR := Lib.hid (rdN_none (s := s) (if_pos (.inr (.inl (by rw [← HL.out, ← HK.out, bs_len]; omega)))))
        have hke : k = s.size := by omega
        go_wp2
        all_goals go_ret
        all_goals exact ⟨ret_int (by rw [HX.out, HR.out]), by rw [HX.out, HR.out]; exact H.out.spoil, (Only.refl (· = r) w).setCell (p := ⟨r, 1, none⟩) (fun _ => rfl) _⟩
end Go.Proofs.YtlmnmjnmilaipaaGreatDoor.Rk

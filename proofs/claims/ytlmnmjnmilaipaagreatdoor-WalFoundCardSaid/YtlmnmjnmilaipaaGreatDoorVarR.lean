/- What the printed adler and frame.sealed compute, plainly. -/
import Derived.Test.YtlmnmjnmilaipaaGreatDoorWalPl
import Derived.Test.YtlmnmjnmilaipaaGreatDoorVrA
import Derived.Test.YtlmnmjnmilaipaaGreatDoorVrB
import Derived.Test.YtlmnmjnmilaipaaGreatDoorVrC
import Derived.Test.YtlmnmjnmilaipaaGreatDoorVrD
set_option linter.unusedVariables false
set_option linter.unusedSimpArgs false
namespace Go.Proofs.YtlmnmjnmilaipaaGreatDoor
open Go Go.RowKit PR Go.Proofs.YtlmnmjnmilaipaaGreatDoorW.PrintWords

theorem wrap64_at (n : Int) (h : -9223372036854775808 ≤ n ∧ n ≤ 9223372036854775807) : wrap64 n = n := by unfold wrap64; omega
theorem wadd (a b : Nat) (h : a + b ≤ 4611686018427387904) : wrap64 ((a : Int) + (b : Int)) = ((a + b : Nat) : Int) := by unfold wrap64; omega
theorem wone (a : Nat) (h : a ≤ 4611686018427387904) : wrap64 ((a : Int) + 1) = ((a + 1 : Nat) : Int) := by unfold wrap64; omega
theorem wnat (a : Nat) (h : a ≤ 4611686018427387904) : wrap64 (a : Int) = (a : Int) := by unfold wrap64; omega
theorem rest_nat (n : Nat) (h : n ≤ 9223372036854775807) : adler_rest_int.f (n : Int) = some ((n % 65521 : Nat) : Int) := by
  unfold adler_rest_int.f
  have e : Int.tmod (n : Int) 65521 = ((n % 65521 : Nat) : Int) := by
    rw [Int.tmod_eq_emod_of_nonneg (by omega)]; rfl
  rw [e, if_neg (by omega)]
theorem or_sum (a b : Nat) (ha : a < 65536) (hb : b < 65536) : Go.bits .or .u32 ((((a : Int)) % 4294967296 * 65536) % 4294967296) ((b : Int) % 4294967296) = ((a * 65536 + b : Nat) : Int) := by
  have e1 : (((a : Int)) % 4294967296 * 65536) % 4294967296 = ((a * 65536 : Nat) : Int) := by omega
  have e2 : (b : Int) % 4294967296 = ((b : Nat) : Int) := by omega
  rw [e1, e2]
  show IntKind.u32.wrap (((BitVec.ofInt 32 ((a * 65536 : Nat) : Int) ||| BitVec.ofInt 32 ((b : Nat) : Int)).toNat : Nat) : Int) = _
  rw [BitVec.toNat_or, BitVec.toNat_ofInt, BitVec.toNat_ofInt]
  have e3 : (((a * 65536 : Nat) : Int) % 4294967296).toNat = a * 65536 := by omega
  have e4 : (((b : Nat) : Int) % 4294967296).toNat = b := by omega
  have e5 : a * 65536 ||| b = a * 65536 + b := by
    have := Nat.shiftLeft_add_eq_or_of_lt (i := 16) (b := b) hb a
    rw [Nat.shiftLeft_eq] at this
    exact this.symm
  show (((((a * 65536 : Nat) : Int) % 4294967296).toNat ||| (((b : Nat) : Int) % 4294967296).toNat : Nat) : Int) % 4294967296 = _
  rw [e3, e4, e5]
  omega
theorem bt_at (s : ByteArray) (j : Nat) (h : j < (bs s).length) : bt s (j : Int) = (((bs s)[j]).toNat : Int) := by
  unfold bt
  have h2 : j < s.size := by rw [← bs_len]; exact h
  rw [dif_pos (by rw [Int.toNat_natCast]; exact h2)]
  rfl
theorem add_l0 (s : ByteArray) (hs : s.size ≤ 1000000) : ∀ (n j k : Nat) (p : Nat × Nat), j + n = s.size → n + 1 ≤ k → p.1 < 65521 → p.2 < 65521 →
    adler_Add.l0 k s (s.size : Int) (j : Int) (p.1 : Int) (p.2 : Int) = some (((((bs s).drop j).foldl adlStep p).2 * 65536 + (((bs s).drop j).foldl adlStep p).1 : Nat) : Int)
  | 0, j, k, p, hj, hk, h1, h2 => by
    obtain ⟨k, rfl⟩ : ∃ k', k = k' + 1 := ⟨k - 1, by omega⟩
    unfold adler_Add.l0
    rw [if_neg (by omega), List.drop_eq_nil_of_le (by rw [bs_len]; omega)]
    unfold adler_pair_sum.f
    rw [rest_nat p.2 (by omega), Option.bind_some, rest_nat p.1 (by omega), Option.bind_some, Option.bind_some, Nat.mod_eq_of_lt h1, Nat.mod_eq_of_lt h2, or_sum p.2 p.1 (by omega) (by omega)]
    rfl
  | n + 1, j, k, p, hj, hk, h1, h2 => by
    obtain ⟨k, rfl⟩ : ∃ k', k = k' + 1 := ⟨k - 1, by omega⟩
    have hjl : j < (bs s).length := by rw [bs_len]; omega
    have hb : ((bs s)[j]).toNat < 256 := ((bs s)[j]).toNat_lt
    have hm1 := Nat.mod_lt (p.1 + ((bs s)[j]).toNat) (show 0 < 65521 by omega)
    have hm2 := Nat.mod_lt (p.2 + (p.1 + ((bs s)[j]).toNat) % 65521) (show 0 < 65521 by omega)
    have ih := add_l0 s hs n (j + 1) k (adlStep p (bs s)[j]) (by omega) (by omega) hm1 hm2
    unfold adler_Add.l0
    rw [if_pos (by omega), if_pos (by omega), if_pos (by omega), bt_at s j hjl, wnat _ (by omega), wadd _ _ (by omega), rest_nat _ (by omega), Option.bind_some, wadd _ _ (by omega), rest_nat _ (by omega), Option.bind_some, wone _ (by omega)]
    rw [List.drop_eq_getElem_cons hjl, List.foldl_cons]
    exact ih
theorem rSum (s : ByteArray) (hs : s.size ≤ 1000000) (k : Nat) (hk : s.size + 1 ≤ k) : adler_Sum.f k s = some ((sumP (bs s) : Nat) : Int) := by
  have h := add_l0 s hs s.size 0 k (1, 0) (by omega) hk (by decide) (by decide)
  unfold adler_Sum.f adler_Add.f
  have e : adler_of.f 1 = some (1, 0) := by decide +kernel
  rw [e, Option.bind_some]
  dsimp only
  rw [show adler_Add.l0 k s (s.size : Int) 0 1 0 = adler_Add.l0 k s (s.size : Int) ((0 : Nat) : Int) ((1 : Nat) : Int) ((0 : Nat) : Int) from rfl, h, Option.bind_some, List.drop_zero]
  rfl
theorem rSealed (s : ByteArray) (hs : s.size ≤ 1000000) (k : Nat) (hk : s.size + 1 ≤ k) : frame_sealed.f k s = some (ba (sealP (bs s))) := by
  have hlt := sumP_lt (bs s)
  unfold frame_sealed.f
  rw [rSum s hs k hk, Option.bind_some, Option.bind_some]
  generalize hn : sumP (bs s) = n at *
  have e : strOfNums [(n : Int) / 16777216 % 256, (n : Int) / 65536 % 256, (n : Int) / 256 % 256, (n : Int) % 256] = ba (be4 n) := by
    unfold strOfNums be4 ba
    rfl
  rw [e, if_pos (by rw [ba_size]; show s.size + 4 ≤ _; omega)]
  unfold sealP
  rw [hn, ← ba_app, ba_bs]
end Go.Proofs.YtlmnmjnmilaipaaGreatDoor
/- What the printed reader of numbers computes, plainly. -/
set_option linter.unusedVariables false
set_option linter.unusedSimpArgs false
namespace Go.Proofs.YtlmnmjnmilaipaaGreatDoor
open Go Go.RowKit PR Go.Proofs.YtlmnmjnmilaipaaGreatDoorW.PrintWords

theorem andNot_all : ∀ b : Nat, b < 256 → IntKind.u64.wrap (Go.bits .andNot .u8 (b : Int) 128) = ((b % 128 : Nat) : Int) := by decide +kernel
theorem u64_wrap (n : Nat) (h : n < 18446744073709551616) : IntKind.u64.wrap (n : Int) = (n : Int) := by
  show (n : Int) % 18446744073709551616 = _
  omega
theorem or64 (a b : Nat) (i : Nat) (ha : a < 2 ^ i) (h : b * 2 ^ i + a < 18446744073709551616) : Go.bits .or .u64 (a : Int) ((b * 2 ^ i : Nat) : Int) = ((a + b * 2 ^ i : Nat) : Int) := by
  generalize hx : b * 2 ^ i = x at *
  show IntKind.u64.wrap (((BitVec.ofInt 64 (a : Int) ||| BitVec.ofInt 64 (x : Int)).toNat : Nat) : Int) = _
  rw [BitVec.toNat_or, BitVec.toNat_ofInt, BitVec.toNat_ofInt]
  have e3 : (((a : Nat) : Int) % 18446744073709551616).toNat = a := by omega
  have e4 : (((x : Nat) : Int) % 18446744073709551616).toNat = x := by omega
  have e5 : a ||| x = a + x := by
    have := Nat.shiftLeft_add_eq_or_of_lt (i := i) (b := a) ha b
    rw [Nat.shiftLeft_eq, hx] at this
    rw [Nat.or_comm, ← this, Nat.add_comm]
  show IntKind.u64.wrap (((((a : Int)) % 18446744073709551616).toNat ||| (((x : Nat) : Int) % 18446744073709551616).toNat : Nat) : Int) = _
  rw [e3, e4, e5, u64_wrap _ (by omega)]
theorem i64w (n : Int) : IntKind.i64.wrap n = wrap64 n := by unfold wrap64; exact IntKind.wrap_i64 n
theorem unzig_bits (u : Nat) (h : u < 18446744073709551616) : Go.bits .xor .i64 (wrap64 ((u : Int) / 2)) (wrap64 (-(wrap64 (Go.bits .and .u64 (u : Int) 1)))) = unzig u := by
  have e1 : Go.bits .and .u64 (u : Int) 1 = ((u % 2 : Nat) : Int) := by
    show IntKind.u64.wrap (((BitVec.ofInt 64 (u : Int) &&& BitVec.ofInt 64 1).toNat : Nat) : Int) = _
    rw [BitVec.toNat_and, BitVec.toNat_ofInt]
    have e3 : (((u : Nat) : Int) % 18446744073709551616).toNat = u := by omega
    show IntKind.u64.wrap ((((u : Int) % 18446744073709551616).toNat &&& 1 : Nat) : Int) = _
    rw [e3, Nat.and_one_is_mod, u64_wrap _ (by omega)]
  have e2 : wrap64 ((u : Int) / 2) = ((u / 2 : Nat) : Int) := by
    rw [show (u : Int) / 2 = ((u / 2 : Nat) : Int) from rfl]
    unfold wrap64; omega
  rw [e1, e2]
  have hm : u / 2 < 9223372036854775808 := by omega
  unfold unzig
  generalize u / 2 = v at *
  rcases (show u % 2 = 0 ∨ u % 2 = 1 by omega) with h0 | h0
  · rw [h0, if_pos rfl, show wrap64 (-(wrap64 ((0 : Nat) : Int))) = 0 from by unfold wrap64; omega]
    show IntKind.i64.wrap (((BitVec.ofInt 64 (v : Int) ^^^ BitVec.ofInt 64 0).toNat : Nat) : Int) = _
    rw [show BitVec.ofInt 64 0 = 0#64 from rfl, BitVec.xor_zero, BitVec.toNat_ofInt]
    have e3 : (((v : Nat) : Int) % 18446744073709551616).toNat = v := by omega
    show IntKind.i64.wrap ((((v : Int) % 18446744073709551616).toNat : Nat) : Int) = _
    rw [e3, i64w]
    unfold wrap64; omega
  · rw [h0, if_neg (by omega), show wrap64 (-(wrap64 ((1 : Nat) : Int))) = -1 from by unfold wrap64; omega]
    show IntKind.i64.wrap (((BitVec.ofInt 64 (v : Int) ^^^ BitVec.ofInt 64 (-1)).toNat : Nat) : Int) = _
    rw [show BitVec.ofInt 64 (-1) = BitVec.allOnes 64 from rfl, BitVec.xor_allOnes, BitVec.toNat_not, BitVec.toNat_ofInt]
    have e3 : (((v : Nat) : Int) % 18446744073709551616).toNat = v := by omega
    show IntKind.i64.wrap (((18446744073709551616 - 1 - ((v : Int) % 18446744073709551616).toNat : Nat)) : Int) = _
    rw [e3, i64w]
    unfold wrap64; omega
theorem w7 (i : Nat) (h : i ≤ 100) : wrap64 (7 * (i : Int)) = ((7 * i : Nat) : Int) := by unfold wrap64; omega
theorem wsub0 (a : Nat) (h : a ≤ 4611686018427387904) : wrap64 ((a : Int) - 0) = (a : Int) := by unfold wrap64; omega
theorem wzero (a : Nat) (h : a ≤ 4611686018427387904) : wrap64 (0 + (a : Int)) = (a : Int) := by unfold wrap64; omega
theorem shl_at (c i : Nat) (hi : 7 * i ≤ 63) (h : c * 2 ^ (7 * i) < 18446744073709551616) : shl .u64 (c : Int) (wrap64 (7 * (i : Int))) = ((c * 2 ^ (7 * i) : Nat) : Int) := by
  unfold shl
  rw [w7 i (by omega), Int.toNat_natCast, show IntKind.u64.bits = 64 from rfl, Nat.min_eq_left (by omega)]
  have e2 : (c : Int) * 2 ^ (7 * i) = ((c * 2 ^ (7 * i) : Nat) : Int) := by push_cast; rfl
  rw [e2, u64_wrap _ h]
/-- What the reader's loop computes. -/
def numR (s : ByteArray) (r : Option (Nat × Nat)) : Option (Int × ByteArray × Int × Bool) :=
  match r with
  | none => some (0, s, 0, true)
  | some (u, c) => some (unzig u, s, (c : Int), false)
theorem num_l0 (s : ByteArray) (hs : s.size ≤ 1000000) : ∀ (n i k acc : Nat), i + n = 11 → 3 * n + 3 ≤ k → i ≤ s.size → acc < 2 ^ (7 * i) → i ≤ 10 →
    varint_Reader_Num.l0 k (acc : Int) (i : Int) s 0 false = numR s (readU ((bs s).drop i) i acc)
  | 0, i, k, acc, hi, hk, his, ha, h10 => by omega
  | n + 1, i, k, acc, hi, hk, his, ha, h10 => by
    obtain ⟨k, rfl⟩ : ∃ k', k = k' + 1 + 1 + 1 := ⟨k - 3, by omega⟩
    unfold varint_Reader_Num.l0
    rw [if_neg (by simp)]
    unfold varint_Reader_Left.f
    rw [Option.bind_some, wsub0 s.size (by omega)]
    dsimp only
    by_cases h1 : i < s.size
    · have hl : i < (bs s).length := by rw [bs_len]; exact h1
      rw [if_pos (by omega), List.drop_eq_getElem_cons hl]
      have hb : ((bs s)[i]).toNat < 256 := ((bs s)[i]).toNat_lt
      have hbt := bt_at s i hl
      generalize (bs s)[i] = b at *
      generalize hbn : b.toNat = bn at *
      unfold readU
      rw [hbn]
      by_cases h2 : 10 ≤ i
      · rw [decide_eq_false (by omega), if_pos h2]
        unfold varint_Reader_Num.j1
        rw [if_neg (by simp)]
        rfl
      · rw [decide_eq_true (by omega), if_neg h2]
        unfold varint_Reader_Num.j1
        rw [if_pos rfl, wzero i (by omega), hbt, if_pos (by omega), if_pos (by omega)]
        by_cases h9 : i = 9 ∧ 1 < bn
        · rw [if_pos (by omega), decide_eq_true (by omega), if_pos h9]
          unfold varint_Reader_Num.j2
          rw [if_pos rfl]
          rfl
        · have hfl : (if (i : Int) = 9 then varint_Reader_Num.j2 (k + 1) (acc : Int) (i : Int) (bn : Int) (decide ((bn : Int) > 1)) s 0 false else varint_Reader_Num.j2 (k + 1) (acc : Int) (i : Int) (bn : Int) false s 0 false) = varint_Reader_Num.j2 (k + 1) (acc : Int) (i : Int) (bn : Int) false s 0 false := by
            by_cases h : (i : Int) = 9
            · rw [if_pos h, decide_eq_false (by omega)]
            · rw [if_neg h]
          rw [hfl, if_neg h9]
          clear hfl
          have hfit : bn % 128 * 2 ^ (7 * i) + acc < 18446744073709551616 := by
            rcases (show i = 9 ∨ i ≤ 8 by omega) with e | e
            · subst e
              have hb1 : bn ≤ 1 := by omega
              have : (2 : Nat) ^ (7 * 9) = 9223372036854775808 := by decide
              rw [this] at ha ⊢
              have : bn % 128 * 9223372036854775808 ≤ 1 * 9223372036854775808 := Nat.mul_le_mul_right _ (by omega)
              omega
            · have hp : 2 ^ (7 * i) ≤ 2 ^ 56 := Nat.pow_le_pow_right (by omega) (by omega)
              have h56 : (2 : Nat) ^ 56 = 72057594037927936 := by decide
              rw [h56] at hp
              have : bn % 128 * 2 ^ (7 * i) ≤ 127 * 2 ^ (7 * i) := Nat.mul_le_mul_right _ (by omega)
              omega
          have hor : Go.bits .or .u64 (acc : Int) (shl .u64 (IntKind.u64.wrap (Go.bits .andNot .u8 (bn : Int) 128)) (wrap64 (7 * (i : Int)))) = ((acc + bn % 128 * 2 ^ (7 * i) : Nat) : Int) := by
            rw [andNot_all bn hb, shl_at _ i (by omega) (by omega), or64 acc (bn % 128) (7 * i) ha hfit]
          unfold varint_Reader_Num.j2
          rw [if_neg (by simp), if_pos (by rw [w7 i (by omega)]; omega), hor]
          by_cases h128 : bn < 128
          · rw [if_pos (by omega), if_pos h128]
            have hmod : bn % 128 = bn := Nat.mod_eq_of_lt h128
            rw [hmod] at hfit ⊢
            have hend : (some (Go.bits .xor .i64 (wrap64 (((acc + bn * 2 ^ (7 * i) : Nat) : Int) / 2)) (wrap64 (-(wrap64 (Go.bits .and .u64 ((acc + bn * 2 ^ (7 * i) : Nat) : Int) 1)))), s, wrap64 (0 + (wrap64 ((i : Int) + 1))), false) : Option (Int × ByteArray × Int × Bool)) = numR s (some (acc + bn * 2 ^ (7 * i), i + 1)) := by
              rw [unzig_bits _ (by omega), wone i (by omega), wzero (i + 1) (by omega)]
              rfl
            by_cases h0 : bn = 0
            · rw [if_pos (by omega)]
              by_cases hi0 : 0 < i
              · rw [if_pos (by omega), if_pos ⟨h0, hi0⟩]
                rfl
              · rw [if_neg (by omega), if_neg (by omega)]
                exact hend
            · rw [if_neg (by omega), if_neg (by omega)]
              exact hend
          · rw [if_neg (by omega), if_neg h128]
            have hm2 : bn % 128 = bn - 128 := by omega
            rw [hm2] at hfit ⊢
            rw [wone i (by omega)]
            refine num_l0 s hs n (i + 1) k _ (by omega) (by omega) (by omega) ?_ (by omega)
            have e7 : 2 ^ (7 * (i + 1)) = 128 * 2 ^ (7 * i) := by rw [show 7 * (i + 1) = 7 + 7 * i by omega, Nat.pow_add]
            rw [e7]
            have : (bn - 128) * 2 ^ (7 * i) ≤ 127 * 2 ^ (7 * i) := Nat.mul_le_mul_right _ (by omega)
            omega
    · have hd : (bs s).drop i = [] := List.drop_eq_nil_of_le (by rw [bs_len]; omega)
      rw [if_neg (by omega), hd]
      unfold varint_Reader_Num.j1
      rw [if_neg (by simp)]
      rfl
theorem rNum (s : ByteArray) (hs : s.size ≤ 1000000) (k : Nat) (hk : 40 ≤ k) : varint_Reader_Num.f k s 0 false = numR s (readU (bs s) 0 0) := by
  have h := num_l0 s hs 11 0 k 0 (by omega) (by omega) (by omega) (by decide) (by omega)
  rw [List.drop_zero] at h
  exact h
end Go.Proofs.YtlmnmjnmilaipaaGreatDoor
/- What the printed frame.Take and frame.All compute, plainly. -/
set_option linter.unusedVariables false
set_option linter.unusedSimpArgs false
namespace Go.Proofs.YtlmnmjnmilaipaaGreatDoor
open Go Go.RowKit PR Go.Proofs.YtlmnmjnmilaipaaGreatDoorW.PrintWords

theorem wsub (a b : Nat) (h : b ≤ a) (ha : a ≤ 4611686018427387904) : wrap64 ((a : Int) - (b : Int)) = ((a - b : Nat) : Int) := by unfold wrap64; omega
theorem bs_nil (s : ByteArray) : s.toList = ([] : List UInt8) ↔ bs s = [] := by rw [ByteArray.toList_eq]; rfl
def takeR (s : ByteArray) : ByteArray × Int × Int := (ba (takeP (bs s)).1, ((takeP (bs s)).2.1 : Int), (takeP (bs s)).2.2)
theorem j1_bad (k : Nat) (s s' : ByteArray) (x5 x7 x8 a : Int) : frame_Take.j1 (k + 1) s x5 x7 x8 false s' a true = some (⟨#[]⟩, 0, x5) := by
  rw [frame_Take.j1, if_neg (by simp)]
  rfl
theorem j0_bad (k : Nat) (s s' : ByteArray) (x5 x7 x8 a : Int) : frame_Take.j0 (k + 2) s x5 x7 x8 false s' a true = some (⟨#[]⟩, 0, x5) := by
  rw [frame_Take.j0, if_neg (by simp)]
  unfold varint_Reader_Bad.f
  rw [Option.bind_some]
  dsimp only
  rw [if_pos rfl]
  exact j1_bad k s s' x5 x7 x8 a
theorem extract_bs (s : ByteArray) (i j : Nat) : bs (s.extract i j) = ((bs s).take j).drop i := by
  unfold bs
  rw [ByteArray.data_extract, Array.toList_extract, List.extract_eq_take_drop, List.drop_take]
theorem head_at (l : Bs) (h : 0 < l.length) : l.headD 0 = l[0] := by
  cases l with
  | nil => exact absurd h (by simp)
  | cons b t => rfl
theorem rTake (s : ByteArray) (hs : s.size ≤ 100000) (k : Nat) (hk : s.size + 50 ≤ k) : frame_Take.f k s = some (takeR s) := by
  obtain ⟨k, rfl⟩ : ∃ k', k = k' + 2 := ⟨k - 2, by omega⟩
  have hlen := bs_len s
  unfold frame_Take.f
  rw [show varint_New.f s = some (s, 0, false) from rfl, Option.bind_some]
  dsimp only
  rw [rNum s (by omega) _ (by omega)]
  unfold takeR takeP readN
  cases hr : readU (bs s) 0 0 with
  | none =>
    dsimp only [numR, Option.map_none]
    rw [Option.bind_some]
    dsimp only
    unfold varint_Reader_Left.f
    rw [Option.bind_some]
    dsimp only
    rw [wsub0 s.size (by omega), show ((s.size : Int) - (s.size : Int)) = ((0 : Nat) : Int) - 0 from by omega, wsub0 0 (by omega)]
    by_cases h0 : bs s = []
    · rw [if_pos ((bs_nil s).2 h0), if_pos (.inl h0)]
      rfl
    · rw [if_neg (fun h => h0 ((bs_nil s).1 h))]
      have hpos : 0 < (bs s).length := List.length_pos_iff.2 h0
      by_cases h1 : s.size = 1
      · rw [if_pos (by omega)]
        unfold varint_Reader_Bad.f
        rw [Option.bind_some]
        dsimp only
        rw [if_pos rfl, if_pos (by omega)]
        have hbt := bt_at s 0 hpos
        have hhd : ((bs s).headD 0) = (bs s)[0] := head_at (bs s) hpos
        rw [show bt s 0 = bt s ((0 : Nat) : Int) from rfl, hbt]
        by_cases h2 : 128 ≤ ((bs s)[0]).toNat
        · rw [decide_eq_true (by omega), if_pos (.inr ⟨by omega, by rw [hhd]; exact h2⟩)]
          rw [frame_Take.j0, if_pos rfl]
          rfl
        · rw [decide_eq_false (by omega), if_neg (fun h => h.elim (fun h => h0 h) (fun h => by rw [hhd] at h; omega))]
          rw [j0_bad]
          rfl
      · rw [if_neg (by omega), if_neg (fun h => h.elim (fun h => h0 h) (fun h => by omega)), j0_bad]
        rfl
  | some r =>
    obtain ⟨u, c⟩ := r
    have hc := readU_len (bs s) 0 0 u c hr
    dsimp only [numR, Option.map_some]
    rw [Option.bind_some]
    dsimp only
    unfold varint_Reader_Left.f
    rw [Option.bind_some]
    dsimp only
    rw [wsub s.size c (by omega) (by omega), wsub s.size (s.size - c) (by omega) (by omega), show s.size - (s.size - c) = c from by omega]
    have hne : ¬ s.toList = ([] : List UInt8) := fun h => by
      have h2 := (bs_nil s).1 h
      rw [h2] at hc
      simp at hc
      omega
    rw [if_neg hne]
    generalize unzig u = n at *
    have hj : ∀ k', s.size + 40 ≤ k' → frame_Take.j0 (k' + 2) s 31 n (c : Int) false s (c : Int) false = some (ba (if 0 ≤ n ∧ n ≤ 4096 then (if (bs s).length - c < n.toNat + 4 then (([] : Bs), 0, (30 : Int)) else if sealP ((bs s).take (c + n.toNat)) = (bs s).take (c + n.toNat + 4) then (((bs s).drop c).take n.toNat, c + n.toNat + 4, 0) else ([], 0, 31)) else ([], 0, 31)).1, ((if 0 ≤ n ∧ n ≤ 4096 then (if (bs s).length - c < n.toNat + 4 then (([] : Bs), 0, (30 : Int)) else if sealP ((bs s).take (c + n.toNat)) = (bs s).take (c + n.toNat + 4) then (((bs s).drop c).take n.toNat, c + n.toNat + 4, 0) else ([], 0, 31)) else ([], 0, 31)).2.1 : Int), (if 0 ≤ n ∧ n ≤ 4096 then (if (bs s).length - c < n.toNat + 4 then (([] : Bs), 0, (30 : Int)) else if sealP ((bs s).take (c + n.toNat)) = (bs s).take (c + n.toNat + 4) then (((bs s).drop c).take n.toNat, c + n.toNat + 4, 0) else ([], 0, 31)) else ([], 0, 31)).2.2) := by
      intro k' hk'
      rw [frame_Take.j0, if_neg (by simp)]
      unfold varint_Reader_Bad.f
      rw [Option.bind_some]
      dsimp only
      rw [if_neg (by simp)]
      by_cases hn0 : 0 ≤ n
      · obtain ⟨m, rfl⟩ := Int.eq_ofNat_of_zero_le hn0
        rw [if_pos (by omega)]
        by_cases hn1 : m ≤ 4096
        · rw [if_pos (by omega)]
          unfold varint_Reader_Left.f
          rw [Option.bind_some]
          dsimp only
          rw [wsub s.size c (by omega) (by omega), show ((m : Int) + 4) = (m : Int) + ((4 : Nat) : Int) from rfl, wadd m 4 (by omega), if_pos (⟨by omega, by omega⟩ : (0 : Int) ≤ (m : Int) ∧ (m : Int) ≤ 4096), Int.toNat_natCast]
          by_cases hsh : s.size - c < m + 4
          · rw [decide_eq_true (by omega), frame_Take.j1, if_pos rfl, if_pos (by omega)]
            rfl
          · rw [decide_eq_false (by omega), frame_Take.j1, if_neg (by simp)]
            unfold varint_Reader_Bad.f
            rw [Option.bind_some]
            dsimp only
            have hcm : (s.extract 0 (c + m)).size = c + m := by rw [ByteArray.size_extract]; omega
            rw [if_neg (by simp), if_neg (by omega), if_neg (by omega), wadd c m (by omega), if_pos (by omega), if_pos (by omega), Int.toNat_natCast, rSealed (s.extract 0 (c + m)) (by omega) k' (by omega), Option.bind_some,
              show (((c + m : Nat) : Int) + 4) = ((c + m : Nat) : Int) + ((4 : Nat) : Int) from rfl, wadd (c + m) 4 (by omega), if_pos (by omega), if_pos (by omega), Int.toNat_natCast, Int.toNat_natCast]
            have e1 : bs (s.extract 0 (c + m)) = (bs s).take (c + m) := by rw [extract_bs, List.drop_zero]
            have e2 : bs (s.extract 0 (c + m + 4)) = (bs s).take (c + m + 4) := by rw [extract_bs, List.drop_zero]
            have e3 : ((ba (sealP (bs (s.extract 0 (c + m))))).toList = (s.extract 0 (c + m + 4)).toList) ↔ sealP ((bs s).take (c + m)) = (bs s).take (c + m + 4) := by
              rw [ByteArray.toList_eq, ByteArray.toList_eq]
              show (bs (ba _) = bs _) ↔ _
              rw [bs_ba, e1, e2]
            rw [if_neg (show ¬ (bs s).length - c < m + 4 by omega)]
            by_cases hse : sealP ((bs s).take (c + m)) = (bs s).take (c + m + 4)
            · rw [if_pos (e3.2 hse), if_pos hse, if_pos (by omega), if_pos (by omega)]
              refine congrArg some (Prod.ext ?_ rfl)
              show s.extract c (c + m) = ba (((bs s).drop c).take m)
              rw [← ba_bs (s.extract c (c + m)), extract_bs, List.drop_take, Nat.add_sub_cancel_left]
            · rw [if_neg (fun h => hse (e3.1 h)), if_neg hse]
              rfl
        · rw [if_neg (by omega), if_neg (fun h => hn1 (by omega)), frame_Take.j1, if_neg (by simp)]
          unfold varint_Reader_Bad.f
          rw [Option.bind_some]
          dsimp only
          rw [if_neg (by simp), if_neg (by omega), if_pos (by omega)]
          rfl
      · rw [if_neg (by omega), if_neg (fun h => hn0 h.1), frame_Take.j1, if_neg (by simp)]
        unfold varint_Reader_Bad.f
        rw [Option.bind_some]
        dsimp only
        rw [if_neg (by simp), if_pos (by omega)]
        rfl
    by_cases h1 : s.size = 1
    · rw [if_pos (by omega)]
      unfold varint_Reader_Bad.f
      rw [Option.bind_some]
      dsimp only
      rw [if_neg (by simp)]
      exact hj k (by omega)
    · rw [if_neg (by omega)]
      exact hj k (by omega)
end Go.Proofs.YtlmnmjnmilaipaaGreatDoor
/- What the printed frame.All computes, plainly. -/
set_option linter.unusedVariables false
set_option linter.unusedSimpArgs false
namespace Go.Proofs.YtlmnmjnmilaipaaGreatDoor
open Go Go.RowKit PR Go.Proofs.YtlmnmjnmilaipaaGreatDoorW.PrintWords

theorem take_all_len (s : Bs) (h : (takeP s).2.2 = 0) : 0 < (takeP s).2.1 ∧ (takeP s).2.1 ≤ s.length := by
  unfold takeP at h ⊢
  cases hr : readN s with
  | none =>
    rw [hr] at h
    dsimp only at h
    split at h <;> simp at h
  | some x =>
    obtain ⟨n, c⟩ := x
    have hc := readN_len hr
    rw [hr] at h
    dsimp only at h ⊢
    split at h
    · split at h
      · simp at h
      · rename_i h1 h2
        split at h
        · rename_i h3
          rw [if_pos h1, if_neg h2, if_pos h3]
          show 0 < c + n.toNat + 4 ∧ c + n.toNat + 4 ≤ s.length
          omega
        · simp at h
    · simp at h
theorem allP_fuel : ∀ (m : Nat) (s : Bs) (f g : Nat), s.length ≤ m → s.length < f → s.length < g → allP f s = allP g s
  | m, s, f, g, hm, hf, hg => by
    obtain ⟨f, rfl⟩ : ∃ f', f = f' + 1 := ⟨f - 1, by omega⟩
    obtain ⟨g, rfl⟩ : ∃ g', g = g' + 1 := ⟨g - 1, by omega⟩
    unfold allP
    by_cases h0 : s = []
    · rw [if_pos h0, if_pos h0]
    · rw [if_neg h0, if_neg h0]
      by_cases ht : (takeP s).2.2 = 0
      · have hl := take_all_len s ht
        have hp := List.length_pos_iff.2 h0
        obtain ⟨m, rfl⟩ : ∃ m', m = m' + 1 := ⟨m - 1, by omega⟩
        rw [if_pos ht, if_pos ht, allP_fuel m (s.drop (takeP s).2.1) f g (by rw [List.length_drop]; omega) (by rw [List.length_drop]; omega) (by rw [List.length_drop]; omega)]
      · rw [if_neg ht, if_neg ht]
/-- The loop of frame.All. -/
theorem all_l0 (s : ByteArray) (hs : s.size ≤ 100000) : ∀ (n j k : Nat) (out : List ByteArray) (e : Int), j + n = s.size → 2 * n + s.size + 60 ≤ k → out.length ≤ j → (j = s.size → e = 0) →
    frame_All.l0 k s out (j : Int) e = some (out ++ (allP (n + 1) ((bs s).drop j)).1.map ba, ((j + (allP (n + 1) ((bs s).drop j)).2.1 : Nat) : Int), (allP (n + 1) ((bs s).drop j)).2.2) := by
  intro n
  induction n using Nat.strongRecOn with
  | _ n ih =>
    intro j k out e hj hk ho he
    obtain ⟨k, rfl⟩ : ∃ k', k = k' + 1 := ⟨k - 1, by omega⟩
    rw [frame_All.l0]
    by_cases hn : n = 0
    · subst hn
      have hd : (bs s).drop j = [] := List.drop_eq_nil_of_le (by rw [bs_len]; omega)
      rw [if_neg (by omega), hd, he (by omega)]
      simp [allP]
    · have hdn : (bs s).drop j ≠ [] := fun h => by
        have := congrArg List.length h
        rw [List.length_drop, bs_len, List.length_nil] at this
        omega
      have hex : bs (s.extract j s.size) = (bs s).drop j := by
        rw [extract_bs, List.take_of_length_le (by rw [bs_len]; omega)]
      have hes : (s.extract j s.size).size = s.size - j := by rw [ByteArray.size_extract]; omega
      rw [if_pos (by omega), if_pos (by omega), if_pos (by omega), Int.toNat_natCast, rTake (s.extract j s.size) (by omega) k (by omega), Option.bind_some]
      unfold takeR
      rw [hex]
      dsimp only
      rw [allP, if_neg hdn]
      by_cases ht : (takeP ((bs s).drop j)).2.2 = 0
      · rw [if_pos ht, if_pos ht, if_pos (by omega)]
        have htl := take_all_len _ ht
        rw [List.length_drop, bs_len] at htl
        generalize hq : (takeP ((bs s).drop j)).2.1 = q at *
        rw [wadd j q (by omega), ht]
        obtain ⟨n', rfl⟩ : ∃ n', n = n' + q := ⟨n - q, by omega⟩
        have h1 := ih n' (by omega) (j + q) k (out ++ [ba (takeP ((bs s).drop j)).1]) 0 (by omega) (by omega) (by rw [List.length_append, List.length_singleton]; omega) (fun _ => rfl)
        rw [h1, List.drop_drop]
        rw [allP_fuel s.size ((bs s).drop (j + q)) (n' + q) (n' + 1) (by rw [List.length_drop, bs_len]; omega) (by rw [List.length_drop, bs_len]; omega) (by rw [List.length_drop, bs_len]; omega)]
        simp [Nat.add_assoc]
      · rw [if_neg ht, if_neg ht]
        simp
theorem rAll (s : ByteArray) (hs : s.size ≤ 100000) (k : Nat) (hk : 3 * s.size + 60 ≤ k) : frame_All.f k s = some ((allP (s.size + 1) (bs s)).1.map ba, ((allP (s.size + 1) (bs s)).2.1 : Int), (allP (s.size + 1) (bs s)).2.2) := by
  have h := all_l0 s hs s.size 0 k [] 0 (by omega) (by omega) (Nat.zero_le _) (fun _ => rfl)
  rw [List.drop_zero, List.nil_append, Nat.zero_add] at h
  exact h
theorem all_any (s : ByteArray) (hs : s.size ≤ 100000) (w : World) : Calls Tryz.prog 86 #[.string s] w fun e w' => ∃ v, e = .returned (.tuple #[v, .int .i64 ((allP (s.size + 1) (bs s)).2.1 : Int), .int .i64 (allP (s.size + 1) (bs s)).2.2]) ∧ Kd.R Kd.string 9 w' w.heap.size (fun _ => True) v ((allP (s.size + 1) (bs s)).1.map ba) ∧ Below w.heap.size w w' :=
  frame_All.calls (3 * s.size + 60) s _ _ _ w (rAll s hs _ (Nat.le_refl _))
end Go.Proofs.YtlmnmjnmilaipaaGreatDoor
/- What the printed slices.Contains computes, plainly. -/
set_option linter.unusedVariables false
namespace Go.Proofs.YtlmnmjnmilaipaaGreatDoor
open Go Go.RowKit PR Go.Proofs.YtlmnmjnmilaipaaGreatDoorW.PrintWords

theorem toList_inj {a b : ByteArray} (h : a.toList = b.toList) : a = b := by
  rw [ByteArray.toList_eq, ByteArray.toList_eq] at h
  rw [← ba_bs a, ← ba_bs b]
  exact congrArg ba h
theorem idx_l0 (l : List ByteArray) (a : ByteArray) (hl : l.length ≤ 1000000) : ∀ (n j k : Nat), j + n = l.length → n < k → ∃ r : Int, slices_Index_string_string.l0 k l a (l.length : Int) (j : Int) = some r ∧ (0 ≤ r ↔ a ∈ l.drop j)
  | 0, j, k, hj, hk => by
    obtain ⟨k, rfl⟩ : ∃ k', k = k' + 1 := ⟨k - 1, by omega⟩
    refine ⟨-1, ?_, ?_⟩
    · rw [slices_Index_string_string.l0, if_neg (by omega)]
    · rw [List.drop_eq_nil_of_le (by omega)]; simp
  | n + 1, j, k, hj, hk => by
    obtain ⟨k, rfl⟩ : ∃ k', k = k' + 1 := ⟨k - 1, by omega⟩
    have hjl : j < l.length := by omega
    have hrd : rdOf ByteArray.empty l (j : Int) = l[j] := by unfold rdOf; simp [List.getD_eq_getElem?_getD, hjl]
    rw [List.drop_eq_getElem_cons hjl]
    by_cases h : a.toList = (l[j]).toList
    · refine ⟨(j : Int), ?_, ?_⟩
      · rw [slices_Index_string_string.l0, if_pos (by omega), if_pos (by omega), if_pos (by omega), hrd, if_pos h]
      · rw [toList_inj h]
        exact ⟨fun _ => List.mem_cons_self, fun _ => by omega⟩
    · obtain ⟨r, h1, h2⟩ := idx_l0 l a hl n (j + 1) k (by omega) (by omega)
      refine ⟨r, ?_, ?_⟩
      · rw [slices_Index_string_string.l0, if_pos (by omega), if_pos (by omega), if_pos (by omega), hrd, if_neg h, wone j (by omega)]
        exact h1
      · rw [h2, List.mem_cons]
        exact ⟨fun x => .inr x, fun x => x.elim (fun e => absurd (congrArg ByteArray.toList e) h) id⟩
theorem rContains (l : List ByteArray) (a : ByteArray) (hl : l.length ≤ 1000000) (k : Nat) (hk : l.length < k) : ∃ b : Bool, slices_Contains_string_string.f k l a = some b ∧ (b = true ↔ a ∈ l) := by
  obtain ⟨r, h1, h2⟩ := idx_l0 l a hl l.length 0 k (by omega) hk
  rw [List.drop_zero] at h2
  refine ⟨decide (r ≥ 0), ?_, by rw [decide_eq_true_eq]; exact h2⟩
  unfold slices_Contains_string_string.f slices_Index_string_string.f
  rw [show slices_Index_string_string.l0 k l a (l.length : Int) 0 = some r from h1, Option.bind_some]
end Go.Proofs.YtlmnmjnmilaipaaGreatDoor

/- What the printed references of layers 1, 2 and 3 compute, plainly: numbers, sums, frames. -/
import Derived.Test.YtlmnmjnmilaipaaGreatDoorVarP
import Derived.Test.YtlmnmjnmilaipaaGreatDoorReA
import Derived.Test.YtlmnmjnmilaipaaGreatDoorWrA
set_option linter.unusedVariables false
set_option linter.unusedSimpArgs false
namespace Go.Proofs.YtlmnmjnmilaipaaGreatDoor.Rk
open Go Go.RowKit PR Go.Proofs.YtlmnmjnmilaipaaGreatDoorW.PrintWords

theorem digs_small {u : Nat} (h : u < 128) : digs u = [(u : Int)] := by unfold digs; rw [numD_small h, List.map_cons, List.map_nil, toNat_ofNat (by omega)]
theorem digs_big {u : Nat} (h : ¬ u < 128) : digs u = ((u % 128 + 128 : Nat) : Int) :: digs (u / 128) := by unfold digs; rw [numD_big h, List.map_cons, toNat_ofNat (by omega)]
theorem pow9 (m : Nat) (h : m ≤ 9) : 128 ^ m ≤ 9223372036854775808 := by
  have : 128 ^ m ≤ 128 ^ 9 := Nat.pow_le_pow_right (by omega) h
  rwa [pow128_9] at this
theorem w_low (low : Nat) (h1 : low < 128) : wrap64 ((low : Int) + 128) % 256 = ((low + 128 : Nat) : Int) := by unfold wrap64; omega
theorem w_q (q z : Nat) (h : q < z) (hz : z ≤ 9223372036854775808) : wrap64 ((q : Nat) : Int) = ((q : Nat) : Int) := by unfold wrap64; omega
theorem num_l0 : ∀ (m low rest k : Nat) (acc : List Int), low < 128 → rest < 128 ^ m → m < k → m ≤ 9 → acc.length + m ≤ 100 →
    billetref01_Num.l0 k (low : Int) (rest : Int) acc = some (strOfNums (acc ++ digs (low + 128 * rest)))
  | 0, low, rest, k, acc, h1, h2, hk, hm, ha => by
    obtain ⟨k, rfl⟩ : ∃ k', k = k' + 1 := ⟨k - 1, by omega⟩
    obtain rfl : rest = 0 := by rw [Nat.pow_zero] at h2; omega
    rw [billetref01_Num.l0, if_neg (by omega), if_pos (by omega), Nat.mul_zero, Nat.add_zero, digs_small h1, show ((low : Int)) % 256 = (low : Int) by omega]
  | m + 1, low, rest, k, acc, h1, h2, hk, hm, ha => by
    obtain ⟨k, rfl⟩ : ∃ k', k = k' + 1 := ⟨k - 1, by omega⟩
    by_cases h0 : rest = 0
    · subst h0
      rw [billetref01_Num.l0, if_neg (by omega), if_pos (by omega), Nat.mul_zero, Nat.add_zero, digs_small h1, show ((low : Int)) % 256 = (low : Int) by omega]
    · have hp : rest / 128 < 128 ^ m := by
        rw [Nat.div_lt_iff_lt_mul (by omega)]
        rw [Nat.pow_succ] at h2
        exact h2
      have h9 := pow9 m (by omega)
      have e1 : Int.tmod (rest : Int) 128 = ((rest % 128 : Nat) : Int) := by rw [Int.tmod_eq_emod_of_nonneg (by omega)]; rfl
      have e2 : Int.tdiv (rest : Int) 128 = ((rest / 128 : Nat) : Int) := by rw [Int.tdiv_eq_ediv_of_nonneg (by omega)]; rfl
      have e3 := w_q _ _ hp h9
      have e4 := w_low low h1
      have hmod : rest % 128 < 128 := Nat.mod_lt _ (by omega)
      have ih := num_l0 m (rest % 128) (rest / 128) k (acc ++ [((low + 128 : Nat) : Int)]) hmod hp (Nat.lt_of_succ_lt_succ hk) (Nat.le_of_succ_le hm) (by rw [List.length_append, List.length_singleton]; clear e1 e2 e3 e4 h9 hp h2; omega)
      rw [billetref01_Num.l0, if_pos (by clear e3 e4 h9 hp h2; omega), if_pos (by clear e3 e4 h9 hp h2; omega), e1, e2, e3, e4, ih, List.append_assoc]
      clear ih e1 e2 e3 e4 h9 hp h2
      have hd : digs (low + 128 * rest) = ((low + 128 : Nat) : Int) :: digs (rest % 128 + 128 * (rest / 128)) := by
        rw [digs_big (by omega)]
        have q1 : (low + 128 * rest) % 128 + 128 = low + 128 := by omega
        have q2 : (low + 128 * rest) / 128 = rest % 128 + 128 * (rest / 128) := by omega
        rw [q1, q2]
      rw [hd]
      rfl
theorem rNum (n : Nat) (hn : n < 4611686018427387904) (k : Nat) (hk : 20 ≤ k) : billetref01_Num.f k (n : Int) = some (ba (numD (2 * n))) := by
  unfold billetref01_Num.f
  rw [if_pos (by omega)]
  obtain ⟨k, rfl⟩ : ∃ k', k = k' + 1 := ⟨k - 1, by omega⟩
  have e1 : wrap64 ((Int.tmod (n : Int) 64) * 2) = ((n % 64 * 2 : Nat) : Int) := by
    rw [Int.tmod_eq_emod_of_nonneg (by omega)]
    unfold wrap64; omega
  have e2 : wrap64 (Int.tdiv (n : Int) 64) = ((n / 64 : Nat) : Int) := by
    rw [Int.tdiv_eq_ediv_of_nonneg (by omega)]
    unfold wrap64; omega
  have e9 : (128 : Nat) ^ 9 = 9223372036854775808 := by decide
  rw [e1, e2, billetref01_Num.j0, num_l0 9 _ _ k [] (by omega) (by omega) (by omega) (by omega) (by simp), List.nil_append, show n % 64 * 2 + 128 * (n / 64) = 2 * n by omega, str_digs]
  rfl
/-- Of whatever number: some bytes. -/
theorem rNum_any (n : Int) (h1 : -9223372036854775808 ≤ n) (h2 : n ≤ 9223372036854775807) : ∃ s : ByteArray, s.size ≤ 10 ∧ billetref01_Num.f 20 n = some s := by
  have e9 : (128 : Nat) ^ 9 = 9223372036854775808 := by decide
  have hl : ∀ u, u < 128 ^ 10 → (strOfNums ([] ++ digs u)).size ≤ 10 := fun u hu => by
    rw [List.nil_append, str_digs]
    have := numD_len 9 u hu
    show (numD u).toArray.size ≤ 10
    rw [List.size_toArray]; omega
  have e10 : (128 : Nat) ^ 10 = 1180591620717411303424 := by decide
  unfold billetref01_Num.f
  by_cases h : n ≥ 0
  · rw [if_pos h]
    obtain ⟨m, rfl⟩ : ∃ m : Nat, n = m := ⟨n.toNat, by omega⟩
    have e1 : wrap64 ((Int.tmod (m : Int) 64) * 2) = ((m % 64 * 2 : Nat) : Int) := by
      rw [Int.tmod_eq_emod_of_nonneg (by omega)]
      unfold wrap64; omega
    have e2 : wrap64 (Int.tdiv (m : Int) 64) = ((m / 64 : Nat) : Int) := by
      rw [Int.tdiv_eq_ediv_of_nonneg (by omega)]
      unfold wrap64; omega
    rw [e1, e2, billetref01_Num.j0, num_l0 9 _ _ 19 [] (by omega) (by omega) (by omega) (by omega) (by simp)]
    exact ⟨_, hl _ (by omega), rfl⟩
  · rw [if_neg h]
    obtain ⟨m, hm⟩ : ∃ m : Nat, -(n + 1) = m := ⟨(-(n + 1)).toNat, by omega⟩
    have e0 : wrap64 (-(wrap64 (n + 1))) = (m : Int) := by unfold wrap64; omega
    have e1 : wrap64 ((wrap64 ((Int.tmod (m : Int) 64) * 2)) + 1) = ((m % 64 * 2 + 1 : Nat) : Int) := by
      rw [Int.tmod_eq_emod_of_nonneg (by omega)]
      unfold wrap64; omega
    have e2 : wrap64 (Int.tdiv (m : Int) 64) = ((m / 64 : Nat) : Int) := by
      rw [Int.tdiv_eq_ediv_of_nonneg (by omega)]
      unfold wrap64; omega
    rw [e0, e1, e2, billetref01_Num.j0, num_l0 9 _ _ 19 [] (by omega) (by omega) (by omega) (by omega) (by simp)]
    exact ⟨_, hl _ (by omega), rfl⟩
theorem radd_l0 (s : ByteArray) (hs : s.size ≤ 1000000) : ∀ (n j k : Nat) (p : Nat × Nat), j + n = s.size → n + 1 ≤ k → p.1 < 65521 → p.2 < 65521 →
    billetref02_Add.l0 k s (p.1 : Int) (p.2 : Int) (j : Int) = some (((((bs s).drop j).foldl adlStep p).2 * 65536 + (((bs s).drop j).foldl adlStep p).1 : Nat) : Int)
  | 0, j, k, p, hj, hk, h1, h2 => by
    obtain ⟨k, rfl⟩ : ∃ k', k = k' + 1 := ⟨k - 1, by omega⟩
    rw [billetref02_Add.l0, if_neg (by omega), List.drop_eq_nil_of_le (by rw [bs_len]; omega), List.foldl_nil]
    unfold billetref02_made.f
    have m1 : ∀ q : Nat, q < 65521 → Int.tmod (wrap64 ((Int.tmod (q : Int) 65521) + 65521)) 65521 = (q : Int) := by
      intro q hq
      have e1 : Int.tmod (q : Int) 65521 = (q : Int) := by rw [Int.tmod_eq_emod_of_nonneg (by omega)]; omega
      have e2 : wrap64 ((q : Int) + 65521) = ((q + 65521 : Nat) : Int) := by unfold wrap64; omega
      rw [e1, e2, Int.tmod_eq_emod_of_nonneg (by omega)]
      omega
    rw [m1 _ h1, m1 _ h2, Option.bind_some]
    congr 1
    unfold wrap64
    omega
  | n + 1, j, k, p, hj, hk, h1, h2 => by
    obtain ⟨k, rfl⟩ : ∃ k', k = k' + 1 := ⟨k - 1, by omega⟩
    have hjl : j < (bs s).length := by rw [bs_len]; omega
    have hb : ((bs s)[j]).toNat < 256 := ((bs s)[j]).toNat_lt
    have hm1 := Nat.mod_lt (p.1 + ((bs s)[j]).toNat) (show 0 < 65521 by omega)
    have hm2 := Nat.mod_lt (p.2 + (p.1 + ((bs s)[j]).toNat) % 65521) (show 0 < 65521 by omega)
    have ih := radd_l0 s hs n (j + 1) k (adlStep p (bs s)[j]) (by omega) (by omega) hm1 hm2
    have tm : ∀ q : Nat, Int.tmod (q : Int) 65521 = ((q % 65521 : Nat) : Int) := fun q => by rw [Int.tmod_eq_emod_of_nonneg (by omega)]; rfl
    rw [billetref02_Add.l0, if_pos (by omega), if_pos (by omega), bt_at s j hjl, wnat _ (by omega), wadd _ _ (by omega), tm, wadd _ _ (by omega), tm, wone _ (by omega)]
    rw [List.drop_eq_getElem_cons hjl, List.foldl_cons]
    exact ih
theorem rRSum (s : ByteArray) (hs : s.size ≤ 1000000) (k : Nat) (hk : s.size + 1 ≤ k) : billetref02_Sum.f k s = some ((sumP (bs s) : Nat) : Int) := by
  have h := radd_l0 s hs s.size 0 k (1, 0) (by omega) hk (by decide) (by decide)
  unfold billetref02_Sum.f billetref02_Add.f
  have e : billetref02_halves.f 1 = some (1, 0) := by decide +kernel
  rw [e, Option.bind_some]
  dsimp only
  rw [show billetref02_Add.l0 k s 1 0 0 = billetref02_Add.l0 k s ((1 : Nat) : Int) ((0 : Nat) : Int) ((0 : Nat) : Int) from rfl, h, Option.bind_some, List.drop_zero]
  rfl
theorem rFour (n : Nat) (hn : n < 4294967296) : billetref03_four.f (n : Int) = some (ba (be4 n)) := by
  unfold billetref03_four.f
  have e : ∀ d q : Nat, n / d = q → q ≤ n → Int.tmod (wrap64 (Int.tdiv (n : Int) (d : Int))) 256 % 256 = ((q % 256 : Nat) : Int) := by
    intro d q hq hd
    have h1 : Int.tdiv (n : Int) (d : Int) = ((n / d : Nat) : Int) := by rw [Int.tdiv_eq_ediv_of_nonneg (by omega)]; rfl
    have h3 : wrap64 (q : Int) = (q : Int) := by unfold wrap64; omega
    rw [h1, hq, h3, Int.tmod_eq_emod_of_nonneg (by omega)]
    omega
  have e0 : Int.tmod (n : Int) 256 % 256 = ((n % 256 : Nat) : Int) := by
    rw [Int.tmod_eq_emod_of_nonneg (by omega)]; omega
  have e1 : Int.tmod (wrap64 (Int.tdiv (n : Int) 16777216)) 256 % 256 = ((n / 16777216 % 256 : Nat) : Int) := e 16777216 _ rfl (Nat.div_le_self _ _)
  have e2 : Int.tmod (wrap64 (Int.tdiv (n : Int) 65536)) 256 % 256 = ((n / 65536 % 256 : Nat) : Int) := e 65536 _ rfl (Nat.div_le_self _ _)
  have e3 : Int.tmod (wrap64 (Int.tdiv (n : Int) 256)) 256 % 256 = ((n / 256 % 256 : Nat) : Int) := e 256 _ rfl (Nat.div_le_self _ _)
  rw [e0, e1, e2, e3]
  rfl
theorem rText (s : ByteArray) (hs : s.size ≤ 1000000) (k : Nat) (hk : 20 ≤ k) : billetref01_Text.f k s = some (ba (textP (bs s))) := by
  unfold billetref01_Text.f
  rw [rNum s.size (by omega) k hk, Option.bind_some]
  have hd := numD_len 8 (2 * s.size) (by rw [pow128_9]; omega)
  rw [if_pos (by rw [ba_size]; omega)]
  unfold textP
  rw [bs_len, ← ba_app, ba_bs]
theorem rLay (s : ByteArray) (hs : s.size ≤ 900000) (k : Nat) (hk : 5000 ≤ k) : billetref03_Lay.f k s = some (ba (layP (bs s)).1, (layP (bs s)).2) := by
  unfold billetref03_Lay.f layP
  rw [bs_len]
  by_cases h : 4096 < s.size
  · rw [if_pos (show (s.size : Int) > 4096 by omega), if_pos h]
    rfl
  · rw [if_neg (show ¬ (s.size : Int) > 4096 by omega), if_neg h, rText s (by omega) k (by omega), Option.bind_some]
    have hd := numD_len 1 (2 * s.size) (by omega)
    have hl : (ba (textP (bs s))).size ≤ 4098 := by rw [ba_size]; unfold textP; rw [List.length_append, bs_len]; omega
    have hsm := sumP_lt (textP (bs s))
    rw [rRSum _ (by omega) k (by omega), bs_ba, Option.bind_some]
    rw [show wrap64 ((sumP (textP (bs s)) : Nat) : Int) = ((sumP (textP (bs s)) : Nat) : Int) by unfold wrap64; omega, rFour _ hsm, Option.bind_some]
    rw [if_pos (by rw [ba_size (be4 _)]; show _ + 4 ≤ _; omega), ba_app]
    rfl
theorem rnum_any (n : Nat) (hn : n < 4611686018427387904) (w : World) : Calls Tryz.prog 53 #[.int .i64 (n : Int)] w fun e w' => e = .returned (.string (ba (numD (2 * n)))) ∧ Below w.heap.size w w' :=
  billetref01_Num.calls 20 _ _ w (rNum n hn 20 (Nat.le_refl _))
theorem rlay_any (s : ByteArray) (hs : s.size ≤ 900000) (w : World) : Calls Tryz.prog 52 #[.string s] w fun e w' => e = .returned (.tuple #[.string (ba (layP (bs s)).1), .int .i64 (layP (bs s)).2]) ∧ Below w.heap.size w w' :=
  billetref03_Lay.calls 5000 _ _ _ w (rLay s hs 5000 (Nat.le_refl _))
end Go.Proofs.YtlmnmjnmilaipaaGreatDoor.Rk

/- Layers 1, 2, 3, plainly: whole numbers as bytes, sums, frames. -/
import Derived.Lib.Hide
import Derived.Test.YtlmnmjnmilaipaaGreatDoorDiskPl
set_option linter.unusedVariables false
set_option linter.unusedSimpArgs false
namespace Go.Proofs.YtlmnmjnmilaipaaGreatDoor
open Go

abbrev Bs := List UInt8

/-! ### numbers as bytes -/
def numD (u : Nat) : Bs := if h : u < 128 then [UInt8.ofNat u] else UInt8.ofNat (u % 128 + 128) :: numD (u / 128)
termination_by u
decreasing_by omega
theorem numD_small {u : Nat} (h : u < 128) : numD u = [UInt8.ofNat u] := by rw [numD, dif_pos h]
theorem numD_big {u : Nat} (h : ¬ u < 128) : numD u = UInt8.ofNat (u % 128 + 128) :: numD (u / 128) := by rw [numD, dif_neg h]
theorem numD_ne (u : Nat) : numD u ≠ [] := by
  by_cases h : u < 128
  · rw [numD_small h]; simp
  · rw [numD_big h]; simp
theorem numD_len : ∀ (k u : Nat), u < 128 ^ (k + 1) → (numD u).length ≤ k + 1
  | 0, u, h => by rw [numD_small (by omega)]; simp
  | k + 1, u, h => by
    by_cases h0 : u < 128
    · rw [numD_small h0]; simp
    · rw [numD_big h0, List.length_cons]
      have h1 : u / 128 < 128 ^ (k + 1) := by
        rw [Nat.div_lt_iff_lt_mul (by omega)]
        rw [Nat.pow_succ] at h
        exact h
      have := numD_len k (u / 128) h1
      omega
/-- What a reader makes of bytes: the number told, and how many bytes it took. i: how many are behind us; acc: what they told. -/
def readU : Bs → Nat → Nat → Option (Nat × Nat)
  | [], _, _ => none
  | b :: t, i, acc =>
    if 10 ≤ i then none
    else if i = 9 ∧ 1 < b.toNat then none
    else if b.toNat < 128 then (if b.toNat = 0 ∧ 0 < i then none else some (acc + b.toNat * 2 ^ (7 * i), i + 1))
    else readU t (i + 1) (acc + (b.toNat - 128) * 2 ^ (7 * i))
def unzig (u : Nat) : Int := if u % 2 = 0 then ((u / 2 : Nat) : Int) else -((u / 2 : Nat) : Int) - 1
def readN (s : Bs) : Option (Int × Nat) := (readU s 0 0).map fun x => (unzig x.1, x.2)
theorem toNat_ofNat {n : Nat} (h : n < 256) : (UInt8.ofNat n).toNat = n := by
  rw [UInt8.toNat_ofNat']
  exact Nat.mod_eq_of_lt h
theorem readU_numD (t : Bs) : ∀ (k u i acc : Nat), u < 128 ^ (k + 1) → i + k ≤ 8 → (0 < u ∨ i = 0) → readU (numD u ++ t) i acc = some (acc + u * 2 ^ (7 * i), i + (numD u).length)
  | k, u, i, acc, hu, hi, h0 => by
    by_cases h : u < 128
    · rw [numD_small h, List.singleton_append, readU, toNat_ofNat (by omega), if_neg (by omega), if_neg (by omega), if_pos h, if_neg (by omega)]
      rfl
    · obtain ⟨k, rfl⟩ : ∃ k', k = k' + 1 := ⟨k - 1, by
        rcases Nat.eq_zero_or_pos k with e | e
        · subst e; omega
        · omega⟩
      have h1 : u / 128 < 128 ^ (k + 1) := by
        rw [Nat.div_lt_iff_lt_mul (by omega)]
        rw [Nat.pow_succ] at hu
        exact hu
      rw [numD_big h, List.cons_append, readU, toNat_ofNat (by omega), if_neg (by omega), if_neg (by omega), if_neg (by omega), readU_numD t k (u / 128) (i + 1) _ h1 (by omega) (by omega)]
      refine congrArg some (Prod.ext ?_ ?_)
      · show acc + (u % 128 + 128 - 128) * 2 ^ (7 * i) + u / 128 * 2 ^ (7 * (i + 1)) = acc + u * 2 ^ (7 * i)
        have e1 : 2 ^ (7 * (i + 1)) = 128 * 2 ^ (7 * i) := by rw [show 7 * (i + 1) = 7 + 7 * i by omega, Nat.pow_add]
        rw [e1, Nat.add_sub_cancel, Nat.add_assoc, ← Nat.mul_assoc, ← Nat.add_mul]
        congr 2
        omega
      · show i + 1 + (numD (u / 128)).length = i + (UInt8.ofNat (u % 128 + 128) :: numD (u / 128)).length
        rw [List.length_cons]; omega
theorem pow128_9 : 128 ^ 9 = 9223372036854775808 := by decide
theorem readN_num (n : Nat) (h : n < 4611686018427387904) (t : Bs) : readN (numD (2 * n) ++ t) = some ((n : Int), (numD (2 * n)).length) := by
  unfold readN
  rw [readU_numD t 8 (2 * n) 0 0 (by rw [pow128_9]; omega) (by omega) (.inr rfl)]
  rw [Option.map_some]
  refine congrArg some (Prod.ext ?_ ?_)
  · show unzig (0 + 2 * n * 2 ^ (7 * 0)) = (n : Int)
    rw [Nat.mul_zero, Nat.pow_zero, Nat.mul_one, Nat.zero_add, unzig, if_pos (by omega)]
    omega
  · show 0 + _ = _
    omega
theorem readU_len : ∀ (s : Bs) (i acc u k : Nat), readU s i acc = some (u, k) → i < k ∧ k ≤ i + s.length ∧ k ≤ 10
  | [], i, acc, u, k, h => by cases h
  | b :: t, i, acc, u, k, h => by
    unfold readU at h
    split at h
    · cases h
    · split at h
      · cases h
      · split at h
        · split at h
          · cases h
          · obtain ⟨h1, h2⟩ := Prod.mk.inj (Option.some.inj h)
            rw [List.length_cons]; omega
        · obtain ⟨h1, h2, h3⟩ := readU_len t (i + 1) _ u k h
          rw [List.length_cons]; omega
theorem readN_len {s : Bs} {n : Int} {k : Nat} (h : readN s = some (n, k)) : 0 < k ∧ k ≤ s.length ∧ k ≤ 10 := by
  unfold readN at h
  obtain ⟨x, hx, h2⟩ := Option.map_eq_some_iff.1 h
  obtain ⟨u, k'⟩ := x
  obtain ⟨_, rfl⟩ := Prod.mk.inj h2
  have := readU_len s 0 0 u k' hx
  omega
/-- Bytes that only go on tell no number. -/
theorem readU_more : ∀ (s : Bs) (i acc : Nat), (∀ b ∈ s, 128 ≤ b.toNat) → readU s i acc = none
  | [], _, _, _ => rfl
  | b :: t, i, acc, h => by
    have hb := h b List.mem_cons_self
    unfold readU
    split
    · rfl
    · split
      · rfl
      · rw [if_neg (by omega)]
        exact readU_more t _ _ (fun c hc => h c (List.mem_cons_of_mem _ hc))

/-! ### sums -/
def adlStep (p : Nat × Nat) (b : UInt8) : Nat × Nat := ((p.1 + b.toNat) % 65521, (p.2 + (p.1 + b.toNat) % 65521) % 65521)
def adlP (s : Bs) : Nat × Nat := s.foldl adlStep (1, 0)
theorem adl_lt : ∀ (s : Bs) (p : Nat × Nat), p.1 < 65521 → p.2 < 65521 → (s.foldl adlStep p).1 < 65521 ∧ (s.foldl adlStep p).2 < 65521
  | [], p, h1, h2 => ⟨h1, h2⟩
  | b :: t, p, h1, h2 => adl_lt t _ (Nat.mod_lt _ (by omega)) (Nat.mod_lt _ (by omega))
def sumP (s : Bs) : Nat := (adlP s).2 * 65536 + (adlP s).1
theorem sumP_lt (s : Bs) : sumP s < 4294967296 := by
  have := adl_lt s (1, 0) (by decide) (by decide)
  unfold sumP adlP
  omega
def be4 (n : Nat) : Bs := [UInt8.ofNat (n / 16777216 % 256), UInt8.ofNat (n / 65536 % 256), UInt8.ofNat (n / 256 % 256), UInt8.ofNat (n % 256)]

/-! ### frames -/
def sealP (s : Bs) : Bs := s ++ be4 (sumP s)
def textP (p : Bs) : Bs := numD (2 * p.length) ++ p
def frameP (p : Bs) : Bs := sealP (textP p)
def layP (p : Bs) : Bs × Int := if 4096 < p.length then ([], 1) else (frameP p, 0)
def takeP (s : Bs) : Bs × Nat × Int :=
  match readN s with
  | none => if s = [] ∨ (s.length = 1 ∧ 128 ≤ (s.headD 0).toNat) then ([], 0, 30) else ([], 0, 31)
  | some (n, k) =>
    if 0 ≤ n ∧ n ≤ 4096 then
      (if s.length - k < n.toNat + 4 then ([], 0, 30)
       else if sealP (s.take (k + n.toNat)) = s.take (k + n.toNat + 4) then ((s.drop k).take n.toNat, k + n.toNat + 4, 0) else ([], 0, 31))
    else ([], 0, 31)
/-- All frames of a text, so many at the most. -/
def allP : Nat → Bs → List Bs × Nat × Int
  | 0, _ => ([], 0, 0)
  | f + 1, s => if s = [] then ([], 0, 0) else
    if (takeP s).2.2 = 0 then ((takeP s).1 :: (allP f (s.drop (takeP s).2.1)).1, (takeP s).2.1 + (allP f (s.drop (takeP s).2.1)).2.1, (allP f (s.drop (takeP s).2.1)).2.2)
    else ([], 0, (takeP s).2.2)
theorem sealP_len (s : Bs) : (sealP s).length = s.length + 4 := by unfold sealP be4; simp
theorem frameP_len (p : Bs) : (frameP p).length = (numD (2 * p.length)).length + p.length + 4 := by unfold frameP; rw [sealP_len, textP, List.length_append]
theorem take_frame (p t : Bs) (h : p.length ≤ 4096) : takeP (frameP p ++ t) = (p, (frameP p).length, 0) := by
  have e : frameP p ++ t = numD (2 * p.length) ++ (p ++ (be4 (sumP (textP p)) ++ t)) := by
    unfold frameP sealP textP; simp
  have hr := readN_num p.length (by omega) (p ++ (be4 (sumP (textP p)) ++ t))
  rw [← e] at hr
  have hl := frameP_len p
  have e1 : (frameP p ++ t).take ((numD (2 * p.length)).length + p.length) = textP p := by
    rw [List.take_append_of_le_length (by omega)]
    unfold frameP sealP
    rw [List.take_append_of_le_length (by unfold textP; rw [List.length_append]; omega), List.take_of_length_le (by unfold textP; rw [List.length_append]; omega)]
  have e2 : (frameP p ++ t).take ((numD (2 * p.length)).length + p.length + 4) = frameP p := by
    rw [List.take_append_of_le_length (by omega), List.take_of_length_le (by omega)]
  have e3 : ((frameP p ++ t).drop (numD (2 * p.length)).length).take p.length = p := by
    rw [e, List.drop_left, List.take_append_of_le_length (by omega), List.take_of_length_le (by omega)]
  unfold takeP
  rw [hr]
  dsimp only
  rw [if_pos (by omega), Int.toNat_natCast, if_neg (by rw [List.length_append]; omega), e1, e2, if_pos (show sealP (textP p) = frameP p from rfl), e3, hl]
/-- A frame's beginning is too short. -/
theorem take_short (p q r : Bs) (h : p.length ≤ 4096) (hq : q ++ r = frameP p) (hr : r ≠ []) : takeP q = ([], 0, 30) := by
  have hl := frameP_len p
  have hlen : q.length + r.length = (frameP p).length := by rw [← hq, List.length_append]
  have hrp : 0 < r.length := List.length_pos_iff.2 hr
  have hd : (numD (2 * p.length)).length ≤ 2 := numD_len 1 _ (by omega)
  by_cases hk : (numD (2 * p.length)).length ≤ q.length
  · have hpre : q = numD (2 * p.length) ++ q.drop (numD (2 * p.length)).length := by
      have h1 : q.take (numD (2 * p.length)).length = numD (2 * p.length) := by
        have h2 : (q ++ r).take (numD (2 * p.length)).length = numD (2 * p.length) := by
          rw [hq]; unfold frameP sealP textP
          rw [List.append_assoc, List.take_left]
        rwa [List.take_append_of_le_length hk] at h2
      rw [← h1]
      conv => lhs; rw [← List.take_append_drop (numD (2 * p.length)).length q]
      congr 1
      rw [h1]
    have hrd := readN_num p.length (by omega) (q.drop (numD (2 * p.length)).length)
    rw [← hpre] at hrd
    unfold takeP
    rw [hrd]
    dsimp only
    rw [if_pos (by omega), Int.toNat_natCast, if_pos (by omega)]
  · have hqb : ∀ b ∈ q, 128 ≤ b.toNat := by
      have h2 : q = (numD (2 * p.length)).take q.length := by
        have h3 : (q ++ r).take q.length = q := List.take_left
        have h4 : q = (frameP p).take q.length := by rw [← hq]; exact h3.symm
        refine h4.trans ?_
        unfold frameP sealP textP
        rw [List.append_assoc, List.take_append_of_le_length (by omega)]
      by_cases h0 : 2 * p.length < 128
      · rw [numD_small h0] at hk
        have : q = [] := by rw [← List.length_eq_zero_iff]; simp only [List.length_singleton] at hk; omega
        rw [this]; simp
      · rw [numD_big h0] at h2
        have hq1 : q.length ≤ 1 := by omega
        intro b hb
        rcases Nat.eq_zero_or_pos q.length with e | e
        · rw [List.length_eq_zero_iff] at e; rw [e] at hb; cases hb
        · have e1 : q.length = 1 := by omega
          rw [e1] at h2
          rw [h2, List.take_succ_cons, List.take_zero, List.mem_singleton] at hb
          rw [hb, toNat_ofNat (by omega)]
          omega
    have hrd : readN q = none := by unfold readN; rw [readU_more q 0 0 hqb]; rfl
    unfold takeP
    rw [hrd]
    dsimp only
    refine if_pos ?_
    rcases Classical.em (q = []) with e | e
    · exact .inl e
    · have hp := List.length_pos_iff.2 e
      refine .inr ⟨by omega, ?_⟩
      cases q with
      | nil => exact absurd rfl e
      | cons b t => exact hqb b List.mem_cons_self
def framesP : List Bs → Bs
  | [] => []
  | p :: ps => frameP p ++ framesP ps
theorem framesP_app (a b : List Bs) : framesP (a ++ b) = framesP a ++ framesP b := by
  induction a with
  | nil => rfl
  | cons p ps ih => show frameP p ++ framesP (ps ++ b) = (frameP p ++ framesP ps) ++ framesP b; rw [ih, List.append_assoc]
theorem frameP_ne (p : Bs) : frameP p ≠ [] := by
  intro e
  have := frameP_len p
  rw [e] at this
  simp at this
/-- Frames one behind the other, and a frame's beginning behind them. -/
theorem all_frames (q : Bs) (hq : q = [] ∨ takeP q = ([], 0, 30)) : ∀ (ps : List Bs) (f : Nat), (∀ p ∈ ps, p.length ≤ 4096) → ps.length < f → allP f (framesP ps ++ q) = (ps, (framesP ps).length, if q = [] then 0 else 30)
  | [], f, _, hf => by
    obtain ⟨f, rfl⟩ : ∃ f', f = f' + 1 := ⟨f - 1, by omega⟩
    show allP (f + 1) q = _
    unfold allP
    by_cases e : q = []
    · rw [if_pos e, if_pos e]; rfl
    · rw [if_neg e, if_neg e]
      rcases hq with h | h
      · exact absurd h e
      · rw [h]; rfl
  | p :: ps, f, hp, hf => by
    obtain ⟨f, rfl⟩ : ∃ f', f = f' + 1 := ⟨f - 1, by omega⟩
    have h1 := take_frame p (framesP ps ++ q) (hp p List.mem_cons_self)
    have ih := all_frames q hq ps f (fun x hx => hp x (List.mem_cons_of_mem _ hx)) (by rw [List.length_cons] at hf; omega)
    have e : framesP (p :: ps) ++ q = frameP p ++ (framesP ps ++ q) := by show (frameP p ++ framesP ps) ++ q = _; rw [List.append_assoc]
    rw [e]
    unfold allP
    rw [if_neg (fun e => frameP_ne p (List.append_eq_nil_iff.1 e).1), h1]
    dsimp only
    rw [if_pos rfl, List.drop_left, ih]
    show _ = (p :: ps, (frameP p ++ framesP ps).length, _)
    rw [List.length_append]
end Go.Proofs.YtlmnmjnmilaipaaGreatDoor
/- Layer 11, plainly: a log on a disk. -/
set_option linter.unusedVariables false
set_option linter.unusedSimpArgs false
namespace Go.Proofs.YtlmnmjnmilaipaaGreatDoor
open Go

def ba (l : Bs) : ByteArray := ⟨l.toArray⟩
def bs (s : ByteArray) : Bs := s.data.toList
theorem ba_bs (s : ByteArray) : ba (bs s) = s := by cases s; simp [ba, bs]
theorem bs_ba (l : Bs) : bs (ba l) = l := by simp [ba, bs]
theorem ba_size (l : Bs) : (ba l).size = l.length := by show l.toArray.size = _; exact List.size_toArray
theorem bs_len (s : ByteArray) : (bs s).length = s.size := by show s.data.toList.length = s.data.size; exact Array.length_toList
theorem bs_app (a b : ByteArray) : bs (a ++ b) = bs a ++ bs b := by simp [bs]
theorem ba_app (a b : Bs) : ba a ++ ba b = ba (a ++ b) := by
  have h : bs (ba a ++ ba b) = a ++ b := by rw [bs_app, bs_ba, bs_ba]
  rw [← ba_bs (ba a ++ ba b), h]
def kLog : ByteArray := ⟨#[108, 111, 103]⟩
def kSnap : ByteArray := ⟨#[115, 110, 97, 112]⟩
def kNew : ByteArray := ⟨#[110, 101, 119]⟩
def maxSeq : Nat := 1099511627776

/-- Payloads as entries: a number and a text each. -/
def parseP : List Bs → Option (List (Int × Bs))
  | [] => some []
  | s :: t => match readN s with
    | none => none
    | some (n, k) => if 0 ≤ n ∧ n ≤ 1099511627776 then (parseP t).map ((n, s.drop k) :: ·) else none
/-- A file's bytes, if it is there. -/
def fileP (D : Dk) (k : ByteArray) : Option Bs := (aget D.files k).map fun f => bs f.1
def renewP (D : Dk) (name s : ByteArray) : Int × Dk :=
  if (D.append kNew s).1 ≠ 0 then D.append kNew s
  else if ((D.append kNew s).2.sync kNew).1 ≠ 0 then (D.append kNew s).2.sync kNew
  else ((D.append kNew s).2.sync kNew).2.rename kNew name
/-- What the checkpoint's file tells. -/
def snapOf : Option Bs → Option (Int × Bs)
  | none => some (0, [])
  | some s => if (allP (s.length + 1) s).2.2 = 0 then (match (allP (s.length + 1) s).1 with
    | [p] => (parseP [p]).bind (·.head?)
    | _ => none) else none
/-- Numbers one behind the other. -/
def ordP (q : Int) (all : List (Int × Bs)) : Bool :=
  match all with
  | [] => true
  | x :: _ => decide (x.1 ≤ q + 1) && ((List.range all.length).all fun i => decide ((all.getD i (0, [])).1 = x.1 + i) && decide (1 ≤ (all.getD i (0, [])).1))
/-- What the log's file tells: entries, how many bytes are good, whether there is more. -/
def logOf (q : Int) (s : Bs) : Option (List (Int × Bs) × Nat × Bool) :=
  match parseP (allP (s.length + 1) s).1 with
  | none => none
  | some all => if (allP (s.length + 1) s).2.2 = 31 then none else if ordP q all then some (all, (allP (s.length + 1) s).2.1, decide ((allP (s.length + 1) s).2.2 ≠ 0)) else none
/-- What an Open hands back: the log's number (if it is one), the text, the records, the error; and the disk behind it. -/
structure OpenR where
  seq : Option Int
  text : Bs
  recs : List Bs
  err : Int
  disk : Dk
def logSeq (q : Int) (l : List (Int × Bs)) : Int := (l.getLast?.map (·.1)).getD q
def openP (D : Dk) : OpenR :=
  if D.off then ⟨none, [], [], 100, D⟩
  else
    let r0 := if (aget D.files kNew).isSome then D.remove kNew else (0, D)
    if r0.1 ≠ 0 then ⟨none, [], [], r0.1, r0.2⟩
    else match snapOf (fileP r0.2 kSnap) with
      | none => ⟨none, [], [], 110, r0.2⟩
      | some (q, text) =>
        match logOf q ((fileP r0.2 kLog).getD []) with
        | none => ⟨none, [], [], 110, r0.2⟩
        | some (all, used, more) =>
          let r1 := if more then renewP r0.2 kLog (ba (((fileP r0.2 kLog).getD []).take used)) else (0, r0.2)
          if r1.1 ≠ 0 then ⟨none, [], [], r1.1, r1.2⟩
          else ⟨some (logSeq q (all.filter fun x => decide (q < x.1))), text, (all.filter fun x => decide (q < x.1)).map (·.2), 0, r1.2⟩
/-- A log: its number, its error. -/
structure Wl where
  seq : Int
  err : Int
def madeP (seq : Int) (t : Bs) : Bs × Int :=
  if (layP (numD (2 * seq.toNat) ++ t)).2 ≠ 0 ∨ 1099511627776 < seq then ([], 111) else ((layP (numD (2 * seq.toNat) ++ t)).1, 0)
def appendP (W : Wl) (D : Dk) (t : Bs) : Int × Wl × Dk :=
  if W.err ≠ 0 then (W.err, W, D)
  else if (madeP (W.seq + 1) t).2 ≠ 0 then ((madeP (W.seq + 1) t).2, W, D)
  else
    let r := D.append kLog (ba (madeP (W.seq + 1) t).1)
    if r.1 ≠ 0 then (r.1, ⟨W.seq, r.1⟩, r.2)
    else
      let r2 := r.2.sync kLog
      if r2.1 ≠ 0 then (r2.1, ⟨W.seq, r2.1⟩, r2.2) else (0, ⟨W.seq + 1, 0⟩, r2.2)
def checkP (W : Wl) (D : Dk) (t : Bs) : Int × Wl × Dk :=
  if W.err ≠ 0 then (W.err, W, D)
  else if (madeP W.seq t).2 ≠ 0 then ((madeP W.seq t).2, W, D)
  else
    let r := renewP D kSnap (ba (madeP W.seq t).1)
    if r.1 ≠ 0 then (r.1, ⟨W.seq, r.1⟩, r.2)
    else if (aget r.2.files kLog).isSome then
      let r2 := r.2.remove kLog
      (r2.1, ⟨W.seq, r2.1⟩, r2.2)
    else (0, W, r.2)
end Go.Proofs.YtlmnmjnmilaipaaGreatDoor
/- Layer 11, plainly: what an Open finds where records were laid. -/
set_option linter.unusedVariables false
set_option linter.unusedSimpArgs false
namespace Go.Proofs.YtlmnmjnmilaipaaGreatDoor
open Go

def payP (n : Nat) (t : Bs) : Bs := numD (2 * n) ++ t
def paysP : Nat → List Bs → List Bs
  | _, [] => []
  | a, t :: ts => payP a t :: paysP (a + 1) ts
def entsP : Nat → List Bs → List (Int × Bs)
  | _, [] => []
  | a, t :: ts => ((a : Int), t) :: entsP (a + 1) ts
theorem readN_pay (n : Nat) (h : n < 4611686018427387904) (t : Bs) : readN (payP n t) = some ((n : Int), (numD (2 * n)).length) ∧ (payP n t).drop (numD (2 * n)).length = t :=
  ⟨readN_num n h t, by unfold payP; rw [List.drop_left]⟩
theorem parse_pays : ∀ (ts : List Bs) (a : Nat), a + ts.length ≤ 1099511627777 → parseP (paysP a ts) = some (entsP a ts)
  | [], _, _ => rfl
  | t :: ts, a, h => by
    rw [List.length_cons] at h
    obtain ⟨h1, h2⟩ := readN_pay a (by omega) t
    have ih := parse_pays ts (a + 1) (by omega)
    show parseP (payP a t :: paysP (a + 1) ts) = _
    unfold parseP
    rw [h1]
    dsimp only
    rw [if_pos (by omega), ih, h2]
    rfl
theorem ents_len : ∀ (ts : List Bs) (a : Nat), (entsP a ts).length = ts.length
  | [], _ => rfl
  | t :: ts, a => by show (entsP (a + 1) ts).length + 1 = _; rw [ents_len ts (a + 1)]; rfl
theorem pays_len : ∀ (ts : List Bs) (a : Nat), (paysP a ts).length = ts.length
  | [], _ => rfl
  | t :: ts, a => by show (paysP (a + 1) ts).length + 1 = _; rw [pays_len ts (a + 1)]; rfl
theorem ents_snd : ∀ (ts : List Bs) (a : Nat), (entsP a ts).map (·.2) = ts
  | [], _ => rfl
  | t :: ts, a => by show t :: (entsP (a + 1) ts).map (·.2) = _; rw [ents_snd ts (a + 1)]
theorem ents_fst : ∀ (ts : List Bs) (a i : Nat), i < ts.length → ((entsP a ts).getD i (0, [])).1 = ((a + i : Nat) : Int)
  | [], _, _, h => absurd h (by simp)
  | t :: ts, a, 0, _ => rfl
  | t :: ts, a, i + 1, h => by
    have ih := ents_fst ts (a + 1) i (by rw [List.length_cons] at h; omega)
    show ((entsP (a + 1) ts).getD i (0, [])).1 = _
    rw [ih]; omega
theorem ord_ents (q a : Nat) (ts : List Bs) (h1 : ts = [] ∨ (1 ≤ a ∧ a ≤ q + 1)) : ordP (q : Int) (entsP a ts) = true := by
  cases ts with
  | nil => rfl
  | cons t ts =>
    have h := h1.resolve_left (by simp)
    have hl := ents_len (t :: ts) a
    show (decide ((a : Int) ≤ q + 1) && ((List.range (entsP a (t :: ts)).length).all fun i => decide (((entsP a (t :: ts)).getD i (0, [])).1 = (a : Int) + i) && decide (1 ≤ ((entsP a (t :: ts)).getD i (0, [])).1))) = true
    rw [hl, Bool.and_eq_true, List.all_eq_true]
    refine ⟨decide_eq_true (by omega), fun i hi => ?_⟩
    have hi := List.mem_range.1 hi
    rw [ents_fst _ _ _ hi, Bool.and_eq_true]
    exact ⟨decide_eq_true (by omega), decide_eq_true (by omega)⟩
theorem filter_all (q : Nat) : ∀ (ts : List Bs) (a : Nat), q < a → (entsP a ts).filter (fun x => decide ((q : Int) < x.1)) = entsP a ts
  | [], _, _ => rfl
  | t :: ts, a, h => by
    show List.filter _ (((a : Int), t) :: entsP (a + 1) ts) = ((a : Int), t) :: entsP (a + 1) ts
    rw [List.filter_cons, if_pos (decide_eq_true (by show (q : Int) < (a : Int); omega)), filter_all q ts (a + 1) (by omega)]
theorem filter_ents (q : Nat) : ∀ (ts : List Bs) (a : Nat), a ≤ q + 1 → (entsP a ts).filter (fun x => decide ((q : Int) < x.1)) = entsP (q + 1) (ts.drop (q + 1 - a))
  | [], a, _ => by rw [List.drop_nil]; rfl
  | t :: ts, a, h => by
    by_cases h1 : a = q + 1
    · subst h1
      rw [Nat.sub_self, List.drop_zero]
      exact filter_all q _ _ (by omega)
    · have e : q + 1 - a = (q + 1 - (a + 1)) + 1 := by omega
      show List.filter _ (((a : Int), t) :: entsP (a + 1) ts) = _
      rw [List.filter_cons, if_neg (by show ¬ decide ((q : Int) < (a : Int)) = true; rw [decide_eq_true_eq]; omega), filter_ents q ts (a + 1) (by omega), e, List.drop_succ_cons]
theorem logSeq_ents (q : Nat) (us : List Bs) : logSeq (q : Int) (entsP (q + 1) us) = ((q + us.length : Nat) : Int) := by
  have : ∀ (us : List Bs) (a : Nat), us ≠ [] → (entsP a us).getLast?.map (·.1) = some ((a + us.length : Nat) - 1 : Int) := by
    intro us
    induction us with
    | nil => intro a h; exact absurd rfl h
    | cons t us ih =>
      intro a _
      cases us with
      | nil => show some (a : Int) = _; congr 1; simp
      | cons u us =>
        have := ih (a + 1) (by simp)
        show (((a : Int), t) :: entsP (a + 1) (u :: us)).getLast?.map (·.1) = _
        rw [List.getLast?_cons]
        have e : (entsP (a + 1) (u :: us)).getLast? ≠ none := by
          rw [Ne, List.getLast?_eq_none_iff]; exact fun h => by cases h
        obtain ⟨x, hx⟩ := Option.ne_none_iff_exists'.1 e
        rw [hx] at this ⊢
        simp only [Option.map_some, Option.getD_some] at this ⊢
        rw [this]
        simp only [List.length_cons]
        congr 1; omega
  unfold logSeq
  cases us with
  | nil => simp [entsP]
  | cons t us =>
    rw [this (t :: us) (q + 1) (by simp)]
    simp only [Option.getD_some, List.length_cons]
    omega
theorem frames_many : ∀ ps : List Bs, ps.length ≤ (framesP ps).length
  | [] => Nat.le_refl _
  | p :: ps => by
    have h1 := frames_many ps
    have h2 := frameP_len p
    show ps.length + 1 ≤ (frameP p ++ framesP ps).length
    rw [List.length_append]; omega
/-- A frame's beginning, not a whole one, or nothing. -/
def Part (q : Bs) : Prop := q = [] ∨ takeP q = ([], 0, 30)
theorem logOf_laid (q a : Nat) (ts : List Bs) (part : Bs) (h1 : ts = [] ∨ (1 ≤ a ∧ a ≤ q + 1)) (hm : a + ts.length ≤ 1099511627777) (hp : ∀ p ∈ paysP a ts, p.length ≤ 4096) (hq : Part part) :
    logOf (q : Int) (framesP (paysP a ts) ++ part) = some (entsP a ts, (framesP (paysP a ts)).length, decide (part ≠ [])) := by
  have h := all_frames part hq (paysP a ts) ((framesP (paysP a ts) ++ part).length + 1) hp (by have := frames_many (paysP a ts); rw [List.length_append]; omega)
  unfold logOf
  rw [h]
  dsimp only
  rw [parse_pays ts a hm]
  dsimp only
  rw [ord_ents q a ts h1]
  by_cases e : part = []
  · rw [if_pos e, if_neg (by decide), if_pos rfl]
    simp [e]
  · rw [if_neg e, if_neg (by decide), if_pos rfl]
    simp [e]
theorem snapOf_laid (q : Nat) (t : Bs) (hq : q ≤ 1099511627776) (hp : (payP q t).length ≤ 4096) : snapOf (some (frameP (payP q t))) = some ((q : Int), t) := by
  have h := all_frames [] (.inl rfl) [payP q t] ((frameP (payP q t)).length + 1) (fun p hp' => by obtain rfl := List.mem_singleton.1 hp'; exact hp) (by have := frameP_len (payP q t); simp; omega)
  have e : framesP [payP q t] ++ [] = frameP (payP q t) := by show (frameP (payP q t) ++ []) ++ [] = _; simp
  rw [e] at h
  have hps := parse_pays [t] q (by simp; omega)
  have e2 : paysP q [t] = [payP q t] := rfl
  rw [e2] at hps
  unfold snapOf
  dsimp only
  rw [h]
  dsimp only
  rw [if_pos rfl, hps]
  rfl
/-- What lies in a log's files: the checkpoint's number and text; records from number a on, and what stands behind them. -/
structure Laid (D : Dk) (q : Nat) (text : Bs) (a : Nat) (ts : List Bs) (part : Bs) : Prop where
  snap : (fileP D kSnap = none ∧ q = 0 ∧ text = []) ∨ (fileP D kSnap = some (frameP (payP q text)) ∧ (payP q text).length ≤ 4096)
  qm : q ≤ 1099511627776
  log : (fileP D kLog = none ∧ ts = [] ∧ part = []) ∨ fileP D kLog = some (framesP (paysP a ts) ++ part)
  num : 1 ≤ a ∧ a ≤ q + 1 ∧ q + 1 ≤ a + ts.length
  most : a + ts.length ≤ 1099511627777
  pays : ∀ p ∈ paysP a ts, p.length ≤ 4096
  part : Part part
theorem Laid.snapOf {D : Dk} {q : Nat} {text : Bs} {a : Nat} {ts : List Bs} {part : Bs} (h : Laid D q text a ts part) : snapOf (fileP D kSnap) = some ((q : Int), text) := by
  rcases h.snap with ⟨h1, rfl, rfl⟩ | ⟨h1, h2⟩
  · rw [h1]; rfl
  · rw [h1, snapOf_laid q text h.qm h2]
theorem Laid.logOf {D : Dk} {q : Nat} {text : Bs} {a : Nat} {ts : List Bs} {part : Bs} (h : Laid D q text a ts part) : logOf (q : Int) ((fileP D kLog).getD []) = some (entsP a ts, (framesP (paysP a ts)).length, decide (part ≠ [])) := by
  have h1 := logOf_laid q a ts part (.inr ⟨h.num.1, h.num.2.1⟩) h.most h.pays h.part
  rcases h.log with ⟨h2, rfl, rfl⟩ | h2
  · rw [h2]; exact h1
  · rw [h2]; exact h1
theorem Laid.filter {D : Dk} {q : Nat} {text : Bs} {a : Nat} {ts : List Bs} {part : Bs} (h : Laid D q text a ts part) : (entsP a ts).filter (fun x => decide ((q : Int) < x.1)) = entsP (q + 1) (ts.drop (q + 1 - a)) :=
  filter_ents q ts a h.num.2.1
theorem Laid.last {D : Dk} {q : Nat} {text : Bs} {a : Nat} {ts : List Bs} {part : Bs} (h : Laid D q text a ts part) : q + (ts.drop (q + 1 - a)).length = a + ts.length - 1 := by
  have := h.num
  rw [List.length_drop]; omega
/-- An Open where nothing is to be mended. -/
theorem openP_plain {D : Dk} {q : Nat} {text : Bs} {a : Nat} {ts : List Bs} (h : Laid D q text a ts []) (hoff : D.off = false) (hnew : aget D.files kNew = none) :
    openP D = ⟨some ((a + ts.length - 1 : Nat) : Int), text, ts.drop (q + 1 - a), 0, D⟩ := by
  unfold openP
  rw [if_neg (by rw [hoff]; simp), hnew]
  dsimp only
  rw [if_neg (by simp), if_neg (by simp), h.snapOf]
  dsimp only
  rw [h.logOf]
  dsimp only
  rw [h.filter, ents_snd, logSeq_ents, h.last]
  simp
end Go.Proofs.YtlmnmjnmilaipaaGreatDoor
/- Layer 11, plainly: the calls of a disk that holds a log's files; Append and Checkpoint where the power stays on. -/
set_option linter.unusedVariables false
set_option linter.unusedSimpArgs false
namespace Go.Proofs.YtlmnmjnmilaipaaGreatDoor
open Go

theorem nodup_len {α : Type} [DecidableEq α] : ∀ (l m : List α), l.Nodup → (∀ x ∈ l, x ∈ m) → l.length ≤ m.length
  | [], m, _, _ => Nat.zero_le _
  | x :: l, m, h, hs => by
    have h' := List.nodup_cons.1 h
    have hx := hs x List.mem_cons_self
    have ih := nodup_len l (m.erase x) h'.2 (fun y hy => (List.mem_erase_of_ne (fun e => h'.1 (by rw [← e]; exact hy))).2 (hs y (List.mem_cons_of_mem _ hy)))
    rw [List.length_erase_of_mem hx] at ih
    have := List.length_pos_of_mem hx
    rw [List.length_cons]; omega
def keys3 : List ByteArray := [kLog, kSnap, kNew]
/-- Only a log's files are there. -/
def K3 (fs : Fl) : Prop := ∀ p ∈ fs, p.1 ∈ keys3
theorem K3.few {fs : Fl} (h : K3 fs) (hn : (fs.map (·.1)).Nodup) : fs.length ≤ 3 := by
  have := nodup_len (fs.map (·.1)) keys3 hn (fun x hx => by obtain ⟨p, hp, rfl⟩ := List.mem_map.1 hx; exact h p hp)
  rw [List.length_map] at this
  exact this
theorem K3.put {fs : Fl} (h : K3 fs) {k : ByteArray} (hk : k ∈ keys3) (v : ByteArray × Nat) : K3 (aput fs k v) := fun p hp => by
  rcases aput_mem hp with e | e
  · rw [e]; exact hk
  · exact h p e
theorem K3.del {fs : Fl} (h : K3 fs) (k : ByteArray) : K3 (adel fs k) := fun p hp => h p (adel_mem hp)
theorem nm3 : ∀ k ∈ keys3, isNm k = true := by decide +kernel
def fget (fs : Fl) (k : ByteArray) : ByteArray × Nat := (aget fs k).getD (⟨#[]⟩, 0)
/-- A disk at rest between a log's calls. -/
structure Lies (D : Dk) : Prop where
  ok : D.Ok
  k3 : K3 D.files
theorem off_tick {D : Dk} (h : D.off = false) : D.tick = { D with acts := D.acts + 1, off := decide (D.acts + 1 = D.armed) } := by unfold Dk.tick; rw [if_neg (by rw [h]; simp)]
theorem append_cut {D : Dk} {k s : ByteArray} (h : D.tick.off = true) : D.append k s = (100, D.tick) := by unfold Dk.append; rw [if_pos h]
theorem sync_cut {D : Dk} {k : ByteArray} (h : D.tick.off = true) : D.sync k = (100, D.tick) := by unfold Dk.sync; rw [if_pos h]
theorem rename_cut {D : Dk} {k j : ByteArray} (h : D.tick.off = true) : D.rename k j = (100, D.tick) := by unfold Dk.rename; rw [if_pos h]
theorem remove_cut {D : Dk} {k : ByteArray} (h : D.tick.off = true) : D.remove k = (100, D.tick) := by unfold Dk.remove; rw [if_pos h]
theorem append_go {D : Dk} {k s : ByteArray} (hD : Lies D) (h : D.tick.off = false) (hk : k ∈ keys3) (hs : (fget D.files k).1.size + s.size ≤ 65536) :
    D.append k s = (0, { D.tick with files := aput D.files k ((fget D.files k).1 ++ s, (fget D.files k).2) }) := by
  have h3 := hD.k3.few hD.ok.nodup
  unfold Dk.append
  rw [if_neg (by rw [h]; simp), nm3 k hk, if_neg (by simp)]
  unfold fget at hs ⊢
  cases hg : aget D.files k with
  | none =>
    rw [hg] at hs
    dsimp only [Option.getD] at hs ⊢
    rw [if_neg (by
      have : (⟨#[]⟩ : ByteArray).size = 0 := rfl
      omega), show (⟨#[]⟩ : ByteArray) ++ s = s from ByteArray.empty_append]
  | some f =>
    rw [hg] at hs
    dsimp only [Option.getD] at hs ⊢
    rw [if_neg (by omega)]
theorem sync_go {D : Dk} {k : ByteArray} (h : D.tick.off = false) {f : ByteArray × Nat} (hg : aget D.files k = some f) :
    D.sync k = (0, { D.tick with files := aput D.files k (f.1, f.1.size) }) := by unfold Dk.sync; rw [if_neg (by rw [h]; simp), hg]
theorem rename_go {D : Dk} {k j : ByteArray} (h : D.tick.off = false) {f : ByteArray × Nat} (hg : aget D.files k = some f) (hj : j ∈ keys3) :
    D.rename k j = (0, { D.tick with files := aput (adel D.files k) j f }) := by unfold Dk.rename; rw [if_neg (by rw [h]; simp), hg, nm3 j hj]; rfl
theorem remove_go {D : Dk} {k : ByteArray} (h : D.tick.off = false) {f : ByteArray × Nat} (hg : aget D.files k = some f) :
    D.remove k = (0, { D.tick with files := adel D.files k }) := by unfold Dk.remove; rw [if_neg (by rw [h]; simp), hg]
theorem ne_ls : kLog ≠ kSnap := by decide
theorem ne_ln : kLog ≠ kNew := by decide
theorem ne_sn : kSnap ≠ kNew := by decide
theorem in_l : kLog ∈ keys3 := List.mem_cons_self
theorem in_s : kSnap ∈ keys3 := List.mem_cons_of_mem _ List.mem_cons_self
theorem in_n : kNew ∈ keys3 := List.mem_cons_of_mem _ (List.mem_cons_of_mem _ List.mem_cons_self)
theorem pays_snoc : ∀ (ts : List Bs) (a : Nat) (t : Bs), paysP a (ts ++ [t]) = paysP a ts ++ [payP (a + ts.length) t]
  | [], a, t => rfl
  | u :: ts, a, t => by
    show payP a u :: paysP (a + 1) (ts ++ [t]) = _
    rw [pays_snoc ts (a + 1) t, List.length_cons, show a + 1 + ts.length = a + (ts.length + 1) by omega]
    rfl
theorem frames_snoc (ps : List Bs) (p : Bs) : framesP (ps ++ [p]) = framesP ps ++ frameP p := by
  rw [framesP_app]
  show framesP ps ++ (frameP p ++ []) = _
  rw [List.append_nil]
/-- On, not armed, no file left over. -/
structure Rest (D : Dk) : Prop extends Lies D where
  off : D.off = false
  armed : D.armed = 0
  new : aget D.files kNew = none
theorem Lies.put {D : Dk} (h : Lies D) {k : ByteArray} (hk : k ∈ keys3) {v : ByteArray × Nat} (h1 : v.1.size ≤ 65536) (h2 : v.2 ≤ v.1.size) (n : Nat) (hn : n < 4611686018427387904) (o : Bool) : Lies ⟨aput D.files k v, n, D.armed, o⟩ :=
  ⟨.mk' (FilesOk.put h.ok.files (nm3 k hk) h1 h2 (fun _ => by have := h.k3.few h.ok.nodup; omega)) hn h.ok.armed, h.k3.put hk v⟩
theorem fget_some {fs : Fl} {k : ByteArray} {f : ByteArray × Nat} (h : aget fs k = some f) : fget fs k = f := by unfold fget; rw [h]; rfl
theorem Lies.fget {D : Dk} (h : Lies D) (k : ByteArray) : (fget D.files k).1.size ≤ 65536 ∧ (fget D.files k).2 ≤ (fget D.files k).1.size := by
  unfold Go.Proofs.YtlmnmjnmilaipaaGreatDoor.fget
  cases hg : aget D.files k with
  | none => exact ⟨by decide, Nat.le_refl _⟩
  | some f => exact ⟨h.ok.bytes _ (aget_mem' hg), h.ok.synced _ (aget_mem' hg)⟩
theorem size_app (a b : ByteArray) : (a ++ b).size = a.size + b.size := ByteArray.size_append
/-- A file that is written and synced. -/
def wrote (D : Dk) (k s : ByteArray) : Dk := ⟨aput (aput D.files k ((fget D.files k).1 ++ s, (fget D.files k).2)) k ((fget D.files k).1 ++ s, ((fget D.files k).1 ++ s).size), D.acts + 2, 0, false⟩
theorem write_rest {D : Dk} (h : Lies D) (hoff : D.off = false) (ha : D.armed = 0) {k s : ByteArray} (hk : k ∈ keys3) (hs : (fget D.files k).1.size + s.size ≤ 65536) (hn : D.acts + 2 < 4611686018427387904) :
    (D.append k s).1 = 0 ∧ (D.append k s).2.sync k = (0, wrote D k s) ∧ Lies (wrote D k s) := by
  have ht : D.tick = ⟨D.files, D.acts + 1, 0, false⟩ := by
    rw [off_tick hoff, ha, decide_eq_false (by omega)]
  have hf := h.fget k
  have e1 := append_go (s := s) h (by rw [ht]) hk hs
  rw [ht] at e1
  have hg : aget (aput D.files k ((fget D.files k).1 ++ s, (fget D.files k).2)) k = some ((fget D.files k).1 ++ s, (fget D.files k).2) := aget_aput_same _ _ _
  have l1 : Lies ⟨aput D.files k ((fget D.files k).1 ++ s, (fget D.files k).2), D.acts + 1, D.armed, false⟩ := h.put hk (by rw [size_app]; exact hs) (by rw [size_app]; show (fget D.files k).2 ≤ _; omega) _ (by omega) _
  have ht2 : (⟨aput D.files k ((fget D.files k).1 ++ s, (fget D.files k).2), D.acts + 1, 0, false⟩ : Dk).tick = ⟨aput D.files k ((fget D.files k).1 ++ s, (fget D.files k).2), D.acts + 2, 0, false⟩ := by
    rw [off_tick rfl, decide_eq_false (by show ¬ D.acts + 1 + 1 = 0; omega)]
  have e2 := sync_go (D := ⟨aput D.files k ((fget D.files k).1 ++ s, (fget D.files k).2), D.acts + 1, 0, false⟩) (k := k) (by rw [ht2]) hg
  rw [ht2] at e2
  refine ⟨by rw [e1], by rw [e1]; exact e2, ?_⟩
  have l2 := l1.put hk (v := ((fget D.files k).1 ++ s, ((fget D.files k).1 ++ s).size)) (by rw [size_app]; exact hs) (Nat.le_refl _) (D.acts + 2) hn false
  rw [ha] at l2
  exact l2
theorem wrote_same (D : Dk) (k s : ByteArray) : aget (wrote D k s).files k = some ((fget D.files k).1 ++ s, ((fget D.files k).1 ++ s).size) := aget_aput_same _ _ _
theorem wrote_other (D : Dk) (k s : ByteArray) {j : ByteArray} (h : j ≠ k) : aget (wrote D k s).files j = aget D.files j := by
  show aget (aput (aput D.files k _) k _) j = _
  rw [aget_aput_other _ _ _ _ h, aget_aput_other _ _ _ _ h]
theorem Laid.bytes {D : Dk} {q : Nat} {text : Bs} {a : Nat} {ts : List Bs} {part : Bs} (h : Laid D q text a ts part) : bs (Go.Proofs.YtlmnmjnmilaipaaGreatDoor.fget D.files kLog).1 = framesP (paysP a ts) ++ part := by
  unfold Go.Proofs.YtlmnmjnmilaipaaGreatDoor.fget
  rcases h.log with ⟨h1, rfl, rfl⟩ | h1
  · unfold fileP at h1
    rw [Option.map_eq_none_iff] at h1
    rw [h1]; rfl
  · unfold fileP at h1
    obtain ⟨f, hf, e⟩ := Option.map_eq_some_iff.1 h1
    rw [hf]; exact e
theorem Laid.files {D D' : Dk} {q : Nat} {text : Bs} {a : Nat} {ts : List Bs} {part : Bs} (h : Laid D q text a ts part) (h1 : aget D'.files kSnap = aget D.files kSnap) (h2 : aget D'.files kLog = aget D.files kLog) : Laid D' q text a ts part := by
  have e1 : fileP D' kSnap = fileP D kSnap := by unfold fileP; rw [h1]
  have e2 : fileP D' kLog = fileP D kLog := by unfold fileP; rw [h2]
  exact ⟨by rw [e1]; exact h.snap, h.qm, by rw [e2]; exact h.log, h.num, h.most, h.pays, h.part⟩
theorem madeP_ok {n : Nat} {t : Bs} (h1 : n ≤ 1099511627776) (h2 : (payP n t).length ≤ 4096) : madeP (n : Int) t = (frameP (payP n t), 0) := by
  unfold madeP
  rw [Int.toNat_natCast]
  have e : layP (numD (2 * n) ++ t) = (frameP (payP n t), 0) := by unfold layP; rw [if_neg (by show ¬ 4096 < (payP n t).length; omega)]; rfl
  rw [e, if_neg (by simp; omega)]
theorem madeP_long {n : Nat} {t : Bs} (h2 : 4096 < (payP n t).length) : madeP (n : Int) t = ([], 111) := by
  unfold madeP
  rw [Int.toNat_natCast]
  have e : layP (numD (2 * n) ++ t) = ([], 1) := by unfold layP; exact if_pos h2
  rw [e, if_pos (.inl (by simp))]
theorem appendP_rest {D : Dk} (h : Rest D) {q : Nat} {text : Bs} {a : Nat} {ts : List Bs} (hl : Laid D q text a ts []) (t : Bs) (hseq : a + ts.length ≤ 1099511627776) (hp : (payP (a + ts.length) t).length ≤ 4096)
    (hsz : (framesP (paysP a ts)).length + (frameP (payP (a + ts.length) t)).length ≤ 65536) (hn : D.acts + 2 < 4611686018427387904) :
    ∃ D', appendP ⟨((a + ts.length - 1 : Nat) : Int), 0⟩ D t = (0, ⟨((a + ts.length : Nat) : Int), 0⟩, D') ∧ Rest D' ∧ Laid D' q text a (ts ++ [t]) [] ∧ D'.acts = D.acts + 2 ∧ aget D'.files kSnap = aget D.files kSnap := by
  have h1 := hl.num
  have hb := hl.bytes
  rw [List.append_nil] at hb
  have hsz1 : (fget D.files kLog).1.size = (framesP (paysP a ts)).length := by rw [← bs_len, hb]
  have e1 : ((a + ts.length - 1 : Nat) : Int) + 1 = ((a + ts.length : Nat) : Int) := by omega
  obtain ⟨w1, w2, w3⟩ := write_rest (s := ba (frameP (payP (a + ts.length) t))) h.toLies h.off h.armed in_l (by rw [hsz1, ba_size]; exact hsz) hn
  refine ⟨wrote D kLog (ba (frameP (payP (a + ts.length) t))), ?_, ⟨w3, rfl, rfl, ?_⟩, ?_, rfl, wrote_other _ _ _ ne_ls.symm⟩
  · unfold appendP
    rw [if_neg (by simp), e1, madeP_ok (by omega) hp]
    dsimp only
    rw [if_neg (by simp), if_neg (by rw [w1]; simp), w2]
    simp
  · rw [wrote_other _ _ _ ne_ln.symm]; exact h.new
  · have hsn : fileP (wrote D kLog (ba (frameP (payP (a + ts.length) t)))) kSnap = fileP D kSnap := by unfold fileP; rw [wrote_other _ _ _ ne_ls.symm]
    refine ⟨by rw [hsn]; exact hl.snap, hl.qm, .inr ?_, by rw [List.length_append]; omega, by rw [List.length_append, List.length_singleton]; omega, fun p hp' => ?_, .inl rfl⟩
    · unfold fileP
      rw [wrote_same, Option.map_some, List.append_nil, pays_snoc, frames_snoc]
      show some (bs (_ ++ _)) = _
      rw [bs_app, hb, bs_ba]
    · rw [pays_snoc] at hp'
      rcases List.mem_append.1 hp' with h2 | h2
      · exact hl.pays p h2
      · obtain rfl := List.mem_singleton.1 h2; exact hp
theorem only_one {fs : Fl} {k : ByteArray} {v : ByteArray × Nat} (hn : (fs.map (·.1)).Nodup) (h : aget fs k = some v) (ho : ∀ p ∈ fs, p.1 = k) : fs = [(k, v)] := by
  cases fs with
  | nil => cases h
  | cons p r =>
    have hp := ho p List.mem_cons_self
    have hr : r = [] := by
      cases r with
      | nil => rfl
      | cons p2 r2 =>
        have h2 := ho p2 (List.mem_cons_of_mem _ List.mem_cons_self)
        rw [List.map_cons, List.map_cons, hp, h2] at hn
        exact absurd (List.mem_cons_self) (List.nodup_cons.1 hn).1
    subst hr
    obtain ⟨k', v'⟩ := p
    obtain rfl : k' = k := hp
    unfold aget at h
    simp at h
    rw [h]
theorem checkP_rest {D : Dk} (h : Rest D) {q : Nat} {text : Bs} {a : Nat} {ts : List Bs} (hl : Laid D q text a ts []) (t : Bs) (hp : (payP (a + ts.length - 1) t).length ≤ 4096) (hn : D.acts + 4 < 4611686018427387904) :
    ∃ D', checkP ⟨((a + ts.length - 1 : Nat) : Int), 0⟩ D t = (0, ⟨((a + ts.length - 1 : Nat) : Int), 0⟩, D') ∧ Rest D' ∧ Laid D' (a + ts.length - 1) t (a + ts.length) [] [] ∧ D'.acts ≤ D.acts + 4 ∧ ∃ v, D'.files = [(kSnap, v)] := by
  have h1 := hl.num
  have h2 := hl.most
  have hfp := frameP_len (payP (a + ts.length - 1) t)
  have hd2 : (numD (2 * (payP (a + ts.length - 1) t).length)).length ≤ 2 := numD_len 1 _ (by omega)
  have hn0 : fget D.files kNew = (⟨#[]⟩, 0) := by unfold fget; rw [h.new]; rfl
  obtain ⟨w1, w2, w3⟩ := write_rest (s := ba (frameP (payP (a + ts.length - 1) t))) h.toLies h.off h.armed in_n (by
    rw [hn0, ba_size]
    show 0 + _ ≤ _
    omega) (by omega)
  have hwn := wrote_same D kNew (ba (frameP (payP (a + ts.length - 1) t)))
  have hws := fun j (hj : j ≠ kNew) => wrote_other D kNew (ba (frameP (payP (a + ts.length - 1) t))) hj
  have hwa : (wrote D kNew (ba (frameP (payP (a + ts.length - 1) t)))).acts = D.acts + 2 := rfl
  have hwr : (wrote D kNew (ba (frameP (payP (a + ts.length - 1) t)))).armed = 0 := rfl
  have hwo : (wrote D kNew (ba (frameP (payP (a + ts.length - 1) t)))).off = false := rfl
  rw [hn0] at hwn
  have e0 : (⟨#[]⟩ : ByteArray) ++ ba (frameP (payP (a + ts.length - 1) t)) = ba (frameP (payP (a + ts.length - 1) t)) := ByteArray.empty_append
  dsimp only at hwn
  rw [e0] at hwn
  generalize wrote D kNew (ba (frameP (payP (a + ts.length - 1) t))) = D1 at *
  have ht1 : D1.tick = ⟨D1.files, D1.acts + 1, 0, false⟩ := by rw [off_tick hwo, hwr, decide_eq_false (by omega)]
  have e3 := rename_go (D := D1) (k := kNew) (j := kSnap) (by rw [ht1]) hwn in_s
  rw [ht1] at e3
  dsimp only at e3
  have sz : (ba (frameP (payP (a + ts.length - 1) t))).size ≤ 65536 := by rw [ba_size]; omega
  have l2 : Lies ⟨adel D1.files kNew, D1.acts + 1, 0, false⟩ := ⟨.mk' ⟨fun p hp => w3.ok.names p (adel_mem hp), fun p hp => w3.ok.bytes p (adel_mem hp), fun p hp => w3.ok.synced p (adel_mem hp), adel_nodup w3.ok.nodup _, Nat.le_trans (adel_sub _ _).length_le w3.ok.many⟩ (by show D1.acts + 1 < _; omega) (by show 0 < _; omega), w3.k3.del _⟩
  have l3 := l2.put in_s (v := (ba (frameP (payP (a + ts.length - 1) t)), (ba (frameP (payP (a + ts.length - 1) t))).size)) sz (Nat.le_refl _) (D1.acts + 1) (by omega) false
  generalize hv : (ba (frameP (payP (a + ts.length - 1) t)), (ba (frameP (payP (a + ts.length - 1) t))).size) = v at *
  have hg : ∀ j, aget (aput (adel D1.files kNew) kSnap v) j = if j = kSnap then some v else if j = kNew then none else aget D.files j := by
    intro j
    by_cases hj : j = kSnap
    · rw [if_pos hj, hj, aget_aput_same]
    · rw [if_neg hj, aget_aput_other _ _ _ _ hj]
      by_cases hk : j = kNew
      · rw [if_pos hk, hk, aget_adel_same]
      · rw [if_neg hk, aget_adel_other _ hk, hws j hk]
  have main : ∀ D', Lies D' → D'.off = false → D'.armed = 0 → (∀ j, j ≠ kSnap → aget D'.files j = none) → aget D'.files kSnap = some v → Rest D' ∧ Laid D' (a + ts.length - 1) t (a + ts.length) [] [] ∧ ∃ v, D'.files = [(kSnap, v)] := by
    intro D' hL ho hr hno hsn
    refine ⟨⟨hL, ho, hr, hno _ ne_sn.symm⟩, ⟨.inr ⟨?_, hp⟩, by omega, .inl ⟨?_, rfl, rfl⟩, ⟨by omega, by omega, by simp; omega⟩, by simp; omega, (fun p hp' => by cases hp'), .inl rfl⟩, v, ?_⟩
    · unfold fileP; rw [hsn, ← hv]; show some (bs (ba _)) = _; rw [bs_ba]
    · unfold fileP; rw [hno _ ne_ls]; rfl
    · refine only_one hL.ok.nodup hsn (fun p hp' => ?_)
      refine Classical.byContradiction (fun hne => ?_)
      have := (aget_none_iff (m := D'.files) (k := p.1)).1 (hno p.1 hne)
      exact this (List.mem_map.2 ⟨p, hp', rfl⟩)
  have ren : renewP D kSnap (ba (frameP (payP (a + ts.length - 1) t))) = (0, ⟨aput (adel D1.files kNew) kSnap v, D1.acts + 1, 0, false⟩) := by
    unfold renewP
    rw [if_neg (by rw [w1]; simp), w2, if_neg (by simp)]
    exact e3
  unfold checkP
  rw [if_neg (by simp), madeP_ok (by omega) hp]
  dsimp only
  rw [if_neg (by simp), ren]
  dsimp only
  rw [if_neg (by simp)]
  by_cases hlg : (aget (aput (adel D1.files kNew) kSnap v) kLog).isSome = true
  · obtain ⟨f, hf⟩ := Option.isSome_iff_exists.1 hlg
    have ht3 : (⟨aput (adel D1.files kNew) kSnap v, D1.acts + 1, 0, false⟩ : Dk).tick = ⟨aput (adel D1.files kNew) kSnap v, D1.acts + 2, 0, false⟩ := by rw [off_tick rfl, decide_eq_false (by show ¬ D1.acts + 1 + 1 = 0; omega)]
    have e4 := remove_go (D := ⟨aput (adel D1.files kNew) kSnap v, D1.acts + 1, 0, false⟩) (k := kLog) (by rw [ht3]) hf
    rw [ht3] at e4
    dsimp only at e4
    rw [if_pos hlg, e4]
    dsimp only
    have l4 : Lies ⟨adel (aput (adel D1.files kNew) kSnap v) kLog, D1.acts + 2, 0, false⟩ := ⟨.mk' ⟨fun p hp => l3.ok.names p (adel_mem hp), fun p hp => l3.ok.bytes p (adel_mem hp), fun p hp => l3.ok.synced p (adel_mem hp), adel_nodup l3.ok.nodup _, Nat.le_trans (adel_sub _ _).length_le l3.ok.many⟩ (by show D1.acts + 2 < _; omega) (by show 0 < _; omega), l3.k3.del _⟩
    obtain ⟨m1, m2, m3⟩ := main _ l4 rfl rfl (fun j hj => by
      show aget (adel _ _) j = none
      by_cases hjl : j = kLog
      · rw [hjl, aget_adel_same]
      · rw [aget_adel_other _ hjl, hg, if_neg hj]
        by_cases hjn : j = kNew
        · rw [if_pos hjn]
        · rw [if_neg hjn]
          refine (aget_none_iff).2 (fun hm => ?_)
          obtain ⟨p, hp', e⟩ := List.mem_map.1 hm
          have := h.k3 p hp'
          rw [e] at this
          simp [keys3] at this
          rcases this with h | h | h
          · exact hjl h
          · exact hj h
          · exact hjn h) (by
      show aget (adel _ _) kSnap = some v
      rw [aget_adel_other _ ne_ls.symm, hg, if_pos rfl])
    exact ⟨_, rfl, m1, m2, by show D1.acts + 2 ≤ _; omega, m3⟩
  · rw [if_neg hlg]
    have hlg' : aget (aput (adel D1.files kNew) kSnap v) kLog = none := by
      cases hx : aget (aput (adel D1.files kNew) kSnap v) kLog with
      | none => rfl
      | some y => rw [hx] at hlg; exact absurd rfl hlg
    obtain ⟨m1, m2, m3⟩ := main _ l3 rfl rfl (fun j hj => by
      show aget (aput _ _ _) j = none
      by_cases hjl : j = kLog
      · rw [hjl]; exact hlg'
      · rw [hg, if_neg hj]
        by_cases hjn : j = kNew
        · rw [if_pos hjn]
        · rw [if_neg hjn]
          refine (aget_none_iff).2 (fun hm => ?_)
          obtain ⟨p, hp', e⟩ := List.mem_map.1 hm
          have := h.k3 p hp'
          rw [e] at this
          simp [keys3] at this
          rcases this with h | h | h
          · exact hjl h
          · exact hj h
          · exact hjn h) (by
      show aget (aput _ _ _) kSnap = some v
      rw [hg, if_pos rfl])
    exact ⟨_, rfl, m1, m2, by show D1.acts + 1 ≤ _; omega, m3⟩
end Go.Proofs.YtlmnmjnmilaipaaGreatDoor

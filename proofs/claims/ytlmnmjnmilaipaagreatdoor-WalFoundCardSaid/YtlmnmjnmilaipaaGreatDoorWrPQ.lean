/- Layers 1, 3, plainly: what the document's own reader and Take tell is what the code's tell. No program is named here. -/
import Derived.Test.YtlmnmjnmilaipaaGreatDoorWalPl
import Derived.Test.YtlmnmjnmilaipaaGreatDoorWalOp
set_option linter.unusedVariables false
set_option linter.unusedSimpArgs false
namespace Go.Proofs.YtlmnmjnmilaipaaGreatDoor
open Go

/-- What is read is written just so. -/
theorem readU_canon : ∀ (s : Bs) (i acc r k : Nat), readU s i acc = some (r, k) → ∃ v, r = acc + v * 2 ^ (7 * i) ∧ s.take (k - i) = numD v ∧ (0 < i → 0 < v)
  | [], i, acc, r, k, h => by cases h
  | b :: t, i, acc, r, k, h => by
    have hlen := readU_len _ _ _ _ _ h
    unfold readU at h
    split at h
    · cases h
    · split at h
      · cases h
      · split at h
        · rename_i hb
          split at h
          · cases h
          · rename_i h0
            obtain ⟨h1, h2⟩ := Prod.mk.inj (Option.some.inj h)
            refine ⟨b.toNat, h1.symm, ?_, fun hi => by omega⟩
            rw [← h2, show i + 1 - i = 1 by omega, List.take_succ_cons, List.take_zero, numD_small hb]
            congr 1
            exact UInt8.toNat_inj.1 (by rw [toNat_ofNat (by omega)])
        · rename_i hb
          obtain ⟨v, h1, h2, h3⟩ := readU_canon t (i + 1) _ r k h
          have hbt := b.toNat_lt
          have hv := h3 (by omega)
          have hl2 := readU_len _ _ _ _ _ h
          refine ⟨b.toNat - 128 + 128 * v, ?_, ?_, fun _ => by omega⟩
          · rw [h1, show 7 * (i + 1) = 7 + 7 * i by omega, Nat.pow_add, Nat.add_mul, Nat.add_assoc]
            congr 2
            rw [← Nat.mul_assoc, Nat.mul_comm v (2 ^ 7)]
          · rw [numD_big (by omega), show k - i = (k - (i + 1)) + 1 by omega, List.take_succ_cons, h2]
            have e1 : (b.toNat - 128 + 128 * v) % 128 + 128 = b.toNat := by omega
            have e2 : (b.toNat - 128 + 128 * v) / 128 = v := by omega
            rw [e1, e2]
            congr 1
            exact UInt8.toNat_inj.1 (by rw [toNat_ofNat (by omega)])
theorem readN_canon {s : Bs} {n : Int} {k : Nat} (h : readN s = some (n, k)) (h0 : 0 ≤ n) : s.take k = numD (2 * n.toNat) := by
  unfold readN at h
  obtain ⟨x, hx, h2⟩ := Option.map_eq_some_iff.1 h
  obtain ⟨u, k'⟩ := x
  obtain ⟨e1, e2⟩ := Prod.mk.inj h2
  subst e2
  obtain ⟨v, h3, h4, _⟩ := readU_canon s 0 0 u _ hx
  simp only [Nat.mul_zero, Nat.pow_zero, Nat.mul_one, Nat.zero_add] at h3
  subst h3
  rw [Nat.sub_zero] at h4
  rw [h4]
  congr 1
  unfold unzig at e1
  split at e1
  · dsimp only at e1; omega
  · dsimp only at e1; omega

/-! ### the document's Take -/
def rtakeP (s : Bs) : Bs × Nat × Int :=
  if s = [] ∨ (s.length = 1 ∧ 128 ≤ (s.headD 0).toNat) then ([], 0, 30)
  else match readN s with
  | none => ([], 0, 31)
  | some (n, k) =>
    if n < 0 ∨ 4096 < n then ([], 0, 31)
    else if s.length - k < n.toNat + 4 then ([], 0, 30)
    else if s.take (k + n.toNat + 4) = frameP ((s.drop k).take n.toNat) then ((s.drop k).take n.toNat, k + n.toNat + 4, 0) else ([], 0, 31)
theorem rtake_eq (s : Bs) : rtakeP s = takeP s := by
  unfold rtakeP takeP
  by_cases h0 : s = [] ∨ (s.length = 1 ∧ 128 ≤ (s.headD 0).toNat)
  · rw [if_pos h0]
    have hr : readN s = none := by
      unfold readN
      rw [readU_more s 0 0 ?_]
      · rfl
      · rcases h0 with rfl | ⟨h1, h2⟩
        · simp
        · match s, h1, h2 with
          | [b], _, h2 => simpa using h2
    rw [hr]
    dsimp only
    rw [if_pos h0]
  · rw [if_neg h0]
    cases hr : readN s with
    | none => dsimp only; rw [if_neg h0]
    | some x =>
      obtain ⟨n, k⟩ := x
      dsimp only
      by_cases h1 : 0 ≤ n ∧ n ≤ 4096
      · rw [if_neg (show ¬ (n < 0 ∨ 4096 < n) by omega), if_pos h1]
        split
        · rfl
        · rename_i hs
          have hlen := readN_len hr
          have hc := readN_canon hr h1.1
          have hpl : ((s.drop k).take n.toNat).length = n.toNat := by rw [List.length_take, List.length_drop]; omega
          have htk : s.take (k + n.toNat) = textP ((s.drop k).take n.toNat) := by
            unfold textP
            rw [hpl, ← hc, ← List.take_add]
          rw [htk]
          by_cases h2 : s.take (k + n.toNat + 4) = frameP ((s.drop k).take n.toNat)
          · rw [if_pos h2]
            exact (if_pos h2.symm).symm
          · rw [if_neg h2]
            exact (if_neg (fun e => h2 e.symm)).symm
      · rw [if_pos (show n < 0 ∨ 4096 < n by omega), if_neg h1]

/-! ### the document's reader -/
def more (b : UInt8) : Bool := decide (128 ≤ b.toNat)
/-- How many bytes go on. -/
def lead : Bs → Nat
  | [] => 0
  | b :: t => if more b then lead t + 1 else 0
theorem lead_le : ∀ s : Bs, lead s ≤ s.length
  | [] => Nat.le_refl _
  | b :: t => by unfold lead; have := lead_le t; split <;> simp <;> omega
theorem lead_all : ∀ (s : Bs) (j : Nat) (hj : j < s.length), j < lead s → 128 ≤ (s[j]).toNat
  | [], j, hj, _ => absurd hj (by simp)
  | b :: t, j, hj, h => by
    unfold lead at h
    split at h
    · rename_i hb
      cases j with
      | zero => simpa [more] using hb
      | succ j => exact lead_all t j (by simpa using hj) (by omega)
    · omega
theorem lead_at : ∀ (s : Bs) (h : lead s < s.length), (s[lead s]).toNat < 128
  | [], h => absurd h (by simp)
  | b :: t, h => by
    by_cases hb : more b = true
    · have e : lead (b :: t) = lead t + 1 := by rw [lead, if_pos hb]
      have := lead_at t (by rw [e] at h; simpa using h)
      simp only [e]
      exact this
    · have e : lead (b :: t) = 0 := by rw [lead, if_neg hb]
      simp only [e]
      simpa [more] using hb
theorem lead_is (s : Bs) (n : Nat) (hn : n ≤ s.length) (h1 : ∀ j (hj : j < s.length), j < n → 128 ≤ (s[j]).toNat) (h2 : ∀ h : n < s.length, (s[n]).toNat < 128) : lead s = n := by
  have hl := lead_le s
  rcases Nat.lt_trichotomy (lead s) n with h | h | h
  · have a := lead_at s (by omega)
    have b := h1 (lead s) (by omega) h
    omega
  · exact h
  · have a := lead_all s n (by omega) h
    have b := h2 (by omega)
    omega
/-- What bytes tell. -/
def valU : Bs → Nat → Nat
  | [], _ => 0
  | b :: t, i => b.toNat % 128 * 2 ^ (7 * i) + valU t (i + 1)
theorem readU_lead : ∀ (s : Bs) (i acc : Nat), i ≤ 9 → readU s i acc = if 10 ≤ i + lead s ∨ lead s = s.length ∨ (0 < i + lead s ∧ s.getD (lead s) 0 = 0) ∨ (i + lead s = 9 ∧ 1 < (s.getD (lead s) 0).toNat) then none else some (acc + valU (s.take (lead s + 1)) i, i + lead s + 1)
  | [], i, acc, hi => by rw [if_pos (.inr (.inl rfl))]; rfl
  | b :: t, i, acc, hi => by
    unfold readU
    rw [if_neg (by omega)]
    by_cases hb : more b = true
    · have hb' : 128 ≤ b.toNat := by simpa [more] using hb
      have e : lead (b :: t) = lead t + 1 := by rw [lead, if_pos hb]
      rw [e, List.getD_cons_succ, List.length_cons]
      by_cases h9 : i = 9
      · rw [if_pos ⟨h9, by omega⟩, if_pos (by omega)]
      · have hlt := b.toNat_lt
        rw [if_neg (by omega), if_neg (by omega), readU_lead t (i + 1) _ (by omega)]
        have e2 : i + 1 + lead t = i + (lead t + 1) := by omega
        rw [e2]
        simp only [Nat.add_right_cancel_iff]
        split
        · rfl
        · rw [List.take_succ_cons]
          show _ = some (acc + (b.toNat % 128 * 2 ^ (7 * i) + valU (t.take (lead t + 1)) (i + 1)), _)
          rw [show b.toNat % 128 = b.toNat - 128 by omega, Nat.add_assoc]
    · have hb' : b.toNat < 128 := by simpa [more] using hb
      have e : lead (b :: t) = 0 := by rw [lead, if_neg hb]
      rw [e, List.getD_cons_zero, List.length_cons]
      by_cases h1 : i = 9 ∧ 1 < b.toNat
      · rw [if_pos h1, if_pos (by omega)]
      · rw [if_neg h1, if_pos hb']
        have hz : b = 0 ↔ b.toNat = 0 := ⟨fun h => by rw [h]; rfl, fun h => UInt8.toNat_inj.1 h⟩
        by_cases h2 : b.toNat = 0 ∧ 0 < i
        · rw [if_pos h2, if_pos (.inr (.inr (.inl ⟨by omega, hz.2 h2.1⟩)))]
        · rw [if_neg h2, if_neg (by rw [hz]; omega)]
          rw [List.take_succ_cons, List.take_zero]
          show _ = some (acc + (b.toNat % 128 * 2 ^ (7 * i) + 0), _)
          rw [Nat.mod_eq_of_lt hb']
          rfl
def rnumP (s : Bs) : Option (Int × Nat) := if 10 ≤ lead s ∨ lead s = s.length ∨ (0 < lead s ∧ s.getD (lead s) 0 = 0) then none else if lead s = 9 ∧ 1 < (s.getD 9 0).toNat then none else some (unzig (valU (s.take (lead s + 1)) 0), lead s + 1)
theorem rnum_eq (s : Bs) : rnumP s = readN s := by
  unfold rnumP readN
  rw [readU_lead s 0 0 (by omega), Nat.zero_add, Nat.zero_add]
  by_cases h1 : 10 ≤ lead s ∨ lead s = s.length ∨ (0 < lead s ∧ s.getD (lead s) 0 = 0)
  · rw [if_pos h1, if_pos (by
      rcases h1 with h | h | h
      · exact .inl h
      · exact .inr (.inl h)
      · exact .inr (.inr (.inl h)))]
    rfl
  · rw [if_neg h1]
    by_cases h2 : lead s = 9 ∧ 1 < (s.getD 9 0).toNat
    · rw [if_pos h2, if_pos (.inr (.inr (.inr ⟨h2.1, by rw [h2.1]; exact h2.2⟩)))]
      rfl
    · rw [if_neg h2, if_neg (by
        rintro (h | h | h | ⟨h, h'⟩)
        · exact h1 (.inl h)
        · exact h1 (.inr (.inl h))
        · exact h1 (.inr (.inr h))
        · exact h2 ⟨h, by rw [h] at h'; exact h'⟩)]
      rfl
theorem valU_snoc : ∀ (s : Bs) (b : UInt8) (i : Nat), valU (s ++ [b]) i = valU s i + b.toNat % 128 * 2 ^ (7 * (i + s.length))
  | [], b, i => by simp [valU]
  | a :: t, b, i => by
    show a.toNat % 128 * 2 ^ (7 * i) + valU (t ++ [b]) (i + 1) = (a.toNat % 128 * 2 ^ (7 * i) + valU t (i + 1)) + _
    rw [valU_snoc t b (i + 1), List.length_cons, show i + 1 + t.length = i + (t.length + 1) by omega, Nat.add_assoc]
theorem valU_le : ∀ (s : Bs) (i : Nat), valU s i + 2 ^ (7 * i) ≤ 2 ^ (7 * (i + s.length))
  | [], i => by simp [valU]
  | a :: t, i => by
    have ih := valU_le t (i + 1)
    have e : 2 ^ (7 * (i + 1)) = 128 * 2 ^ (7 * i) := by rw [show 7 * (i + 1) = 7 + 7 * i by omega, Nat.pow_add]
    rw [e] at ih
    rw [List.length_cons, show i + (t.length + 1) = i + 1 + t.length by omega]
    show a.toNat % 128 * 2 ^ (7 * i) + valU t (i + 1) + 2 ^ (7 * i) ≤ _
    have h1 : a.toNat % 128 * 2 ^ (7 * i) ≤ 127 * 2 ^ (7 * i) := Nat.mul_le_mul_right _ (by omega)
    omega
end Go.Proofs.YtlmnmjnmilaipaaGreatDoor
/- Layer 11, plainly: how the document finds a log. No program is named here. -/
set_option linter.unusedVariables false
set_option linter.unusedSimpArgs false
namespace Go.Proofs.YtlmnmjnmilaipaaGreatDoor.Rk
open Go

/-- A frame's number and text. -/
def numbP (s : Bs) : Option Ent := match readN s with
  | none => none
  | some (n, k) => if 0 ≤ n ∧ n ≤ 1099511627776 then some (n, s.drop k) else none
theorem parse_cons' (s : Bs) (t : List Bs) : parseP (s :: t) = (numbP s).bind fun x => (parseP t).map (x :: ·) := by
  conv => lhs; unfold parseP
  unfold numbP
  cases readN s with
  | none => rfl
  | some x =>
    obtain ⟨n, k⟩ := x
    dsimp only
    split
    · rfl
    · rfl
theorem parse_app : ∀ (a b : List Bs), parseP (a ++ b) = (parseP a).bind fun x => (parseP b).map (x ++ ·)
  | [], b => by
    show parseP b = (some ([] : List Ent)).bind _
    rw [Option.bind_some]
    cases parseP b <;> rfl
  | s :: t, b => by
    rw [List.cons_append, parse_cons', parse_cons', parse_app t b]
    cases numbP s with
    | none => rfl
    | some x =>
      cases parseP t with
      | none => rfl
      | some y =>
        cases parseP b with
        | none => rfl
        | some z => rfl
theorem parse_snoc' {l : List Bs} {es : List Ent} {s : Bs} (h : parseP l = some es) : parseP (l ++ [s]) = (numbP s).map fun x => es ++ [x] := by
  rw [parse_app, h, Option.bind_some, parse_cons']
  cases numbP s <;> rfl
theorem parse_none {a b : List Bs} (h : parseP a = none) : parseP (a ++ b) = none := by
  rw [parse_app, h]; rfl
theorem parse_more {a b : List Bs} {es : List Ent} (h : parseP a = some es) : parseP (a ++ b) = none ∨ ∃ fs, parseP (a ++ b) = some (es ++ fs) := by
  rw [parse_app, h, Option.bind_some]
  cases parseP b with
  | none => exact .inl rfl
  | some z => exact .inr ⟨z, rfl⟩
theorem ord_iff (q : Int) (x : Ent) (t : List Ent) : ordP q (x :: t) = true ↔ x.1 ≤ q + 1 ∧ ∀ i, i < (x :: t).length → ((x :: t).getD i (0, [])).1 = x.1 + i ∧ 1 ≤ ((x :: t).getD i (0, [])).1 := by
  unfold ordP
  simp only [Bool.and_eq_true, decide_eq_true_eq, List.all_eq_true, List.mem_range]
theorem getD_l {α : Type} (a b : List α) (d : α) (i : Nat) (h : i < a.length) : (a ++ b).getD i d = a.getD i d := by
  rw [List.getD_eq_getElem?_getD, List.getD_eq_getElem?_getD, List.getElem?_append_left h]
theorem getD_r {α : Type} (a : List α) (x d : α) : (a ++ [x]).getD a.length d = x := by
  rw [List.getD_eq_getElem?_getD, List.getElem?_append_right (Nat.le_refl _), Nat.sub_self]; rfl
theorem ord_pre {q : Int} {a b : List Ent} (h : ordP q (a ++ b) = true) : ordP q a = true := by
  cases a with
  | nil => rfl
  | cons x t =>
    rw [List.cons_append, ord_iff] at h
    rw [ord_iff]
    refine ⟨h.1, fun i hi => ?_⟩
    have := h.2 i (by rw [List.length_cons, List.length_append]; rw [List.length_cons] at hi; omega)
    rwa [← List.cons_append, getD_l _ _ _ _ hi] at this
theorem ord_one (q : Int) (x : Ent) : ordP q [x] = true ↔ 1 ≤ x.1 ∧ x.1 ≤ q + 1 := by
  rw [ord_iff]
  constructor
  · rintro ⟨h1, h2⟩
    exact ⟨(h2 0 (by simp)).2, h1⟩
  · rintro ⟨h1, h2⟩
    refine ⟨h2, fun i hi => ?_⟩
    obtain rfl : i = 0 := by simpa using hi
    exact ⟨by simp, h1⟩
theorem ord_snoc {q : Int} {y : Ent} {t : List Ent} (h : ordP q (y :: t) = true) (x : Ent) : ordP q ((y :: t) ++ [x]) = true ↔ x.1 = y.1 + ((y :: t).length : Nat) := by
  rw [ord_iff] at h
  have h1 := (h.2 0 (by simp)).2
  simp only [List.getD_cons_zero] at h1
  rw [List.cons_append, ord_iff]
  have hx : ((y :: (t ++ [x])).getD (t.length + 1) (0, [])) = x := by
    rw [List.getD_cons_succ]; exact getD_r _ _ _
  constructor
  · rintro ⟨_, h2⟩
    have := (h2 (t.length + 1) (by simp)).1
    rw [hx] at this
    rw [List.length_cons]; exact this
  · intro e
    refine ⟨h.1, fun i hi => ?_⟩
    by_cases hl : i < (y :: t).length
    · have := h.2 i hl
      rwa [← List.cons_append, getD_l _ _ _ _ hl]
    · have hi2 : i = t.length + 1 := by simp at hi hl; omega
      subst hi2
      rw [hx]
      rw [List.length_cons] at e
      exact ⟨e, by omega⟩
/-- What the loop of the document's log knows. -/
structure LogRel (q : Int) (l : List Bs) (k : Nat) (first : Int) (es : List Ent) : Prop where
  kl : k ≤ l.length
  parse : parseP (l.take k) = some es
  ord : ordP q es = true
  first : first = (es.head?.map (·.1)).getD 0
  len : es.length = k
theorem LogRel.zero (q : Int) (l : List Bs) : LogRel q l 0 0 [] := ⟨Nat.zero_le _, rfl, rfl, rfl, rfl⟩
theorem take_snoc' {l : List Bs} {k : Nat} (hk : k < l.length) : l.take (k + 1) = l.take k ++ [l.getD k []] := by
  rw [List.take_succ_eq_append_getElem hk, List.getD_eq_getElem?_getD, List.getElem?_eq_getElem hk]; rfl
theorem LogRel.no {q : Int} {l : List Bs} {k : Nat} {first : Int} {es : List Ent} (h : LogRel q l k first es) (hk : k < l.length) (hn : numbP (l.getD k []) = none) : parseP l = none := by
  have h1 : parseP (l.take (k + 1)) = none := by rw [take_snoc' hk, parse_snoc' h.parse, hn]; rfl
  have h2 := parse_none (b := l.drop (k + 1)) h1
  rwa [List.take_append_drop] at h2
/-- Is an entry's number right? -/
def fitsP (q : Int) (k : Nat) (first n : Int) : Prop := if k = 0 then 1 ≤ n ∧ n ≤ q + 1 else n = first + k
instance (q : Int) (k : Nat) (first n : Int) : Decidable (fitsP q k first n) := by unfold fitsP; infer_instance
theorem LogRel.fits {q : Int} {l : List Bs} {k : Nat} {first : Int} {es : List Ent} (h : LogRel q l k first es) (x : Ent) : ordP q (es ++ [x]) = true ↔ fitsP q k first x.1 := by
  have hl := h.len
  cases es with
  | nil =>
    have hk : k = 0 := by simpa using hl.symm
    rw [List.nil_append, ord_one]
    unfold fitsP
    rw [if_pos hk]
  | cons y t =>
    have hk : k ≠ 0 := by rw [← hl]; simp
    have hf := h.first
    rw [List.head?_cons, Option.map_some, Option.getD_some] at hf
    rw [ord_snoc h.ord]
    unfold fitsP
    rw [if_neg hk, hf, hl]
theorem LogRel.bad {q : Int} {l : List Bs} {k : Nat} {first : Int} {es : List Ent} (h : LogRel q l k first es) (hk : k < l.length) {x : Ent} (hn : numbP (l.getD k []) = some x) (hb : ¬ fitsP q k first x.1) : parseP l = none ∨ ∃ all, parseP l = some all ∧ ordP q all = false := by
  have h1 : parseP (l.take (k + 1)) = some (es ++ [x]) := by rw [take_snoc' hk, parse_snoc' h.parse, hn]; rfl
  have h2 := parse_more (b := l.drop (k + 1)) h1
  rw [List.take_append_drop] at h2
  rcases h2 with h2 | ⟨fs, h2⟩
  · exact .inl h2
  · refine .inr ⟨_, h2, ?_⟩
    by_cases ho : ordP q (es ++ [x] ++ fs) = true
    · exact absurd ((h.fits x).1 (ord_pre ho)) hb
    · simpa using ho
theorem LogRel.step {q : Int} {l : List Bs} {k : Nat} {first : Int} {es : List Ent} (h : LogRel q l k first es) (hk : k < l.length) {x : Ent} (hn : numbP (l.getD k []) = some x) (hb : fitsP q k first x.1) : LogRel q l (k + 1) (if k = 0 then x.1 else first) (es ++ [x]) := by
  have hl := h.len
  refine ⟨hk, by rw [take_snoc' hk, parse_snoc' h.parse, hn]; rfl, (h.fits x).2 hb, ?_, by simp [hl]⟩
  cases es with
  | nil =>
    have hk : k = 0 := by simpa using hl.symm
    rw [if_pos hk]; rfl
  | cons y t =>
    have hk : k ≠ 0 := by rw [← hl]; simp
    rw [if_neg hk]
    have hf := h.first
    exact hf
theorem LogRel.at {q : Int} {l : List Bs} {first : Int} {es : List Ent} (h : LogRel q l l.length first es) : parseP l = some es ∧ ordP q es = true := by
  have := h.parse
  rw [List.take_length] at this
  exact ⟨this, h.ord⟩
theorem logOf_no {q : Int} {s : Bs} (h : parseP (allP (s.length + 1) s).1 = none ∨ (allP (s.length + 1) s).2.2 = 31 ∨ ∃ all, parseP (allP (s.length + 1) s).1 = some all ∧ ordP q all = false) : logOf q s = none := by
  unfold logOf
  rcases h with h | h | ⟨all, h, h2⟩
  · rw [h]
  · rw [h]
    split
    · rfl
    · rw [if_pos rfl]
  · rw [h]
    dsimp only
    split
    · rfl
    · rw [h2]; rfl
theorem logOf_yes {q : Int} {s : Bs} {es : List Ent} (h : parseP (allP (s.length + 1) s).1 = some es) (h1 : (allP (s.length + 1) s).2.2 ≠ 31) (h2 : ordP q es = true) : logOf q s = some (es, (allP (s.length + 1) s).2.1, decide ((allP (s.length + 1) s).2.2 ≠ 0)) := by
  unfold logOf
  rw [h]
  dsimp only
  rw [if_neg h1, h2]
  rfl
/-- Numbers of entries that are in order. -/
theorem ord_at {q : Int} {es : List Ent} (h : ordP q es = true) (i : Nat) (hi : i < es.length) : (es.getD i ent0).1 = ((es.head?.map (·.1)).getD 0) + i := by
  cases es with
  | nil => simp at hi
  | cons y t =>
    rw [ord_iff] at h
    exact (h.2 i hi).1
theorem keep_snoc (q : Int) (l : List Ent) (x : Ent) : keepL q (l ++ [x]) = if q < x.1 then keepL q l ++ [x] else keepL q l := by
  unfold keepL
  rw [List.filter_append]
  by_cases h : q < x.1
  · rw [if_pos h, List.filter_cons_of_pos (by simpa using h)]; rfl
  · rw [if_neg h, List.filter_cons_of_neg (by simpa using h)]; simp
end Go.Proofs.YtlmnmjnmilaipaaGreatDoor.Rk

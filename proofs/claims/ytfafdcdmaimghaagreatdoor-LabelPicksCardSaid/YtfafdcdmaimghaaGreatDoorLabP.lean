/- Layer 4, plainly: texts cut at a byte; names, labels, terms, selectors; what the library's functions make of them. -/
import Derived.Lib.Split
import Derived.Lib.SplitLaws
import Derived.Lib.CutLaws
import Derived.Lib.SlTrimSet
import Derived.Lib.Strings
import Derived.Lib.SlicesCompact
set_option linter.unusedVariables false
set_option linter.unusedSimpArgs false
namespace Go.Proofs.YtfafdcdmaimghaaGreatDoor
open Go

abbrev Bs := List UInt8

/-! ### cutting -/
def splitC (c : UInt8) : Bs → List Bs
  | [] => [[]]
  | b :: t => if b = c then [] :: splitC c t else match splitC c t with
    | [] => [[b]]
    | h :: r => (b :: h) :: r
def cutE (c : UInt8) : Bs → Bs × Bs × Bool
  | [] => ([], [], false)
  | b :: t => if b = c then ([], t, true) else (b :: (cutE c t).1, (cutE c t).2.1, (cutE c t).2.2)
theorem splitC_ne (c : UInt8) (s : Bs) : splitC c s ≠ [] := by
  cases s with
  | nil => simp [splitC]
  | cons b t =>
    unfold splitC
    split
    · simp
    · split <;> simp
theorem index_one_cons (b c : UInt8) (t : Bs) : Lib.index (b :: t) [c] = if b = c then 0 else if Lib.index t [c] = -1 then -1 else Lib.index t [c] + 1 := by
  by_cases h : b = c
  · subst h; simp [Lib.index]
  · have h2 : (c == b) = false := by simpa using fun e : c = b => h e.symm
    rw [Lib.index, if_neg h]
    simp [h2, List.isPrefixOf]
theorem index_one_nil (c : UInt8) : Lib.index [] [c] = -1 := by unfold Lib.index; simp
theorem split_one (c : UInt8) : ∀ s : Bs, Lib.splitK [c] 0 (Lib.count s [c]) s = splitC c s
  | [] => by rw [Lib.count_miss (index_one_nil c)]; rfl
  | b :: t => by
    have ih := split_one c t
    by_cases h : b = c
    · subst h
      rw [Lib.count_cons_eq, Nat.add_comm]
      unfold splitC Lib.splitK
      have hi : Lib.index (b :: t) [b] = 0 := by rw [index_one_cons, if_pos rfl]
      rw [hi, if_neg (by decide), if_pos rfl, ← ih]
      rfl
    · rw [Lib.count_cons_ne _ _ _ h]
      unfold splitC
      rw [if_neg h, ← ih]
      cases hk : Lib.count t [c] with
      | zero => rfl
      | succ k =>
        have hn : Lib.index t [c] ≠ -1 := fun e => by rw [Lib.count_miss e] at hk; cases hk
        have hge := Lib.index_ge t [c]
        obtain ⟨i, hi⟩ : ∃ i : Nat, Lib.index t [c] = i := ⟨(Lib.index t [c]).toNat, by omega⟩
        have hi2 : Lib.index (b :: t) [c] = ((i + 1 : Nat) : Int) := by rw [index_one_cons, if_neg h, if_neg hn, hi]; rfl
        unfold Lib.splitK
        rw [hi2, hi, if_neg (by first | (simp; done) | (simp; omega)), if_neg (by first | (simp; done) | (simp; omega))]
        simp only [Int.toNat_natCast, Nat.add_zero, List.length_singleton, List.take_succ_cons, List.drop_succ_cons]
theorem cut_one (c : UInt8) : ∀ s : Bs, Lib.cut s [c] = cutE c s
  | [] => by unfold Lib.cut; rw [index_one_nil, if_neg (by decide)]; rfl
  | b :: t => by
    have ih := cut_one c t
    unfold cutE
    by_cases h : b = c
    · subst h
      unfold Lib.cut
      rw [index_one_cons, if_pos rfl, if_pos (by decide), if_pos rfl]
      rfl
    · rw [if_neg h, ← ih]
      unfold Lib.cut
      rw [index_one_cons, if_neg h]
      have hge := Lib.index_ge t [c]
      by_cases hn : Lib.index t [c] = -1
      · rw [if_pos hn, hn, if_neg (by decide), if_neg (by decide)]
      · obtain ⟨i, hi⟩ : ∃ i : Nat, Lib.index t [c] = i := ⟨(Lib.index t [c]).toNat, by omega⟩
        rw [if_neg hn, hi, if_pos (by omega), if_pos (by omega)]
        have e : ((i : Int) + 1).toNat = i + 1 := by omega
        rw [e]
        simp only [Int.toNat_natCast, List.length_singleton, List.take_succ_cons]
        rw [show i + 1 + 1 = (i + 1) + 1 from rfl, List.drop_succ_cons]
theorem cutE_len (c : UInt8) : ∀ s : Bs, (cutE c s).1.length ≤ s.length ∧ (cutE c s).2.1.length ≤ s.length
  | [] => ⟨Nat.le_refl _, Nat.le_refl _⟩
  | b :: t => by
    have ih := cutE_len c t
    unfold cutE
    split
    · simp
    · simp; omega
theorem splitC_len (c : UInt8) : ∀ s : Bs, ∀ p ∈ splitC c s, p.length ≤ s.length
  | [] => by simp [splitC]
  | b :: t => by
    have ih := splitC_len c t
    intro p hp
    unfold splitC at hp
    split at hp
    · rcases List.mem_cons.1 hp with rfl | hp
      · simp
      · have := ih p hp; simp; omega
    · split at hp
      · rw [List.mem_singleton.1 hp]; simp
      · rename_i h r e
        rw [e] at ih
        rcases List.mem_cons.1 hp with rfl | hp
        · have := ih h List.mem_cons_self; simp; omega
        · have := ih p (List.mem_cons_of_mem _ hp); simp; omega
theorem splitC_count (c : UInt8) : ∀ s : Bs, (splitC c s).length ≤ s.length + 1
  | [] => by simp [splitC]
  | b :: t => by
    have ih := splitC_count c t
    unfold splitC
    split
    · simp; omega
    · split
      · simp
      · rename_i h r e
        rw [e] at ih
        simp at ih ⊢; omega
/-- A text without the byte is one piece; pieces joined are the text. -/
def joinC (c : UInt8) : List Bs → Bs
  | [] => []
  | [p] => p
  | p :: q :: r => p ++ c :: joinC c (q :: r)
theorem splitC_none (c : UInt8) : ∀ s : Bs, c ∉ s → splitC c s = [s]
  | [], _ => rfl
  | b :: t, h => by
    have h1 : b ≠ c := fun e => h (by rw [e]; exact List.mem_cons_self)
    have h2 : c ∉ t := fun e => h (List.mem_cons_of_mem _ e)
    unfold splitC
    rw [if_neg h1, splitC_none c t h2]
theorem splitC_app (c : UInt8) : ∀ (p s : Bs), c ∉ p → splitC c (p ++ c :: s) = p :: splitC c s
  | [], s, _ => by show splitC c (c :: s) = _; rw [splitC, if_pos rfl]
  | b :: t, s, h => by
    have h1 : b ≠ c := fun e => h (by rw [e]; exact List.mem_cons_self)
    have h2 : c ∉ t := fun e => h (List.mem_cons_of_mem _ e)
    show splitC c (b :: (t ++ c :: s)) = _
    rw [splitC, if_neg h1, splitC_app c t s h2]
theorem splitC_join (c : UInt8) : ∀ l : List Bs, l ≠ [] → (∀ p ∈ l, c ∉ p) → splitC c (joinC c l) = l
  | [], h, _ => absurd rfl h
  | [p], _, h => splitC_none c p (h p List.mem_cons_self)
  | p :: q :: r, _, h => by
    show splitC c (p ++ c :: joinC c (q :: r)) = _
    rw [splitC_app c p _ (h p List.mem_cons_self), splitC_join c (q :: r) (by simp) (fun x hx => h x (List.mem_cons_of_mem _ hx))]
theorem splitC_free (c : UInt8) : ∀ s : Bs, ∀ p ∈ splitC c s, c ∉ p
  | [] => by simp [splitC]
  | b :: t => by
    have ih := splitC_free c t
    intro p hp
    unfold splitC at hp
    split at hp
    · rcases List.mem_cons.1 hp with rfl | hp
      · simp
      · exact ih p hp
    · rename_i hb
      split at hp
      · rename_i e; exact absurd e (splitC_ne c t)
      · rename_i h r e
        rw [e] at ih
        rcases List.mem_cons.1 hp with rfl | hp
        · intro hc
          rcases List.mem_cons.1 hc with hc | hc
          · exact hb hc.symm
          · exact ih h List.mem_cons_self hc
        · exact ih p (List.mem_cons_of_mem _ hp)
theorem join_splitC (c : UInt8) : ∀ s : Bs, joinC c (splitC c s) = s
  | [] => rfl
  | b :: t => by
    have ih := join_splitC c t
    unfold splitC
    split
    · rename_i hb
      subst hb
      cases e : splitC b t with
      | nil => exact absurd e (splitC_ne b t)
      | cons h r => rw [e] at ih; show [] ++ b :: joinC b (h :: r) = _; rw [ih]; rfl
    · split
      · rename_i e; exact absurd e (splitC_ne c t)
      · rename_i h r e
        rw [e] at ih
        cases r with
        | nil => show b :: h = _; rw [show h = t from ih]
        | cons q r => show b :: (h ++ c :: joinC c (q :: r)) = _; rw [show h ++ c :: joinC c (q :: r) = t from ih]

/-! ### names -/
def isLet (b : UInt8) : Bool := (decide (97 ≤ b) && decide (b ≤ 122)) || (decide (48 ≤ b) && decide (b ≤ 57))
def isNm (l : Bs) : Bool := !l.isEmpty && decide (l.length ≤ 12) && l.all isLet
def letters : Bs := [97, 98, 99, 100, 101, 102, 103, 104, 105, 106, 107, 108, 109, 110, 111, 112, 113, 114, 115, 116, 117, 118, 119, 120, 121, 122, 48, 49, 50, 51, 52, 53, 54, 55, 56, 57]
theorem letters_all : ∀ n : Nat, n < 256 → letters.contains (UInt8.ofNat n) = isLet (UInt8.ofNat n) := by decide +kernel
theorem letters_isLet (b : UInt8) : letters.contains b = isLet b := by
  have h := letters_all b.toNat b.toNat_lt
  rwa [UInt8.ofNat_toNat] at h
theorem dropWhile_nil {p : UInt8 → Bool} : ∀ {l : Bs}, l.dropWhile p = [] ↔ l.all p = true
  | [] => by simp
  | b :: t => by
    rw [List.dropWhile_cons, List.all_cons]
    cases h : p b
    · simp
    · simp [dropWhile_nil (l := t)]
theorem trimS_nil (l : Bs) : Lib.trimS l letters = [] ↔ l.all isLet = true := by
  have e : (letters.contains ·) = isLet := funext letters_isLet
  unfold Lib.trimS Lib.trimLeftS Lib.trimRightS
  rw [e, dropWhile_nil]
  constructor
  · intro h
    rw [List.all_reverse] at h
    have h2 : (l.reverse.dropWhile isLet) = [] := by
      cases hd : l.reverse.dropWhile isLet with
      | nil => rfl
      | cons b t =>
        have h3 : isLet b = false := by
          have := List.head_dropWhile_not (p := isLet) (l := l.reverse) (by rw [hd]; simp)
          simpa [hd] using this
        rw [hd, List.all_cons, h3] at h
        cases h
    rw [dropWhile_nil, List.all_reverse] at h2
    exact h2
  · intro h
    rw [List.all_reverse]
    rw [← List.all_reverse, ← dropWhile_nil] at h
    rw [h]
    rfl
end Go.Proofs.YtfafdcdmaimghaaGreatDoor

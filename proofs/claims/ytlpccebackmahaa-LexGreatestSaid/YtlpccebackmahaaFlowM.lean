/- Flows in networks, plainly. No program is named here. -/
import Derived.Test.YtlpccebackmahaaMapW
set_option linter.unusedVariables false
set_option linter.unusedSimpArgs false
namespace Go.Proofs.Ytlpccebackmahaa

/-- An edge: from, to, cap. -/
structure Ed where
  f : Int
  t : Int
  c : Int
deriving DecidableEq, Inhabited

/-- Sums over the pairs of an edge and what flows by it. -/
def lsum {α : Type} (L : List α) (g : α → Int) : Int := (L.map g).sum
section
variable {α : Type}
@[simp] theorem lsum_nil (g : α → Int) : lsum [] g = 0 := rfl
@[simp] theorem lsum_cons (a : α) (L : List α) (g : α → Int) : lsum (a :: L) g = g a + lsum L g := by simp [lsum]
theorem lsum_append (L M : List α) (g : α → Int) : lsum (L ++ M) g = lsum L g + lsum M g := by
  induction L with
  | nil => simp
  | cons a L ih => simp [ih]; omega
theorem lsum_congr {L : List α} {g h : α → Int} (e : ∀ a ∈ L, g a = h a) : lsum L g = lsum L h := by
  induction L with
  | nil => rfl
  | cons a L ih =>
    rw [lsum_cons, lsum_cons, e a List.mem_cons_self, ih (fun b hb => e b (List.mem_cons_of_mem _ hb))]
theorem lsum_le {L : List α} {g h : α → Int} (e : ∀ a ∈ L, g a ≤ h a) : lsum L g ≤ lsum L h := by
  induction L with
  | nil => exact Int.le_refl _
  | cons a L ih =>
    have h1 := e a List.mem_cons_self
    have h2 := ih (fun b hb => e b (List.mem_cons_of_mem _ hb))
    rw [lsum_cons, lsum_cons]
    omega
theorem lsum_add (L : List α) (g h : α → Int) : lsum L (fun a => g a + h a) = lsum L g + lsum L h := by
  induction L with
  | nil => rfl
  | cons a L ih => simp only [lsum_cons, ih]; omega
theorem lsum_sub (L : List α) (g h : α → Int) : lsum L (fun a => g a - h a) = lsum L g - lsum L h := by
  induction L with
  | nil => rfl
  | cons a L ih => simp only [lsum_cons, ih]; omega
theorem lsum_zero {L : List α} {g : α → Int} (e : ∀ a ∈ L, g a = 0) : lsum L g = 0 := by
  rw [lsum_congr e]
  induction L with
  | nil => rfl
  | cons a L ih => simp [ih (fun b hb => e b (List.mem_cons_of_mem _ hb))]
theorem lsum_swap {β : Type} (L : List α) (M : List β) (g : α → β → Int) : lsum L (fun a => lsum M (g a)) = lsum M (fun b => lsum L (fun a => g a b)) := by
  induction L with
  | nil => rw [lsum_nil]; exact (lsum_zero fun _ _ => rfl).symm
  | cons a L ih =>
    rw [lsum_cons, ih, ← lsum_add]
    rfl
theorem lsum_nonneg {L : List α} {g : α → Int} (e : ∀ a ∈ L, 0 ≤ g a) : 0 ≤ lsum L g := by
  have := lsum_le e
  rw [lsum_zero (fun _ _ => rfl)] at this
  exact this
end

/-- The vertices. -/
def verts (N : Nat) : List Int := (List.range N).map fun v : Nat => (v : Int)
theorem mem_verts {N : Nat} {v : Int} : v ∈ verts N ↔ 0 ≤ v ∧ v < N := by
  unfold verts
  rw [List.mem_map]
  constructor
  · rintro ⟨k, hk, rfl⟩
    have := List.mem_range.1 hk
    omega
  · rintro ⟨h1, h2⟩
    exact ⟨v.toNat, List.mem_range.2 (by omega), by omega⟩
theorem lsum_one (N : Nat) (u : Int) (h : 0 ≤ u ∧ u < N) (g : Int → Int) : lsum (verts N) (fun v => if u = v then g v else 0) = g u := by
  unfold verts
  induction N with
  | zero => omega
  | succ N ih =>
    rw [List.range_succ, List.map_append, lsum_append]
    by_cases e : u = (N : Int)
    · have h0 : lsum (List.map (fun v : Nat => (v : Int)) (List.range N)) (fun v => if u = v then g v else 0) = 0 := by
        refine lsum_zero fun v hv => ?_
        rw [List.mem_map] at hv
        obtain ⟨k, hk, rfl⟩ := hv
        have := List.mem_range.1 hk
        rw [if_neg (by omega)]
      rw [h0]
      simp [e]
    · rw [ih (by omega)]
      simp [e]

/-- What flows by the edges of a network. -/
abbrev Fw := List (Ed × Int)
/-- How much leaves a vertex, less what comes in. -/
def outF (L : Fw) (v : Int) : Int := lsum L fun p => (if p.1.f = v then p.2 else 0) - (if p.1.t = v then p.2 else 0)
/-- The edges' ends are vertices. -/
def Within (N : Nat) (L : Fw) : Prop := ∀ p ∈ L, (0 ≤ p.1.f ∧ p.1.f < N) ∧ (0 ≤ p.1.t ∧ p.1.t < N)
def ind (b : Bool) : Int := if b then 1 else 0
theorem cut_flow {N : Nat} {L : Fw} (h : Within N L) (S : Int → Bool) : lsum (verts N) (fun v => if S v then outF L v else 0) = lsum L (fun p => (if S p.1.f then p.2 else 0) - (if S p.1.t then p.2 else 0)) := by
  have e1 : lsum (verts N) (fun v => if S v then outF L v else 0) = lsum (verts N) (fun v => lsum L fun p => (if p.1.f = v then (if S v then p.2 else 0) else 0) - (if p.1.t = v then (if S v then p.2 else 0) else 0)) := by
    refine lsum_congr fun v _ => ?_
    by_cases hS : S v
    · rw [if_pos hS]
      refine lsum_congr fun p _ => ?_
      simp [hS]
    · rw [if_neg hS]
      refine (lsum_zero fun p _ => ?_).symm
      simp [hS]
  rw [e1, lsum_swap]
  refine lsum_congr fun p hp => ?_
  rw [lsum_sub]
  obtain ⟨h1, h2⟩ := h p hp
  rw [lsum_one N p.1.f h1 (fun v => if S v then p.2 else 0), lsum_one N p.1.t h2 (fun v => if S v then p.2 else 0)]

/-- A flow from s to t that may be. -/
structure GoodF (N : Nat) (L : Fw) (s t : Int) : Prop where
  within : Within N L
  low : ∀ p ∈ L, 0 ≤ p.2
  high : ∀ p ∈ L, p.2 ≤ p.1.c
  bal : ∀ v : Int, 0 ≤ v → v < N → v ≠ s → v ≠ t → outF L v = 0
/-- The value is what goes over a cut, less what comes back. -/
theorem value_cut {N : Nat} {L : Fw} {s t : Int} (h : GoodF N L s t) (hs : 0 ≤ s ∧ s < N) (S : Int → Bool) (h1 : S s = true) (h2 : S t = false) :
    outF L s = lsum L (fun p => (if S p.1.f then p.2 else 0) - (if S p.1.t then p.2 else 0)) := by
  rw [← cut_flow h.within S]
  have : lsum (verts N) (fun v => if S v then outF L v else 0) = lsum (verts N) (fun v => if s = v then outF L v else 0) := by
    refine lsum_congr fun v hv => ?_
    obtain ⟨v1, v2⟩ := mem_verts.1 hv
    by_cases e : s = v
    · subst e; simp [h1]
    · by_cases e2 : v = t
      · subst e2; simp [h2, e]
      · rw [h.bal v v1 v2 (fun e3 => e e3.symm) e2]
        simp
  rw [this, lsum_one N s hs (outF L)]
/-- What the edges that leave a side may bear. -/
def cutF (L : Fw) (S : Int → Bool) : Int := lsum L fun p => if S p.1.f = true ∧ S p.1.t = false then p.1.c else 0
theorem value_le_cut {N : Nat} {L : Fw} {s t : Int} (h : GoodF N L s t) (hs : 0 ≤ s ∧ s < N) (S : Int → Bool) (h1 : S s = true) (h2 : S t = false) : outF L s ≤ cutF L S := by
  rw [value_cut h hs S h1 h2]
  refine lsum_le fun p hp => ?_
  have a := h.low p hp
  have b := h.high p hp
  cases e1 : S p.1.f <;> cases e2 : S p.1.t <;> simp <;> omega
/-- No way is left: the side that can be come to is a least cut. -/
theorem value_eq_cut {N : Nat} {L : Fw} {s t : Int} (h : GoodF N L s t) (hs : 0 ≤ s ∧ s < N) (S : Int → Bool) (h1 : S s = true) (h2 : S t = false)
    (hout : ∀ p ∈ L, S p.1.f = true → S p.1.t = false → p.2 = p.1.c) (hin : ∀ p ∈ L, S p.1.t = true → S p.1.f = false → p.2 = 0) : outF L s = cutF L S := by
  rw [value_cut h hs S h1 h2]
  refine lsum_congr fun p hp => ?_
  have a := hout p hp
  have b := hin p hp
  cases e1 : S p.1.f <;> cases e2 : S p.1.t <;> simp [e1, e2] at a b ⊢ <;> omega
end Go.Proofs.Ytlpccebackmahaa

/- Flows in networks, plainly. No program is named here. -/
import Derived.Test.YtlpccebackmahaaMapW
set_option linter.unusedVariables false
set_option linter.unusedSimpArgs false
namespace Go.Proofs.Ytlpccebackmahaa

/-- An edge: from, to, cap. -/
structure Ed where
  f : Int
  t : Int
  c : Int
deriving DecidableEq, Inhabited

/-- Sums over the pairs of an edge and what flows by it. -/
def lsum {α : Type} (L : List α) (g : α → Int) : Int := (L.map g).sum
section
variable {α : Type}
@[simp] theorem lsum_nil (g : α → Int) : lsum [] g = 0 := rfl
@[simp] theorem lsum_cons (a : α) (L : List α) (g : α → Int) : lsum (a :: L) g = g a + lsum L g := by simp [lsum]
theorem lsum_append (L M : List α) (g : α → Int) : lsum (L ++ M) g = lsum L g + lsum M g := by
  induction L with
  | nil => simp
  | cons a L ih => simp [ih]; omega
theorem lsum_congr {L : List α} {g h : α → Int} (e : ∀ a ∈ L, g a = h a) : lsum L g = lsum L h := by
  induction L with
  | nil => rfl
  | cons a L ih =>
    rw [lsum_cons, lsum_cons, e a List.mem_cons_self, ih (fun b hb => e b (List.mem_cons_of_mem _ hb))]
theorem lsum_le {L : List α} {g h : α → Int} (e : ∀ a ∈ L, g a ≤ h a) : lsum L g ≤ lsum L h := by
  induction L with
  | nil => exact Int.le_refl _
  | cons a L ih =>
    have h1 := e a List.mem_cons_self
    have h2 := ih (fun b hb => e b (List.mem_cons_of_mem _ hb))
    rw [lsum_cons, lsum_cons]
    omega
theorem lsum_add (L : List α) (g h : α → Int) : lsum L (fun a => g a + h a) = lsum L g + lsum L h := by
  induction L with
  | nil => rfl
  | cons a L ih => simp only [lsum_cons, ih]; omega
theorem lsum_sub (L : List α) (g h : α → Int) : lsum L (fun a => g a - h a) = lsum L g - lsum L h := by
  induction L with
  | nil => rfl
  | cons a L ih => simp only [lsum_cons, ih]; omega
theorem lsum_zero {L : List α} {g : α → Int} (e : ∀ a ∈ L, g a = 0) : lsum L g = 0 := by
  rw [lsum_congr e]
  induction L with
  | nil => rfl
  | cons a L ih => simp [ih (fun b hb => e b (List.mem_cons_of_mem _ hb))]
theorem lsum_swap {β : Type} (L : List α) (M : List β) (g : α → β → Int) : lsum L (fun a => lsum M (g a)) = lsum M (fun b => lsum L (fun a => g a b)) := by
  induction L with
  | nil => rw [lsum_nil]; exact (lsum_zero fun _ _ => rfl).symm
  | cons a L ih =>
    rw [lsum_cons, ih, ← lsum_add]
    rfl
theorem lsum_nonneg {L : List α} {g : α → Int} (e : ∀ a ∈ L, 0 ≤ g a) : 0 ≤ lsum L g := by
  have := lsum_le e
  rw [lsum_zero (fun _ _ => rfl)] at this
  exact this
end

/-- The vertices. -/
def verts (N : Nat) : List Int := (List.range N).map fun v : Nat => (v : Int)
theorem mem_verts {N : Nat} {v : Int} : v ∈ verts N ↔ 0 ≤ v ∧ v < N := by
  unfold verts
  rw [List.mem_map]
  constructor
  · rintro ⟨k, hk, rfl⟩
    have := List.mem_range.1 hk
    omega
  · rintro ⟨h1, h2⟩
    exact ⟨v.toNat, List.mem_range.2 (by omega), by omega⟩
theorem lsum_one (N : Nat) (u : Int) (h : 0 ≤ u ∧ u < N) (g : Int → Int) : lsum (verts N) (fun v => if u = v then g v else 0) = g u := by
  unfold verts
  induction N with
  | zero => omega
  | succ N ih =>
    rw [List.range_succ, List.map_append, lsum_append]
    by_cases e : u = (N : Int)
    · have h0 : lsum (List.map (fun v : Nat => (v : Int)) (List.range N)) (fun v => if u = v then g v else 0) = 0 := by
        refine lsum_zero fun v hv => ?_
        rw [List.mem_map] at hv
        obtain ⟨k, hk, rfl⟩ := hv
        have := List.mem_range.1 hk
        rw [if_neg (by omega)]
      rw [h0]
      simp [e]
    · rw [ih (by omega)]
      simp [e]

/-- What flows by the edges of a network. -/
abbrev Fw := List (Ed × Int)
/-- How much leaves a vertex, less what comes in. -/
def outF (L : Fw) (v : Int) : Int := lsum L fun p => (if p.1.f = v then p.2 else 0) - (if p.1.t = v then p.2 else 0)
/-- The edges' ends are vertices. -/
def Within (N : Nat) (L : Fw) : Prop := ∀ p ∈ L, (0 ≤ p.1.f ∧ p.1.f < N) ∧ (0 ≤ p.1.t ∧ p.1.t < N)
def ind (b : Bool) : Int := if b then 1 else 0
theorem cut_flow {N : Nat} {L : Fw} (h : Within N L) (S : Int → Bool) : lsum (verts N) (fun v => if S v then outF L v else 0) = lsum L (fun p => (if S p.1.f then p.2 else 0) - (if S p.1.t then p.2 else 0)) := by
  have e1 : lsum (verts N) (fun v => if S v then outF L v else 0) = lsum (verts N) (fun v => lsum L fun p => (if p.1.f = v then (if S v then p.2 else 0) else 0) - (if p.1.t = v then (if S v then p.2 else 0) else 0)) := by
    refine lsum_congr fun v _ => ?_
    by_cases hS : S v
    · rw [if_pos hS]
      refine lsum_congr fun p _ => ?_
      simp [hS]
    · rw [if_neg hS]
      refine (lsum_zero fun p _ => ?_).symm
      simp [hS]
  rw [e1, lsum_swap]
  refine lsum_congr fun p hp => ?_
  rw [lsum_sub]
  obtain ⟨h1, h2⟩ := h p hp
  rw [lsum_one N p.1.f h1 (fun v => if S v then p.2 else 0), lsum_one N p.1.t h2 (fun v => if S v then p.2 else 0)]

/-- A flow from s to t that may be. -/
structure GoodF (N : Nat) (L : Fw) (s t : Int) : Prop where
  within : Within N L
  low : ∀ p ∈ L, 0 ≤ p.2
  high : ∀ p ∈ L, p.2 ≤ p.1.c
  bal : ∀ v : Int, 0 ≤ v → v < N → v ≠ s → v ≠ t → outF L v = 0
/-- The value is what goes over a cut, less what comes back. -/
theorem value_cut {N : Nat} {L : Fw} {s t : Int} (h : GoodF N L s t) (hs : 0 ≤ s ∧ s < N) (S : Int → Bool) (h1 : S s = true) (h2 : S t = false) :
    outF L s = lsum L (fun p => (if S p.1.f then p.2 else 0) - (if S p.1.t then p.2 else 0)) := by
  rw [← cut_flow h.within S]
  have : lsum (verts N) (fun v => if S v then outF L v else 0) = lsum (verts N) (fun v => if s = v then outF L v else 0) := by
    refine lsum_congr fun v hv => ?_
    obtain ⟨v1, v2⟩ := mem_verts.1 hv
    by_cases e : s = v
    · subst e; simp [h1]
    · by_cases e2 : v = t
      · subst e2; simp [h2, e]
      · rw [h.bal v v1 v2 (fun e3 => e e3.symm) e2]
        simp
  rw [this, lsum_one N s hs (outF L)]
/-- What the edges that leave a side may bear. -/
def cutF (L : Fw) (S : Int → Bool) : Int := lsum L fun p => if S p.1.f = true ∧ S p.1.t = false then p.1.c else 0
theorem value_le_cut {N : Nat} {L : Fw} {s t : Int} (h : GoodF N L s t) (hs : 0 ≤ s ∧ s < N) (S : Int → Bool) (h1 : S s = true) (h2 : S t = false) : outF L s ≤ cutF L S := by
  rw [value_cut h hs S h1 h2]
  refine lsum_le fun p hp => ?_
  have a := h.low p hp
  have b := h.high p hp
  cases e1 : S p.1.f <;> cases e2 : S p.1.t <;> simp <;> omega
/-- No way is left: the side that can be come to is a least cut. -/
theorem value_eq_cut {N : Nat} {L : Fw} {s t : Int} (h : GoodF N L s t) (hs : 0 ≤ s ∧ s < N) (S : Int → Bool) (h1 : S s = true) (h2 : S t = false)
    (hout : ∀ p ∈ L, S p.1.f = true → S p.1.t = false → p.2 = p.1.c) (hin : ∀ p ∈ L, S p.1.t = true → S p.1.f = false → p.2 = 0) : outF L s = cutF L S := by
  rw [value_cut h hs S h1 h2]
  refine lsum_congr fun p hp => ?_
  have a := hout p hp
  have b := hin p hp
  cases e1 : S p.1.f <;> cases e2 : S p.1.t <;> simp [e1, e2] at a b ⊢ <;> omega
end Go.Proofs.Ytlpccebackmahaa
/- Going through a network breadth first, plainly; ways; flow along a way. -/
set_option linter.unusedVariables false
set_option linter.unusedSimpArgs false
namespace Go.Proofs.Ytlpccebackmahaa

/-- What flows through sources of a set A is not more than the cut in which these sources alone are open. -/
theorem part_le_cut {N : Nat} {T : List ((Ed × Int) × Bool)} {s t : Int} (h : GoodF N (T.map (·.1)) s t) (hs : 0 ≤ s ∧ s < N) (hin : ∀ p ∈ T, p.1.1.t = s → p.1.2 = 0) (S : Int → Bool) (h1 : S s = true) (h2 : S t = false) :
    lsum T (fun p => if p.1.1.f = s ∧ p.2 = true then p.1.2 else 0) ≤ lsum T (fun p => if S p.1.1.f = true ∧ S p.1.1.t = false then (if p.1.1.f = s ∧ p.2 = false then 0 else p.1.1.c) else 0) := by
  have hv := value_cut h hs S h1 h2
  have e1 : outF (T.map (·.1)) s = lsum T (fun p => if p.1.1.f = s then p.1.2 else 0) := by
    unfold outF lsum
    rw [List.map_map]
    refine congrArg List.sum (List.map_congr_left fun p hp => ?_)
    show (if p.1.1.f = s then p.1.2 else 0) - (if p.1.1.t = s then p.1.2 else 0) = _
    by_cases e : p.1.1.t = s
    · rw [hin p hp e]; simp
    · simp [e]
  have e2 : lsum (T.map (·.1)) (fun p => (if S p.1.f then p.2 else 0) - (if S p.1.t then p.2 else 0)) = lsum T (fun p => (if S p.1.1.f then p.1.2 else 0) - (if S p.1.1.t then p.1.2 else 0)) := by
    unfold lsum
    rw [List.map_map]
    rfl
  rw [e1, e2] at hv
  have e3 : lsum T (fun p => if p.1.1.f = s ∧ p.2 = true then p.1.2 else 0) = lsum T (fun p => ((if p.1.1.f = s ∧ p.2 = true then p.1.2 else 0) + ((if S p.1.1.f then p.1.2 else 0) - (if S p.1.1.t then p.1.2 else 0))) - (if p.1.1.f = s then p.1.2 else 0)) := by
    rw [lsum_sub, lsum_add, ← hv]
    omega
  rw [e3]
  refine lsum_le fun p hp => ?_
  have a := h.low p.1 (List.mem_map.2 ⟨p, hp, rfl⟩)
  have b := h.high p.1 (List.mem_map.2 ⟨p, hp, rfl⟩)
  by_cases e : p.1.1.f = s
  · rw [e, h1]
    cases e1 : p.2 <;> cases e2 : S p.1.1.t <;> simp <;> omega
  · cases e0 : S p.1.1.f <;> cases e1 : p.2 <;> cases e2 : S p.1.1.t <;> simp [e] <;> omega

/-- Can one go from u by edge i, and to where: with it, or against it? -/
def dir (E : List Ed) (fl : List Int) (u : Int) (i : Nat) : Option (Int × Bool) :=
  if (E.getD i default).f = u ∧ fl.getD i 0 < (E.getD i default).c then some ((E.getD i default).t, false)
  else if (E.getD i default).t = u ∧ 0 < fl.getD i 0 then some ((E.getD i default).f, true) else none
/-- How a vertex was come to. -/
abbrev St := Int × (Int × (Nat × Bool))
def see (E : List Ed) (fl : List Int) (u : Int) (bs : List St) (i : Nat) : List St :=
  match dir E fl u i with
  | some (to, ag) => if to ∈ bs.map (·.1) then bs else bs ++ [(to, (u, i, ag))]
  | none => bs
def scan (E : List Ed) (fl : List Int) (u : Int) (bs : List St) (n : Nat) : List St := (List.range n).foldl (see E fl u) bs
theorem scan_succ (E : List Ed) (fl : List Int) (u : Int) (bs : List St) (n : Nat) : scan E fl u bs (n + 1) = see E fl u (scan E fl u bs n) n := by
  unfold scan
  rw [List.range_succ, List.foldl_append]
  rfl
/-- What is seen behind k rounds. -/
def bfs (E : List Ed) (fl : List Int) (s : Int) : Nat → List St
  | 0 => [(s, (0, 0, false))]
  | k + 1 => match (bfs E fl s k)[k]? with
    | some p => scan E fl p.1 (bfs E fl s k) E.length
    | none => bfs E fl s k

structure BInv (E : List Ed) (fl : List Int) (s : Int) (k : Nat) (bs : List St) : Prop where
  head : ∃ r, bs = (s, (0, 0, false)) :: r
  nodup : (bs.map (·.1)).Nodup
  come : ∀ j v u i ag, bs[j + 1]? = some (v, (u, i, ag)) → i < E.length ∧ dir E fl u i = some (v, ag) ∧ ∃ j', j' ≤ j ∧ (bs[j']?).map (·.1) = some u
  shut : ∀ j, j < k → ∀ u, (bs[j]?).map (·.1) = some u → ∀ i, i < E.length → ∀ v ag, dir E fl u i = some (v, ag) → v ∈ bs.map (·.1)
theorem see_prefix (E : List Ed) (fl : List Int) (u : Int) (bs : List St) (i : Nat) : ∃ r, see E fl u bs i = bs ++ r := by
  unfold see
  split
  · split
    · exact ⟨[], by simp⟩
    · exact ⟨_, rfl⟩
  · exact ⟨[], by simp⟩
theorem scan_prefix (E : List Ed) (fl : List Int) (u : Int) (bs : List St) (n : Nat) : ∃ r, scan E fl u bs n = bs ++ r := by
  induction n with
  | zero => exact ⟨[], by simp [scan]⟩
  | succ n ih =>
    obtain ⟨r, hr⟩ := ih
    rw [scan_succ]
    obtain ⟨r2, h2⟩ := see_prefix E fl u (scan E fl u bs n) n
    exact ⟨r ++ r2, by rw [h2, hr, List.append_assoc]⟩
theorem bfs_some {E : List Ed} {fl : List Int} {s : Int} {k : Nat} {p : St} (h : (bfs E fl s k)[k]? = some p) : bfs E fl s (k + 1) = scan E fl p.1 (bfs E fl s k) E.length := by
  show (match (bfs E fl s k)[k]? with | some p => _ | none => _) = _
  rw [h]
theorem bfs_none {E : List Ed} {fl : List Int} {s : Int} {k : Nat} (h : (bfs E fl s k)[k]? = none) : bfs E fl s (k + 1) = bfs E fl s k := by
  show (match (bfs E fl s k)[k]? with | some p => _ | none => _) = _
  rw [h]
theorem bfs_prefix (E : List Ed) (fl : List Int) (s : Int) (k : Nat) : ∃ r, bfs E fl s (k + 1) = bfs E fl s k ++ r := by
  cases h : (bfs E fl s k)[k]? with
  | none => exact ⟨[], by rw [bfs_none h]; simp⟩
  | some p => rw [bfs_some h]; exact scan_prefix ..
theorem see_mem {E : List Ed} {fl : List Int} {u v : Int} {bs : List St} {i : Nat} {ag : Bool} (h : dir E fl u i = some (v, ag)) : v ∈ (see E fl u bs i).map (·.1) := by
  unfold see
  rw [h]
  simp only
  split
  · assumption
  · simp
/-- In the middle of a round: the vertex at place j is gone through, up to edge n. -/
structure SInv (E : List Ed) (fl : List Int) (s : Int) (j : Nat) (u : Int) (n : Nat) (bs : List St) : Prop where
  head : ∃ r, bs = (s, (0, 0, false)) :: r
  nodup : (bs.map (·.1)).Nodup
  come : ∀ j v u i ag, bs[j + 1]? = some (v, (u, i, ag)) → i < E.length ∧ dir E fl u i = some (v, ag) ∧ ∃ j', j' ≤ j ∧ (bs[j']?).map (·.1) = some u
  shut : ∀ j', j' < j → ∀ u, (bs[j']?).map (·.1) = some u → ∀ i, i < E.length → ∀ v ag, dir E fl u i = some (v, ag) → v ∈ bs.map (·.1)
  at_ : (bs[j]?).map (·.1) = some u
  now : ∀ i, i < n → ∀ v ag, dir E fl u i = some (v, ag) → v ∈ bs.map (·.1)
theorem get_app {bs : List St} {x : St} {j : Nat} {u : Int} (h : (bs[j]?).map (·.1) = some u) : ((bs ++ [x])[j]?).map (·.1) = some u := by
  have hj : j < bs.length := by
    rcases Nat.lt_or_ge j bs.length with h1 | h1
    · exact h1
    · rw [List.getElem?_eq_none h1] at h; cases h
  rw [List.getElem?_append_left hj]
  exact h
theorem SInv.seen {E : List Ed} {fl : List Int} {s : Int} {j : Nat} {u : Int} {n : Nat} {bs : List St} (h : SInv E fl s j u n bs) (hn : n < E.length) : SInv E fl s j u (n + 1) (see E fl u bs n) := by
  have hmem : ∀ {r : List St}, see E fl u bs n = bs ++ r → ∀ x, x ∈ bs.map (·.1) → x ∈ (see E fl u bs n).map (·.1) := by
    intro r hr x hx
    rw [hr, List.map_append]
    exact List.mem_append_left _ hx
  have hnow : ∀ i, i < n + 1 → ∀ v ag, dir E fl u i = some (v, ag) → v ∈ (see E fl u bs n).map (·.1) := by
    intro i hi v ag hd
    rcases Nat.lt_succ_iff_lt_or_eq.1 hi with hi | rfl
    · obtain ⟨r, hr⟩ := see_prefix E fl u bs n
      exact hmem hr v (h.now i hi v ag hd)
    · exact see_mem hd
  cases hd : dir E fl u n with
  | none =>
    have e : see E fl u bs n = bs := by unfold see; rw [hd]
    rw [e] at hnow ⊢
    exact ⟨h.head, h.nodup, h.come, h.shut, h.at_, hnow⟩
  | some p =>
    obtain ⟨to, ag⟩ := p
    by_cases hin : to ∈ bs.map (·.1)
    · have e : see E fl u bs n = bs := by unfold see; rw [hd]; simp only; rw [if_pos hin]
      rw [e] at hnow ⊢
      exact ⟨h.head, h.nodup, h.come, h.shut, h.at_, hnow⟩
    · have e : see E fl u bs n = bs ++ [(to, (u, n, ag))] := by unfold see; rw [hd]; simp only; rw [if_neg hin]
      rw [e] at hnow hmem ⊢
      refine ⟨?_, ?_, ?_, ?_, get_app h.at_, hnow⟩
      · obtain ⟨r, hr⟩ := h.head
        exact ⟨r ++ [(to, (u, n, ag))], by rw [hr]; rfl⟩
      · rw [List.map_append, List.nodup_append]
        refine ⟨h.nodup, by simp, ?_⟩
        intro a ha b hb e2
        simp at hb
        subst e2 hb
        exact hin ha
      · intro i v u' i' ag' hg
        rcases Nat.lt_trichotomy (i + 1) bs.length with hl | hl | hl
        · rw [List.getElem?_append_left hl] at hg
          obtain ⟨a, b, j', c, d⟩ := h.come i v u' i' ag' hg
          exact ⟨a, b, j', c, get_app d⟩
        · rw [List.getElem?_append_right (by omega), hl] at hg
          simp at hg
          obtain ⟨rfl, rfl, rfl, rfl⟩ := hg
          have hj : j < bs.length := by
            rcases Nat.lt_or_ge j bs.length with h1 | h1
            · exact h1
            · have := h.at_; rw [List.getElem?_eq_none h1] at this; cases this
          exact ⟨hn, hd, j, by omega, get_app h.at_⟩
        · rw [List.getElem?_append_right (by omega)] at hg
          rw [List.getElem?_eq_none (by simp; omega)] at hg
          cases hg
      · intro j' hj' u' hu' i hi v ag' hd'
        have hj : j < bs.length := by
          rcases Nat.lt_or_ge j bs.length with h1 | h1
          · exact h1
          · have := h.at_; rw [List.getElem?_eq_none h1] at this; cases this
        rw [List.getElem?_append_left (by omega)] at hu'
        exact hmem rfl v (h.shut j' hj' u' hu' i hi v ag' hd')
theorem SInv.scanned {E : List Ed} {fl : List Int} {s : Int} {j : Nat} {u : Int} {bs : List St} (h : SInv E fl s j u 0 bs) (n : Nat) (hn : n ≤ E.length) : SInv E fl s j u n (scan E fl u bs n) := by
  induction n with
  | zero => exact h
  | succ n ih =>
    rw [scan_succ]
    exact (ih (by omega)).seen (by omega)
theorem bfs_inv (E : List Ed) (fl : List Int) (s : Int) (k : Nat) : BInv E fl s k (bfs E fl s k) := by
  induction k with
  | zero =>
    refine ⟨⟨[], rfl⟩, by simp [bfs], ?_, fun j hj => absurd hj (by omega)⟩
    intro j v u i ag h
    simp [bfs] at h
  | succ k ih =>
    cases hk : (bfs E fl s k)[k]? with
    | none =>
      rw [bfs_none hk]
      refine ⟨ih.head, ih.nodup, ih.come, ?_⟩
      intro j hj u hu
      rcases Nat.lt_succ_iff_lt_or_eq.1 hj with h1 | rfl
      · exact ih.shut j h1 u hu
      · rw [hk] at hu; cases hu
    | some p =>
      rw [bfs_some hk]
      have h0 : SInv E fl s k p.1 0 (bfs E fl s k) := ⟨ih.head, ih.nodup, ih.come, ih.shut, by rw [hk]; rfl, fun i hi => absurd hi (by omega)⟩
      have h1 := h0.scanned E.length (Nat.le_refl _)
      refine ⟨h1.head, h1.nodup, h1.come, ?_⟩
      intro j hj u hu
      rcases Nat.lt_succ_iff_lt_or_eq.1 hj with h2 | rfl
      · exact h1.shut j h2 u hu
      · have := h1.at_
        rw [hu] at this
        cases this
        exact h1.now
end Go.Proofs.Ytlpccebackmahaa
/- Ways back from a vertex that was come to; flow along a way. -/
set_option linter.unusedVariables false
set_option linter.unusedSimpArgs false
namespace Go.Proofs.Ytlpccebackmahaa

/-- The edges' ends are vertices. -/
def Ends (N : Nat) (E : List Ed) : Prop := ∀ e ∈ E, (0 ≤ e.f ∧ e.f < N) ∧ (0 ≤ e.t ∧ e.t < N) ∧ e.f ≠ e.t
theorem Ends.at {N : Nat} {E : List Ed} (h : Ends N E) {i : Nat} (hi : i < E.length) : (0 ≤ (E.getD i default).f ∧ (E.getD i default).f < N) ∧ (0 ≤ (E.getD i default).t ∧ (E.getD i default).t < N) ∧ (E.getD i default).f ≠ (E.getD i default).t := by
  refine h _ ?_
  rw [List.getD_eq_getElem?_getD, List.getElem?_eq_getElem hi]
  exact List.getElem_mem hi
/-- What 'dir' says. -/
theorem dir_some {E : List Ed} {fl : List Int} {u v : Int} {i : Nat} {ag : Bool} (h : dir E fl u i = some (v, ag)) :
    (ag = false ∧ (E.getD i default).f = u ∧ (E.getD i default).t = v ∧ fl.getD i 0 < (E.getD i default).c) ∨ (ag = true ∧ (E.getD i default).t = u ∧ (E.getD i default).f = v ∧ 0 < fl.getD i 0) := by
  unfold dir at h
  split at h
  · rename_i h1
    cases h
    exact .inl ⟨rfl, h1.1, rfl, h1.2⟩
  · split at h
    · rename_i h1
      cases h
      exact .inr ⟨rfl, h1.1, rfl, h1.2⟩
    · cases h
theorem BInv.keys {N : Nat} {E : List Ed} {fl : List Int} {s : Int} {k : Nat} {bs : List St} (h : BInv E fl s k bs) (hE : Ends N E) (hs : 0 ≤ s ∧ s < N) : ∀ v ∈ bs.map (·.1), 0 ≤ v ∧ v < (N : Int) := by
  intro v hv
  obtain ⟨p, hp, rfl⟩ := List.mem_map.1 hv
  obtain ⟨j, hj, e⟩ := List.getElem_of_mem hp
  cases j with
  | zero =>
    obtain ⟨r, hr⟩ := h.head
    subst hr
    simp at e
    rw [← e]
    exact hs
  | succ j =>
    obtain ⟨v, u, i, ag⟩ := p
    obtain ⟨hi, hd, _⟩ := h.come j v u i ag (by rw [List.getElem?_eq_getElem hj, e])
    obtain ⟨a, b, _⟩ := hE.at hi
    rcases dir_some hd with ⟨_, _, rfl, _⟩ | ⟨_, _, rfl, _⟩
    · exact b
    · exact a
theorem verts_length (N : Nat) : (verts N).length = N := by simp [verts]
theorem BInv.len {N : Nat} {E : List Ed} {fl : List Int} {s : Int} {k : Nat} {bs : List St} (h : BInv E fl s k bs) (hE : Ends N E) (hs : 0 ≤ s ∧ s < N) : bs.length ≤ N := by
  have := List.Nodup.length_le_of_subset h.nodup (fun v hv => mem_verts.2 (h.keys hE hs v hv))
  rwa [List.length_map, verts_length] at this
/-- Once all were gone through nothing turns any more. -/
theorem bfs_done {E : List Ed} {fl : List Int} {s : Int} {k : Nat} (h : (bfs E fl s k).length ≤ k) : ∀ m, k ≤ m → bfs E fl s m = bfs E fl s k := by
  intro m hm
  induction m with
  | zero => rw [Nat.le_zero.1 hm]
  | succ m ih =>
    rcases Nat.lt_or_ge k (m + 1) with h1 | h1
    · have := ih (by omega)
      rw [bfs_none (by rw [this]; exact List.getElem?_eq_none (by omega)), this]
    · rw [show m + 1 = k by omega]

/-- A way back from v to s. -/
def Chain (E : List Ed) (fl : List Int) (s : Int) : Int → List St → Prop
  | v, [] => v = s
  | v, p :: l => p.1 = v ∧ v ≠ s ∧ p.2.2.1 < E.length ∧ dir E fl p.2.1 p.2.2.1 = some (v, p.2.2.2) ∧ v ∉ l.map (·.1) ∧ Chain E fl s p.2.1 l
def back (bs : List St) (s : Int) : Nat → Int → List St
  | 0, v => []
  | n + 1, v => if v = s then [] else match aget bs v with
    | some q => (v, q) :: back bs s n q.1
    | none => []
theorem aget_key {bs : List St} (hn : (bs.map (·.1)).Nodup) {j : Nat} {p : St} (h : bs[j]? = some p) : aget bs p.1 = some p.2 := aget_at hn h
theorem chain_of {E : List Ed} {fl : List Int} {s : Int} {k : Nat} {bs : List St} (h : BInv E fl s k bs) : ∀ n j v, j ≤ n → (bs[j]?).map (·.1) = some v →
    Chain E fl s v (back bs s n v) ∧ ∀ x ∈ (back bs s n v).map (·.1), ∃ j', j' ≤ j ∧ (bs[j']?).map (·.1) = some x := by
  intro n
  induction n with
  | zero =>
    intro j v hj hv
    obtain rfl : j = 0 := by omega
    obtain ⟨r, hr⟩ := h.head
    rw [hr] at hv
    simp at hv
    exact ⟨hv.symm, by simp [back]⟩
  | succ n ih =>
    intro j v hj hv
    obtain ⟨p, hp, hpv⟩ := Option.map_eq_some_iff.1 hv
    subst hpv
    unfold back
    by_cases e : p.1 = s
    · rw [if_pos e]
      exact ⟨e, by simp⟩
    · rw [if_neg e, aget_key h.nodup hp]
      simp only
      cases j with
      | zero =>
        obtain ⟨r, hr⟩ := h.head
        rw [hr] at hp
        simp at hp
        rw [← hp] at e
        exact absurd rfl e
      | succ j =>
        obtain ⟨v, u, i, ag⟩ := p
        obtain ⟨hi, hd, j', hj', hu⟩ := h.come j v u i ag hp
        obtain ⟨c1, c2⟩ := ih j' u (by omega) hu
        simp only at e ⊢
        refine ⟨⟨rfl, e, hi, hd, ?_, c1⟩, ?_⟩
        · intro hin
          obtain ⟨j2, h2, h3⟩ := c2 v hin
          have e1 : (bs.map (·.1))[j + 1]? = some v := by rw [List.getElem?_map, hp]; rfl
          have e2 : (bs.map (·.1))[j2]? = some v := by rw [List.getElem?_map]; exact h3
          have l1 := (List.getElem?_eq_some_iff.1 e1).1
          have l2 := (List.getElem?_eq_some_iff.1 e2).1
          have := (List.getElem_inj (h₀ := l1) (h₁ := l2) h.nodup).1 (by
            rw [List.getElem?_eq_getElem l1] at e1
            rw [List.getElem?_eq_getElem l2] at e2
            exact (Option.some.inj e1).trans (Option.some.inj e2).symm)
          omega
        · intro x hx
          rw [List.map_cons, List.mem_cons] at hx
          rcases hx with rfl | hx
          · exact ⟨j + 1, Nat.le_refl _, by rw [hp]; rfl⟩
          · obtain ⟨j2, h2, h3⟩ := c2 x hx
            exact ⟨j2, by omega, h3⟩
/-- The edges of a way are all others. -/
theorem Chain.ends {E : List Ed} {fl : List Int} {s : Int} : ∀ {l : List St} {v : Int}, Chain E fl s v l → ∀ q ∈ l, q.2.1 = s ∨ q.2.1 ∈ l.map (·.1)
  | [], v, h, q, hq => by simp at hq
  | p :: l, v, h, q, hq => by
    obtain ⟨h1, h2, h3, h4, h5, h6⟩ := h
    rcases List.mem_cons.1 hq with rfl | hq
    · cases l with
      | nil => exact .inl h6
      | cons r l => exact .inr (by rw [List.map_cons, List.map_cons, h6.1]; simp)
    · rcases Chain.ends h6 q hq with h7 | h7
      · exact .inl h7
      · exact .inr (by rw [List.map_cons]; exact List.mem_cons_of_mem _ h7)
theorem Chain.steps {E : List Ed} {fl : List Int} {s : Int} : ∀ {l : List St} {v : Int}, Chain E fl s v l → ∀ q ∈ l, q.2.2.1 < E.length ∧ dir E fl q.2.1 q.2.2.1 = some (q.1, q.2.2.2) ∧ q.1 ≠ s
  | [], v, h, q, hq => by simp at hq
  | p :: l, v, h, q, hq => by
    obtain ⟨h1, h2, h3, h4, h5, h6⟩ := h
    rcases List.mem_cons.1 hq with rfl | hq
    · subst h1; exact ⟨h3, h4, h2⟩
    · exact Chain.steps h6 q hq
theorem Chain.distinct {E : List Ed} {fl : List Int} {s : Int} : ∀ {l : List St} {v : Int}, Chain E fl s v l → (l.map (fun p => p.2.2.1)).Nodup
  | [], v, h => by simp
  | p :: l, v, h => by
    have hh := h
    obtain ⟨h1, h2, h3, h4, h5, h6⟩ := h
    rw [List.map_cons, List.nodup_cons]
    refine ⟨?_, Chain.distinct h6⟩
    intro hin
    obtain ⟨q, hq, hqe⟩ := List.mem_map.1 hin
    obtain ⟨g1, g2, g3⟩ := Chain.steps h6 q hq
    have g4 := Chain.ends h6 q hq
    have hqv : q.1 ≠ v := fun e => h5 (List.mem_map.2 ⟨q, hq, e⟩)
    rw [hqe] at g2
    have : q.2.1 = v := by
      rcases dir_some h4 with ⟨_, a, b, _⟩ | ⟨_, a, b, _⟩ <;> rcases dir_some g2 with ⟨_, c, d, _⟩ | ⟨_, c, d, _⟩
      · exact absurd (d.symm.trans b) hqv
      · exact c.symm.trans b
      · exact c.symm.trans b
      · exact absurd (d.symm.trans b) hqv
    rcases g4 with g4 | g4
    · exact h2 (this.symm.trans g4)
    · exact h5 (this ▸ g4)
end Go.Proofs.Ytlpccebackmahaa
/- Flow along a way: it stays right, and more of it comes. -/
set_option linter.unusedVariables false
set_option linter.unusedSimpArgs false
namespace Go.Proofs.Ytlpccebackmahaa

/-- How much more may go by a step. -/
def roomAt (E : List Ed) (fl : List Int) (p : St) : Int := if p.2.2.2 then fl.getD p.2.2.1 0 else (E.getD p.2.2.1 default).c - fl.getD p.2.2.1 0
def roomOf (E : List Ed) (fl : List Int) (l : List St) (most : Int) : Int := l.foldl (fun m p => min m (roomAt E fl p)) most
/-- More by a step. -/
def addAt (d : Int) (fl : List Int) (p : St) : List Int := fl.set p.2.2.1 (if p.2.2.2 then fl.getD p.2.2.1 0 - d else fl.getD p.2.2.1 0 + d)
def addAll (d : Int) (fl : List Int) (l : List St) : List Int := l.foldl (addAt d) fl
theorem roomOf_le (E : List Ed) (fl : List Int) (l : List St) (most : Int) : roomOf E fl l most ≤ most ∧ ∀ p ∈ l, roomOf E fl l most ≤ roomAt E fl p := by
  unfold roomOf
  induction l generalizing most with
  | nil => simp
  | cons p l ih =>
    obtain ⟨h1, h2⟩ := ih (min most (roomAt E fl p))
    rw [List.foldl_cons]
    refine ⟨by omega, fun q hq => ?_⟩
    rcases List.mem_cons.1 hq with rfl | hq
    · omega
    · exact h2 q hq
theorem roomOf_pos (E : List Ed) (fl : List Int) (l : List St) (most : Int) (hm : 0 < most) (h : ∀ p ∈ l, 0 < roomAt E fl p) : 0 < roomOf E fl l most := by
  unfold roomOf
  induction l generalizing most with
  | nil => exact hm
  | cons p l ih =>
    rw [List.foldl_cons]
    have := h p List.mem_cons_self
    exact ih (min most (roomAt E fl p)) (by omega) (fun q hq => h q (List.mem_cons_of_mem _ hq))
theorem Chain.room {E : List Ed} {fl : List Int} {s v : Int} {l : List St} (h : Chain E fl s v l) : ∀ p ∈ l, 0 < roomAt E fl p := by
  intro p hp
  obtain ⟨_, g2, _⟩ := h.steps p hp
  unfold roomAt
  rcases dir_some g2 with ⟨a, _, _, b⟩ | ⟨a, _, _, b⟩
  · rw [a]; simp only [Bool.false_eq_true, if_false]; omega
  · rw [a]; simp only [if_true]; exact b
theorem addAt_length (d : Int) (fl : List Int) (p : St) : (addAt d fl p).length = fl.length := by simp [addAt]
theorem addAll_length (d : Int) (fl : List Int) (l : List St) : (addAll d fl l).length = fl.length := by
  unfold addAll
  induction l generalizing fl with
  | nil => rfl
  | cons p l ih => rw [List.foldl_cons, ih, addAt_length]
theorem getD_set (fl : List Int) (i j : Nat) (x : Int) (hi : i < fl.length) : (fl.set i x).getD j 0 = if j = i then x else fl.getD j 0 := by
  rw [List.getD_eq_getElem?_getD, List.getElem?_set]
  by_cases e : i = j
  · subst e; simp [hi]
  · rw [if_neg e, if_neg (fun e2 => e e2.symm), List.getD_eq_getElem?_getD]
/-- An edge that is not on the way keeps its flow. -/
theorem addAll_other (d : Int) (fl : List Int) (l : List St) (j : Nat) (h : ∀ p ∈ l, p.2.2.1 ≠ j) (hl : ∀ p ∈ l, p.2.2.1 < fl.length) : (addAll d fl l).getD j 0 = fl.getD j 0 := by
  unfold addAll
  induction l generalizing fl with
  | nil => rfl
  | cons p l ih =>
    rw [List.foldl_cons, ih _ (fun q hq => h q (List.mem_cons_of_mem _ hq)) (fun q hq => by rw [addAt_length]; exact hl q (List.mem_cons_of_mem _ hq))]
    unfold addAt
    rw [getD_set _ _ _ _ (hl p List.mem_cons_self), if_neg (fun e => h p List.mem_cons_self e.symm)]
theorem addAll_on (d : Int) (fl : List Int) (l : List St) (hn : (l.map (fun p => p.2.2.1)).Nodup) (hl : ∀ p ∈ l, p.2.2.1 < fl.length) : ∀ p ∈ l, (addAll d fl l).getD p.2.2.1 0 = if p.2.2.2 then fl.getD p.2.2.1 0 - d else fl.getD p.2.2.1 0 + d := by
  induction l generalizing fl with
  | nil => intro p hp; simp at hp
  | cons q l ih =>
    intro p hp
    rw [List.map_cons, List.nodup_cons] at hn
    have hl2 : ∀ p ∈ l, p.2.2.1 < (addAt d fl q).length := fun p hp => by rw [addAt_length]; exact hl p (List.mem_cons_of_mem _ hp)
    show (addAll d (addAt d fl q) l).getD p.2.2.1 0 = _
    rcases List.mem_cons.1 hp with rfl | hp
    · rw [addAll_other d _ l _ (fun r hr e => hn.1 (List.mem_map.2 ⟨r, hr, e⟩)) hl2]
      unfold addAt
      rw [getD_set _ _ _ _ (hl p List.mem_cons_self), if_pos rfl]
    · rw [ih _ hn.2 hl2 p hp]
      have e : (addAt d fl q).getD p.2.2.1 0 = fl.getD p.2.2.1 0 := by
        unfold addAt
        rw [getD_set _ _ _ _ (hl q List.mem_cons_self), if_neg (fun e => hn.1 (List.mem_map.2 ⟨p, hp, e⟩))]
      rw [e]
/-- Sums where one pair turns. -/
theorem lsum_set {α : Type} (L : List α) (i : Nat) (a b : α) (g : α → Int) (h : L[i]? = some b) : lsum (L.set i a) g = lsum L g - g b + g a := by
  induction L generalizing i with
  | nil => simp at h
  | cons c L ih =>
    cases i with
    | zero => simp at h; subst h; simp; omega
    | succ i =>
      rw [List.set_cons_succ, lsum_cons, lsum_cons, ih i (by simpa using h)]
      omega
theorem zip_set (E : List Ed) (fl : List Int) (i : Nat) (x : Int) (hi : i < E.length) : E.zip (fl.set i x) = (E.zip fl).set i (E.getD i default, x) := by
  induction E generalizing fl i with
  | nil => simp at hi
  | cons e E ih =>
    cases fl with
    | nil => simp
    | cons y fl =>
      cases i with
      | zero => rfl
      | succ i =>
        have := ih fl i (by simpa using hi)
        simpa using this
theorem zip_get (E : List Ed) (fl : List Int) (i : Nat) (hi : i < E.length) (hl : fl.length = E.length) : (E.zip fl)[i]? = some (E.getD i default, fl.getD i 0) := by
  rw [List.getElem?_zip_eq_some, List.getD_eq_getElem?_getD, List.getD_eq_getElem?_getD, List.getElem?_eq_getElem hi, List.getElem?_eq_getElem (by omega)]
  exact ⟨rfl, rfl⟩
theorem outF_addAt {E : List Ed} {fl0 fl : List Int} {p : St} {u v : Int} (hl : fl.length = E.length) (hi : p.2.2.1 < E.length) (hd : dir E fl0 u p.2.2.1 = some (v, p.2.2.2)) (d x : Int) :
    outF (E.zip (addAt d fl p)) x = outF (E.zip fl) x + ((if u = x then d else 0) - (if v = x then d else 0)) := by
  unfold outF addAt
  rw [zip_set _ _ _ _ hi, lsum_set _ _ _ _ _ (zip_get E fl _ hi hl)]
  rcases dir_some hd with ⟨a, b, c, _⟩ | ⟨a, b, c, _⟩
  · rw [a, b, c]
    simp only [Bool.false_eq_true, if_false]
    by_cases e1 : u = x <;> by_cases e2 : v = x <;> simp [e1, e2] <;> omega
  · rw [a, b, c]
    simp only [if_true]
    by_cases e1 : u = x <;> by_cases e2 : v = x <;> simp [e1, e2] <;> omega
/-- What leaves each vertex behind it: more from s on, more into v. -/
theorem outF_addAll {E : List Ed} {fl0 : List Int} {s : Int} (d x : Int) : ∀ {l : List St} {v : Int} {fl : List Int}, Chain E fl0 s v l → fl.length = E.length →
    outF (E.zip (addAll d fl l)) x = outF (E.zip fl) x + ((if s = x then d else 0) - (if v = x then d else 0))
  | [], v, fl, h, hl => by
    have h' : v = s := h
    subst h'
    show outF (E.zip fl) x = _
    omega
  | p :: l, v, fl, h, hl => by
    obtain ⟨h1, h2, h3, h4, h5, h6⟩ := h
    show outF (E.zip (addAll d (addAt d fl p) l)) x = _
    rw [outF_addAll d x h6 (by rw [addAt_length]; exact hl), outF_addAt hl h3 h4]
    omega
end Go.Proofs.Ytlpccebackmahaa
/- Push, plainly: what it makes is right, and no way is left. -/
set_option linter.unusedVariables false
set_option linter.unusedSimpArgs false
namespace Go.Proofs.Ytlpccebackmahaa

/-- A flow that may be, edge by edge. -/
structure Okf (N : Nat) (E : List Ed) (fl : List Int) (s t : Int) : Prop where
  len : fl.length = E.length
  fit : ∀ i, i < E.length → 0 ≤ fl.getD i 0 ∧ fl.getD i 0 ≤ (E.getD i default).c
  bal : ∀ v : Int, 0 ≤ v → v < N → v ≠ s → v ≠ t → outF (E.zip fl) v = 0
theorem zip_mem {E : List Ed} {fl : List Int} (hl : fl.length = E.length) {p : Ed × Int} (h : p ∈ E.zip fl) : ∃ i, i < E.length ∧ p = (E.getD i default, fl.getD i 0) := by
  obtain ⟨i, hi, e⟩ := List.getElem_of_mem h
  have hi2 : i < E.length := by rw [List.length_zip] at hi; omega
  have := zip_get E fl i hi2 hl
  rw [List.getElem?_eq_getElem hi, e] at this
  exact ⟨i, hi2, Option.some.inj this⟩
theorem Okf.good {N : Nat} {E : List Ed} {fl : List Int} {s t : Int} (h : Okf N E fl s t) (hE : Ends N E) : GoodF N (E.zip fl) s t where
  within := by
    intro p hp
    obtain ⟨i, hi, rfl⟩ := zip_mem h.len hp
    have := hE.at hi
    exact ⟨this.1, this.2.1⟩
  low := by
    intro p hp
    obtain ⟨i, hi, rfl⟩ := zip_mem h.len hp
    exact (h.fit i hi).1
  high := by
    intro p hp
    obtain ⟨i, hi, rfl⟩ := zip_mem h.len hp
    exact (h.fit i hi).2
  bal := h.bal
/-- Nothing flows into s. -/
def NoIn (E : List Ed) (fl : List Int) (s : Int) : Prop := ∀ i, i < E.length → (E.getD i default).t = s → fl.getD i 0 = 0
theorem Chain.lens {E : List Ed} {fl0 fl : List Int} {s v : Int} {l : List St} (h : Chain E fl0 s v l) (hl : fl.length = E.length) : ∀ p ∈ l, p.2.2.1 < fl.length := fun p hp => by rw [hl]; exact (h.steps p hp).1
theorem Okf.add {N : Nat} {E : List Ed} {fl : List Int} {s t : Int} {l : List St} {d : Int} (h : Okf N E fl s t) (hc : Chain E fl s t l) (h0 : 0 ≤ d) (hd : ∀ p ∈ l, d ≤ roomAt E fl p) : Okf N E (addAll d fl l) s t where
  len := by rw [addAll_length, h.len]
  fit := by
    intro i hi
    have hf := h.fit i hi
    by_cases hin : ∃ p ∈ l, p.2.2.1 = i
    · obtain ⟨p, hp, rfl⟩ := hin
      rw [addAll_on d fl l hc.distinct (hc.lens h.len) p hp]
      have hr := hd p hp
      unfold roomAt at hr
      cases e : p.2.2.2 <;> rw [e] at hr <;> simp only [Bool.false_eq_true, if_false, if_true] at hr ⊢ <;> omega
    · rw [addAll_other d fl l i (fun p hp e => hin ⟨p, hp, e⟩) (hc.lens h.len)]
      exact hf
  bal := by
    intro v h1 h2 h3 h4
    rw [outF_addAll d v hc h.len, h.bal v h1 h2 h3 h4, if_neg (fun e => h3 e.symm), if_neg (fun e => h4 e.symm)]
    omega
theorem Chain.value {E : List Ed} {fl : List Int} {s t : Int} {l : List St} (hc : Chain E fl s t l) (hl : fl.length = E.length) (hst : s ≠ t) (d : Int) : outF (E.zip (addAll d fl l)) s = outF (E.zip fl) s + d := by
  rw [outF_addAll d s hc hl, if_pos rfl, if_neg (fun e => hst e.symm)]
  omega
/-- Edges into s stay as they are, those from s bear no less. -/
theorem Chain.into {E : List Ed} {fl : List Int} {s t : Int} {l : List St} (hc : Chain E fl s t l) (hl : fl.length = E.length) (hn : NoIn E fl s) (d : Int) (h0 : 0 ≤ d) :
    NoIn E (addAll d fl l) s ∧ ∀ i, i < E.length → (E.getD i default).f = s → fl.getD i 0 ≤ (addAll d fl l).getD i 0 := by
  constructor
  · intro i hi ht
    by_cases hin : ∃ p ∈ l, p.2.2.1 = i
    · exfalso
      obtain ⟨p, hp, rfl⟩ := hin
      obtain ⟨_, g2, g3⟩ := hc.steps p hp
      rcases dir_some g2 with ⟨_, _, b, _⟩ | ⟨_, _, _, b⟩
      · exact g3 (b.symm.trans ht)
      · have := hn _ hi ht
        omega
    · rw [addAll_other d fl l i (fun p hp e => hin ⟨p, hp, e⟩) (hc.lens hl)]
      exact hn i hi ht
  · intro i hi hf
    by_cases hin : ∃ p ∈ l, p.2.2.1 = i
    · obtain ⟨p, hp, rfl⟩ := hin
      rw [addAll_on d fl l hc.distinct (hc.lens hl) p hp]
      obtain ⟨_, g2, g3⟩ := hc.steps p hp
      rcases dir_some g2 with ⟨a, _, b, _⟩ | ⟨a, _, b, _⟩
      · rw [a]; simp only [Bool.false_eq_true, if_false]; omega
      · exact absurd (b.symm.trans hf) g3
    · rw [addAll_other d fl l i (fun p hp e => hin ⟨p, hp, e⟩) (hc.lens hl)]
      exact Int.le_refl _

/-- The next way from s to t. -/
def wayOf (N : Nat) (E : List Ed) (fl : List Int) (s t : Int) : Option (List St) :=
  if t ∈ (bfs E fl s N).map (·.1) then some (back (bfs E fl s N) s N t) else none
theorem wayOf_chain {N : Nat} {E : List Ed} {fl : List Int} {s t : Int} {l : List St} (hE : Ends N E) (hs : 0 ≤ s ∧ s < N) (h : wayOf N E fl s t = some l) : Chain E fl s t l := by
  unfold wayOf at h
  split at h
  · rename_i hin
    cases h
    obtain ⟨p, hp, rfl⟩ := List.mem_map.1 hin
    obtain ⟨j, hj, e⟩ := List.getElem_of_mem hp
    have hinv := bfs_inv E fl s N
    have := hinv.len hE hs
    exact (chain_of hinv N j p.1 (by omega) (by rw [List.getElem?_eq_getElem hj, e]; rfl)).1
  · cases h
/-- No way: what was seen is a least cut. -/
theorem wayOf_none {N : Nat} {E : List Ed} {fl : List Int} {s t : Int} (hE : Ends N E) (hs : 0 ≤ s ∧ s < N) (hf : Okf N E fl s t) (h : wayOf N E fl s t = none) :
    ∃ S : Int → Bool, S s = true ∧ S t = false ∧ outF (E.zip fl) s = cutF (E.zip fl) S := by
  unfold wayOf at h
  split at h
  · cases h
  · rename_i hin
    have hinv := bfs_inv E fl s N
    have hlen := hinv.len hE hs
    have shut : ∀ u, u ∈ (bfs E fl s N).map (·.1) → ∀ i, i < E.length → ∀ v ag, dir E fl u i = some (v, ag) → v ∈ (bfs E fl s N).map (·.1) := by
      intro u hu
      obtain ⟨p, hp, rfl⟩ := List.mem_map.1 hu
      obtain ⟨j, hj, e⟩ := List.getElem_of_mem hp
      exact hinv.shut j (by omega) p.1 (by rw [List.getElem?_eq_getElem hj, e]; rfl)
    refine ⟨fun v => decide (v ∈ (bfs E fl s N).map (·.1)), ?_, by simpa using hin, ?_⟩
    · obtain ⟨r, hr⟩ := hinv.head
      rw [hr]; simp
    · refine value_eq_cut (hf.good hE) hs _ (by obtain ⟨r, hr⟩ := hinv.head; rw [hr]; simp) (by simpa using hin) ?_ ?_
      · intro p hp h1 h2
        obtain ⟨i, hi, rfl⟩ := zip_mem hf.len hp
        simp only [decide_eq_true_eq, decide_eq_false_iff_not] at h1 h2
        have hfit := hf.fit i hi
        rcases Int.lt_or_le (fl.getD i 0) (E.getD i default).c with hlt | hge
        · exact absurd (shut _ h1 i hi _ false (by unfold dir; rw [if_pos ⟨rfl, hlt⟩])) h2
        · show fl.getD i 0 = (E.getD i default).c
          omega
      · intro p hp h1 h2
        obtain ⟨i, hi, rfl⟩ := zip_mem hf.len hp
        simp only [decide_eq_true_eq, decide_eq_false_iff_not] at h1 h2
        have hfit := hf.fit i hi
        have hne := (hE.at hi).2.2
        rcases Int.lt_or_le 0 (fl.getD i 0) with hlt | hge
        · exact absurd (shut _ h1 i hi _ true (by unfold dir; rw [if_neg (fun e => hne e.1), if_pos ⟨rfl, hlt⟩])) h2
        · show fl.getD i 0 = 0
          omega
end Go.Proofs.Ytlpccebackmahaa
/- Push: whole. -/
set_option linter.unusedVariables false
set_option linter.unusedSimpArgs false
namespace Go.Proofs.Ytlpccebackmahaa

/-- Push: flow and how much more it is; by fuel. -/
def pushN (N : Nat) (E : List Ed) (s t most : Int) : Nat → List Int → Int → List Int × Int
  | 0, fl, sum => (fl, sum)
  | n + 1, fl, sum => if sum < most then
      match wayOf N E fl s t with
      | none => (fl, sum)
      | some l => pushN N E s t most n (addAll (roomOf E fl l (most - sum)) fl l) (sum + roomOf E fl l (most - sum))
    else (fl, sum)
def push (N : Nat) (E : List Ed) (s t most : Int) (fl : List Int) : List Int × Int := pushN N E s t most most.toNat fl 0
theorem room_step {N : Nat} {E : List Ed} {fl : List Int} {s t most sum : Int} {l : List St} (hE : Ends N E) (hs : 0 ≤ s ∧ s < N) (h : wayOf N E fl s t = some l) (hm : sum < most) : 0 < roomOf E fl l (most - sum) ∧ roomOf E fl l (most - sum) ≤ most - sum ∧ ∀ p ∈ l, roomOf E fl l (most - sum) ≤ roomAt E fl p := by
  have hc := wayOf_chain hE hs h
  obtain ⟨h1, h2⟩ := roomOf_le E fl l (most - sum)
  exact ⟨roomOf_pos E fl l _ (by omega) hc.room, h1, h2⟩
/-- More fuel than is left changes nothing. -/
theorem pushN_fuel {N : Nat} {E : List Ed} {s t most : Int} (hE : Ends N E) (hs : 0 ≤ s ∧ s < N) : ∀ n m fl sum, (most - sum).toNat ≤ n → n ≤ m → pushN N E s t most m fl sum = pushN N E s t most n fl sum := by
  intro n
  induction n with
  | zero =>
    intro m fl sum h1 h2
    have : ¬ sum < most := by omega
    cases m with
    | zero => rfl
    | succ m => unfold pushN; rw [if_neg this]
  | succ n ih =>
    intro m fl sum h1 h2
    obtain ⟨m, rfl⟩ : ∃ m', m = m' + 1 := ⟨m - 1, by omega⟩
    unfold pushN
    split
    · rename_i hlt
      cases hw : wayOf N E fl s t with
      | none => rfl
      | some l =>
        obtain ⟨a, b, _⟩ := room_step hE hs hw hlt
        exact ih m _ _ (by omega) (by omega)
    · rfl
/-- What a Push leaves. -/
structure Pushed (N : Nat) (E : List Ed) (s t most : Int) (fl : List Int) (sum : Int) (r : List Int × Int) : Prop where
  ok : Okf N E r.1 s t
  noIn : NoIn E r.1 s
  grow : ∀ i, i < E.length → (E.getD i default).f = s → fl.getD i 0 ≤ r.1.getD i 0
  val : outF (E.zip r.1) s = outF (E.zip fl) s + (r.2 - sum)
  up : sum ≤ r.2
  le : sum ≤ most → r.2 ≤ most
  last : most ≤ r.2 ∨ wayOf N E r.1 s t = none
theorem pushed {N : Nat} {E : List Ed} {s t most : Int} (hE : Ends N E) (hs : 0 ≤ s ∧ s < N) (hst : s ≠ t) : ∀ n fl sum, (most - sum).toNat ≤ n → Okf N E fl s t → NoIn E fl s → Pushed N E s t most fl sum (pushN N E s t most n fl sum) := by
  intro n
  induction n with
  | zero =>
    intro fl sum h1 h2 h3
    exact ⟨h2, h3, fun _ _ _ => Int.le_refl _, by show _ = _ + (sum - sum); simp [pushN], Int.le_refl _, fun h => h, .inl (by show most ≤ sum; omega)⟩
  | succ n ih =>
    intro fl sum h1 h2 h3
    unfold pushN
    split
    · rename_i hlt
      cases hw : wayOf N E fl s t with
      | none => exact ⟨h2, h3, fun _ _ _ => Int.le_refl _, by show _ = _ + (sum - sum); simp, Int.le_refl _, fun h => h, .inr hw⟩
      | some l =>
        obtain ⟨a, b, c⟩ := room_step hE hs hw hlt
        have hc := wayOf_chain hE hs hw
        dsimp only
        generalize roomOf E fl l (most - sum) = d at *
        obtain ⟨n1, n2⟩ := hc.into h2.len h3 d (by omega)
        have := ih (addAll d fl l) (sum + d) (by omega) (h2.add hc (by omega) c) n1
        refine ⟨this.ok, this.noIn, fun i hi hf => Int.le_trans (n2 i hi hf) (this.grow i hi hf), ?_, ?_, fun _ => this.le (by omega), this.last⟩
        · rw [this.val, hc.value h2.len hst]
          omega
        · have := this.up
          omega
    · exact ⟨h2, h3, fun _ _ _ => Int.le_refl _, by show _ = _ + (sum - sum); simp, Int.le_refl _, fun h => h, .inl (by show most ≤ sum; omega)⟩
/-- A flow that is as great as a cut has no way. -/
theorem no_way_of_cut {N : Nat} {E : List Ed} {fl : List Int} {s t : Int} (hE : Ends N E) (hs : 0 ≤ s ∧ s < N) (hst : s ≠ t) (hf : Okf N E fl s t) (S : Int → Bool) (h1 : S s = true) (h2 : S t = false) (hv : outF (E.zip fl) s = cutF (E.zip fl) S) : wayOf N E fl s t = none := by
  cases hw : wayOf N E fl s t with
  | none => rfl
  | some l =>
    exfalso
    have hc := wayOf_chain hE hs hw
    obtain ⟨a, b, c⟩ := room_step (most := 1) (sum := 0) hE hs hw (by omega)
    have hok := hf.add hc (by omega) c
    have hle := value_le_cut (hok.good hE) hs S h1 h2
    rw [hc.value hf.len hst] at hle
    have e : cutF (E.zip (addAll (roomOf E fl l (1 - 0)) fl l)) S = cutF (E.zip fl) S := by
      have : ∀ (g : List Int), g.length = E.length → cutF (E.zip g) S = lsum E (fun e => if S e.f = true ∧ S e.t = false then e.c else 0) := by
        intro g hg
        unfold cutF lsum
        have : (E.zip g).map (fun p => if S p.1.f = true ∧ S p.1.t = false then p.1.c else 0) = ((E.zip g).map Prod.fst).map (fun e => if S e.f = true ∧ S e.t = false then e.c else 0) := by rw [List.map_map]; rfl
        rw [this, List.map_fst_zip (by omega)]
      rw [this _ hok.len, this _ hf.len]
    omega
end Go.Proofs.Ytlpccebackmahaa
/- Sums by index; networks in which of the sources some alone are open. -/
set_option linter.unusedVariables false
set_option linter.unusedSimpArgs false
namespace Go.Proofs.Ytlpccebackmahaa

theorem lsum_map {α β : Type} (L : List α) (f : α → β) (g : β → Int) : lsum (L.map f) g = lsum L (fun a => g (f a)) := by
  unfold lsum
  rw [List.map_map]
  rfl
theorem zip_range {E : List Ed} {fl : List Int} (hl : fl.length = E.length) : E.zip fl = (List.range E.length).map fun i => (E.getD i default, fl.getD i 0) := by
  refine List.ext_getElem? fun i => ?_
  rw [List.getElem?_map]
  by_cases hi : i < E.length
  · rw [zip_get E fl i hi hl, List.getElem?_range hi]
    rfl
  · rw [List.getElem?_eq_none (by simp; omega), List.getElem?_eq_none (by simp; omega)]
    rfl
/-- The sources of A alone are open. -/
def opn (E : List Ed) (s : Int) (A : List Nat) : List Ed := E.mapIdx fun i e => if e.f = s ∧ i ∉ A then { e with c := 0 } else e
theorem opn_length (E : List Ed) (s : Int) (A : List Nat) : (opn E s A).length = E.length := by simp [opn]
theorem opn_get (E : List Ed) (s : Int) (A : List Nat) (i : Nat) (hi : i < E.length) : (opn E s A).getD i default = if (E.getD i default).f = s ∧ i ∉ A then { E.getD i default with c := 0 } else E.getD i default := by
  unfold opn
  rw [List.getD_eq_getElem?_getD, List.getElem?_mapIdx, List.getD_eq_getElem?_getD, List.getElem?_eq_getElem hi]
  rfl
theorem opn_f (E : List Ed) (s : Int) (A : List Nat) (i : Nat) (hi : i < E.length) : ((opn E s A).getD i default).f = (E.getD i default).f := by
  rw [opn_get E s A i hi]; split <;> rfl
theorem opn_t (E : List Ed) (s : Int) (A : List Nat) (i : Nat) (hi : i < E.length) : ((opn E s A).getD i default).t = (E.getD i default).t := by
  rw [opn_get E s A i hi]; split <;> rfl
theorem opn_ends {N : Nat} {E : List Ed} (h : Ends N E) (s : Int) (A : List Nat) : Ends N (opn E s A) := by
  intro e he
  obtain ⟨i, hi, rfl⟩ := List.getElem_of_mem he
  rw [opn_length] at hi
  have e1 : (opn E s A)[i]'(by rw [opn_length]; exact hi) = (opn E s A).getD i default := by
    rw [List.getD_eq_getElem?_getD, List.getElem?_eq_getElem (by rw [opn_length]; exact hi)]; rfl
  rw [e1, opn_f E s A i hi, opn_t E s A i hi]
  exact h.at hi
theorem opn_outF {E : List Ed} {fl : List Int} (hl : fl.length = E.length) (s : Int) (A : List Nat) (v : Int) : outF ((opn E s A).zip fl) v = outF (E.zip fl) v := by
  unfold outF
  rw [zip_range (by rw [opn_length]; exact hl), zip_range hl, lsum_map, lsum_map, opn_length]
  refine lsum_congr fun i hi => ?_
  have hi := List.mem_range.1 hi
  rw [opn_f E s A i hi, opn_t E s A i hi]
/-- What flows through the sources of A. -/
def partA (E : List Ed) (s : Int) (A : List Nat) (fl : List Int) : Int := lsum (List.range E.length) fun i => if (E.getD i default).f = s ∧ i ∈ A then fl.getD i 0 else 0
/-- The cut of the network in which the sources of A alone are open. -/
def cutA (E : List Ed) (s : Int) (A : List Nat) (S : Int → Bool) : Int := lsum (List.range E.length) fun i =>
  if S (E.getD i default).f = true ∧ S (E.getD i default).t = false then (if (E.getD i default).f = s ∧ i ∉ A then 0 else (E.getD i default).c) else 0
theorem cutA_eq {E : List Ed} {fl : List Int} (hl : fl.length = E.length) (s : Int) (A : List Nat) (S : Int → Bool) : cutF ((opn E s A).zip fl) S = cutA E s A S := by
  unfold cutF cutA
  rw [zip_range (by rw [opn_length]; exact hl), lsum_map, opn_length]
  refine lsum_congr fun i hi => ?_
  have hi := List.mem_range.1 hi
  simp only
  rw [opn_f E s A i hi, opn_t E s A i hi, opn_get E s A i hi]
  by_cases e : (E.getD i default).f = s ∧ i ∉ A
  · rw [if_pos e, if_pos e]
  · rw [if_neg e, if_neg e]
theorem part_le {N : Nat} {E : List Ed} {fl : List Int} {s t : Int} (hE : Ends N E) (hs : 0 ≤ s ∧ s < N) (h : Okf N E fl s t) (hin : NoIn E fl s) (A : List Nat) (S : Int → Bool) (h1 : S s = true) (h2 : S t = false) : partA E s A fl ≤ cutA E s A S := by
  have hz := zip_range h.len
  have key := part_le_cut (N := N) (T := (List.range E.length).map fun i => ((E.getD i default, fl.getD i 0), decide (i ∈ A))) (s := s) (t := t) (by
    rw [List.map_map]
    have : (List.range E.length).map ((fun p => p.1) ∘ fun i => ((E.getD i default, fl.getD i 0), decide (i ∈ A))) = E.zip fl := by rw [hz]; rfl
    rw [this]
    exact h.good hE) hs (by
    intro p hp ht
    obtain ⟨i, hi, rfl⟩ := List.mem_map.1 hp
    exact hin i (List.mem_range.1 hi) ht) S h1 h2
  rw [lsum_map, lsum_map] at key
  have e1 : partA E s A fl = lsum (List.range E.length) (fun i => if (E.getD i default).f = s ∧ decide (i ∈ A) = true then fl.getD i 0 else 0) := by
    unfold partA
    refine lsum_congr fun i _ => ?_
    simp
  have e2 : cutA E s A S = lsum (List.range E.length) (fun i => if S (E.getD i default).f = true ∧ S (E.getD i default).t = false then (if (E.getD i default).f = s ∧ decide (i ∈ A) = false then 0 else (E.getD i default).c) else 0) := by
    unfold cutA
    refine lsum_congr fun i _ => ?_
    simp
  rw [e1, e2]
  exact key
/-- Closed sources bear nothing. -/
theorem Okf.closed {N : Nat} {E : List Ed} {fl : List Int} {s t : Int} {A : List Nat} (h : Okf N (opn E s A) fl s t) (i : Nat) (hi : i < E.length) (hf : (E.getD i default).f = s) (hA : i ∉ A) : fl.getD i 0 = 0 := by
  have := h.fit i (by rw [opn_length]; exact hi)
  rw [opn_get E s A i hi, if_pos ⟨hf, hA⟩] at this
  simp only at this
  omega
theorem Okf.full {N : Nat} {E : List Ed} {fl : List Int} {s t : Int} {A : List Nat} (h : Okf N (opn E s A) fl s t) (hc : ∀ i, i < E.length → 0 ≤ (E.getD i default).c) : Okf N E fl s t where
  len := by rw [h.len, opn_length]
  fit := by
    intro i hi
    have := h.fit i (by rw [opn_length]; exact hi)
    have hc := hc i hi
    rw [opn_get E s A i hi] at this
    by_cases e : (E.getD i default).f = s ∧ i ∉ A
    · rw [if_pos e] at this
      have h3 : fl.getD i 0 ≤ 0 := this.2
      omega
    · rw [if_neg e] at this
      exact this
  bal := by
    intro v h1 h2 h3 h4
    rw [← opn_outF (by rw [h.len, opn_length]) s A v]
    exact h.bal v h1 h2 h3 h4
/-- The value is what flows through the open sources. -/
theorem value_part {N : Nat} {E : List Ed} {fl : List Int} {s t : Int} {A : List Nat} (h : Okf N (opn E s A) fl s t) (hin : NoIn E fl s) : outF (E.zip fl) s = partA E s A fl := by
  have hl : fl.length = E.length := by rw [h.len, opn_length]
  unfold outF partA
  rw [zip_range hl, lsum_map]
  refine lsum_congr fun i hi => ?_
  have hi := List.mem_range.1 hi
  simp only
  by_cases e : (E.getD i default).t = s
  · rw [if_pos e, hin i hi e]
    simp
  · rw [if_neg e]
    by_cases e1 : (E.getD i default).f = s
    · by_cases e2 : i ∈ A
      · rw [if_pos e1, if_pos ⟨e1, e2⟩]; omega
      · rw [h.closed i hi e1 e2]; simp
    · rw [if_neg e1, if_neg (fun e2 => e1 e2.1)]; rfl
end Go.Proofs.Ytlpccebackmahaa
/- Ways that are tried. -/
set_option linter.unusedVariables false
set_option linter.unusedSimpArgs false
namespace Go.Proofs.Ytlpccebackmahaa

/-- The edges of a way as steps, each along its edge. -/
def stepsOf (E : List Ed) (es : List Nat) : List St := es.map fun i => ((E.getD i default).t, ((E.getD i default).f, i, false))
/-- Is it a way on from 'at', to vertices that were not come to? -/
def walkOk (E : List Ed) (t : Int) : List Int → Int → List Nat → Prop
  | seen, u, [] => u = t
  | seen, u, i :: es => i < E.length ∧ (E.getD i default).f = u ∧ (E.getD i default).t ∉ seen ∧ walkOk E t ((E.getD i default).t :: seen) (E.getD i default).t es
theorem walk_idx {E : List Ed} {t : Int} : ∀ {es : List Nat} {seen : List Int} {u : Int}, walkOk E t seen u es → ∀ i ∈ es, i < E.length ∧ (E.getD i default).t ∉ seen
  | [], seen, u, h, i, hi => by simp at hi
  | j :: es, seen, u, h, i, hi => by
    obtain ⟨h1, h2, h3, h4⟩ := h
    rcases List.mem_cons.1 hi with rfl | hi
    · exact ⟨h1, h3⟩
    · obtain ⟨a, b⟩ := walk_idx h4 i hi
      exact ⟨a, fun c => b (List.mem_cons_of_mem _ c)⟩
theorem walk_nodup {E : List Ed} {t : Int} : ∀ {es : List Nat} {seen : List Int} {u : Int}, walkOk E t seen u es → es.Nodup
  | [], seen, u, h => List.nodup_nil
  | j :: es, seen, u, h => by
    obtain ⟨h1, h2, h3, h4⟩ := h
    rw [List.nodup_cons]
    exact ⟨fun hin => (walk_idx h4 j hin).2 List.mem_cons_self, walk_nodup h4⟩
theorem outF_walk {E : List Ed} {t : Int} (d x : Int) : ∀ {es : List Nat} {seen : List Int} {u : Int} {fl : List Int}, walkOk E t seen u es → fl.length = E.length →
    outF (E.zip (addAll d fl (stepsOf E es))) x = outF (E.zip fl) x + ((if u = x then d else 0) - (if t = x then d else 0))
  | [], seen, u, fl, h, hl => by
    have h' : u = t := h
    subst h'
    show outF (E.zip fl) x = _
    omega
  | i :: es, seen, u, fl, h, hl => by
    obtain ⟨h1, h2, h3, h4⟩ := h
    show outF (E.zip (addAll d (addAt d fl ((E.getD i default).t, ((E.getD i default).f, i, false))) (stepsOf E es))) x = _
    rw [outF_walk d x h4 (by rw [addAt_length]; exact hl)]
    have : outF (E.zip (addAt d fl ((E.getD i default).t, ((E.getD i default).f, i, false)))) x = outF (E.zip fl) x + ((if u = x then d else 0) - (if (E.getD i default).t = x then d else 0)) := by
      unfold outF addAt
      rw [zip_set _ _ _ _ h1, lsum_set _ _ _ _ _ (zip_get E fl _ h1 hl)]
      simp only [Bool.false_eq_true, if_false]
      rw [h2]
      by_cases e1 : u = x <;> by_cases e2 : (E.getD i default).t = x <;> simp [e1, e2] <;> omega
    rw [this]
    omega
theorem steps_edge (E : List Ed) (es : List Nat) : (stepsOf E es).map (fun p => p.2.2.1) = es := by
  unfold stepsOf
  rw [List.map_map]
  exact List.map_id' es
/-- As much as may go by a way. -/
def tryWay (E : List Ed) (fl : List Int) (w : List Nat × Int) : List Int := addAll (roomOf E fl (stepsOf E w.1) w.2) fl (stepsOf E w.1)
theorem roomOf_nonneg (E : List Ed) (fl : List Int) (l : List St) (most : Int) (hm : 0 ≤ most) (h : ∀ p ∈ l, 0 ≤ roomAt E fl p) : 0 ≤ roomOf E fl l most := by
  unfold roomOf
  induction l generalizing most with
  | nil => exact hm
  | cons p l ih =>
    rw [List.foldl_cons]
    have := h p List.mem_cons_self
    exact ih (min most (roomAt E fl p)) (by omega) (fun q hq => h q (List.mem_cons_of_mem _ hq))
theorem tried {N : Nat} {E : List Ed} {fl : List Int} {s t : Int} {w : List Nat × Int} (h : Okf N E fl s t) (hst : s ≠ t) (hin : NoIn E fl s) (hw : walkOk E t [s] s w.1) (hc : 0 ≤ w.2) :
    Okf N E (tryWay E fl w) s t ∧ NoIn E (tryWay E fl w) s ∧ (∀ i, i < E.length → fl.getD i 0 ≤ (tryWay E fl w).getD i 0) ∧ (∀ i, i < E.length → i ∉ w.1 → (tryWay E fl w).getD i 0 = fl.getD i 0) := by
  have hix : ∀ p ∈ stepsOf E w.1, p.2.2.1 < fl.length ∧ p.2.2.2 = false ∧ p.2.2.1 ∈ w.1 := by
    intro p hp
    obtain ⟨i, hi, rfl⟩ := List.mem_map.1 hp
    exact ⟨by rw [h.len]; exact (walk_idx hw i hi).1, rfl, hi⟩
  have hroom : ∀ p ∈ stepsOf E w.1, 0 ≤ roomAt E fl p := by
    intro p hp
    obtain ⟨a, b, c⟩ := hix p hp
    unfold roomAt
    rw [b]
    have := h.fit p.2.2.1 (by rw [← h.len]; exact a)
    simp only [Bool.false_eq_true, if_false]
    omega
  have hd0 := roomOf_nonneg E fl (stepsOf E w.1) w.2 hc hroom
  obtain ⟨_, hd⟩ := roomOf_le E fl (stepsOf E w.1) w.2
  have hnd : ((stepsOf E w.1).map (fun p => p.2.2.1)).Nodup := by rw [steps_edge]; exact walk_nodup hw
  have hoff : ∀ i, i < E.length → i ∉ w.1 → (tryWay E fl w).getD i 0 = fl.getD i 0 := by
    intro i hi hni
    exact addAll_other _ fl _ i (fun p hp e => hni (by rw [← e]; exact (hix p hp).2.2)) (fun p hp => (hix p hp).1)
  have hon : ∀ i, i ∈ w.1 → (tryWay E fl w).getD i 0 = fl.getD i 0 + roomOf E fl (stepsOf E w.1) w.2 ∧ roomOf E fl (stepsOf E w.1) w.2 ≤ (E.getD i default).c - fl.getD i 0 := by
    intro i hi
    have hm : ((E.getD i default).t, ((E.getD i default).f, i, false)) ∈ stepsOf E w.1 := List.mem_map.2 ⟨i, hi, rfl⟩
    have h1 := addAll_on (roomOf E fl (stepsOf E w.1) w.2) fl _ hnd (fun p hp => (hix p hp).1) _ hm
    have h2 := hd _ hm
    exact ⟨h1, h2⟩
  generalize roomOf E fl (stepsOf E w.1) w.2 = d at *
  refine ⟨⟨?_, ?_, ?_⟩, ?_, ?_, hoff⟩
  · show (addAll _ fl _).length = _
    rw [addAll_length, h.len]
  · intro i hi
    have hf := h.fit i hi
    by_cases e : i ∈ w.1
    · obtain ⟨a, b⟩ := hon i e
      rw [a]; omega
    · rw [hoff i hi e]; exact hf
  · intro v h1 h2 h3 h4
    show outF (E.zip (addAll _ fl _)) v = 0
    rw [outF_walk _ v hw h.len, h.bal v h1 h2 h3 h4, if_neg (fun e => h3 e.symm), if_neg (fun e => h4 e.symm)]
    omega
  · intro i hi ht
    by_cases e : i ∈ w.1
    · exact absurd (by rw [ht]; exact List.mem_cons_self) (walk_idx hw i e).2
    · rw [hoff i hi e]; exact hin i hi ht
  · intro i hi
    by_cases e : i ∈ w.1
    · rw [(hon i e).1]; omega
    · rw [hoff i hi e]; exact Int.le_refl _
end Go.Proofs.Ytlpccebackmahaa
/- Sources filled one behind the other. -/
set_option linter.unusedVariables false
set_option linter.unusedSimpArgs false
namespace Go.Proofs.Ytlpccebackmahaa

/-- A task that may be. -/
structure LexT (N : Nat) (E : List Ed) (s t : Int) (order : List Nat) : Prop where
  ends : Ends N E
  n : N ≤ 64
  many : E.length ≤ 256
  caps : ∀ i, i < E.length → 0 ≤ (E.getD i default).c ∧ (E.getD i default).c ≤ 1000
  sv : 0 ≤ s ∧ s < N
  tv : 0 ≤ t ∧ t < N
  st : s ≠ t
  nodup : order.Nodup
  src : ∀ i ∈ order, i < E.length ∧ (E.getD i default).f = s
def lots30 : Int := 1073741824
/-- The flow behind the first i sources. -/
def fillN (N : Nat) (E : List Ed) (s t : Int) (order : List Nat) (ways : List (List (List Nat × Int))) : Nat → List Int
  | 0 => List.replicate E.length 0
  | i + 1 => (push N (opn E s (order.take (i + 1))) s t lots30 ((ways.getD i []).foldl (tryWay E) (fillN N E s t order ways i))).1
/-- What is known of the flow behind sources A (the first ones of these behind each other). -/
structure FInv (N : Nat) (E : List Ed) (s t : Int) (order : List Nat) (i : Nat) (fl : List Int) : Prop where
  ok : Okf N (opn E s (order.take i)) fl s t
  noIn : NoIn E fl s
  most : ∀ j, j ≤ i → ∃ S : Int → Bool, S s = true ∧ S t = false ∧ partA E s (order.take j) fl = cutA E s (order.take j) S
theorem noIn_opn {E : List Ed} {fl : List Int} {s : Int} {A : List Nat} : NoIn (opn E s A) fl s ↔ NoIn E fl s := by
  unfold NoIn
  constructor
  · intro h i hi ht
    exact h i (by rw [opn_length]; exact hi) (by rw [opn_t E s A i hi]; exact ht)
  · intro h i hi ht
    rw [opn_length] at hi
    exact h i hi (by rw [← opn_t E s A i hi]; exact ht)
theorem lsum_const_le {α : Type} (L : List α) (g : α → Int) (c : Int) (h : ∀ a ∈ L, g a ≤ c) : lsum L g ≤ c * L.length := by
  induction L with
  | nil => simp
  | cons a L ih =>
    have h1 := h a List.mem_cons_self
    have h2 := ih (fun b hb => h b (List.mem_cons_of_mem _ hb))
    rw [lsum_cons, List.length_cons]
    have : c * ((L.length + 1 : Nat) : Int) = c * L.length + c := by
      rw [Int.natCast_add, Int.mul_add]; simp
    omega
theorem partA_le {N : Nat} {E : List Ed} {s t : Int} {order : List Nat} (T : LexT N E s t order) {fl : List Int} (h : ∀ i, i < E.length → fl.getD i 0 ≤ (E.getD i default).c) (A : List Nat) : partA E s A fl ≤ 256000 := by
  unfold partA
  have := lsum_const_le (List.range E.length) (fun i => if (E.getD i default).f = s ∧ i ∈ A then fl.getD i 0 else 0) 1000 (by
    intro i hi
    have hi := List.mem_range.1 hi
    have h1 := h i hi
    have h2 := T.caps i hi
    by_cases e : (E.getD i default).f = s ∧ i ∈ A
    · simp only [if_pos e]; omega
    · simp only [if_neg e]; omega)
  rw [List.length_range] at this
  have := T.many
  omega
theorem partA_nonneg {E : List Ed} {s : Int} {fl : List Int} (h : ∀ i, i < E.length → 0 ≤ fl.getD i 0) (A : List Nat) : 0 ≤ partA E s A fl := by
  unfold partA
  refine lsum_nonneg fun i hi => ?_
  have := h i (List.mem_range.1 hi)
  by_cases e : (E.getD i default).f = s ∧ i ∈ A
  · simp only [if_pos e]; omega
  · simp only [if_neg e]; omega
theorem partA_mono {E : List Ed} {s : Int} {f g : List Int} (h : ∀ i, i < E.length → (E.getD i default).f = s → f.getD i 0 ≤ g.getD i 0) (A : List Nat) : partA E s A f ≤ partA E s A g := by
  unfold partA
  refine lsum_le fun i hi => ?_
  by_cases e : (E.getD i default).f = s ∧ i ∈ A
  · rw [if_pos e, if_pos e]
    exact h i (List.mem_range.1 hi) e.1
  · rw [if_neg e, if_neg e]
    exact Int.le_refl _
/-- One source more, from a flow on that bears no less by the sources. -/
theorem FInv.step {N : Nat} {E : List Ed} {s t : Int} {order : List Nat} {i : Nat} {fl f1 : List Int} (T : LexT N E s t order) (h : FInv N E s t order i fl)
    (ok1 : Okf N (opn E s (order.take (i + 1))) f1 s t) (in1 : NoIn E f1 s) (up : ∀ j, j < E.length → (E.getD j default).f = s → fl.getD j 0 ≤ f1.getD j 0) :
    FInv N E s t order (i + 1) (push N (opn E s (order.take (i + 1))) s t lots30 f1).1 := by
  have hE := opn_ends T.ends s (order.take (i + 1))
  have hp := pushed (most := lots30) hE T.sv T.st lots30.toNat f1 0 (by omega) ok1 (noIn_opn.2 in1)
  have hr : pushN N (opn E s (order.take (i + 1))) s t lots30 lots30.toNat f1 0 = push N (opn E s (order.take (i + 1))) s t lots30 f1 := rfl
  rw [hr] at hp
  generalize push N (opn E s (order.take (i + 1))) s t lots30 f1 = r at *
  have in2 := noIn_opn.1 hp.noIn
  have full := hp.ok.full (fun i hi => (T.caps i hi).1)
  have full1 := ok1.full (fun i hi => (T.caps i hi).1)
  have l2 : r.1.length = E.length := full.len
  have v2 := value_part hp.ok in2
  have v1 := value_part ok1 in1
  have hval := hp.val
  rw [opn_outF l2, opn_outF full1.len, v2, v1] at hval
  have b2 := partA_le T (fun i hi => (full.fit i hi).2) (order.take (i + 1))
  have b1 := partA_nonneg (E := E) (s := s) (fl := f1) (fun i hi => (full1.fit i hi).1) (order.take (i + 1))
  refine ⟨hp.ok, in2, fun j hj => ?_⟩
  rcases Nat.lt_succ_iff_lt_or_eq.1 (Nat.lt_succ_of_le hj) with hj | rfl
  · obtain ⟨S, s1, s2, s3⟩ := h.most j (by omega)
    refine ⟨S, s1, s2, Int.le_antisymm (part_le T.ends T.sv full in2 _ S s1 s2) ?_⟩
    rw [← s3]
    refine partA_mono (fun k hk hf => Int.le_trans (up k hk hf) ?_) _
    exact hp.grow k (by rw [opn_length]; exact hk) (by rw [opn_f E s _ k hk]; exact hf)
  · have hw : wayOf N (opn E s (order.take (i + 1))) r.1 s t = none := by
      rcases hp.last with h1 | h1
      · unfold lots30 at h1; omega
      · exact h1
    obtain ⟨S, s1, s2, s3⟩ := wayOf_none hE T.sv hp.ok hw
    refine ⟨S, s1, s2, ?_⟩
    rw [opn_outF l2, cutA_eq l2, v2] at s3
    exact s3
end Go.Proofs.Ytlpccebackmahaa
/- Filling, whole. -/
set_option linter.unusedVariables false
set_option linter.unusedSimpArgs false
namespace Go.Proofs.Ytlpccebackmahaa

theorem walk_src {E : List Ed} {s t : Int} : ∀ {es : List Nat} {seen : List Int} {u : Int}, walkOk E t seen u es → s ∈ seen → u ≠ s → ∀ i ∈ es, (E.getD i default).f ≠ s
  | [], seen, u, h, hs, hu, i, hi => by simp at hi
  | j :: es, seen, u, h, hs, hu, i, hi => by
    obtain ⟨h1, h2, h3, h4⟩ := h
    rcases List.mem_cons.1 hi with rfl | hi
    · rw [h2]; exact hu
    · exact walk_src h4 (List.mem_cons_of_mem _ hs) (fun e => h3 (by rw [e]; exact hs)) i hi
/-- A way of one source goes by no other source. -/
theorem walk_one {E : List Ed} {s t : Int} {o : Nat} {es : List Nat} (h : walkOk E t [s] s (o :: es)) : ∀ i ∈ es, (E.getD i default).f ≠ s := by
  obtain ⟨h1, h2, h3, h4⟩ := h
  exact walk_src h4 (by simp) (fun e => h3 (by rw [e]; simp))
theorem Okf.close {N : Nat} {E : List Ed} {fl : List Int} {s t : Int} {A : List Nat} (h : Okf N E fl s t) (hz : ∀ i, i < E.length → (E.getD i default).f = s → i ∉ A → fl.getD i 0 = 0) : Okf N (opn E s A) fl s t where
  len := by rw [h.len, opn_length]
  fit := by
    intro i hi
    rw [opn_length] at hi
    have := h.fit i hi
    rw [opn_get E s A i hi]
    by_cases e : (E.getD i default).f = s ∧ i ∉ A
    · rw [if_pos e, hz i hi e.1 e.2]
      exact ⟨Int.le_refl _, Int.le_refl _⟩
    · rw [if_neg e]; exact this
  bal := by
    intro v h1 h2 h3 h4
    rw [opn_outF h.len s A v]
    exact h.bal v h1 h2 h3 h4
/-- Ways of sources that may be. -/
def WaysOk (E : List Ed) (s t : Int) (order : List Nat) (ways : List (List (List Nat × Int))) : Prop :=
  ∀ i w, w ∈ ways.getD i [] → 0 ≤ w.2 ∧ walkOk E t [s] s w.1 ∧ w.1.head? = order[i]?
theorem fill_inv {N : Nat} {E : List Ed} {s t : Int} {order : List Nat} {ways : List (List (List Nat × Int))} (T : LexT N E s t order) (hw : WaysOk E s t order ways) : ∀ i, i ≤ order.length → FInv N E s t order i (fillN N E s t order ways i) := by
  intro i
  induction i with
  | zero =>
    intro _
    have hz : ∀ i, (List.replicate E.length (0 : Int)).getD i 0 = 0 := by
      intro i
      rw [List.getD_eq_getElem?_getD, List.getElem?_replicate]
      split <;> rfl
    refine ⟨Okf.close ⟨by simp [fillN], fun i hi => ?_, fun v _ _ _ _ => ?_⟩ (fun i _ _ _ => hz i), fun i _ _ => hz i, ?_⟩
    · show 0 ≤ (List.replicate _ _).getD i 0 ∧ (List.replicate _ _).getD i 0 ≤ _
      rw [hz]
      exact ⟨Int.le_refl _, (T.caps i hi).1⟩
    · unfold outF
      refine lsum_zero fun p hp => ?_
      obtain ⟨i, hi, rfl⟩ := zip_mem (by simp [fillN]) hp
      have : (fillN N E s t order ways 0).getD i 0 = 0 := hz i
      simp only [this]
      split <;> split <;> rfl
    · intro j hj
      obtain rfl : j = 0 := by omega
      refine ⟨fun v => decide (v = s), by simp, by simpa using fun e => T.st e.symm, ?_⟩
      have h1 : partA E s (order.take 0) (fillN N E s t order ways 0) = 0 := lsum_zero fun i _ => by simp
      have h2 : cutA E s (order.take 0) (fun v => decide (v = s)) = 0 := lsum_zero fun i _ => by
        by_cases e : (E.getD i default).f = s
        · have e3 : i ∉ order.take 0 := by simp
          simp only [e, e3, not_false_eq_true, and_self, if_true]
          split <;> rfl
        · rw [if_neg (fun h => e (by simpa using h.1))]
      rw [h1, h2]
  | succ i ih =>
    intro hi
    have h := ih (by omega)
    have full := h.ok.full (fun i hi => (T.caps i hi).1)
    have hcl : ∀ k, k < E.length → (E.getD k default).f = s → k ∉ order.take (i + 1) → (fillN N E s t order ways i).getD k 0 = 0 := fun k hk hf hA => h.ok.closed k hk hf (fun e => hA (List.take_subset_take_left order (Nat.le_succ i) e))
    have key : ∀ (ws : List (List Nat × Int)) (f0 : List Int), (∀ w ∈ ws, w ∈ ways.getD i []) → Okf N E f0 s t → NoIn E f0 s → (∀ k, k < E.length → (E.getD k default).f = s → k ∉ order.take (i + 1) → f0.getD k 0 = 0) →
        Okf N E (ws.foldl (tryWay E) f0) s t ∧ NoIn E (ws.foldl (tryWay E) f0) s ∧ (∀ k, k < E.length → (E.getD k default).f = s → k ∉ order.take (i + 1) → (ws.foldl (tryWay E) f0).getD k 0 = 0) ∧ ∀ k, k < E.length → f0.getD k 0 ≤ (ws.foldl (tryWay E) f0).getD k 0 := by
      intro ws
      induction ws with
      | nil => intro f0 _ a b c; exact ⟨a, b, c, fun k _ => Int.le_refl _⟩
      | cons w ws ihw =>
        intro f0 hws a b c
        obtain ⟨w1, w2, w3⟩ := hw i w (hws w List.mem_cons_self)
        obtain ⟨t1, t2, t3, t4⟩ := tried a T.st b w2 w1
        obtain ⟨r1, r2, r3, r4⟩ := ihw (tryWay E f0 w) (fun x hx => hws x (List.mem_cons_of_mem _ hx)) t1 t2 (by
          intro k hk hf hA
          rw [t4 k hk ?_]
          · exact c k hk hf hA
          · intro hin
            cases hes : w.1 with
            | nil => rw [hes] at hin; simp at hin
            | cons o es =>
              rw [hes] at hin w3 w2
              have ho : order[i]? = some o := w3.symm
              rcases List.mem_cons.1 hin with rfl | hin
              · exact hA (List.mem_of_getElem? (i := i) (by rw [List.getElem?_take_of_lt (Nat.lt_succ_self i)]; exact ho))
              · exact walk_one w2 k hin hf)
        exact ⟨r1, r2, r3, fun k hk => Int.le_trans (t3 k hk) (r4 k hk)⟩
    obtain ⟨a, b, c, d⟩ := key (ways.getD i []) _ (fun _ hx => hx) full h.noIn hcl
    exact h.step T (a.close c) b (fun k hk _ => d k hk)
end Go.Proofs.Ytlpccebackmahaa
/- What flows through each source, by least cuts alone. -/
set_option linter.unusedVariables false
set_option linter.unusedSimpArgs false
namespace Go.Proofs.Ytlpccebackmahaa

theorem lsum_pick (n a : Nat) (h : a < n) (g : Nat → Int) : lsum (List.range n) (fun i => if i = a then g i else 0) = g a := by
  induction n with
  | zero => omega
  | succ n ih =>
    rw [List.range_succ, lsum_append]
    by_cases e : n = a
    · subst e
      have : lsum (List.range n) (fun i => if i = n then g i else 0) = 0 := lsum_zero fun i hi => by
        have := List.mem_range.1 hi
        rw [if_neg (by omega)]
      rw [this]
      simp
    · rw [ih (by omega)]
      simp [e]
theorem partA_sum {E : List Ed} {s : Int} {fl : List Int} : ∀ (A : List Nat), A.Nodup → (∀ i ∈ A, i < E.length ∧ (E.getD i default).f = s) → partA E s A fl = lsum A (fun i => fl.getD i 0)
  | [], hn, hA => lsum_zero fun i _ => by simp
  | a :: A, hn, hA => by
    rw [List.nodup_cons] at hn
    have ih := partA_sum A hn.2 (fun i hi => hA i (List.mem_cons_of_mem _ hi)) (fl := fl)
    obtain ⟨ha, hf⟩ := hA a List.mem_cons_self
    rw [lsum_cons, ← ih, ← lsum_pick E.length a ha (fun i => fl.getD i 0)]
    unfold partA
    rw [← lsum_add]
    refine lsum_congr fun i _ => ?_
    by_cases e : i = a
    · subst e
      have h1 : i ∈ i :: A := List.mem_cons_self
      rw [if_pos ⟨hf, h1⟩, if_pos rfl, if_neg (fun h => hn.1 h.2)]
      omega
    · by_cases e2 : (E.getD i default).f = s ∧ i ∈ A
      · rw [if_pos ⟨e2.1, List.mem_cons_of_mem _ e2.2⟩, if_neg e, if_pos e2]
        omega
      · rw [if_neg (fun h => e2 ⟨h.1, (List.mem_cons.1 h.2).resolve_left e⟩), if_neg e, if_neg e2]
        rfl
/-- A least cut of the network in which sources of A alone are open. -/
structure Least (E : List Ed) (s t : Int) (A : List Nat) (m : Int) : Prop where
  some : ∃ S : Int → Bool, S s = true ∧ S t = false ∧ m = cutA E s A S
  all : ∀ S : Int → Bool, S s = true → S t = false → m ≤ cutA E s A S
theorem Least.uniq {E : List Ed} {s t : Int} {A : List Nat} {m m' : Int} (h : Least E s t A m) (h' : Least E s t A m') : m = m' := by
  obtain ⟨S, a, b, c⟩ := h.some
  obtain ⟨S', a', b', c'⟩ := h'.some
  have h1 := h.all S' a' b'
  have h2 := h'.all S a b
  omega
theorem cutA_congr {E : List Ed} {s : Int} {A B : List Nat} (h : ∀ i, i < E.length → (E.getD i default).f = s → (i ∈ A ↔ i ∈ B)) (S : Int → Bool) : cutA E s A S = cutA E s B S := by
  unfold cutA
  refine lsum_congr fun i hi => ?_
  have hi := List.mem_range.1 hi
  by_cases e : (E.getD i default).f = s
  · have := h i hi e
    simp [e, this]
  · have e1 : ¬ ((E.getD i default).f = s ∧ i ∉ A) := fun h => e h.1
    have e2 : ¬ ((E.getD i default).f = s ∧ i ∉ B) := fun h => e h.1
    rw [if_neg e1, if_neg e2]
theorem FInv.least {N : Nat} {E : List Ed} {s t : Int} {order : List Nat} {i : Nat} {fl : List Int} (T : LexT N E s t order) (h : FInv N E s t order i fl) (j : Nat) (hj : j ≤ i) : Least E s t (order.take j) (partA E s (order.take j) fl) :=
  ⟨h.most j hj, fun S h1 h2 => part_le T.ends T.sv (h.ok.full (fun i hi => (T.caps i hi).1)) h.noIn _ S h1 h2⟩
/-- The sum of what the first j sources have. -/
theorem FInv.sum {N : Nat} {E : List Ed} {s t : Int} {order : List Nat} {i : Nat} {fl : List Int} (T : LexT N E s t order) (h : FInv N E s t order i fl) (j : Nat) (hj : j ≤ i) : Least E s t (order.take j) (lsum (order.take j) (fun k => fl.getD k 0)) := by
  have := h.least T j hj
  rwa [partA_sum _ (List.Nodup.sublist (List.take_sublist j order) T.nodup) (fun i hi => T.src i (List.mem_of_mem_take hi))] at this
end Go.Proofs.Ytlpccebackmahaa
/- The greatest flow; wider sources; a flow that is there already. -/
set_option linter.unusedVariables false
set_option linter.unusedSimpArgs false
namespace Go.Proofs.Ytlpccebackmahaa

theorem zeros_get (n i : Nat) : (List.replicate n (0 : Int)).getD i 0 = 0 := by
  rw [List.getD_eq_getElem?_getD, List.getElem?_replicate]
  split <;> rfl
theorem zeros_ok {N : Nat} {E : List Ed} {s t : Int} (hc : ∀ i, i < E.length → 0 ≤ (E.getD i default).c) : Okf N E (List.replicate E.length 0) s t ∧ NoIn E (List.replicate E.length 0) s ∧ ∀ v, outF (E.zip (List.replicate E.length 0)) v = 0 := by
  have hz : ∀ v, outF (E.zip (List.replicate E.length 0)) v = 0 := by
    intro v
    unfold outF
    refine lsum_zero fun p hp => ?_
    obtain ⟨i, hi, rfl⟩ := zip_mem (by simp) hp
    simp only [zeros_get]
    split <;> split <;> rfl
  refine ⟨⟨by simp, fun i hi => ?_, fun v _ _ _ _ => hz v⟩, fun i _ _ => zeros_get _ _, hz⟩
  rw [zeros_get]
  exact ⟨Int.le_refl _, hc i hi⟩
/-- Max is the least cut. -/
theorem max_least {N : Nat} {E : List Ed} {s t : Int} {order : List Nat} (T : LexT N E s t order) (A : List Nat) : Least E s t A (push N (opn E s A) s t lots30 (List.replicate E.length 0)).2 := by
  have hE := opn_ends T.ends s A
  have hcap : ∀ i, i < (opn E s A).length → 0 ≤ ((opn E s A).getD i default).c := by
    intro i hi
    rw [opn_length] at hi
    rw [opn_get E s A i hi]
    have := T.caps i hi
    split
    · exact Int.le_refl _
    · exact this.1
  obtain ⟨z1, z2, z3⟩ := zeros_ok (N := N) (s := s) (t := t) hcap
  rw [opn_length] at z1 z2 z3
  have hp := pushed (most := lots30) hE T.sv T.st lots30.toNat _ 0 (by omega) z1 z2
  have hr : pushN N (opn E s A) s t lots30 lots30.toNat (List.replicate E.length 0) 0 = push N (opn E s A) s t lots30 (List.replicate E.length 0) := rfl
  rw [hr] at hp
  generalize push N (opn E s A) s t lots30 (List.replicate E.length 0) = r at *
  have in2 := noIn_opn.1 hp.noIn
  have full := hp.ok.full (fun i hi => (T.caps i hi).1)
  have l2 : r.1.length = E.length := full.len
  have v2 := value_part hp.ok in2
  have hval := hp.val
  rw [z3, opn_outF l2, v2] at hval
  have hr2 : r.2 = partA E s A r.1 := by omega
  have b2 := partA_le T (fun i hi => (full.fit i hi).2) A
  rw [hr2]
  refine ⟨?_, fun S h1 h2 => part_le T.ends T.sv full in2 A S h1 h2⟩
  have hw : wayOf N (opn E s A) r.1 s t = none := by
    rcases hp.last with h1 | h1
    · unfold lots30 at h1; omega
    · exact h1
  obtain ⟨S, s1, s2, s3⟩ := wayOf_none hE T.sv hp.ok hw
  rw [opn_outF l2, cutA_eq l2, v2] at s3
  exact ⟨S, s1, s2, s3⟩
/-- A Push on a flow that is the greatest leaves it. -/
theorem push_stays {N : Nat} {E : List Ed} {s t : Int} {order : List Nat} (T : LexT N E s t order) (A : List Nat) {fl : List Int} (h : Okf N (opn E s A) fl s t) (hin : NoIn E fl s) (hm : Least E s t A (partA E s A fl)) : push N (opn E s A) s t lots30 fl = (fl, 0) := by
  obtain ⟨S, s1, s2, s3⟩ := hm.some
  have hl : fl.length = E.length := (h.full (fun i hi => (T.caps i hi).1)).len
  have hw := no_way_of_cut (opn_ends T.ends s A) T.sv T.st h S s1 s2 (by rw [opn_outF hl, cutA_eq hl, value_part h hin]; exact s3)
  show pushN N (opn E s A) s t lots30 (1073741823 + 1) fl 0 = (fl, 0)
  unfold pushN
  rw [if_pos (by unfold lots30; omega), hw]
end Go.Proofs.Ytlpccebackmahaa
/- A source with a greater Cap. -/
set_option linter.unusedVariables false
set_option linter.unusedSimpArgs false
namespace Go.Proofs.Ytlpccebackmahaa

theorem wider {N : Nat} {E F : List Ed} {s t d : Int} {o : Nat} {A : List Nat} (hl : F.length = E.length) (ho : o < E.length) (hof : (E.getD o default).f = s) (hd : 0 ≤ d) (hA : ∀ i, i < E.length → (E.getD i default).f = s → i ∈ A)
    (hc : ∀ i, i < E.length → 0 ≤ (E.getD i default).c) (hF : ∀ i, i < E.length → (F.getD i default).f = (E.getD i default).f ∧ (F.getD i default).t = (E.getD i default).t ∧ (F.getD i default).c = (E.getD i default).c + (if i = o then d else 0))
    {ma mo na no : Int} (h1 : Least E s t A ma) (h2 : Least E s t [o] mo) (h3 : Least F s t A na) (h4 : Least F s t [o] no) : mo ≤ no ∧ na + mo ≤ ma + no := by
  have tE : ∀ B S, cutA F s B S = lsum (List.range E.length) (fun i => if S (E.getD i default).f = true ∧ S (E.getD i default).t = false then (if (E.getD i default).f = s ∧ i ∉ B then 0 else (E.getD i default).c + (if i = o then d else 0)) else 0) := by
    intro B S
    unfold cutA
    rw [hl]
    refine lsum_congr fun i hi => ?_
    obtain ⟨a, b, c⟩ := hF i (List.mem_range.1 hi)
    rw [a, b, c]
  obtain ⟨S, S1, S2, S3⟩ := h1.some
  obtain ⟨T, T1, T2, T3⟩ := h4.some
  have up : ∀ B X, cutA E s B X ≤ cutA F s B X := by
    intro B X
    rw [tE]
    unfold cutA
    refine lsum_le fun i hi => ?_
    split
    · split
      · exact Int.le_refl _
      · split <;> omega
    · exact Int.le_refl _
  have hmo : mo ≤ no := Int.le_trans (h2.all T T1 T2) (by rw [T3]; exact up _ _)
  refine ⟨hmo, ?_⟩
  by_cases hS : S (E.getD o default).t = true
  · have : cutA F s A S = cutA E s A S := by
      rw [tE]
      unfold cutA
      refine lsum_congr fun i hi => ?_
      by_cases e : i = o
      · subst e
        rw [if_neg (fun h => by rw [hS] at h; exact absurd h.2 (by simp)), if_neg (fun h => by rw [hS] at h; exact absurd h.2 (by simp))]
      · simp [e]
    have := h3.all S S1 S2
    omega
  · have hS' : S (E.getD o default).t = false := by simpa using hS
    have bump : ∀ B X, cutA F s B X ≤ cutA E s B X + d := by
      intro B X
      have h5 : lsum (List.range E.length) (fun i => if i = o then d else 0) = d := lsum_pick E.length o ho (fun _ => d)
      rw [tE]
      unfold cutA
      have h6 : d = lsum (List.range E.length) (fun i => if i = o then d else 0) := h5.symm
      refine Int.le_trans (lsum_le (h := fun i => (if X (E.getD i default).f = true ∧ X (E.getD i default).t = false then (if (E.getD i default).f = s ∧ i ∉ B then 0 else (E.getD i default).c) else 0) + (if i = o then d else 0)) fun i hi => ?_) ?_
      · by_cases e1 : X (E.getD i default).f = true ∧ X (E.getD i default).t = false
        · rw [if_pos e1, if_pos e1]
          split <;> split <;> omega
        · rw [if_neg e1, if_neg e1]
          split <;> omega
      · rw [lsum_add, h5]
        exact Int.le_refl _
    by_cases hT : T (E.getD o default).t = true
    · have k1 := h3.all (fun v => S v || T v) (by simp [S1]) (by simp [S2, T2])
      have k2 := h2.all (fun v => S v && T v) (by simp [S1, T1]) (by simp [S2])
      have key : cutA F s A (fun v => S v || T v) + cutA E s [o] (fun v => S v && T v) ≤ cutA E s A S + cutA F s [o] T := by
        rw [tE, tE]
        unfold cutA
        rw [← lsum_add, ← lsum_add]
        refine lsum_le fun i hi => ?_
        have hi := List.mem_range.1 hi
        have c0 := hc i hi
        simp only
        generalize (E.getD i default).c = cc at c0 ⊢
        by_cases e : i = o
        · subst e
          have := hA i hi hof
          simp only [hof, hS', hT, S1, T1, this, Bool.or_true, Bool.and_true, Bool.true_and, Bool.false_and, Bool.and_false, Bool.or_false, Bool.false_or, List.mem_singleton, not_true_eq_false, and_false, false_and, if_true, if_false, and_self, Bool.true_eq_false, Bool.false_eq_true]
          omega
        · by_cases ef : (E.getD i default).f = s
          · have := hA i hi ef
            simp only [ef, S1, T1]
            cases x : S (E.getD i default).t <;> cases y : T (E.getD i default).t <;> simp [this, e] <;> omega
          · simp only [ef, false_and, if_false, e]
            cases x : S (E.getD i default).t <;> cases y : T (E.getD i default).t <;> cases z : S (E.getD i default).f <;> cases u : T (E.getD i default).f <;> simp <;> omega
      omega
    · have hT' : T (E.getD o default).t = false := by simpa using hT
      have h7 : cutA E s [o] T + d ≤ cutA F s [o] T := by
        have h5 : lsum (List.range E.length) (fun i => if i = o then d else 0) = d := lsum_pick E.length o ho (fun _ => d)
        rw [tE]
        unfold cutA
        refine Int.le_trans (Int.le_of_eq (by rw [← h5, ← lsum_add])) (lsum_le fun i hi => ?_)
        by_cases e : i = o
        · subst e
          rw [hof, T1, hT']
          simp
        · simp [e]
      have h8 := h2.all T T1 T2
      have h9 := h3.all S S1 S2
      have h10 := bump A S
      omega
end Go.Proofs.Ytlpccebackmahaa

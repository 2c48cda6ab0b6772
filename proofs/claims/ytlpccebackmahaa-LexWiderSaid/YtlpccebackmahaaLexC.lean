/- Layer 7: the plain form of a task: what may be, and what is answered. -/
import Derived.Test.YtlpccebackmahaaFlowM
set_option linter.unusedVariables false
set_option linter.unusedSimpArgs false
namespace Go.Proofs.Ytlpccebackmahaa

instance : DecidableEq Ed := fun a b => decidable_of_iff (a.f = b.f ∧ a.t = b.t ∧ a.c = b.c) ⟨fun ⟨h1, h2, h3⟩ => by cases a; cases b; simp_all, fun h => by subst h; exact ⟨rfl, rfl, rfl⟩⟩
def EdOk (N : Int) (e : Ed) : Prop := (0 ≤ e.f ∧ e.f < N) ∧ (0 ≤ e.t ∧ e.t < N) ∧ e.f ≠ e.t ∧ (0 ≤ e.c ∧ e.c ≤ 1000)
instance (N : Int) (e : Ed) : Decidable (EdOk N e) := by unfold EdOk; infer_instance
/-- A network that may be. -/
def NetOk (N : Int) (E : List Ed) : Prop := 2 ≤ N ∧ N ≤ 64 ∧ E.length ≤ 256 ∧ ∀ e ∈ E, EdOk N e
instance (N : Int) (E : List Ed) : Decidable (NetOk N E) := by unfold NetOk; infer_instance
/-- May that be a source? -/
def SrcOk (E : List Ed) (s i : Int) : Prop := 0 ≤ i ∧ i < E.length ∧ (E.getD i.toNat default).f = s
instance (E : List Ed) (s i : Int) : Decidable (SrcOk E s i) := by unfold SrcOk; infer_instance
/-- A task that may be. -/
def TaskOk (N : Int) (E : List Ed) (s t : Int) (order : List Int) : Prop :=
  NetOk N E ∧ (0 ≤ s ∧ s < N) ∧ (0 ≤ t ∧ t < N) ∧ s ≠ t ∧ order.length ≤ E.length ∧ order.Nodup ∧ ∀ i ∈ order, SrcOk E s i
instance (N : Int) (E : List Ed) (s t : Int) (order : List Int) : Decidable (TaskOk N E s t order) := by unfold TaskOk; infer_instance
/-- Raw edges as a walk. -/
def walkI (E : List Ed) (t : Int) : List Int → Int → List Int → Prop
  | _, u, [] => u = t
  | seen, u, i :: es => SrcOk E u i ∧ (E.getD i.toNat default).t ∉ seen ∧ walkI E t ((E.getD i.toNat default).t :: seen) (E.getD i.toNat default).t es
instance walkI_dec (E : List Ed) (t : Int) : ∀ (es : List Int) (seen : List Int) (u : Int), Decidable (walkI E t seen u es)
  | [], seen, u => by unfold walkI; infer_instance
  | i :: es, seen, u => by unfold walkI; have := walkI_dec E t es; infer_instance
/-- Raw edges and a count as a way from a source on. -/
def WayOk (N : Int) (E : List Ed) (s t src : Int) (w : List Int × Int) : Prop := (w.1.length : Int) ≤ N ∧ (0 ≤ w.2 ∧ w.2 ≤ 1000) ∧ w.1.head? = some src ∧ walkI E t [s] s w.1
instance (N : Int) (E : List Ed) (s t src : Int) (w : List Int × Int) : Decidable (WayOk N E s t src w) := by unfold WayOk; infer_instance
def FormOk (N : Int) (E : List Ed) (s t : Int) (order : List Int) (ways : List (List (List Int × Int))) : Prop :=
  TaskOk N E s t order ∧ ways.length ≤ order.length ∧ ∀ i, i < ways.length → ∀ w ∈ ways.getD i [], WayOk N E s t (order.getD i 0) w
instance (N : Int) (E : List Ed) (s t : Int) (order : List Int) (ways : List (List (List Int × Int))) : Decidable (FormOk N E s t order ways) := by unfold FormOk; infer_instance
def natsOf (l : List Int) : List Nat := l.map Int.toNat
def waysN (ways : List (List (List Int × Int))) : List (List (List Nat × Int)) := ways.map fun l => l.map fun w => (natsOf w.1, w.2)
/-- The flow that is filled. -/
def flowR (N : Int) (E : List Ed) (s t : Int) (order : List Int) (ways : List (List (List Int × Int))) : List Int := fillN N.toNat E s t (natsOf order) (waysN ways) order.length
def gotR (order : List Int) (fl : List Int) : List Int := order.map fun i => fl.getD i.toNat 0

theorem TaskOk.lexT {N : Int} {E : List Ed} {s t : Int} {order : List Int} (h : TaskOk N E s t order) : LexT N.toNat E s t (natsOf order) := by
  obtain ⟨⟨h1, h2, h3, h4⟩, hs, ht, hst, hl, hn, ho⟩ := h
  have hN : ((N.toNat : Nat) : Int) = N := by omega
  refine ⟨fun e he => ?_, by omega, h3, fun i hi => ?_, by rw [hN]; exact hs, by rw [hN]; exact ht, hst, ?_, fun i hi => ?_⟩
  · obtain ⟨a, b, c, d⟩ := h4 e he
    rw [hN]
    exact ⟨a, b, c⟩
  · rw [List.getD_eq_getElem?_getD, List.getElem?_eq_getElem hi]
    exact (h4 _ (List.getElem_mem hi)).2.2.2
  · unfold natsOf
    rw [List.nodup_iff_pairwise_ne, List.pairwise_map]
    refine (List.Pairwise.and_mem.1 hn).imp ?_
    rintro a b ⟨ha, hb, hne⟩ e
    obtain ⟨a1, _⟩ := ho a ha
    obtain ⟨b1, _⟩ := ho b hb
    omega
  · obtain ⟨j, hj, rfl⟩ := List.mem_map.1 hi
    obtain ⟨a1, a2, a3⟩ := ho j hj
    exact ⟨by omega, a3⟩
theorem walkI_ok {E : List Ed} {t : Int} : ∀ {es : List Int} {seen : List Int} {u : Int}, walkI E t seen u es → walkOk E t seen u (natsOf es)
  | [], seen, u, h => h
  | i :: es, seen, u, h => by
    obtain ⟨⟨h0, h1, h2⟩, h3, h4⟩ := h
    exact ⟨by omega, h2, h3, walkI_ok h4⟩
theorem FormOk.ways {N : Int} {E : List Ed} {s t : Int} {order : List Int} {ways : List (List (List Int × Int))} (h : FormOk N E s t order ways) : WaysOk E s t (natsOf order) (waysN ways) := by
  obtain ⟨hT, hl, hw⟩ := h
  intro i w hin
  unfold waysN at hin
  by_cases hi : i < ways.length
  · rw [List.getD_eq_getElem?_getD, List.getElem?_map, List.getElem?_eq_getElem hi] at hin
    simp only [Option.map_some, Option.getD_some] at hin
    obtain ⟨v, hv, rfl⟩ := List.mem_map.1 hin
    have := hw i hi v (by rw [List.getD_eq_getElem?_getD, List.getElem?_eq_getElem hi]; exact hv)
    obtain ⟨_, ⟨c0, c1⟩, hh, hk⟩ := this
    refine ⟨c0, walkI_ok hk, ?_⟩
    show (natsOf v.1).head? = (natsOf order)[i]?
    unfold natsOf
    rw [List.head?_map, hh, List.getElem?_map]
    rw [List.getD_eq_getElem?_getD, List.getElem?_eq_getElem (show i < order.length by omega)]
    rfl
  · rw [List.getD_eq_getElem?_getD, List.getElem?_eq_none (by simpa using hi)] at hin
    simp at hin
theorem FormOk.inv {N : Int} {E : List Ed} {s t : Int} {order : List Int} {ways : List (List (List Int × Int))} (h : FormOk N E s t order ways) (i : Nat) (hi : i ≤ order.length) :
    FInv N.toNat E s t (natsOf order) i (fillN N.toNat E s t (natsOf order) (waysN ways) i) :=
  fill_inv h.1.lexT h.ways i (by simpa [natsOf] using hi)
end Go.Proofs.Ytlpccebackmahaa

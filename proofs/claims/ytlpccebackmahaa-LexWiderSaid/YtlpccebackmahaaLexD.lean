/- Layer 7: edges as they are read; billetref05.Right. -/
import Derived.Test.YtlpccebackmahaaLexB
import Derived.Test.YtlpccebackmahaaLexC
set_option linter.unusedVariables false
set_option linter.unusedSimpArgs false
namespace Go.Proofs.Ytlpccebackmahaa
open Go.RowKit

/-- A slice of edges that is read. -/
structure ReadsE (w : World) (A : Option Addr) (E : List Ed) : Prop where
  cell : ∀ i, i < E.length → ∃ bk off, A = some ⟨bk, off, none⟩ ∧ bk < w.heap.size ∧ w.cell? ⟨bk, off + i * 3, none⟩ = some (.int .i64 (E.getD i default).f) ∧
    w.cell? ⟨bk, off + i * 3 + 1, none⟩ = some (.int .i64 (E.getD i default).t) ∧ w.cell? ⟨bk, off + i * 3 + 2, none⟩ = some (.int .i64 (E.getD i default).c)
  len : E.length ≤ maxLen
theorem ReadsE.only {w w' : World} {A : Option Addr} {E : List Ed} (h : ReadsE w A E) {S : Nat → Prop} (ho : Only S w w') (hA : ∀ ad, A = some ad → ¬ S ad.block) : ReadsE w' A E :=
  ⟨fun i hi => by
    obtain ⟨bk, off, h1, h2, h3, h4, h5⟩ := h.cell i hi
    have := hA _ h1
    exact ⟨bk, off, h1, Nat.lt_of_lt_of_le h2 ho.size, (ho.cell (p := ⟨bk, off + i * 3, none⟩) h2 this).trans h3, (ho.cell (p := ⟨bk, off + i * 3 + 1, none⟩) h2 this).trans h4, (ho.cell (p := ⟨bk, off + i * 3 + 2, none⟩) h2 this).trans h5⟩, h.len⟩
theorem ReadsE.fix {w w' : World} {A : Option Addr} {E : List Ed} (h : ReadsE w A E) (ho : Only (fun _ => False) w w') : ReadsE w' A E := h.only ho (fun _ _ x => x)
theorem ReadsI.fix {w w' : World} {A : Option Addr} {xs : List Int} (h : ReadsI w A xs) (ho : Only (fun _ => False) w w') : ReadsI w' A xs := h.only ho (fun _ _ x => x)

theorem edge_at {w : World} {A : Option Addr} {E : List Ed} (h : ReadsE w A E) {i : Nat} (hi : i < E.length) {wr : World} (ho : Only (fun _ => False) w wr) : ∃ bk off, A = some ⟨bk, off, none⟩ ∧ bk < wr.heap.size ∧
    wr.cell? ⟨bk, off + i * 3, none⟩ = some (.int .i64 (E.getD i default).f) ∧ wr.cell? ⟨bk, off + i * 3 + 1, none⟩ = some (.int .i64 (E.getD i default).t) ∧ wr.cell? ⟨bk, off + i * 3 + 2, none⟩ = some (.int .i64 (E.getD i default).c) := (h.fix ho).cell i hi
theorem edok_mk {N f t c : Int} : EdOk N ⟨f, t, c⟩ ↔ (0 ≤ f ∧ f < N) ∧ (0 ≤ t ∧ t < N) ∧ f ≠ t ∧ 0 ≤ c ∧ c ≤ 1000 := Iff.rfl
theorem edok_at {N : Int} {E : List Ed} {k : Nat} (hk : k ≤ E.length) : (∀ e ∈ E, EdOk N e) ↔ (∀ j, j < E.length → EdOk N (E.getD j default)) := by
  constructor
  · intro h j hj
    rw [List.getD_eq_getElem?_getD, List.getElem?_eq_getElem hj]
    exact h _ (List.getElem_mem hj)
  · intro h e he
    obtain ⟨j, hj, rfl⟩ := List.getElem_of_mem he
    have := h j hj
    rw [List.getD_eq_getElem?_getD, List.getElem?_eq_getElem hj] at this
    exact this

set_option maxHeartbeats 1000000 in
theorem r5right_any (N : Int) (A : Option Addr) (c : Nat) (E : List Ed) (w : World) (hE : ReadsE w A E) :
    Calls Try.prog 48 #[.agg #[.int .i64 N, .slice A E.length c]] w fun e w' => e = .returned (.bool (decide (NetOk N E))) ∧ Only (fun _ => False) w w' := by
  have lE := hE.len
  unfold maxLen at lE
  by_cases h0 : 2 ≤ N ∧ N ≤ 64 ∧ E.length ≤ 256
  · obtain ⟨h1, h2, h3⟩ := h0
    go_enter Try.func48, Try.ntmps48
    go_wp2
    go_loopw [3] (fun i wr => ∃ k : Nat, k ≤ E.length ∧ i = .int .i64 k ∧ (∀ j, j < k → EdOk N (E.getD j default)) ∧ Only (fun _ => False) w wr ∧ Only (fun _ => False) (w.alloc (.cells #[.int .i64 N, .slice A E.length c] 24)) wr) (fun i _ => E.length - (intOf i).toNat)
    case atStart => exact ⟨0, Nat.zero_le _, rfl, fun j hj => absurd hj (by omega), (Only.refl _ _).alloc _, Only.refl _ _⟩
    case round =>
      obtain ⟨k, hk, rfl, hok, ho, ho2⟩ := hrel
      have n0 : wr.cell? ⟨w.heap.size, 0, none⟩ = some (.int .i64 N) := (ho2.cell (p := ⟨w.heap.size, 0, none⟩) (by simp) (fun x => x)).trans (by simp [World.cell?_alloc_new])
      have n1 : wr.cell? ⟨w.heap.size, 1, none⟩ = some (.slice A E.length c) := (ho2.cell (p := ⟨w.heap.size, 1, none⟩) (by simp) (fun x => x)).trans (by simp [World.cell?_alloc_new])
      have nb : w.heap.size < wr.heap.size := Nat.lt_of_lt_of_le (by simp) ho2.size
      have HO := Lib.hid ho
      have HO2 := Lib.hid ho2
      have HK := Lib.hid hok
      have HE := Lib.hid hE
      clear ho ho2 hok hE
      by_cases hlt : k < E.length
      · obtain ⟨bk, off, rfl, lb, e0, e1, e2⟩ := edge_at HE.out hlt HO.out
        generalize hed : E.getD k default = ed at *
        obtain ⟨f, t, ca⟩ := ed
        simp only at e0 e1 e2
        have HED := Lib.hid hed
        clear hed
        go_wp2
        case' roundEnd => go_roundw
        case rel => exact ⟨k + 1, by omega, by go_num, fun j hj => by
          rcases Nat.lt_succ_iff_lt_or_eq.1 hj with h | rfl
          · exact HK.out j h
          · rw [HED.out, edok_mk]; omega, HO.out.alloc _, HO2.out.alloc _⟩
        case measure => simp [intOf]; omega
        all_goals (go_ret; refine ⟨ret_boolI ?_, (HO.out.alloc _)⟩; symm; rw [decide_eq_false_iff_not]; intro h; have h2 := (edok_at hk).1 h.2.2.2 k hlt; rw [HED.out, edok_mk] at h2; first | omega | (rename_i hx; rw [beq_iff_eq] at hx; omega) | (rename_i hx; have := eq_of_beq hx; omega) | trace_state)
      · obtain rfl : k = E.length := by omega
        go_wp2
        go_ret
        exact ⟨ret_boolI (by symm; rw [decide_eq_true_iff]; exact ⟨h1, h2, h3, (edok_at (Nat.le_refl _)).2 HK.out⟩), HO.out⟩
  · go_enter Try.func48, Try.ntmps48
    go_wp2
    all_goals (go_ret; exact ⟨ret_boolI (by symm; rw [decide_eq_false_iff_not]; exact fun h => h0 ⟨h.1, h.2.1, h.2.2.1⟩), (Only.refl _ _).alloc _⟩)
end Go.Proofs.Ytlpccebackmahaa

/- Layer 7: graph.Right. -/
import Derived.Test.YtlpccebackmahaaLexD
set_option linter.unusedVariables false
set_option linter.unusedSimpArgs false
namespace Go.Proofs.Ytlpccebackmahaa
open Go.RowKit

abbrev Kept (w w' : World) : Prop := Only (fun _ => False) w w'
theorem within_any (x a b : Int) (w : World) : Calls Try.prog 52 #[.int .i64 x, .int .i64 a, .int .i64 b] w fun e w' => e = .returned (.bool (decide (a ≤ x ∧ x ≤ b))) ∧ w = w' := by
  go_enter Try.func52, Try.ntmps52
  go_wp2
  all_goals (go_ret; exact ⟨ret_boolI (by by_cases h1 : a ≤ x <;> by_cases h2 : x ≤ b <;> simp [h1, h2] <;> omega), rfl⟩)

def Ed.val (e : Ed) : Value := .agg #[.int .i64 e.f, .int .i64 e.t, .int .i64 e.c]
theorem any_of_first {α : Type} (L : List α) (p : α → Bool) (d : α) (k : Nat) (hk : k < L.length) (h : p (L.getD k d) = true) : L.any p = true := by
  rw [List.any_eq_true]
  rw [List.getD_eq_getElem?_getD, List.getElem?_eq_getElem hk] at h
  exact ⟨_, List.getElem_mem hk, h⟩
theorem any_of_none {α : Type} (L : List α) (p : α → Bool) (d : α) (h : ∀ j, j < L.length → p (L.getD j d) = false) : L.any p = false := by
  rw [List.any_eq_false]
  intro x hx
  obtain ⟨j, hj, rfl⟩ := List.getElem_of_mem hx
  have := h j hj
  rw [List.getD_eq_getElem?_getD, List.getElem?_eq_getElem hj] at this
  simpa using this

set_option maxHeartbeats 1000000 in
theorem contE_any (p : Ed → Bool) (lb : Value) (A : Option Addr) (c : Nat) (E : List Ed) (w : World) (hE : ReadsE w A E)
    (hp : ∀ W i, Kept w W → i < E.length → Calls Try.prog 54 #[(E.getD i default).val, lb] W fun e w' => e = .returned (.bool (p (E.getD i default))) ∧ Kept W w') :
    Calls Try.prog 63 #[.slice A E.length c, .func (.func 54) #[] #[lb]] w fun e w' => Kept w w' ∧ ∃ r : Int, e = .returned (.int .i64 r) ∧ E.any p = decide (0 ≤ r) := by
  have lE := hE.len
  unfold maxLen at lE
  go_enter Try.func63, Try.ntmps63
  go_wp2
  go_loopw [5, 8] (fun _ i wr => ∃ k : Nat, k ≤ E.length ∧ i = .int .i64 k ∧ (∀ j, j < k → p (E.getD j default) = false) ∧ Kept w wr) (fun _ i _ => E.length - (intOf i).toNat)
  case atStart => exact ⟨0, Nat.zero_le _, rfl, fun j hj => absurd hj (by omega), Only.refl _ _⟩
  case round =>
    obtain ⟨k, hk, rfl, hok, ho⟩ := hrel
    have HO := Lib.hid ho
    have HK := Lib.hid hok
    have HE := Lib.hid hE
    have HP := Lib.hid hp
    clear ho hok hE hp
    by_cases hlt : k < E.length
    · obtain ⟨bk, off, rfl, lb', e0, e1, e2⟩ := edge_at HE.out hlt HO.out
      have hcall := HP.out wr k HO.out hlt
      have HL := Lib.hid hlt
      generalize hed : E.getD k default = ed at *
      have HED := Lib.hid hed
      clear hed HP
      unfold Ed.val at hcall
      cases hq : p ed with
      | true =>
        rw [hq] at hcall
        have HQ := Lib.hid hq
        clear hq
        go_wp2_with (go_at_call 54; refine hcall.mono ?_; rintro e w' ⟨rfl, hb'⟩; have HB := Lib.hid hb'; clear hb')
        go_ret
        exact ⟨HO.out.trans HB.out, k, rfl, by rw [any_of_first E p default k HL.out (by rw [HED.out]; exact HQ.out)]; symm; rw [decide_eq_true_iff]; omega⟩
      | false =>
        rw [hq] at hcall
        have HQ := Lib.hid hq
        clear hq
        go_wp2_with (go_at_call 54; refine hcall.mono ?_; rintro e w' ⟨rfl, hb'⟩; have HB := Lib.hid hb'; clear hb')
        go_roundw
        case rel => exact ⟨k + 1, by omega, by go_num, fun j hj => by
          rcases Nat.lt_succ_iff_lt_or_eq.1 hj with h | rfl
          · exact HK.out j h
          · rw [HED.out]; exact HQ.out, HO.out.trans HB.out⟩
        case measure => simp [intOf]; omega
    · obtain rfl : k = E.length := by omega
      go_wp2
      go_ret
      exact ⟨HO.out, -1, rfl, by rw [any_of_none E p default HK.out]; rfl⟩
set_option maxHeartbeats 1000000 in
theorem right1_any (N : Int) (ed : Ed) (B : Nat) (w : World) (hn : w.cell? ⟨B, 0, none⟩ = some (.int .i64 N)) (hB : B < w.heap.size) (h2 : 2 ≤ N ∧ N ≤ 64) :
    Calls Try.prog 54 #[ed.val, .pointer (some ⟨B, 0, none⟩)] w fun e w' => e = .returned (.bool (!decide (EdOk N ed))) ∧ Kept w w' := by
  obtain ⟨f, t, c⟩ := ed
  obtain ⟨h2, h3⟩ := h2
  unfold Ed.val
  have hd : EdOk N ⟨f, t, c⟩ ↔ _ := edok_mk
  have HD := Lib.hid hd
  clear hd
  simp only
  go_enter Try.func54, Try.ntmps54
  go_wp2_with (go_at_call 52; refine (within_any _ _ _ _).mono ?_; rintro e w' ⟨rfl, rfl⟩)
  all_goals (go_ret; refine ⟨ret_boolI ?_, (Only.refl _ _).alloc _⟩)
  all_goals (rw [Bool.eq_iff_iff, Bool.not_eq_true', decide_eq_false_iff_not, HD.out]; simp only [Bool.or_eq_true, Bool.and_eq_true, Bool.not_eq_true', decide_eq_true_iff, decide_eq_false_iff_not, beq_iff_eq, true_iff, eq_self_iff_true]; omega)

set_option maxHeartbeats 1000000 in
theorem contEc_any (p : Ed → Bool) (lb : Value) (A : Option Addr) (c : Nat) (E : List Ed) (w : World) (hE : ReadsE w A E)
    (hp : ∀ W i, Kept w W → i < E.length → Calls Try.prog 54 #[(E.getD i default).val, lb] W fun e w' => e = .returned (.bool (p (E.getD i default))) ∧ Kept W w') :
    Calls Try.prog 53 #[.slice A E.length c, .func (.func 54) #[] #[lb]] w fun e w' => e = .returned (.bool (E.any p)) ∧ Kept w w' := by
  have hc := contE_any p lb A c E w hE hp
  have HC := Lib.hid hc
  clear hc hp
  go_enter Try.func53, Try.ntmps53
  go_wp2_with (go_at_call 63; refine HC.out.mono ?_; rintro e w' ⟨hb, r, rfl, hr⟩; have HB := Lib.hid hb; have HR := Lib.hid hr; clear hb hr)
  go_ret
  exact ⟨ret_boolI HR.out.symm, HB.out⟩

set_option maxHeartbeats 1000000 in
theorem gright_any (N : Int) (A : Option Addr) (c : Nat) (E : List Ed) (w : World) (hE : ReadsE w A E) :
    Calls Try.prog 35 #[.agg #[.int .i64 N, .slice A E.length c]] w fun e w' => e = .returned (.bool (decide (NetOk N E))) ∧ Kept w w' := by
  have lE := hE.len
  unfold maxLen at lE
  have hcon : 2 ≤ N → N ≤ 64 → Calls Try.prog 53 #[.slice A E.length c, .func (.func 54) #[] #[.pointer (some ⟨w.heap.size, 0, none⟩)]] (w.alloc (.cells #[.int .i64 N, .slice A E.length c] 24)) fun e w' => e = .returned (.bool (E.any fun e => !decide (EdOk N e))) ∧ Kept (w.alloc (.cells #[.int .i64 N, .slice A E.length c] 24)) w' := fun h2 h3 =>
    contEc_any _ _ A c E _ (hE.fix ((Only.refl _ _).alloc _)) (fun W i hK hi =>
      (right1_any N _ w.heap.size W ((hK.cell (p := ⟨w.heap.size, 0, none⟩) (by simp) (fun x => x)).trans (by simp [World.cell?_alloc_new])) (Nat.lt_of_lt_of_le (by simp) hK.size) ⟨h2, h3⟩))
  have hany : (2 ≤ N ∧ N ≤ 64) ∧ E.length ≤ 256 → (!(E.any fun e => !decide (EdOk N e))) = decide (NetOk N E) := fun h => by
    rw [Bool.eq_iff_iff, Bool.not_eq_true', List.any_eq_false, decide_eq_true_iff]
    unfold NetOk
    constructor
    · intro h'; exact ⟨h.1.1, h.1.2, h.2, fun e he => by simpa using h' e he⟩
    · intro h' e he; simpa using h'.2.2.2 e he
  have hno : ¬((2 ≤ N ∧ N ≤ 64) ∧ E.length ≤ 256) → decide (NetOk N E) = false := fun h => by
    rw [decide_eq_false_iff_not]
    exact fun h' => h ⟨⟨h'.1, h'.2.1⟩, h'.2.2.1⟩
  have HC := Lib.hid hcon
  have HA := Lib.hid hany
  have HN := Lib.hid hno
  have HE := Lib.hid hE
  clear hcon hany hE hno
  generalize (E.any fun e => !decide (EdOk N e)) = r at *
  generalize decide (NetOk N E) = q at *
  by_cases h0 : 2 ≤ N ∧ N ≤ 64
  · have h1 := h0.1
    have h2 := h0.2
    have HQ := Lib.hid (HC.out h1 h2)
    clear HC
    by_cases h3 : E.length ≤ 256
    · obtain rfl := HA.out ⟨h0, h3⟩
      go_enter Try.func35, Try.ntmps35
      go_wp2_with (first | (go_at_call 52; refine (within_any _ _ _ _).mono ?_; rintro e w' ⟨rfl, rfl⟩) | (go_at_call 53; refine HQ.out.mono ?_; rintro e w' ⟨rfl, hb⟩; have HB := Lib.hid hb; clear hb))
      go_ret
      exact ⟨rfl, ((Only.refl _ _).alloc _).trans HB.out⟩
    · obtain rfl := HN.out (by omega)
      go_enter Try.func35, Try.ntmps35
      go_wp2_with (go_at_call 52; refine (within_any _ _ _ _).mono ?_; rintro e w' ⟨rfl, rfl⟩)
      go_ret
      exact ⟨rfl, (Only.refl _ _).alloc _⟩
  · obtain rfl := HN.out (by omega)
    have hd : decide (2 ≤ N ∧ N ≤ 64) = false := by rw [decide_eq_false_iff_not]; exact h0
    have HD := Lib.hid (fun W => (within_any N 2 64 W))
    rw [hd] at HD
    go_enter Try.func35, Try.ntmps35
    go_wp2_with (go_at_call 52; refine (HD.out _).mono ?_; rintro e w' ⟨rfl, rfl⟩)
    go_ret
    exact ⟨rfl, (Only.refl _ _).alloc _⟩
end Go.Proofs.Ytlpccebackmahaa

/- Layer 7: Clone, Clip, room. -/
import Derived.Test.YtlpccebackmahaaLexO
set_option linter.unusedVariables false
set_option linter.unusedSimpArgs false
namespace Go.Proofs.Ytlpccebackmahaa
open Go.RowKit

theorem FlowV.row {w : World} {base g c n : Nat} {fl : List Int} (h : FlowV w base (.slice (some ⟨g, 0, none⟩) n c) fl) : RowI w g fl := by
  have h' : w.ownsRow base 3 1 (.slice (some ⟨g, 0, none⟩) n c) fl.length (fl.map (Value.int .i64)) := h
  rcases h'.2 with ⟨h0, _⟩ | ⟨g', cap, cur, hv, hb, hh, hn, hc, hs, ht⟩
  · cases h0
  · cases hv
    refine ⟨cur, hh, by omega, fun i hi => ?_⟩
    rw [← map_getD fl i hi, ← ht, List.getElem?_take, if_pos (by omega)]
    simp
theorem reads_news {w : World} {bk off : Nat} {fl : List Int} (h : ReadsI w (some ⟨bk, off, none⟩) fl) : ∀ (j : Nat) (u : Value), (fl.map (Value.int .i64))[j]? = some u → w.cell? ((⟨bk, off, none⟩ : Addr).add j) = some u := by
  intro j u hu
  have hj : j < fl.length := by have := (List.getElem?_eq_some_iff.1 hu).1; simpa using this
  rw [map_getD _ _ hj] at hu
  obtain ⟨bk', off', hv, _, hc⟩ := h.cell j hj
  cases hv
  rw [Addr.add_lit, hc, hu]
theorem ints_one (fl : List Int) : ∀ u ∈ fl.map (Value.int .i64), u.oneCell' = true := by
  intro u hu
  obtain ⟨x, _, rfl⟩ := List.mem_map.1 hu
  rfl
theorem notNilI (b o n c : Nat) (W : World) : (binOp .eql 25 (.slice (some ⟨b, o, none⟩) n c) (.slice none 0 0)).run Try.prog W = .ok (.bool false) W := by kernel_rfl
theorem notNilS (b o n c : Nat) (W : World) : (binOp .eql 71 (.slice (some ⟨b, o, none⟩) n c) (.slice none 0 0)).run Try.prog W = .ok (.bool false) W := by kernel_rfl
theorem isNilS (W : World) : (binOp .eql 71 (.slice none 0 0) (.slice none 0 0)).run Try.prog W = .ok (.bool true) W := by kernel_rfl
theorem notNilE (b o n c : Nat) (W : World) : (binOp .eql 22 (.slice (some ⟨b, o, none⟩) n c) (.slice none 0 0)).run Try.prog W = .ok (.bool false) W := by kernel_rfl
set_option maxHeartbeats 1000000 in
set_option maxRecDepth 100000 in
theorem clone_any (bk off c : Nat) (fl : List Int) (w : World) (hF : ReadsI w (some ⟨bk, off, none⟩) fl) (hm : fl.length ≤ 300) :
    Calls Try.prog 45 #[.slice (some ⟨bk, off, none⟩) fl.length c] w fun e w' => ∃ g cap, e = .returned (.slice (some ⟨g, 0, none⟩) fl.length cap) ∧ w.heap.size ≤ g ∧ fl.length ≤ cap ∧ RowI w' g fl ∧ Kept w w' := by
  obtain ⟨i0, hi, hz0, hz1, hz2⟩ := info_parts infoInt
  have hn := reads_news (hF.fix ((Only.refl _ w).alloc (.cells #[] 3)))
  have HN := Lib.hid hn
  have HF := Lib.hid hF
  clear hn hF
  have hnn := notNilI
  go_enter Try.func45, Try.ntmps45
  go_wp2_with (at_builtin; go_loud (refine wpList_append_own _ rfl _ _ 25 rfl w.heap.size 3 i0 _ 1 8 Try.underlying25 hi hz0 hz1 hz2 rfl (by decide) _ 0 [] rfl ⟨rfl, .inr ⟨w.heap.size, 0, #[], rfl, Nat.le_refl _, (MapKept.heap_alloc w _).1, Nat.le_refl _, Nat.zero_le _, rfl, rfl⟩⟩ ⟨bk, off, none⟩ fl.length c (fl.map (Value.int .i64)) rfl (by simp) HN.out (ints_one fl) (by unfold maxLen; omega) (by omega) (by simp) ?_; intro v1 w1 hown1 hgrow1 hnil1; have HN1 := Lib.hid hown1; have HG1 := Lib.hid hgrow1; have HNI := Lib.hid hnil1; clear hown1 hgrow1 hnil1))
  go_ret
  have hfv : FlowV w1 w.heap.size v1 fl := by have := HN1.out; unfold FlowV; simpa using this
  rcases HN1.out.2 with ⟨h0, _⟩ | ⟨g, cap, cur, rfl, hb, hh, hn, hc, hs, ht⟩
  · exact absurd (HNI.out.1 h0).1 (by intro h; cases h)
  · refine ⟨g, cap, by rw [Nat.zero_add]; rfl, hb, by omega, hfv.row, ((Only.refl _ _).alloc _).trans' (Only.of_grown (S := fun k => k = w.heap.size) HG1.out (fun k hk _ => by cases hk; rfl)) (fun _ _ x => x) (fun k hk x => absurd hk (by simp at x ⊢; omega))⟩
set_option maxHeartbeats 1000000 in
theorem clip_any (g n cap : Nat) (w : World) (hn : n ≤ cap) (hm : n ≤ 300) :
    Calls Try.prog 44 #[.slice (some ⟨g, 0, none⟩) n cap] w fun e w' => e = .returned (.slice (some ⟨g, 0, none⟩) n n) ∧ w = w' := by
  go_enter Try.func44, Try.ntmps44
  go_wp2
  go_ret
  exact ⟨rfl, rfl⟩
def stepV (p : St) : Value := .agg #[.int .i64 p.2.1, .int .i64 p.2.2.1, .bool p.2.2.2]
set_option maxHeartbeats 1000000 in
theorem froom_any (N : Int) (p : St) (A B : Option Addr) (c d : Nat) (E : List Ed) (fl : List Int) (w : World) (hE : ReadsE w A E) (hF : ReadsI w B fl) (hN : NetOk N E) (hl : fl.length = E.length) (hs : Small fl) (hp : p.2.2.1 < E.length) :
    Calls Try.prog 47 #[stepV p, .agg #[.int .i64 N, .slice A E.length c], .slice B fl.length d] w fun e w' => e = .returned (.int .i64 (roomAt E fl p)) ∧ Kept w w' := by
  obtain ⟨bk, off, rfl, lb, lb0, e0, e1, e2⟩ := edge_at2 hE hp (Only.refl _ w)
  obtain ⟨bk2, off2, rfl, lb2, lb20, e3⟩ := int_at2 hF (by rw [hl]; exact hp) (Only.refl _ w)
  obtain ⟨s1, s2⟩ := hs p.2.2.1
  obtain ⟨s3, s4⟩ := hN.caps p.2.2.1
  have lE := hN.2.2.1
  rw [hl]
  have HL := Lib.hid hl
  clear hE hF hN hl hs e0 e1
  unfold roomAt stepV
  obtain ⟨pv, pu, pi, pag⟩ := p
  simp only at *
  generalize fl.getD pi 0 = x at *
  generalize (E.getD pi default).c = y at *
  cases pag with
  | true =>
    rw [if_pos rfl]
    go_enter Try.func47, Try.ntmps47
    go_wp2
    go_ret
    exact ⟨rfl, ((Only.refl _ _).alloc _).alloc _⟩
  | false =>
    rw [if_neg (by decide)]
    go_enter Try.func47, Try.ntmps47
    go_wp2
    go_quiet (fail)
    go_wp2
    go_ret
    exact ⟨rfl, (((Only.refl _ _).alloc _).alloc _).drewN _⟩
end Go.Proofs.Ytlpccebackmahaa

/- Layer 7: flow.next walked. -/
import Derived.Test.YtlpccebackmahaaLexN
set_option linter.unusedVariables false
set_option linter.unusedSimpArgs false
namespace Go.Proofs.Ytlpccebackmahaa
open Go.RowKit

theorem way_look {n : Nat} {E : List Ed} {fl : List Int} {s t : Int} {l : List St} (h : wayOf n E fl s t = some l) : ∀ p ∈ l, aget (bfs E fl s n) p.1 = some p.2 := by
  unfold wayOf at h
  split at h
  · cases h
    exact fun p hp => (back_look n t p hp).1
  · cases h
def stCells (l : List St) : List Value := l.flatMap fun p => [.int .i64 p.2.1, .int .i64 p.2.2.1, .bool p.2.2.2]
theorem stCells_len (l : List St) : (stCells l).length = l.length * 3 := by
  unfold stCells
  induction l with
  | nil => rfl
  | cons p l ih => rw [List.flatMap_cons, List.length_append, ih]; simp; omega
theorem stCells_snoc (l : List St) (p : St) : stCells (l ++ [p]) = stCells l ++ [.int .i64 p.2.1, .int .i64 p.2.2.1, .bool p.2.2.2] := by
  unfold stCells
  simp
theorem stCells_get : ∀ (l : List St) (k : Nat), k < l.length → (stCells l)[k * 3]? = some (.int .i64 (l.getD k default).2.1) ∧ (stCells l)[k * 3 + 1]? = some (.int .i64 (l.getD k default).2.2.1) ∧ (stCells l)[k * 3 + 2]? = some (.bool (l.getD k default).2.2.2)
  | [], k, h => by simp at h
  | p :: l, 0, h => ⟨rfl, rfl, rfl⟩
  | p :: l, k + 1, h => by
    have ih := stCells_get l k (by simpa using h)
    have e : stCells (p :: l) = [Value.int .i64 p.2.1, .int .i64 p.2.2.1, .bool p.2.2.2] ++ stCells l := by unfold stCells; rw [List.flatMap_cons]
    rw [e]
    refine ⟨?_, ?_, ?_⟩
    · rw [List.getElem?_append_right (by simp; omega)]; simpa [show (k + 1) * 3 - 3 = k * 3 by omega] using ih.1
    · rw [List.getElem?_append_right (by simp; omega)]; simpa [show (k + 1) * 3 + 1 - 3 = k * 3 + 1 by omega] using ih.2.1
    · rw [List.getElem?_append_right (by simp; omega)]; simpa [show (k + 1) * 3 + 2 - 3 = k * 3 + 2 by omega] using ih.2.2
theorem infoStep : (Try.prog.info? 74).map (fun i => (i.zero, i.size, i.bytes)) = some (some (.agg #[.int .i64 0, .int .i64 0, .bool false]), 3, 24) := by kernel_rfl
theorem three_new_at (w : World) (a b c : Value) (t : TypeId) {g : Nat} (hg : g = w.heap.size) : ∀ j u, [a, b, c][j]? = some u → (w.alloc (.cells #[a, b, c] t)).cell? ((⟨g, 0, none⟩ : Addr).add j) = some u := by
  intro j u hu
  subst hg
  rw [Addr.add_lit, Nat.zero_add, World.cell?_alloc_new, ← hu]
  simp

theorem field_from (a b : Int) (c : Bool) (W : World) : (Instr.field 74 (.agg #[.int .i64 a, .int .i64 b, .bool c]) 0).run Try.prog W = .ok (.int .i64 a) W := by kernel_rfl

set_option maxHeartbeats 4000000 in
set_option maxRecDepth 100000 in
theorem fnext_any (N s t : Int) (A B : Option Addr) (c d : Nat) (E : List Ed) (fl : List Int) (w : World) (hE : ReadsE w A E) (hF : ReadsI w B fl) (hN : NetOk N E) (hl : fl.length = E.length) (hs : 0 ≤ s ∧ s < N) (ht : 0 ≤ t ∧ t < N) (hst : s ≠ t) :
    Calls Try.prog 46 #[.agg #[.int .i64 N, .slice A E.length c], .slice B fl.length d, .int .i64 s, .int .i64 t] w fun e w' =>
      Kept w w' ∧ match wayOf N.toNat E fl s t with
      | none => e = .returned (.slice none 0 0)
      | some l => ∃ v, e = .returned v ∧ w'.ownsRow w.heap.size 74 3 v l.length (stCells l) := by
  have hcall := fsearch_any N s A B c d E fl (w.alloc (.cells #[.int .i64 N, .slice A E.length c] 24)) (hE.fix ((Only.refl _ _).alloc _)) (hF.fix ((Only.refl _ _).alloc _)) hN hl hs
  have n2 := hN.1
  have n3 := hN.2.1
  have hEn := hN.ends
  obtain ⟨n, rfl⟩ : ∃ n : Nat, N = n := ⟨N.toNat, by omega⟩
  rw [Int.toNat_natCast] at *
  have HC := Lib.hid hcall
  have HEN := Lib.hid hEn
  have HSV := Lib.hid hs
  rw [hl] at *
  clear hE hF hcall hN hEn hl hs ht
  have hmt := Try.underlying86
  cases hwo : wayOf n E fl s t with
  | none =>
    have hout : aget (bfs E fl s n) t = none := by
      unfold wayOf at hwo
      split at hwo
      · cases hwo
      · rename_i h; exact aget_out h
    have HO := Lib.hid hout
    clear hwo hout hmt
    go_enter Try.func46, Try.ntmps46
    go_wp2_with (go_at_call 62; refine HC.out.mono ?_; rintro e w2 ⟨g, rfl, hg, hm, hk⟩; have hlk := run_look_none (P := Try.prog) (keyK_int .i64) Try.underlying86 Try.underlying3 (zeroStep _) hm HO.out true; simp only [if_true] at hlk; have HM := Lib.hid hm; have HK := Lib.hid hk; clear hm hk)
    go_ret
    exact ⟨((((Only.refl _ _).alloc _).trans HK.out).alloc _), rfl⟩
  | some l =>
    have hlook := way_look hwo
    have hch := wayOf_chain HEN.out HSV.out hwo
    have hlen := (wayR HEN.out HSV.out hwo).len
    have hpos := hch.pos hst
    have HLK := Lib.hid hlook
    have HCH := Lib.hid hch
    obtain ⟨q, hq⟩ : ∃ q, aget (bfs E fl s n) t = some q := by
      unfold wayOf at hwo
      split at hwo
      · rename_i h; exact aget_in h
      · cases hwo
    obtain ⟨qa, qb, qc⟩ := q
    have HQ := Lib.hid hq
    clear hwo hlook hch hq hmt
    obtain ⟨i0, hi, hz0, hz1, hz2⟩ := info_parts infoStep
    have hfld := field_from
    go_enter Try.func46, Try.ntmps46
    go_wp2_with (go_at_call 62; refine HC.out.mono ?_; rintro e w2 ⟨g, rfl, hg, hm, hk⟩; have hlk := run_look_some (P := Try.prog) (keyK_int .i64) Try.underlying86 Try.underlying3 hm HQ.out true; simp only [if_true, stV] at hlk; have HM := Lib.hid hm; have HK := Lib.hid hk; clear hm hk)
    have hml := HM.out.lt
    go_loopg [8, 12] (l.length + 1) (fun gk vw v wq => ∃ (u : Int) (l1 l2 : List St), l = l1 ++ l2 ∧ l2.length < gk ∧ v = .int .i64 u ∧ Chain E fl s u l2 ∧ wq.ownsRow w2.heap.size 74 3 vw l1.length (stCells l1) ∧ Kept w2 wq)
    case atStart => exact ⟨t, [], l, rfl, by omega, rfl, HCH.out, ⟨rfl, .inl ⟨rfl, rfl⟩⟩, (Only.refl _ _).alloc _⟩
    case round =>
      obtain ⟨u, l1, l2, hl, hgk, rfl, hch2, hr, ho⟩ := hrel
      obtain ⟨A2, cc2, hv2⟩ := row_slice hr
      subst hv2
      have hsz := ho.size
      have HR := Lib.hid hr
      have HO := Lib.hid ho
      have hkl : l1.length + l2.length = l.length := by rw [hl, List.length_append]
      clear hr ho hlk
      cases l2 with
      | nil =>
        have hus : u = s := hch2
        have HL1 := Lib.hid (show l = l1 by rw [hl, List.append_nil])
        clear hl hkl hch2
        subst hus
        go_wp2
        go_ret
        exact ⟨(((Only.refl _ _).alloc _).trans HK.out).trans HO.out, _, rfl, by rw [HL1.out]; exact row_base HR.out (by have := HK.out.size; simp at this; omega)⟩
      | cons p l2 =>
        have hlm : p ∈ l := by rw [hl]; exact List.mem_append_right _ List.mem_cons_self
        have hag := HLK.out p hlm
        obtain ⟨hp1, hus, hei, hd, hnin, hch3⟩ := hch2
        have hbus : (u == s) = false := by simpa using hus
        obtain ⟨pv, pu, pi, pag⟩ := p
        simp only at hp1 hei hd hch3 hag
        subst hp1
        have hlk := run_look_some (P := Try.prog) (keyK_int .i64) Try.underlying86 Try.underlying3 (HM.out.of_heap (HO.out.block _ hml (fun x => x))) hag false
        simp only [Bool.false_eq_true, if_false, stV] at hlk
        have HL2 := Lib.hid (show l = (l1 ++ [(pv, (pu, pi, pag))]) ++ l2 by rw [hl]; simp)
        have HCH3 := Lib.hid hch3
        have HAG := Lib.hid hag
        have HGK := Lib.hid hgk
        have hl1 : l1.length < n := by simp at hkl; omega
        clear hl hd hnin hch3 hag hus hlm hei hkl hgk
        go_wp2_with (at_builtin; go_loud (refine wpList_append_own _ rfl _ _ 71 rfl w2.heap.size 74 i0 _ 3 24 Try.underlying71 hi hz0 hz1 hz2 rfl (by decide) _ _ _ rfl (RowOwned.alloc HR.out _) ⟨_, 0, none⟩ 1 1 [.int .i64 pu, .int .i64 pi, .bool pag] rfl rfl (three_new_at _ _ _ _ _ rfl) (by simp [Value.oneCell']) (by unfold maxLen; omega) (by omega) (by simp; omega) ?_; intro v1 w3 hown1 hgrow1 hnil1; have ho3 := app_only HR.out hgrow1 ((Only.refl _ _).alloc _); have hlk3 := run_look_some (P := Try.prog) (keyK_int .i64) Try.underlying86 Try.underlying3 ((HM.out.of_heap (HO.out.block _ hml (fun x => x))).of_heap (ho3.block _ (by omega) (by omega))) HAG.out false; simp only [Bool.false_eq_true, if_false, stV] at hlk3; have HO3 := Lib.hid ho3; have HN1 := Lib.hid hown1; clear hown1 hgrow1 hnil1 ho3))
        go_roundg (gk - 1)
        case measure => have := HGK.out; simp at this; omega
        case rel =>
          refine ⟨pu, l1 ++ [(pv, (pu, pi, pag))], l2, HL2.out, by have := HGK.out; simp at this; omega, rfl, HCH3.out, ?_, HO.out.trans' HO3.out (fun _ _ x => x) (fun q hq x => absurd x (by omega))⟩
          rw [stCells_snoc, List.length_append]
          exact HN1.out
end Go.Proofs.Ytlpccebackmahaa

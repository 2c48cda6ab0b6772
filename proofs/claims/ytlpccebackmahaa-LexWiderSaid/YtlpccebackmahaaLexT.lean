/- Layer 7: billetref07.Open walked; billetref06.Max. -/
import Derived.Test.YtlpccebackmahaaLexR
set_option linter.unusedVariables false
set_option linter.unusedSimpArgs false
namespace Go.Proofs.Ytlpccebackmahaa
open Go.RowKit

def edCells (E : List Ed) : List Value := E.flatMap fun e => [.int .i64 e.f, .int .i64 e.t, .int .i64 e.c]
theorem edCells_len (E : List Ed) : (edCells E).length = E.length * 3 := by
  unfold edCells
  induction E with
  | nil => rfl
  | cons p l ih => rw [List.flatMap_cons, List.length_append, ih]; simp; omega
theorem edCells_snoc (E : List Ed) (e : Ed) : edCells (E ++ [e]) = edCells E ++ [.int .i64 e.f, .int .i64 e.t, .int .i64 e.c] := by
  unfold edCells
  simp
theorem edCells_get : ∀ (l : List Ed) (k : Nat), k < l.length → (edCells l)[k * 3]? = some (.int .i64 (l.getD k default).f) ∧ (edCells l)[k * 3 + 1]? = some (.int .i64 (l.getD k default).t) ∧ (edCells l)[k * 3 + 2]? = some (.int .i64 (l.getD k default).c)
  | [], k, h => by simp at h
  | p :: l, 0, h => ⟨rfl, rfl, rfl⟩
  | p :: l, k + 1, h => by
    have ih := edCells_get l k (by simpa using h)
    have e : edCells (p :: l) = [Value.int .i64 p.f, .int .i64 p.t, .int .i64 p.c] ++ edCells l := by unfold edCells; rw [List.flatMap_cons]
    rw [e]
    refine ⟨?_, ?_, ?_⟩
    · rw [List.getElem?_append_right (by simp; omega)]; simpa [show (k + 1) * 3 - 3 = k * 3 by omega] using ih.1
    · rw [List.getElem?_append_right (by simp; omega)]; simpa [show (k + 1) * 3 + 1 - 3 = k * 3 + 1 by omega] using ih.2.1
    · rw [List.getElem?_append_right (by simp; omega)]; simpa [show (k + 1) * 3 + 2 - 3 = k * 3 + 2 by omega] using ih.2.2
theorem infoEdge : (Try.prog.info? 50).map (fun i => (i.zero, i.size, i.bytes)) = some (some (.agg #[.int .i64 0, .int .i64 0, .int .i64 0]), 3, 24) := by kernel_rfl
/-- Edges in a row of their own. -/
theorem edges_of_row {w : World} {base n c : Nat} {A : Option Addr} {E : List Ed} (h : w.ownsRow base 50 3 (.slice A n c) E.length (edCells E)) (hm : E.length ≤ 300) : ReadsE w A E := by
  refine ⟨fun i hi => ?_, by unfold maxLen; omega⟩
  obtain ⟨g, c', hv, _, hl, hc⟩ := row_parts3 h (by omega)
  cases hv
  obtain ⟨h1, h2, h3⟩ := edCells_get E i hi
  refine ⟨g, 0, rfl, hl, ?_, ?_, ?_⟩
  · rw [Nat.zero_add, hc _ (by omega)]; exact h1
  · rw [Nat.zero_add, hc _ (by omega)]; exact h2
  · rw [Nat.zero_add, hc _ (by omega)]; exact h3
theorem opn_take (E : List Ed) (s : Int) (A : List Nat) (k : Nat) (hk : k < E.length) : (opn E s A).take (k + 1) = (opn E s A).take k ++ [(opn E s A).getD k default] := take_snoc _ _ _ (by rw [opn_length]; exact hk)
theorem any_take {xs : List Int} {i : Int} {j : Nat} (hj : j < xs.length) : (xs.take (j + 1)).any (fun x => x == i) = ((xs.take j).any (fun x => x == i) || (xs.getD j 0 == i)) := by
  rw [take_snoc xs j 0 hj, List.any_append]
  simp

theorem opn_at (E : List Ed) (s : Int) (xs : List Int) (k : Nat) (hk : k < E.length) (h0 : ∀ x ∈ xs, 0 ≤ x) :
    (opn E s (natsOf xs)).getD k default = if (((E.getD k default).f != s) || xs.any (fun x => x == (k : Int))) = true then E.getD k default else { E.getD k default with c := 0 } := by
  rw [opn_get _ _ _ _ hk]
  have hm : k ∈ natsOf xs ↔ xs.any (fun x => x == (k : Int)) = true := by
    unfold natsOf
    rw [List.mem_map, List.any_eq_true]
    constructor
    · rintro ⟨x, hx, h⟩; exact ⟨x, hx, by have := h0 x hx; rw [beq_iff_eq]; omega⟩
    · rintro ⟨x, hx, h⟩; rw [beq_iff_eq] at h; exact ⟨x, hx, by omega⟩
  by_cases h1 : (E.getD k default).f = s
  · by_cases h2 : xs.any (fun x => x == (k : Int)) = true
    · rw [if_neg (fun h => h.2 (hm.2 h2)), if_pos (by rw [h2, Bool.or_true])]
    · rw [if_pos ⟨h1, fun h => h2 (hm.1 h)⟩, if_neg (by rw [h1, bne_self_eq_false, Bool.false_or]; exact h2)]
  · rw [if_neg (fun h => h1 h.1), if_pos (by rw [show ((E.getD k default).f != s) = true by simpa using h1, Bool.true_or])]
theorem three_allocs (w : World) (a b c : Obj) : (((w.alloc a).alloc b).alloc c).heap[w.heap.size]? = some a ∧ (((w.alloc a).alloc b).alloc c).heap[w.heap.size + 1]? = some b ∧ (((w.alloc a).alloc b).alloc c).heap[w.heap.size + 2]? = some c := by
  have s1 : (w.alloc a).heap.size = w.heap.size + 1 := by simp
  have s2 : ((w.alloc a).alloc b).heap.size = w.heap.size + 2 := by simp
  refine ⟨?_, ?_, ?_⟩
  · rw [heap_alloc_old _ c (by rw [s2]; omega), heap_alloc_old _ b (by rw [s1]; omega)]; exact heap_alloc_new w a
  · rw [heap_alloc_old _ c (by rw [s2]; omega), ← s1]; exact heap_alloc_new _ b
  · rw [← s2]; exact heap_alloc_new _ c
theorem obj_cell {w : World} {b : Nat} {cs : Array Value} {t : TypeId} (h : w.heap[b]? = some (.cells cs t)) (i : Nat) : w.cell? ⟨b, i, none⟩ = cs[i]? := by
  unfold World.cell?
  simp [h]
theorem obj_fr {w : World} {b : Nat} {cs : Array Value} {t : TypeId} (h : w.heap[b]? = some (.cells cs t)) (i : Nat) : w.frozen? ⟨b, i, none⟩ = false := by
  simp [World.frozen?, h]

set_option maxHeartbeats 4000000 in
set_option maxRecDepth 100000 in
theorem r7open_any (N s : Int) (A B : Option Addr) (c d : Nat) (E : List Ed) (xs : List Int) (w : World) (hE : ReadsE w A E) (hX : ReadsI w B xs) (hm : E.length ≤ 256) (h0 : ∀ x ∈ xs, 0 ≤ x) :
    Calls Try.prog 19 #[.agg #[.int .i64 N, .slice A E.length c], .int .i64 s, .slice B xs.length d] w fun e w' => ∃ A' c',
      e = .returned (.agg #[.int .i64 N, .slice A' E.length c']) ∧ ReadsE w' A' (opn E s (natsOf xs)) ∧ (∀ ad, A' = some ad → w.heap.size ≤ ad.block) ∧ Kept w w' := by
  have lx := hX.len
  unfold maxLen at lx
  have HE := Lib.hid hE
  have HX := Lib.hid hX
  have H0 := Lib.hid h0
  clear hE hX h0
  obtain ⟨i0, hi, hz0, hz1, hz2⟩ := info_parts infoEdge
  go_enter Try.func19, Try.ntmps19
  go_wp2
  go_loopw [8] (fun i wr => ∃ (k : Nat) (v : Value), k ≤ E.length ∧ i = .int .i64 k ∧ wr.heap[w.heap.size + 2]? = some (.cells #[.int .i64 N, v] 24) ∧ wr.ownsRow (w.heap.size + 3) 50 3 v k (edCells ((opn E s (natsOf xs)).take k)) ∧
    Only (fun b => w.heap.size + 2 ≤ b) (((w.alloc (.cells #[.int .i64 N, .slice A E.length c] 24)).alloc (.cells #[.int .i64 0, .slice none 0 0] 24)).alloc (.cells #[.int .i64 N, .slice none 0 0] 24)) wr) (fun i _ => E.length - (intOf i).toNat)
  case atStart =>
    refine ⟨0, .slice none 0 0, Nat.zero_le _, rfl, ?_, ⟨rfl, .inl ⟨rfl, rfl⟩⟩, Only.refl _ _⟩
    have := (MapKept.heap_alloc ((w.alloc (.cells #[.int .i64 N, .slice A E.length c] 24)).alloc (.cells #[.int .i64 0, .slice none 0 0] 24)) (.cells #[.int .i64 N, .slice none 0 0] 24)).1
    simpa using this
  case round =>
    obtain ⟨k, v, hk, rfl, hob, hrow, ho⟩ := hrel
    obtain ⟨A2, cc2, hv2⟩ := row_slice hrow
    subst hv2
    obtain ⟨a1, a2, _⟩ := three_allocs w (.cells #[.int .i64 N, .slice A E.length c] 24) (.cells #[.int .i64 0, .slice none 0 0] 24) (.cells #[.int .i64 N, .slice none 0 0] 24)
    have a1' := (ho.block w.heap.size (by simp; omega) (by omega)).trans a1
    have a2' := (ho.block (w.heap.size + 1) (by simp) (by omega)).trans a2
    have q0 := obj_cell a1' 0
    have q1 := obj_cell a1' 1
    have r0 := obj_cell a2' 0
    have r1 := obj_cell a2' 1
    have fr0 := obj_fr a2' 0
    have fr1 := obj_fr a2' 1
    simp only [List.getElem?_toArray, List.getElem?_cons_zero, List.getElem?_cons_succ] at q0 q1 r0 r1
    have hsz : w.heap.size + 3 ≤ wr.heap.size := by have := ho.size; simp at this; omega
    have o0 := obj_cell hob 0
    have o1 := obj_cell hob 1
    have of0 := obj_fr hob 0
    have of1 := obj_fr hob 1
    simp only [List.getElem?_toArray, List.getElem?_cons_zero, List.getElem?_cons_succ] at o0 o1
    have HOB := Lib.hid hob
    have HROW := Lib.hid hrow
    have HO := Lib.hid ho
    have HKP := Lib.hid (show Kept w wr from ((((Only.refl _ w).alloc _).alloc _).alloc _).trans' ho (fun _ _ x => x) (fun q hq x => absurd x (by omega)))
    clear hob hrow ho a1 a2 a1' a2'
    by_cases hlt : k < E.length
    · obtain ⟨bk, off, rfl, lb, lb0, e0, e1, e2⟩ := edge_at2 HE.out hlt HKP.out
      have hop := opn_at E s (natsOf xs |>.map Int.ofNat) k hlt (fun x hx => by obtain ⟨y, _, rfl⟩ := List.mem_map.1 hx; exact Int.natCast_nonneg y)
      clear hop
      have hop := opn_at E s xs k hlt H0.out
      have htk := opn_take E s (natsOf xs) k hlt
      have HOP := Lib.hid hop
      have HTK := Lib.hid htk
      clear hop htk
      generalize hed : E.getD k default = ed at *
      have HED := Lib.hid hed
      clear hed
      obtain ⟨f, t, ca⟩ := ed
      simp only at e0 e1 e2
      rename World => wo
      go_wp2
      go_loopw [10, 11] (fun vo i wr2 => ∃ j : Nat, j ≤ xs.length ∧ i = .int .i64 j ∧ vo = .bool ((f != s) || (xs.take j).any (fun x => x == (k : Int))) ∧ Kept (wo.alloc (.cells #[.int .i64 f, .int .i64 t, .int .i64 ca] 50)) wr2) (fun _ i _ => xs.length - (intOf i).toNat)
      case atStart => exact ⟨0, Nat.zero_le _, rfl, by simp, Only.refl _ _⟩
      case round =>
        obtain ⟨j, hj, rfl, rfl, ho2⟩ := hrel
        have HO2 := Lib.hid ho2
        clear ho2
        by_cases hlt2 : j < xs.length
        · obtain ⟨bk3, off3, hb3, lb3, lb30, e3⟩ := int_at2 HX.out hlt2 ((HKP.out.alloc _).trans HO2.out)
          subst hb3
          have hat := any_take (i := (k : Int)) hlt2
          have HAT := Lib.hid hat
          clear hat
          generalize hy : xs.getD j 0 = y at *
          have HY := Lib.hid hy
          clear hy
          generalize hbb : (f != s || (xs.take j).any (fun x => x == (k : Int))) = bb at *
          have HBB := Lib.hid hbb
          clear hbb
          cases bb with
          | true =>
            go_wp2
            go_roundw
            case rel => exact ⟨j + 1, by omega, by go_num, by rw [HAT.out, ← Bool.or_assoc, HBB.out]; rfl, HO2.out⟩
            case measure => simp [intOf]; omega
          | false =>
            go_wp2
            go_roundw
            case rel => exact ⟨j + 1, by omega, by go_num, by rw [HAT.out, ← Bool.or_assoc, HBB.out]; rfl, HO2.out⟩
            case measure => simp [intOf]; omega
        · obtain rfl : j = xs.length := by omega
          clear hlt2
          rw [List.take_length] at *
          have hsz2 : wo.heap.size + 1 ≤ wr.heap.size := by have := HO2.out.size; simp at this; omega
          have hk2 : Kept wo wr := ((Only.refl _ _).alloc _).trans HO2.out
          have hob2 := (hk2.block (w.heap.size + 2) (by omega) (fun x => x)).trans HOB.out
          have heb := (HO2.out.block wo.heap.size (by simp) (fun x => x)).trans (heap_alloc_new _ _)
          have x0 := obj_cell heb 0
          have x1 := obj_cell heb 1
          have x2 := obj_cell heb 2
          have xf := obj_fr heb 2
          have y0 := obj_cell hob2 0
          have y1 := obj_cell hob2 1
          have yf0 := obj_fr hob2 0
          have yf1 := obj_fr hob2 1
          simp only [List.getElem?_toArray, List.getElem?_cons_zero, List.getElem?_cons_succ] at x0 x1 x2 y0 y1
          have HK2 := Lib.hid hk2
          have HOB2 := Lib.hid hob2
          have HEB := Lib.hid heb
          clear hk2 hob2 heb
          have hne1 : wo.heap.size ≠ w.heap.size + 2 := by omega
          have hne2 : w.heap.size + 2 ≠ wo.heap.size := by omega
          have HR2 := Lib.hid (ownsRow_fix HROW.out HK2.out)
          generalize hbb : (f != s || xs.any (fun x => x == (k : Int))) = bb at *
          have HBB := Lib.hid hbb
          clear hbb
          cases bb with
          | true =>
            rw [if_pos rfl] at HOP
            go_wp2_with (at_builtin; go_loud (refine wpList_append_own _ rfl _ _ 22 rfl (w.heap.size + 3) 50 i0 _ 3 24 Try.underlying22 hi hz0 hz1 hz2 rfl (by decide) _ _ _ rfl (RowOwned.alloc HR2.out _) ⟨_, 0, none⟩ 1 1 [.int .i64 f, .int .i64 t, .int .i64 ca] rfl rfl (three_new_at _ _ _ _ _ rfl) (by simp [Value.oneCell']) (by unfold maxLen; omega) (by omega) (by simp; omega) ?_; intro v1 w3 hown1 hgrow1 hnil1; obtain ⟨A4, cc4, hv4⟩ := row_slice hown1; subst hv4; have ho3 := app_only HR2.out hgrow1 ((Only.refl _ _).alloc _); have hob3 := (ho3.block (w.heap.size + 2) (by omega) (by omega)).trans HOB2.out; have z1 := obj_cell hob3 1; have zf := obj_fr hob3 1; simp only [List.getElem?_toArray, List.getElem?_cons_zero, List.getElem?_cons_succ] at z1; have HOB3 := Lib.hid hob3; have HO3 := Lib.hid ho3; have HN1 := Lib.hid hown1; clear hown1 hgrow1 hnil1 ho3 hob3))
            go_roundw
            case rel =>
              refine ⟨k + 1, .slice A4 (k + 1) cc4, by omega, by go_num, ?_, ?_, ?_⟩
              · have := rblk_setCell (i := 1) HOB3.out (.slice A4 (k + 1) cc4)
                simpa using this
              · refine ownsRow_setCell_ne ?_ (fun q hq => by have := row_at HN1.out q hq; show q ≠ w.heap.size + 1 + 1; omega) _
                rw [HTK.out, edCells_snoc, HOP.out]
                exact HN1.out
              · exact ((HO.out.trans' HK2.out (fun _ _ x => x) (fun _ _ x => x.elim)).trans' HO3.out (fun _ _ x => x) (fun q hq x => by omega)).store _ _ (fun _ => by omega) _
            case measure => simp [intOf]; omega
          | false =>
            rw [if_neg (by decide)] at HOP
            have HR3 := Lib.hid (ownsRow_setCell_ne (a := ⟨wo.heap.size, 2, none⟩) HR2.out (fun q hq => by have := (World.ownsRow.lt HROW.out q hq).2; show q ≠ wo.heap.size; omega) (.int .i64 0))
            have HOB4 := Lib.hid (show (wr.setCell ⟨wo.heap.size, 2, none⟩ (.int .i64 0)).heap[w.heap.size + 2]? = _ from (Below.heap_setCell wr ⟨wo.heap.size, 2, none⟩ (.int .i64 0) (w.heap.size + 2) (by omega)).trans HOB2.out)
            go_wp2_with (at_builtin; go_loud (refine wpList_append_own _ rfl _ _ 22 rfl (w.heap.size + 3) 50 i0 _ 3 24 Try.underlying22 hi hz0 hz1 hz2 rfl (by decide) _ _ _ rfl (RowOwned.alloc HR3.out _) ⟨_, 0, none⟩ 1 1 [.int .i64 f, .int .i64 t, .int .i64 0] rfl rfl (three_new_at _ _ _ _ _ (by simp [World.setCell])) (by simp [Value.oneCell']) (by unfold maxLen; omega) (by omega) (by simp; omega) ?_; intro v1 w3 hown1 hgrow1 hnil1; obtain ⟨A4, cc4, hv4⟩ := row_slice hown1; subst hv4; have ho3 := app_only HR3.out hgrow1 ((Only.refl _ _).alloc _); have hob3 := (ho3.block (w.heap.size + 2) (by simp [World.setCell]; omega) (by omega)).trans HOB4.out; have z1 := obj_cell hob3 1; have zf := obj_fr hob3 1; simp only [List.getElem?_toArray, List.getElem?_cons_zero, List.getElem?_cons_succ] at z1; have HOB3 := Lib.hid hob3; have HO3 := Lib.hid ho3; have HN1 := Lib.hid hown1; clear hown1 hgrow1 hnil1 ho3 hob3))
            go_roundw
            case rel =>
              refine ⟨k + 1, .slice A4 (k + 1) cc4, by omega, by go_num, ?_, ?_, ?_⟩
              · have := rblk_setCell (i := 1) HOB3.out (.slice A4 (k + 1) cc4)
                simpa using this
              · refine ownsRow_setCell_ne ?_ (fun q hq => by have := row_at HN1.out q hq; show q ≠ w.heap.size + 1 + 1; omega) _
                rw [HTK.out, edCells_snoc, HOP.out]
                exact HN1.out
              · exact (((HO.out.trans' HK2.out (fun _ _ x => x) (fun _ _ x => x.elim)).store wo.heap.size 2 (fun h => by have := HO.out.size; omega) _).trans' HO3.out (fun _ _ x => x) (fun q hq x => by omega)).store _ _ (fun _ => by omega) _
            case measure => simp [intOf]; omega
    · obtain rfl : k = E.length := by omega
      clear hlt
      rw [List.take_of_length_le (by rw [opn_length]; exact Nat.le_refl _)] at HROW
      have hfin := ownsRow_fix HROW.out (Only.refl (fun _ => False) wr)
      go_wp2
      refine bodyPost_ret (v := .agg #[.int .i64 N, .slice A2 E.length cc2]) ?_ rfl ?_
      · simp only [results]
        go_simp
      · refine ⟨A2, cc2, rfl, ?_, fun ad had => ?_, ?_⟩
        · have hr : ReadsE wr A2 (opn E s (natsOf xs)) := edges_of_row (n := E.length) (c := cc2) (by rw [opn_length]; exact HROW.out) (by rw [opn_length]; omega)
          exact hr.only ((store_only _ (w.heap.size + 1) 0 _).trans (store_only _ (w.heap.size + 1) 1 _)) (fun ad had => by
            obtain ⟨ad2, h3, h4⟩ : ∃ ad2 : Addr, A2 = some ad2 ∧ ad2 = ad := ⟨ad, had, rfl⟩
            subst h3
            have := row_at HROW.out ad2.block rfl
            subst h4
            omega)
        · subst had
          have := row_at HROW.out ad.block rfl
          omega
        · exact (HKP.out.store _ _ (fun h => absurd h (by simp)) _).store _ _ (fun h => absurd h (by simp)) _
end Go.Proofs.Ytlpccebackmahaa

/- Layer 7: the predicate of Fill; Clone of edges; edges that are written in place. -/
import Derived.Test.YtlpccebackmahaaLexX
set_option linter.unusedVariables false
set_option linter.unusedSimpArgs false
namespace Go.Proofs.Ytlpccebackmahaa
open Go.RowKit

set_option maxHeartbeats 1000000 in
theorem fill1_any (x : WayR0) (Xo Xi k d : Nat) (B : Option Addr) (order : List Int) (w : World) (hx : ReadsI w x.eA x.es) (hO : ReadsI w B order) (hk : k < order.length) (ho : w.cell? ⟨Xo, 0, none⟩ = some (.slice B order.length d)) (hi : w.cell? ⟨Xi, 0, none⟩ = some (.int .i64 k)) (lo : Xo < w.heap.size) (li : Xi < w.heap.size) :
    Calls Try.prog 25 #[x.val, .pointer (some ⟨Xo, 0, none⟩), .pointer (some ⟨Xi, 0, none⟩)] w fun e w' => e = .returned (.bool (!decide (x.es.head? = some (order.getD k 0)))) ∧ Kept w w' := by
  obtain ⟨es, ct, eA, ec⟩ := x
  unfold WayR0.val
  simp only at hx ⊢
  obtain ⟨bk, off, rfl, lb, lb0, e0⟩ := int_at2 hO hk (Only.refl _ w)
  have HX := Lib.hid hx
  have ik : (k : Int) < (order.length : Int) := by omega
  clear hx hO
  by_cases h0 : 0 < es.length
  · obtain ⟨bk2, off2, rfl, lb2, lb20, e1⟩ := int_at2 HX.out h0 (Only.refl _ w)
    have hh : es.head? = some (es.getD 0 0) := by
      cases es with
      | nil => simp at h0
      | cons a l => rfl
    have hd : (!decide (es.head? = some (order.getD k 0))) = (es.getD 0 0 != order.getD k 0) := by
      rw [hh]
      by_cases h : es.getD 0 0 = order.getD k 0
      · rw [h]; simp
      · rw [decide_eq_false (fun x => h (Option.some.inj x))]; symm; exact bne_iff_ne.2 h
    rw [hd]
    rw [Nat.add_zero] at e1
    clear hd hh
    have g0 : ((es.length : Int) == 0) = false := by simp; intro h; subst h; simp at h0
    have g1 : (0 : Int) < (es.length : Int) := by omega
    have g2 : es ≠ [] := by intro h; subst h; simp at h0
    generalize es.getD 0 0 = y at *
    generalize order.getD k 0 = z at *
    go_enter Try.func25, Try.ntmps25
    go_wp2
    go_quiet (fail)
    go_wp2
    go_ret
    exact ⟨rfl, ((Only.refl _ _).alloc _).drewN _⟩
  · have hd : (!decide (es.head? = some (order.getD k 0))) = true := by
      cases es with
      | nil => simp
      | cons a l => simp at h0
    rw [hd]
    have g0 : es.length = 0 := by omega
    rw [g0]
    clear hd h0 g0
    go_enter Try.func25, Try.ntmps25
    go_wp2
    go_quiet (fail)
    go_wp2
    go_ret
    exact ⟨rfl, ((Only.refl _ _).alloc _).drewN _⟩
/-- A block of the code's own that begins with edges. -/
structure RowE (w : World) (g : Nat) (E : List Ed) : Prop where
  obj : ∃ cur, w.heap[g]? = some (.cells cur 50) ∧ E.length * 3 ≤ cur.size ∧ ∀ i, i < E.length → cur[i * 3]? = some (.int .i64 (E.getD i default).f) ∧ cur[i * 3 + 1]? = some (.int .i64 (E.getD i default).t) ∧ cur[i * 3 + 2]? = some (.int .i64 (E.getD i default).c)
theorem RowE.lt {w : World} {g : Nat} {E : List Ed} (h : RowE w g E) : g < w.heap.size := by
  obtain ⟨cur, h1, _⟩ := h.obj
  exact (Array.getElem?_eq_some_iff.1 h1).1
theorem RowE.only {w w' : World} {g : Nat} {E : List Ed} (h : RowE w g E) {S : Nat → Prop} (ho : Only S w w') (hg : ¬ S g) : RowE w' g E := by
  obtain ⟨cur, h1, h2⟩ := h.obj
  exact ⟨cur, (ho.block g h.lt hg).trans h1, h2⟩
theorem RowE.reads {w : World} {g : Nat} {E : List Ed} (h : RowE w g E) (hm : E.length ≤ 300) : ReadsE w (some ⟨g, 0, none⟩) E := by
  obtain ⟨cur, h1, h2, h3⟩ := h.obj
  refine ⟨fun i hi => ?_, by unfold maxLen; omega⟩
  obtain ⟨a, b, c⟩ := h3 i hi
  exact ⟨g, 0, rfl, h.lt, by rw [Nat.zero_add, obj_cell h1]; exact a, by rw [Nat.zero_add, obj_cell h1]; exact b, by rw [Nat.zero_add, obj_cell h1]; exact c⟩
theorem RowE.fr {w : World} {g : Nat} {E : List Ed} (h : RowE w g E) (i : Nat) : w.frozen? ⟨g, i, none⟩ = false := by
  obtain ⟨cur, h1, _⟩ := h.obj
  exact obj_fr h1 i
theorem getD_setE (E : List Ed) (i j : Nat) (x : Ed) (hi : i < E.length) : (E.set i x).getD j default = if j = i then x else E.getD j default := by
  simp only [List.getD_eq_getElem?_getD, List.getElem?_set]
  by_cases e : i = j
  · subst e; simp [hi]
  · rw [if_neg e, if_neg (fun x => e x.symm)]
theorem list_extE {a b : List Ed} (hl : a.length = b.length) (h : ∀ i, i < a.length → a.getD i default = b.getD i default) : a = b := by
  apply List.ext_getElem hl
  intro i h1 h2
  have := h i h1
  simpa [List.getD_eq_getElem?_getD, h1, h2] using this
theorem RowE.setC {w : World} {g : Nat} {E : List Ed} (h : RowE w g E) {i : Nat} (hi : i < E.length) (x : Int) : RowE (w.setCell ⟨g, i * 3 + 2, none⟩ (.int .i64 x)) g (E.set i { E.getD i default with c := x }) := by
  obtain ⟨cur, h1, h2, h3⟩ := h.obj
  refine ⟨_, rblk_setCell h1 _, by simpa using h2, fun j hj => ?_⟩
  rw [List.length_set] at hj
  obtain ⟨a, b, c⟩ := h3 j hj
  rw [getD_setE _ _ _ _ hi]
  simp only [Array.getElem?_setIfInBounds]
  by_cases e : j = i
  · subst e
    rw [if_pos rfl, if_neg (by omega), if_neg (by omega), if_pos rfl, if_pos (by omega)]
    exact ⟨a, b, rfl⟩
  · rw [if_neg e, if_neg (by omega), if_neg (by omega), if_neg (by omega)]
    exact ⟨a, b, c⟩
theorem edges_row {w : World} {base n c g : Nat} {E : List Ed} (h : w.ownsRow base 50 3 (.slice (some ⟨g, 0, none⟩) n c) E.length (edCells E)) : RowE w g E := by
  rcases h.2 with ⟨h0, _⟩ | ⟨g', cap, cur, hv, hb, hh, hn, hc, hs, ht⟩
  · cases h0
  · cases hv
    refine ⟨cur, hh, by omega, fun i hi => ?_⟩
    obtain ⟨h1, h2, h3⟩ := edCells_get E i hi
    rw [← ht] at h1 h2 h3
    rw [List.getElem?_take, if_pos (by omega)] at h1 h2 h3
    refine ⟨by simpa using h1, by simpa using h2, by simpa using h3⟩
theorem reads_newsE {w : World} {bk off : Nat} {E : List Ed} (h : ReadsE w (some ⟨bk, off, none⟩) E) : ∀ (j : Nat) (u : Value), (edCells E)[j]? = some u → w.cell? ((⟨bk, off, none⟩ : Addr).add j) = some u := by
  intro j u hu
  have hj : j < E.length * 3 := by have := (List.getElem?_eq_some_iff.1 hu).1; rwa [edCells_len] at this
  have hi : j / 3 < E.length := by omega
  obtain ⟨bk', off', hv, _, c0, c1, c2⟩ := h.cell (j / 3) hi
  cases hv
  obtain ⟨g0, g1, g2⟩ := edCells_get E (j / 3) hi
  rw [Addr.add_lit]
  have h3 : j % 3 = 0 ∨ j % 3 = 1 ∨ j % 3 = 2 := by omega
  rcases h3 with e | e | e
  · have ej : j = j / 3 * 3 := by omega
    rw [ej] at hu
    rw [show off + j = off + j / 3 * 3 by omega, c0, ← hu, g0]
  · have ej : j = j / 3 * 3 + 1 := by omega
    rw [ej] at hu
    rw [show off + j = off + j / 3 * 3 + 1 by omega, c1, ← hu, g1]
  · have ej : j = j / 3 * 3 + 2 := by omega
    rw [ej] at hu
    rw [show off + j = off + j / 3 * 3 + 2 by omega, c2, ← hu, g2]
theorem edges_one (E : List Ed) : ∀ u ∈ edCells E, u.oneCell' = true := by
  intro u hu
  unfold edCells at hu
  rw [List.mem_flatMap] at hu
  obtain ⟨e, _, he⟩ := hu
  simp at he
  rcases he with rfl | rfl | rfl <;> rfl
theorem notNilE2 (ad : Addr) (n c : Nat) (W : World) : (binOp .eql 22 (.slice (some ad) n c) (.slice none 0 0)).run Try.prog W = .ok (.bool false) W := by kernel_rfl
set_option maxHeartbeats 1000000 in
set_option maxRecDepth 100000 in
theorem cloneE_any (ad : Addr) (c : Nat) (E : List Ed) (w : World) (hF : ReadsE w (some ad) E) (hm : E.length ≤ 300) :
    Calls Try.prog 26 #[.slice (some ad) E.length c] w fun e w' => ∃ g cap, e = .returned (.slice (some ⟨g, 0, none⟩) E.length cap) ∧ w.heap.size ≤ g ∧ RowE w' g E ∧ Kept w w' := by
  obtain ⟨i0, hi, hz0, hz1, hz2⟩ := info_parts infoEdge
  have hn : ∀ (j : Nat) (u : Value), (edCells E)[j]? = some u → (w.alloc (.cells #[] 50)).cell? (ad.add j) = some u := by
    intro j u hu
    have hj : j < E.length * 3 := by have := (List.getElem?_eq_some_iff.1 hu).1; rwa [edCells_len] at this
    obtain ⟨bk, off, hv, _⟩ := hF.cell 0 (by omega)
    cases hv
    exact reads_newsE (hF.fix ((Only.refl _ w).alloc (.cells #[] 50))) j u hu
  have HN := Lib.hid hn
  have HF := Lib.hid hF
  clear hn hF
  have hnn := notNilE2
  go_enter Try.func26, Try.ntmps26
  go_wp2_with (at_builtin; go_loud (refine wpList_append_own _ rfl _ _ 22 rfl w.heap.size 50 i0 _ 3 24 Try.underlying22 hi hz0 hz1 hz2 rfl (by decide) _ 0 [] rfl ⟨rfl, .inr ⟨w.heap.size, 0, #[], rfl, Nat.le_refl _, (MapKept.heap_alloc w _).1, Nat.le_refl _, Nat.zero_le _, rfl, rfl⟩⟩ ad E.length c (edCells E) rfl (by rw [edCells_len]) HN.out (edges_one E) (by unfold maxLen; omega) (by omega) (by simp) ?_; intro v1 w1 hown1 hgrow1 hnil1; have HN1 := Lib.hid hown1; have HG1 := Lib.hid hgrow1; have HNI := Lib.hid hnil1; clear hown1 hgrow1 hnil1))
  go_ret
  have hfv : w1.ownsRow w.heap.size 50 3 v1 E.length (edCells E) := by have := HN1.out; simpa using this
  rcases HN1.out.2 with ⟨h0, _⟩ | ⟨g, cap, cur, rfl, hb, hh, hn, hc, hs, ht⟩
  · exact absurd (HNI.out.1 h0).1 (by intro h; cases h)
  · refine ⟨g, cap, by rw [Nat.zero_add]; rfl, hb, edges_row hfv, ((Only.refl _ _).alloc _).trans' (Only.of_grown (S := fun k => k = w.heap.size) HG1.out (fun k hk _ => by cases hk; rfl)) (fun _ _ x => x) (fun k hk x => absurd hk (by simp at x ⊢; omega))⟩
theorem nilE (W : World) : (binOp .eql 22 (.slice none 0 0) (.slice none 0 0)).run Try.prog W = .ok (.bool true) W := by kernel_rfl
set_option maxHeartbeats 1000000 in
theorem cloneE_nil (n c : Nat) (w : World) : Calls Try.prog 26 #[.slice none 0 0] w fun e w' => e = .returned (.slice none 0 0) ∧ w = w' := by
  have hnn := nilE
  go_enter Try.func26, Try.ntmps26
  go_wp2
  go_ret
  exact ⟨rfl, rfl⟩
/-- The first k edges closed, where they leave s. -/
def closeK (E : List Ed) (s : Int) (k : Nat) : List Ed := (opn E s []).take k ++ E.drop k
theorem closeK_len (E : List Ed) (s : Int) (k : Nat) (hk : k ≤ E.length) : (closeK E s k).length = E.length := by unfold closeK; simp [opn_length]; omega
theorem closeK_get (E : List Ed) (s : Int) (k i : Nat) (hk : k ≤ E.length) (hi : i < E.length) : (closeK E s k).getD i default = if i < k then (opn E s []).getD i default else E.getD i default := by
  unfold closeK
  simp only [List.getD_eq_getElem?_getD, List.getElem?_append, List.length_take, opn_length]
  by_cases e : i < k
  · rw [if_pos (by omega), if_pos e, List.getElem?_take, if_pos e]
  · rw [if_neg (by omega), if_neg e, List.getElem?_drop]
    congr 2
    omega
theorem closeK_zero (E : List Ed) (s : Int) : closeK E s 0 = E := by simp [closeK]
theorem closeK_all (E : List Ed) (s : Int) : closeK E s E.length = opn E s [] := by
  unfold closeK
  rw [List.drop_length, List.append_nil, List.take_of_length_le (by rw [opn_length]; exact Nat.le_refl _)]
theorem closeK_yes (E : List Ed) (s : Int) (k : Nat) (hk : k < E.length) (h : (E.getD k default).f = s) : closeK E s (k + 1) = (closeK E s k).set k { (closeK E s k).getD k default with c := 0 } := by
  refine list_extE (by rw [List.length_set, closeK_len _ _ _ (by omega), closeK_len _ _ _ (by omega)]) (fun i hi => ?_)
  rw [closeK_len _ _ _ (by omega)] at hi
  rw [getD_setE _ _ _ _ (by rw [closeK_len _ _ _ (by omega)]; exact hk), closeK_get _ _ _ _ (by omega) hi, closeK_get _ _ _ _ (by omega) hi, closeK_get _ _ _ _ (by omega) hk]
  by_cases e : i = k
  · subst e
    rw [if_pos (by omega), if_pos rfl, if_neg (by omega), opn_get _ _ _ _ hk, if_pos ⟨h, by simp⟩]
  · rw [if_neg e]
    by_cases e2 : i < k
    · rw [if_pos (by omega), if_pos e2]
    · rw [if_neg (by omega), if_neg e2]
theorem closeK_no (E : List Ed) (s : Int) (k : Nat) (hk : k < E.length) (h : (E.getD k default).f ≠ s) : closeK E s (k + 1) = closeK E s k := by
  refine list_extE (by rw [closeK_len _ _ _ (by omega), closeK_len _ _ _ (by omega)]) (fun i hi => ?_)
  rw [closeK_len _ _ _ (by omega)] at hi
  rw [closeK_get _ _ _ _ (by omega) hi, closeK_get _ _ _ _ (by omega) hi]
  by_cases e : i = k
  · subst e
    rw [if_pos (by omega), if_neg (by omega), opn_get _ _ _ _ hk, if_neg (fun x => h x.1)]
  · by_cases e2 : i < k
    · rw [if_pos (by omega), if_pos e2]
    · rw [if_neg (by omega), if_neg e2]
/-- One source opened. -/
theorem opn_add (E : List Ed) (s : Int) (A : List Nat) (k : Nat) (hk : k < E.length) : (opn E s A).set k { (opn E s A).getD k default with c := (E.getD k default).c } = opn E s (A ++ [k]) := by
  refine list_extE (by rw [List.length_set, opn_length, opn_length]) (fun i hi => ?_)
  rw [List.length_set, opn_length] at hi
  rw [getD_setE _ _ _ _ (by rw [opn_length]; exact hk), opn_get _ _ _ _ hi, opn_get _ _ _ _ hi, opn_get _ _ _ _ hk]
  by_cases e : i = k
  · subst e
    rw [if_pos rfl, if_neg (show ¬ ((E.getD i default).f = s ∧ i ∉ A ++ [i]) from fun x => x.2 (List.mem_append_right _ List.mem_cons_self))]
    split <;> rfl
  · rw [if_neg e]
    have : i ∈ A ++ [k] ↔ i ∈ A := by simp [e]
    by_cases h : (E.getD i default).f = s ∧ i ∉ A
    · rw [if_pos h, if_pos ⟨h.1, fun x => h.2 (this.1 x)⟩]
    · rw [if_neg h, if_neg (fun x => h ⟨x.1, fun y => x.2 (this.2 y)⟩)]
end Go.Proofs.Ytlpccebackmahaa

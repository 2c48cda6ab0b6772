/- Layer 7: the reference's way back walked. -/
import Derived.Test.YtlpccebackmahaaLexJ
set_option linter.unusedVariables false
set_option linter.unusedSimpArgs false
namespace Go.Proofs.Ytlpccebackmahaa
open Go.RowKit

theorem back_look {bs : List St} {s : Int} : ∀ n v, ∀ p ∈ back bs s n v, aget bs p.1 = some p.2 ∧ p.1 ≠ s
  | 0, v, p, h => by simp [back] at h
  | n + 1, v, p, h => by
    unfold back at h
    by_cases e : v = s
    · rw [if_pos e] at h; simp at h
    · rw [if_neg e] at h
      cases hq : aget bs v with
      | none => rw [hq] at h; simp at h
      | some q =>
        rw [hq] at h
        rcases List.mem_cons.1 h with rfl | h
        · exact ⟨hq, e⟩
        · exact back_look n q.1 p h
theorem back_len {bs : List St} {s : Int} : ∀ n v, (back bs s n v).length ≤ n
  | 0, v => by simp [back]
  | n + 1, v => by
    unfold back
    split
    · simp
    · split
      · have := back_len (bs := bs) (s := s) n
        rename_i q _
        have := this q.1
        simp only [List.length_cons]; omega
      · simp
/-- What Push needs to know of a way. -/
structure WayR (n : Nat) (E : List Ed) (fl : List Int) (s t : Int) (l : List St) : Prop where
  chain : Chain E fl s t l
  look : ∀ p ∈ l, byOf s (bfs E fl s n) p.1 = (p.2.2.1 : Int)
  range : ∀ p ∈ l, 0 ≤ p.1 ∧ p.1 < n
  len : l.length ≤ n
theorem wayR {n : Nat} {E : List Ed} {fl : List Int} {s t : Int} {l : List St} (hE : Ends n E) (hs : 0 ≤ s ∧ s < n) (h : wayOf n E fl s t = some l) : WayR n E fl s t l := by
  have hc := wayOf_chain hE hs h
  unfold wayOf at h
  split at h
  · cases h
    have hl := back_look (bs := bfs E fl s n) (s := s) n t
    refine ⟨hc, fun p hp => ?_, fun p hp => ?_, back_len n t⟩
    · obtain ⟨h1, h2⟩ := hl p hp
      unfold byOf
      rw [if_neg h2, h1]
    · obtain ⟨h1, h2⟩ := hl p hp
      refine (bfs_inv E fl s n).keys hE hs p.1 ?_
      unfold aget at h1
      rw [Option.map_eq_some_iff] at h1
      obtain ⟨q, hq, _⟩ := h1
      have := List.find?_some hq
      exact List.mem_map.2 ⟨q, List.mem_of_find?_eq_some hq, by simpa using this⟩
  · cases h
theorem way_iff {n : Nat} {E : List Ed} {fl : List Int} {s t : Int} : decide (t ∈ (bfs E fl s n).map (·.1)) = (wayOf n E fl s t).isSome := by
  unfold wayOf
  by_cases h : t ∈ (bfs E fl s n).map (·.1)
  · rw [if_pos h, decide_eq_true h]; rfl
  · rw [if_neg h, decide_eq_false h]; rfl
theorem rows_ne {w : World} {b1 b2 n1 n2 : Nat} {v1 v2 : Value} {x1 x2 : List Value} (h1 : w.ownsRow b1 3 1 v1 n1 x1) (h2 : w.ownsRow b2 4 1 v2 n2 x2) : ∀ k, v1.ownBlock = some k → v2.ownBlock ≠ some k := by
  intro k hk1 hk2
  rcases h1.2 with ⟨rfl, _⟩ | ⟨g, cap, cur, rfl, _, hg, _⟩
  · simp [Value.ownBlock] at hk1
  · rcases h2.2 with ⟨rfl, _⟩ | ⟨g', cap', cur', rfl, _, hg', _⟩
    · simp [Value.ownBlock] at hk2
    · have e1 : g = k := by simpa [Value.ownBlock] using hk1
      have e2 : g' = k := by simpa [Value.ownBlock] using hk2
      subst e1
      subst e2
      rw [hg] at hg'
      simp at hg'
theorem ownsRow_grown_ne {w w1 : World} {base n : Nat} {e : TypeId} {size : Nat} {v : Value} {xs : List Value} {row : Option Nat} (h : w.ownsRow base e size v n xs) (hg : w.grownBy w1 row) (hne : ∀ k, v.ownBlock = some k → row ≠ some k) : w1.ownsRow base e size v n xs := by
  refine ⟨h.1, ?_⟩
  rcases h.2 with h2 | ⟨g, cap, cur, rfl, hb, hh, r⟩
  · exact .inl h2
  · have hl : g < w.heap.size := (Array.getElem?_eq_some_iff.1 hh).1
    exact .inr ⟨g, cap, cur, rfl, hb, by rw [hg.block g hl (fun e => hne g rfl e.symm)]; exact hh, r⟩
theorem ownsRow_fix {w w1 : World} {base n : Nat} {e : TypeId} {size : Nat} {v : Value} {xs : List Value} (h : w.ownsRow base e size v n xs) (ho : Kept w w1) : w1.ownsRow base e size v n xs := by
  refine ⟨h.1, ?_⟩
  rcases h.2 with h2 | ⟨g, cap, cur, rfl, hb, hh, r⟩
  · exact .inl h2
  · have hl : g < w.heap.size := (Array.getElem?_eq_some_iff.1 hh).1
    exact .inr ⟨g, cap, cur, rfl, hb, by rw [ho.block g hl (fun x => x)]; exact hh, r⟩

theorem app_only {wr wx w1 : World} {base n : Nat} {e : TypeId} {size : Nat} {v : Value} {xs : List Value} (hown : wr.ownsRow base e size v n xs) (hg : World.grownBy wx w1 v.ownBlock) (hx : Kept wr wx) : Only (fun k => base ≤ k) wr w1 :=
  hx.trans' (Only.of_grown (S := fun k => base ≤ k) hg (fun k hk _ => row_at hown k hk)) (fun _ _ x => x.elim) (fun _ _ x => x)
/-- What is read again behind an append. -/
theorem again {wr w1 : World} {B : Nat} (h : Only (fun k => B ≤ k) wr w1) (hB : B ≤ wr.heap.size) {p : Addr} {u : Value} (hp : p.block < B) (hc : wr.cell? p = some u) : w1.cell? p = some u :=
  (h.cell (p := p) (by omega) (by omega)).trans hc

set_option maxHeartbeats 4000000 in
set_option maxRecDepth 100000 in
theorem r6along_any (N s t : Int) (A B : Option Addr) (c d : Nat) (E : List Ed) (fl : List Int) (l : List St) (w : World) (hE : ReadsE w A E) (hB : ReadsI w B (byL N.toNat s (bfs E fl s N.toNat))) (hN : NetOk N E) (hw : WayR N.toNat E fl s t l) :
    Calls Try.prog 51 #[.agg #[.int .i64 N, .slice A E.length c], .slice B N.toNat d, .int .i64 s, .int .i64 t] w fun e w' => ∃ v1 v2,
      e = .returned (.tuple #[v1, v2]) ∧ w'.ownsRow w.heap.size 3 1 v1 l.length (l.map fun p => .int .i64 p.2.2.1) ∧ w'.ownsRow w.heap.size 4 1 v2 l.length (l.map fun p => .bool (!p.2.2.2)) ∧ Kept w w' := by
  have n2 := hN.1
  have n3 := hN.2.1
  have lE := hN.2.2.1
  have hEn := hN.ends
  obtain ⟨n, rfl⟩ : ∃ n : Nat, N = n := ⟨N.toNat, by omega⟩
  rw [Int.toNat_natCast] at *
  obtain ⟨hch, hlook, hrange, hlen⟩ := hw
  have HB := Lib.hid hB
  have HE := Lib.hid hE
  have HEN := Lib.hid hEn
  have HLK := Lib.hid hlook
  have HRG := Lib.hid hrange
  have HCH := Lib.hid hch
  clear hB hE hEn hN hlook hrange hch
  obtain ⟨i0, hi, hz0, hz1, hz2⟩ := info_parts infoInt
  obtain ⟨i1, hj, hy0, hy1, hy2⟩ := info_parts infoBool
  go_enter Try.func51, Try.ntmps51
  go_wp2
  go_loopw [10, 11, 12, 13, 14] (fun ve vw v q _ wr => ∃ (k : Nat) (u : Int) (l1 l2 : List St), l = l1 ++ l2 ∧ l1.length = k ∧ q = .int .i64 k ∧ v = .int .i64 u ∧ Chain E fl s u l2 ∧
    wr.ownsRow (w.heap.size + 1) 3 1 ve k (l1.map fun p => .int .i64 p.2.2.1) ∧ wr.ownsRow (w.heap.size + 1) 4 1 vw k (l1.map fun p => .bool (!p.2.2.2)) ∧ Kept (w.alloc (.cells #[.int .i64 n, .slice A E.length c] 24)) wr) (fun _ _ _ q _ _ => 64 - (intOf q).toNat)
  case atStart => exact ⟨0, t, [], l, rfl, rfl, rfl, rfl, HCH.out, ⟨rfl, .inl ⟨rfl, rfl⟩⟩, ⟨rfl, .inl ⟨rfl, rfl⟩⟩, Only.refl _ _⟩
  case round =>
    obtain ⟨k, u, l1, l2, hl, hk, rfl, rfl, hch2, hr1, hr2, ho⟩ := hrel
    obtain ⟨A2, cc2, hv2⟩ := row_slice hr1
    subst hv2
    obtain ⟨A3, cc3, hv3⟩ := row_slice hr2
    subst hv3
    obtain ⟨n0, n1, nb⟩ := box_at ho
    have hkp : Kept w wr := ((Only.refl _ _).alloc _).trans ho
    have HKP := Lib.hid hkp
    have HO := Lib.hid ho
    have HR1 := Lib.hid hr1
    have HR2 := Lib.hid hr2
    have HNE := Lib.hid (rows_ne hr1 hr2)
    have HL := Lib.hid (And.intro hl hk)
    have hkl : k + l2.length = l.length := by rw [hl, List.length_append, hk]
    clear ho hkp hr1 hr2
    cases l2 with
    | nil =>
      have hus : u = s := hch2
      have HL1 := Lib.hid (show l = l1 by rw [hl, List.append_nil])
      clear hl hk hkl hch2
      subst hus
      go_wp2
      all_goals go_ret2
      all_goals
        refine ⟨.slice A2 k cc2, .slice A3 k cc3, rfl, ?_, ?_, HKP.out⟩
        · rw [HL1.out, (show l1.length = k from HL.out.2)]; exact row_base HR1.out (by omega)
        · rw [HL1.out, (show l1.length = k from HL.out.2)]; exact row_base HR2.out (by omega)
    | cons p l2 =>
      have hlm : p ∈ l := by rw [hl]; exact List.mem_append_right _ List.mem_cons_self
      have hby := HLK.out p hlm
      have hrg := HRG.out p hlm
      obtain ⟨hp1, hus, hei, hd, hnin, hch3⟩ := hch2
      have hk64 : (k : Int) < 64 := by simp at hkl; omega
      have hbus : (u == s) = false := by simpa using hus
      obtain ⟨pv, pu, pi, pag⟩ := p
      simp only at hp1 hei hd hch3 hby hrg
      subst hp1
      obtain ⟨pn, rfl⟩ : ∃ pn : Nat, pv = pn := ⟨pv.toNat, by omega⟩
      obtain ⟨bk2, off2, hb2, lb2, lb20, e3⟩ := int_at2 HB.out (i := pn) (by rw [byL_len]; omega) HKP.out
      subst hb2
      rw [byL_get _ _ _ _ (by omega), hby] at e3
      obtain ⟨bk, off, rfl, lb, lb0, e0, e1, e2⟩ := edge_at2 HE.out hei HKP.out
      obtain ⟨⟨ef0, ef1⟩, ⟨et0, et1⟩, eft⟩ := HEN.out.at hei
      have hds := dir_some hd
      have HCH3 := Lib.hid hch3
      have HL2 := Lib.hid (show l = (l1 ++ [((pn : Int), (pu, pi, pag))]) ++ l2 by rw [hl]; simp)
      clear hl hk hkl hch3 hd hnin hby hus HCH HLK HRG hlm
      have HSZ := Lib.hid (show w.heap.size + 1 ≤ wr.heap.size from by omega)
      rcases hds with ⟨ha, hf, ht, _⟩ | ⟨ha, ht, hf, _⟩
      · rw [hf] at e0
        rw [ht] at e1
        clear hf ht eft ef0 ef1 et0 et1
        subst ha
        generalize (E.getD pi default).c = y at *
        clear e2
        go_wp2_with (first |  (at_builtin; refine wpList_append_own _ rfl _ _ 25 rfl (w.heap.size + 1) 3 i0 _ 1 8 Try.underlying25 hi hz0 hz1 hz2 rfl (by decide) _ _ _ rfl (RowOwned.alloc HR1.out _) ⟨_, 0, none⟩ 1 1 [.int .i64 pi] rfl rfl (one_new_at _ _ _ (by simp [World.setCell])) (by simp [Value.oneCell']) (by unfold maxLen; omega) (by omega) (by simp; omega) ?_; intro v1 w1 hown1 hgrow1 hnil1; have ho1 := app_only HR1.out hgrow1 ((Only.refl _ _).alloc _); have b0 := again ho1 HSZ.out (p := ⟨w.heap.size, 0, none⟩) (by simp) n0; have b1 := again ho1 HSZ.out (p := ⟨w.heap.size, 1, none⟩) (by simp) n1; have x0 := again ho1 HSZ.out (p := ⟨bk, off + pi * 3, none⟩) (by simp; omega) e0; have x1 := again ho1 HSZ.out (p := ⟨bk, off + pi * 3 + 1, none⟩) (by simp; omega) e1; have sz1 := ho1.size; have HW1 := Lib.hid (show w1.ownsRow (w.heap.size + 1) 4 1 (.slice A3 k cc3) k (l1.map fun p => .bool (!p.2.2.2)) from ownsRow_grown_ne (RowOwned.alloc HR2.out _) hgrow1 (fun q hq hq2 => HNE.out q hq2 hq)); have HO1 := Lib.hid ho1; have HN1 := Lib.hid hown1; have HNE1 := Lib.hid (rows_ne hown1 HW1.out); clear hown1 hgrow1 hnil1 ho1) | (at_builtin; refine wpList_append_own _ rfl _ _ 61 rfl (w.heap.size + 1) 4 i1 _ 1 1 Try.underlying61 hj hy0 hy1 hy2 rfl (by decide) _ _ _ rfl (RowOwned.alloc HW1.out _) ⟨_, 0, none⟩ 1 1 [.bool true] rfl rfl (one_new_at _ _ _ (by simp [World.setCell])) (by simp [Value.oneCell']) (by unfold maxLen; omega) (by omega) (by simp; omega) ?_; intro v2 w2 hown2 hgrow2 hnil2; have ho2 := app_only HW1.out hgrow2 ((Only.refl _ _).alloc _); have b02 := again ho2 (by omega) (p := ⟨w.heap.size, 0, none⟩) (by simp) b0; have b12 := again ho2 (by omega) (p := ⟨w.heap.size, 1, none⟩) (by simp) b1; have x02 := again ho2 (by omega) (p := ⟨bk, off + pi * 3, none⟩) (by simp; omega) x0; have x12 := again ho2 (by omega) (p := ⟨bk, off + pi * 3 + 1, none⟩) (by simp; omega) x1; have sz2 := ho2.size; have HV1 := Lib.hid (ownsRow_grown_ne (RowOwned.alloc HN1.out _) hgrow2 HNE1.out); have HO2 := Lib.hid ho2; have HN2 := Lib.hid hown2; clear hown2 hgrow2 hnil2 ho2))
        go_roundw
        case rel =>
          refine ⟨k + 1, pu, l1 ++ [((pn : Int), (pu, pi, false))], l2, HL2.out, by rw [List.length_append, (show l1.length = k from HL.out.2)]; rfl, by go_num, rfl, HCH3.out, ?_, ?_, ?_⟩
          · rw [List.map_append]; exact HV1.out
          · rw [List.map_append]; exact HN2.out
          · exact (HO.out.trans' HO1.out (fun _ _ x => x) (fun q hq x => absurd x (by simp at hq; omega))).trans' HO2.out (fun _ _ x => x) (fun q hq x => absurd x (by simp at hq; omega))
        case measure => simp [intOf]; omega
      · rw [hf] at e0
        have hne : (((E.getD pi default).t) == ((pn : Nat) : Int)) = false := by rw [hf] at eft; simp; intro x; exact eft x.symm
        rw [ht] at e1 hne
        clear hf ht eft ef0 ef1 et0 et1
        subst ha
        generalize (E.getD pi default).c = y at *
        clear e2
        go_wp2_with (first |  (at_builtin; refine wpList_append_own _ rfl _ _ 25 rfl (w.heap.size + 1) 3 i0 _ 1 8 Try.underlying25 hi hz0 hz1 hz2 rfl (by decide) _ _ _ rfl (RowOwned.alloc HR1.out _) ⟨_, 0, none⟩ 1 1 [.int .i64 pi] rfl rfl (one_new_at _ _ _ (by simp [World.setCell])) (by simp [Value.oneCell']) (by unfold maxLen; omega) (by omega) (by simp; omega) ?_; intro v1 w1 hown1 hgrow1 hnil1; have ho1 := app_only HR1.out hgrow1 ((Only.refl _ _).alloc _); have b0 := again ho1 HSZ.out (p := ⟨w.heap.size, 0, none⟩) (by simp) n0; have b1 := again ho1 HSZ.out (p := ⟨w.heap.size, 1, none⟩) (by simp) n1; have x0 := again ho1 HSZ.out (p := ⟨bk, off + pi * 3, none⟩) (by simp; omega) e0; have x1 := again ho1 HSZ.out (p := ⟨bk, off + pi * 3 + 1, none⟩) (by simp; omega) e1; have sz1 := ho1.size; have HW1 := Lib.hid (show w1.ownsRow (w.heap.size + 1) 4 1 (.slice A3 k cc3) k (l1.map fun p => .bool (!p.2.2.2)) from ownsRow_grown_ne (RowOwned.alloc HR2.out _) hgrow1 (fun q hq hq2 => HNE.out q hq2 hq)); have HO1 := Lib.hid ho1; have HN1 := Lib.hid hown1; have HNE1 := Lib.hid (rows_ne hown1 HW1.out); clear hown1 hgrow1 hnil1 ho1) | (at_builtin; refine wpList_append_own _ rfl _ _ 61 rfl (w.heap.size + 1) 4 i1 _ 1 1 Try.underlying61 hj hy0 hy1 hy2 rfl (by decide) _ _ _ rfl (RowOwned.alloc HW1.out _) ⟨_, 0, none⟩ 1 1 [.bool false] rfl rfl (one_new_at _ _ _ (by simp [World.setCell])) (by simp [Value.oneCell']) (by unfold maxLen; omega) (by omega) (by simp; omega) ?_; intro v2 w2 hown2 hgrow2 hnil2; have ho2 := app_only HW1.out hgrow2 ((Only.refl _ _).alloc _); have b02 := again ho2 (by omega) (p := ⟨w.heap.size, 0, none⟩) (by simp) b0; have b12 := again ho2 (by omega) (p := ⟨w.heap.size, 1, none⟩) (by simp) b1; have x02 := again ho2 (by omega) (p := ⟨bk, off + pi * 3, none⟩) (by simp; omega) x0; have x12 := again ho2 (by omega) (p := ⟨bk, off + pi * 3 + 1, none⟩) (by simp; omega) x1; have sz2 := ho2.size; have HV1 := Lib.hid (ownsRow_grown_ne (RowOwned.alloc HN1.out _) hgrow2 HNE1.out); have HO2 := Lib.hid ho2; have HN2 := Lib.hid hown2; clear hown2 hgrow2 hnil2 ho2))
        go_roundw
        case rel =>
          refine ⟨k + 1, pu, l1 ++ [((pn : Int), (pu, pi, true))], l2, HL2.out, by rw [List.length_append, (show l1.length = k from HL.out.2)]; rfl, by go_num, rfl, HCH3.out, ?_, ?_, ?_⟩
          · rw [List.map_append]; exact HV1.out
          · rw [List.map_append]; exact HN2.out
          · exact (HO.out.trans' HO1.out (fun _ _ x => x) (fun q hq x => absurd x (by simp at hq; omega))).trans' HO2.out (fun _ _ x => x) (fun q hq x => absurd x (by simp at hq; omega))
        case measure => simp [intOf]; omega
end Go.Proofs.Ytlpccebackmahaa

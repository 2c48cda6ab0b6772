/- Layer 7: the reference's search walked. -/
import Derived.Test.YtlpccebackmahaaLexI
import Derived.Test.YtlpccebackmahaaOwnRows
set_option linter.unusedVariables false
set_option linter.unusedSimpArgs false
namespace Go.Proofs.Ytlpccebackmahaa
open Go.RowKit

/-- The middle of the search: what lies where. -/
structure SeekR (w wr : World) (bx : Obj) (n : Nat) (s : Int) (bs : List St) (todo : Value) : Prop where
  by_ : RowI wr (w.heap.size + 1) (byL n s bs)
  seen : RowB wr (w.heap.size + 2) (seenL n bs)
  todo : wr.ownsRow (w.heap.size + 3) 3 1 todo bs.length (bs.map fun p => .int .i64 p.1)
  kept : Kept (w.alloc bx) wr
theorem SeekR.fixH {w wr w' : World} {bx : Obj} {n : Nat} {s : Int} {bs : List St} {todo : Value} (h : SeekR w wr bx n s bs todo) (hw : w'.heap = wr.heap) (ho : Kept wr w') : SeekR w w' bx n s bs todo :=
  ⟨h.by_.fix ho, h.seen.fix ho, by have := h.todo; unfold World.ownsRow at this ⊢; rw [hw]; exact this, h.kept.trans ho⟩
theorem SeekR.alloc {w wr : World} {bx : Obj} {n : Nat} {s : Int} {bs : List St} {todo : Value} (h : SeekR w wr bx n s bs todo) (o : Obj) : SeekR w (wr.alloc o) bx n s bs todo :=
  ⟨h.by_.fix ((Only.refl _ _).alloc o), h.seen.fix ((Only.refl _ _).alloc o), RowOwned.alloc h.todo o, h.kept.alloc o⟩
theorem SeekR.next {w wr w1 : World} {bx : Obj} {n : Nat} {s : Int} {bs : List St} {todo todo' : Value} (h : SeekR w wr bx n s bs todo) (hsz : w.heap.size + 3 ≤ wr.heap.size) (hs : s ∈ bs.map (·.1)) (v : Nat) (u : Int) (i : Nat) (ag : Bool) (hv : v < n) (hnew : (v : Int) ∉ bs.map (·.1)) {o : Obj} {row : Option Nat}
    (hrow : ∀ k, row = some k → w.heap.size + 3 ≤ k)
    (hg : World.grownBy ((((wr.setCell ⟨w.heap.size + 2, v, none⟩ (.bool true)).setCell ⟨w.heap.size + 1, v, none⟩ (.int .i64 i))).alloc o) w1 row) (ht : w1.ownsRow (w.heap.size + 3) 3 1 todo' (bs.length + 1) (bs.map (fun p => Value.int .i64 p.1) ++ [.int .i64 v])) :
    SeekR w w1 bx n s (bs ++ [((v : Int), (u, i, ag))]) todo' := by
  have ho : Only (fun k => w.heap.size + 3 ≤ k) (((wr.setCell ⟨w.heap.size + 2, v, none⟩ (.bool true)).setCell ⟨w.heap.size + 1, v, none⟩ (.int .i64 i)).alloc o) w1 := Only.of_grown hg (fun k hk _ => hrow k hk)
  have hal : Kept ((wr.setCell ⟨w.heap.size + 2, v, none⟩ (.bool true)).setCell ⟨w.heap.size + 1, v, none⟩ (.int .i64 i)) (((wr.setCell ⟨w.heap.size + 2, v, none⟩ (.bool true)).setCell ⟨w.heap.size + 1, v, none⟩ (.int .i64 i)).alloc o) := (Only.refl _ _).alloc o
  refine ⟨?_, ?_, by simpa using ht, ?_⟩
  · rw [byL_app n s bs v u i ag hs hnew hv]
    exact (((h.by_.only (store_only wr (w.heap.size + 2) v (.bool true)) (by omega)).set (by rw [byL_len]; exact hv) i).fix hal).only ho (by omega)
  · rw [seenL_app n bs v _ hv]
    exact (((h.seen.set (by rw [seenL_len]; exact hv) true).only (store_only _ (w.heap.size + 1) v (.int .i64 i)) (by omega)).fix hal).only ho (by omega)
  · have : Kept (w.alloc bx) (((wr.setCell ⟨w.heap.size + 2, v, none⟩ (.bool true)).setCell ⟨w.heap.size + 1, v, none⟩ (.int .i64 i)).alloc o) :=
      ((h.kept.store _ _ (fun h => absurd h (by simp)) _).store _ _ (fun h => absurd h (by simp)) _).alloc o
    exact this.trans' ho (fun _ _ x => x) (fun k hk x => absurd x (by simp at hk; omega))
theorem dir5 {E : List Ed} {fl : List Int} {u i f t : Nat} (hf : (E.getD i default).f = f) (ht : (E.getD i default).t = t) (hft : (E.getD i default).f ≠ (E.getD i default).t) :
    (u = f ∧ ((t : Int) == (u : Int)) = false ∧ fl.getD i 0 < (E.getD i default).c ∧ dir E fl u i = some ((t : Int), false)) ∨
    (((f : Int) == (u : Int)) = false ∧ u = t ∧ 0 < fl.getD i 0 ∧ dir E fl u i = some ((f : Int), true)) ∨
    (u = f ∧ ((t : Int) == (u : Int)) = false ∧ (E.getD i default).c ≤ fl.getD i 0 ∧ dir E fl u i = none) ∨
    (((f : Int) == (u : Int)) = false ∧ u = t ∧ fl.getD i 0 ≤ 0 ∧ dir E fl u i = none) ∨
    (((f : Int) == (u : Int)) = false ∧ ((t : Int) == (u : Int)) = false ∧ dir E fl u i = none) := by
  have h := dir_cases E fl u i
  rw [hf, ht] at h
  rw [hf, ht] at hft
  by_cases e1 : f = u
  · have e2 : ((t : Int) == (u : Int)) = false := by simp; omega
    by_cases e3 : fl.getD i 0 < (E.getD i default).c
    · refine .inl ⟨e1.symm, e2, e3, ?_⟩
      rcases h with ⟨_, _, h⟩ | ⟨h, _⟩ | ⟨h, _⟩
      · exact h
      · exact absurd ⟨by omega, e3⟩ h
      · exact absurd ⟨by omega, e3⟩ h
    · refine .inr (.inr (.inl ⟨e1.symm, e2, by omega, ?_⟩))
      rcases h with ⟨_, h, _⟩ | ⟨_, h, _⟩ | ⟨_, _, h⟩
      · exact absurd h e3
      · exact absurd h (by omega)
      · exact h
  · have e2 : ((f : Int) == (u : Int)) = false := by simp; omega
    by_cases e3 : t = u
    · by_cases e4 : 0 < fl.getD i 0
      · refine .inr (.inl ⟨e2, e3.symm, e4, ?_⟩)
        rcases h with ⟨h, _⟩ | ⟨_, _, _, h⟩ | ⟨_, h, _⟩
        · exact absurd h (by omega)
        · exact h
        · exact absurd ⟨by omega, e4⟩ h
      · refine .inr (.inr (.inr (.inl ⟨e2, e3.symm, by omega, ?_⟩)))
        rcases h with ⟨h, _⟩ | ⟨_, _, h, _⟩ | ⟨_, _, h⟩
        · exact absurd h (by omega)
        · exact absurd h e4
        · exact h
    · refine .inr (.inr (.inr (.inr ⟨e2, by simp; omega, ?_⟩)))
      rcases h with ⟨h, _⟩ | ⟨_, h, _⟩ | ⟨_, _, h⟩
      · exact absurd h (by omega)
      · exact absurd h (by omega)
      · exact h
/-- A row of which the first k are -1. -/
def minusK (n k : Nat) : List Int := List.replicate k (-1) ++ List.replicate (n - k) 0
theorem minusK_len (n k : Nat) (h : k ≤ n) : (minusK n k).length = n := by simp [minusK]; omega
theorem minusK_succ (n k : Nat) (h : k < n) : minusK n (k + 1) = (minusK n k).set k (-1) := by
  apply list_ext0 (by rw [List.length_set, minusK_len _ _ h, minusK_len _ _ (by omega)])
  intro j hj
  rw [minusK_len _ _ h] at hj
  rw [getD_set _ _ _ _ (by rw [minusK_len _ _ (by omega)]; exact h)]
  unfold minusK
  simp only [List.getD_eq_getElem?_getD, List.getElem?_append, List.length_replicate, List.getElem?_replicate]
  by_cases e : j = k
  · subst e; simp
  · rw [if_neg e]
    by_cases e2 : j < k
    · simp [e2, show j < k + 1 by omega]
    · simp [e2, show ¬ j < k + 1 by omega, show j - (k + 1) < n - (k + 1) by omega, show j - k < n - k by omega]

set_option maxHeartbeats 4000000 in
set_option maxRecDepth 100000 in
theorem r6way_any (N s t : Int) (A B : Option Addr) (c d : Nat) (E : List Ed) (fl : List Int) (w : World) (hE : ReadsE w A E) (hF : ReadsI w B fl) (hN : NetOk N E) (hl : fl.length = E.length) (hs : 0 ≤ s ∧ s < N) (ht : 0 ≤ t ∧ t < N) :
    Calls Try.prog 50 #[.agg #[.int .i64 N, .slice A E.length c], .slice B fl.length d, .int .i64 s, .int .i64 t] w fun e w' => ∃ g,
      e = .returned (.tuple #[.slice (some ⟨g, 0, none⟩) N.toNat N.toNat, .bool (decide (t ∈ (bfs E fl s N.toNat).map (·.1)))]) ∧ w.heap.size ≤ g ∧ RowI w' g (byL N.toNat s (bfs E fl s N.toNat)) ∧ Kept w w' := by
  have n2 := hN.1
  have n3 := hN.2.1
  have lE := hN.2.2.1
  have hEn := hN.ends
  obtain ⟨n, rfl⟩ : ∃ n : Nat, N = n := ⟨N.toNat, by omega⟩
  obtain ⟨sn, rfl⟩ : ∃ sn : Nat, s = sn := ⟨s.toNat, by omega⟩
  obtain ⟨tn, rfl⟩ : ∃ tn : Nat, t = tn := ⟨t.toNat, by omega⟩
  rw [Int.toNat_natCast] at *
  have HF := Lib.hid hF
  have HE := Lib.hid hE
  have HEN := Lib.hid hEn
  obtain ⟨hs1, hs2⟩ := hs
  obtain ⟨ht1, ht2⟩ := ht
  have HSV := Lib.hid (show (0 : Int) ≤ sn ∧ (sn : Int) < n from ⟨hs1, hs2⟩)
  rw [hl]
  have HL := Lib.hid hl
  clear hF hE hN hEn hl hs1 ht1
  have hmk := make_ints n (by omega)
  have hmb := make_bools n (by omega)
  obtain ⟨i0, hi, hz0, hz1, hz2⟩ := info_parts infoInt
  go_enter Try.func50, Try.ntmps50
  go_wp2
  go_loopw [12] (fun i wr => ∃ k : Nat, k ≤ n ∧ i = .int .i64 k ∧ RowI wr (w.heap.size + 1) (minusK n k) ∧ RowB wr (w.heap.size + 2) (List.replicate n false) ∧ Kept (w.alloc (.cells #[.int .i64 n, .slice A E.length c] 24)) wr ∧ w.heap.size + 3 = wr.heap.size) (fun i _ => n - (intOf i).toNat)
  case atStart =>
    refine ⟨0, Nat.zero_le _, rfl, ?_, ?_, ((Only.refl _ _).alloc _).alloc _, by simp⟩
    · have := (RowI.made (w.alloc (.cells #[.int .i64 n, .slice A E.length c] 24)) n).fix ((Only.refl _ _).alloc (.cells (Array.replicate n (.bool false)) 4))
      simpa [minusK] using this
    · have := RowB.made ((w.alloc (.cells #[.int .i64 n, .slice A E.length c] 24)).alloc (.cells (Array.replicate n (.int .i64 0)) 3)) n
      simpa using this
  case round =>
    obtain ⟨k, hk, rfl, hr, hb, ho, hsz⟩ := hrel
    obtain ⟨n0, n1, nb⟩ := box_at ho
    have HR := Lib.hid hr
    have HB := Lib.hid hb
    have HO := Lib.hid ho
    have HS := Lib.hid hsz
    clear hr hb ho hsz
    by_cases hlt : k < n
    · have r1 := HR.out.at (i := k) (by rw [minusK_len _ _ hk]; exact hlt)
      have r2 := HR.out.fr k
      have r3 := HR.out.lt
      generalize (minusK n k).getD k 0 = x at *
      go_wp2
      go_roundw
      case rel => exact ⟨k + 1, by omega, by go_num, by rw [minusK_succ _ _ hlt]; exact HR.out.set (by rw [minusK_len _ _ hk]; exact hlt) _, HB.out.only (store_only _ _ _ _) (by omega), HO.out.store _ _ (fun h => absurd h (by simp)) _, by simpa [World.setCell] using HS.out⟩
      case measure => simp [intOf]; omega
    · obtain rfl : k = n := by omega
      clear hlt
      have hrn : RowI wr (w.heap.size + 1) (byL k sn [((sn : Int), (0, 0, false))]) := by rw [byL_start]; simpa [minusK] using HR.out
      have hbn : RowB (wr.setCell ⟨w.heap.size + 2, sn, none⟩ (.bool true)) (w.heap.size + 2) (seenL k [((sn : Int), (0, 0, false))]) := by rw [seenL_start _ _ _ (by omega)]; exact HB.out.set (by rw [List.length_replicate]; omega) true
      have b1 := HB.out.at (i := sn) (by rw [List.length_replicate]; omega)
      have b2 := HB.out.fr sn
      have b3 := HB.out.lt
      have hseek : SeekR w ((wr.setCell ⟨w.heap.size + 2, sn, none⟩ (.bool true)).alloc (.cells #[.int .i64 sn] 3)) (.cells #[.int .i64 k, .slice A E.length c] 24) k sn (bfs E fl sn 0) (.slice (some ⟨wr.heap.size, 0, none⟩) 1 1) :=
        ⟨(hrn.only (store_only _ _ _ _) (by omega)).fix ((Only.refl _ _).alloc _), hbn.fix ((Only.refl _ _).alloc _),
          ⟨rfl, .inr ⟨wr.heap.size, 1, _, rfl, by rw [HS.out]; exact Nat.le_refl _, by have := (MapKept.heap_alloc (wr.setCell ⟨w.heap.size + 2, sn, none⟩ (.bool true)) (.cells #[.int .i64 sn] 3)).1; simpa [World.setCell] using this, Nat.le_refl _, by decide, rfl, rfl⟩⟩,
          (HO.out.store _ _ (fun h => absurd h (by simp)) _).alloc _⟩
      have HK := Lib.hid hseek
      clear hrn hbn hseek
      generalize (List.replicate k false).getD sn false = x at *
      go_wp2
      have HSK := HS
      clear HS HR HO HB b1 b2 b3
      go_loopw [13, 14, 15, 16, 17, 18] (fun todo q _ _ _ _ wq => ∃ m : Nat, m ≤ 64 ∧ q = .int .i64 m ∧ SeekR w wq (.cells #[.int .i64 k, .slice A E.length c] 24) k sn (bfs E fl sn m) todo ∧ w.heap.size + 3 ≤ wq.heap.size) (fun _ q _ _ _ _ _ => 64 - (intOf q).toNat)
      case atStart => exact ⟨0, Nat.zero_le _, rfl, HK.out, by simp [World.setCell]; have := HSK.out; omega⟩
      case round =>
        obtain ⟨m, hm, rfl, hsk, hsz⟩ := hrel
        have hinv := bfs_inv E fl sn m
        have hlen := hinv.len HEN.out HSV.out
        obtain ⟨A2, cc2, hv2⟩ := row_slice hsk.todo
        subst hv2
        obtain ⟨n0, n1, nb⟩ := box_at hsk.kept
        have HI := Lib.hid hsk
        have HV := Lib.hid hinv
        clear hsk hinv
        by_cases hlt : m < (bfs E fl sn m).length
        · have hm64 : (m : Int) < 64 := by omega
          obtain ⟨_, _, hve, hle, hall⟩ := row_open HI.out.todo
          cases hve
          obtain ⟨g, rfl, hg1, hg2, hg3⟩ := hall m hlt
          have hkeys := HV.out.keys HEN.out HSV.out
          obtain ⟨un, hun⟩ : ∃ un : Nat, ((bfs E fl sn m)[m]).1 = un := ⟨((bfs E fl sn m)[m]).1.toNat, by have := hkeys _ (List.mem_map.2 ⟨_, List.getElem_mem hlt, rfl⟩); omega⟩
          have hu := hkeys _ (List.mem_map.2 ⟨_, List.getElem_mem hlt, rfl⟩)
          have hbm : (bfs E fl sn m)[m]? = some (bfs E fl sn m)[m] := List.getElem?_eq_getElem hlt
          have hnext := bfs_some hbm
          have hsi := fun j hj => bfs_scan hbm j hj
          rw [List.getElem?_map, hbm] at hg3
          simp only [Option.map_some] at hg3
          rw [hun] at hg3 hnext hsi hu
          have hbs : scan E fl un (bfs E fl sn m) 0 = bfs E fl sn m := rfl
          have HNX := Lib.hid hnext
          have HSI := Lib.hid hsi
          have HBS := Lib.hid hbs
          have HU := Lib.hid hun
          have HUR := Lib.hid hu
          have HBM := Lib.hid hbm
          obtain ⟨hu1, hu2⟩ := hu
          clear hkeys hnext hsi hbs hun hbm hall hu1
          go_wp2
          go_loopw [13, 16, 17, 18] (fun todo i _ _ wi => ∃ j : Nat, j ≤ E.length ∧ i = .int .i64 j ∧ SeekR w wi (.cells #[.int .i64 k, .slice A E.length c] 24) k sn (scan E fl un (bfs E fl sn m) j) todo ∧ w.heap.size + 3 ≤ wi.heap.size) (fun _ i _ _ _ => E.length - (intOf i).toNat)
          case atStart => exact ⟨0, Nat.zero_le _, rfl, by rw [HBS.out]; exact HI.out, hsz⟩
          case round =>
            obtain ⟨j, hj, rfl, hsk2, hsz2⟩ := hrel
            obtain ⟨A3, cc3, hv3⟩ := row_slice hsk2.todo
            subst hv3
            obtain ⟨q0, q1, qb⟩ := box_at hsk2.kept
            have HJ := Lib.hid hsk2
            have hinv2 := HSI.out j hj
            have hlen2 := hinv2.len HEN.out HSV.out
            have hself := hinv2.self
            have hucov : (un : Int) ∈ (scan E fl un (bfs E fl sn m) j).map (·.1) := by
              obtain ⟨r, hr⟩ := scan_prefix E fl un (bfs E fl sn m) j
              rw [hr, List.map_append]
              exact List.mem_append_left _ (List.mem_map.2 ⟨_, List.mem_of_getElem? HBM.out, HU.out⟩)
            have hsc := scan_succ E fl un (bfs E fl sn m) j
            have hkp : Kept w wr := ((Only.refl _ _).alloc _).trans hsk2.kept
            have HFIN0 := HJ
            clear HK HI
            generalize hbs0 : scan E fl un (bfs E fl sn m) j = bs at *
            have HB0 := Lib.hid hbs0
            clear hbs0
            generalize hbs1 : scan E fl un (bfs E fl sn m) (j + 1) = bs1 at hsc
            have HB1 := Lib.hid hbs1
            have HINV := Lib.hid hinv2
            have HSELF := Lib.hid hself
            have HUC := Lib.hid hucov
            have HKP := Lib.hid hkp
            clear hsk2 hinv2 hself hucov hkp hbs1
            by_cases hlt2 : j < E.length
            · obtain ⟨bk, off, rfl, lb, lb0, e0, e1, e2⟩ := edge_at2 HE.out hlt2 HKP.out
              obtain ⟨bk2, off2, rfl, lb2, lb20, e3⟩ := int_at2 HF.out (by rw [HL.out]; exact hlt2) HKP.out
              obtain ⟨⟨ef0, ef1⟩, ⟨et0, et1⟩, eft⟩ := HEN.out.at hlt2
              obtain ⟨f, hf⟩ : ∃ f : Nat, (E.getD j default).f = f := ⟨(E.getD j default).f.toNat, by omega⟩
              obtain ⟨t', ht'⟩ : ∃ t' : Nat, (E.getD j default).t = t' := ⟨(E.getD j default).t.toNat, by omega⟩
              have hdc := dir5 (fl := fl) (u := un) hf ht' eft
              rw [hf] at e0 ef0 ef1
              rw [ht'] at e1 et0 et1
              clear hf ht' eft ef0 et0
              generalize fl.getD j 0 = x at *
              generalize (E.getD j default).c = y at *
              have sb1 := HJ.out.seen.lt
              have sb2 := HJ.out.by_.lt
              have sf1 := fun i => HJ.out.seen.fr i
              have sf2 := fun i => HJ.out.by_.fr i
              rcases hdc with ⟨rfl, d1, d2, d3⟩ | ⟨d1, rfl, d2, d3⟩ | ⟨rfl, d1, d2, d3⟩ | ⟨d1, rfl, d2, d3⟩ | ⟨d1, d2, d3⟩
              · have hsee : see E fl un bs j = if ((t' : Nat) : Int) ∈ bs.map (·.1) then bs else bs ++ [(((t' : Nat) : Int), ((un : Int), j, false))] := by unfold see; rw [d3]
                have sv := HJ.out.seen.at (i := t') (by rw [seenL_len]; omega)
                rw [seenL_get _ _ _ (by omega)] at sv
                by_cases hin : ((t' : Nat) : Int) ∈ bs.map (·.1)
                · rw [decide_eq_true hin] at sv
                  rw [if_pos hin] at hsee
                  rw [hsee] at hsc
                  have HSC := Lib.hid hsc
                  clear hsc hsee d3 hin
                  go_wp2
                  try (go_quiet (fail); go_wp2)
                  try (go_quiet (fail); go_wp2)
                  go_roundw
                  case rel => exact ⟨j + 1, by omega, by go_num, by rw [HB1.out, HSC.out]; exact (HJ.out.alloc _).fixH rfl ⟨rfl, rfl, rfl, Nat.le_refl _, fun _ _ _ => rfl⟩, by simp; omega⟩
                  case measure => simp [intOf]; omega
                · rw [decide_eq_false hin] at sv
                  rw [if_neg hin] at hsee
                  rw [hsee] at hsc
                  have HSC := Lib.hid hsc
                  have HIN := Lib.hid hin
                  have sby := HJ.out.by_.at (i := t') (by rw [byL_len]; omega)
                  generalize (byL k sn bs).getD t' 0 = yo at *
                  clear hsc hsee d3 hin
                  have sne : w.heap.size + 1 ≠ w.heap.size + 2 := by omega
                  have sne2 : w.heap.size + 2 ≠ w.heap.size + 1 := by omega
                  have HT := Lib.hid (show (((wr.alloc (.cells #[.int .i64 un, .int .i64 t', .int .i64 y] 50)).setCell ⟨w.heap.size + 1 + 1, t', none⟩ (.bool true)).setCell ⟨w.heap.size + 1, t', none⟩ (.int .i64 j)).ownsRow (w.heap.size + 3) 3 1 (.slice A3 bs.length cc3) bs.length (bs.map fun p => .int .i64 p.1) from
                    ownsRow_setCell_ne (ownsRow_setCell_ne (RowOwned.alloc HJ.out.todo _) (fun q hq => by have := row_at HJ.out.todo q hq; show q ≠ w.heap.size + 1 + 1; omega) _) (fun q hq => by have := row_at HJ.out.todo q hq; show q ≠ w.heap.size + 1; omega) _)
                  go_wp2_with (at_builtin; refine wpList_append_own _ rfl _ _ 25 rfl (w.heap.size + 3) 3 i0 _ 1 8 Try.underlying25 hi hz0 hz1 hz2 rfl (by decide) _ _ _ rfl (RowOwned.alloc HT.out _) ⟨_, 0, none⟩ 1 1 [.int .i64 t'] rfl rfl (one_new_at _ _ _ (by simp [World.setCell])) (by simp [Value.oneCell']) (by unfold maxLen; omega) (by omega) (by simp; omega) ?_; intro v1 w1 hown1 hgrow1 hnil1; have HN1 := Lib.hid hown1; have HG1 := Lib.hid hgrow1; clear hown1 hgrow1 hnil1)
                  go_quiet (fail)
                  go_wp2_with (at_builtin; refine wpList_append_own _ rfl _ _ 25 rfl (w.heap.size + 3) 3 i0 _ 1 8 Try.underlying25 hi hz0 hz1 hz2 rfl (by decide) _ _ _ rfl (RowOwned.alloc HT.out _) ⟨_, 0, none⟩ 1 1 [.int .i64 t'] rfl rfl (one_new_at _ _ _ (by simp [World.setCell])) (by simp [Value.oneCell']) (by unfold maxLen; omega) (by omega) (by simp; omega) ?_; intro v1 w1 hown1 hgrow1 hnil1; have HN1 := Lib.hid hown1; have HG1 := Lib.hid hgrow1; clear hown1 hgrow1 hnil1)
                  go_roundw
                  case rel => exact ⟨j + 1, by omega, by go_num, by rw [HB1.out, HSC.out]; exact SeekR.next ((HJ.out.alloc _).fixH (w' := (wr.alloc _).drewN _) rfl ⟨rfl, rfl, rfl, Nat.le_refl _, fun _ _ _ => rfl⟩) (by simp; omega) HSELF.out t' un j _ (by omega) HIN.out (row_at HT.out) HG1.out HN1.out, by have := HG1.out.size; simp [World.setCell] at this; omega⟩
                  case measure => simp [intOf]; omega
              · have hsee : see E fl un bs j = if ((f : Nat) : Int) ∈ bs.map (·.1) then bs else bs ++ [(((f : Nat) : Int), ((un : Int), j, true))] := by unfold see; rw [d3]
                have sv := HJ.out.seen.at (i := f) (by rw [seenL_len]; omega)
                rw [seenL_get _ _ _ (by omega)] at sv
                by_cases hin : ((f : Nat) : Int) ∈ bs.map (·.1)
                · rw [decide_eq_true hin] at sv
                  rw [if_pos hin] at hsee
                  rw [hsee] at hsc
                  have HSC := Lib.hid hsc
                  clear hsc hsee d3 hin
                  go_wp2
                  try (go_quiet (fail); go_wp2)
                  try (go_quiet (fail); go_wp2)
                  go_roundw
                  case rel => exact ⟨j + 1, by omega, by go_num, by rw [HB1.out, HSC.out]; exact (HJ.out.alloc _).fixH rfl ⟨rfl, rfl, rfl, Nat.le_refl _, fun _ _ _ => rfl⟩, by simp; omega⟩
                  case measure => simp [intOf]; omega
                · rw [decide_eq_false hin] at sv
                  rw [if_neg hin] at hsee
                  rw [hsee] at hsc
                  have HSC := Lib.hid hsc
                  have HIN := Lib.hid hin
                  have sby := HJ.out.by_.at (i := f) (by rw [byL_len]; omega)
                  generalize (byL k sn bs).getD f 0 = yo at *
                  clear hsc hsee d3 hin
                  have sne : w.heap.size + 1 ≠ w.heap.size + 2 := by omega
                  have sne2 : w.heap.size + 2 ≠ w.heap.size + 1 := by omega
                  have HT := Lib.hid (show (((wr.alloc (.cells #[.int .i64 f, .int .i64 un, .int .i64 y] 50)).setCell ⟨w.heap.size + 1 + 1, f, none⟩ (.bool true)).setCell ⟨w.heap.size + 1, f, none⟩ (.int .i64 j)).ownsRow (w.heap.size + 3) 3 1 (.slice A3 bs.length cc3) bs.length (bs.map fun p => .int .i64 p.1) from
                    ownsRow_setCell_ne (ownsRow_setCell_ne (RowOwned.alloc HJ.out.todo _) (fun q hq => by have := row_at HJ.out.todo q hq; show q ≠ w.heap.size + 1 + 1; omega) _) (fun q hq => by have := row_at HJ.out.todo q hq; show q ≠ w.heap.size + 1; omega) _)
                  go_wp2_with (at_builtin; refine wpList_append_own _ rfl _ _ 25 rfl (w.heap.size + 3) 3 i0 _ 1 8 Try.underlying25 hi hz0 hz1 hz2 rfl (by decide) _ _ _ rfl (RowOwned.alloc HT.out _) ⟨_, 0, none⟩ 1 1 [.int .i64 f] rfl rfl (one_new_at _ _ _ (by simp [World.setCell])) (by simp [Value.oneCell']) (by unfold maxLen; omega) (by omega) (by simp; omega) ?_; intro v1 w1 hown1 hgrow1 hnil1; have HN1 := Lib.hid hown1; have HG1 := Lib.hid hgrow1; clear hown1 hgrow1 hnil1)
                  go_quiet (fail)
                  go_wp2_with (at_builtin; refine wpList_append_own _ rfl _ _ 25 rfl (w.heap.size + 3) 3 i0 _ 1 8 Try.underlying25 hi hz0 hz1 hz2 rfl (by decide) _ _ _ rfl (RowOwned.alloc HT.out _) ⟨_, 0, none⟩ 1 1 [.int .i64 f] rfl rfl (one_new_at _ _ _ (by simp [World.setCell])) (by simp [Value.oneCell']) (by unfold maxLen; omega) (by omega) (by simp; omega) ?_; intro v1 w1 hown1 hgrow1 hnil1; have HN1 := Lib.hid hown1; have HG1 := Lib.hid hgrow1; clear hown1 hgrow1 hnil1)
                  go_roundw
                  case rel => exact ⟨j + 1, by omega, by go_num, by rw [HB1.out, HSC.out]; exact SeekR.next ((HJ.out.alloc _).fixH (w' := (wr.alloc _).drewN _) rfl ⟨rfl, rfl, rfl, Nat.le_refl _, fun _ _ _ => rfl⟩) (by simp; omega) HSELF.out f un j _ (by omega) HIN.out (row_at HT.out) HG1.out HN1.out, by have := HG1.out.size; simp [World.setCell] at this; omega⟩
                  case measure => simp [intOf]; omega
              · skip
                have hsee : see E fl un bs j = bs := by unfold see; rw [d3]
                have sv := HJ.out.seen.at (i := un) (by rw [seenL_len]; omega)
                rw [seenL_get _ _ _ (by omega), decide_eq_true HUC.out] at sv
                rw [hsee] at hsc
                have HSC := Lib.hid hsc
                clear hsc hsee d3
                go_wp2
                try (go_quiet (fail); go_wp2)
                try (go_quiet (fail); go_wp2)
                go_roundw
                case rel => exact ⟨j + 1, by omega, by go_num, by rw [HB1.out, HSC.out]; exact (HJ.out.alloc _).fixH rfl ⟨rfl, rfl, rfl, Nat.le_refl _, fun _ _ _ => rfl⟩, by simp; omega⟩
                case measure => simp [intOf]; omega
              · skip
                have hsee : see E fl un bs j = bs := by unfold see; rw [d3]
                have sv := HJ.out.seen.at (i := un) (by rw [seenL_len]; omega)
                rw [seenL_get _ _ _ (by omega), decide_eq_true HUC.out] at sv
                rw [hsee] at hsc
                have HSC := Lib.hid hsc
                clear hsc hsee d3
                go_wp2
                try (go_quiet (fail); go_wp2)
                try (go_quiet (fail); go_wp2)
                go_roundw
                case rel => exact ⟨j + 1, by omega, by go_num, by rw [HB1.out, HSC.out]; exact (HJ.out.alloc _).fixH rfl ⟨rfl, rfl, rfl, Nat.le_refl _, fun _ _ _ => rfl⟩, by simp; omega⟩
                case measure => simp [intOf]; omega
              · skip
                have hsee : see E fl un bs j = bs := by unfold see; rw [d3]
                have sv := HJ.out.seen.at (i := un) (by rw [seenL_len]; omega)
                rw [seenL_get _ _ _ (by omega), decide_eq_true HUC.out] at sv
                rw [hsee] at hsc
                have HSC := Lib.hid hsc
                clear hsc hsee d3
                go_wp2
                try (go_quiet (fail); go_wp2)
                try (go_quiet (fail); go_wp2)
                go_roundw
                case rel => exact ⟨j + 1, by omega, by go_num, by rw [HB1.out, HSC.out]; exact (HJ.out.alloc _).fixH rfl ⟨rfl, rfl, rfl, Nat.le_refl _, fun _ _ _ => rfl⟩, by simp; omega⟩
                case measure => simp [intOf]; omega
            · obtain rfl : j = E.length := by omega
              clear hlt2
              have HFIN := Lib.hid (show SeekR w wr (.cells #[.int .i64 k, .slice A E.length c] 24) k sn (bfs E fl sn (m + 1)) (.slice A3 bs.length cc3) from by
                rw [HNX.out, HB0.out]; exact HFIN0.out)
              clear HFIN0
              go_wp2
              go_roundw
              case rel => exact ⟨m + 1, by omega, by go_num, HFIN.out, hsz2⟩
              case measure => simp [intOf]; omega
        · have hend := bfs_end (k := m) HEN.out HSV.out (.inl (Nat.le_of_not_lt hlt))
          have sv := HI.out.seen.at (i := tn) (by rw [seenL_len]; omega)
          rw [seenL_get _ _ _ (by omega)] at sv
          have HSE := Lib.hid hend
          have hbv : ((m : Int) < (bfs E fl sn m).length) = False := by simp; omega
          have HR := Lib.hid HI.out.by_
          have sb1 := HI.out.seen.lt
          have HKE := Lib.hid (((Only.refl _ w).alloc _).trans HI.out.kept)
          clear hend
          generalize hdv : decide ((tn : Int) ∈ (bfs E fl sn m).map (·.1)) = dv at *
          have HDV := Lib.hid hdv
          clear hdv
          go_wp2
          go_quiet (fail)
          go_wp2
          go_ret2
          refine ⟨w.heap.size + 1, ?_, by omega, ?_, HKE.out.drewN _⟩
          · show Ending.returned (.tuple #[.slice (some ⟨w.heap.size + 1, 0, none⟩) k k, .bool dv]) = _
            rw [← HDV.out, HSE.out]
          · rw [← HSE.out]; exact ⟨HR.out.obj⟩
end Go.Proofs.Ytlpccebackmahaa

/- Layer 7: flow.search walked. -/
import Derived.Test.YtlpccebackmahaaLexM
import Derived.Test.YtlpccebackmahaaQueue
import Derived.Deep.LoopGhost
set_option linter.unusedVariables false
set_option linter.unusedSimpArgs false
namespace Go.Proofs.Ytlpccebackmahaa
open Go.RowKit

def stV (q : Int × (Nat × Bool)) : Value := .agg #[.int .i64 q.1, .int .i64 q.2.1, .bool q.2.2]

theorem zeroStep (w : World) : (zeroValue 74).run Try.prog w = .ok (.agg #[.int .i64 0, .int .i64 0, .bool false]) w := by kernel_rfl
/-- The middle of the search: what lies where. -/
structure SeekP (w wr : World) (bx : Obj) (bs : List St) (xs : List Int) (todo : Value) : Prop where
  map : MapIs (.int .i64) (Value.int .i64) stV wr (w.heap.size + 1) bs
  todo : QIs wr (w.heap.size + 2) todo xs
  kept : Kept (w.alloc bx) wr
  size : w.heap.size + 2 ≤ wr.heap.size
theorem SeekP.fix {w wr w' : World} {bx : Obj} {bs : List St} {xs : List Int} {todo : Value} (h : SeekP w wr bx bs xs todo) (ho : Kept wr w') : SeekP w w' bx bs xs todo :=
  ⟨h.map.of_heap (ho.block _ (by have := h.size; omega) (fun x => x)), h.todo.keep ho (fun _ _ x => x), h.kept.trans ho, Nat.le_trans h.size ho.size⟩
theorem SeekP.look_some {w wr : World} {bx : Obj} {bs : List St} {xs : List Int} {todo : Value} (h : SeekP w wr bx bs xs todo) {v : Int} {q : Int × (Nat × Bool)} (hv : aget bs v = some q) (o : Obj) (n : Nat) (ok : Bool) :
    (Instr.lookup 86 (.map (some (w.heap.size + 1))) (.int .i64 v) ok).run Try.prog ((wr.alloc o).drewN n) = .ok (if ok then .tuple #[stV q, .bool true] else stV q) ((wr.alloc o).drewN n) :=
  run_look_some (keyK_int .i64) Try.underlying86 Try.underlying3 (h.fix (((Only.refl _ _).alloc o).drewN n)).map hv ok
theorem SeekP.look_none {w wr : World} {bx : Obj} {bs : List St} {xs : List Int} {todo : Value} (h : SeekP w wr bx bs xs todo) {v : Int} (hv : aget bs v = none) (o : Obj) (n : Nat) (ok : Bool) :
    (Instr.lookup 86 (.map (some (w.heap.size + 1))) (.int .i64 v) ok).run Try.prog ((wr.alloc o).drewN n) = .ok (if ok then .tuple #[.agg #[.int .i64 0, .int .i64 0, .bool false], .bool false] else .agg #[.int .i64 0, .int .i64 0, .bool false]) ((wr.alloc o).drewN n) :=
  run_look_none (keyK_int .i64) Try.underlying86 Try.underlying3 (zeroStep _) (h.fix (((Only.refl _ _).alloc o).drewN n)).map hv ok
theorem aget_in {bs : List St} {v : Int} (h : v ∈ bs.map (·.1)) : ∃ q, aget bs v = some q := by
  cases hq : aget bs v with
  | some q => exact ⟨q, rfl⟩
  | none =>
    exfalso
    unfold aget at hq
    rw [Option.map_eq_none_iff, List.find?_eq_none] at hq
    obtain ⟨p, hp, rfl⟩ := List.mem_map.1 h
    exact hq p hp (by simp)
theorem aget_out {bs : List St} {v : Int} (h : v ∉ bs.map (·.1)) : aget bs v = none := by
  unfold aget
  rw [Option.map_eq_none_iff, List.find?_eq_none]
  intro p hp hq
  exact h (List.mem_map.2 ⟨p, hp, by simpa using hq⟩)
theorem SeekP.update {w wr : World} {bx : Obj} {bs : List St} {xs : List Int} {todo : Value} (h : SeekP w wr bx bs xs todo) {v : Int} (hv : v ∉ bs.map (·.1)) (q : Int × (Nat × Bool)) :
    ∃ o, (Instr.mapUpdate 86 (.map (some (w.heap.size + 1))) (.int .i64 v) (stV q)).run Try.prog wr = .ok () (putM wr (w.heap.size + 1) o) ∧ SeekP w (putM wr (w.heap.size + 1) o) bx (bs ++ [(v, q)]) xs todo := by
  obtain ⟨o, h1, h2⟩ := run_update_mapIs (P := Try.prog) (keyK_int .i64) Try.underlying86 Try.underlying3 h.map v q
  refine ⟨o, h1, ⟨?_, h.todo.keep (S := fun k => k = w.heap.size + 1) ((Only.refl (fun k => k = w.heap.size + 1) _).putM (fun _ => rfl) o) (fun k hk x => by have := h.todo.at_ k hk; omega), h.kept.putM (fun hh => absurd hh (by simp)) o, by rw [size_putM]; exact h.size⟩⟩
  have : aput bs v q = bs ++ [(v, q)] := by
    unfold aput
    rw [aget_out hv]
    rfl
  rw [← this]
  exact h2
theorem SeekP.grown {w wr w1 : World} {bx : Obj} {bs : List St} {xs xs' : List Int} {todo todo' : Value} (h : SeekP w wr bx bs xs todo) (hq : QIs w1 (w.heap.size + 2) todo' xs') (hg : wr.grownBy w1 todo.ownBlock) : SeekP w w1 bx bs xs' todo' := by
  have ho : Only (fun k => w.heap.size + 2 ≤ k) wr w1 := Only.of_grown hg (fun k hk _ => h.todo.at_ k hk)
  exact ⟨h.map.of_heap (ho.block _ (by have := h.size; omega) (by omega)), hq, h.kept.trans' ho (fun _ _ x => x) (fun k hk x => absurd x (by simp at hk; omega)), Nat.le_trans h.size ho.size⟩
theorem SeekP.head {w wr : World} {bx : Obj} {bs : List St} {xs : List Int} {x : Int} {g off cap : Nat} (h : SeekP w wr bx bs (x :: xs) (.slice (some ⟨g, off, none⟩) (x :: xs).length cap)) : SeekP w wr bx bs xs (.slice (some ⟨g, off + 1, none⟩) xs.length (cap - 1)) :=
  ⟨h.map, h.todo.tail, h.kept, h.size⟩

theorem SeekP.dry {w wr : World} {bx : Obj} {bs : List St} {xs : List Int} {g off q cap : Nat} (h : SeekP w wr bx bs xs (.slice (some ⟨g, off + 1, none⟩) q cap)) (hq : q = 0) : SeekP w wr bx bs xs (.slice (some ⟨g, off, none⟩) q 0) := by
  refine ⟨h.map, ?_, h.kept, h.size⟩
  obtain ⟨g', off', cap', cur, hv, hb, hg, h1, h2, h3, h4⟩ := h.todo
  cases hv
  exact ⟨g, off, 0, cur, rfl, hb, hg, by omega, by unfold maxLen; omega, by omega, fun i hi => absurd hi (by omega)⟩

set_option maxHeartbeats 4000000 in
set_option maxRecDepth 100000 in
theorem fsearch_any (N s : Int) (A B : Option Addr) (c d : Nat) (E : List Ed) (fl : List Int) (w : World) (hE : ReadsE w A E) (hF : ReadsI w B fl) (hN : NetOk N E) (hl : fl.length = E.length) (hs : 0 ≤ s ∧ s < N) :
    Calls Try.prog 62 #[.agg #[.int .i64 N, .slice A E.length c], .slice B fl.length d, .int .i64 s] w fun e w' => ∃ g,
      e = .returned (.map (some g)) ∧ w.heap.size ≤ g ∧ MapIs (.int .i64) (Value.int .i64) stV w' g (bfs E fl s N.toNat) ∧ Kept w w' := by
  have n2 := hN.1
  have n3 := hN.2.1
  have lE := hN.2.2.1
  have hEn := hN.ends
  obtain ⟨n, rfl⟩ : ∃ n : Nat, N = n := ⟨N.toNat, by omega⟩
  rw [Int.toNat_natCast] at *
  have HF := Lib.hid hF
  have HE := Lib.hid hE
  have HEN := Lib.hid hEn
  have HSV := Lib.hid hs
  rw [hl]
  have HL := Lib.hid hl
  clear hF hE hN hEn hl hs
  have hmm := @run_makeMap Try.prog
  have hmade := MapIs.made (κ := Int) (ν := Int × (Nat × Bool)) (.int .i64) (Value.int .i64) stV (w.alloc (.cells #[.int .i64 n, .slice A E.length c] 24))
  rw [show (w.alloc (.cells #[.int .i64 n, .slice A E.length c] 24)).heap.size = w.heap.size + 1 by simp] at hmade
  obtain ⟨o1, hu1, hm1⟩ := run_update_mapIs (P := Try.prog) (keyK_int .i64) Try.underlying86 Try.underlying3 hmade s (0, 0, false)
  have hu1' : (Instr.mapUpdate 86 (.map (some (w.heap.size + 1))) (.int .i64 s) (.agg #[.int .i64 0, .int .i64 0, .bool false])).run Try.prog ((w.alloc (.cells #[.int .i64 n, .slice A E.length c] 24)).alloc (.map #[] 0)) = .ok () (putM ((w.alloc (.cells #[.int .i64 n, .slice A E.length c] 24)).alloc (.map #[] 0)) (w.heap.size + 1) o1) := hu1
  have hm1' : MapIs (.int .i64) (Value.int .i64) stV (putM ((w.alloc (.cells #[.int .i64 n, .slice A E.length c] 24)).alloc (.map #[] 0)) (w.heap.size + 1) o1) (w.heap.size + 1) (bfs E fl s 0) := hm1
  have HM1 := Lib.hid hm1'
  have hop : ∀ W : World, Sem.run Try.prog (Instr.mapUpdate 86 (.map (some (w.heap.size + 1))) (.int .i64 s) (.agg #[.int .i64 0, .int .i64 0, .bool false])) W = Sem.run Try.prog (Instr.mapUpdate 86 (.map (some (w.heap.size + 1))) (.int .i64 s) (.agg #[.int .i64 0, .int .i64 0, .bool false])) W := fun _ => rfl
  clear hmade hu1 hm1 hm1' hop
  have hw1 : Kept (w.alloc (.cells #[.int .i64 n, .slice A E.length c] 24)) (putM ((w.alloc (.cells #[.int .i64 n, .slice A E.length c] 24)).alloc (.map #[] 0)) (w.heap.size + 1) o1) := ((Only.refl _ _).alloc _).putM (fun h => absurd h (by simp)) o1
  have HW1 := Lib.hid hw1
  clear hw1
  generalize hw2 : putM ((w.alloc (.cells #[.int .i64 n, .slice A E.length c] 24)).alloc (.map #[] 0)) (w.heap.size + 1) o1 = w2 at *
  have hs2 : w2.heap.size = w.heap.size + 2 := by rw [← hw2]; simp [size_putM]
  clear hw2
  have HS2 := Lib.hid hs2
  clear hs2
  go_enter Try.func62, Try.ntmps62
  go_wp2
  have hstart : SeekP w (w2.alloc (.cells #[.int .i64 s] 3)) (.cells #[.int .i64 n, .slice A E.length c] 24) (bfs E fl s 0) (((bfs E fl s 0).map (·.1)).drop 0) (.slice (some ⟨w2.heap.size, 0, none⟩) 1 1) :=
    ⟨HM1.out.alloc _, ⟨w2.heap.size, 0, 1, _, rfl, by rw [HS2.out]; exact Nat.le_refl _, (MapKept.heap_alloc w2 _).1, Nat.le_refl _, by decide, Nat.le_refl _, fun i hi => by simp [bfs] at hi; subst hi; rfl⟩, HW1.out.alloc _, by simp; have := HS2.out; omega⟩
  have HST := Lib.hid hstart
  clear hstart
  go_loopg [8] (n + 1) (fun gk todo wq => ∃ m : Nat, n - m < gk ∧ SeekP w wq (.cells #[.int .i64 n, .slice A E.length c] 24) (bfs E fl s m) (((bfs E fl s m).map (·.1)).drop m) todo)
  case atStart => exact ⟨0, by omega, HST.out⟩
  case round =>
    obtain ⟨m, hgk, hsk⟩ := hrel
    have hinv := bfs_inv E fl s m
    have hlen := hinv.len HEN.out HSV.out
    obtain ⟨n0, n1, nb⟩ := box_at hsk.kept
    have hsz := hsk.size
    obtain ⟨g, off, cap, hv2, hg1, hg2, hcap, hcap2, hqc⟩ := hsk.todo.parts
    have HI := Lib.hid hsk
    have HV := Lib.hid hinv
    have HQC := Lib.hid hqc
    subst hv2
    clear hsk hinv hqc HST
    by_cases hlt : m < (bfs E fl s m).length
    · have hkeys := HV.out.keys HEN.out HSV.out
      have hbm : (bfs E fl s m)[m]? = some (bfs E fl s m)[m] := List.getElem?_eq_getElem hlt
      obtain ⟨un, hun⟩ : ∃ un : Nat, ((bfs E fl s m)[m]).1 = un := ⟨((bfs E fl s m)[m]).1.toNat, by have := hkeys _ (List.mem_map.2 ⟨_, List.getElem_mem hlt, rfl⟩); omega⟩
      have hu := hkeys _ (List.mem_map.2 ⟨_, List.getElem_mem hlt, rfl⟩)
      have hnext := bfs_some hbm
      have hsi := fun j hj => bfs_scan hbm j hj
      have hdl : ((bfs E fl s m).map (·.1)).drop m = (un : Int) :: ((bfs E fl s m).map (·.1)).drop (m + 1) := by
        rw [List.drop_eq_getElem_cons (by simpa using hlt), List.getElem_map, hun]
      rw [hun] at hnext hsi hu
      have hq0 := HQC.out 0 (by rw [hdl]; simp)
      rw [hdl] at hq0 hcap
      have hpos : (0 : Int) < (((bfs E fl s m).map (·.1)).drop m).length := by rw [hdl]; simp
      have HNX := Lib.hid hnext
      have HSI := Lib.hid hsi
      have HU := Lib.hid hun
      have HUR := Lib.hid hu
      have HBM := Lib.hid hbm
      have HDL := Lib.hid hdl
      obtain ⟨hu1, hu2⟩ := hu
      have hql : (((bfs E fl s m).map (·.1)).drop m).length ≤ n := by simp; omega
      generalize hql2 : (((bfs E fl s m).map (·.1)).drop m).length = ql at *
      have HQL := Lib.hid hql2
      clear hkeys hnext hsi hun hbm hu1 hdl hql2
      simp only [List.getD_cons_zero, Nat.add_zero] at hq0
      go_wp2
      go_loopw [8, 33] (fun todo i wi => ∃ j : Nat, j ≤ E.length ∧ i = .int .i64 j ∧ SeekP w wi (.cells #[.int .i64 n, .slice A E.length c] 24) (scan E fl un (bfs E fl s m) j) (((scan E fl un (bfs E fl s m) j).map (·.1)).drop m) todo) (fun _ i _ => E.length - (intOf i).toNat)
      case atStart => exact ⟨0, Nat.zero_le _, rfl, HI.out⟩
      case round =>
        obtain ⟨j, hj, rfl, hsk2⟩ := hrel
        have HJ := Lib.hid hsk2
        obtain ⟨q0, q1, qb⟩ := box_at hsk2.kept
        obtain ⟨g3, off3, cap3, hv3, hg31, hg32, hcap3, hcap32, hqc3⟩ := hsk2.todo.parts
        subst hv3
        have hinv2 := HSI.out j hj
        have hlen2 := hinv2.len HEN.out HSV.out
        have hucov : (un : Int) ∈ (scan E fl un (bfs E fl s m) j).map (·.1) := by
          obtain ⟨r, hr⟩ := scan_prefix E fl un (bfs E fl s m) j
          rw [hr, List.map_append]
          exact List.mem_append_left _ (List.mem_map.2 ⟨_, List.mem_of_getElem? HBM.out, HU.out⟩)
        have hmlt : m ≤ ((scan E fl un (bfs E fl s m) j).map (·.1)).length := by
          obtain ⟨r, hr⟩ := scan_prefix E fl un (bfs E fl s m) j
          rw [hr]; simp; omega
        have hsc := scan_succ E fl un (bfs E fl s m) j
        have hkp : Kept w wr := ((Only.refl _ _).alloc _).trans hsk2.kept
        have HFIN0 := HJ
        clear HI HQC hqc3
        generalize hbs0 : scan E fl un (bfs E fl s m) j = bs at *
        have HB0 := Lib.hid hbs0
        clear hbs0
        generalize hbs1 : scan E fl un (bfs E fl s m) (j + 1) = bs1 at hsc
        have HB1 := Lib.hid hbs1
        have HINV := Lib.hid hinv2
        have HUC := Lib.hid hucov
        have HKP := Lib.hid hkp
        have HML := Lib.hid hmlt
        have hqlen : ((bs.map (·.1)).drop m).length ≤ n := by simp; omega
        generalize hqq : ((bs.map (·.1)).drop m).length = qq at *
        have HQQ := Lib.hid hqq
        clear hsk2 hinv2 hucov hkp hbs1 hmlt hqq
        by_cases hlt2 : j < E.length
        · obtain ⟨bk, off', rfl, lb, lb0, e0, e1, e2⟩ := edge_at2 HE.out hlt2 HKP.out
          obtain ⟨bk2, off2, rfl, lb2, lb20, e3⟩ := int_at2 HF.out (by rw [HL.out]; exact hlt2) HKP.out
          obtain ⟨⟨ef0, ef1⟩, ⟨et0, et1⟩, eft⟩ := HEN.out.at hlt2
          obtain ⟨f, hf⟩ : ∃ f : Nat, (E.getD j default).f = f := ⟨(E.getD j default).f.toNat, by omega⟩
          obtain ⟨t', ht'⟩ : ∃ t' : Nat, (E.getD j default).t = t' := ⟨(E.getD j default).t.toNat, by omega⟩
          have hdc := dir5 (fl := fl) (u := un) hf ht' eft
          rw [hf] at e0 ef0 ef1
          rw [ht'] at e1 et0 et1
          clear hf ht' eft ef0 et0
          generalize fl.getD j 0 = x at *
          generalize (E.getD j default).c = y at *
          rcases hdc with ⟨rfl, d1, d2, d3⟩ | ⟨d1, rfl, d2, d3⟩ | ⟨rfl, d1, d2, d3⟩ | ⟨d1, rfl, d2, d3⟩ | ⟨d1, d2, d3⟩
          · have hsee : see E fl un bs j = if ((t' : Nat) : Int) ∈ bs.map (·.1) then bs else bs ++ [(((t' : Nat) : Int), ((un : Int), j, false))] := by unfold see; rw [d3]
            by_cases hin : ((t' : Nat) : Int) ∈ bs.map (·.1)
            · obtain ⟨⟨qa, qb', qc⟩, hq⟩ := aget_in hin
              have hlk := fun nq => HJ.out.look_some hq (.cells #[.int .i64 un, .int .i64 t', .int .i64 y] 50) nq true
              simp only [if_true, stV] at hlk
              rw [if_pos hin] at hsee
              rw [hsee] at hsc
              have HSC := Lib.hid hsc
              clear hsc hsee d3 hin hq
              go_wp2
              try (go_quiet (fail); go_wp2)
              try (go_quiet (fail); go_wp2)
              go_roundw
              case rel => exact ⟨j + 1, by omega, by go_num, by rw [HB1.out, HSC.out]; exact HJ.out.fix ((((Only.refl _ _).alloc _).drewN _).alloc _)⟩
              case measure => simp [intOf]; omega
            · have hlk := fun nq => HJ.out.look_none (aget_out hin) (.cells #[.int .i64 un, .int .i64 t', .int .i64 y] 50) nq true
              simp only [if_true] at hlk
              rw [if_neg hin] at hsee
              rw [hsee] at hsc
              have HSC := Lib.hid hsc
              have HIN := Lib.hid hin
              clear hsc hsee d3 hin
              go_wp2
              try (go_quiet (fail); go_wp2)
              try (go_quiet (fail); go_wp2)
              obtain ⟨o9, hu9, hs9⟩ := (HJ.out.fix ((((Only.refl _ _).alloc (.cells #[.int .i64 un, .int .i64 t', .int .i64 y] 50)).drewN nq).alloc (.cells #[.int .i64 0, .int .i64 0, .bool false] 74))).update HIN.out ((un : Int), j, false)
              have hu9' : (Instr.mapUpdate 86 (.map (some (w.heap.size + 1))) (.int .i64 t') (.agg #[.int .i64 un, .int .i64 j, .bool false])).run Try.prog (((wr.alloc (.cells #[.int .i64 un, .int .i64 t', .int .i64 y] 50)).drewN nq).alloc (.cells #[.int .i64 0, .int .i64 0, .bool false] 74)) = .ok () (putM (((wr.alloc (.cells #[.int .i64 un, .int .i64 t', .int .i64 y] 50)).drewN nq).alloc (.cells #[.int .i64 0, .int .i64 0, .bool false] 74)) (w.heap.size + 1) o9) := hu9
              have HS9 := Lib.hid hs9
              clear hu9 hs9
              rw [hu9']
              go_wp2_with (at_builtin; go_loud (refine wpList_append_q rfl _ _ rfl (w.heap.size + 2) _ ((bs.map (·.1)).drop m) rfl (HS9.out.fix ((Only.refl _ _).alloc _)).todo ⟨_, 0, none⟩ 1 t' rfl (one_new_at _ _ _ (by simp [size_putM]) 0 _ rfl) (by rw [HQQ.out]; omega) (by simp [size_putM]; omega) ?_; intro v1 w1 hq1 hg1; have HQ1 := Lib.hid hq1; have HG1 := Lib.hid hg1; clear hq1 hg1))
              go_roundw
              case rel => exact ⟨j + 1, by omega, by go_num, by rw [HB1.out, HSC.out, List.map_append, List.drop_append_of_le_length HML.out]; exact (HS9.out.fix ((Only.refl _ _).alloc _)).grown HQ1.out HG1.out⟩
              case measure => simp [intOf]; omega
          · have hsee : see E fl un bs j = if ((f : Nat) : Int) ∈ bs.map (·.1) then bs else bs ++ [(((f : Nat) : Int), ((un : Int), j, true))] := by unfold see; rw [d3]
            by_cases hin : ((f : Nat) : Int) ∈ bs.map (·.1)
            · obtain ⟨⟨qa, qb', qc⟩, hq⟩ := aget_in hin
              have hlk := fun nq => HJ.out.look_some hq (.cells #[.int .i64 f, .int .i64 un, .int .i64 y] 50) nq true
              simp only [if_true, stV] at hlk
              rw [if_pos hin] at hsee
              rw [hsee] at hsc
              have HSC := Lib.hid hsc
              clear hsc hsee d3 hin hq
              go_wp2
              try (go_quiet (fail); go_wp2)
              try (go_quiet (fail); go_wp2)
              go_roundw
              case rel => exact ⟨j + 1, by omega, by go_num, by rw [HB1.out, HSC.out]; exact HJ.out.fix ((((Only.refl _ _).alloc _).drewN _).alloc _)⟩
              case measure => simp [intOf]; omega
            · have hlk := fun nq => HJ.out.look_none (aget_out hin) (.cells #[.int .i64 f, .int .i64 un, .int .i64 y] 50) nq true
              simp only [if_true] at hlk
              rw [if_neg hin] at hsee
              rw [hsee] at hsc
              have HSC := Lib.hid hsc
              have HIN := Lib.hid hin
              clear hsc hsee d3 hin
              go_wp2
              try (go_quiet (fail); go_wp2)
              try (go_quiet (fail); go_wp2)
              obtain ⟨o9, hu9, hs9⟩ := (HJ.out.fix ((((Only.refl _ _).alloc (.cells #[.int .i64 f, .int .i64 un, .int .i64 y] 50)).drewN nq).alloc (.cells #[.int .i64 0, .int .i64 0, .bool false] 74))).update HIN.out ((un : Int), j, true)
              have hu9' : (Instr.mapUpdate 86 (.map (some (w.heap.size + 1))) (.int .i64 f) (.agg #[.int .i64 un, .int .i64 j, .bool true])).run Try.prog (((wr.alloc (.cells #[.int .i64 f, .int .i64 un, .int .i64 y] 50)).drewN nq).alloc (.cells #[.int .i64 0, .int .i64 0, .bool false] 74)) = .ok () (putM (((wr.alloc (.cells #[.int .i64 f, .int .i64 un, .int .i64 y] 50)).drewN nq).alloc (.cells #[.int .i64 0, .int .i64 0, .bool false] 74)) (w.heap.size + 1) o9) := hu9
              have HS9 := Lib.hid hs9
              clear hu9 hs9
              rw [hu9']
              go_wp2_with (at_builtin; go_loud (refine wpList_append_q rfl _ _ rfl (w.heap.size + 2) _ ((bs.map (·.1)).drop m) rfl (HS9.out.fix ((Only.refl _ _).alloc _)).todo ⟨_, 0, none⟩ 1 f rfl (one_new_at _ _ _ (by simp [size_putM]) 0 _ rfl) (by rw [HQQ.out]; omega) (by simp [size_putM]; omega) ?_; intro v1 w1 hq1 hg1; have HQ1 := Lib.hid hq1; have HG1 := Lib.hid hg1; clear hq1 hg1))
              go_roundw
              case rel => exact ⟨j + 1, by omega, by go_num, by rw [HB1.out, HSC.out, List.map_append, List.drop_append_of_le_length HML.out]; exact (HS9.out.fix ((Only.refl _ _).alloc _)).grown HQ1.out HG1.out⟩
              case measure => simp [intOf]; omega
          · have hsee : see E fl un bs j = bs := by unfold see; rw [d3]
            rw [hsee] at hsc
            have HSC := Lib.hid hsc
            clear hsc hsee d3
            go_wp2
            try (go_quiet (fail); go_wp2)
            try (go_quiet (fail); go_wp2)
            go_roundw
            case rel => exact ⟨j + 1, by omega, by go_num, by rw [HB1.out, HSC.out]; exact HJ.out.fix (((Only.refl _ _).alloc _).drewN _)⟩
            case measure => simp [intOf]; omega
          · have hsee : see E fl un bs j = bs := by unfold see; rw [d3]
            rw [hsee] at hsc
            have HSC := Lib.hid hsc
            clear hsc hsee d3
            go_wp2
            try (go_quiet (fail); go_wp2)
            try (go_quiet (fail); go_wp2)
            go_roundw
            case rel => exact ⟨j + 1, by omega, by go_num, by rw [HB1.out, HSC.out]; exact HJ.out.fix (((Only.refl _ _).alloc _).drewN _)⟩
            case measure => simp [intOf]; omega
          · have hsee : see E fl un bs j = bs := by unfold see; rw [d3]
            rw [hsee] at hsc
            have HSC := Lib.hid hsc
            clear hsc hsee d3
            go_wp2
            try (go_quiet (fail); go_wp2)
            try (go_quiet (fail); go_wp2)
            go_roundw
            case rel => exact ⟨j + 1, by omega, by go_num, by rw [HB1.out, HSC.out]; exact HJ.out.fix (((Only.refl _ _).alloc _).drewN _)⟩
            case measure => simp [intOf]; omega
        · obtain rfl : j = E.length := by omega
          clear hlt2
          have hfin : SeekP w wr (.cells #[.int .i64 n, .slice A E.length c] 24) (bfs E fl s (m + 1)) (((bfs E fl s (m + 1)).map (·.1)).drop m) (.slice (some ⟨g3, off3, none⟩) qq cap3) := by
            rw [HNX.out, HB0.out]; exact HFIN0.out
          have hdl2 : ((bfs E fl s (m + 1)).map (·.1)).drop m = (un : Int) :: ((bfs E fl s (m + 1)).map (·.1)).drop (m + 1) := by
            obtain ⟨r, hr⟩ := bfs_prefix E fl s m
            rw [List.drop_eq_getElem_cons (by rw [hr]; simp; omega), List.getElem_map]
            congr 1
            have : (bfs E fl s (m + 1))[m]? = some (bfs E fl s m)[m] := by rw [hr, List.getElem?_append_left hlt]; exact HBM.out
            rw [List.getElem?_eq_getElem (by rw [hr]; simp; omega)] at this
            rw [Option.some.inj this, HU.out]
          have hqq2 : qq = (((bfs E fl s (m + 1)).map (·.1)).drop m).length := by rw [HNX.out, HB0.out, HQQ.out]
          rw [hqq2, hdl2] at hfin
          have hfin2 := hfin.head
          have hqq3 : qq = (((bfs E fl s (m + 1)).map (·.1)).drop (m + 1)).length + 1 := by rw [hqq2, hdl2]; rfl
          have HFIN2 := Lib.hid hfin2
          clear hfin hfin2 hdl2 hqq2 HFIN0
          generalize hq4 : (((bfs E fl s (m + 1)).map (·.1)).drop (m + 1)).length = q4 at *
          have HQ4 := Lib.hid hq4
          clear hq4
          subst hqq3
          go_wp2
          · go_roundg (gk - 1)
            case measure => omega
            case rel => exact ⟨m + 1, by omega, HFIN2.out.dry (by omega)⟩
          · go_roundg (gk - 1)
            case measure => omega
            case rel => exact ⟨m + 1, by omega, HFIN2.out⟩
    · have hend := bfs_end (k := m) HEN.out HSV.out (.inl (Nat.le_of_not_lt hlt))
      have hd0 : (((bfs E fl s m).map (·.1)).drop m).length = 0 := by simp; omega
      have HM := Lib.hid HI.out.map
      rw [hend] at HM
      have HKE := Lib.hid (((Only.refl _ w).alloc _).trans HI.out.kept)
      rw [hd0] at *
      clear hend hd0 hlt
      go_wp2
      go_ret
      exact ⟨_, rfl, by omega, HM.out, HKE.out⟩
end Go.Proofs.Ytlpccebackmahaa

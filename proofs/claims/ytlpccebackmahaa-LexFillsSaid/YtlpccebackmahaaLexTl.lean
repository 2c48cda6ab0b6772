/- Layer 7: LexTells. -/
import Derived.Test.YtlpccebackmahaaLexAw
import Derived.Test.YtlpccebackmahaaLexV
import Derived.Test.YtlpccebackmahaaOpenL
import Derived.Test.YtlpccebackmahaaLexP
set_option linter.unusedVariables false
set_option linter.unusedSimpArgs false
namespace Go.Proofs.Ytlpccebackmahaa
open Go.RowKit

/-- 'append(nil, xs...)': a copy in a row of the call's own. -/
theorem wpList_copy_ints {w : World} {ops : Array Oper} {rest : List Oper} {o : Oper} {a : Act} {Q : Exit → Act → World → Prop} (hgd : o.guard = none) (s x : Operand)
    (ho : o.op = .call { callee := .builtin .append, args := #[s, x], argTypes := #[25, 25] }) (hs : a.eval s = .slice none 0 0) (B : Option Addr) (d : Nat) (xs : List Int) (hx : a.eval x = .slice B xs.length d) (hR : ReadsI w B xs) (hm : xs.length ≤ 1000)
    (h : ∀ v' w', FlowV w' w.heap.size v' xs → Kept w w' → wpList Try.prog ops Q rest (a.put o.dst v') w') : wpList Try.prog ops Q (o :: rest) a w := by
  obtain ⟨i0, hi, hz0, hz1, hz2⟩ := info_parts infoInt
  by_cases h0 : xs = []
  · subst h0
    refine wpList_plain hgd fun K hK => ?_
    unfold Oper.wp execOp
    have hr : (Builtin.append_ #[25, 25] o.type #[.slice none 0 0, .slice B 0 d]).run Try.prog w = .ok (.slice none 0 0) w := by
      cases B with
      | none => simp [Builtin.append_, run_underlying Try.underlying25, sizeOf, typeInfo, hi, Builtin.lenOf, Builtin.firstCells, loadCells, loadCellsFrom]
      | some ad => simp [Builtin.append_, run_underlying Try.underlying25, sizeOf, typeInfo, hi, Builtin.lenOf, Builtin.firstCells, loadCells, loadCellsFrom]
    simp only [List.length_nil] at hx
    simp only [ho, resolve, invoke, builtin, Sem.run_bind, Sem.run_pure, Result.andThen_ok, List.map_toArray, List.map_cons, List.map_nil, hs, hx, hr]
    exact hK _ _ (h _ _ (World.ownsRow_nil w _ _ _) (Only.refl _ _))
  · have hp : 0 < xs.length := by rcases xs with _ | ⟨a, l⟩; exact absurd rfl h0; simp
    obtain ⟨bk, off, rfl, _⟩ := hR.cell 0 hp
    refine wpList_append_own _ hgd s x 25 ho w.heap.size 3 i0 _ 1 8 Try.underlying25 hi hz0 hz1 hz2 rfl (by decide) _ 0 [] hs (World.ownsRow_nil w _ _ _) ⟨bk, off, none⟩ xs.length d (xs.map (Value.int .i64)) hx (by simp) (reads_news hR) (ints_one xs) (by unfold maxLen; omega) (by omega) (Nat.le_refl _) ?_
    intro v1 w1 hown hgrow _
    refine h v1 w1 ?_ (Only.of_grown hgrow (fun k hk => by cases hk))
    unfold FlowV
    simpa using hown
theorem nbox {w wr : World} {a b : Value} {t : TypeId} (h : Kept (w.alloc (.cells #[a, b] t)) wr) :
    wr.cell? ⟨w.heap.size, 0, none⟩ = some a ∧ wr.cell? ⟨w.heap.size, 1, none⟩ = some b ∧ w.heap.size < wr.heap.size ∧ Kept w wr := by
  have h0 : w.heap.size < (w.alloc (.cells #[a, b] t)).heap.size := by simp
  have hb := (h.block w.heap.size h0 (fun x => x)).trans (World.alloc_heap_new w _)
  exact ⟨obj_cell hb 0, obj_cell hb 1, Nat.lt_of_lt_of_le h0 h.size, ((Only.refl _ _).alloc _).trans h⟩
/-- Fill's answers, as values of one form. -/
def ansF (N : Int) (E : List Ed) (s t : Int) (order : List Int) (ws : List (List (List Int × Int))) : List Int := if FormOk N E s t order ws then flowR N E s t order ws else []
def ansG (N : Int) (E : List Ed) (s t : Int) (order : List Int) (ws : List (List (List Int × Int))) : List Int := if FormOk N E s t order ws then gotR order (flowR N E s t order ws) else []
def ansE (N : Int) (E : List Ed) (s t : Int) (order : List Int) (ws : List (List (List Int × Int))) : Int := if FormOk N E s t order ws then 0 else 50
theorem fillAns_val {N : Int} {E : List Ed} {s t : Int} {order : List Int} {ls : List WayL} {w : World} {e : Ending} {w' : World} (h : FillAns N E s t order ls w e w') :
    Kept w w' ∧ ∃ A1 c1 A2 c2, e = .returned (.tuple #[.slice A1 (ansF N E s t order (plainWays ls)).length c1, .slice A2 (ansG N E s t order (plainWays ls)).length c2, .int .i64 (ansE N E s t order (plainWays ls))]) ∧
      ReadsI w' A1 (ansF N E s t order (plainWays ls)) ∧ ReadsI w' A2 (ansG N E s t order (plainWays ls)) := by
  obtain ⟨hk, h⟩ := h
  refine ⟨hk, ?_⟩
  unfold ansF ansG ansE
  by_cases hF : FormOk N E s t order (plainWays ls)
  · rw [if_pos hF] at h
    obtain ⟨v1, v2, rfl, ⟨A1, c1, rfl, h1, _⟩, ⟨A2, c2, rfl, h2, _⟩⟩ := h
    rw [if_pos hF, if_pos hF, if_pos hF]
    exact ⟨A1, c1, A2, c2, rfl, h1, h2⟩
  · rw [if_neg hF] at h
    rw [if_neg hF, if_neg hF, if_neg hF]
    refine ⟨none, 0, none, 0, h, ⟨fun i hi => absurd hi (Nat.not_lt_zero i), Nat.zero_le _⟩, ⟨fun i hi => absurd hi (Nat.not_lt_zero i), Nat.zero_le _⟩⟩
theorem ints_eq (A B : Option Addr) (c d : Nat) (xs : List Int) (w : World) (hx : ReadsI w A xs) (hy : ReadsI w B xs) :
    Calls Try.prog 13 #[.slice A xs.length c, .slice B xs.length d] w fun e w' => e = .returned (.bool true) ∧ Kept w w' := by
  refine (ints_any A B c d xs xs w hx hy).mono ?_
  rintro e w' ⟨h1, h2⟩
  rw [decide_eq_true rfl] at h1
  exact ⟨h1, h2⟩
set_option maxHeartbeats 4000000 in
theorem lexTells_any (N s t : Int) (A B C : Option Addr) (c d cw : Nat) (E : List Ed) (order : List Int) (ls : List WayL) (w : World) (hE : ReadsE w A E) (hO : ReadsI w B order) (hW : ReadsWW w C ls) (hA0 : A = none → c = 0) (hd : order.length ≤ d) :
    Calls Try.prog 3 #[.agg #[.int .i64 N, .slice A E.length c], .int .i64 s, .int .i64 t, .slice B order.length d, .slice C ls.length cw] w fun e w' => e = .returned (.bool true) ∧ Kept w w' := by
  have lE := hE.len
  have lO := hO.len
  have lW := hW.len
  unfold maxLen at lE lO lW
  have HE := Lib.hid hE
  have HO := Lib.hid hO
  have HW := Lib.hid hW
  clear hE hO hW
  go_enter Try.func3, Try.ntmps3
  go_wp2_with (first
    | (at_builtin; go_loud (refine wpList_copy_ints rfl _ _ rfl rfl B d order rfl (HO.out.fix HK.out) (by omega) ?_; intro v2 w2 hv2 hk2; obtain ⟨A2, d2, rfl⟩ := row_slice hv2; obtain ⟨n0, n1, nlt, nk⟩ := nbox (HB.out.trans hk2); have HV2 := Lib.hid (hv2.reads (by omega)); have HK2 := Lib.hid hk2; have HNK := Lib.hid nk; clear hv2 hk2 nk))
    | (go_at_call 10; refine (awake_any _).mono ?_; rintro e w1 ⟨rfl, hb⟩; obtain ⟨c0, c1, clt, hk⟩ := nbox hb; have HB := Lib.hid hb; have HK := Lib.hid hk; clear hb hk))
  all_goals try (go_ret; exact ⟨rfl, HK.out⟩)
  refine (lfill_any N s t A A2 C c d2 cw E order ls w2 (HE.out.fix HNK.out) HV2.out (HW.out.fix HNK.out) hA0).mono ?_
  intro e w3 hans
  obtain ⟨hk3, A3, c3, A4, c4, rfl, hr3, hr4⟩ := fillAns_val hans
  obtain ⟨n0, n1, nlt, nk⟩ := nbox ((HB.out.trans HK2.out).trans hk3)
  have HN3 := Lib.hid nk
  have HV3 := Lib.hid (HV2.out.fix hk3)
  have HB3 := Lib.hid ((HB.out.trans HK2.out).trans hk3)
  have HR3 := Lib.hid hr3
  have HR4 := Lib.hid hr4
  clear hk3 hr3 hr4 nk hans
  go_wp2_with (fail)
  refine (r7fill_any N s t A B C c d cw E order ls w3 (HE.out.fix HN3.out) (HO.out.fix HN3.out) (HW.out.fix HN3.out) hd).mono ?_
  intro e w4 hans
  obtain ⟨hk4, A5, c5, A6, c6, rfl, hr5, hr6⟩ := fillAns_val hans
  have HN4 := Lib.hid (HN3.out.trans hk4)
  have HV4 := Lib.hid (HV3.out.fix hk4)
  have HR34 := Lib.hid (HR3.out.fix hk4)
  have HR44 := Lib.hid (HR4.out.fix hk4)
  have HR5 := Lib.hid hr5
  have HR6 := Lib.hid hr6
  clear hk4 hr5 hr6 hans
  generalize ansF N E s t order (plainWays ls) = F at *
  generalize ansG N E s t order (plainWays ls) = G at *
  generalize ansE N E s t order (plainWays ls) = R at *
  go_wp2_with (fail)
  refine (ints_eq _ _ _ _ F w4 HR34.out HR5.out).mono ?_
  rintro e w5 ⟨rfl, hk5⟩
  have HK5 := Lib.hid hk5
  clear hk5
  go_wp2_with (fail)
  refine (ints_eq _ _ _ _ G w5 (HR44.out.fix HK5.out) (HR6.out.fix HK5.out)).mono ?_
  rintro e w6 ⟨rfl, hk6⟩
  have HK6 := Lib.hid (HK5.out.trans hk6)
  clear hk6
  go_wp2_with (fail)
  refine (ints_eq _ _ _ _ order w6 (HV4.out.fix HK6.out) (HO.out.fix (HN4.out.trans HK6.out))).mono ?_
  rintro e w7 ⟨rfl, hk7⟩
  have HK7 := Lib.hid ((HN4.out.trans HK6.out).trans hk7)
  clear hk7
  go_wp2_with (fail)
  go_ret
  exact ⟨rfl, HK7.out⟩
end Go.Proofs.Ytlpccebackmahaa

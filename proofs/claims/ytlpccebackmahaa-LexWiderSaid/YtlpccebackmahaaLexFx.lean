/- Layer 7: LexTells. -/
import Derived.Test.YtlpccebackmahaaLexAw
import Derived.Test.YtlpccebackmahaaLexV
import Derived.Test.YtlpccebackmahaaOpenL
import Derived.Test.YtlpccebackmahaaLexP
import Derived.Test.YtlpccebackmahaaLexC
import Derived.Test.YtlpccebackmahaaLexA
import Derived.Test.YtlpccebackmahaaLexFa
import Derived.Test.YtlpccebackmahaaLexT
import Derived.Deep.RegionHeld3
import Derived.Deep.CutRange
import Derived.IntWalk
import Derived.Deep.RegionWith
import Derived.Deep.RegionLaw
import Derived.Deep.AppendLies
import Derived.Deep.Draws
set_option linter.unusedVariables false
set_option linter.unusedSimpArgs false
namespace Go.Proofs.Ytlpccebackmahaa
open Go.RowKit

/-- 'append(nil, xs...)': a copy in a row of the call's own. -/
theorem wpList_copy_ints {w : World} {ops : Array Oper} {rest : List Oper} {o : Oper} {a : Act} {Q : Exit → Act → World → Prop} (hgd : o.guard = none) (s x : Operand)
    (ho : o.op = .call { callee := .builtin .append, args := #[s, x], argTypes := #[25, 25] }) (hs : a.eval s = .slice none 0 0) (B : Option Addr) (d : Nat) (xs : List Int) (hx : a.eval x = .slice B xs.length d) (hR : ReadsI w B xs) (hm : xs.length ≤ 1000)
    (h : ∀ v' w', FlowV w' w.heap.size v' xs → Kept w w' → wpList Try.prog ops Q rest (a.put o.dst v') w') : wpList Try.prog ops Q (o :: rest) a w := by
  obtain ⟨i0, hi, hz0, hz1, hz2⟩ := info_parts infoInt
  by_cases h0 : xs = []
  · subst h0
    refine wpList_plain hgd fun K hK => ?_
    unfold Oper.wp execOp
    have hr : (Builtin.append_ #[25, 25] o.type #[.slice none 0 0, .slice B 0 d]).run Try.prog w = .ok (.slice none 0 0) w := by
      cases B with
      | none => simp [Builtin.append_, run_underlying Try.underlying25, sizeOf, typeInfo, hi, Builtin.lenOf, Builtin.firstCells, loadCells, loadCellsFrom]
      | some ad => simp [Builtin.append_, run_underlying Try.underlying25, sizeOf, typeInfo, hi, Builtin.lenOf, Builtin.firstCells, loadCells, loadCellsFrom]
    simp only [List.length_nil] at hx
    simp only [ho, resolve, invoke, builtin, Sem.run_bind, Sem.run_pure, Result.andThen_ok, List.map_toArray, List.map_cons, List.map_nil, hs, hx, hr]
    exact hK _ _ (h _ _ (World.ownsRow_nil w _ _ _) (Only.refl _ _))
  · have hp : 0 < xs.length := by rcases xs with _ | ⟨a, l⟩; exact absurd rfl h0; simp
    obtain ⟨bk, off, rfl, _⟩ := hR.cell 0 hp
    refine wpList_append_own _ hgd s x 25 ho w.heap.size 3 i0 _ 1 8 Try.underlying25 hi hz0 hz1 hz2 rfl (by decide) _ 0 [] hs (World.ownsRow_nil w _ _ _) ⟨bk, off, none⟩ xs.length d (xs.map (Value.int .i64)) hx (by simp) (reads_news hR) (ints_one xs) (by unfold maxLen; omega) (by omega) (Nat.le_refl _) ?_
    intro v1 w1 hown hgrow _
    refine h v1 w1 ?_ (Only.of_grown hgrow (fun k hk => by cases hk))
    unfold FlowV
    simpa using hown
theorem nbox {w wr : World} {a b : Value} {t : TypeId} (h : Kept (w.alloc (.cells #[a, b] t)) wr) :
    wr.cell? ⟨w.heap.size, 0, none⟩ = some a ∧ wr.cell? ⟨w.heap.size, 1, none⟩ = some b ∧ w.heap.size < wr.heap.size ∧ Kept w wr := by
  have h0 : w.heap.size < (w.alloc (.cells #[a, b] t)).heap.size := by simp
  have hb := (h.block w.heap.size h0 (fun x => x)).trans (World.alloc_heap_new w _)
  exact ⟨obj_cell hb 0, obj_cell hb 1, Nat.lt_of_lt_of_le h0 h.size, ((Only.refl _ _).alloc _).trans h⟩
/-- Fill's answers, as values of one form. -/
def ansF (N : Int) (E : List Ed) (s t : Int) (order : List Int) (ws : List (List (List Int × Int))) : List Int := if FormOk N E s t order ws then flowR N E s t order ws else []
def ansG (N : Int) (E : List Ed) (s t : Int) (order : List Int) (ws : List (List (List Int × Int))) : List Int := if FormOk N E s t order ws then gotR order (flowR N E s t order ws) else []
def ansE (N : Int) (E : List Ed) (s t : Int) (order : List Int) (ws : List (List (List Int × Int))) : Int := if FormOk N E s t order ws then 0 else 50
theorem fillAns_val {N : Int} {E : List Ed} {s t : Int} {order : List Int} {ls : List WayL} {w : World} {e : Ending} {w' : World} (h : FillAns N E s t order ls w e w') :
    Kept w w' ∧ ∃ A1 c1 A2 c2, e = .returned (.tuple #[.slice A1 (ansF N E s t order (plainWays ls)).length c1, .slice A2 (ansG N E s t order (plainWays ls)).length c2, .int .i64 (ansE N E s t order (plainWays ls))]) ∧
      ReadsI w' A1 (ansF N E s t order (plainWays ls)) ∧ ReadsI w' A2 (ansG N E s t order (plainWays ls)) := by
  obtain ⟨hk, h⟩ := h
  refine ⟨hk, ?_⟩
  unfold ansF ansG ansE
  by_cases hF : FormOk N E s t order (plainWays ls)
  · rw [if_pos hF] at h
    obtain ⟨v1, v2, rfl, ⟨A1, c1, rfl, h1, _⟩, ⟨A2, c2, rfl, h2, _⟩⟩ := h
    rw [if_pos hF, if_pos hF, if_pos hF]
    exact ⟨A1, c1, A2, c2, rfl, h1, h2⟩
  · rw [if_neg hF] at h
    rw [if_neg hF, if_neg hF, if_neg hF]
    refine ⟨none, 0, none, 0, h, ⟨fun i hi => absurd hi (Nat.not_lt_zero i), Nat.zero_le _⟩, ⟨fun i hi => absurd hi (Nat.not_lt_zero i), Nat.zero_le _⟩⟩
theorem ints_eq (A B : Option Addr) (c d : Nat) (xs : List Int) (w : World) (hx : ReadsI w A xs) (hy : ReadsI w B xs) :
    Calls Try.prog 13 #[.slice A xs.length c, .slice B xs.length d] w fun e w' => e = .returned (.bool true) ∧ Kept w w' := by
  refine (ints_any A B c d xs xs w hx hy).mono ?_
  rintro e w' ⟨h1, h2⟩
  rw [decide_eq_true rfl] at h1
  exact ⟨h1, h2⟩
set_option maxHeartbeats 4000000 in
theorem lexTells_any (N s t : Int) (A B C : Option Addr) (c d cw : Nat) (E : List Ed) (order : List Int) (ls : List WayL) (w : World) (hE : ReadsE w A E) (hO : ReadsI w B order) (hW : ReadsWW w C ls) (hA0 : A = none → c = 0) (hd : order.length ≤ d) :
    Calls Try.prog 3 #[.agg #[.int .i64 N, .slice A E.length c], .int .i64 s, .int .i64 t, .slice B order.length d, .slice C ls.length cw] w fun e w' => e = .returned (.bool true) ∧ Kept w w' := by
  have lE := hE.len
  have lO := hO.len
  have lW := hW.len
  unfold maxLen at lE lO lW
  have HE := Lib.hid hE
  have HO := Lib.hid hO
  have HW := Lib.hid hW
  clear hE hO hW
  go_enter Try.func3, Try.ntmps3
  go_wp2_with (first
    | (at_builtin; go_loud (refine wpList_copy_ints rfl _ _ rfl rfl B d order rfl (HO.out.fix HK.out) (by omega) ?_; intro v2 w2 hv2 hk2; obtain ⟨A2, d2, rfl⟩ := row_slice hv2; obtain ⟨n0, n1, nlt, nk⟩ := nbox (HB.out.trans hk2); have HV2 := Lib.hid (hv2.reads (by omega)); have HK2 := Lib.hid hk2; have HNK := Lib.hid nk; clear hv2 hk2 nk))
    | (go_at_call 10; refine (awake_any _).mono ?_; rintro e w1 ⟨rfl, hb⟩; obtain ⟨c0, c1, clt, hk⟩ := nbox hb; have HB := Lib.hid hb; have HK := Lib.hid hk; clear hb hk))
  all_goals try (go_ret; exact ⟨rfl, HK.out⟩)
  refine (lfill_any N s t A A2 C c d2 cw E order ls w2 (HE.out.fix HNK.out) HV2.out (HW.out.fix HNK.out) hA0).mono ?_
  intro e w3 hans
  obtain ⟨hk3, A3, c3, A4, c4, rfl, hr3, hr4⟩ := fillAns_val hans
  obtain ⟨n0, n1, nlt, nk⟩ := nbox ((HB.out.trans HK2.out).trans hk3)
  have HN3 := Lib.hid nk
  have HV3 := Lib.hid (HV2.out.fix hk3)
  have HB3 := Lib.hid ((HB.out.trans HK2.out).trans hk3)
  have HR3 := Lib.hid hr3
  have HR4 := Lib.hid hr4
  clear hk3 hr3 hr4 nk hans
  go_wp2_with (fail)
  refine (r7fill_any N s t A B C c d cw E order ls w3 (HE.out.fix HN3.out) (HO.out.fix HN3.out) (HW.out.fix HN3.out) hd).mono ?_
  intro e w4 hans
  obtain ⟨hk4, A5, c5, A6, c6, rfl, hr5, hr6⟩ := fillAns_val hans
  have HN4 := Lib.hid (HN3.out.trans hk4)
  have HV4 := Lib.hid (HV3.out.fix hk4)
  have HR34 := Lib.hid (HR3.out.fix hk4)
  have HR44 := Lib.hid (HR4.out.fix hk4)
  have HR5 := Lib.hid hr5
  have HR6 := Lib.hid hr6
  clear hk4 hr5 hr6 hans
  generalize ansF N E s t order (plainWays ls) = F at *
  generalize ansG N E s t order (plainWays ls) = G at *
  generalize ansE N E s t order (plainWays ls) = R at *
  go_wp2_with (fail)
  refine (ints_eq _ _ _ _ F w4 HR34.out HR5.out).mono ?_
  rintro e w5 ⟨rfl, hk5⟩
  have HK5 := Lib.hid hk5
  clear hk5
  go_wp2_with (fail)
  refine (ints_eq _ _ _ _ G w5 (HR44.out.fix HK5.out) (HR6.out.fix HK5.out)).mono ?_
  rintro e w6 ⟨rfl, hk6⟩
  have HK6 := Lib.hid (HK5.out.trans hk6)
  clear hk6
  go_wp2_with (fail)
  refine (ints_eq _ _ _ _ order w6 (HV4.out.fix HK6.out) (HO.out.fix (HN4.out.trans HK6.out))).mono ?_
  rintro e w7 ⟨rfl, hk7⟩
  have HK7 := Lib.hid ((HN4.out.trans HK6.out).trans hk7)
  clear hk7
  go_wp2_with (fail)
  go_ret
  exact ⟨rfl, HK7.out⟩
end Go.Proofs.Ytlpccebackmahaa
/- Layer 7, plainly: a raw network made right, sources in the order that raw numbers say. -/
set_option linter.unusedVariables false
set_option linter.unusedSimpArgs false
namespace Go.Proofs.Ytlpccebackmahaa

def fitN (N : Int) : Int := 2 + pickOf N 8
def fitEd (M : Int) (e : Ed) : Ed := ⟨pickOf e.f M, if pickOf e.f M = pickOf e.t M then (pickOf e.t M + 1) % M else pickOf e.t M, pickOf e.c 10⟩
def fitE (N : Int) (E : List Ed) : List Ed := (E.take 40).map (fitEd (fitN N))
theorem fitN_range (N : Int) : 2 ≤ fitN N ∧ fitN N ≤ 9 := by
  have := pick_range N 8 (by decide)
  unfold fitN; omega
theorem fitEd_ok {M : Int} (h : 2 ≤ M) (e : Ed) : EdOk M (fitEd M e) := by
  have h1 := pick_range e.f M (by omega)
  have h2 := pick_range e.t M (by omega)
  have h3 := pick_range e.c 10 (by decide)
  unfold fitEd
  refine ⟨h1, ?_, ?_, h3.1, by show pickOf e.c 10 ≤ 1000; omega⟩
  · show 0 ≤ (if pickOf e.f M = pickOf e.t M then (pickOf e.t M + 1) % M else pickOf e.t M) ∧ (if pickOf e.f M = pickOf e.t M then (pickOf e.t M + 1) % M else pickOf e.t M) < M
    split
    · exact ⟨Int.emod_nonneg _ (by omega), Int.emod_lt_of_pos _ (by omega)⟩
    · exact h2
  · show pickOf e.f M ≠ (if pickOf e.f M = pickOf e.t M then (pickOf e.t M + 1) % M else pickOf e.t M)
    split
    · rename_i h4
      rw [h4]
      intro h5
      rcases Int.lt_or_le (pickOf e.t M + 1) M with h6 | h6
      · rw [Int.emod_eq_of_lt (by omega) h6] at h5; omega
      · have : pickOf e.t M + 1 = M := by omega
        rw [this, Int.emod_self] at h5
        omega
    · rename_i h4; exact h4
theorem fitE_len (N : Int) (E : List Ed) : (fitE N E).length ≤ 40 := by unfold fitE; rw [List.length_map, List.length_take]; omega
theorem fit_ok (N : Int) (E : List Ed) : NetOk (fitN N) (fitE N E) := by
  have h := fitN_range N
  have hl := fitE_len N E
  refine ⟨h.1, by omega, by omega, fun e he => ?_⟩
  unfold fitE at he
  obtain ⟨x, _, rfl⟩ := List.mem_map.1 he
  exact fitEd_ok h.1 x
theorem fit_small (N : Int) (E : List Ed) : ∀ e ∈ fitE N E, e.c ≤ 9 := fun e he => by
  unfold fitE at he
  obtain ⟨x, _, rfl⟩ := List.mem_map.1 he
  have := pick_range x.c 10 (by decide)
  show pickOf x.c 10 ≤ 9
  omega

/-- The edges that leave 0. -/
def srcsK (E : List Ed) (k : Nat) : List Int := ((List.range k).filter fun i => (E.getD i default).f == 0).map fun i : Nat => (i : Int)
def srcs (E : List Ed) : List Int := srcsK E E.length
theorem srcsK_succ (E : List Ed) (k : Nat) : srcsK E (k + 1) = srcsK E k ++ (if (E.getD k default).f = 0 then [(k : Int)] else []) := by
  unfold srcsK
  rw [List.range_succ, List.filter_append, List.map_append]
  congr 1
  by_cases h : (E.getD k default).f = 0
  · rw [if_pos h, List.filter_cons_of_pos (by simpa using h)]; rfl
  · rw [if_neg h, List.filter_cons_of_neg (by simpa using h)]; rfl
theorem srcsK_len (E : List Ed) (k : Nat) : (srcsK E k).length ≤ k := by
  unfold srcsK
  rw [List.length_map]
  exact Nat.le_trans (List.length_filter_le _ _) (by simp)
theorem srcs_ok (E : List Ed) : (srcs E).Nodup ∧ ∀ i ∈ srcs E, SrcOk E 0 i := by
  constructor
  · unfold srcs srcsK
    rw [List.nodup_iff_pairwise_ne, List.pairwise_map]
    have h := (List.nodup_range (n := E.length)).sublist (List.filter_sublist (p := fun i => (E.getD i default).f == 0))
    rw [List.nodup_iff_pairwise_ne] at h
    exact h.imp fun {a b} h e => h (by omega)
  · intro i hi
    unfold srcs srcsK at hi
    obtain ⟨j, hj, rfl⟩ := List.mem_map.1 hi
    obtain ⟨h1, h2⟩ := List.mem_filter.1 hj
    exact ⟨by omega, by have := List.mem_range.1 h1; omega, by simpa using h2⟩
/-- Which comes next. -/
def nextK (rest raw : List Int) : Nat := match raw with
  | [] => 0
  | r :: _ => (pickOf r rest.length).toNat
def orderN : Nat → List Int → List Int → List Int
  | 0, _, _ => []
  | n + 1, rest, raw => rest.getD (nextK rest raw) 0 :: orderN n (rest.eraseIdx (nextK rest raw)) raw.tail
def orderL (rest raw : List Int) : List Int := orderN rest.length rest raw
def orderR (E : List Ed) (raw : List Int) : List Int := orderL (srcs E) raw
theorem nextK_lt (rest raw : List Int) (h : 0 < rest.length) : nextK rest raw < rest.length := by
  unfold nextK
  split
  · exact h
  · have := pick_range (by assumption) (rest.length : Int) (by omega)
    omega
theorem orderL_step (rest raw : List Int) (h : 0 < rest.length) : orderL rest raw = rest.getD (nextK rest raw) 0 :: orderL (rest.eraseIdx (nextK rest raw)) raw.tail := by
  have hk := nextK_lt rest raw h
  obtain ⟨n, hn⟩ : ∃ n, rest.length = n + 1 := ⟨rest.length - 1, by omega⟩
  unfold orderL
  rw [List.length_eraseIdx_of_lt hk, hn]
  rfl
theorem orderL_nil (raw : List Int) : orderL [] raw = [] := rfl
theorem orderL_perm : ∀ (n : Nat) (rest raw : List Int), rest.length = n → (orderL rest raw).Perm rest := by
  intro n
  induction n with
  | zero =>
    intro rest raw h
    obtain rfl := List.eq_nil_of_length_eq_zero h
    exact List.Perm.refl _
  | succ n ih =>
    intro rest raw h
    have hk := nextK_lt rest raw (by omega)
    rw [orderL_step rest raw (by omega)]
    have h2 := ih (rest.eraseIdx (nextK rest raw)) raw.tail (by rw [List.length_eraseIdx_of_lt hk]; omega)
    refine (h2.cons _).trans ?_
    rw [List.getD_eq_getElem?_getD, List.getElem?_eq_getElem hk]
    rw [List.eraseIdx_eq_take_drop_succ]
    show (rest[nextK rest raw] :: (rest.take (nextK rest raw) ++ rest.drop (nextK rest raw + 1))).Perm rest
    refine List.perm_middle.symm.trans ?_
    rw [List.getElem_cons_drop hk, List.take_append_drop]
theorem orderR_perm (E : List Ed) (raw : List Int) : (orderR E raw).Perm (srcs E) := orderL_perm _ _ _ rfl
theorem orderR_ok (E : List Ed) (raw : List Int) : (orderR E raw).Nodup ∧ (∀ i ∈ orderR E raw, SrcOk E 0 i) ∧ (orderR E raw).length ≤ E.length := by
  have hp := orderR_perm E raw
  obtain ⟨h1, h2⟩ := srcs_ok E
  exact ⟨hp.nodup_iff.2 h1, fun i hi => h2 i (hp.mem_iff.1 hi), by rw [hp.length_eq]; exact srcsK_len E E.length⟩
/-- Any part of them makes a task that may be. -/
theorem task_of_sub {N : Int} {E : List Ed} (hN : NetOk N E) {o o' : List Int} (h : o'.Sublist o) (ho : o.Nodup ∧ (∀ i ∈ o, SrcOk E 0 i) ∧ o.length ≤ E.length) : TaskOk N E 0 1 o' := by
  have h2 := hN.1
  exact ⟨hN, by omega, by omega, by decide, Nat.le_trans h.length_le ho.2.2, ho.1.sublist h, fun i hi => ho.2.1 i (h.subset hi)⟩
theorem form_of_sub {N : Int} {E : List Ed} (hN : NetOk N E) {o o' : List Int} (h : o'.Sublist o) (ho : o.Nodup ∧ (∀ i ∈ o, SrcOk E 0 i) ∧ o.length ≤ E.length) : FormOk N E 0 1 o' [] :=
  ⟨task_of_sub hN h ho, Nat.zero_le _, fun i hi => absurd hi (Nat.not_lt_zero i)⟩
end Go.Proofs.Ytlpccebackmahaa
/- Layer 7, plainly: what the statements say of flows that are filled. -/
set_option linter.unusedVariables false
set_option linter.unusedSimpArgs false
namespace Go.Proofs.Ytlpccebackmahaa

theorem natsOf_take (o : List Int) (j : Nat) : natsOf (o.take j) = (natsOf o).take j := by unfold natsOf; rw [List.map_take]
theorem natsOf_len (o : List Int) : (natsOf o).length = o.length := by simp [natsOf]
theorem gotR_len (o fl : List Int) : (gotR o fl).length = o.length := by simp [gotR]
theorem Least.congr {E : List Ed} {s t : Int} {A B : List Nat} {m : Int} (h : Least E s t A m) (hAB : ∀ i, i < E.length → (E.getD i default).f = s → (i ∈ A ↔ i ∈ B)) : Least E s t B m := by
  refine ⟨?_, fun S h1 h2 => ?_⟩
  · obtain ⟨S, h1, h2, h3⟩ := h.some
    exact ⟨S, h1, h2, by rw [h3, cutA_congr hAB]⟩
  · rw [← cutA_congr hAB]; exact h.all S h1 h2
/-- What the first j sources have, together. -/
theorem sum_prefix {N : Int} {E : List Ed} {s t : Int} {o : List Int} {ws : List (List (List Int × Int))} (h : FormOk N E s t o ws) (j : Nat) (hj : j ≤ o.length) :
    Least E s t (natsOf (o.take j)) ((gotR o (flowR N E s t o ws)).take j).sum := by
  have := (h.inv o.length (Nat.le_refl _)).sum h.1.lexT j hj
  rw [natsOf_take]
  have e : lsum ((natsOf o).take j) (fun k => (fillN N.toNat E s t (natsOf o) (waysN ws) o.length).getD k 0) = ((gotR o (flowR N E s t o ws)).take j).sum := by
    unfold lsum gotR natsOf flowR
    rw [← List.map_take, ← List.map_take, List.map_map]
    rfl
  rwa [e] at this
theorem sum_all {N : Int} {E : List Ed} {s t : Int} {o : List Int} {ws : List (List (List Int × Int))} (h : FormOk N E s t o ws) : Least E s t (natsOf o) (gotR o (flowR N E s t o ws)).sum := by
  have := sum_prefix h o.length (Nat.le_refl _)
  rwa [List.take_length, List.take_of_length_le (by rw [gotR_len]; exact Nat.le_refl _)] at this
theorem list_of_sums : ∀ {a b : List Int}, a.length = b.length → (∀ j, j ≤ a.length → (a.take j).sum = (b.take j).sum) → a = b := by
  intro a
  induction a with
  | nil => intro b hl _; exact (List.eq_nil_of_length_eq_zero hl.symm).symm
  | cons x a ih =>
    intro b hl h
    rcases b with _ | ⟨y, b⟩
    · simp at hl
    · have h1 := h 1 (by simp)
      simp only [List.take_succ_cons, List.take_zero, List.sum_cons, List.sum_nil] at h1
      obtain rfl : x = y := by omega
      rw [ih (by simpa using hl) (fun j hj => by
        have := h (j + 1) (by simpa using hj)
        simp only [List.take_succ_cons, List.sum_cons] at this
        omega)]
/-- LexGreatest: the Max of what is open. -/
theorem law_greatest {N : Int} {E : List Ed} {s t : Int} {o : List Int} {ws : List (List (List Int × Int))} (h : FormOk N E s t o ws) (j : Nat) (hj : j ≤ o.length) :
    ((gotR o (flowR N E s t o ws)).take j).sum = (push N.toNat (opn E s (natsOf (o.take j))) s t 1073741824 (List.replicate (opn E s (natsOf (o.take j))).length 0)).2 := by
  have h1 := sum_prefix h j hj
  have h2 := max_least h.1.lexT (natsOf (o.take j))
  rw [opn_length]
  exact h1.uniq h2
theorem form_take {N : Int} {E : List Ed} {s t : Int} {o : List Int} (h : FormOk N E s t o []) {o' : List Int} (hs : o'.Sublist o) : FormOk N E s t o' [] :=
  ⟨⟨h.1.1, h.1.2.1, h.1.2.2.1, h.1.2.2.2.1, Nat.le_trans hs.length_le h.1.2.2.2.2.1, h.1.2.2.2.2.2.1.sublist hs, fun i hi => h.1.2.2.2.2.2.2 i (hs.subset hi)⟩, Nat.zero_le _, fun i hi => absurd hi (Nat.not_lt_zero i)⟩
/-- LexFirst: whoever comes last changes nothing. -/
theorem law_ahead {N : Int} {E : List Ed} {s t : Int} {o : List Int} (h : FormOk N E s t o []) (i : Nat) (hi : i < o.length) :
    gotR (o.take (i + 1)) (flowR N E s t (o.take (i + 1)) []) = (gotR o (flowR N E s t o [])).take (i + 1) := by
  have h' := form_take h (List.take_sublist (i + 1) o)
  have hlen : (o.take (i + 1)).length = i + 1 := by rw [List.length_take]; omega
  refine list_of_sums (by rw [gotR_len, List.length_take, List.length_take, gotR_len]) (fun j hj => ?_)
  rw [gotR_len, hlen] at hj
  have h1 := sum_prefix h' j (by omega)
  have h2 := sum_prefix h j (by omega)
  rw [List.take_take, Nat.min_eq_left hj] at h1
  rw [List.take_take, Nat.min_eq_left hj]
  exact h1.uniq h2
/-- .. nobody has more than alone; the first one has just that. -/
theorem law_alone {N : Int} {E : List Ed} {s t : Int} {o : List Int} (h : FormOk N E s t o []) (i : Nat) (hi : i < o.length) :
    ∃ x, gotR [o.getD i 0] (flowR N E s t [o.getD i 0] []) = [x] ∧ (gotR o (flowR N E s t o [])).getD i 0 ≤ x ∧ (i = 0 → x = (gotR o (flowR N E s t o [])).getD 0 0) := by
  have hm : o.getD i 0 ∈ o := by rw [List.getD_eq_getElem?_getD, List.getElem?_eq_getElem hi]; exact List.getElem_mem hi
  have h' := form_take h (List.singleton_sublist.2 hm)
  have hx := sum_all h'
  refine ⟨_, rfl, ?_, ?_⟩
  · have hx2 : Least E s t (natsOf [o.getD i 0]) ((flowR N E s t [o.getD i 0] []).getD (o.getD i 0).toNat 0) := by
      have : (gotR [o.getD i 0] (flowR N E s t [o.getD i 0] [])).sum = (flowR N E s t [o.getD i 0] []).getD (o.getD i 0).toNat 0 := by simp [gotR]
      rwa [this] at hx
    obtain ⟨S, s1, s2, s3⟩ := hx2.some
    show (gotR o (flowR N E s t o [])).getD i 0 ≤ (flowR N E s t [o.getD i 0] []).getD (o.getD i 0).toNat 0
    rw [s3]
    have T := h.1.lexT
    have hf := h.inv o.length (Nat.le_refl _)
    have hp := part_le T.ends T.sv (hf.ok.full (fun i hi => (T.caps i hi).1)) hf.noIn (natsOf [o.getD i 0]) S s1 s2
    refine Int.le_trans (Int.le_of_eq ?_) hp
    rw [partA_sum _ (by simp [natsOf]) (fun k hk => T.src k (by
      simp only [natsOf, List.map_cons, List.map_nil, List.mem_singleton] at hk
      rw [hk]
      exact List.mem_map.2 ⟨_, hm, rfl⟩))]
    simp only [natsOf, List.map_cons, List.map_nil, lsum, List.sum_cons, List.sum_nil, Int.add_zero]
    unfold gotR
    rw [List.getD_eq_getElem?_getD, List.getElem?_map, List.getElem?_eq_getElem hi]
    simp only [Option.map_some, Option.getD_some]
    rw [List.getD_eq_getElem?_getD (l := o), List.getElem?_eq_getElem hi]
    rfl
  · rintro rfl
    have h1 := sum_prefix h 1 (by omega)
    have e1 : o.take 1 = [o.getD 0 0] := by
      rcases o with _ | ⟨a, l⟩
      · simp at hi
      · rfl
    rw [e1] at h1
    have h2 := hx.uniq h1
    have e2 : ((gotR o (flowR N E s t o [])).take 1).sum = (gotR o (flowR N E s t o [])).getD 0 0 := by
      have hl : 0 < (gotR o (flowR N E s t o [])).length := by rw [gotR_len]; exact hi
      generalize gotR o (flowR N E s t o []) = g at hl ⊢
      rcases g with _ | ⟨a, l⟩
      · simp at hl
      · simp
    rw [e2] at h2
    rw [← h2]
    exact (Int.add_zero _).symm
/-- LexTotal. -/
theorem law_total {N : Int} {E : List Ed} {s t : Int} {a b : List Int} {ws vs : List (List (List Int × Int))} (ha : FormOk N E s t a ws) (hb : FormOk N E s t b vs) (hp : a.Perm b) :
    (gotR a (flowR N E s t a ws)).sum = (gotR b (flowR N E s t b vs)).sum := by
  refine (sum_all ha).uniq ((sum_all hb).congr (fun i _ _ => ?_))
  unfold natsOf
  rw [(hp.map Int.toNat).mem_iff]
end Go.Proofs.Ytlpccebackmahaa
/- Layer 7, plainly: LexWider. -/
set_option linter.unusedVariables false
set_option linter.unusedSimpArgs false
namespace Go.Proofs.Ytlpccebackmahaa

/-- The edge k with a Cap greater by d. -/
def widen (E : List Ed) (k : Nat) (d : Int) : List Ed := E.set k { E.getD k default with c := (E.getD k default).c + d }
theorem widen_len (E : List Ed) (k : Nat) (d : Int) : (widen E k d).length = E.length := by simp [widen]
theorem widen_get (E : List Ed) (k : Nat) (d : Int) (hk : k < E.length) (i : Nat) (hi : i < E.length) :
    ((widen E k d).getD i default).f = (E.getD i default).f ∧ ((widen E k d).getD i default).t = (E.getD i default).t ∧ ((widen E k d).getD i default).c = (E.getD i default).c + (if i = k then d else 0) := by
  unfold widen
  by_cases h : i = k
  · subst h
    rw [List.getD_eq_getElem?_getD, List.getElem?_set_self hk, if_pos rfl]
    exact ⟨rfl, rfl, rfl⟩
  · rw [List.getD_eq_getElem?_getD, List.getElem?_set_ne (fun e => h e.symm), if_neg h, ← List.getD_eq_getElem?_getD, Int.add_zero]
    exact ⟨rfl, rfl, rfl⟩
theorem sum_split (l : List Int) (h : 0 < l.length) : (l.take 1).sum = l.getD 0 0 ∧ l.sum = l.getD 0 0 + (l.drop 1).sum := by
  rcases l with _ | ⟨a, l⟩
  · simp at h
  · simp
theorem law_wider {N : Int} {E : List Ed} {s t : Int} {o : List Int} {d : Int} {k : Nat} (h : FormOk N E s t o []) (ho : 0 < o.length) (hk : o.getD 0 0 = (k : Int)) (hd : 0 ≤ d) (hall : ∀ i, i < E.length → (E.getD i default).f = s → (i : Int) ∈ o)
    (h' : FormOk N (widen E k d) s t o []) :
    (gotR o (flowR N E s t o [])).getD 0 0 ≤ (gotR o (flowR N (widen E k d) s t o [])).getD 0 0 ∧
      ((gotR o (flowR N (widen E k d) s t o [])).drop 1).sum ≤ ((gotR o (flowR N E s t o [])).drop 1).sum := by
  have hm : (k : Int) ∈ o := by rw [← hk, List.getD_eq_getElem?_getD, List.getElem?_eq_getElem ho]; exact List.getElem_mem ho
  obtain ⟨_, hkl, hkf⟩ := h.1.2.2.2.2.2.2 _ hm
  have hkl2 : k < E.length := by omega
  rw [Int.toNat_natCast] at hkf
  have T := h.1.lexT
  have e1 : o.take 1 = [(k : Int)] := by
    rcases o with _ | ⟨a, l⟩
    · simp at ho
    · have : a = (k : Int) := hk
      rw [this]; rfl
  have hn : natsOf [(k : Int)] = [k] := by simp [natsOf]
  have p1 := sum_prefix h 1 ho
  have q1 := sum_prefix h' 1 ho
  rw [e1, hn] at p1 q1
  have p2 := sum_all h
  have q2 := sum_all h'
  have g1 : (gotR o (flowR N E s t o [])).length = o.length := gotR_len _ _
  have g2 : (gotR o (flowR N (widen E k d) s t o [])).length = o.length := gotR_len _ _
  generalize gotR o (flowR N E s t o []) = p at *
  generalize gotR o (flowR N (widen E k d) s t o []) = q at *
  obtain ⟨a1, a2⟩ := sum_split p (by omega)
  obtain ⟨b1, b2⟩ := sum_split q (by omega)
  rw [a1] at p1
  rw [b1] at q1
  have hw := wider (N := N.toNat) (A := natsOf o) (widen_len E k d) hkl2 hkf hd (fun i hi hf => List.mem_map.2 ⟨_, hall i hi hf, Int.toNat_natCast i⟩) (fun i hi => (T.caps i hi).1) (fun i hi => widen_get E k d hkl2 i hi) p2 p1 q2 q1
  omega
theorem orderR_all (E : List Ed) (raw : List Int) (i : Nat) (hi : i < E.length) (hf : (E.getD i default).f = 0) : (i : Int) ∈ orderR E raw := by
  rw [(orderR_perm E raw).mem_iff]
  unfold srcs srcsK
  exact List.mem_map.2 ⟨i, List.mem_filter.2 ⟨List.mem_range.2 hi, by simpa using hf⟩, rfl⟩
theorem widen_ok {N : Int} {E : List Ed} {o : List Int} {k : Nat} {d : Int} (h : FormOk N E 0 1 o []) (hc : ∀ e ∈ E, e.c ≤ 9) (hd : 0 ≤ d ∧ d ≤ 900) : FormOk N (widen E k d) 0 1 o [] := by
  by_cases hk : k < E.length
  · refine ⟨⟨⟨h.1.1.1, h.1.1.2.1, by rw [widen_len]; exact h.1.1.2.2.1, fun e he => ?_⟩, h.1.2.1, h.1.2.2.1, h.1.2.2.2.1, by rw [widen_len]; exact h.1.2.2.2.2.1, h.1.2.2.2.2.2.1, fun i hi => ?_⟩, Nat.zero_le _, fun i hi => absurd hi (Nat.not_lt_zero i)⟩
    · obtain ⟨i, hi, rfl⟩ := List.getElem_of_mem he
      have hi2 : i < E.length := by rw [widen_len] at hi; exact hi
      obtain ⟨w1, w2, w3⟩ := widen_get E k d hk i hi2
      rw [List.getD_eq_getElem?_getD, List.getElem?_eq_getElem hi] at w1 w2 w3
      simp only [Option.getD_some] at w1 w2 w3
      have hm : E.getD i default ∈ E := by rw [List.getD_eq_getElem?_getD, List.getElem?_eq_getElem hi2]; exact List.getElem_mem hi2
      obtain ⟨c1, c2, c3, c4, c5⟩ := h.1.1.2.2.2 _ hm
      have := hc _ hm
      refine ⟨by rw [w1]; exact c1, by rw [w2]; exact c2, by rw [w1, w2]; exact c3, ?_, ?_⟩
      · rw [w3]; split <;> omega
      · rw [w3]; split <;> omega
    · obtain ⟨s1, s2, s3⟩ := h.1.2.2.2.2.2.2 i hi
      exact ⟨s1, by rw [widen_len]; exact s2, by rw [(widen_get E k d hk i.toNat (by omega)).1]; exact s3⟩
  · have : widen E k d = E := by unfold widen; exact List.set_eq_of_length_le (by omega)
    rw [this]; exact h
end Go.Proofs.Ytlpccebackmahaa
/- Layer 7: billetlaw05.Fit walked. -/
set_option linter.unusedVariables false
set_option linter.unusedSimpArgs false
namespace Go.Proofs.Ytlpccebackmahaa
open Go.RowKit

theorem fitE_take {N : Int} {E : List Ed} {k : Nat} (h1 : k < E.length) (h2 : k < 40) : (fitE N E).take (k + 1) = (fitE N E).take k ++ [fitEd (fitN N) (E.getD k default)] := by
  have hl : k < (fitE N E).length := by unfold fitE; rw [List.length_map, List.length_take]; omega
  rw [take_snoc _ _ default hl]
  congr 2
  unfold fitE
  rw [List.getD_eq_getElem?_getD, List.getElem?_map, List.getElem?_take, if_pos h2, List.getElem?_eq_getElem h1, List.getD_eq_getElem?_getD, List.getElem?_eq_getElem h1]
  rfl
theorem fitE_whole {N : Int} {E : List Ed} {k : Nat} (h : ¬ (k < E.length ∧ k < 40)) : (fitE N E).take k = fitE N E := by
  apply List.take_of_length_le
  unfold fitE; rw [List.length_map, List.length_take]; omega

set_option maxHeartbeats 4000000 in
set_option maxRecDepth 100000 in
theorem fit_any (N : Int) (A : Option Addr) (c : Nat) (E : List Ed) (w : World) (hE : ReadsE w A E) (hN : i64ok N) (hb : ∀ e ∈ E, e.Ok) :
    Calls Try.prog 14 #[.agg #[.int .i64 N, .slice A E.length c]] w fun e w' => ∃ A' c',
      e = .returned (.agg #[.int .i64 (fitN N), .slice A' (fitE N E).length c']) ∧ w'.ownsRow w.heap.size 50 3 (.slice A' (fitE N E).length c') (fitE N E).length (edCells (fitE N E)) ∧ Kept w w' := by
  have lE := hE.len
  unfold maxLen at lE
  have HE := Lib.hid hE
  have HB := Lib.hid hb
  clear hE hb
  obtain ⟨n1, n2⟩ := hN
  have hM := fitN_range N
  have hM2 := pick_range N 8 (by decide)
  have hMe : (2 : Int) + pickOf N 8 = fitN N := rfl
  have HME := Lib.hid hMe
  generalize hMM : fitN N = M at *
  have HMM := Lib.hid hMM
  generalize hPP : pickOf N 8 = P8 at *
  clear hMM hMe
  obtain ⟨i0, hi, hz0, hz1, hz2⟩ := info_parts infoEdge
  have hp8 := pick5_any N 8 
  have HP := Lib.hid hPP
  go_enter Try.func14, Try.ntmps14
  go_wp2_with (go_at_call 32; go_loud (refine (pick5_any N 8 _ n1 n2 (by decide) (by decide)).mono ?_; rintro e w' ⟨rfl, rfl⟩; rw [HP.out]))
  go_loopw [4] (fun i wr => ∃ (k : Nat) (v : Value), k ≤ E.length ∧ k ≤ 40 ∧ i = .int .i64 k ∧ wr.heap[w.heap.size + 2]? = some (.cells #[.int .i64 M, v] 24) ∧ wr.ownsRow (w.heap.size + 3) 50 3 v k (edCells ((fitE N E).take k)) ∧
    Only (fun b => w.heap.size + 2 ≤ b) (((w.alloc (.cells #[.int .i64 N, .slice A E.length c] 24)).alloc (.cells #[.int .i64 0, .slice none 0 0] 24)).alloc (.cells #[.int .i64 M, .slice none 0 0] 24)) wr) (fun i _ => E.length - (intOf i).toNat)
  case atStart =>
    refine ⟨0, .slice none 0 0, Nat.zero_le _, Nat.zero_le _, rfl, ?_, ⟨rfl, .inl ⟨rfl, rfl⟩⟩, ?_⟩
    · rw [HME.out]
      exact (three_allocs w _ _ _).2.2
    · rw [HME.out]
      exact Only.refl _ _
  case round =>
    obtain ⟨k, v, hk, hk40, rfl, hob, hrow, ho⟩ := hrel
    obtain ⟨A2, cc2, hv2⟩ := row_slice hrow
    subst hv2
    obtain ⟨a1, a2, _⟩ := three_allocs w (.cells #[.int .i64 N, .slice A E.length c] 24) (.cells #[.int .i64 0, .slice none 0 0] 24) (.cells #[.int .i64 M, .slice none 0 0] 24)
    have a1' := (ho.block w.heap.size (by simp; omega) (by omega)).trans a1
    have a2' := (ho.block (w.heap.size + 1) (by simp) (by omega)).trans a2
    have q0 := obj_cell a1' 0
    have q1 := obj_cell a1' 1
    have r0 := obj_cell a2' 0
    have r1 := obj_cell a2' 1
    have fr0 := obj_fr a2' 0
    have fr1 := obj_fr a2' 1
    simp only [List.getElem?_toArray, List.getElem?_cons_zero, List.getElem?_cons_succ] at q0 q1 r0 r1
    have hsz : w.heap.size + 3 ≤ wr.heap.size := by have := ho.size; simp at this; omega
    have o0 := obj_cell hob 0
    have o1 := obj_cell hob 1
    have of0 := obj_fr hob 0
    have of1 := obj_fr hob 1
    simp only [List.getElem?_toArray, List.getElem?_cons_zero, List.getElem?_cons_succ] at o0 o1
    have HOB := Lib.hid hob
    have HROW := Lib.hid hrow
    have HO := Lib.hid ho
    have HKP := Lib.hid (show Kept w wr from ((((Only.refl _ w).alloc _).alloc _).alloc _).trans' ho (fun _ _ x => x) (fun q hq x => absurd x (by omega)))
    clear hob hrow ho a1 a2 a1' a2'
    by_cases hlt : k < E.length ∧ k < 40
    · obtain ⟨hlt, hlt40⟩ := hlt
      have l40 : (k : Int) < 40 := by omega
      obtain ⟨bk, off, rfl, lb, lb0, e0, e1, e2⟩ := edge_at2 HE.out hlt HKP.out
      have htk := fitE_take (N := N) hlt hlt40
      have hbk := HB.out (E.getD k default) (by rw [List.getD_eq_getElem?_getD, List.getElem?_eq_getElem hlt]; exact List.getElem_mem hlt)
      rw [HMM.out] at htk
      have HTK := Lib.hid htk
      clear htk
      generalize E.getD k default = ed at *
      obtain ⟨f, t, ca⟩ := ed
      obtain ⟨⟨f1, f2⟩, ⟨t1, t2⟩, ⟨g1, g2⟩⟩ := hbk
      simp only at e0 e1 e2 f1 f2 t1 t2 g1 g2
      have hMp : 0 < M := by omega
      have hMb : M ≤ 9223372036854775807 := by omega
      have pf := fun W => pick5_any f M W f1 f2 hMp hMb
      have pt := fun W => pick5_any t M W t1 t2 hMp hMb
      have pc := fun W => pick5_any ca 10 W g1 g2 (by decide) (by decide)
      have rf := pick_range f M hMp
      have rt := pick_range t M hMp
      have rc := pick_range ca 10 (by decide)
      have HPF := Lib.hid pf
      have HPT := Lib.hid pt
      have HPC := Lib.hid pc
      clear pf pt pc
      unfold fitEd at HTK
      simp only at HTK
      generalize pickOf f M = pfv at *
      generalize pickOf t M = ptv at *
      generalize pickOf ca 10 = pcv at *
      have hS : w.heap.size < wr.heap.size ∧ bk < wr.heap.size ∧ w.heap.size + 2 < wr.heap.size := ⟨by omega, lb, by omega⟩
      go_upto_region 5 with fail
      go_region_held3 (fun W => W.cell? ⟨w.heap.size, 1, none⟩ = some (.slice (some ⟨bk, off, none⟩) E.length c) ∧ W.cell? ⟨bk, off + k * 3, none⟩ = some (.int .i64 f) ∧ W.cell? ⟨bk, off + k * 3 + 1, none⟩ = some (.int .i64 t) ∧ W.cell? ⟨bk, off + k * 3 + 2, none⟩ = some (.int .i64 ca) ∧ W.cell? ⟨w.heap.size + 2, 0, none⟩ = some (.int .i64 M)) (first | exact ⟨q1, e0, e1, e2, o0⟩ | go_keep)
        (first | (go_at_call_of 32 (Value.int IntKind.i64 f); refine (HPF.out _).mono ?_; rintro e w' ⟨rfl, rfl⟩) | (go_at_call_of 32 (Value.int IntKind.i64 t); refine (HPT.out _).mono ?_; rintro e w' ⟨rfl, rfl⟩) | (go_at_call_of 32 (Value.int IntKind.i64 ca); refine (HPC.out _).mono ?_; rintro e w' ⟨rfl, rfl⟩))
      all_goals (
        have hob2 : ((wr.alloc (.cells #[.int .i64 pfv, .int .i64 ptv, .int .i64 pcv] 50)).drew).heap[w.heap.size + 2]? = some (.cells #[.int .i64 M, .slice A2 k cc2] 24) := (heap_alloc_old wr _ (by omega)).trans HOB.out
        have heb : ((wr.alloc (.cells #[.int .i64 pfv, .int .i64 ptv, .int .i64 pcv] 50)).drew).heap[wr.heap.size]? = some (.cells #[.int .i64 pfv, .int .i64 ptv, .int .i64 pcv] 50) := heap_alloc_new wr _
        have HR2 := Lib.hid (row_drew (RowOwned.alloc HROW.out (.cells #[.int .i64 pfv, .int .i64 ptv, .int .i64 pcv] 50)))
        have HO2 := Lib.hid ((HO.out.alloc (.cells #[.int .i64 pfv, .int .i64 ptv, .int .i64 pcv] 50)).drew)
        have hsz2 : ((wr.alloc (.cells #[.int .i64 pfv, .int .i64 ptv, .int .i64 pcv] 50)).drew).heap.size = wr.heap.size + 1 := by simp
        generalize (wr.alloc (.cells #[.int .i64 pfv, .int .i64 ptv, .int .i64 pcv] 50)).drew = w2 at *
        have x0 := obj_cell heb 0
        have x1 := obj_cell heb 1
        have x2 := obj_cell heb 2
        have xf := obj_fr heb 1
        have y0 := obj_cell hob2 0
        have y1 := obj_cell hob2 1
        have yf1 := obj_fr hob2 1
        simp only [List.getElem?_toArray, List.getElem?_cons_zero, List.getElem?_cons_succ] at x0 x1 x2 y0 y1
        have HOB2 := Lib.hid hob2
        have HEB := Lib.hid heb
        clear hob2 heb e0 e1 e2 q0 q1 r0 r1 o0 o1 of0 of1 fr0 fr1
        have hne1 : wr.heap.size ≠ w.heap.size + 2 := by omega
        have hne2 : w.heap.size + 2 ≠ wr.heap.size := by omega
        by_cases hft : pfv = ptv
        · rw [if_pos hft] at HTK
          subst hft
          obtain ⟨ws, hws⟩ : ∃ ws, w2.setCell ⟨wr.heap.size, 1, none⟩ (.int .i64 ((pfv + 1) % M)) = ws := ⟨_, rfl⟩
          have HRS := Lib.hid (show ws.ownsRow (w.heap.size + 3) 50 3 (.slice A2 k cc2) k (edCells ((fitE N E).take k)) by rw [← hws]; exact ownsRow_setCell_ne HR2.out (fun q hq => by have := (HROW.out.lt q hq).2; show q ≠ wr.heap.size; omega) _)
          have HOBS := Lib.hid (show ws.heap[w.heap.size + 2]? = some (.cells #[.int .i64 M, .slice A2 k cc2] 24) by rw [← hws, Below.heap_setCell _ _ _ _ (by show w.heap.size + 2 ≠ wr.heap.size; omega)]; exact HOB2.out)
          have HOS := Lib.hid (show Only (fun b => w.heap.size + 2 ≤ b) (((w.alloc (.cells #[.int .i64 N, .slice (some ⟨bk, off, none⟩) E.length c] 24)).alloc (.cells #[.int .i64 0, .slice none 0 0] 24)).alloc (.cells #[.int .i64 M, .slice none 0 0] 24)) ws by rw [← hws]; exact HO2.out.store _ _ (fun _ => by omega) _)
          have hszs : ws.heap.size = wr.heap.size + 1 := by rw [← hws]; simp [World.setCell, hsz2]
          have s0 : ws.cell? ⟨wr.heap.size, 0, none⟩ = some (.int .i64 pfv) := by rw [← hws]; exact (World.cell?_setCell_other _ _ _ _ (by simp)).trans x0
          have s1 : ws.cell? ⟨wr.heap.size, 1, none⟩ = some (.int .i64 ((pfv + 1) % M)) := by rw [← hws]; exact World.cell?_setCell_same' _ _ _ (by rw [x1]; rfl)
          have s2 : ws.cell? ⟨wr.heap.size, 2, none⟩ = some (.int .i64 pcv) := by rw [← hws]; exact (World.cell?_setCell_other _ _ _ _ (by simp)).trans x2
          have s3 := obj_cell HOBS.out 1
          have s4 := obj_fr HOBS.out 1
          have s5 := obj_cell HOBS.out 0
          simp only [List.getElem?_toArray, List.getElem?_cons_zero, List.getElem?_cons_succ] at s3 s5
          go_wp2_with (at_builtin; go_loud (refine wpList_append_own _ rfl _ _ 22 rfl (w.heap.size + 3) 50 i0 _ 3 24 Try.underlying22 hi hz0 hz1 hz2 rfl (by decide) _ _ _ rfl (RowOwned.alloc HRS.out _) ⟨_, 0, none⟩ 1 1 [.int .i64 pfv, .int .i64 ((pfv + 1) % M), .int .i64 pcv] rfl rfl (three_new_at _ _ _ _ _ (by first | rfl | omega)) (by simp [Value.oneCell']) (by unfold maxLen; omega) (by omega) (by simp; omega) ?_; intro v1 w3 hown1 hgrow1 hnil1; obtain ⟨A4, cc4, hv4⟩ := row_slice hown1; subst hv4; have ho3 := app_only HRS.out hgrow1 ((Only.refl _ _).alloc _); have hob3 := (ho3.block (w.heap.size + 2) (by omega) (by omega)).trans HOBS.out; have z1 := obj_cell hob3 1; have zf := obj_fr hob3 1; simp only [List.getElem?_toArray, List.getElem?_cons_zero, List.getElem?_cons_succ] at z1; have HOB3 := Lib.hid hob3; have HO3 := Lib.hid ho3; have HN1 := Lib.hid hown1; clear hown1 hgrow1 hnil1 ho3 hob3))
          go_roundw
          case rel =>
            refine ⟨k + 1, .slice A4 (k + 1) cc4, by omega, by omega, by go_num, ?_, ?_, ?_⟩
            · have := rblk_setCell (i := 1) HOB3.out (.slice A4 (k + 1) cc4)
              simpa using this
            · refine ownsRow_setCell_ne ?_ (fun q hq => by have := row_at HN1.out q hq; show q ≠ w.heap.size + 1 + 1; omega) _
              rw [HTK.out, edCells_snoc]
              exact HN1.out
            · exact (HOS.out.trans' HO3.out (fun _ _ x => x) (fun q hq x => by omega)).store _ _ (fun _ => by omega) _
          case measure => simp [intOf]; omega
        · rw [if_neg hft] at HTK
          have HRS := HR2
          have HOBS := HOB2
          have HOS := HO2
          go_wp2_with (at_builtin; go_loud (refine wpList_append_own _ rfl _ _ 22 rfl (w.heap.size + 3) 50 i0 _ 3 24 Try.underlying22 hi hz0 hz1 hz2 rfl (by decide) _ _ _ rfl (RowOwned.alloc HRS.out _) ⟨_, 0, none⟩ 1 1 [.int .i64 pfv, .int .i64 ptv, .int .i64 pcv] rfl rfl (three_new_at _ _ _ _ _ (by first | rfl | omega)) (by simp [Value.oneCell']) (by unfold maxLen; omega) (by omega) (by simp; omega) ?_; intro v1 w3 hown1 hgrow1 hnil1; obtain ⟨A4, cc4, hv4⟩ := row_slice hown1; subst hv4; have ho3 := app_only HRS.out hgrow1 ((Only.refl _ _).alloc _); have hob3 := (ho3.block (w.heap.size + 2) (by omega) (by omega)).trans HOBS.out; have z1 := obj_cell hob3 1; have zf := obj_fr hob3 1; simp only [List.getElem?_toArray, List.getElem?_cons_zero, List.getElem?_cons_succ] at z1; have HOB3 := Lib.hid hob3; have HO3 := Lib.hid ho3; have HN1 := Lib.hid hown1; clear hown1 hgrow1 hnil1 ho3 hob3))
          go_roundw
          case rel =>
            refine ⟨k + 1, .slice A4 (k + 1) cc4, by omega, by omega, by go_num, ?_, ?_, ?_⟩
            · have := rblk_setCell (i := 1) HOB3.out (.slice A4 (k + 1) cc4)
              simpa using this
            · refine ownsRow_setCell_ne ?_ (fun q hq => by have := row_at HN1.out q hq; show q ≠ w.heap.size + 1 + 1; omega) _
              rw [HTK.out, edCells_snoc]
              exact HN1.out
            · exact (HOS.out.trans' HO3.out (fun _ _ x => x) (fun q hq x => by omega)).store _ _ (fun _ => by omega) _
          case measure => simp [intOf]; omega)
    · have hkl : k = (fitE N E).length := by unfold fitE; rw [List.length_map, List.length_take]; omega
      have htake := fitE_whole (N := N) hlt
      rw [htake] at HROW
      rw [hkl] at HROW
      have HKL := Lib.hid hkl
      clear htake hkl
      by_cases hl2 : k < E.length
      · obtain rfl : k = 40 := by omega
        clear hlt
        go_wp2
        refine bodyPost_ret (v := .agg #[.int .i64 M, .slice A2 (fitE N E).length cc2]) ?_ rfl ?_
        · simp only [results]
          go_simp
          try rw [HKL.out]
        · refine ⟨A2, cc2, rfl, ?_, ?_⟩
          · refine row_base (base := w.heap.size + 3) ?_ (by omega)
            refine ownsRow_setCell_ne (ownsRow_setCell_ne HROW.out (fun q hq => by have := row_at HROW.out q hq; show q ≠ w.heap.size + 1; omega) _) (fun q hq => by have := row_at HROW.out q hq; show q ≠ w.heap.size + 1; omega) _
          · exact (HKP.out.store _ _ (fun h => absurd h (by simp)) _).store _ _ (fun h => absurd h (by simp)) _
      · obtain rfl : k = E.length := by omega
        clear hlt hl2
        go_wp2
        refine bodyPost_ret (v := .agg #[.int .i64 M, .slice A2 (fitE N E).length cc2]) ?_ rfl ?_
        · simp only [results]
          go_simp
          try rw [HKL.out]
        · refine ⟨A2, cc2, rfl, ?_, ?_⟩
          · refine row_base (base := w.heap.size + 3) ?_ (by omega)
            refine ownsRow_setCell_ne (ownsRow_setCell_ne HROW.out (fun q hq => by have := row_at HROW.out q hq; show q ≠ w.heap.size + 1; omega) _) (fun q hq => by have := row_at HROW.out q hq; show q ≠ w.heap.size + 1; omega) _
          · exact (HKP.out.store _ _ (fun h => absurd h (by simp)) _).store _ _ (fun h => absurd h (by simp)) _
end Go.Proofs.Ytlpccebackmahaa
/- Layer 7: billetlaw07.Order walked. -/
set_option linter.unusedVariables false
set_option linter.unusedSimpArgs false
namespace Go.Proofs.Ytlpccebackmahaa
open Go.RowKit

theorem step_append_own {P : Program} {w : World} {ops : Array Oper} {o : Oper} {a : Act} {K : Act → World → Prop} {Q : Exit → Act → World → Prop} {E : Prop} (hgd : o.guard = none) (s x : Operand) (t : TypeId)
    (ho : o.op = .call { callee := .builtin .append, args := #[s, x], argTypes := #[t, t] })
    (base : Nat) (e : TypeId) (i : TypeInfo) (z : Value) (size bytes : Nat) (ht : P.underlying t = some (.slice e)) (hi : P.info? e = some i) (hz : i.zero = some z)
    (hsize : i.size = size) (hby : i.bytes = bytes) (hzs : z.cells.size = size) (hsz : 0 < size)
    (v : Value) (n : Nat) (xs : List Value) (hs : a.eval s = v) (hown : w.ownsRow base e size v n xs)
    (ad : Addr) (m c : Nat) (news : List Value) (hx : a.eval x = .slice (some ad) m c) (hl : news.length = m * size) (hnews : ∀ j u, news[j]? = some u → w.cell? (ad.add j) = some u) (h1 : ∀ u ∈ news, u.oneCell' = true)
    (h63 : n + m ≤ maxLen) (hbytes : (n + m) * bytes ≤ 140737488355328) (hbase : base ≤ w.heap.size)
    (h : ∀ v' w', w'.ownsRow base e size v' (n + m) (xs ++ news) → w.grownBy w' v.ownBlock → (v' = .slice none 0 0 ↔ v = .slice none 0 0 ∧ m = 0) → K (a.put o.dst v') w') :
    if Region.wanted o (yielded ops a.tmps) = true then Oper.wp P o a w K Q else E := by
  have hw : Region.wanted o (yielded ops a.tmps) = true := by simp [Region.wanted, hgd]
  rw [if_pos hw]
  exact wp_append_own w s x t ho base e i z size bytes ht hi hz hsize hby hzs hsz v n xs hs hown ad m c news hx hl hnews h1 h63 hbytes hbase h
/-- Two rows of one's own, apart. -/
def Apart2 (v u : Value) : Prop := ∀ q, v.ownBlock = some q → u.ownBlock ≠ some q
theorem ne_of_lies {g go H n c : Nat} {v : Value} (hap : Apart2 (.slice (some ⟨g, 0, none⟩) n c) v) (h : v.ownBlock = some go ∨ go = H) (hg : g < H) : g ≠ go := fun e => by
  rcases h with h | h
  · exact hap g rfl (by rw [h, e])
  · omega
def sliceLen : Value → Nat
  | .slice _ n _ => n
  | _ => 0
theorem row_news {w : World} {base g n cap : Nat} {rest : List Int} (h : FlowV w base (.slice (some ⟨g, 0, none⟩) n cap) rest) (p m : Nat) (hm : p + m ≤ rest.length) :
    ∀ (j : Nat) (u : Value), (((rest.drop p).take m).map (Value.int .i64))[j]? = some u → w.cell? ((⟨g, p, none⟩ : Addr).add j) = some u := by
  intro j u hu
  rw [List.getElem?_map] at hu
  have hj : j < m ∧ p + j < rest.length := by
    rcases Nat.lt_or_ge j ((rest.drop p).take m).length with h1 | h1
    · rw [List.length_take, List.length_drop] at h1; omega
    · rw [List.getElem?_eq_none h1] at hu; cases hu
  obtain ⟨g', c', hv, _, _, hc, _⟩ := h.parts (by omega)
  cases hv
  rw [Addr.add_lit, hc (p + j) hj.2, ← hu, List.getElem?_take, if_pos hj.1, List.getElem?_drop, List.getElem?_eq_getElem hj.2, List.getD_eq_getElem?_getD, List.getElem?_eq_getElem hj.2]
  rfl
theorem ord_step {w1 w3 w5 w6 : World} {go co kk : Nat} {y : Int} {rest out : List Int} {v5 v6 : Value} (hs : w1.heap.size ≤ w3.heap.size) (hk : kk < rest.length) (hg : go < w3.heap.size)
    (hn : w3.ownsRow w1.heap.size 3 1 (.slice (some ⟨go, 0, none⟩) (out.length + 1) co) (out.length + 1) (out.map (Value.int .i64) ++ [.int .i64 y]))
    (h51 : w5.ownsRow w3.heap.size 3 1 v5 (0 + kk) ([] ++ (rest.take kk).map (Value.int .i64))) (h52 : w3.drew.grownBy w5 (Value.slice none 0 0).ownBlock)
    (h61 : w6.ownsRow w3.heap.size 3 1 v6 (0 + kk + (rest.length - (kk + 1))) ([] ++ (rest.take kk).map (Value.int .i64) ++ (rest.drop (kk + 1)).map (Value.int .i64))) (h62 : w5.grownBy w6 v5.ownBlock) :
    FlowV w6 w1.heap.size v6 (rest.eraseIdx kk) ∧ FlowV w6 w1.heap.size (.slice (some ⟨go, 0, none⟩) (out.length + 1) co) (out ++ [y]) ∧ Apart2 v6 (.slice (some ⟨go, 0, none⟩) (out.length + 1) co) ∧ Kept w3 w6 ∧ sliceLen v6 < rest.length := by
  have h35 : Kept w3 w5 := by
    have h := Only.of_grown (S := fun _ => False) h52 (fun k hk _ => by simp [Value.ownBlock] at hk)
    exact ⟨h.os, h.tape, h.output, h.size, h.block⟩
  have h56 : Only (fun q => w3.heap.size ≤ q) w5 w6 := Only.of_grown h62 (fun k hk _ => row_at h51 k hk)
  have h36 : Kept w3 w6 := h35.trans' h56 (fun _ _ x => x) (fun q hq x => absurd x (by omega))
  have hl : (rest.eraseIdx kk).length = 0 + kk + (rest.length - (kk + 1)) := by rw [List.length_eraseIdx_of_lt hk]; omega
  refine ⟨?_, ?_, fun q hq e => ?_, h36, ?_⟩
  · unfold FlowV
    rw [hl, List.eraseIdx_eq_take_drop_succ, List.map_append]
    exact row_base h61 hs
  · unfold FlowV
    rw [List.length_append, List.map_append]
    exact ownsRow_fix hn h36
  · have h1 := row_at h61 q hq
    simp [Value.ownBlock] at e
    omega
  · obtain ⟨A, c, rfl⟩ := row_slice h61
    show 0 + kk + (rest.length - (kk + 1)) < rest.length
    omega
set_option maxHeartbeats 4000000 in
set_option maxRecDepth 100000 in
theorem order_any (N : Int) (A B : Option Addr) (c d : Nat) (E : List Ed) (raw : List Int) (w : World) (hE : ReadsE w A E) (hR : ReadsI w B raw) (hb : ∀ n ∈ raw, i64ok n) (hE2 : E.length ≤ 256) :
    Calls Try.prog 15 #[.agg #[.int .i64 N, .slice A E.length c], .slice B raw.length d] w fun e w' => ∃ v, e = .returned v ∧ FlowV w' w.heap.size v (orderR E raw) ∧ Kept w w' := by
  have lE := hE.len
  have lR := hR.len
  unfold maxLen at lE lR
  have HE := Lib.hid hE
  have HR := Lib.hid hR
  have HB := Lib.hid hb
  clear hE hR hb
  obtain ⟨i0, hi, hz0, hz1, hz2⟩ := info_parts infoInt
  obtain ⟨w1, hw1⟩ : ∃ w1, w.alloc (.cells #[.int .i64 N, .slice A E.length c] 24) = w1 := ⟨_, rfl⟩
  have hk1 : Kept w w1 := by rw [← hw1]; exact (Only.refl _ _).alloc _
  have hs1 : w1.heap.size = w.heap.size + 1 := by rw [← hw1]; simp
  have hn1 : w1.heap[w.heap.size]? = some (.cells #[.int .i64 N, .slice A E.length c] 24) := by rw [← hw1]; exact heap_alloc_new w _
  have key : ∀ W, Kept w1 W → W.cell? ⟨w.heap.size, 1, none⟩ = some (.slice A E.length c) ∧ w.heap.size + 1 ≤ W.heap.size := fun W hk =>
    ⟨obj_cell ((hk.block w.heap.size (by omega) (fun x => x)).trans hn1) 1, by have := hk.size; omega⟩
  have HK1 := Lib.hid hk1
  have KEY := Lib.hid key
  clear hk1 hn1 key
  go_enter Try.func15, Try.ntmps15
  go_wp2
  go_loopw [5, 6] (fun r i wr => ∃ k : Nat, k ≤ E.length ∧ i = .int .i64 k ∧ FlowV wr w1.heap.size r (srcsK E k) ∧ Kept w1 wr) (fun _ i _ => E.length - (intOf i).toNat)
  case atStart => exact ⟨0, Nat.zero_le _, rfl, World.ownsRow_nil _ _ _ _, Only.refl _ _⟩
  case round =>
    obtain ⟨k, hk, rfl, hrow, hkp⟩ := hrel
    obtain ⟨A2, c2, hv2⟩ := row_slice hrow
    subst hv2
    obtain ⟨q1, qsz⟩ := KEY.out _ hkp
    have HROW := Lib.hid hrow
    have HKP := Lib.hid hkp
    have hlen := srcsK_len E k
    clear hrow hkp
    by_cases hlt : k < E.length
    · obtain ⟨bk, off, rfl, lb, lb0, e0, e1, e2⟩ := edge_at2 HE.out hlt (HK1.out.trans HKP.out)
      have hsucc := srcsK_succ E k
      have HSU := Lib.hid hsucc
      clear hsucc
      generalize hed : (E.getD k default).f = f at *
      clear hed
      by_cases hf : f = 0
      · subst hf
        rw [if_pos rfl] at HSU
        go_wp2_with (at_builtin; go_loud (refine wpList_append_own _ rfl _ _ 25 rfl w1.heap.size 3 i0 _ 1 8 Try.underlying25 hi hz0 hz1 hz2 rfl (by decide) _ _ _ rfl (RowOwned.alloc HROW.out _) ⟨_, 0, none⟩ 1 1 [.int .i64 (k : Int)] rfl rfl (one_new_at _ _ _ (by simp)) (by simp [Value.oneCell']) (by unfold maxLen; omega) (by omega) (by simp; omega) ?_; intro v1 w2 hown1 hgrow1 hnil1; have ho1 := app_only HROW.out hgrow1 ((Only.refl _ _).alloc _); have HO1 := Lib.hid ho1; have HN1 := Lib.hid hown1; clear hown1 hgrow1 hnil1 ho1))
        go_roundw
        case rel => exact ⟨k + 1, by omega, by go_num, by rw [HSU.out]; unfold FlowV; rw [List.length_append, List.map_append]; exact HN1.out, HKP.out.trans' HO1.out (fun _ _ x => x) (fun q hq x => by omega)⟩
        case measure => simp [intOf]; omega
      · rw [if_neg hf, List.append_nil] at HSU
        go_wp2
        go_roundw
        case rel => exact ⟨k + 1, by omega, by go_num, by rw [HSU.out]; exact HROW.out, HKP.out⟩
        case measure => simp [intOf]; omega
    · obtain rfl : k = E.length := by omega
      clear hlt
      rename World => wo
      have hr0 : FlowV wo w1.heap.size (.slice A2 (srcsK E E.length).length c2) (srcs E) := HROW.out
      have HR0 := Lib.hid hr0
      clear hr0 HROW
      go_wp2
      go_loopw [5, 7, 8] (fun r o i wr => ∃ (j : Nat) (rest out : List Int), i = .int .i64 j ∧ FlowV wr w1.heap.size r rest ∧ FlowV wr w1.heap.size o out ∧ Apart2 r o ∧ out ++ orderL rest (raw.drop j) = orderR E raw ∧ rest.length + out.length ≤ E.length ∧ j = out.length ∧ Kept w1 wr) (fun r _ _ _ => sliceLen r)
      case atStart => exact ⟨0, srcs E, [], rfl, HR0.out, World.ownsRow_nil _ _ _ _, fun q _ e => by simp [Value.ownBlock] at e, rfl, by simpa [srcs] using hlen, rfl, HKP.out⟩
      case round =>
        clear HR0 HKP q1 qsz
        obtain ⟨j, rest, out, rfl, hrest, hout, hap, heq, hle, hj, hkp⟩ := hrel
        obtain ⟨qq, qsz⟩ := KEY.out _ hkp
        clear qq
        have HEQ := Lib.hid heq
        have HKP := Lib.hid hkp
        have HJ := Lib.hid hj
        have hj2 : j ≤ 256 := by omega
        clear heq hkp hj
        by_cases hpos : 0 < rest.length
        · obtain ⟨g, cap, rfl, hg1, hg2, hgc, hgf⟩ := hrest.parts hpos
          obtain ⟨Ao, co2, hvo⟩ := row_slice hout
          subst hvo
          have hcap : rest.length ≤ cap := by
            rcases hrest.2 with ⟨h, _⟩ | ⟨g', cap', cur, hv, _, _, h, _⟩
            · cases h
            · cases hv; exact h
          have hkl := nextK_lt rest (raw.drop j) hpos
          have hst := orderL_step rest (raw.drop j) hpos
          obtain ⟨kk, hkk⟩ : ∃ kk, nextK rest (raw.drop j) = kk := ⟨_, rfl⟩
          rw [hkk] at hkl hst
          have hck := hgc kk hkl
          generalize hy : rest.getD kk 0 = y at *
          have HY := Lib.hid hy
          have HST := Lib.hid hst
          clear hy
          have HRW := Lib.hid hrest
          have HO := Lib.hid hout
          have HAP := Lib.hid hap
          have HGL := Lib.hid hg2
          clear hst hrest hout hap hgc hgf
          have hrl : rest.length ≤ 256 := by omega
          have hol : out.length ≤ 256 := by omega
          by_cases hjl : j < raw.length
          · obtain ⟨bk, off, hbk, lb, hcr⟩ := HR.out.cell j hjl
            subst hbk
            have hcr2 := ((HK1.out.trans HKP.out).cell (p := ⟨bk, off + j, none⟩) lb (fun x => x)).trans hcr
            have lbr : bk < wr.heap.size := Nat.lt_of_lt_of_le lb (HK1.out.trans HKP.out).size
            have hrb := HB.out (raw.getD j 0) (by rw [List.getD_eq_getElem?_getD, List.getElem?_eq_getElem hjl]; exact List.getElem_mem hjl)
            have hpk : pickOf (raw.getD j 0) rest.length = (kk : Int) := by
              rw [← hkk]
              unfold nextK
              rw [show raw.drop j = raw.getD j 0 :: raw.drop (j + 1) by rw [List.getD_eq_getElem?_getD, List.getElem?_eq_getElem hjl]; exact (List.getElem_cons_drop hjl).symm]
              have := pick_range (raw.getD j 0) (rest.length : Int) (by omega)
              simp only
              omega
            have hcon := fun W => pick7_any (raw.getD j 0) rest.length W hrb.1 hrb.2 (by omega) (by omega)
            rw [hpk] at hcon
            have HPC := Lib.hid hcon
            clear hcon hpk hcr hkk hrb
            generalize raw.getD j 0 = rj at *
            go_upto_region 14 with (go_at_call 21; go_loud (refine (HPC.out _).mono ?_; rintro e w' ⟨rfl, rfl⟩))
            go_upto_region 15 with (at_builtin; go_loud (refine wpList_append_lies _ rfl _ _ 25 rfl w1.heap.size 3 i0 _ 1 8 Try.underlying25 hi hz0 hz1 hz2 rfl (by decide) _ _ _ rfl (RowOwned.alloc HO.out _) ⟨_, 0, none⟩ 1 1 [.int .i64 y] rfl rfl (one_new_at _ _ _ (by simp)) (by simp [Value.oneCell']) (by decide) (by unfold maxLen; omega) (by omega) (by simp; omega) _ rfl ?_; intro go co w3 hown1 hgrow1 hat1 hlt1; have ho1 := app_only HO.out hgrow1 ((Only.refl _ _).alloc _); have HO1 := Lib.hid ho1; have HN1 := Lib.hid hown1; have HR3 := Lib.hid (show FlowV w3 w1.heap.size (.slice (some ⟨g, 0, none⟩) rest.length cap) rest from World.ownsRow.kept (RowOwned.alloc HRW.out _) hgrow1 (Or.inr (fun e => HAP.out g rfl e.symm))); have HNE := Lib.hid (ne_of_lies HAP.out hat1 (by have := HGL.out; simp; omega)); have hsz3 : wr.heap.size ≤ w3.heap.size := ho1.size; have HG3 := Lib.hid hlt1; clear hown1 hgrow1 hat1 ho1 hlt1))
            have HWL := Lib.hid (show Kept w1 w3 from HKP.out.trans' HO1.out (fun _ _ x => x) (fun q hq x => absurd x (by omega)))
            have hd1 : ∀ (j : Nat) (u : Value), ((rest.take kk).map (Value.int .i64))[j]? = some u → w3.drew.cell? ((⟨g, 0, none⟩ : Addr).add j) = some u := row_news HR3.out 0 kk (by omega)
            have hkc : kk ≤ cap := by omega
            have hk3 : kk + 1 ≤ rest.length := hkl
            have hk4 : rest.length ≤ cap := hcap
            have m1 : ((rest.take kk).map (Value.int .i64)).length = kk * 1 := by rw [List.length_map, List.length_take]; omega
            have m2 : 0 + kk ≤ maxLen := by unfold maxLen; omega
            have m3 : (0 + kk) * 8 ≤ 140737488355328 := by omega
            have m4 : w3.heap.size ≤ w3.drew.heap.size := Nat.le_refl _
            have m5 : ((rest.drop (kk + 1)).map (Value.int .i64)).length = (rest.length - (kk + 1)) * 1 := by rw [List.length_map, List.length_drop]; omega
            have m6 : 0 + kk + (rest.length - (kk + 1)) ≤ maxLen := by unfold maxLen; omega
            have m7 : (0 + kk + (rest.length - (kk + 1))) * 8 ≤ 140737488355328 := by omega
            have m8 : kk + 1 + (rest.length - (kk + 1)) ≤ rest.length := by omega
            have m9 : (rest.drop (kk + 1)).take (rest.length - (kk + 1)) = rest.drop (kk + 1) := List.take_of_length_le (by rw [List.length_drop]; omega)
            have hd2 : ∀ W, FlowV W w1.heap.size (.slice (some ⟨g, 0, none⟩) rest.length cap) rest → ∀ (j : Nat) (u : Value), ((rest.drop (kk + 1)).map (Value.int .i64))[j]? = some u → W.cell? ((⟨g, kk + 1, none⟩ : Addr).add j) = some u := fun W hW => by
              have := row_news hW (kk + 1) (rest.length - (kk + 1)) m8
              rwa [m9] at this
            obtain ⟨adr, had, hd3⟩ : ∃ adr : Addr, (if cap = kk + 1 then some (⟨g, 0, none⟩ : Addr) else some ⟨g, kk + 1, none⟩) = some adr ∧ ∀ W, FlowV W w1.heap.size (.slice (some ⟨g, 0, none⟩) rest.length cap) rest → ∀ (j : Nat) (u : Value), ((rest.drop (kk + 1)).map (Value.int .i64))[j]? = some u → W.cell? (adr.add j) = some u := by
              by_cases hcc : cap = kk + 1
              · refine ⟨_, if_pos hcc, fun W hW j u hu => ?_⟩
                rw [List.drop_of_length_le (by omega)] at hu
                cases hu
              · exact ⟨_, if_neg hcc, hd2⟩
            have HAD := Lib.hid had
            clear m9 had hd2
            have k2 : (0 : Int) ≤ (kk : Int) + 1 := by omega
            have k3 : ((kk : Int) + 1).toNat = kk + 1 := by omega
            have k4 : (kk : Int) + 1 ≤ (rest.length : Int) := by omega
            have k1 : IntKind.i64.wrap ((kk : Int) + 1) = (kk : Int) + 1 := IntWalk.i64_in _ (by omega)
            go_region_law (first
              | (refine step_append_own rfl (.const (.slice none 0 0)) (.tmp 53) 25 rfl w3.heap.size 3 i0 _ 1 8 Try.underlying25 hi hz0 hz1 hz2 rfl (by decide) (.slice none 0 0) 0 [] rfl (World.ownsRow_nil _ _ _ _) ⟨g, 0, none⟩ kk cap ((rest.take kk).map (Value.int .i64)) (by kernel_rfl) m1 hd1 (ints_one _) m2 m3 m4 ?_; intro v5 w5 h51 h52 h53; have HR5 := Lib.hid (show FlowV w5 w1.heap.size (.slice (some ⟨g, 0, none⟩) rest.length cap) rest from World.ownsRow.kept (row_drew HR3.out) h52 (Or.inr (by simp [Value.ownBlock]))); have m10 : w3.heap.size ≤ w5.heap.size := h52.size)
              | (go_loud (refine step_append_own rfl (.tmp 54) (.tmp 58) 25 rfl w3.heap.size 3 i0 _ 1 8 Try.underlying25 hi hz0 hz1 hz2 rfl (by decide) v5 _ _ (by kernel_rfl) h51 adr (rest.length - (kk + 1)) (cap - (kk + 1)) ((rest.drop (kk + 1)).map (Value.int .i64)) (Eq.trans (by kernel_rfl) (congrArg (fun z => Value.slice z (rest.length - (kk + 1)) (cap - (kk + 1))) HAD.out)) m5 (hd3 _ HR5.out) (ints_one _) m6 m7 m10 ?_; intro v6 w6 h61 h62 h63)))
            clear k1 k2 k3 k4
            obtain ⟨n1, n2, n3, n4, n5⟩ := ord_step (kk := kk) (by have := HKP.out.size; omega) hkl HG3.out HN1.out h51 h52 h61 h62
            have HN1' := Lib.hid n1
            have HN2' := Lib.hid n2
            have HN3' := Lib.hid n3
            have HN4' := Lib.hid n4
            have HN5' := Lib.hid n5
            clear n1 n2 n3 n4 n5 h51 h52 h53 h61 h62 h63
            go_wp2
            go_roundw
            case rel =>
              refine ⟨j + 1, rest.eraseIdx kk, out ++ [y], by go_num, HN1'.out, HN2'.out, HN3'.out, ?_, ?_, ?_, HWL.out.trans HN4'.out⟩
              · have h1 := HEQ.out
                rw [HST.out, List.tail_drop] at h1
                rw [List.append_assoc]
                exact h1
              · rw [List.length_eraseIdx_of_lt hkl, List.length_append]; simp; omega
              · rw [List.length_append, ← HJ.out]; rfl
            case measure =>
              have := HN5'.out
              simpa [sliceLen] using this
          · have hk0 : kk = 0 := by
              rw [← hkk, List.drop_of_length_le (by omega)]
              rfl
            subst hk0
            clear hkk
            go_upto_region 14 with fail
            go_upto_region 15 with (at_builtin; go_loud (refine wpList_append_lies _ rfl _ _ 25 rfl w1.heap.size 3 i0 _ 1 8 Try.underlying25 hi hz0 hz1 hz2 rfl (by decide) _ _ _ rfl (RowOwned.alloc HO.out _) ⟨_, 0, none⟩ 1 1 [.int .i64 y] rfl rfl (one_new_at _ _ _ (by simp)) (by simp [Value.oneCell']) (by decide) (by unfold maxLen; omega) (by omega) (by simp; omega) _ rfl ?_; intro go co w3 hown1 hgrow1 hat1 hlt1; have ho1 := app_only HO.out hgrow1 ((Only.refl _ _).alloc _); have HO1 := Lib.hid ho1; have HN1 := Lib.hid hown1; have HR3 := Lib.hid (show FlowV w3 w1.heap.size (.slice (some ⟨g, 0, none⟩) rest.length cap) rest from World.ownsRow.kept (RowOwned.alloc HRW.out _) hgrow1 (Or.inr (fun e => HAP.out g rfl e.symm))); have HNE := Lib.hid (ne_of_lies HAP.out hat1 (by have := HGL.out; simp; omega)); have hsz3 : wr.heap.size ≤ w3.heap.size := ho1.size; have HG3 := Lib.hid hlt1; clear hown1 hgrow1 hat1 ho1 hlt1))
            have HWL := Lib.hid (show Kept w1 w3 from HKP.out.trans' HO1.out (fun _ _ x => x) (fun q hq x => absurd x (by omega)))
            have hd1 : ∀ (j : Nat) (u : Value), ((rest.take 0).map (Value.int .i64))[j]? = some u → w3.drew.cell? ((⟨g, 0, none⟩ : Addr).add j) = some u := row_news HR3.out 0 0 (by omega)
            have hkc : 0 ≤ cap := by omega
            have hk3 : 0 + 1 ≤ rest.length := hkl
            have hk4 : rest.length ≤ cap := hcap
            have m1 : ((rest.take 0).map (Value.int .i64)).length = 0 * 1 := by rw [List.length_map, List.length_take]; omega
            have m2 : 0 + 0 ≤ maxLen := by unfold maxLen; omega
            have m3 : (0 + 0) * 8 ≤ 140737488355328 := by omega
            have m4 : w3.heap.size ≤ w3.drew.heap.size := Nat.le_refl _
            have m5 : ((rest.drop (0 + 1)).map (Value.int .i64)).length = (rest.length - (0 + 1)) * 1 := by rw [List.length_map, List.length_drop]; omega
            have m6 : 0 + 0 + (rest.length - (0 + 1)) ≤ maxLen := by unfold maxLen; omega
            have m7 : (0 + 0 + (rest.length - (0 + 1))) * 8 ≤ 140737488355328 := by omega
            have m8 : 0 + 1 + (rest.length - (0 + 1)) ≤ rest.length := by omega
            have m9 : (rest.drop (0 + 1)).take (rest.length - (0 + 1)) = rest.drop (0 + 1) := List.take_of_length_le (by rw [List.length_drop]; omega)
            have hd2 : ∀ W, FlowV W w1.heap.size (.slice (some ⟨g, 0, none⟩) rest.length cap) rest → ∀ (j : Nat) (u : Value), ((rest.drop (0 + 1)).map (Value.int .i64))[j]? = some u → W.cell? ((⟨g, 0 + 1, none⟩ : Addr).add j) = some u := fun W hW => by
              have := row_news hW (0 + 1) (rest.length - (0 + 1)) m8
              rwa [m9] at this
            obtain ⟨adr, had, hd3⟩ : ∃ adr : Addr, (if cap = 0 + 1 then some (⟨g, 0, none⟩ : Addr) else some ⟨g, 0 + 1, none⟩) = some adr ∧ ∀ W, FlowV W w1.heap.size (.slice (some ⟨g, 0, none⟩) rest.length cap) rest → ∀ (j : Nat) (u : Value), ((rest.drop (0 + 1)).map (Value.int .i64))[j]? = some u → W.cell? (adr.add j) = some u := by
              by_cases hcc : cap = 0 + 1
              · refine ⟨_, if_pos hcc, fun W hW j u hu => ?_⟩
                rw [List.drop_of_length_le (by omega)] at hu
                cases hu
              · exact ⟨_, if_neg hcc, hd2⟩
            have HAD := Lib.hid had
            clear m9 had hd2
            have k2 : (0 : Int) ≤ (0 : Int) + 1 := by omega
            have k3 : ((0 : Int) + 1).toNat = 0 + 1 := by omega
            have k5 : (1 : Int) ≤ (rest.length : Int) := by omega
            have k4 : (0 : Int) + 1 ≤ (rest.length : Int) := by omega
            have k1 : IntKind.i64.wrap 1 = 1 := IntWalk.i64_in _ (by omega)
            go_region_law (first
              | (refine step_append_own rfl (.const (.slice none 0 0)) (.tmp 53) 25 rfl w3.heap.size 3 i0 _ 1 8 Try.underlying25 hi hz0 hz1 hz2 rfl (by decide) (.slice none 0 0) 0 [] rfl (World.ownsRow_nil _ _ _ _) ⟨g, 0, none⟩ 0 cap ((rest.take 0).map (Value.int .i64)) (by kernel_rfl) m1 hd1 (ints_one _) m2 m3 m4 ?_; intro v5 w5 h51 h52 h53; have HR5 := Lib.hid (show FlowV w5 w1.heap.size (.slice (some ⟨g, 0, none⟩) rest.length cap) rest from World.ownsRow.kept (row_drew HR3.out) h52 (Or.inr (by simp [Value.ownBlock]))); have m10 : w3.heap.size ≤ w5.heap.size := h52.size)
              | (go_loud (refine step_append_own rfl (.tmp 54) (.tmp 58) 25 rfl w3.heap.size 3 i0 _ 1 8 Try.underlying25 hi hz0 hz1 hz2 rfl (by decide) v5 _ _ (by kernel_rfl) h51 adr (rest.length - (0 + 1)) (cap - (0 + 1)) ((rest.drop (0 + 1)).map (Value.int .i64)) (Eq.trans (by kernel_rfl) (congrArg (fun z => Value.slice z (rest.length - (0 + 1)) (cap - (0 + 1))) HAD.out)) m5 (hd3 _ HR5.out) (ints_one _) m6 m7 m10 ?_; intro v6 w6 h61 h62 h63)))
            clear k1 k2 k3 k4
            obtain ⟨n1, n2, n3, n4, n5⟩ := ord_step (kk := 0) (by have := HKP.out.size; omega) hkl HG3.out HN1.out h51 h52 h61 h62
            have HN1' := Lib.hid n1
            have HN2' := Lib.hid n2
            have HN3' := Lib.hid n3
            have HN4' := Lib.hid n4
            have HN5' := Lib.hid n5
            clear n1 n2 n3 n4 n5 h51 h52 h53 h61 h62 h63
            go_wp2
            go_roundw
            case rel =>
              refine ⟨j + 1, rest.eraseIdx 0, out ++ [y], by go_num, HN1'.out, HN2'.out, HN3'.out, ?_, ?_, ?_, HWL.out.trans HN4'.out⟩
              · have h1 := HEQ.out
                rw [HST.out, List.tail_drop] at h1
                rw [List.append_assoc]
                exact h1
              · rw [List.length_eraseIdx_of_lt hkl, List.length_append]; simp; omega
              · rw [List.length_append, ← HJ.out]; rfl
            case measure =>
              have := HN5'.out
              simpa [sliceLen] using this
        · obtain rfl : rest = [] := List.eq_nil_of_length_eq_zero (by omega)
          obtain ⟨A3, c3, hv3⟩ := row_slice hrest
          subst hv3
          have HO := Lib.hid hout
          clear hout hrest hap
          have heq2 : out = orderR E raw := by have := HEQ.out; rw [orderL_nil, List.append_nil] at this; exact this
          have HE2 := Lib.hid heq2
          clear heq2
          go_wp2
          go_ret
          exact ⟨_, rfl, by rw [← HE2.out]; exact HO.out.base (by omega), HK1.out.trans HKP.out⟩
end Go.Proofs.Ytlpccebackmahaa
/- Layer 7: what the statements' walks share. -/
set_option linter.unusedVariables false
set_option linter.unusedSimpArgs false
namespace Go.Proofs.Ytlpccebackmahaa
open Go.RowKit

theorem flowR_len {N : Int} {E : List Ed} {s t : Int} {o : List Int} {ws : List (List (List Int × Int))} (h : FormOk N E s t o ws) : (flowR N E s t o ws).length = E.length :=
  ((h.inv o.length (Nat.le_refl _)).ok.full (fun i hi => (h.1.lexT.caps i hi).1)).len
theorem fill_yes {M : Int} {E : List Ed} {o : List Int} (A B C : Option Addr) (c d cw : Nat) (ls : List WayL) (W : World) (hE : ReadsE W A E) (hO : ReadsI W B o) (hW : ReadsWW W C ls) (hA : A = none → c = 0) (hF : FormOk M E 0 1 o (plainWays ls)) :
    Calls Try.prog 11 #[.agg #[.int .i64 M, .slice A E.length c], .int .i64 0, .int .i64 1, .slice B o.length d, .slice C ls.length cw] W fun e w' => Kept W w' ∧ ∃ A1 c1 A2 c2,
      e = .returned (.tuple #[.slice A1 E.length c1, .slice A2 o.length c2, .int .i64 0]) ∧ ReadsI w' A1 (flowR M E 0 1 o (plainWays ls)) ∧ ReadsI w' A2 (gotR o (flowR M E 0 1 o (plainWays ls))) ∧ o.length ≤ c2 := by
  refine (lfill_any M 0 1 A B C c d cw E o ls W hE hO hW hA).mono ?_
  rintro e w' ⟨hk, h⟩
  rw [if_pos hF] at h
  obtain ⟨v1, v2, h1, ⟨A1, c1, rfl, h2, _⟩, ⟨A2, c2, rfl, h3, h4⟩⟩ := h
  rw [flowR_len hF, gotR_len] at h1
  rw [gotR_len] at h4
  exact ⟨hk, A1, c1, A2, c2, h1, h2, h3, h4⟩
theorem fill_yes0 {M : Int} {E : List Ed} {o : List Int} (A B : Option Addr) (c d : Nat) (W : World) (hE : ReadsE W A E) (hO : ReadsI W B o) (hA : A = none → c = 0) (hF : FormOk M E 0 1 o []) :
    Calls Try.prog 11 #[.agg #[.int .i64 M, .slice A E.length c], .int .i64 0, .int .i64 1, .slice B o.length d, .slice none 0 0] W fun e w' => Kept W w' ∧ ∃ A1 c1 A2 c2,
      e = .returned (.tuple #[.slice A1 E.length c1, .slice A2 o.length c2, .int .i64 0]) ∧ ReadsI w' A1 (flowR M E 0 1 o []) ∧ ReadsI w' A2 (gotR o (flowR M E 0 1 o [])) ∧ o.length ≤ c2 :=
  fill_yes A B none c d 0 [] W hE hO (no_ways W) hA hF
/-- A part of a row of ints is read. -/
theorem reads_part {w : World} {A : Option Addr} {xs : List Int} (h : ReadsI w A xs) (p m : Nat) (hm : p + m ≤ xs.length) (hpos : 0 < m) : ∃ bk off, A = some ⟨bk, off, none⟩ ∧ ReadsI w (some ⟨bk, off + p, none⟩) ((xs.drop p).take m) := by
  obtain ⟨bk, off, rfl, lb, _⟩ := h.cell p (by omega)
  refine ⟨bk, off, rfl, fun i hi => ?_, ?_⟩
  · rw [List.length_take, List.length_drop] at hi
    obtain ⟨bk', off', e, lb', hc⟩ := h.cell (p + i) (by omega)
    cases e
    refine ⟨bk, off + p, rfl, lb', ?_⟩
    rw [Nat.add_assoc, hc, List.getD_eq_getElem?_getD, List.getD_eq_getElem?_getD, List.getElem?_take, if_pos (by omega), List.getElem?_drop]
  · have := h.len
    rw [List.length_take, List.length_drop]
    unfold maxLen at *
    omega
theorem edges_nil {w : World} {base n c : Nat} {A : Option Addr} {e : TypeId} {size : Nat} {xs : List Value} (h : w.ownsRow base e size (.slice A n c) n xs) : A = none → c = 0 := by
  rintro rfl
  rcases h.2 with ⟨h1, h2⟩ | ⟨g, cap, cur, h1, _⟩
  · cases h1; rfl
  · cases h1
/-- What Fit and Order make. -/
structure Made (W : World) (M : Int) (E : List Ed) (o : List Int) (bn : Nat) (A B : Option Addr) (c d : Nat) : Prop where
  n0 : W.cell? ⟨bn, 0, none⟩ = some (.int .i64 M)
  n1 : W.cell? ⟨bn, 1, none⟩ = some (.slice A E.length c)
  lt : bn < W.heap.size
  edges : ReadsE W A E
  order : ReadsI W B o
  nilA : A = none → c = 0
  cap : o.length ≤ d
theorem Made.fix {W W' : World} {M : Int} {E : List Ed} {o : List Int} {bn : Nat} {A B : Option Addr} {c d : Nat} (h : Made W M E o bn A B c d) (hk : Kept W W') : Made W' M E o bn A B c d :=
  ⟨(hk.cell (p := ⟨bn, 0, none⟩) h.lt (fun x => x)).trans h.n0, (hk.cell (p := ⟨bn, 1, none⟩) h.lt (fun x => x)).trans h.n1, Nat.lt_of_lt_of_le h.lt hk.size, h.edges.fix hk, h.order.fix hk, h.nilA, h.cap⟩
end Go.Proofs.Ytlpccebackmahaa
/- Ints at two lists that are the same: it draws, and that is all. -/
set_option linter.unusedVariables false
set_option linter.unusedSimpArgs false
namespace Go.Proofs.Ytlpccebackmahaa
open Go.RowKit

theorem drewN_drew (w : World) (n : Nat) : (w.drewN n).drew = w.drewN (n + 1) := by
  show (w.drewN n).drewN 1 = _
  rw [World.drewN_drewN]
set_option maxHeartbeats 1000000 in
theorem ints_quiet (A B : Option Addr) (c d : Nat) (xs : List Int) (w : World) (hx : ReadsI w A xs) (hy : ReadsI w B xs) :
    Calls Try.prog 13 #[.slice A xs.length c, .slice B xs.length d] w fun e w' => e = .returned (.bool true) ∧ ∃ n, w' = w.drewN n := by
  have lx := hx.len
  unfold maxLen at lx
  have hb : ((xs.length : Int) != xs.length) = false := by simp
  go_enter Try.func13, Try.ntmps13
  go_wp2
  go_loopw [5] (fun i wr => ∃ k : Nat, k ≤ xs.length ∧ i = .int .i64 k ∧ ∃ n, wr = w.drewN n) (fun i _ => xs.length - (intOf i).toNat)
  case atStart => exact ⟨0, Nat.zero_le _, rfl, 0, rfl⟩
  case round =>
    obtain ⟨k, hk, rfl, n, hn⟩ := hrel
    have HO := Lib.hid hn
    by_cases hlt : k < xs.length
    · obtain ⟨bk, off, rfl, l1, hc1⟩ := hx.cell k hlt
      obtain ⟨bk2, off2, rfl, l2, hc2⟩ := hy.cell k hlt
      have hd1 : wr.cell? ⟨bk, off + k, none⟩ = some (.int .i64 (xs.getD k 0)) := by rw [hn]; exact hc1
      have hd2 : wr.cell? ⟨bk2, off2 + k, none⟩ = some (.int .i64 (xs.getD k 0)) := by rw [hn]; exact hc2
      clear hc1 hc2 hn
      have HX := Lib.hid hx
      have HY := Lib.hid hy
      clear hx hy
      generalize xs.getD k 0 = a at hd1 hd2
      go_wp2
      go_region
      go_wp2
      go_roundw
      case rel => exact ⟨k + 1, by omega, by go_num, n + 1, by rw [HO.out, drewN_drew]⟩
      case measure => simp [intOf]; omega
    · obtain rfl : k = xs.length := by omega
      clear hn
      go_wp2
      go_ret
      exact ⟨rfl, n, HO.out⟩
end Go.Proofs.Ytlpccebackmahaa

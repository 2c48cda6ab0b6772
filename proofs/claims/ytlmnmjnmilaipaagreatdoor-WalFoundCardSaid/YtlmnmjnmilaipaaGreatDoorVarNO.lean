/- varint.Num: a range over its own iterator. (After the kit's worked texts over iterators.) -/
import Derived.RangeFuncBox
import Derived.RangeFuncLeaves
import Derived.RangeFuncGives
import Derived.Shelf.Abstract
import Derived.WalkKit
import Derived.OwnWalkIn
import Derived.TacticsInMore
import Derived.LoopNIn
import Derived.LoopIn
import Derived.Maps.AppendAt
import Derived.Lib.Hide
import Derived.Test.YtlmnmjnmilaipaaGreatDoorProg
import Derived.Test.YtlmnmjnmilaipaaGreatDoorWalPl
import Derived.Laws.BytesArg
import Derived.Laws.OwnMore
set_option linter.unusedVariables false
set_option linter.unusedSimpArgs false
namespace Go.Proofs.YtlmnmjnmilaipaaGreatDoor
open Go.RowKit Go.Shelf Go.Maps Go.Proofs

attribute [local go_sem] Oper.semAt_some

def digs (u : Nat) : List Int := (numD u).map fun b => (b.toNat : Int)
theorem digs_small {u : Nat} (h : u < 128) : digs u = [(u : Int)] := by
  unfold digs; rw [numD_small h, List.map_singleton, toNat_ofNat (by omega)]
theorem digs_big {u : Nat} (h : ¬ u < 128) : digs u = ((u % 128 + 128 : Nat) : Int) :: digs (u / 128) := by
  unfold digs; rw [numD_big h, List.map_cons, toNat_ofNat (by omega)]
def boxU (W : World) (Bu : Nat) (u : Nat) : Prop := W.heap[Bu]? = some (.cells #[.int .u64 (u : Int)] 146 (0, 0))
theorem boxU.cell {W : World} {Bu u : Nat} (h : boxU W Bu u) : W.cell? ⟨Bu, 0, none⟩ = some (.int .u64 (u : Int)) := by unfold boxU at h; simp [World.cell?, h]
theorem boxU.frozen {W : World} {Bu u : Nat} (h : boxU W Bu u) : W.frozen? ⟨Bu, 0, none⟩ = false := by unfold boxU at h; simp [World.frozen?, h]
def leftU (Bu : Nat) (W : World) : Nat := match W.cell? ⟨Bu, 0, none⟩ with
  | some (.int _ z) => z.toNat
  | _ => 0
theorem leftU_of {W : World} {Bu u : Nat} (h : boxU W Bu u) : leftU Bu W = u := by unfold leftU; rw [h.cell]; simp
theorem or_all : ∀ n : Nat, n < 256 → bits BinOp.or IntKind.u8 (n : Int) 128 = ((n % 128 + 128 : Nat) : Int) := by decide +kernel
theorem or_u (u : Nat) : bits BinOp.or IntKind.u8 ((u : Int) % 256) 128 = ((u % 128 + 128 : Nat) : Int) := by
  have h := or_all (u % 256) (Nat.mod_lt _ (by omega))
  rw [show u % 256 % 128 = u % 128 by omega] at h
  exact h
set_option maxRecDepth 100000 in
set_option maxHeartbeats 2000000 in
theorem digits1_in (F : Fence) (n : Nat) (hf : F.fn 118) (hro : F.round = none) (hn : 1 ≤ n) (l Bu : Nat) (J : List Int → Nat → World → Prop)
    (hJ : ∀ pre u W, J pre u W → boxU W Bu u)
    (hS : ∀ pre u (u' : Nat) W, J pre u W → J pre u' (W.setCell ⟨Bu, 0, none⟩ (.int .u64 (u' : Int))))
    (hY : ∀ pre u (b : Nat) W, b < 256 → J pre u W → pre.length < 10 → YieldAt F (n - 1) Tryz.prog l #[.int .u8 (b : Int)] W fun e W' => e = .returned (.bool true) ∧ J (pre ++ [(b : Int)]) u W')
    (u0 : Nat) (hu : u0 < 18446744073709551616) (W : World) (h0 : J [] u0 W) :
    CallsIn F n Tryz.prog 118 #[.func (.yield l) #[] #[], .pointer (some ⟨Bu, 0, none⟩)] W fun e W' => (∃ v, e = .returned v) ∧ ∃ u, J (digs u0) u W' := by
  refine callsIn_of_wp Tryz.func118 rfl hf ?_ hro
  simp only [Tryz.ntmps118, List.size_toArray, List.length_cons, List.length_nil, Nat.reduceAdd, Nat.reduceSub, Array.replicate_succ, Array.replicate_zero, List.push_toArray, List.append_toArray, List.nil_append, List.cons_append]
  have hlen : ∀ k u, u < 128 ^ (k + 1) → (digs u).length ≤ k + 1 := fun k u h => by unfold digs; rw [List.length_map]; exact numD_len k u h
  gi_wp2
  gi_loopw [] (fun wr => ∃ pre u, J pre u wr ∧ pre ++ digs u = digs u0 ∧ u * 128 ^ pre.length ≤ u0) (fun wr => leftU Bu wr)
  case atStart => exact ⟨[], u0, h0, rfl, by simp⟩
  case round =>
    obtain ⟨pre, u, hj, hpre, hle⟩ := hrel
    have hb := hJ _ _ _ hj
    have hc := hb.cell
    have hfz := hb.frozen
    have hp10 : pre.length < 10 := by
      have h1 := hlen 9 u0 (by have : (128 : Nat) ^ (9 + 1) = 1180591620717411303424 := by decide
                               omega)
      rw [← hpre, List.length_append] at h1
      have h2 : 0 < (digs u).length := List.length_pos_iff.2 (by unfold digs; simp [numD_ne])
      omega
    by_cases hlt : u < 128
    · have hg1 : ¬ (128 : Int) ≤ (u : Int) := by omega
      obtain ⟨fn, tmps, assign, body, hy, hR⟩ := hY pre u u wr (by omega) hj hp10
      have hm : (u : Int) % 256 = (u : Int) := by omega
      gi_wp2
      refine hR.mono ?_
      rintro e W3 ⟨rfl, hj3⟩
      gi_wp2
      go_end0
      refine ⟨⟨_, rfl⟩, u, ?_⟩
      rw [← hpre, digs_small hlt]
      exact hj3
    · have hg1 : (128 : Int) ≤ (u : Int) := by omega
      have hor := or_u u
      obtain ⟨fn, tmps, assign, body, hy, hR⟩ := hY pre u (u % 128 + 128) wr (by omega) hj hp10
      generalize hbv : ((u % 128 + 128 : Nat) : Int) = bv at *
      gi_wp2
      refine hR.mono ?_
      rintro e W3 ⟨rfl, hj3⟩
      have hb3 := hJ _ _ _ hj3
      have hc3 := hb3.cell
      have hf3 := hb3.frozen
      gi_wp2
      have hj4 := hS _ u (u / 128) W3 hj3
      have ecast : ((u / 128 : Nat) : Int) = (u : Int) / 128 := rfl
      rw [ecast] at hj4
      have hb4 := hJ _ _ _ hj4
      refine ⟨⟨pre ++ [bv], u / 128, hj4, ?_, ?_⟩, ?_⟩
      · rw [← hpre, digs_big hlt, ← hbv, List.append_assoc]; rfl
      · rw [List.length_append, List.length_singleton, Nat.pow_succ, Nat.mul_comm (128 ^ pre.length) 128, ← Nat.mul_assoc]
        exact Nat.le_trans (Nat.mul_le_mul_right _ (Nat.div_mul_le_self u 128)) hle
      · rw [leftU_of hb4, leftU_of hb]
        exact Nat.div_lt_self (by omega) (by omega)
end Go.Proofs.YtlmnmjnmilaipaaGreatDoor
/- varint.Num walked. -/
set_option linter.unusedVariables false
set_option linter.unusedSimpArgs false
namespace Go.Proofs.YtlmnmjnmilaipaaGreatDoor
open Go.RowKit Go.Shelf Go.Maps Go.Proofs

attribute [local go_sem] Oper.semAt_some

theorem xor0 (m : Nat) (h : m < 4611686018427387904) : bits BinOp.xor IntKind.u64 ((m : Int) * 2) 0 = ((2 * m : Nat) : Int) := by
  show IntKind.u64.wrap (((BitVec.ofInt 64 ((m : Int) * 2) ^^^ BitVec.ofInt 64 0).toNat : Nat) : Int) = _
  rw [show BitVec.ofInt 64 0 = 0#64 from rfl, BitVec.xor_zero, BitVec.toNat_ofInt]
  show ((((m : Int) * 2 % 18446744073709551616).toNat : Nat) : Int) % 18446744073709551616 = _
  omega
theorem digits_any (u : Nat) (z : Int) (hz : z = (u : Int)) (w : World) : Calls Tryz.prog 96 #[.int .u64 z] w fun e w' => e = .returned (.func (.func 118) #[] #[.pointer (some ⟨w.heap.size, 0, none⟩)]) ∧ w' = w.alloc (.cells #[.int .u64 (u : Int)] 146) := by
  subst hz
  go_enter Tryz.func96, Tryz.ntmps96
  go_wp2
  go_ret
  exact ⟨rfl, rfl⟩
theorem str_digs (u : Nat) : strOfNums (digs u) = ⟨(numD u).toArray⟩ := by
  unfold strOfNums digs
  congr 2
  rw [List.map_map]
  have : ((fun n : Int => UInt8.ofNat n.toNat) ∘ fun b : UInt8 => (b.toNat : Int)) = id := by
    funext b
    simp
  rw [this, List.map_id]
theorem nu_putObj (W : World) (l : Nat) (o : Obj) : W.grownBy (W.putObj l o) (some l) :=
  ⟨rfl, rfl, rfl, by simp, fun k _ hk => World.putObj_heap_other (fun e => hk (by rw [e]))⟩
theorem nu_setCell (W : World) (b : Nat) (v : Value) : W.grownBy (W.setCell ⟨b, 0, none⟩ v) (some b) :=
  ⟨rfl, rfl, rfl, (KeepsWalks.setCell W _ v).size, fun k _ hk => Below.heap_setCell _ _ _ k (fun e => hk (by rw [e]))⟩
theorem nu_ne {W : World} {base : Nat} {e : TypeId} {size : Nat} {v : Value} {k : Nat} {xs : List Value} (h : W.ownsRow base e size v k xs) {j : Nat} {o : Obj} (hj : W.heap[j]? = some o) (hno : ∀ cur, o ≠ .cells cur e (0, 0)) :
    v.ownBlock = none ∨ v.ownBlock ≠ some j := by
  rcases h.2 with ⟨rfl, _⟩ | ⟨g, cap, cur, rfl, _, hgb, _⟩
  · exact .inl rfl
  · refine .inr fun e' => ?_
    have : g = j := by simpa [Value.ownBlock] using e'
    subst this; rw [hgb] at hj; cases hj; exact hno cur rfl
theorem nu_cell {W : World} {B : Nat} {v : Value} {t : TypeId} (h : W.heap[B]? = some (.cells #[v] t (0, 0))) : W.cell? ⟨B, 0, none⟩ = some v ∧ W.frozen? ⟨B, 0, none⟩ = false := by
  constructor <;> simp [World.cell?, World.frozen?, h]
theorem nu_set {W : World} {B : Nat} {v : Value} {t : TypeId} (v' : Value) (h : W.heap[B]? = some (.cells #[v] t (0, 0))) : (W.setCell ⟨B, 0, none⟩ v').heap[B]? = some (.cells #[v'] t (0, 0)) := by
  obtain ⟨hlt, hk⟩ := Array.getElem?_eq_some_iff.1 h
  show (W.heap.modify B _)[B]? = _
  rw [Array.getElem?_eq_getElem (by rw [Array.size_modify]; exact hlt), Array.getElem_modify_self, hk]
  rfl
def nuAssign : Code := (Code.region 3 #[{ dst := some 4, op := Op.assign (Operand.tmp 13), type := 5, pos := "varint.go:27", after := #[], guard := none }] false)
def nuBody : Code := (Code.block 1 (Code.region 4 #[{ dst := some 14, op := Op.load 36 (Operand.tmp 3), type := 36, pos := "varint.go:28", after := #[], guard := none }, { dst := some 15, op := Op.move (Operand.tmp 4), type := 5, pos := "varint.go:28", after := #[], guard := none }, { dst := some 16, op := Op.buildSlice 36 1 #[(0, Operand.tmp 15)], type := 36, pos := "varint.go:28", after := #[{ on := 1, ground := Ground.data }], guard := none }, { dst := some 17, op := Op.call { callee := Callee.builtin Builtin.append, args := #[Operand.tmp 14, Operand.tmp 16], argTypes := #[36, 36] }, type := 36, pos := "varint.go:28", after := #[{ on := 0, ground := Ground.data }, { on := 2, ground := Ground.data }], guard := none }, { dst := none, op := Op.store 36 (Operand.tmp 3) (Operand.tmp 17), type := 0, pos := "varint.go:28", after := #[{ on := 3, ground := Ground.data }, { on := 3, ground := Ground.chain }, { on := 0, ground := Ground.phase }, { on := 1, ground := Ground.phase }, { on := 2, ground := Ground.phase }, { on := 3, ground := Ground.phase }], guard := none }] false))
/-- Num's temporaries where the loop begins; slot 13: what the iterator gives. -/
def nuT (m Bo : Nat) (sv x : Value) : Array Value := #[.int .i64 (m : Int), undef, .string ⟨#[]⟩, .pointer (some ⟨Bo, 0, none⟩), undef, .int .i64 (m : Int), .int .u64 (m : Int), .int .u64 ((m : Int) * 2), .int .i64 (m : Int), .int .i64 0, .int .u64 0, .int .u64 (2 * (m : Int)), sv, x, undef, undef, undef, undef, undef, undef]
def nuRec (fn : FuncId) (m Bo : Nat) (sv : Value) (D : Nat) (st : LoopState) (pend : Option Code) : Loop :=
  { state := st, pending := pend, fn, tmps := nuT m Bo sv undef, params := #[13], assign := nuAssign, body := nuBody, defers := D }
def enc8 (z : Int) : Value := .int .u8 z
/-- Between two rounds. -/
structure NuAt (w0 : World) (fn : FuncId) (m : Nat) (sv : Value) (Bo Bu l D : Nat) (ss : List Int) (u : Nat) (W : World) : Prop where
  box : ∃ v, W.heap[Bo]? = some (.cells #[v] 36 (0, 0)) ∧ W.ownsRow w0.heap.size 5 1 v ss.length (ss.map enc8)
  L : W.heap[l]? = some (.loop (nuRec fn m Bo sv D .ready none))
  K : W.heap[D]? = some (.deferred (some []))
  U : boxU W Bu u
  below : Below w0.heap.size w0 W
theorem info8 : (Tryz.prog.info? 5).map (fun i => (i.zero, i.size, i.bytes)) = some (some (.int .u8 0), 1, 1) := by kernel_rfl
set_option maxRecDepth 100000 in
set_option maxHeartbeats 2000000 in
theorem nuYield (F : Fence) (n : Nat) (w0 : World) (fn : FuncId) (hfn : F.fn fn) (m : Nat) (sv : Value) (Bo Bu l D : Nat) (hBl : Bo ≠ l) (hDl : D ≠ l) (hDB : D ≠ Bo) (hUl : Bu ≠ l) (hUB : Bu ≠ Bo) (h0B : w0.heap.size ≤ Bo) (h0l : w0.heap.size ≤ l)
    (ss : List Int) (u : Nat) (x : Nat) (W : World) (h : NuAt w0 fn m sv Bo Bu l D ss u W) (hlen : ss.length < 10) :
    YieldAt F n Tryz.prog l #[.int .u8 (x : Int)] W fun e W' => e = .returned (.bool true) ∧ NuAt w0 fn m sv Bo Bu l D (ss ++ [(x : Int)]) u W' := by
  obtain ⟨i0, hi, hz0, hz1, hz2⟩ := info_parts info8
  obtain ⟨v, hv, hrow⟩ := h.box
  refine ⟨fn, nuT m Bo sv (.int .u8 (x : Int)), nuAssign, nuBody, by simpa [nuRec, nuT] using run_yield (P := Tryz.prog) (args := #[.int .u8 (x : Int)]) h.L rfl, roundIn_of_wpIn hfn ?_⟩
  have hl : l < W.heap.size := (Array.getElem?_eq_some_iff.1 h.L).1
  have hbr := run_beginRound (P := Tryz.prog) h.L rfl
  obtain ⟨W2, hW2⟩ : ∃ W2, W.putObj l (.loop { nuRec fn m Bo sv D .ready none with state := .busy }) = W2 := ⟨_, rfl⟩
  rw [hW2] at hbr
  have hg2 : W.grownBy W2 (some l) := by rw [← hW2]; exact nu_putObj _ _ _
  have hv2 : W2.heap[Bo]? = some (.cells #[v] 36 (0, 0)) := by rw [← hW2]; exact (World.putObj_heap_other hBl).trans hv
  have hU2 : W2.heap[Bu]? = some (.cells #[.int .u64 (u : Int)] 146 (0, 0)) := by rw [← hW2]; exact (World.putObj_heap_other hUl).trans h.U
  have hK2 : W2.heap[D]? = some (.deferred (some [])) := by rw [← hW2]; exact (World.putObj_heap_other hDl).trans h.K
  have hL2 : W2.heap[l]? = some (.loop { nuRec fn m Bo sv D .ready none with state := .busy }) := by rw [← hW2]; exact World.putObj_heap_same hl
  have hrow2 : W2.ownsRow w0.heap.size 5 1 v ss.length (ss.map enc8) := hrow.kept hg2 (nu_ne hrow h.L (fun cur e => by cases e))
  have hb2 : Below w0.heap.size w0 W2 := h.below.grown hg2 h.below.size (fun k e => by cases e; exact h0l)
  obtain ⟨hc2, hf2⟩ := nu_cell hv2
  have hBlt : Bo < W2.heap.size := (Array.getElem?_eq_some_iff.1 hv2).1
  have hUlt : Bu < W2.heap.size := (Array.getElem?_eq_some_iff.1 hU2).1
  have hl2 : l < W2.heap.size := (Array.getElem?_eq_some_iff.1 hL2).1
  have hDlt : D < W2.heap.size := (Array.getElem?_eq_some_iff.1 hK2).1
  have ne_of : ∀ {j : Nat} {o : Obj}, W2.heap[j]? = some o → (∀ cur, o ≠ .cells cur 5 (0, 0)) → some j ≠ v.ownBlock := fun hj hno => by
    rcases nu_ne hrow2 hj hno with e | e
    · rw [e]; simp
    · exact fun e' => e e'.symm
  clear hW2
  unfold nuAssign nuT
  gi_wp2
  unfold nuBody
  gi_wp2_with (gi_at_builtin; go_loud (refine wpListIn_append_own _ rfl _ _ 36 rfl w0.heap.size 5 i0 (.int .u8 0) 1 1 Tryz.underlying36 hi hz0 hz1 hz2 rfl (by decide) _ _ _ rfl (hrow2.alloc _) ⟨W2.heap.size, 0, none⟩ 1 1 [.int .u8 (x : Int)] rfl rfl (cell_one_new _ _ _) (by simp [Value.oneCell']) (by first | omega | (unfold maxLen; omega)) (by first | omega | (unfold maxLen; omega)) (by have := hb2.size; simp; omega) ?_; intro v' w3 hown' hg3 hnil3; obtain ⟨g', cap', rfl⟩ := ownsRow_succ hown'; have hv3 : w3.heap[Bo]? = some (.cells #[v] 36 (0, 0)) := (hg3.block Bo (by simp; omega) (ne_of hv2 (fun cur e => by cases e))).trans ((Below.heap_alloc _ _ Bo hBlt).trans hv2); obtain ⟨hc3, hf3⟩ := nu_cell hv3))
  have hg3' : (W2.alloc (.cells #[.int .u8 (x : Int)] 5)).grownBy w3 v.ownBlock := hg3
  have hL3 : w3.heap[l]? = some (.loop { nuRec fn m Bo sv D .ready none with state := .busy }) := (hg3'.block l (by simp; omega) (ne_of hL2 (fun cur e => by cases e))).trans ((Below.heap_alloc _ _ l hl2).trans hL2)
  have hK3 : w3.heap[D]? = some (.deferred (some [])) := (hg3'.block D (by simp; omega) (ne_of hK2 (fun cur e => by cases e))).trans ((Below.heap_alloc _ _ D hDlt).trans hK2)
  have hU3 : w3.heap[Bu]? = some (.cells #[.int .u64 (u : Int)] 146 (0, 0)) := (hg3'.block Bu (by simp; omega) (ne_of hU2 (fun cur e => by cases e))).trans ((Below.heap_alloc _ _ Bu hUlt).trans hU2)
  obtain ⟨w4, hw4⟩ : ∃ w4, w3.setCell ⟨Bo, 0, none⟩ (.slice (some ⟨g', 0, none⟩) (ss.length + 1) cap') = w4 := ⟨_, rfl⟩
  rw [hw4]
  have hg4 : w3.grownBy w4 (some Bo) := by rw [← hw4]; exact nu_setCell _ _ _
  have hv4 : w4.heap[Bo]? = some (.cells #[.slice (some ⟨g', 0, none⟩) (ss.length + 1) cap'] 36 (0, 0)) := by rw [← hw4]; exact nu_set _ hv3
  have hL4 : w4.heap[l]? = some (.loop { nuRec fn m Bo sv D .ready none with state := .busy }) := (hg4.block l (Array.getElem?_eq_some_iff.1 hL3).1 (fun e => hBl (by cases e; rfl))).trans hL3
  have hK4 : w4.heap[D]? = some (.deferred (some [])) := (hg4.block D (Array.getElem?_eq_some_iff.1 hK3).1 (fun e => hDB (by cases e; rfl))).trans hK3
  have hU4 : w4.heap[Bu]? = some (.cells #[.int .u64 (u : Int)] 146 (0, 0)) := (hg4.block Bu (Array.getElem?_eq_some_iff.1 hU3).1 (fun e => hUB (by cases e; rfl))).trans hU3
  have hrow4 := hown'.kept hg4 (nu_ne hown' hv3 (fun cur e => by cases e))
  have hl4 : l < w4.heap.size := (Array.getElem?_eq_some_iff.1 hL4).1
  have hb3 : Below w0.heap.size w0 w3 := (hb2.alloc hb2.size _).grown hg3' (by have := hb2.size; simp; omega) (fun k e => (hrow2.lt k e).1)
  have hb4 : Below w0.heap.size w0 w4 := hb3.grown hg4 hb3.size (fun k e => by cases e; exact h0B)
  clear hw4
  refine ⟨_, _, run_endRound none hL4, rfl, ⟨⟨_, (World.putObj_heap_other hBl).trans hv4, ?_⟩, World.putObj_heap_same hl4, (World.putObj_heap_other hDl).trans hK4, (World.putObj_heap_other hUl).trans hU4, hb4.grown (nu_putObj _ _ _) hb4.size (fun k e => by cases e; exact h0l)⟩⟩
  have := hrow4.kept (nu_putObj w4 l (.loop { { nuRec fn m Bo sv D .ready none with state := .busy } with state := if (none : Option Code).isNone then .ready else .done, pending := none })) (nu_ne hrow4 hL4 (fun cur e => by cases e))
  simpa [enc8] using this
theorem NuAt.set {w0 : World} {fn : FuncId} {m : Nat} {sv : Value} {Bo Bu l D : Nat} {ss : List Int} {u : Nat} {W : World} (h : NuAt w0 fn m sv Bo Bu l D ss u W) (hUl : Bu ≠ l) (hUB : Bu ≠ Bo) (hUD : Bu ≠ D) (h0U : w0.heap.size ≤ Bu) (u' : Nat) :
    NuAt w0 fn m sv Bo Bu l D ss u' (W.setCell ⟨Bu, 0, none⟩ (.int .u64 (u' : Int))) := by
  obtain ⟨v, hv, hrow⟩ := h.box
  have hg := nu_setCell W Bu (.int .u64 (u' : Int))
  have lt := fun {k : Nat} {o : Obj} (hk : W.heap[k]? = some o) => (Array.getElem?_eq_some_iff.1 hk).1
  exact ⟨⟨v, (hg.block Bo (lt hv) (fun e => hUB (by cases e; rfl))).trans hv, hrow.kept hg (nu_ne hrow h.U (fun cur e => by cases e))⟩,
    (hg.block l (lt h.L) (fun e => hUl (by cases e; rfl))).trans h.L, (hg.block D (lt h.K) (fun e => hUD (by cases e; rfl))).trans h.K, nu_set _ h.U, h.below.grown hg h.below.size (fun k e => by cases e; exact h0U)⟩
set_option maxRecDepth 100000 in
set_option maxHeartbeats 2000000 in
theorem num_in (n : Nat) (hn : 3 ≤ n) (m : Nat) (hm : m < 4611686018427387904) (w : World) :
    CallsIn Fence.wide n Tryz.prog 69 #[.int .i64 (m : Int)] w fun e w' => e = .returned (.string ⟨(numD (2 * m)).toArray⟩) ∧ Below w.heap.size w w' := by
  have h1 : 1 ≤ n := by omega
  have hdiv : (m : Int) / 9223372036854775808 = 0 := by omega
  have hxor := xor0 m hm
  have hro : Fence.wide.round = none := rfl
  refine callsIn_of_wp_marks Tryz.func69 rfl trivial ?_ hro
  simp only [Tryz.ntmps69, List.size_toArray, List.length_cons, List.length_nil, Nat.reduceAdd, Nat.reduceSub, Array.replicate_succ, Array.replicate_zero, List.push_toArray, List.append_toArray, List.nil_append, List.cons_append]
  gi_wp2_with (refine ⟨trivial, ?_⟩; gi_at_call 96; refine (callsIn_wide.2 (digits_any (2 * m) _ (by omega) _)).mono ?_; rintro e w1 ⟨rfl, rfl⟩)
  refine wpIn_rangeFunc ?_
  intro fn hfn
  rw [hro]
  obtain ⟨W0, hW0⟩ : ∃ W0, (w.alloc (.cells #[.slice none 0 0] 36)).alloc (.cells #[.int .u64 (2 * (m : Int))] 146) = W0 := ⟨_, rfl⟩
  have hs0 : W0.heap.size = w.heap.size + 2 := by rw [← hW0]; simp
  have hv0 : W0.heap[w.heap.size]? = some (.cells #[.slice none 0 0] 36 (0, 0)) := by rw [← hW0]; exact (Below.heap_alloc _ _ _ (by simp)).trans (World.alloc_heap_new w _)
  have hu0 : W0.heap[w.heap.size + 1]? = some (.cells #[.int .u64 ((2 * m : Nat) : Int)] 146 (0, 0)) := by rw [← hW0]; have := World.alloc_heap_new (w.alloc (.cells #[.slice none 0 0] 36)) (.cells #[.int .u64 (2 * (m : Int))] 146); rwa [World.size_alloc] at this
  have hb0 : Below w.heap.size w W0 := by rw [← hW0]; exact ((Below.refl _ w).alloc (Nat.le_refl _) _).alloc (by simp) _
  rw [hW0]
  obtain ⟨SV, hSV⟩ : ∃ SV : Value, SV = .func (.func 118) #[] #[.pointer (some ⟨w.heap.size + 1, 0, none⟩)] := ⟨_, rfl⟩
  obtain ⟨W1, hW1⟩ : ∃ W1, (W0.alloc (.deferred (some []))).alloc (.loop (nuRec fn m w.heap.size SV W0.heap.size .ready none)) = W1 := ⟨_, rfl⟩
  have hold : ∀ k, k < W0.heap.size → W1.heap[k]? = W0.heap[k]? := fun k hk => by
    rw [← hW1]; exact (Below.heap_alloc _ _ k (by simp; omega)).trans (Below.heap_alloc _ _ k hk)
  have hb1 : Below w.heap.size w W1 := by rw [← hW1]; exact (hb0.alloc hb0.size _).alloc (by have := hb0.size; simp; omega) _
  have hM : NuAt w fn m SV w.heap.size (w.heap.size + 1) (W0.heap.size + 1) W0.heap.size [] (2 * m) W1 :=
    ⟨⟨_, (hold w.heap.size (by omega)).trans hv0, ⟨rfl, .inl ⟨rfl, rfl⟩⟩⟩,
     by rw [← hW1]; have := World.alloc_heap_new (W0.alloc (.deferred (some []))) (.loop (nuRec fn m w.heap.size SV W0.heap.size .ready none)); rwa [World.size_alloc] at this,
     by rw [← hW1]; exact (Below.heap_alloc _ _ _ (by simp)).trans (World.alloc_heap_new W0 _), (hold _ (by omega)).trans hu0, hb1⟩
  refine ⟨W0.heap.size + 1, [{ target := .collected W0.heap.size, args := #[] }], W1, { target := .fn (.func 118) #[.pointer (some ⟨w.heap.size + 1, 0, none⟩)], args := #[.func (.yield (W0.heap.size + 1)) #[] #[]] }, W1, 118,
    #[.func (.yield (W0.heap.size + 1)) #[] #[]] ++ #[.pointer (some ⟨w.heap.size + 1, 0, none⟩)], W1, ?_, ?_, ?_, ?_, fun _ => h1, ?_⟩
  · rw [← hW1, hSV]; exact run_enterLoop_outer _ _ _ _ _
  · simp [resolve, go_sem]
  · intro f' hf'; trivial
  · simp [invoke, go_sem, enters_of Tryz.func118 (by kernel_rfl) rfl]
  · refine (digits1_in Fence.wide (n - 1) trivial rfl (by omega) (W0.heap.size + 1) (w.heap.size + 1) (fun ss u W => NuAt w fn m SV w.heap.size (w.heap.size + 1) (W0.heap.size + 1) W0.heap.size ss u W)
      (fun pre u W hj => hj.U) (fun pre u u' W hj => hj.set (by omega) (by omega) (by omega) (by omega) u')
      (fun pre u b W hb hj hl => nuYield Fence.wide (n - 1 - 1) w fn hfn m SV w.heap.size (w.heap.size + 1) (W0.heap.size + 1) W0.heap.size (by omega) (by omega) (by omega) (by omega) (by omega) (Nat.le_refl _) (by omega) pre u b W hj hl) (2 * m) (by omega) W1 hM).mono ?_
    rintro e W2 ⟨⟨v0, rfl⟩, u, h2⟩
    obtain ⟨v, hv, hrow⟩ := h2.box
    have hend := run_endLoop (P := Tryz.prog) h2.L (by simp [nuRec])
    obtain ⟨W3, hW3⟩ : ∃ W3, W2.putObj (W0.heap.size + 1) (.loop { nuRec fn m w.heap.size SV W0.heap.size .ready none with state := .exhausted }) = W3 := ⟨_, rfl⟩
    rw [hW3] at hend
    have hg3 : W2.grownBy W3 (some (W0.heap.size + 1)) := by rw [← hW3]; exact nu_putObj _ _ _
    have hv3 : W3.heap[w.heap.size]? = some (.cells #[v] 36 (0, 0)) := by rw [← hW3]; exact (World.putObj_heap_other (by omega)).trans hv
    have hK3 : W3.heap[W0.heap.size]? = some (.deferred (some [])) := by rw [← hW3]; exact (World.putObj_heap_other (by omega)).trans h2.K
    have hrow3 := hrow.kept hg3 (nu_ne hrow h2.L (fun cur e => by cases e))
    have hb3 : Below w.heap.size w W3 := h2.below.grown hg3 h2.below.size (fun k e => by cases e; omega)
    obtain ⟨hc3, hf3⟩ := nu_cell hv3
    clear hW3
    refine ⟨none, W3, hend, ?_⟩
    have hdl : 0 < (digs (2 * m)).length := List.length_pos_iff.2 (by unfold digs; simp [numD_ne])
    obtain ⟨k', hk'⟩ : ∃ k', (digs (2 * m)).length = k' + 1 := ⟨(digs (2 * m)).length - 1, by omega⟩
    rw [hk'] at hrow3
    obtain ⟨g', cap', rfl⟩ := ownsRow_succ hrow3
    have hconv : (convert 36 9 (.slice (some ⟨g', 0, none⟩) (k' + 1) cap')).run Tryz.prog W3 = .ok (.string (strOfNums (digs (2 * m)))) W3 :=
      run_convert_bytes_arg W3 36 5 Tryz.underlying36 Tryz.underlying5 g' 0 (k' + 1) cap' (digs (2 * m)) hk' (fun i hi => by
        have h := hrow3.cellAt i (by omega)
        rw [Nat.zero_add, h]
        simp [enc8, List.getD_eq_getElem?_getD, show i < (digs (2 * m)).length from by omega]) 9 Tryz.underlying9
    gi_wp2
    rw [← hs0]
    refine ⟨by simp, .inl ⟨_, _, rfl, run_takeDeferred hK3, ?_⟩⟩
    exact ⟨_, results_tmp rfl _ _ _, by rw [str_digs]; rfl, hb3.grown (nu_putObj _ _ _) hb3.size (fun k e => by cases e; omega)⟩
theorem num_any (m : Nat) (hm : m < 4611686018427387904) (w : World) :
    Calls Tryz.prog 69 #[.int .i64 (m : Int)] w fun e w' => e = .returned (.string ⟨(numD (2 * m)).toArray⟩) ∧ Below w.heap.size w w' :=
  callsIn_wide.1 (num_in 3 (by omega) m hm w)
end Go.Proofs.YtlmnmjnmilaipaaGreatDoor

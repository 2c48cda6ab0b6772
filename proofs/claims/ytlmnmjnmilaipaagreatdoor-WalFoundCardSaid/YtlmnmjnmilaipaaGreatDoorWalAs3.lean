/- errors.As at a *failure: through the wraps of package wal. (After the kit's worked example of errors.As.) -/
import Derived.Test.YtlmnmjnmilaipaaGreatDoorProg
import Derived.WalkKit
import Derived.LaidEql
import Derived.Stop.Asserts
import Derived.RowKitTokens
import Derived.Test.YtlmnmjnmilaipaaGreatDoorOnly
import Derived.LoopN
import Derived.Lib.Hide
set_option linter.unusedVariables false
namespace Go.Proofs.YtlmnmjnmilaipaaGreatDoor
open Go.RowKit Go.Extern.Stop Go.Stop Go.Extern

theorem as_nil (t : Value) (w : World) :
    Calls Tryz.prog 67 #[.nilIface, t] w fun e w' => e = .returned (.bool false) ∧ w' = w := by
  go_enter Tryz.func67, Tryz.ntmps67
  go_wp2
  go_ret
  exact ⟨rfl, rfl⟩
/-! ### facts on the model's entries: 113: *failure, 111: failure, 75: doing, 65: error, 160: rtype -/
theorem vp (t : Addr) (w : World) : (ReflectliteValue.unpack (.iface 113 (.pointer (some t)))).run Tryz.prog w
    = .ok (.agg #[.pointer (some ⟨1, 113, none⟩), .pointer (some ⟨w.heap.size, 0, none⟩), .int .u64 150]) (w.alloc (.cells #[.pointer (some t)] 113)) := by kernel_rfl
theorem tp (a : Addr) (w : World) : (ReflectliteValue.methodAny (ReflectliteValue.valueError "reflectlite.Value.Type" 0) (fun t _ _ _ => ReflectliteType.toType t) #[.agg #[.pointer (some ⟨1, 113, none⟩), .pointer (some a), .int .u64 150]]).run Tryz.prog w
    = .ok (.iface 160 (.agg #[.pointer (some ⟨1, 113, none⟩)])) w := by kernel_rfl
theorem mKind (h : Value) (w : World) : (Go.method 334 160 (.agg #[h]) "Kind").run Tryz.prog w = .ok (160, h) w := by kernel_rfl
theorem kindP (w : World) : ((ReflectliteType.abiMethod fun t => (fun a : Nat => Value.int IntKind.u8 (a : Int)) <$> Rtype.kind t) #[.pointer (some ⟨1, 113, none⟩)]).run Tryz.prog w = .ok (.int .u8 22) w := by kernel_rfl
theorem kindF (w : World) : ((ReflectliteType.abiMethod fun t => (fun a : Nat => Value.int IntKind.u8 (a : Int)) <$> Rtype.kind t) #[.pointer (some ⟨1, 111, none⟩)]).run Tryz.prog w = .ok (.int .u8 2) w := by kernel_rfl
theorem rlm (z : Sem Value) (f : TypeId → Addr → Nat → Nat → Sem Value) (v : Value) :
    ReflectliteValue.method z f #[v] = (do match ← ReflectliteValue.parts v with | none => z | some (t, a, fl) => f t a fl (fl % 32)) := rfl
theorem partsP (a : Addr) (w : World) : (ReflectliteValue.parts (.agg #[.pointer (some ⟨1, 113, none⟩), .pointer (some a), .int .u64 150])).run Tryz.prog w = .ok (some (113, a, 150)) w := by kernel_rfl
theorem isNilP (a p : Addr) (W : World) (ha : W.cell? a = some (.pointer (some p))) :
    (ReflectliteValue.method (ReflectliteValue.valueError "reflectlite.Value.IsNil" 0) ReflectliteValue.isNil #[.agg #[.pointer (some ⟨1, 113, none⟩), .pointer (some a), .int .u64 150]]).run Tryz.prog W = .ok (.bool false) W := by
  rw [rlm]
  simp only [Sem.run_bind, partsP, Result.andThen]
  simp [ReflectliteValue.isNil, loadVar, isAgg, underlying, Tryz.underlying113, ha, Result.andThen]
theorem mElem (h : Value) (w : World) : (Go.method 334 160 (.agg #[h]) "Elem").run Tryz.prog w = .ok (172, .agg #[h]) w := by kernel_rfl
theorem mImpl (h : Value) (w : World) : (Go.method 334 160 (.agg #[h]) "Implements").run Tryz.prog w = .ok (173, .agg #[h]) w := by kernel_rfl
theorem mAssg (h : Value) (w : World) : (Go.method 334 160 (.agg #[h]) "AssignableTo").run Tryz.prog w = .ok (170, .agg #[h]) w := by kernel_rfl
theorem elemT (w : World) : (ReflectliteType.method ReflectliteType.elem #[.agg #[.pointer (some ⟨1, 113, none⟩)]]).run Tryz.prog w = .ok (.iface 160 (.agg #[.pointer (some ⟨1, 111, none⟩)])) w := by kernel_rfl
theorem implF (w : World) : (ReflectliteType.relation "Implements" ReflectliteType.implements_ #[.agg #[.pointer (some ⟨1, 111, none⟩)], .iface 160 (.agg #[.pointer (some ⟨1, 65, none⟩)])]).run Tryz.prog w = .ok (.bool true) w := by kernel_rfl
theorem typeOfF (v : Value) (w : World) : (ReflectliteType.typeOf #[.iface 111 v]).run Tryz.prog w = .ok (.iface 160 (.agg #[.pointer (some ⟨1, 111, none⟩)])) w := by kernel_rfl
theorem typeOfD (v : Value) (w : World) : (ReflectliteType.typeOf #[.iface 75 v]).run Tryz.prog w = .ok (.iface 160 (.agg #[.pointer (some ⟨1, 75, none⟩)])) w := by kernel_rfl
theorem assgF (w : World) : (ReflectliteType.relation "AssignableTo" ReflectliteType.assignableTo #[.agg #[.pointer (some ⟨1, 111, none⟩)], .iface 160 (.agg #[.pointer (some ⟨1, 111, none⟩)])]).run Tryz.prog w = .ok (.bool true) w := by kernel_rfl
theorem assgD (w : World) : (ReflectliteType.relation "AssignableTo" ReflectliteType.assignableTo #[.agg #[.pointer (some ⟨1, 75, none⟩)], .iface 160 (.agg #[.pointer (some ⟨1, 111, none⟩)])]).run Tryz.prog w = .ok (.bool false) w := by kernel_rfl
theorem vF (e : Int) (w : World) : (ReflectliteValue.unpack (.iface 111 (.int .i64 e))).run Tryz.prog w
    = .ok (.agg #[.pointer (some ⟨1, 111, none⟩), .pointer (some ⟨w.heap.size, 0, none⟩), .int .u64 130]) (w.alloc (.cells #[.int .i64 e] 111)) := by kernel_rfl
theorem elemOfP (w : World) : (Rtype.elem? 113).run Tryz.prog w = .ok (some 111) w := by kernel_rfl
theorem mkF (p : Addr) (w : World) : (ReflectliteValue.mk 111 p ReflectliteValue.flagAddr).run Tryz.prog w = .ok (.agg #[.pointer (some ⟨1, 111, none⟩), .pointer (some p), .int .u64 386]) w := by kernel_rfl
theorem elemVP (a p : Addr) (W : World) (ha : W.cell? a = some (.pointer (some p))) :
    (ReflectliteValue.method (ReflectliteValue.valueError "reflectlite.Value.Elem" 0) ReflectliteValue.elem #[.agg #[.pointer (some ⟨1, 113, none⟩), .pointer (some a), .int .u64 150]]).run Tryz.prog W
      = .ok (.agg #[.pointer (some ⟨1, 111, none⟩), .pointer (some p), .int .u64 386]) W := by
  rw [rlm]
  simp only [Sem.run_bind, partsP, Result.andThen]
  simp [ReflectliteValue.elem, loadVar, isAgg, underlying, Tryz.underlying113, ha, Result.andThen, elemOfP, mkF]
theorem rls (v x : Value) : ReflectliteValue.set #[v, x] = (do
    let (some (dst, a, fl), some (src, b, _)) := (← ReflectliteValue.parts v, ← ReflectliteValue.parts x)
      | unsupported (.noEntry "extern/(internal/reflectlite.Value).Set.zeroValue")
    if fl / ReflectliteValue.flagAddr % 2 == 0 then unsupported (.noEntry "extern/(internal/reflectlite.Value).Set.unaddressable")
    let val ← loadVar src b
    if ← Rtype.directlyAssignable dst src then storeVar dst a val
    else if ← Rtype.implements dst src then
      if (← Rtype.kind src) == 20 then
        match val with
        | .nilIface => unsupported (.noEntry "extern/reflectlite: a nil value of one interface type handed on as a value of another")
        | _ => storeVar dst a val
      else storeVar dst a (.iface src val)
    else panicString ("reflectlite.Set: value of type " ++ (← Rtype.spelt src) ++ " is not assignable to type " ++ (← Rtype.spelt dst))
    pure (.tuple #[])) := rfl
theorem partsFa (a : Addr) (w : World) : (ReflectliteValue.parts (.agg #[.pointer (some ⟨1, 111, none⟩), .pointer (some a), .int .u64 386])).run Tryz.prog w = .ok (some (111, a, 386)) w := by kernel_rfl
theorem partsF (a : Addr) (w : World) : (ReflectliteValue.parts (.agg #[.pointer (some ⟨1, 111, none⟩), .pointer (some a), .int .u64 130])).run Tryz.prog w = .ok (some (111, a, 130)) w := by kernel_rfl
theorem directF (w : World) : (Rtype.directlyAssignable 111 111).run Tryz.prog w = .ok true w := by kernel_rfl
theorem setF (ta b : Addr) (e : Int) (old : Value) (W : World) (hb : W.cell? b = some (.int .i64 e)) (ht : W.cell? ta = some old) (hf : W.frozen? ta = false) :
    (ReflectliteValue.set #[.agg #[.pointer (some ⟨1, 111, none⟩), .pointer (some ta), .int .u64 386], .agg #[.pointer (some ⟨1, 111, none⟩), .pointer (some b), .int .u64 130]]).run Tryz.prog W
      = .ok (.tuple #[]) (W.setCell ta (.int .i64 e)) := by
  rw [rls]
  simp only [Sem.run_bind, partsFa, partsF, Result.andThen]
  simp [ReflectliteValue.flagAddr, loadVar, isAgg, underlying, Tryz.underlying111, hb, Result.andThen, directF, storeVar, Value.cells, storeCells, Addr.add]
  rw [run_store Tryz.prog W ta _ _ (by rfl)]
  simp [ht, hf]
theorem noAsD (v : Value) (xT : TypeId) (w : World) : (Instr.typeAssert (.iface 75 v) xT 165 true).run Tryz.prog w = .ok (.tuple #[.nilIface, .bool false]) w :=
  run_typeAssert_lacksB Tryz.underlying165 (by kernel_rfl) (by kernel_rfl) v xT w
theorem hasUnD (v : Value) (xT : TypeId) (w : World) : (Instr.typeAssert (.iface 75 v) xT 168 true).run Tryz.prog w = .ok (.tuple #[.iface 75 v, .bool true]) w :=
  run_typeAssert_hasB Tryz.underlying168 (by kernel_rfl) v xT w
theorem mUnw (s : ByteArray) (v : Value) (w : World) : (Go.method 334 75 (.agg #[.string s, v]) "Unwrap").run Tryz.prog w = .ok (164, .agg #[.string s, v]) w := by kernel_rfl
end Go.Proofs.YtlmnmjnmilaipaaGreatDoor
/- errors.As at a *failure through one wrap and two; package wal's code. -/
set_option linter.unusedVariables false
namespace Go.Proofs.YtlmnmjnmilaipaaGreatDoor
open Go.RowKit Go.Extern.Stop Go.Stop Go.Extern

/-- A failure; a thing that was being done when it came. -/
def failV (e : Int) : Value := .iface 111 (.int .i64 e)
def doingV (s : ByteArray) (v : Value) : Value := .iface 75 (.agg #[.string s, v])
theorem unwrap_any (s : ByteArray) (v : Value) (w : World) : Calls Tryz.prog 164 #[.agg #[.string s, v]] w fun e w' => e = .returned v ∧ w' = w.alloc (.cells #[.string s, v] 75) := by
  go_enter Tryz.func164, Tryz.ntmps164
  go_wp2
  go_ret
  exact ⟨rfl, rfl⟩
def valV (va : Addr) : Value := .agg #[.pointer (some ⟨1, 113, none⟩), .pointer (some va), .int .u64 150]
def typeV : Value := .iface 160 (.agg #[.pointer (some ⟨1, 111, none⟩)])
theorem cell_lt {w : World} {a : Addr} {v : Value} (h : w.cell? a = some v) : a.block < w.heap.size := by
  rcases Nat.lt_or_ge a.block w.heap.size with h1 | h1
  · exact h1
  · simp [World.cell?, Array.getElem?_eq_none h1] at h
set_option maxRecDepth 100000 in
set_option maxHeartbeats 4000000 in
theorem as_fail (e : Int) (t va : Addr) (old : Value) (w : World) (hva : w.cell? va = some (.pointer (some t))) (ht0 : w.cell? t = some old) (hf0 : w.frozen? t = false) :
    Calls Tryz.prog 93 #[.iface 111 (.int .i64 e), .iface 113 (.pointer (some t)), .agg #[.pointer (some ⟨1, 113, none⟩), .pointer (some va), .int .u64 150], .iface 160 (.agg #[.pointer (some ⟨1, 111, none⟩)])] w
      fun ev w' => ev = .returned (.bool true) ∧ w' = ((w.alloc (.cells #[.pointer (some ⟨1, 113, none⟩), .pointer (some va), .int .u64 150] 134)).alloc (.cells #[.int .i64 e] 111)).setCell t (.int .i64 e) := by
  have hTo := @run_callFunc_extern Tryz.prog 114 _ ReflectliteType.typeOf Tryz.func114 (by kernel_rfl) (by kernel_rfl) (by kernel_rfl) (by kernel_rfl)
  have hAs := @run_callFunc_extern Tryz.prog 170 _ (ReflectliteType.relation "AssignableTo" ReflectliteType.assignableTo) Tryz.func170 (by kernel_rfl) (by kernel_rfl) (by kernel_rfl) (by kernel_rfl)
  have hEl := @run_callFunc_extern Tryz.prog 115 _ (ReflectliteValue.method (ReflectliteValue.valueError "reflectlite.Value.Elem" 0) ReflectliteValue.elem) Tryz.func115 (by kernel_rfl) (by kernel_rfl) (by kernel_rfl) (by kernel_rfl)
  have hVo := @run_callFunc_extern Tryz.prog 90 _ (fun args => ReflectliteValue.unpack (args.getD 0 (.tuple #[]))) Tryz.func90 (by kernel_rfl) (by kernel_rfl) (by kernel_rfl) (by kernel_rfl)
  have hSe := @run_callFunc_extern Tryz.prog 116 _ ReflectliteValue.set Tryz.func116 (by kernel_rfl) (by kernel_rfl) (by kernel_rfl) (by kernel_rfl)
  have x1 := typeOfF
  have x2 := mAssg
  have x3 := assgF
  have x4 := vF
  have hl1 := cell_lt hva
  have hl2 := cell_lt ht0
  have x5 := elemVP va t (w.alloc (.cells #[.pointer (some ⟨1, 113, none⟩), .pointer (some va), .int .u64 150] 134)) (by rw [World.cell?_alloc_lt _ _ va hl1]; exact hva)
  have x6 := setF t ⟨w.heap.size + 1, 0, none⟩ e old ((w.alloc (.cells #[.pointer (some ⟨1, 113, none⟩), .pointer (some va), .int .u64 150] 134)).alloc (.cells #[.int .i64 e] 111))
    (by rw [World.cell?_alloc_at _ _ _ _ (by simp)]; rfl)
    (by rw [World.cell?_alloc_lt _ _ t (by first | omega | (simp; omega)), World.cell?_alloc_lt _ _ t hl2]; exact ht0)
    (by rw [World.frozen?_alloc_old _ _ t (by first | omega | (simp; omega)), World.frozen?_alloc_old _ _ t (by omega)]; exact hf0)
  go_enter Tryz.func93, Tryz.ntmps93
  go_wp2
  refine wp_loop_rounds 1 ?_
  rw [rounds_succ]
  go_wp2
  go_ret
  exact ⟨rfl, rfl⟩
set_option maxRecDepth 100000 in
set_option maxHeartbeats 4000000 in
theorem as_1 (e : Int) (s : ByteArray) (t va : Addr) (old : Value) (w : World) (hva : w.cell? va = some (.pointer (some t))) (ht0 : w.cell? t = some old) (hf0 : w.frozen? t = false) :
    Calls Tryz.prog 93 #[.iface 75 (.agg #[.string s, .iface 111 (.int .i64 e)]), .iface 113 (.pointer (some t)), .agg #[.pointer (some ⟨1, 113, none⟩), .pointer (some va), .int .u64 150], .iface 160 (.agg #[.pointer (some ⟨1, 111, none⟩)])] w
      fun ev w' => ev = .returned (.bool true) ∧ w' = (((w.alloc (.cells #[.pointer (some ⟨1, 113, none⟩), .pointer (some va), .int .u64 150] 134)).alloc (.cells #[.string s, .iface 111 (.int .i64 e)] 75)).alloc (.cells #[.int .i64 e] 111)).setCell t (.int .i64 e) := by
  have hTo := @run_callFunc_extern Tryz.prog 114 _ ReflectliteType.typeOf Tryz.func114 (by kernel_rfl) (by kernel_rfl) (by kernel_rfl) (by kernel_rfl)
  have hAs := @run_callFunc_extern Tryz.prog 170 _ (ReflectliteType.relation "AssignableTo" ReflectliteType.assignableTo) Tryz.func170 (by kernel_rfl) (by kernel_rfl) (by kernel_rfl) (by kernel_rfl)
  have hEl := @run_callFunc_extern Tryz.prog 115 _ (ReflectliteValue.method (ReflectliteValue.valueError "reflectlite.Value.Elem" 0) ReflectliteValue.elem) Tryz.func115 (by kernel_rfl) (by kernel_rfl) (by kernel_rfl) (by kernel_rfl)
  have hVo := @run_callFunc_extern Tryz.prog 90 _ (fun args => ReflectliteValue.unpack (args.getD 0 (.tuple #[]))) Tryz.func90 (by kernel_rfl) (by kernel_rfl) (by kernel_rfl) (by kernel_rfl)
  have hSe := @run_callFunc_extern Tryz.prog 116 _ ReflectliteValue.set Tryz.func116 (by kernel_rfl) (by kernel_rfl) (by kernel_rfl) (by kernel_rfl)
  have x1 := typeOfF
  have y1 := typeOfD
  have y3 := assgD
  have y4 := noAsD
  have y5 := hasUnD
  have y6 := mUnw
  have x2 := mAssg
  have x3 := assgF
  have x4 := vF
  have hl1 := cell_lt hva
  have hl2 := cell_lt ht0
  have x5 := elemVP va t ((w.alloc (.cells #[.pointer (some ⟨1, 113, none⟩), .pointer (some va), .int .u64 150] 134)).alloc (.cells #[.string s, .iface 111 (.int .i64 e)] 75)) (by rw [World.cell?_alloc_lt _ _ va (by first | omega | (simp; omega)), World.cell?_alloc_lt _ _ va (by first | omega | (simp; omega))]; exact hva)
  have x6 := setF t ⟨w.heap.size + 1 + 1, 0, none⟩ e old (((w.alloc (.cells #[.pointer (some ⟨1, 113, none⟩), .pointer (some va), .int .u64 150] 134)).alloc (.cells #[.string s, .iface 111 (.int .i64 e)] 75)).alloc (.cells #[.int .i64 e] 111))
    (by rw [World.cell?_alloc_at _ _ _ _ (by simp)]; rfl)
    (by rw [World.cell?_alloc_lt _ _ t (by first | omega | (simp; omega)), World.cell?_alloc_lt _ _ t (by first | omega | (simp; omega)), World.cell?_alloc_lt _ _ t (by first | omega | (simp; omega))]; exact ht0)
    (by rw [World.frozen?_alloc_old _ _ t (by first | omega | (simp; omega)), World.frozen?_alloc_old _ _ t (by first | omega | (simp; omega)), World.frozen?_alloc_old _ _ t (by first | omega | (simp; omega))]; exact hf0)
  go_enter Tryz.func93, Tryz.ntmps93
  go_wp2
  refine wp_loop_rounds 2 ?_
  rw [rounds_succ]
  go_wp2_with (go_at_call 164; refine (unwrap_any _ _ _).mono ?_; rintro ev wu ⟨rfl, rfl⟩)
  rw [rounds_succ]
  go_wp2_with (go_at_call 164; refine (unwrap_any _ _ _).mono ?_; rintro ev wu ⟨rfl, rfl⟩)
  go_ret
  exact ⟨rfl, rfl⟩
set_option maxRecDepth 100000 in
set_option maxHeartbeats 4000000 in
theorem as_2 (e : Int) (s s2 : ByteArray) (t va : Addr) (old : Value) (w : World) (hva : w.cell? va = some (.pointer (some t))) (ht0 : w.cell? t = some old) (hf0 : w.frozen? t = false) :
    Calls Tryz.prog 93 #[.iface 75 (.agg #[.string s2, .iface 75 (.agg #[.string s, .iface 111 (.int .i64 e)])]), .iface 113 (.pointer (some t)), .agg #[.pointer (some ⟨1, 113, none⟩), .pointer (some va), .int .u64 150], .iface 160 (.agg #[.pointer (some ⟨1, 111, none⟩)])] w
      fun ev w' => ev = .returned (.bool true) ∧ w' = ((((w.alloc (.cells #[.pointer (some ⟨1, 113, none⟩), .pointer (some va), .int .u64 150] 134)).alloc (.cells #[.string s2, .iface 75 (.agg #[.string s, .iface 111 (.int .i64 e)])] 75)).alloc (.cells #[.string s, .iface 111 (.int .i64 e)] 75)).alloc (.cells #[.int .i64 e] 111)).setCell t (.int .i64 e) := by
  have hTo := @run_callFunc_extern Tryz.prog 114 _ ReflectliteType.typeOf Tryz.func114 (by kernel_rfl) (by kernel_rfl) (by kernel_rfl) (by kernel_rfl)
  have hAs := @run_callFunc_extern Tryz.prog 170 _ (ReflectliteType.relation "AssignableTo" ReflectliteType.assignableTo) Tryz.func170 (by kernel_rfl) (by kernel_rfl) (by kernel_rfl) (by kernel_rfl)
  have hEl := @run_callFunc_extern Tryz.prog 115 _ (ReflectliteValue.method (ReflectliteValue.valueError "reflectlite.Value.Elem" 0) ReflectliteValue.elem) Tryz.func115 (by kernel_rfl) (by kernel_rfl) (by kernel_rfl) (by kernel_rfl)
  have hVo := @run_callFunc_extern Tryz.prog 90 _ (fun args => ReflectliteValue.unpack (args.getD 0 (.tuple #[]))) Tryz.func90 (by kernel_rfl) (by kernel_rfl) (by kernel_rfl) (by kernel_rfl)
  have hSe := @run_callFunc_extern Tryz.prog 116 _ ReflectliteValue.set Tryz.func116 (by kernel_rfl) (by kernel_rfl) (by kernel_rfl) (by kernel_rfl)
  have x1 := typeOfF
  have y1 := typeOfD
  have y3 := assgD
  have y4 := noAsD
  have y5 := hasUnD
  have y6 := mUnw
  have x2 := mAssg
  have x3 := assgF
  have x4 := vF
  have hl1 := cell_lt hva
  have hl2 := cell_lt ht0
  have x5 := elemVP va t (((w.alloc (.cells #[.pointer (some ⟨1, 113, none⟩), .pointer (some va), .int .u64 150] 134)).alloc (.cells #[.string s2, .iface 75 (.agg #[.string s, .iface 111 (.int .i64 e)])] 75)).alloc (.cells #[.string s, .iface 111 (.int .i64 e)] 75)) (by rw [World.cell?_alloc_lt _ _ va (by first | omega | (simp; omega)), World.cell?_alloc_lt _ _ va (by first | omega | (simp; omega)), World.cell?_alloc_lt _ _ va (by first | omega | (simp; omega))]; exact hva)
  have x6 := setF t ⟨w.heap.size + 1 + 1 + 1, 0, none⟩ e old ((((w.alloc (.cells #[.pointer (some ⟨1, 113, none⟩), .pointer (some va), .int .u64 150] 134)).alloc (.cells #[.string s2, .iface 75 (.agg #[.string s, .iface 111 (.int .i64 e)])] 75)).alloc (.cells #[.string s, .iface 111 (.int .i64 e)] 75)).alloc (.cells #[.int .i64 e] 111))
    (by rw [World.cell?_alloc_at _ _ _ _ (by simp)]; rfl)
    (by rw [World.cell?_alloc_lt _ _ t (by first | omega | (simp; omega)), World.cell?_alloc_lt _ _ t (by first | omega | (simp; omega)), World.cell?_alloc_lt _ _ t (by first | omega | (simp; omega)), World.cell?_alloc_lt _ _ t (by first | omega | (simp; omega))]; exact ht0)
    (by rw [World.frozen?_alloc_old _ _ t (by first | omega | (simp; omega)), World.frozen?_alloc_old _ _ t (by first | omega | (simp; omega)), World.frozen?_alloc_old _ _ t (by first | omega | (simp; omega)), World.frozen?_alloc_old _ _ t (by first | omega | (simp; omega))]; exact hf0)
  go_enter Tryz.func93, Tryz.ntmps93
  go_wp2
  refine wp_loop_rounds 3 ?_
  rw [rounds_succ]
  go_wp2_with (go_at_call 164; refine (unwrap_any _ _ _).mono ?_; rintro ev wu ⟨rfl, rfl⟩)
  rw [rounds_succ]
  go_wp2_with (go_at_call 164; refine (unwrap_any _ _ _).mono ?_; rintro ev wu ⟨rfl, rfl⟩)
  rw [rounds_succ]
  go_wp2_with (go_at_call 164; refine (unwrap_any _ _ _).mono ?_; rintro ev wu ⟨rfl, rfl⟩)
  go_ret
  exact ⟨rfl, rfl⟩
end Go.Proofs.YtlmnmjnmilaipaaGreatDoor
/- errors.As at a *failure, and package wal's code: the number of the error that was wrapped. -/
set_option linter.unusedVariables false
namespace Go.Proofs.YtlmnmjnmilaipaaGreatDoor
open Go.RowKit Go.Extern.Stop Go.Stop Go.Extern

/-- What package wal wraps: a failure, once or twice. -/
inductive Ch
  | one (s : ByteArray)
  | two (s2 s : ByteArray)
def chV (e : Int) : Ch → Value
  | .one s => .iface 75 (.agg #[.string s, .iface 111 (.int .i64 e)])
  | .two s2 s => .iface 75 (.agg #[.string s2, .iface 75 (.agg #[.string s, .iface 111 (.int .i64 e)])])
theorem as_any (e : Int) (c : Ch) (t va : Addr) (old : Value) (w : World) (hva : w.cell? va = some (.pointer (some t))) (ht0 : w.cell? t = some old) (hf0 : w.frozen? t = false) :
    Calls Tryz.prog 93 #[chV e c, .iface 113 (.pointer (some t)), .agg #[.pointer (some ⟨1, 113, none⟩), .pointer (some va), .int .u64 150], .iface 160 (.agg #[.pointer (some ⟨1, 111, none⟩)])] w
      fun ev w' => ev = .returned (.bool true) ∧ Only (· = t.block) w w' ∧ w'.cell? t = some (.int .i64 e) := by
  have hl := cell_lt ht0
  cases c with
  | one s =>
    refine (as_1 e s t va old w hva ht0 hf0).mono ?_
    rintro ev w' ⟨rfl, rfl⟩
    refine ⟨rfl, ((((Only.refl (fun k => k = t.block) w).alloc _).alloc _).alloc _).setCell (p := t) (fun _ => rfl) _, ?_⟩
    refine World.cell?_setCell_same _ _ _ (u := old) ?_
    rw [World.cell?_alloc_lt _ _ t (by first | omega | (simp; done) | (simp; omega)), World.cell?_alloc_lt _ _ t (by first | omega | (simp; done) | (simp; omega)), World.cell?_alloc_lt _ _ t hl]
    exact ht0
  | two s2 s =>
    refine (as_2 e s s2 t va old w hva ht0 hf0).mono ?_
    rintro ev w' ⟨rfl, rfl⟩
    refine ⟨rfl, (((((Only.refl (fun k => k = t.block) w).alloc _).alloc _).alloc _).alloc _).setCell (p := t) (fun _ => rfl) _, ?_⟩
    refine World.cell?_setCell_same _ _ _ (u := old) ?_
    rw [World.cell?_alloc_lt _ _ t (by first | omega | (simp; done) | (simp; omega)), World.cell?_alloc_lt _ _ t (by first | omega | (simp; done) | (simp; omega)), World.cell?_alloc_lt _ _ t (by first | omega | (simp; done) | (simp; omega)), World.cell?_alloc_lt _ _ t hl]
    exact ht0
set_option maxRecDepth 100000 in
set_option maxHeartbeats 4000000 in
theorem As_any (e : Int) (c : Ch) (t : Addr) (old : Value) (w : World) (hg : w.cell? ⟨0, 0, none⟩ = some (.iface 160 (.agg #[.pointer (some ⟨1, 65, none⟩)]))) (ht0 : w.cell? t = some old) (hf0 : w.frozen? t = false) :
    Calls Tryz.prog 67 #[chV e c, .iface 113 (.pointer (some t))] w fun ev w' => ev = .returned (.bool true) ∧ Only (· = t.block) w w' ∧ w'.cell? t = some (.int .i64 e) := by
  have hVo := @run_callFunc_extern Tryz.prog 90 _ (fun args => ReflectliteValue.unpack (args.getD 0 (.tuple #[]))) Tryz.func90 (by kernel_rfl) (by kernel_rfl) (by kernel_rfl) (by kernel_rfl)
  have hTy := @run_callFunc_extern Tryz.prog 91 _ (ReflectliteValue.methodAny (ReflectliteValue.valueError "reflectlite.Value.Type" 0) (fun t _ _ _ => ReflectliteType.toType t)) Tryz.func91 (by kernel_rfl) (by kernel_rfl) (by kernel_rfl) (by kernel_rfl)
  have hNi := @run_callFunc_extern Tryz.prog 92 _ (ReflectliteValue.method (ReflectliteValue.valueError "reflectlite.Value.IsNil" 0) ReflectliteValue.isNil) Tryz.func92 (by kernel_rfl) (by kernel_rfl) (by kernel_rfl) (by kernel_rfl)
  have hKi := @run_callFunc_extern Tryz.prog 160 _ (ReflectliteType.abiMethod fun t => do pure (.int .u8 (← Rtype.kind t))) Tryz.func160 (by kernel_rfl) (by kernel_rfl) (by kernel_rfl) (by kernel_rfl)
  have hEl := @run_callFunc_extern Tryz.prog 172 _ (ReflectliteType.method ReflectliteType.elem) Tryz.func172 (by kernel_rfl) (by kernel_rfl) (by kernel_rfl) (by kernel_rfl)
  have hIm := @run_callFunc_extern Tryz.prog 173 _ (ReflectliteType.relation "Implements" ReflectliteType.implements_) Tryz.func173 (by kernel_rfl) (by kernel_rfl) (by kernel_rfl) (by kernel_rfl)
  have x1 := vp
  have x2 := tp
  have x3 := mKind
  have x4 := kindP
  have x5 := kindF
  have x6 := mElem
  have x7 := mImpl
  have x8 := elemT
  have x9 := implF
  have hl := cell_lt ht0
  have hgl := cell_lt hg
  have y8 := isNilP ⟨w.heap.size, 0, none⟩ t ((w.alloc (.cells #[.pointer (some t)] 113)).alloc (.cells #[.pointer (some ⟨1, 113, none⟩), .pointer (some ⟨w.heap.size, 0, none⟩), .int .u64 150] 134)) (by simp)
  have hg2 : ((w.alloc (.cells #[.pointer (some t)] 113)).alloc (.cells #[.pointer (some ⟨1, 113, none⟩), .pointer (some ⟨w.heap.size, 0, none⟩), .int .u64 150] 134)).cell? ⟨0, 0, none⟩ = some (.iface 160 (.agg #[.pointer (some ⟨1, 65, none⟩)])) := by
    rw [World.cell?_alloc_lt _ _ _ (by first | omega | (simp; done) | (simp; omega)), World.cell?_alloc_lt _ _ _ hgl]; exact hg
  have A := Lib.hid (as_any e c t ⟨w.heap.size, 0, none⟩ old ((w.alloc (.cells #[.pointer (some t)] 113)).alloc (.cells #[.pointer (some ⟨1, 113, none⟩), .pointer (some ⟨w.heap.size, 0, none⟩), .int .u64 150] 134)) (by simp)
    (by rw [World.cell?_alloc_lt _ _ t (by first | omega | (simp; done) | (simp; omega)), World.cell?_alloc_lt _ _ t hl]; exact ht0)
    (by rw [World.frozen?_alloc_old _ _ t (by first | omega | (simp; done) | (simp; omega)), World.frozen?_alloc_old _ _ t (by first | omega | (simp; done) | (simp; omega))]; exact hf0))
  have hnn : ∃ tt vv, chV e c = .iface tt vv := by cases c <;> exact ⟨_, _, rfl⟩
  obtain ⟨tt, vv, hcv⟩ := hnn
  rw [hcv] at A ⊢
  go_enter Tryz.func67, Tryz.ntmps67
  go_wp2_with (go_at_call 93; refine A.out.mono ?_; rintro ev w2 ⟨rfl, ho, hc⟩)
  go_ret
  exact ⟨rfl, Only.trans (((Only.refl (fun k => k = t.block) w).alloc _).alloc _) ho, hc⟩
set_option maxRecDepth 100000 in
set_option maxHeartbeats 4000000 in
theorem code_any (e : Int) (c : Ch) (w : World) (hg : w.cell? ⟨0, 0, none⟩ = some (.iface 160 (.agg #[.pointer (some ⟨1, 65, none⟩)]))) :
    Calls Tryz.prog 36 #[chV e c] w fun ev w' => ev = .returned (.int .i64 e) ∧ Below w.heap.size w w' := by
  have hgl := cell_lt hg
  have A := Lib.hid (As_any e c ⟨w.heap.size, 0, none⟩ (.int .i64 0) (w.alloc (.cells #[.int .i64 0] 111)) (by rw [World.cell?_alloc_lt _ _ _ hgl]; exact hg) (by simp) (by unfold World.frozen?; rw [show (w.alloc (.cells #[.int .i64 0] 111)).heap[w.heap.size]? = some (.cells #[.int .i64 0] 111) from by show (w.heap.push _)[w.heap.size]? = _; simp]; rfl))
  go_enter Tryz.func36, Tryz.ntmps36
  go_wp2_with (go_at_call 67; refine A.out.mono ?_; rintro ev w2 ⟨rfl, ho, hc⟩)
  go_ret
  exact ⟨rfl, (Only.trans' (((Only.refl (fun k => k = w.heap.size) w).alloc _)) ho (fun _ _ h => h) (fun _ _ h => h)).below (Nat.le_refl _) (fun k hk h => by omega)⟩
theorem code_nil (w : World) : Calls Tryz.prog 36 #[.nilIface] w fun ev w' => ev = .returned (.int .i64 0) ∧ Below w.heap.size w w' := by
  have A := Lib.hid (as_nil (.iface 113 (.pointer (some ⟨w.heap.size, 0, none⟩))) (w.alloc (.cells #[.int .i64 0] 111)))
  go_enter Tryz.func36, Tryz.ntmps36
  go_wp2_with (go_at_call 67; refine A.out.mono ?_; rintro ev w2 ⟨rfl, rfl⟩)
  go_ret
  exact ⟨rfl, (Below.refl _ w).alloc (Nat.le_refl _) _⟩
end Go.Proofs.YtlmnmjnmilaipaaGreatDoor

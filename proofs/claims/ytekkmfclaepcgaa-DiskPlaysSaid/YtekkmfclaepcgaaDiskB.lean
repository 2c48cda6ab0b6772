/- What 'do' of a disk does: off, going off, or doing the act. -/
import Derived.Test.YtekkmfclaepcgaaDiskA
import Derived.RegionTactic
import Derived.ChangeAlike
namespace Go.Proofs.Ytekkmfclaepcgaa
open Go.RowKit

set_option maxHeartbeats 400000 in
theorem do_off (b : Nat) (f : FuncId) (caps : Array Value) (w : World) (h : w.cell? ⟨b, 3, none⟩ = some (.bool true)) :
    Calls Try.prog 35 #[.pointer (some ⟨b, 0, none⟩), .func (.func f) #[] caps] w fun e w' => e = .returned (.int .i64 100) ∧ w = w' := by
  go_enter Try.func35, Try.ntmps35
  go_wp2
  go_ret
  exact ⟨rfl, rfl⟩

set_option maxHeartbeats 400000 in
theorem do_arm (b : Nat) (f : FuncId) (caps : Array Value) (w : World) (n m : Int) (h1 : w.cell? ⟨b, 1, none⟩ = some (.int .i64 n)) (h2 : w.cell? ⟨b, 2, none⟩ = some (.int .i64 m)) (h3 : w.cell? ⟨b, 3, none⟩ = some (.bool false))
    (g1 : w.frozen? ⟨b, 1, none⟩ = false) (g3 : w.frozen? ⟨b, 3, none⟩ = false) (hn0 : 0 ≤ n) (hn : n < 4611686018427387904) (hm : (n + 1 == m) = true) :
    Calls Try.prog 35 #[.pointer (some ⟨b, 0, none⟩), .func (.func f) #[] caps] w fun e w' => e = .returned (.int .i64 100) ∧ w' = ((w.setCell ⟨b, 1, none⟩ (.int .i64 (n + 1))).setCell ⟨b, 3, none⟩ (.bool true)).drew := by
  go_enter Try.func35, Try.ntmps35
  go_wp2
  go_region
  all_goals go_wp2
  all_goals go_ret
  all_goals exact ⟨rfl, rfl⟩

set_option maxHeartbeats 400000 in
theorem do_go (b : Nat) (f : FuncId) (caps : Array Value) (w : World) (n m : Int) (h1 : w.cell? ⟨b, 1, none⟩ = some (.int .i64 n)) (h2 : w.cell? ⟨b, 2, none⟩ = some (.int .i64 m)) (h3 : w.cell? ⟨b, 3, none⟩ = some (.bool false))
    (g1 : w.frozen? ⟨b, 1, none⟩ = false) (g3 : w.frozen? ⟨b, 3, none⟩ = false) (hn0 : 0 ≤ n) (hn : n < 4611686018427387904) (hm : (n + 1 == m) = false) (R : World → Ending → World → Prop)
    (hf : ∀ args w1, (callFunc f args).run Try.prog w1 = .ok (.enter f args) w1)
    (hr : Calls Try.prog f caps ((w.setCell ⟨b, 1, none⟩ (.int .i64 (n + 1))).setCell ⟨b, 3, none⟩ (.bool false)).drew fun e w' => ∃ v, e = .returned v ∧ R w e w') :
    Calls Try.prog 35 #[.pointer (some ⟨b, 0, none⟩), .func (.func f) #[] caps] w fun e w' => R w e w' := by
  have H := Lib.hid hr
  clear hr
  go_enter Try.func35, Try.ntmps35
  go_wp2
  go_region
  go_wp2
  refine H.out.mono ?_
  rintro e w' ⟨v, rfl, hR⟩
  go_wp2
  exact hR
end Go.Proofs.Ytekkmfclaepcgaa

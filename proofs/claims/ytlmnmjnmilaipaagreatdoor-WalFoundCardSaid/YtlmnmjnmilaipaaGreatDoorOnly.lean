/- 'Only S w w'': of the blocks that were there those of S alone may have turned. -/
import Derived.WalkKit
import Derived.Test.YtlmnmjnmilaipaaGreatDoorMapW
import Derived.Deep.Draws
set_option linter.unusedVariables false
namespace Go.Proofs.YtlmnmjnmilaipaaGreatDoor
open Go.RowKit

structure Only (S : Nat → Prop) (w w' : World) : Prop where
  os : w'.os = w.os
  tape : w'.tape = w.tape
  output : w'.output = w.output
  size : w.heap.size ≤ w'.heap.size
  block : ∀ k, k < w.heap.size → ¬ S k → w'.heap[k]? = w.heap[k]?

theorem Only.refl (S : Nat → Prop) (w : World) : Only S w w := ⟨rfl, rfl, rfl, Nat.le_refl _, fun _ _ _ => rfl⟩
theorem Only.trans' {S S' T : Nat → Prop} {a b c : World} (h : Only S a b) (k : Only S' b c) (hS : ∀ k, k < a.heap.size → S k → T k) (hS' : ∀ k, k < a.heap.size → S' k → T k) : Only T a c :=
  ⟨k.os.trans h.os, k.tape.trans h.tape, k.output.trans h.output, Nat.le_trans h.size k.size, fun i hi hn => (k.block i (Nat.lt_of_lt_of_le hi h.size) (fun q => hn (hS' i hi q))).trans (h.block i hi (fun q => hn (hS i hi q)))⟩
theorem Only.trans {S : Nat → Prop} {a b c : World} (h : Only S a b) (k : Only S b c) : Only S a c := h.trans' k (fun _ _ q => q) (fun _ _ q => q)
theorem Only.mono {S T : Nat → Prop} {a b : World} (h : Only S a b) (hS : ∀ k, k < a.heap.size → S k → T k) : Only T a b := ⟨h.os, h.tape, h.output, h.size, fun i hi hn => h.block i hi (fun q => hn (hS i hi q))⟩
theorem Only.drew {S : Nat → Prop} {a b : World} (h : Only S a b) : Only S a b.drew := ⟨h.os, h.tape, h.output, h.size, h.block⟩
theorem Only.drewN {S : Nat → Prop} {a b : World} (h : Only S a b) (n : Nat) : Only S a (b.drewN n) := ⟨h.os, h.tape, h.output, h.size, h.block⟩
theorem Only.alloc {S : Nat → Prop} {a b : World} (h : Only S a b) (o : Obj) : Only S a (b.alloc o) :=
  ⟨h.os, h.tape, h.output, Nat.le_trans h.size (by simp), fun k hk hn => (Below.heap_alloc b o k (Nat.lt_of_lt_of_le hk h.size)).trans (h.block k hk hn)⟩
theorem Only.setCell {S : Nat → Prop} {a b : World} (h : Only S a b) {p : Addr} (hp : p.block < a.heap.size → S p.block) (u : Value) : Only S a (b.setCell p u) :=
  ⟨h.os, h.tape, h.output, Nat.le_trans h.size (by simp [World.setCell]), fun k hk hn => (Below.heap_setCell b p u k (fun e => hn (by rw [e]; exact hp (by rw [← e]; exact hk)))).trans (h.block k hk hn)⟩
theorem Only.put {S : Nat → Prop} {a b : World} (h : Only S a b) {r : Nat} (hr : r < a.heap.size → S r) (o : Obj) : Only S a { b with heap := b.heap.setIfInBounds r o } :=
  ⟨h.os, h.tape, h.output, Nat.le_trans h.size (by simp), fun k hk hn => by
    have hne : r ≠ k := fun e => hn (by rw [← e]; exact hr (by rw [e]; exact hk))
    show (b.heap.setIfInBounds r o)[k]? = _
    rw [Array.getElem?_setIfInBounds_ne hne]
    exact h.block k hk hn⟩
theorem Only.putM {S : Nat → Prop} {a b : World} (h : Only S a b) {r : Nat} (hr : r < a.heap.size → S r) (o : Obj) : Only S a (putM b r o) := h.put hr o
theorem cell_putM {w : World} {r : Nat} {a : Addr} (h : a.block ≠ r) (o : Obj) : (putM w r o).cell? a = w.cell? a := World.cell?_of_block (w := w) (Array.getElem?_setIfInBounds_ne (Ne.symm h))
theorem frozen_putM {w : World} {r : Nat} {a : Addr} (h : a.block ≠ r) (o : Obj) : (putM w r o).frozen? a = w.frozen? a := World.frozen?_of_block (w := w) (Array.getElem?_setIfInBounds_ne (Ne.symm h))
theorem size_putM (w : World) (r : Nat) (o : Obj) : (putM w r o).heap.size = w.heap.size := by simp [putM]
theorem Only.of_below {S : Nat → Prop} {w w' : World} (h : Below w.heap.size w w') : Only S w w' := ⟨h.os, h.tape, h.output, h.size, fun k hk _ => h.block k hk⟩
theorem Only.of_grown {S : Nat → Prop} {w w' : World} {row : Option Nat} (h : w.grownBy w' row) (hr : ∀ k, row = some k → k < w.heap.size → S k) : Only S w w' :=
  ⟨h.os, h.tape, h.output, h.size, fun k hk hn => h.block k hk (fun e => hn (hr k e.symm hk))⟩
theorem Only.below {S : Nat → Prop} {w w' : World} (h : Only S w w') {B : Nat} (hB : B ≤ w.heap.size) (hS : ∀ k, k < B → ¬ S k) : Below B w w' := ⟨h.os, h.tape, h.output, h.size, fun k hk => h.block k (by omega) (hS k hk)⟩
theorem Only.then_below {S : Nat → Prop} {w w1 w2 : World} (h : Only S w w1) (k : Below w1.heap.size w1 w2) : Only S w w2 := h.trans (Only.of_below k)
theorem Only.cell {S : Nat → Prop} {w w' : World} (h : Only S w w') {p : Addr} (hl : p.block < w.heap.size) (hn : ¬ S p.block) : w'.cell? p = w.cell? p := World.cell?_of_block (w := w) (h.block p.block hl hn)
theorem Only.frozen {S : Nat → Prop} {w w' : World} (h : Only S w w') {p : Addr} (hl : p.block < w.heap.size) (hn : ¬ S p.block) : w'.frozen? p = w.frozen? p := World.frozen?_of_block (w := w) (h.block p.block hl hn)
end Go.Proofs.YtlmnmjnmilaipaaGreatDoor

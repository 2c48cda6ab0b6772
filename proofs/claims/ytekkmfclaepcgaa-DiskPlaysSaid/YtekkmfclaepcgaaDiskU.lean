/- A file that nothing touches. No program is named here. -/
import Derived.Test.YtekkmfclaepcgaaDiskS
set_option linter.unusedVariables false
namespace Go.Proofs.Ytekkmfclaepcgaa

structure ApInv (text : ByteArray) (n : Nat) (D : Dk) : Prop where
  ok : D.Ok
  off : D.off = false
  armed : D.armed = 0
  acts : D.acts ≤ n
  c : aget D.files ⟨#[99]⟩ = some (text, text.size)
theorem ap_tick {D : Dk} (h1 : D.off = false) (h2 : D.armed = 0) : D.tick = { D with acts := D.acts + 1 } := by
  unfold Dk.tick
  rw [h1, h2]
  simp
theorem ApInv.put {text : ByteArray} {n : Nat} {D : Dk} (h : ApInv text n D) {D' : Dk} (hok : D'.Ok) (e : D' = { D.tick with files := D'.files }) (hc : aget D'.files ⟨#[99]⟩ = some (text, text.size)) : ApInv text (n + 1) D' := by
  have ht := ap_tick h.off h.armed
  refine ⟨hok, ?_, ?_, ?_, hc⟩
  · rw [e]; show D.tick.off = _; rw [ht]; exact h.off
  · rw [e]; show D.tick.armed = _; rw [ht]; exact h.armed
  · rw [e]; show D.tick.acts ≤ _; rw [ht]; show D.acts + 1 ≤ n + 1; have := h.acts; omega
theorem tick_self (D : Dk) : D.tick = { D.tick with files := D.tick.files } := rfl
theorem ApInv.append {text : ByteArray} {n : Nat} {D : Dk} (h : ApInv text n D) (hn : n < 1000) {k : ByteArray} (hk : (⟨#[99]⟩ : ByteArray) ≠ k) (s : ByteArray) : ApInv text (n + 1) (D.append k s).2 := by
  have hok := Dk.append_ok h.ok (by have := h.acts; omega) k s
  refine h.put hok ?_ ?_
  · unfold Dk.append
    (repeat' split) <;> rfl
  · unfold Dk.append
    (repeat' split) <;> first | (rw [Dk.tick_files']; exact h.c) | (rw [aget_aput_other _ _ _ _ hk]; exact h.c)
theorem ApInv.sync {text : ByteArray} {n : Nat} {D : Dk} (h : ApInv text n D) (hn : n < 1000) {k : ByteArray} (hk : (⟨#[99]⟩ : ByteArray) ≠ k) : ApInv text (n + 1) (D.sync k).2 := by
  have hok := Dk.sync_ok h.ok (by have := h.acts; omega) k
  refine h.put hok ?_ ?_
  · unfold Dk.sync
    (repeat' split) <;> rfl
  · unfold Dk.sync
    (repeat' split) <;> first | (rw [Dk.tick_files']; exact h.c) | (rw [aget_aput_other _ _ _ _ hk]; exact h.c)
theorem ApInv.remove {text : ByteArray} {n : Nat} {D : Dk} (h : ApInv text n D) (hn : n < 1000) {k : ByteArray} (hk : (⟨#[99]⟩ : ByteArray) ≠ k) : ApInv text (n + 1) (D.remove k).2 := by
  have hok := Dk.remove_ok h.ok (by have := h.acts; omega) k
  refine h.put hok ?_ ?_
  · unfold Dk.remove
    (repeat' split) <;> rfl
  · unfold Dk.remove
    (repeat' split) <;> first | (rw [Dk.tick_files']; exact h.c) | (rw [aget_adel_other _ hk]; exact h.c)
theorem ApInv.rename {text : ByteArray} {n : Nat} {D : Dk} (h : ApInv text n D) (hn : n < 1000) {k j : ByteArray} (hk : (⟨#[99]⟩ : ByteArray) ≠ k) (hj : (⟨#[99]⟩ : ByteArray) ≠ j) : ApInv text (n + 1) (D.rename k j).2 := by
  have hok := Dk.rename_ok h.ok (by have := h.acts; omega) k j
  refine h.put hok ?_ ?_
  · unfold Dk.rename
    (repeat' split) <;> rfl
  · unfold Dk.rename
    (repeat' split) <;> first | (rw [Dk.tick_files']; exact h.c) | (rw [aget_aput_other _ _ _ _ hj, aget_adel_other _ hk]; exact h.c)
theorem ApInv.restart {text : ByteArray} {n : Nat} {D : Dk} (h : ApInv text n D) (keep : List Int) : ApInv text (n + 1) (D.restart keep) := by
  refine ⟨Dk.restart_ok h.ok keep, rfl, rfl, by show D.acts ≤ _; have := h.acts; omega, ?_⟩
  obtain ⟨c, hc⟩ := restart_aget h.ok keep ⟨#[99]⟩
  rw [hc, h.c, Option.map_some, cutTo_synced]
theorem ApInv.read {text : ByteArray} {n : Nat} {D : Dk} (h : ApInv text n D) : D.read ⟨#[99]⟩ = (text, 0) := by
  unfold Dk.read
  rw [h.c, if_neg (by rw [h.off]; decide)]
theorem nm3_c (k : Nat) (h : k < 2) : (⟨#[99]⟩ : ByteArray) ≠ nm3 k := by
  rcases k with _ | _ | k
  · simp [nm3]
  · simp [nm3]
  · omega
end Go.Proofs.Ytekkmfclaepcgaa

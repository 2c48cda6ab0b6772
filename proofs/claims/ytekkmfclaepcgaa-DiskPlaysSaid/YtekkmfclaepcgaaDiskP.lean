/- What becomes of a disk that is armed, under appends and syncs of one file. No program is named here. -/
import Derived.Test.YtekkmfclaepcgaaDiskO
set_option linter.unusedVariables false
namespace Go.Proofs.Ytekkmfclaepcgaa

/-- The one file, if any: its bytes, and what of it is synced. -/
def OneFile (fs : Fl) (bs sure : ByteArray) : Prop :=
  (fs = [] ∧ sure = ⟨#[]⟩ ∧ bs = ⟨#[]⟩) ∨ (fs = [(⟨#[97]⟩, (bs, sure.size))] ∧ sure.size ≤ bs.size ∧ bs.extract 0 sure.size = sure)

structure ArmInv (N k : Nat) (D : Dk) (sure : ByteArray) : Prop where
  ok : D.Ok
  acts : D.acts ≤ N
  armed : D.armed = N
  st : (D.off = false ∧ D.acts = 2 * k ∧ 2 * k < N ∧ sure.size ≤ 500 * k ∧ OneFile D.files sure sure) ∨ (D.off = true ∧ N ≤ 2 * k ∧ ∃ bs, OneFile D.files bs sure)

theorem extract_self (s : ByteArray) : s.extract 0 s.size = s := by
  apply ByteArray.ext
  rw [ByteArray.data_extract]
  exact Array.extract_size
theorem extract_append_left (a b : ByteArray) : (a ++ b).extract 0 a.size = a := by
  have h := append_extract a b 0
  simpa using h
theorem aname : isNm ⟨#[97]⟩ = true := rfl

theorem arm_size {N k : Nat} {D : Dk} {sure : ByteArray} (h : ArmInv N k D sure) : sure.size ≤ 65536 := by
  have key : ∀ bs, OneFile D.files bs sure → sure.size ≤ 65536 := by
    rintro bs (⟨_, h2, _⟩ | ⟨h1, h2, _⟩)
    · rw [h2]; exact Nat.zero_le _
    · have := h.ok.bytes (⟨#[97]⟩, (bs, sure.size)) (by rw [h1]; simp)
      simp only at this
      omega
  rcases h.st with ⟨_, _, _, _, h5⟩ | ⟨_, _, bs, h3⟩
  · exact key _ h5
  · exact key _ h3

/-- An append that is done. -/
theorem one_append {fs : Fl} {sure t : ByteArray} (h : OneFile fs sure sure) (D : Dk) (hf : D.files = fs) (ht : D.tick.off = false) (hs : sure.size + t.size ≤ 65536) :
    D.append ⟨#[97]⟩ t = (0, { D.tick with files := [(⟨#[97]⟩, (sure ++ t, sure.size))] }) := by
  unfold Dk.append
  rw [if_neg (by rw [ht]; decide), aname, hf]
  simp only [Bool.not_true, Bool.false_eq_true, if_false]
  rcases h with ⟨rfl, rfl, _⟩ | ⟨rfl, _, _⟩
  · rw [show aget ([] : Fl) ⟨#[97]⟩ = none from rfl]
    simp only
    rw [if_neg (by simp only [List.length_nil]; have : (⟨#[]⟩ : ByteArray).size = 0 := rfl; omega)]
    have : (⟨#[]⟩ : ByteArray) ++ t = t := ByteArray.empty_append
    rw [this]
    rfl
  · rw [show aget ([(⟨#[97]⟩, (sure, sure.size))] : Fl) ⟨#[97]⟩ = some (sure, sure.size) from rfl]
    simp only
    rw [if_neg (by omega)]
    rfl

theorem arm_step {N k : Nat} {D : Dk} {sure t : ByteArray} (h : ArmInv N k D sure) (hN : N ≤ 40) (ht : t.size ≤ 500) :
    ∃ e f D1 D2, D.append ⟨#[97]⟩ t = (e, D1) ∧ D1.sync ⟨#[97]⟩ = (f, D2) ∧ D1.Ok ∧ e = (if 2 * k + 1 < N then 0 else 100) ∧ f = (if 2 * k + 2 < N then 0 else 100) ∧ D2.off = decide (N ≤ 2 * k + 2) ∧
      ArmInv N (k + 1) D2 (if 2 * k + 2 < N then sure ++ t else sure) := by
  have hac : D.acts + 1 < 4611686018427387904 := by have := h.acts; omega
  have hok1 := Dk.append_ok h.ok hac ⟨#[97]⟩ t
  rcases h.st with ⟨h1, h2, h3, h4, h5⟩ | ⟨h1, h2, bs, h3⟩
  · by_cases c1 : 2 * k + 1 < N
    · have ht1 : D.tick = { D with acts := D.acts + 1, off := false } := by
        unfold Dk.tick
        rw [h1, h.armed, h2]
        simp
        omega
      have e1 := one_append h5 D rfl (by rw [ht1]) (t := t) (by omega)
      rw [e1] at hok1
      have hok2 := Dk.sync_ok hok1 (by show D.tick.acts + 1 < _; rw [ht1]; show D.acts + 1 + 1 < _; have := h.acts; omega) ⟨#[97]⟩
      by_cases c2 : 2 * k + 2 < N
      · have e2 : Dk.sync { D.tick with files := [(⟨#[97]⟩, (sure ++ t, sure.size))] } ⟨#[97]⟩ = (0, { D with files := [(⟨#[97]⟩, (sure ++ t, (sure ++ t).size))], acts := D.acts + 2, off := false }) := by
          have ht2 : Dk.tick { D.tick with files := [(⟨#[97]⟩, (sure ++ t, sure.size))] } = { D with files := [(⟨#[97]⟩, (sure ++ t, sure.size))], acts := D.acts + 2, off := false } := by
            rw [ht1]
            unfold Dk.tick
            simp only [Bool.false_eq_true, if_false]
            rw [h.armed, h2]
            simp
            omega
          unfold Dk.sync
          rw [ht2]
          rfl
        refine ⟨_, _, _, _, e1, e2, hok1, by rw [if_pos c1], by rw [if_pos c2], by simp; omega, ?_⟩
        rw [e2] at hok2
        rw [if_pos c2]
        refine ⟨hok2, by show D.acts + 2 ≤ N; omega, h.armed, .inl ⟨rfl, by show D.acts + 2 = _; omega, by omega, by rw [ByteArray.size_append]; omega, .inr ⟨rfl, Nat.le_refl _, extract_self _⟩⟩⟩
      · have e2 : Dk.sync { D.tick with files := [(⟨#[97]⟩, (sure ++ t, sure.size))] } ⟨#[97]⟩ = (100, { D with files := [(⟨#[97]⟩, (sure ++ t, sure.size))], acts := D.acts + 2, off := true }) := by
          have ht2 : Dk.tick { D.tick with files := [(⟨#[97]⟩, (sure ++ t, sure.size))] } = { D with files := [(⟨#[97]⟩, (sure ++ t, sure.size))], acts := D.acts + 2, off := true } := by
            rw [ht1]
            unfold Dk.tick
            simp only [Bool.false_eq_true, if_false]
            rw [h.armed, h2]
            simp
            omega
          unfold Dk.sync
          rw [ht2]
          rfl
        refine ⟨_, _, _, _, e1, e2, hok1, by rw [if_pos c1], by rw [if_neg c2], by simp; omega, ?_⟩
        rw [e2] at hok2
        rw [if_neg c2]
        exact ⟨hok2, by show D.acts + 2 ≤ N; omega, h.armed, .inr ⟨rfl, by omega, sure ++ t, .inr ⟨rfl, by rw [ByteArray.size_append]; omega, extract_append_left _ _⟩⟩⟩
    · have ht1 : D.tick = { D with acts := D.acts + 1, off := true } := by
        unfold Dk.tick
        rw [h1, h.armed, h2]
        simp
        omega
      have e1 : D.append ⟨#[97]⟩ t = (100, { D with acts := D.acts + 1, off := true }) := by
        unfold Dk.append
        rw [ht1]
        rfl
      have e2 : Dk.sync { D with acts := D.acts + 1, off := true } ⟨#[97]⟩ = (100, { D with acts := D.acts + 1, off := true }) := by
        unfold Dk.sync Dk.tick
        rfl
      rw [e1] at hok1
      refine ⟨_, _, _, _, e1, e2, hok1, by rw [if_neg c1], by rw [if_neg (by omega)], by simp; omega, ?_⟩
      rw [if_neg (by omega)]
      exact ⟨hok1, by show D.acts + 1 ≤ N; omega, h.armed, .inr ⟨rfl, by omega, sure, h5⟩⟩
  · have e1 : D.append ⟨#[97]⟩ t = (100, D) := by
      unfold Dk.append Dk.tick
      rw [h1]
      simp [h1]
    have e2 : D.sync ⟨#[97]⟩ = (100, D) := by
      unfold Dk.sync Dk.tick
      rw [h1]
      simp [h1]
    refine ⟨_, _, _, _, e1, e2, h.ok, by rw [if_neg (by omega)], by rw [if_neg (by omega)], by rw [h1]; simp; omega, ?_⟩
    rw [if_neg (by omega)]
    exact ⟨h.ok, h.acts, h.armed, .inr ⟨h1, by omega, bs, h3⟩⟩

theorem arm_end {N k : Nat} {D : Dk} {sure : ByteArray} (h : ArmInv N k D sure) :
    (D.restart []).off = false ∧ ((D.restart []).read ⟨#[97]⟩ = (sure, 0) ∨ (D.restart []).read ⟨#[97]⟩ = (⟨#[]⟩, 101) ∧ sure = ⟨#[]⟩) := by
  have hf : ∃ bs, OneFile D.files bs sure := by
    rcases h.st with ⟨_, _, _, _, h5⟩ | ⟨_, _, bs, h3⟩
    · exact ⟨sure, h5⟩
    · exact ⟨bs, h3⟩
  refine ⟨rfl, ?_⟩
  obtain ⟨bs, ⟨h1, h2, _⟩ | ⟨h1, h2, h3⟩⟩ := hf
  · right
    refine ⟨?_, h2⟩
    unfold Dk.read
    have : (D.restart []).files = [] := by
      unfold Dk.restart
      rw [h1]
      rfl
    rw [this, if_neg (by show ¬ (false = true); decide)]
    rfl
  · left
    have hs : D.snames = [⟨#[97]⟩] := by
      have : D.names = [[97]] := by unfold Dk.names; rw [h1]; simp
      unfold Dk.snames
      rw [this]
      rfl
    have hc : cutTo (bs, sure.size) 0 = (sure, sure.size) := by
      unfold cutTo
      have e : (0 : Int) % ((bs.size : Int) - (sure.size : Int) + 1) = 0 := Int.zero_emod _
      simp only [keepOf, if_neg (show ¬ ((0 : Int) < 0) by decide), e, Int.toNat_zero, Nat.add_zero, h3]
    have hr : (D.restart []).files = [(⟨#[97]⟩, (sure, sure.size))] := by
      unfold Dk.restart
      rw [hs, h1]
      show restep [] [(⟨#[97]⟩, (bs, sure.size))] 0 ⟨#[97]⟩ = _
      unfold restep
      rw [show aget ([(⟨#[97]⟩, (bs, sure.size))] : Fl) ⟨#[97]⟩ = some (bs, sure.size) from rfl]
      simp only [List.getD_nil, hc]
      rfl
    unfold Dk.read
    rw [hr, if_neg (by show ¬ (false = true); decide)]
    rfl
end Go.Proofs.Ytekkmfclaepcgaa

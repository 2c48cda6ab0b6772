/- Layer 7: billetlaw05.pick. -/
import Derived.Test.YtlpccebackmahaaLexA
set_option linter.unusedVariables false
set_option linter.unusedSimpArgs false
namespace Go.Proofs.Ytlpccebackmahaa
open Go.RowKit

set_option maxHeartbeats 400000 in
theorem pick5_any (c n : Int) (w : World) (h1 : -9223372036854775808 ≤ c) (h2 : c ≤ 9223372036854775807) (hn : 0 < n) (hn2 : n ≤ 9223372036854775807) :
    Calls Try.prog 32 #[.int .i64 c, .int .i64 n] w fun e w' => e = .returned (.int .i64 (pickOf c n)) ∧ w = w' := by
  by_cases hc : c < 0
  · have hm := Int.emod_nonneg (-(c + 1)) (show n ≠ 0 by omega)
    have hm2 := Int.emod_lt_of_pos (-(c + 1)) hn
    obtain ⟨R, hR, hRt⟩ : ∃ R : Int, -(c + 1) % n = R ∧ (c + 1).tmod n = -R := ⟨_, rfl, by
      have e1 := Int.neg_tmod (c + 1) n
      have e2 := Int.tmod_eq_emod_of_nonneg (a := -(c + 1)) (b := n) (by omega)
      omega⟩
    have hp : pickOf c n = R := by unfold pickOf keepOf; rw [if_pos hc, hR]
    rw [hp]
    rw [hR] at hm hm2
    clear hR hp
    go_enter Try.func32, Try.ntmps32
    go_wp2
    go_ret
    exact ⟨rfl, rfl⟩
  · have hp : pickOf c n = c % n := by unfold pickOf keepOf; rw [if_neg hc]
    rw [hp]
    clear hp
    go_enter Try.func32, Try.ntmps32
    go_wp2
    go_ret
    exact ⟨rfl, rfl⟩
end Go.Proofs.Ytlpccebackmahaa

/- Layer 7: billetref06.Max walked. -/
import Derived.Test.YtlpccebackmahaaLexM
import Derived.Deep.RegionWith
set_option linter.unusedVariables false
set_option linter.unusedSimpArgs false
namespace Go.Proofs.Ytlpccebackmahaa
open Go.RowKit

set_option maxHeartbeats 4000000 in
set_option maxRecDepth 100000 in
theorem r6max_any (N s t : Int) (A : Option Addr) (c : Nat) (E : List Ed) (w : World) (hE : ReadsE w A E) (hN : NetOk N E) (hf : Okf N.toNat E (List.replicate E.length 0) s t) (hs : 0 ≤ s ∧ s < N) (ht : 0 ≤ t ∧ t < N) (hst : s ≠ t) (hpos : 0 < E.length) :
    Calls Try.prog 18 #[.agg #[.int .i64 N, .slice A E.length c], .int .i64 s, .int .i64 t] w fun e w' => ∃ v,
      e = .returned (.tuple #[v, .int .i64 (push N.toNat E s t 1073741824 (List.replicate E.length 0)).2, .int .i64 0]) ∧ Kept w w' := by
  have lE := hN.2.2.1
  have hcon : ∀ W g, Kept w W → RowI W g (List.replicate E.length 0) → _ := fun W g hW hg => r6push_any N s t 1073741824 A (some ⟨g, 0, none⟩) c E.length E (List.replicate E.length 0) W (hE.fix hW) (hg.reads (by rw [List.length_replicate]; unfold maxLen; omega)) hN hf hs ht hst (by omega) (by omega) hpos
  simp only [List.length_replicate] at hcon
  have HCON := Lib.hid hcon
  have hmk := make_ints E.length (by omega)
  have i1 : (E.length : Int) ≤ 300 := by omega
  have i2 : ¬ (300 : Int) < (E.length : Int) := by omega
  clear hcon hE hN hf hs ht
  have hr0 := RowI.made (w.alloc (.cells #[.int .i64 N, .slice A E.length c] 24)) E.length
  rw [show (w.alloc (.cells #[.int .i64 N, .slice A E.length c] 24)).heap.size = w.heap.size + 1 by simp] at hr0
  have HR0 := Lib.hid hr0
  clear hr0
  have HQ := Lib.hid (HCON.out (((w.alloc (.cells #[.int .i64 N, .slice A E.length c] 24)).alloc (.cells (Array.replicate E.length (.int .i64 0)) 3)).drew) (w.heap.size + 1) ((((Only.refl _ _).alloc _).alloc _).drew) ⟨HR0.out.obj⟩)
  clear HCON
  go_enter Try.func18, Try.ntmps18
  go_wp2
  go_region_with (go_at_call 31; go_loud (refine HQ.out.mono ?_; rintro e w2 ⟨v, rfl, hf9, hl9, hk9⟩; have HK9 := Lib.hid hk9; clear hf9 hl9 hk9))
  all_goals go_wp2
  all_goals go_ret3
  all_goals exact ⟨v, rfl, ((((Only.refl _ _).alloc _).alloc _).drew).trans HK9.out⟩
end Go.Proofs.Ytlpccebackmahaa

/- string(make([]byte, n)); pick of layer 11; a text cut. -/
import Derived.Test.YtlmnmjnmilaipaaGreatDoorWalAw
import Derived.OpenShut
set_option linter.unusedVariables false
set_option linter.unusedSimpArgs false
namespace Go.Proofs.YtlmnmjnmilaipaaGreatDoor
open Go Go.RowKit Go.Sort PR Go.Proofs.YtlmnmjnmilaipaaGreatDoorW.PrintWords

/-- A text of n zeros, and its row in memory. -/
def zrow (n : Nat) : Array Value := madeCells #[.int .u8 0] n
def zstr (n : Nat) : ByteArray := strOfNums (List.replicate n 0)
theorem zstr_size (n : Nat) : (zstr n).size = n := by simp [zstr, strOfNums, ByteArray.size]
theorem zrow_get (n i : Nat) (h : i < n) : (zrow n)[i]? = some (.int .u8 0) := by
  simp [zrow, madeCells, h, Nat.mod_one]
theorem run_mk (n : Int) (h0 : 0 ≤ n) (h1 : n ≤ 70000) (W : World) : (Instr.makeSlice 36 (.int .i64 n) (.int .i64 n)).run Tryz.prog W = .ok (.slice (some ⟨W.heap.size, 0, none⟩) n.toNat n.toNat) (W.alloc (.cells (zrow n.toNat) 5)) := by
  obtain ⟨i0, hi, hh⟩ := Option.map_eq_some_iff.1 (show (Tryz.prog.info? 5).map (fun i => (i.zero, i.size, i.bytes)) = some (some (.int .u8 0), 1, 1) by kernel_rfl)
  simp only [Prod.mk.injEq] at hh
  obtain ⟨hz0, hz1, hz2⟩ := hh
  have := run_makeSlice (P := Tryz.prog) W 36 5 i0 (.int .u8 0) Tryz.underlying36 hi hz0 .i64 .i64 n n h0 (Int.le_refl _) (by rw [hz1]; omega) (by rw [hz2]; omega) (by omega)
  rw [this, hz1]
  simp [zrow, Value.cells]
theorem run_cv' (n : Nat) (W : World) : (convert 36 9 (.slice (some ⟨W.heap.size, 0, none⟩) n n)).run Tryz.prog (W.alloc (.cells (zrow n) 5)) = .ok (.string (zstr n)) (W.alloc (.cells (zrow n) 5)) :=
  run_convert_bytes_arg (P := Tryz.prog) _ 36 5 Tryz.underlying36 Tryz.underlying5 W.heap.size 0 n n (List.replicate n 0) (by simp) (fun i hi => by
    rw [Nat.zero_add, World.cell?_alloc_new, zrow_get n i hi]
    simp [hi]) 9 Tryz.underlying9

def pickN (c n : Int) : Int := keepOf c % n
theorem pickN_range (c n : Int) (h : 0 < n) : 0 ≤ pickN c n ∧ pickN c n < n := ⟨Int.emod_nonneg _ (by omega), Int.emod_lt_of_pos _ h⟩
theorem pick_any (c n : Int) (h0 : -9223372036854775808 ≤ c) (h1 : c ≤ 9223372036854775807) (hn : 0 < n) (w : World) :
    Calls Tryz.prog 12 #[.int .i64 c, .int .i64 n] w fun e w' => e = .returned (.int .i64 (pickN c n)) ∧ Below w.heap.size w w' := by
  have h : billetlaw11_pick.f c n = some (pickN c n) := by
    unfold billetlaw11_pick.f pickN keepOf
    by_cases hc : c < 0
    · rw [if_pos hc, if_neg (by omega), if_pos hc]
      have : wrap64 (-(wrap64 (c + 1))) = -(c + 1) := by unfold wrap64; omega
      rw [this, Int.tmod_eq_emod_of_nonneg (by omega)]
    · rw [if_neg hc, if_neg (by omega), if_neg hc, Int.tmod_eq_emod_of_nonneg (by omega)]
  refine (billetlaw11_pick.calls c n _ w h).mono ?_
  rintro e w' ⟨rfl, hd⟩
  exact ⟨rfl, below_drawn hd⟩
theorem bs_cut (s : ByteArray) (k : Nat) : (bs (s.extract 0 k)).length ≤ k := by
  rw [bs_len, ByteArray.size_extract]; omega
theorem append_long {st : St} {D : Dk} {t : Bs} (h : 4096 < (payP (st.seq + 1) t).length) : appendP ⟨st.seq, 0⟩ D t = (111, ⟨st.seq, 0⟩, D) := by
  unfold appendP
  have e1 : ((st.seq : Nat) : Int) + 1 = ((st.seq + 1 : Nat) : Int) := by omega
  rw [if_neg n00, e1, madeP_long h]
  dsimp only
  rw [if_pos (by decide)]
theorem check_long {st : St} {D : Dk} {t : Bs} (h : 4096 < (payP st.seq t).length) : checkP ⟨st.seq, 0⟩ D t = (111, ⟨st.seq, 0⟩, D) := by
  unfold checkP
  rw [if_neg n00, madeP_long h]
  dsimp only
  rw [if_pos (by decide)]
end Go.Proofs.YtlmnmjnmilaipaaGreatDoor

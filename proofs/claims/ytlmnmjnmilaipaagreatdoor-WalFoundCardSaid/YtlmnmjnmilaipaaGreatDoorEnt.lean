/- Rows of entries (a number and a text each), written in place. -/
import Derived.Test.YtlmnmjnmilaipaaGreatDoorRows
import Derived.Test.YtlmnmjnmilaipaaGreatDoorOwnRows
import Derived.Test.YtlmnmjnmilaipaaGreatDoorWalPl
import Derived.Laws.MakeOwn
import Derived.Lib.SliceRun
set_option linter.unusedVariables false
set_option linter.unusedSimpArgs false
namespace Go.Proofs.YtlmnmjnmilaipaaGreatDoor
open Go Go.RowKit

abbrev Ent := Int × Bs
def ent0 : Ent := (0, [])
/-- A block of the code's own that begins with entries. -/
structure RowN (w : World) (g : Nat) (xs : List Ent) : Prop where
  obj : ∃ cur, w.heap[g]? = some (.cells cur 62) ∧ xs.length * 2 ≤ cur.size ∧ ∀ i, i < xs.length → cur[i * 2]? = some (.int .i64 (xs.getD i ent0).1) ∧ cur[i * 2 + 1]? = some (.string (ba (xs.getD i ent0).2))
theorem RowN.lt {w : World} {g : Nat} {xs : List Ent} (h : RowN w g xs) : g < w.heap.size := by
  obtain ⟨cur, h1, _⟩ := h.obj
  exact (Array.getElem?_eq_some_iff.1 h1).1
theorem RowN.at {w : World} {g : Nat} {xs : List Ent} (h : RowN w g xs) {i : Nat} (hi : i < xs.length) : w.cell? ⟨g, i * 2, none⟩ = some (.int .i64 (xs.getD i ent0).1) ∧ w.cell? ⟨g, i * 2 + 1, none⟩ = some (.string (ba (xs.getD i ent0).2)) := by
  obtain ⟨cur, h1, h2, h3⟩ := h.obj
  unfold World.cell?
  simp [h1, h3 i hi]
theorem RowN.fr {w : World} {g : Nat} {xs : List Ent} (h : RowN w g xs) (i : Nat) : w.frozen? ⟨g, i, none⟩ = false := by
  obtain ⟨cur, h1, _⟩ := h.obj
  simp [World.frozen?, h1]
theorem RowN.only {w w' : World} {g : Nat} {xs : List Ent} (h : RowN w g xs) {S : Nat → Prop} (ho : Only S w w') (hg : ¬ S g) : RowN w' g xs := by
  obtain ⟨cur, h1, h2⟩ := h.obj
  exact ⟨cur, (ho.block g h.lt hg).trans h1, h2⟩
theorem RowN.below {w w' : World} {g : Nat} {xs : List Ent} (h : RowN w g xs) (hb : Below w.heap.size w w') : RowN w' g xs := h.only (Only.of_below (S := fun _ => False) hb) (fun x => x)
theorem RowN.drew {w : World} {g : Nat} {xs : List Ent} (h : RowN w g xs) : RowN w.drew g xs := ⟨h.obj⟩
theorem RowN.drewN {w : World} {g : Nat} {xs : List Ent} (h : RowN w g xs) (n : Nat) : RowN (w.drewN n) g xs := ⟨h.obj⟩
theorem RowN.alloc {w : World} {g : Nat} {xs : List Ent} (h : RowN w g xs) (o : Obj) : RowN (w.alloc o) g xs := h.only ((Only.refl (fun _ => False) w).alloc o) (fun x => x)
theorem ent_set (xs : List Ent) (i j : Nat) (x : Ent) (hi : i < xs.length) : (xs.set i x).getD j ent0 = if j = i then x else xs.getD j ent0 := by
  simp only [List.getD_eq_getElem?_getD, List.getElem?_set]
  by_cases e : i = j
  · subst e; simp [hi]
  · rw [if_neg e, if_neg (fun x => e x.symm)]
theorem RowN.set {w : World} {g : Nat} {xs : List Ent} (h : RowN w g xs) {i : Nat} (hi : i < xs.length) (n : Int) (s : ByteArray) : RowN ((w.setCell ⟨g, i * 2, none⟩ (.int .i64 n)).setCell ⟨g, i * 2 + 1, none⟩ (.string s)) g (xs.set i (n, bs s)) := by
  obtain ⟨cur, h1, h2, h3⟩ := h.obj
  refine ⟨_, rblk_setCell (rblk_setCell h1 _) _, by simpa using h2, fun j hj => ?_⟩
  rw [List.length_set] at hj
  obtain ⟨a, b⟩ := h3 j hj
  rw [ent_set _ _ _ _ hi]
  simp only [Array.getElem?_setIfInBounds, Array.size_setIfInBounds]
  by_cases e : j = i
  · subst e
    rw [if_pos rfl, if_neg (by omega), if_pos rfl, if_pos (by omega), if_pos rfl, if_pos (by omega)]
    exact ⟨rfl, by rw [ba_bs]⟩
  · rw [if_neg e, if_neg (by omega), if_neg (by omega), if_neg (by omega), if_neg (by omega)]
    exact ⟨a, b⟩
theorem RowN.take {w : World} {g : Nat} {xs : List Ent} (h : RowN w g xs) (n : Nat) : RowN w g (xs.take n) := by
  obtain ⟨cur, h1, h2, h3⟩ := h.obj
  refine ⟨cur, h1, by rw [List.length_take]; omega, fun i hi => ?_⟩
  rw [List.length_take] at hi
  have e : (xs.take n).getD i ent0 = xs.getD i ent0 := by
    simp only [List.getD_eq_getElem?_getD, List.getElem?_take, if_pos (show i < n by omega)]
  rw [e]
  exact h3 i (by omega)
theorem madeN_at (n i : Nat) (hi : i < n) : (madeCells #[.int .i64 0, .string ⟨#[]⟩] (n * 2))[i * 2]? = some (.int .i64 0) ∧ (madeCells #[.int .i64 0, .string ⟨#[]⟩] (n * 2))[i * 2 + 1]? = some (.string ⟨#[]⟩) := by
  unfold madeCells
  constructor
  · rw [Array.getElem?_map, Array.getElem?_range, if_pos (by omega), Option.map_some]
    rw [show (i * 2) % (#[Value.int .i64 0, .string ⟨#[]⟩]).size = 0 by show (i * 2) % 2 = 0; omega]
    rfl
  · rw [Array.getElem?_map, Array.getElem?_range, if_pos (by omega), Option.map_some]
    rw [show (i * 2 + 1) % (#[Value.int .i64 0, .string ⟨#[]⟩]).size = 1 by show (i * 2 + 1) % 2 = 1; omega]
    rfl
theorem RowN.made (w : World) (n : Nat) : RowN (w.alloc (.cells (madeCells #[.int .i64 0, .string ⟨#[]⟩] (n * 2)) 62)) w.heap.size (List.replicate n ent0) := by
  refine ⟨⟨_, (MapKept.heap_alloc w _).1, by rw [size_madeCells, List.length_replicate]; exact Nat.le_refl _, fun i hi => ?_⟩⟩
  rw [List.length_replicate] at hi
  obtain ⟨a, b⟩ := madeN_at n i hi
  have e : (List.replicate n ent0).getD i ent0 = ent0 := by simp [List.getD_eq_getElem?_getD, List.getElem?_replicate, hi]
  rw [e]
  exact ⟨a, b⟩
theorem info_entry : (Tryz.prog.info? 62).map (fun i => (i.zero, i.size, i.bytes)) = some (some (.agg #[.int .i64 0, .string ⟨#[]⟩]), 2, 24) := by kernel_rfl
theorem cells_ent : (Value.agg #[.int .i64 0, .string ⟨#[]⟩]).cells = #[.int .i64 0, .string ⟨#[]⟩] := by kernel_rfl
theorem make_ents (n : Nat) (hn : n ≤ 100000) (W : World) : (Instr.makeSlice 63 (.int .i64 n) (.int .i64 n)).run Tryz.prog W = .ok (.slice (some ⟨W.heap.size, 0, none⟩) n n) (W.alloc (.cells (madeCells #[.int .i64 0, .string ⟨#[]⟩] (n * 2)) 62)) := by
  have h := info_entry
  obtain ⟨i, hi, hh⟩ := Option.map_eq_some_iff.1 h
  simp only [Prod.mk.injEq] at hh
  obtain ⟨hz, hs, hb⟩ := hh
  have := run_makeSlice (P := Tryz.prog) W 63 62 i _ Tryz.underlying63 hi hz .i64 .i64 n n (by omega) (Int.le_refl _) (by rw [hs]; omega) (by rw [hb]; omega) (by omega)
  rw [hs, cells_ent] at this
  simpa using this
/-- The rest of a row cleared. -/
def zE (n : Nat) : List Value := (Builtin.zeroCells (Value.agg #[.int .i64 0, .string ⟨#[]⟩]).cells n).toList
theorem zE_len (n : Nat) : (zE n).length = n * 2 := by
  unfold zE Builtin.zeroCells
  simp
  rfl
theorem zE_one (n : Nat) : ∀ v ∈ zE n, v.oneCell' = true := by
  intro v hv
  unfold zE Builtin.zeroCells at hv
  simp only [Array.toList_map, List.mem_map] at hv
  obtain ⟨j, hj, rfl⟩ := hv
  rw [cells_ent]
  rcases (show j % 2 = 0 ∨ j % 2 = 1 by omega) with h | h
  · rw [show j % (#[Value.int .i64 0, .string ⟨#[]⟩]).size = 0 from h]; rfl
  · rw [show j % (#[Value.int .i64 0, .string ⟨#[]⟩]).size = 1 from h]; rfl
theorem zero_ent (w : World) : (zeroValue 62).run Tryz.prog w = .ok (.agg #[.int .i64 0, .string ⟨#[]⟩]) w := by kernel_rfl
theorem setCells_blk : ∀ (vs : List Value) (b o : Nat) (w : World) (cur : Array Value) (t : TypeId), w.heap[b]? = some (.cells cur t) → ∃ cur', (w.setCells b o vs).heap[b]? = some (.cells cur' t) ∧ cur'.size = cur.size ∧ ∀ j, j < o → cur'[j]? = cur[j]?
  | [], b, o, w, cur, t, h => ⟨cur, h, rfl, fun _ _ => rfl⟩
  | v :: vs, b, o, w, cur, t, h => by
    obtain ⟨cur', h1, h2, h3⟩ := setCells_blk vs b (o + 1) (w.setCell ⟨b, o, none⟩ v) _ t (rblk_setCell h v)
    refine ⟨cur', h1, by rw [h2]; simp, fun j hj => ?_⟩
    rw [h3 j (by omega), Array.getElem?_setIfInBounds_ne (by omega)]
theorem setCells_only : ∀ (vs : List Value) (b o : Nat) (S : Nat → Prop) (a w : World), Only S a w → (b < a.heap.size → S b) → Only S a (w.setCells b o vs)
  | [], b, o, S, a, w, h, hb => h
  | v :: vs, b, o, S, a, w, h, hb => setCells_only vs b (o + 1) S a _ (h.setCell (p := ⟨b, o, none⟩) hb v) hb
theorem RowN.clear {w : World} {g : Nat} {xs : List Ent} (h : RowN w g xs) (k : Nat) (hk : k < xs.length) (ty : TypeId) (c : Nat) :
    (Builtin.clear_ #[63] ty #[.slice (some ⟨g, k * 2, none⟩) (xs.length - k) c]).run Tryz.prog w = .ok (.tuple #[]) (w.setCells g (k * 2) (zE (xs.length - k))) ∧ RowN (w.setCells g (k * 2) (zE (xs.length - k))) g (xs.take k) := by
  obtain ⟨cur, h1, h2, h3⟩ := h.obj
  have hfr := h.fr
  constructor
  · have hst := run_storeCells_cells (P := Tryz.prog) g (k * 2) (zE (xs.length - k)) 0 w
      (fun j hj => by
        rw [zE_len] at hj
        have hl : k * 2 + 0 + j < cur.size := by omega
        simp [World.cell?, h1]; omega)
      (fun j hj => hfr _) (zE_one _)
    simp only [Nat.add_zero] at hst
    obtain ⟨m, hm⟩ : ∃ m, xs.length - k = m + 1 := ⟨xs.length - k - 1, by omega⟩
    rw [hm] at hst ⊢
    unfold zE at hst ⊢
    simp [Builtin.clear_, run_underlying Tryz.underlying63, zero_ent, hst]
  · obtain ⟨cur', g1, g2, g3⟩ := setCells_blk (zE (xs.length - k)) g (k * 2) w cur _ h1
    refine ⟨cur', g1, by rw [List.length_take, g2]; omega, fun i hi => ?_⟩
    rw [List.length_take] at hi
    obtain ⟨a, b⟩ := h3 i (by omega)
    have e : (xs.take k).getD i ent0 = xs.getD i ent0 := by
      simp only [List.getD_eq_getElem?_getD, List.getElem?_take, if_pos (show i < k by omega)]
    rw [e, g3 _ (by omega), g3 _ (by omega)]
    exact ⟨a, b⟩
end Go.Proofs.YtlmnmjnmilaipaaGreatDoor

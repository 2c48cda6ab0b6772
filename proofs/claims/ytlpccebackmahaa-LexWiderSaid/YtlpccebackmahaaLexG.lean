/- Layer 7: rows of ints that are written in place. -/
import Derived.Test.YtlpccebackmahaaLexF
set_option linter.unusedVariables false
set_option linter.unusedSimpArgs false
namespace Go.Proofs.Ytlpccebackmahaa
open Go.RowKit

theorem int_at2 {w : World} {A : Option Addr} {xs : List Int} (h : ReadsI w A xs) {i : Nat} (hi : i < xs.length) {wr : World} (ho : Kept w wr) : ∃ bk off, A = some ⟨bk, off, none⟩ ∧ bk < wr.heap.size ∧ bk < w.heap.size ∧ wr.cell? ⟨bk, off + i, none⟩ = some (.int .i64 (xs.getD i 0)) := by
  obtain ⟨bk, off, h1, h2, h3⟩ := h.cell i hi
  exact ⟨bk, off, h1, Nat.lt_of_lt_of_le h2 ho.size, h2, (ho.cell (p := ⟨bk, off + i, none⟩) h2 (fun x => x)).trans h3⟩
theorem edge_at2 {w : World} {A : Option Addr} {E : List Ed} (h : ReadsE w A E) {i : Nat} (hi : i < E.length) {wr : World} (ho : Kept w wr) : ∃ bk off, A = some ⟨bk, off, none⟩ ∧ bk < wr.heap.size ∧ bk < w.heap.size ∧
    wr.cell? ⟨bk, off + i * 3, none⟩ = some (.int .i64 (E.getD i default).f) ∧ wr.cell? ⟨bk, off + i * 3 + 1, none⟩ = some (.int .i64 (E.getD i default).t) ∧ wr.cell? ⟨bk, off + i * 3 + 2, none⟩ = some (.int .i64 (E.getD i default).c) := by
  obtain ⟨bk, off, h1, h2, h3⟩ := h.cell i hi
  obtain ⟨bk', off', h1', h2', h3'⟩ := (h.fix ho).cell i hi
  have : (⟨bk, off, none⟩ : Addr) = ⟨bk', off', none⟩ := Option.some.inj (h1.symm.trans h1')
  simp only [Addr.mk.injEq] at this
  obtain ⟨rfl, rfl, _⟩ := this
  exact ⟨bk, off, h1, h2', h2, h3'⟩

/-- A block of the code's own that begins with ints. -/
structure RowI (w : World) (g : Nat) (xs : List Int) : Prop where
  obj : ∃ cur, w.heap[g]? = some (.cells cur 3) ∧ xs.length ≤ cur.size ∧ ∀ i, i < xs.length → cur[i]? = some (.int .i64 (xs.getD i 0))
theorem RowI.lt {w : World} {g : Nat} {xs : List Int} (h : RowI w g xs) : g < w.heap.size := by
  obtain ⟨cur, h1, _⟩ := h.obj
  exact (Array.getElem?_eq_some_iff.1 h1).1
theorem RowI.at {w : World} {g : Nat} {xs : List Int} (h : RowI w g xs) {i : Nat} (hi : i < xs.length) : w.cell? ⟨g, i, none⟩ = some (.int .i64 (xs.getD i 0)) := by
  obtain ⟨cur, h1, h2, h3⟩ := h.obj
  unfold World.cell?
  simp [h1, h3 i hi]
theorem RowI.fr {w : World} {g : Nat} {xs : List Int} (h : RowI w g xs) (i : Nat) : w.frozen? ⟨g, i, none⟩ = false := by
  obtain ⟨cur, h1, _⟩ := h.obj
  simp [World.frozen?, h1]
theorem RowI.only {w w' : World} {g : Nat} {xs : List Int} (h : RowI w g xs) {S : Nat → Prop} (ho : Only S w w') (hg : ¬ S g) : RowI w' g xs := by
  obtain ⟨cur, h1, h2⟩ := h.obj
  exact ⟨cur, (ho.block g h.lt hg).trans h1, h2⟩
theorem RowI.fix {w w' : World} {g : Nat} {xs : List Int} (h : RowI w g xs) (ho : Kept w w') : RowI w' g xs := h.only ho (fun x => x)
theorem RowI.reads {w : World} {g : Nat} {xs : List Int} (h : RowI w g xs) (hl : xs.length ≤ maxLen) : ReadsI w (some ⟨g, 0, none⟩) xs :=
  ⟨fun i hi => ⟨g, 0, rfl, h.lt, by rw [Nat.zero_add]; exact h.at hi⟩, hl⟩
theorem RowI.set {w : World} {g : Nat} {xs : List Int} (h : RowI w g xs) {i : Nat} (hi : i < xs.length) (x : Int) : RowI (w.setCell ⟨g, i, none⟩ (.int .i64 x)) g (xs.set i x) := by
  obtain ⟨cur, h1, h2, h3⟩ := h.obj
  have hg := h.lt
  refine ⟨cur.setIfInBounds i (.int .i64 x), ?_, by simpa using h2, fun j hj => ?_⟩
  · simp [World.setCell, Array.getElem?_modify, h1]
  · rw [List.length_set] at hj
    rw [Array.getElem?_setIfInBounds]
    by_cases e : i = j
    · subst e
      rw [if_pos rfl, if_pos (by omega), getD_set _ _ _ _ hj, if_pos rfl]
    · rw [if_neg e, h3 j hj, getD_set _ _ _ _ hi, if_neg (fun x => e x.symm)]
theorem RowI.drew {w : World} {g : Nat} {xs : List Int} (h : RowI w g xs) : RowI w.drew g xs := ⟨h.obj⟩
theorem RowI.drewN {w : World} {g : Nat} {xs : List Int} (h : RowI w g xs) (n : Nat) : RowI (w.drewN n) g xs := ⟨h.obj⟩
theorem RowI.made (w : World) (n : Nat) : RowI (w.alloc (.cells (Array.replicate n (.int .i64 0)) 3)) w.heap.size (List.replicate n 0) := by
  refine ⟨⟨_, (MapKept.heap_alloc w _).1, by simp, fun i hi => ?_⟩⟩
  rw [List.length_replicate] at hi
  rw [zeros_get]
  simp [hi]

theorem info_parts {t : TypeId} {z : Value} {a b : Nat} (h : (Try.prog.info? t).map (fun i => (i.zero, i.size, i.bytes)) = some (some z, a, b)) : ∃ i, Try.prog.info? t = some i ∧ i.zero = some z ∧ i.size = a ∧ i.bytes = b := by
  cases hi : Try.prog.info? t with
  | none => rw [hi] at h; cases h
  | some i =>
    rw [hi] at h
    simp only [Option.map_some, Option.some.injEq, Prod.mk.injEq] at h
    exact ⟨i, rfl, h.1, h.2.1, h.2.2⟩
theorem infoInt : (Try.prog.info? 3).map (fun i => (i.zero, i.size, i.bytes)) = some (some (.int .i64 0), 1, 8) := by kernel_rfl
theorem infoBool : (Try.prog.info? 4).map (fun i => (i.zero, i.size, i.bytes)) = some (some (.bool false), 1, 1) := by kernel_rfl
theorem made_one (v : Value) (n : Nat) (hv : v.cells = #[v]) : madeCells v.cells (n * 1) = Array.replicate n v := by
  rw [hv, Nat.mul_one]
  apply Array.ext
  · simp [madeCells]
  · intro i h1 h2
    simp [madeCells, Nat.mod_one]
theorem make_ints (n : Nat) (hn : n ≤ 300) (W : World) : (Instr.makeSlice 25 (.int .i64 n) (.int .i64 n)).run Try.prog W = .ok (.slice (some ⟨W.heap.size, 0, none⟩) n n) (W.alloc (.cells (Array.replicate n (.int .i64 0)) 3)) := by
  obtain ⟨i0, hi, hz0, hz1, hz2⟩ := info_parts infoInt
  have := run_make (P := Try.prog) W 25 3 i0 _ Try.underlying25 hi hz0 .i64 .i64 n n (by omega) (by omega) (by rw [hz2]; omega) (by omega)
  rw [this, hz1, Int.toNat_natCast, made_one _ _ rfl]
theorem make_bools (n : Nat) (hn : n ≤ 300) (W : World) : (Instr.makeSlice 61 (.int .i64 n) (.int .i64 n)).run Try.prog W = .ok (.slice (some ⟨W.heap.size, 0, none⟩) n n) (W.alloc (.cells (Array.replicate n (.bool false)) 4)) := by
  obtain ⟨i0, hi, hz0, hz1, hz2⟩ := info_parts infoBool
  have := run_make (P := Try.prog) W 61 4 i0 _ Try.underlying61 hi hz0 .i64 .i64 n n (by omega) (by omega) (by rw [hz2]; omega) (by omega)
  rw [this, hz1, Int.toNat_natCast, made_one _ _ rfl]

/-- The balance behind the first k edges. -/
def balK (N : Nat) (E : List Ed) (fl : List Int) (k : Nat) : List Int := (verts N).map fun v => outK E fl v k

theorem balK_len (n : Nat) (E : List Ed) (fl : List Int) (k : Nat) : (balK n E fl k).length = n := by simp [balK, verts]
theorem balK_get (n : Nat) (E : List Ed) (fl : List Int) (k : Nat) (v : Nat) (hv : v < n) : (balK n E fl k).getD v 0 = outK E fl v k := by
  unfold balK verts
  simp [List.getD_eq_getElem?_getD, hv]
theorem list_ext0 {a b : List Int} (hl : a.length = b.length) (h : ∀ i, i < a.length → a.getD i 0 = b.getD i 0) : a = b := by
  apply List.ext_getElem hl
  intro i h1 h2
  have := h i h1
  simpa [List.getD_eq_getElem?_getD, h1, h2] using this
theorem balK_succ (n : Nat) (E : List Ed) (fl : List Int) (k f t : Nat) (hf : f < n) (ht : t < n) (hft : f ≠ t) (h1 : (E.getD k default).f = f) (h2 : (E.getD k default).t = t) :
    balK n E fl (k + 1) = ((balK n E fl k).set f (outK E fl f k + fl.getD k 0)).set t (outK E fl t k - fl.getD k 0) := by
  apply list_ext0 (by simp [balK_len])
  intro v hv
  rw [balK_len] at hv
  rw [getD_set _ _ _ _ (by rw [List.length_set, balK_len]; exact ht), getD_set _ _ _ _ (by rw [balK_len]; exact hf), balK_get _ _ _ _ _ hv, balK_get _ _ _ _ _ hv, outK_succ, h1, h2]
  by_cases e1 : v = t
  · subst e1
    rw [if_pos rfl, if_neg (by omega), if_pos rfl]; omega
  · rw [if_neg e1, if_neg (show ¬ ((t : Nat) : Int) = v by omega)]
    by_cases e2 : v = f
    · subst e2
      rw [if_pos rfl, if_pos rfl]; omega
    · rw [if_neg e2, if_neg (show ¬ ((f : Nat) : Int) = v by omega)]; omega
theorem balK_zero (n : Nat) (E : List Ed) (fl : List Int) : balK n E fl 0 = List.replicate n 0 := by
  apply list_ext0 (by simp [balK_len])
  intro v hv
  rw [balK_len] at hv
  rw [balK_get _ _ _ _ _ hv, outK_zero, zeros_get]

set_option maxHeartbeats 1000000 in
set_option maxRecDepth 100000 in
theorem gbalance_any (N : Int) (A B : Option Addr) (c d : Nat) (E : List Ed) (fl : List Int) (w : World) (hE : ReadsE w A E) (hF : ReadsI w B fl) (hN : NetOk N E) (hl : fl.length = E.length) (hs : Small fl) :
    Calls Try.prog 60 #[.agg #[.int .i64 N, .slice A E.length c], .slice B fl.length d] w fun e w' => ∃ g, e = .returned (.slice (some ⟨g, 0, none⟩) N.toNat N.toNat) ∧ w.heap.size ≤ g ∧ RowI w' g (balK N.toNat E fl E.length) ∧ Kept w w' := by
  have HF := Lib.hid hF
  have HE := Lib.hid hE
  have HS := Lib.hid hs
  have n2 := hN.1
  have n3 := hN.2.1
  obtain ⟨n, rfl⟩ : ∃ n : Nat, N = n := ⟨N.toNat, by omega⟩
  have hE2 := hN.2.2.2
  have lE := hN.2.2.1
  have HE2 := Lib.hid hE2
  clear hF hE hs hN hE2
  rw [hl]
  have HL := Lib.hid hl
  clear hl
  have hmk := make_ints n (by omega)
  go_enter Try.func60, Try.ntmps60
  go_wp2
  go_loopw [6, 7, 14] (fun _ _ i wr => ∃ k : Nat, k ≤ E.length ∧ i = .int .i64 k ∧ RowI wr (w.heap.size + 1) (balK n E fl k) ∧ Kept w wr) (fun _ _ i _ => E.length - (intOf i).toNat)
  case atStart => exact ⟨0, Nat.zero_le _, rfl, by rw [balK_zero]; simpa using RowI.made (w.alloc (.cells #[.int .i64 n, .slice A E.length c] 24)) n, ((Only.refl _ _).alloc _).alloc _⟩
  case round =>
    obtain ⟨k, hk, rfl, hr, ho⟩ := hrel
    have HR := Lib.hid hr
    have HO := Lib.hid ho
    have lr := hr.lt
    clear hr ho
    by_cases hlt : k < E.length
    · obtain ⟨bk, off, rfl, lb, e0, e1, e2⟩ := edge_at HE.out hlt HO.out
      obtain ⟨bk2, off2, rfl, lb2, lb3, e3⟩ := int_at2 HF.out (by rw [HL.out]; exact hlt) HO.out
      have nb2 : bk2 ≠ w.heap.size + 1 := by omega
      obtain ⟨b1, b2⟩ := HS.out k
      obtain ⟨⟨f1, f2⟩, ⟨t1, t2⟩, hft, c1, c2⟩ := (edok_at (Nat.le_refl _)).1 HE2.out k hlt
      obtain ⟨f, hf⟩ : ∃ f : Nat, (E.getD k default).f = f := ⟨(E.getD k default).f.toNat, by omega⟩
      obtain ⟨t, ht⟩ : ∃ t : Nat, (E.getD k default).t = t := ⟨(E.getD k default).t.toNat, by omega⟩
      have hsucc := balK_succ n E fl k f t (by omega) (by omega) (by omega) hf ht
      rw [hf] at e0 f1 f2 hft
      rw [ht] at e1 t1 t2 hft
      have r1 := HR.out.at (i := f) (by rw [balK_len]; omega)
      have r2 := HR.out.at (i := t) (by rw [balK_len]; omega)
      rw [balK_get _ _ _ _ _ (by omega)] at r1 r2
      obtain ⟨o1, o2⟩ := outK_small (E := E) HS.out f k
      obtain ⟨o3, o4⟩ := outK_small (E := E) HS.out t k
      have fr1 := HR.out.fr f
      have fr2 := HR.out.fr t
      have HSU := Lib.hid hsucc
      have HX := Lib.hid (And.intro hf ht)
      clear hsucc hf ht
      generalize fl.getD k 0 = x at *
      generalize outK E fl f k = pf at *
      generalize outK E fl t k = pt at *
      generalize (E.getD k default).c = y at *
      have hne : f ≠ t := by omega
      have hne2 : t ≠ f := by omega
      go_wp2
      go_region
      go_wp2
      go_region
      go_wp2
      go_roundw
      case rel => exact ⟨k + 1, by omega, by go_num, by rw [HSU.out]; exact ⟨(((HR.out.set (i := f) (by rw [balK_len]; omega) (pf + x)).set (i := t) (by rw [List.length_set, balK_len]; omega) (pt - x)).fix ((Only.refl _ _).alloc _)).obj⟩,
        ((((HO.out.setCell (p := ⟨w.heap.size + 1, f, none⟩) (fun h => absurd h (by simp)) _).setCell (p := ⟨w.heap.size + 1, t, none⟩) (fun h => absurd h (by simp)) _).alloc _).drew).drew⟩
      case measure => simp [intOf]; omega
    · obtain rfl : k = E.length := by omega
      go_wp2
      go_ret
      exact ⟨_, rfl, by omega, HR.out, HO.out⟩
end Go.Proofs.Ytlpccebackmahaa

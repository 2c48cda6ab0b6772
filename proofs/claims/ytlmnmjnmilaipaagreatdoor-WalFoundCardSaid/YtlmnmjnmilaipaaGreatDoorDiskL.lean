/- The names of a disk's files, sorted. -/
import Derived.Test.YtlmnmjnmilaipaaGreatDoorDiskAF
import Derived.Test.YtlmnmjnmilaipaaGreatDoorIter
set_option linter.unusedVariables false
namespace Go.Proofs.YtlmnmjnmilaipaaGreatDoor
open Go.RowKit Go.WideMaps Go.Maps Go.Sort Go.Shelf

/-- A map of strings as the shelf's contracts know it. -/
theorem MapIs.owns {ν : Type} {vv : ν → Value} {P : Program} {k : TypeId} {w : World} {mb : Nat} {m : List (ByteArray × ν)} (h : MapIs .string .string vv w mb m) (hk : P.underlying k = some .string) (hs : ∀ p ∈ m, p.1.size ≤ maxLen) (hn : m.length ≤ maxLen) :
    ∃ D0 : DataW Unit, w.ownsMap P k (fun _ => some (.nil, [])) mb m.length D0 ∧ Maps.size D0 = m.length ∧ (strKeys D0).Perm (m.map (fun p => p.1.data.toList)) := by
  obtain ⟨es, clock, hb, hst, he⟩ := h
  have hsz := MapIs.size (d := .string) he
  have hrd : ∀ x ∈ es.toList, ∃ p ∈ m, x.key = .string p.1 ∧ WideElems.rd P k (fun _ => some ((.nil : DataW Unit), [])) x = some (.string p.1.data.toList, .nil) := by
    intro x hx
    obtain ⟨j, hj⟩ := List.getElem?_of_mem hx
    obtain ⟨p, hp, h2, _⟩ := at_pair he hj
    have hm := List.mem_of_getElem? hp
    exact ⟨p, hm, h2, by simp [WideElems.rd, h2, keyOf_string_mk hk (hs p hm)]⟩
  refine ⟨_, ⟨es, clock, hb, ⟨by rw [hsz]; exact hn, hst, fun x hx => ?_⟩, Nat.le_of_eq hsz, rfl⟩, ?_, ?_⟩
  · obtain ⟨p, _, _, h3⟩ := hrd x hx
    exact ⟨_, h3⟩
  · show List.length _ = _
    rw [length_sorted, List.length_map, ← hsz]
    simp
  · show (List.map (fun p : Lit × DataW Unit => strOf p.1) _).Perm _
    refine ((WideShapes.sorted_perm _).map _).trans ?_
    have : (es.toList.map (WideElems.rg P k (fun _ => some ((.nil : DataW Unit), [])))).map (fun p => strOf p.1) = m.map (fun p => p.1.data.toList) := by
      rw [List.map_map]
      apply List.ext_getElem?
      intro j
      have h4 := congrArg (fun l => l[j]?) he
      simp only [List.getElem?_map] at h4 ⊢
      cases hj : es.toList[j]? with
      | none => rw [hj] at h4; cases hm : m[j]? with
        | none => rfl
        | some p => rw [hm] at h4; simp at h4
      | some e =>
        obtain ⟨p, hp, h2, _⟩ := at_pair he hj
        rw [hp]
        have := hs p (List.mem_of_getElem? hp)
        simp [WideElems.rg, WideElems.rd, h2, keyOf_string_mk hk this, strOf]
    rw [this]

set_option maxHeartbeats 1000000 in
theorem list_any (b mb : Nat) (D : Dk) (w : World) (h : DiskIs w b mb D) (hD : D.Ok) :
    Calls Tryz.prog 15 #[.pointer (some ⟨b, 0, none⟩)] w fun e w' => ∃ v, e = .returned v ∧ w'.ownsRow w.heap.size 9 1 v D.files.length (D.names.map encStr) ∧ (v = .slice none 0 0 ↔ D.files = []) ∧ Below w.heap.size w w' := by
  have hs : ∀ p ∈ D.files, p.1.size ≤ maxLen := fun p hp => by have := hD.names p hp; simp [isNm] at this; unfold maxLen; omega
  have hml := hD.many
  obtain ⟨D0, hown, hsz, hperm⟩ := h.map.owns (P := Tryz.prog) Tryz.underlying9 hs (by unfold maxLen; omega)
  have c0 := h.c0
  have lb := h.lt
  refine (callsIn_wide (n := 6)).1 ?_
  have hfK : Fence.wide.fn 44 := trivial
  have hfS : Fence.wide.fn 43 := trivial
  refine callsIn_of_wp Tryz.func15 rfl trivial ?_ rfl
  simp only [Tryz.ntmps15, List.size_toArray, List.length_cons, List.length_nil, Nat.reduceAdd, Nat.reduceSub, Array.replicate_succ, Array.replicate_zero, List.push_toArray, List.append_toArray, List.nil_append, List.cons_append]
  have HS := Lib.hid hsz
  have HP := Lib.hid hperm
  have HN := Lib.hid hD
  have hmax : Maps.size D0 ≤ maxLen := by rw [hsz]; unfold maxLen; omega
  have hbytes : Maps.size D0 * 16 ≤ 140737488355328 := by rw [hsz]; omega
  clear hsz hperm hD hs h
  gi_wp2_with (first
    | (gi_at_call 44; refine (Tryz.maps_Keys_44 _ _).mono ?_; rintro e w' ⟨rfl, rfl⟩)
    | (gi_at_call 43; refine (Tryz.slices_Sorted_keys_43_44 mb D.files.length D0 _ w hown hmax hbytes).mono ?_; rintro e w' ⟨v, ss, rfl, hS, hrow, hnil, hb⟩))
  go_ret
  have e1 : ss.mergeSort (fun x y => decide (x ≤ y)) = D.names := mergeSort_of_perm (hS.trans HP.out)
  have e2 : ss.length = D.files.length := by rw [hS.length_eq, HP.out.length_eq, List.length_map]
  rw [e1, e2] at hrow
  refine ⟨v, rfl, ownsRow_base_a hrow (by simp), ?_, ((Below.refl _ w).alloc (Nat.le_refl _) _).trans (hb.mono (by simp))⟩
  rw [hnil]
  constructor
  · rintro rfl
    exact List.eq_nil_of_length_eq_zero e2.symm
  · intro h0
    rw [h0] at e2
    exact List.eq_nil_of_length_eq_zero e2
end Go.Proofs.YtlmnmjnmilaipaaGreatDoor

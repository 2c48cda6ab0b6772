/- Maps as lists of pairs: what a look-up, a store, a delete and a length come to. No program is named here. -/
import Derived.WalkKit
import Derived.MapKept
import Derived.Lib.Hide
set_option linter.unusedVariables false
set_option linter.unusedSimpArgs false
namespace Go.Proofs.YtlmnmjnmilaipaaGreatDoor
open Go.MapKept

/-- The world with another object in a block. -/
def putM (w : World) (b : Nat) (o : Obj) : World := { w with heap := w.heap.setIfInBounds b o }

variable {κ ν : Type} [DecidableEq κ]

/-- The value that a list of pairs has at a key. -/
def aget (m : List (κ × ν)) (k : κ) : Option ν := (m.find? (fun p => decide (p.1 = k))).map (·.2)
/-- The list with a value at a key: in its place, or behind all. -/
def aput (m : List (κ × ν)) (k : κ) (v : ν) : List (κ × ν) := if (aget m k).isSome then m.map (fun p => if p.1 = k then (k, v) else p) else m ++ [(k, v)]
/-- The list without a key. -/
def adel (m : List (κ × ν)) (k : κ) : List (κ × ν) := m.filter (fun p => decide (p.1 ≠ k))

/-- How keys are laid: one to one, and of a kind that the model finds at once. -/
structure KeyK (d : TypeDesc) (kk : κ → Value) : Prop where
  inj : ∀ a b, kk a = kk b → a = b
  isKey : ∀ a, IsKey d (kk a)

theorem keyK_string : KeyK .string Value.string := ⟨fun _ _ h => by injection h, fun _ => trivial⟩
theorem keyK_int (k : IntKind) : KeyK (.int k) (Value.int k) := ⟨fun _ _ h => by injection h, fun _ => rfl⟩

/-- Block b is a map that reads as the pairs of m. -/
def MapIs (d : TypeDesc) (kk : κ → Value) (vv : ν → Value) (w : World) (b : Nat) (m : List (κ × ν)) : Prop :=
  ∃ es clock, w.heap[b]? = some (.map es clock) ∧ Stamped es clock ∧ es.toList.map (fun e => (e.key, e.val)) = m.map (fun p => (kk p.1, vv p.2))

omit [DecidableEq κ] in
theorem MapIs.of_heap {d : TypeDesc} {kk : κ → Value} {vv : ν → Value} {w w' : World} {b : Nat} {m : List (κ × ν)} (h : MapIs d kk vv w b m) (e : w'.heap[b]? = w.heap[b]?) : MapIs d kk vv w' b m := by
  obtain ⟨es, clock, h1, h2⟩ := h
  exact ⟨es, clock, e.trans h1, h2⟩
omit [DecidableEq κ] in
theorem MapIs.lt {d : TypeDesc} {kk : κ → Value} {vv : ν → Value} {w : World} {b : Nat} {m : List (κ × ν)} (h : MapIs d kk vv w b m) : b < w.heap.size := by
  obtain ⟨es, clock, h1, h2⟩ := h
  exact (Array.getElem?_eq_some_iff.1 h1).1
omit [DecidableEq κ] in
theorem MapIs.drew {d : TypeDesc} {kk : κ → Value} {vv : ν → Value} {w : World} {b : Nat} {m : List (κ × ν)} (h : MapIs d kk vv w b m) : MapIs d kk vv w.drew b m := h
omit [DecidableEq κ] in
theorem MapIs.alloc {d : TypeDesc} {kk : κ → Value} {vv : ν → Value} {w : World} {b : Nat} {m : List (κ × ν)} (h : MapIs d kk vv w b m) (o : Obj) : MapIs d kk vv (w.alloc o) b m :=
  h.of_heap (RowKit.Below.heap_alloc w o b h.lt)
omit [DecidableEq κ] in
theorem MapIs.setCell {d : TypeDesc} {kk : κ → Value} {vv : ν → Value} {w : World} {b : Nat} {m : List (κ × ν)} (h : MapIs d kk vv w b m) (a : Addr) (v : Value) : MapIs d kk vv (w.setCell a v) b m := by
  obtain ⟨es, clock, h1, h2⟩ := h
  refine ⟨es, clock, ?_, h2⟩
  simp only [World.setCell, Array.getElem?_modify, h1]
  split <;> simp
omit [DecidableEq κ] in
theorem MapIs.made (d : TypeDesc) (kk : κ → Value) (vv : ν → Value) (w : World) : MapIs d kk vv (w.alloc (.map #[] 0)) w.heap.size ([] : List (κ × ν)) :=
  ⟨#[], 0, (heap_alloc w _).1, stamped_empty 0, rfl⟩

omit [DecidableEq κ] in
theorem MapIs.size {d : TypeDesc} {kk : κ → Value} {vv : ν → Value} {es : Array MapEntry} {m : List (κ × ν)} (h : es.toList.map (fun e => (e.key, e.val)) = m.map (fun p => (kk p.1, vv p.2))) : es.size = m.length := by
  have := congrArg List.length h
  simpa using this

omit [DecidableEq κ] in
theorem at_pair {kk : κ → Value} {vv : ν → Value} {es : List MapEntry} {m : List (κ × ν)} (h : es.map (fun e => (e.key, e.val)) = m.map (fun p => (kk p.1, vv p.2))) {j : Nat} {e : MapEntry} (he : es[j]? = some e) : ∃ p, m[j]? = some p ∧ e.key = kk p.1 ∧ e.val = vv p.2 := by
  have h1 := congrArg (fun l => l[j]?) h
  simp only [List.getElem?_map, he, Option.map_some] at h1
  cases hm : m[j]? with
  | none => rw [hm] at h1; simp at h1
  | some p =>
    rw [hm] at h1
    simp at h1
    exact ⟨p, rfl, h1.1, h1.2⟩

omit [DecidableEq κ] in
theorem keys_of {d : TypeDesc} {kk : κ → Value} (K : KeyK d kk) {vv : ν → Value} {es : List MapEntry} {m : List (κ × ν)} (h : es.map (fun e => (e.key, e.val)) = m.map (fun p => (kk p.1, vv p.2))) : ∀ x ∈ es, IsKey d x.key := by
  intro x hx
  obtain ⟨j, hj⟩ := List.getElem?_of_mem hx
  obtain ⟨p, _, h2, _⟩ := at_pair h hj
  rw [h2]
  exact K.isKey _

omit [DecidableEq κ] in
theorem nodup_of {d : TypeDesc} {kk : κ → Value} (K : KeyK d kk) {vv : ν → Value} {es : List MapEntry} {m : List (κ × ν)} (h : es.map (fun e => (e.key, e.val)) = m.map (fun p => (kk p.1, vv p.2))) (hn : (es.map (·.key)).Nodup) : (m.map (·.1)).Nodup := by
  have e1 : es.map (·.key) = (m.map (·.1)).map kk := by
    have := congrArg (List.map Prod.fst) h
    simpa [List.map_map, Function.comp_def] using this
  rw [e1] at hn
  exact List.Pairwise.of_map kk (fun a b h e => h (congrArg kk e)) hn

theorem aget_at {m : List (κ × ν)} (hn : (m.map (·.1)).Nodup) {j : Nat} {p : κ × ν} (hj : m[j]? = some p) : aget m p.1 = some p.2 := by
  induction m generalizing j with
  | nil => simp at hj
  | cons q m ih =>
    simp only [List.map_cons, List.nodup_cons] at hn
    cases j with
    | zero => simp at hj; subst hj; simp [aget]
    | succ j =>
      simp at hj
      have hq : q.1 ≠ p.1 := fun e => hn.1 (e ▸ List.mem_map.2 ⟨p, List.mem_of_getElem? hj, rfl⟩)
      have := ih hn.2 hj
      simp only [aget] at this ⊢
      rw [List.find?_cons_of_neg (by simpa using hq)]
      exact this

omit [DecidableEq κ] in
theorem find_of {d : TypeDesc} {kk : κ → Value} (K : KeyK d kk) {vv : ν → Value} [DecidableEq κ] {es : List MapEntry} {m : List (κ × ν)} (h : es.map (fun e => (e.key, e.val)) = m.map (fun p => (kk p.1, vv p.2))) (hn : (es.map (·.key)).Nodup) (k : κ) :
    (aget m k = none ∧ Instr.findNow d (kk k) es 0 = some none ∧ (∀ x ∈ es, x.key ≠ kk k) ∧ ∀ p ∈ m, p.1 ≠ k) ∨
    (∃ j e p, aget m k = some p.2 ∧ p.1 = k ∧ m[j]? = some p ∧ es[j]? = some e ∧ e.key = kk k ∧ e.val = vv p.2 ∧ Instr.findNow d (kk k) es 0 = some (some (j, e.val))) := by
  rcases findNow_spec (K.isKey k) es 0 (keys_of K h) with ⟨h1, h2⟩ | ⟨j, e, h1, h2, h3⟩
  · refine .inl ⟨?_, h1, h2, ?_⟩
    · simp only [aget, Option.map_eq_none_iff, List.find?_eq_none]
      intro p hp hpk
      obtain ⟨j, hj⟩ := List.getElem?_of_mem hp
      have h4 := congrArg (fun l => l[j]?) h
      simp only [List.getElem?_map, hj, Option.map_some] at h4
      cases he : es[j]? with
      | none => rw [he] at h4; simp at h4
      | some e =>
        rw [he] at h4
        simp at h4
        exact h2 e (List.mem_of_getElem? he) (by rw [h4.1, of_decide_eq_true hpk])
    · intro p hp hpk
      obtain ⟨j, hj⟩ := List.getElem?_of_mem hp
      have h4 := congrArg (fun l => l[j]?) h
      simp only [List.getElem?_map, hj, Option.map_some] at h4
      cases he : es[j]? with
      | none => rw [he] at h4; simp at h4
      | some e =>
        rw [he] at h4
        simp at h4
        exact h2 e (List.mem_of_getElem? he) (by rw [h4.1, hpk])
  · obtain ⟨p, hp, e1, e2⟩ := at_pair h h2
    have hpk : p.1 = k := K.inj _ _ (e1.symm.trans h3)
    refine .inr ⟨j, e, p, ?_, hpk, hp, h2, h3, e2, by simpa using h1⟩
    rw [← hpk]
    exact aget_at (nodup_of K h hn) hp

omit [DecidableEq κ] in
theorem map_eraseIdx' {α β : Type} (f : α → β) (l : List α) (i : Nat) : (l.eraseIdx i).map f = (l.map f).eraseIdx i := by
  induction l generalizing i with
  | nil => rfl
  | cons a l ih => cases i <;> simp [ih]
theorem adel_none {m : List (κ × ν)} {k : κ} (h : ∀ p ∈ m, p.1 ≠ k) : adel m k = m := List.filter_eq_self.2 (fun p hp => by simpa using h p hp)
theorem adel_at {m : List (κ × ν)} (hn : (m.map (·.1)).Nodup) {j : Nat} {p : κ × ν} {k : κ} (hj : m[j]? = some p) (hk : p.1 = k) : adel m k = m.eraseIdx j := by
  induction m generalizing j with
  | nil => simp at hj
  | cons q m ih =>
    simp only [List.map_cons, List.nodup_cons] at hn
    cases j with
    | zero =>
      simp at hj
      subst hj
      have : adel m k = m := adel_none fun r hr e => hn.1 (by rw [hk, ← e]; exact List.mem_map.2 ⟨r, hr, rfl⟩)
      simp only [adel] at this ⊢
      rw [List.filter_cons_of_neg (by simpa using hk)]
      simpa using this
    | succ j =>
      simp at hj
      have hq : q.1 ≠ k := fun e => hn.1 (by rw [e, ← hk]; exact List.mem_map.2 ⟨p, List.mem_of_getElem? hj, rfl⟩)
      have := ih hn.2 hj
      simp only [adel] at this ⊢
      rw [List.filter_cons_of_pos (by simpa using hq), this]
      rfl

section
variable {P : Program} {d : TypeDesc} {kk : κ → Value} {vv : ν → Value} {w : World} {b : Nat} {m : List (κ × ν)} {t kt et : TypeId}

/-- A look-up with its 'ok', the key being there. -/
theorem run_look_some (K : KeyK d kk) (ht : P.underlying t = some (.map kt et)) (hk : P.underlying kt = some d) (h : MapIs d kk vv w b m) {k : κ} {v : ν} (hv : aget m k = some v) (ok : Bool) :
    (Instr.lookup t (.map (some b)) (kk k) ok).run P w = .ok (if ok then .tuple #[vv v, .bool true] else vv v) w := by
  obtain ⟨es, clock, hb, hs, he⟩ := h
  rcases find_of K he hs.2.2 k with ⟨h1, h2, _⟩ | ⟨j, e, p, h1, h2, h3, h4, h5, h6, h7⟩
  · rw [h1] at hv; cases hv
  · rw [h1] at hv
    obtain rfl : p.2 = v := Option.some.inj hv
    simp [Instr.lookup, run_underlying ht, MapKept.run_getObj_map hb, run_checkKey hk (K.isKey k), run_findKey hk h7, Result.andThen, h6]

/-- .. the key not being there. -/
theorem run_look_none (K : KeyK d kk) (ht : P.underlying t = some (.map kt et)) (hk : P.underlying kt = some d) {z : Value} (hz : (zeroValue et).run P w = .ok z w) (h : MapIs d kk vv w b m) {k : κ} (hv : aget m k = none) (ok : Bool) :
    (Instr.lookup t (.map (some b)) (kk k) ok).run P w = .ok (if ok then .tuple #[z, .bool false] else z) w := by
  obtain ⟨es, clock, hb, hs, he⟩ := h
  rcases find_of K he hs.2.2 k with ⟨h1, h2, _⟩ | ⟨j, e, p, h1, h2, h3, h4, h5, h6, h7⟩
  · simp [Instr.lookup, run_underlying ht, MapKept.run_getObj_map hb, run_checkKey hk (K.isKey k), run_findKey hk h2, Result.andThen, hz]
  · rw [h1] at hv; cases hv

omit [DecidableEq κ] in
theorem run_len_mapIs (ht : P.underlying t = some (.map kt et)) (h : MapIs d kk vv w b m) (ty : TypeId) :
    (Builtin.len_ #[t] ty #[.map (some b)]).run P w = .ok (.int .i64 m.length) w := by
  obtain ⟨es, clock, hb, hs, he⟩ := h
  rw [← MapIs.size (d := d) he]
  simp [Builtin.len_, run_underlying ht, MapKept.run_getObj_map hb, Result.andThen, goInt]

/-- A store at a key. -/
theorem run_update_mapIs (K : KeyK d kk) (ht : P.underlying t = some (.map kt et)) (hk : P.underlying kt = some d) (h : MapIs d kk vv w b m) (k : κ) (v : ν) :
    ∃ o, (Instr.mapUpdate t (.map (some b)) (kk k) (vv v)).run P w = .ok () (putM w b o) ∧ MapIs d kk vv (putM w b o) b (aput m k v) := by
  obtain ⟨es, clock, hb, hs, he⟩ := h
  rcases find_of K he hs.2.2 k with ⟨h1, h2, h3, h4⟩ | ⟨j, e, p, h1, h2, h3, h4, h5, h6, h7⟩
  · refine ⟨.map (es.push { key := kk k, val := vv v, born := clock }) (clock + 1), ?_, _, _, (heap_set hb).1, stamped_push hs h3, ?_⟩
    · simp [Instr.mapUpdate, run_underlying ht, MapKept.run_getObj_map hb, run_checkKey hk (K.isKey k), run_findKey hk h2, run_setObj_map _ hb, Result.andThen, putM]
    · simp [aput, h1, he]
  · have hj : es[j]? = some e := by simpa using h4
    refine ⟨.map (es.modify j fun e => { e with key := kk k, val := vv v }) clock, ?_, _, _, (heap_set hb).1, ?_, ?_⟩
    · simp [Instr.mapUpdate, run_underlying ht, MapKept.run_getObj_map hb, run_checkKey hk (K.isKey k), run_findKey hk h7, hj, h5, run_keyThatStays (K.isKey k), run_setObj_map _ hb, Result.andThen, putM]
    · exact stamped_modify hs _ _ (fun _ _ => rfl) (fun e' _ he' => by rw [hj] at he'; cases he'; exact h5.symm)
    · simp only [aput, h1, Option.isSome_some, if_true]
      apply List.ext_getElem?
      intro i
      have hi := congrArg (fun l => l[i]?) he
      simp only [List.getElem?_map, Array.getElem?_toList, Array.getElem?_modify] at hi ⊢
      by_cases hij : j = i
      · subst hij
        rw [h3, hj]
        simp [h2]
      · rw [if_neg hij]
        cases hm : m[i]? with
        | none => simpa [hm] using hi
        | some q =>
          have hq : q.1 ≠ k := by
            intro e1
            have hn := nodup_of K he hs.2.2
            have hlt : i < m.length := (List.getElem?_eq_some_iff.1 hm).1
            have hlt2 : j < m.length := (List.getElem?_eq_some_iff.1 h3).1
            have e2 : (m.map (·.1))[j]? = (m.map (·.1))[i]? := by simp [hm, h3, h2, e1]
            exact hij ((List.getElem?_inj (by simpa using hlt2) hn).1 e2)
          rw [hm] at hi
          simpa [hq] using hi

/-- A key taken away. -/
theorem run_delete_mapIs (K : KeyK d kk) (ht : P.underlying t = some (.map kt et)) (hk : P.underlying kt = some d) (h : MapIs d kk vv w b m) (k : κ) (t' ty : TypeId) :
    ∃ o, (Builtin.delete_ #[t, t'] ty #[.map (some b), kk k]).run P w = .ok (.tuple #[]) (putM w b o) ∧ MapIs d kk vv (putM w b o) b (adel m k) := by
  obtain ⟨es, clock, hb, hs, he⟩ := h
  rcases find_of K he hs.2.2 k with ⟨h1, h2, h3, h4⟩ | ⟨j, e, p, h1, h2, h3, h4, h5, h6, h7⟩
  · refine ⟨.map es clock, ?_, _, _, (heap_set hb).1, hs, ?_⟩
    · simp [Builtin.delete_, run_underlying ht, MapKept.run_getObj_map hb, run_checkKey hk (K.isKey k), run_findKey hk h2, run_setObj_map _ hb, Result.andThen, putM]
    · rw [he, adel, List.filter_eq_self.2 (by simpa using fun a b hab => h4 (a, b) hab)]
  · have hj : es[j]? = some e := by simpa using h4
    have hlt : j < es.size := (Array.getElem?_eq_some_iff.1 hj).1
    refine ⟨.map (es.eraseIdxIfInBounds j) clock, ?_, _, _, (heap_set hb).1, stamped_erase hs _, ?_⟩
    · simp [Builtin.delete_, run_underlying ht, MapKept.run_getObj_map hb, run_checkKey hk (K.isKey k), run_findKey hk h7, run_setObj_map _ hb, Result.andThen, putM]
    · have e1 : (es.eraseIdxIfInBounds j).toList = es.toList.eraseIdx j := by
        unfold Array.eraseIdxIfInBounds
        rw [dif_pos hlt]
        simp
      rw [e1, map_eraseIdx', he, ← map_eraseIdx', adel_at (nodup_of K he hs.2.2) h3 h2]
end
end Go.Proofs.YtlmnmjnmilaipaaGreatDoor

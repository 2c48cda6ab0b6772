/- Layer 11: contracts of a log's calls by plain equations, for walks of the laws. -/
import Derived.Test.YtlmnmjnmilaipaaGreatDoorWalQ
import Derived.Test.YtlmnmjnmilaipaaGreatDoorWalH
import Derived.Test.YtlmnmjnmilaipaaGreatDoorDiskR
set_option linter.unusedVariables false
set_option linter.unusedSimpArgs false
namespace Go.Proofs.YtlmnmjnmilaipaaGreatDoor
open Go Go.RowKit Go.Sort PR Go.Proofs.YtlmnmjnmilaipaaGreatDoorW.PrintWords

/-- A disk of a walk's own: it began at world w0. -/
structure Dsk (w0 w : World) (b mb : Nat) (D : Dk) : Prop where
  dk : DiskIs w b mb D
  be : Below w0.heap.size w0 w
  lb : w0.heap.size ≤ b
  lm : w0.heap.size ≤ mb
  err : ErrTab w0
/-- .. and a log on it. -/
structure Sit (w0 w : World) (bw b mb : Nat) (D : Dk) (W : Wl) : Prop extends Dsk w0 w b mb D where
  wl : WlIs w bw b W
  lw : w0.heap.size ≤ bw
  n1 : bw ≠ b
  n2 : bw ≠ mb
theorem ErrTab.pos {w : World} (h : ErrTab w) : 0 < w.heap.size := World.block_lt_of_cell? w _ h
theorem Dsk.tab {w0 w : World} {b mb : Nat} {D : Dk} (h : Dsk w0 w b mb D) : ErrTab w := by
  have hp := h.err.pos
  have := h.err
  unfold ErrTab at this ⊢
  rw [h.be.cell (p := ⟨0, 0, none⟩) hp]
  exact this
theorem Dsk.nb {w0 w : World} {b mb : Nat} {D : Dk} (h : Dsk w0 w b mb D) : b ≠ 0 ∧ mb ≠ 0 := by
  have := h.err.pos; have := h.lb; have := h.lm
  constructor <;> omega
theorem Dsk.upd {w0 w w' : World} {b mb : Nat} {D D' : Dk} (h : Dsk w0 w b mb D) (ho : Only (Own b mb) w w') (hd : DiskIs w' b mb D') : Dsk w0 w' b mb D' :=
  ⟨hd, h.be.trans (ho.below h.be.size (fun k hk h2 => h2.elim (fun e => by have := h.lb; omega) (fun e => by have := h.lm; omega))), h.lb, h.lm, h.err⟩
theorem Dsk.below {w0 w w' : World} {b mb : Nat} {D : Dk} (h : Dsk w0 w b mb D) (hb : Below w.heap.size w w') : Dsk w0 w' b mb D :=
  h.upd (Only.of_below hb) (h.dk.only (Only.of_below (S := fun _ => False) hb) (fun h => h) (fun h => h))
theorem Sit.upd {w0 w w' : World} {bw b mb : Nat} {D D' : Dk} {W : Wl} (h : Sit w0 w bw b mb D W) (ho : Only (Own b mb) w w') (hd : DiskIs w' b mb D') : Sit w0 w' bw b mb D' W :=
  ⟨h.toDsk.upd ho hd, h.wl.only ho (fun h2 => h2.elim (fun e => h.n1 e) (fun e => h.n2 e)), h.lw, h.n1, h.n2⟩
theorem Sit.below {w0 w w' : World} {bw b mb : Nat} {D : Dk} {W : Wl} (h : Sit w0 w bw b mb D W) (hb : Below w.heap.size w w') : Sit w0 w' bw b mb D W :=
  ⟨h.toDsk.below hb, h.wl.below hb, h.lw, h.n1, h.n2⟩
theorem Sit.post {w0 w w' : World} {bw b mb : Nat} {D : Dk} {W : Wl} {r : Int × Wl × Dk} {e : Ending} (h : Sit w0 w bw b mb D W) (hp : WPost bw b mb w r e w') : e = .returned (.int .i64 r.1) ∧ Sit w0 w' bw b mb r.2.2 r.2.1 ∧ Only (WOwn bw b mb) w w' := by
  obtain ⟨h1, h2, h3, h4⟩ := hp
  refine ⟨h1, ⟨⟨h3, h.be.trans (h4.below h.be.size (fun k hk h5 => h5.elim (fun e => by have := h.lw; omega) (fun h5 => h5.elim (fun e => by have := h.lb; omega) (fun e => by have := h.lm; omega)))), h.lb, h.lm, h.err⟩, h2, h.lw, h.n1, h.n2⟩, h4⟩
theorem append_sit {w0 w : World} {bw b mb q : Nat} {er : Int} {D : Dk} (h : Sit w0 w bw b mb D ⟨q, er⟩) (hD : D.Ok) (ha : D.acts + 2 < 4611686018427387904) (hq : q ≤ 1099511627777) (t : ByteArray) (ht : t.size ≤ 90000) :
    Calls Tryz.prog 17 #[.pointer (some ⟨bw, 0, none⟩), .string t] w fun e w' => e = .returned (.int .i64 (appendP ⟨q, er⟩ D (bs t)).1) ∧ Sit w0 w' bw b mb (appendP ⟨q, er⟩ D (bs t)).2.2 (appendP ⟨q, er⟩ D (bs t)).2.1 ∧ Only (WOwn bw b mb) w w' :=
  (appendW_any bw b mb q er D t w h.wl h.dk hD ha hq ht h.tab h.n1 h.n2 (by have := h.err.pos; have := h.lw; omega) h.nb.1 h.nb.2).mono fun e w' hp => h.post hp
theorem check_sit {w0 w : World} {bw b mb q : Nat} {er : Int} {D : Dk} (h : Sit w0 w bw b mb D ⟨q, er⟩) (hD : D.Ok) (ha : D.acts + 4 < 4611686018427387904) (hq : q ≤ 1099511627777) (t : ByteArray) (ht : t.size ≤ 90000) :
    Calls Tryz.prog 13 #[.pointer (some ⟨bw, 0, none⟩), .string t] w fun e w' => e = .returned (.int .i64 (checkP ⟨q, er⟩ D (bs t)).1) ∧ Sit w0 w' bw b mb (checkP ⟨q, er⟩ D (bs t)).2.2 (checkP ⟨q, er⟩ D (bs t)).2.1 ∧ Only (WOwn bw b mb) w w' :=
  (checkW_any bw b mb q er D t w h.wl h.dk hD ha hq ht h.tab h.n1 h.n2 (by have := h.err.pos; have := h.lw; omega) h.nb.1 h.nb.2).mono fun e w' hp => h.post hp
theorem append_by {w0 w : World} {bw b mb q : Nat} {er r : Int} {W' : Wl} {D D' : Dk} {t : ByteArray} (e : appendP ⟨q, er⟩ D (bs t) = (r, W', D')) (h : Sit w0 w bw b mb D ⟨q, er⟩) (hD : D.Ok) (ha : D.acts + 2 < 4611686018427387904) (hq : q ≤ 1099511627777) (ht : t.size ≤ 90000) :
    Calls Tryz.prog 17 #[.pointer (some ⟨bw, 0, none⟩), .string t] w fun e w' => e = .returned (.int .i64 r) ∧ Sit w0 w' bw b mb D' W' ∧ Only (WOwn bw b mb) w w' := by
  have := append_sit h hD ha hq t ht
  rwa [e] at this
theorem check_by {w0 w : World} {bw b mb q : Nat} {er r : Int} {W' : Wl} {D D' : Dk} {t : ByteArray} (e : checkP ⟨q, er⟩ D (bs t) = (r, W', D')) (h : Sit w0 w bw b mb D ⟨q, er⟩) (hD : D.Ok) (ha : D.acts + 4 < 4611686018427387904) (hq : q ≤ 1099511627777) (ht : t.size ≤ 90000) :
    Calls Tryz.prog 13 #[.pointer (some ⟨bw, 0, none⟩), .string t] w fun e w' => e = .returned (.int .i64 r) ∧ Sit w0 w' bw b mb D' W' ∧ Only (WOwn bw b mb) w w' := by
  have := check_sit h hD ha hq t ht
  rwa [e] at this
/-- A row of texts that a call has made. -/
def Texts (w : World) (base : Nat) (v : Value) (l : List Bs) : Prop := Kd.R Kd.string 9 w base (fun _ => True) v (l.map ba)
theorem open_by {w0 w : World} {b mb : Nat} {q : Int} {text : Bs} {recs : List Bs} {D D' : Dk} (e : openP D = ⟨some q, text, recs, 0, D'⟩) (h : Dsk w0 w b mb D) (hD : D.Ok) (ha : D.acts + 4 < 4611686018427387904) :
    Calls Tryz.prog 11 #[.pointer (some ⟨b, 0, none⟩)] w fun e w' => ∃ bw A c, e = .returned (.tuple #[.pointer (some ⟨bw, 0, none⟩), .string (ba text), .slice A recs.length c, .int .i64 0]) ∧ Sit w0 w' bw b mb D' ⟨q, 0⟩ ∧ w.heap.size ≤ bw ∧ Texts w' w.heap.size (.slice A recs.length c) recs ∧ Only (Own b mb) w w' := by
  refine (openW_any b mb D w h.dk hD ha h.tab h.nb.1 h.nb.2).mono fun ev w' ⟨ho, hd, hp⟩ => ?_
  rw [e] at hd hp
  have lb := h.dk.lt
  have lm := h.dk.map.lt
  have hbs := h.be.size
  rcases hp with ⟨hn, _⟩ | ⟨_, bw, v, q', hq, hbw, he, hw, hr⟩
  · exact absurd rfl hn
  · obtain rfl := Option.some.inj hq
    obtain ⟨A, c, rfl⟩ := Kd.R_slice hr
    rw [List.length_map] at hr he
    exact ⟨bw, A, c, he, ⟨h.upd ho hd, hw, by omega, by omega, by omega⟩, hbw, hr, ho⟩
theorem open_err {w0 w : World} {b mb : Nat} {n : Int} {D D' : Dk} (e1 : (openP D).err = n) (e2 : (openP D).disk = D') (hn : n ≠ 0) (h : Dsk w0 w b mb D) (hD : D.Ok) (ha : D.acts + 4 < 4611686018427387904) :
    Calls Tryz.prog 11 #[.pointer (some ⟨b, 0, none⟩)] w fun e w' => e = .returned (.tuple #[.pointer none, .string ⟨#[]⟩, .slice none 0 0, .int .i64 n]) ∧ Dsk w0 w' b mb D' ∧ Only (Own b mb) w w' := by
  refine (openW_any b mb D w h.dk hD ha h.tab h.nb.1 h.nb.2).mono fun ev w' ⟨ho, hd, hp⟩ => ?_
  rw [e2] at hd
  rw [e1] at hp
  rcases hp with ⟨_, he⟩ | ⟨h0, _⟩
  · exact ⟨he, h.upd ho hd, ho⟩
  · exact absurd h0 hn
theorem seq_by {w0 w : World} {bw b mb : Nat} {D : Dk} {W : Wl} (h : Sit w0 w bw b mb D W) : Calls Tryz.prog 16 #[.pointer (some ⟨bw, 0, none⟩)] w fun e w' => e = .returned (.int .i64 W.seq) ∧ Below w.heap.size w w' := seq_any bw b W w h.wl

/-! ### billetlaw03.Same -/
theorem same_l0 (l m : List ByteArray) (hl : l.length = m.length) (hl1 : l.length ≤ 1000000) : ∀ (n j k : Nat), j + n = l.length → n < k → billetlaw03_Same.l0 k l m (j : Int) = some (decide (l.drop j = m.drop j))
  | 0, j, k, hj, hk => by
    obtain ⟨k, rfl⟩ : ∃ k', k = k' + 1 := ⟨k - 1, by omega⟩
    rw [billetlaw03_Same.l0, if_neg (by omega), List.drop_eq_nil_of_le (by omega), List.drop_eq_nil_of_le (by omega)]
    rfl
  | n + 1, j, k, hj, hk => by
    obtain ⟨k, rfl⟩ : ∃ k', k = k' + 1 := ⟨k - 1, by omega⟩
    have h1 : j < l.length := by omega
    have h2 : j < m.length := by omega
    have r1 : rdOf ByteArray.empty l (j : Int) = l[j] := by unfold rdOf; simp [List.getD_eq_getElem?_getD, h1]
    have r2 : rdOf ByteArray.empty m (j : Int) = m[j] := by unfold rdOf; simp [List.getD_eq_getElem?_getD, h2]
    have hd : (l.drop j = m.drop j) ↔ (l[j] = m[j] ∧ l.drop (j + 1) = m.drop (j + 1)) := by
      rw [List.drop_eq_getElem_cons h1, List.drop_eq_getElem_cons h2, List.cons.injEq]
    rw [billetlaw03_Same.l0, if_pos (by omega), if_pos (by omega), if_pos (by omega), r1, r2]
    by_cases h : (l[j]).toList = (m[j]).toList
    · rw [if_pos h, wone j (by omega), same_l0 l m hl hl1 n (j + 1) k (by omega) (by omega)]
      have := toList_inj h
      congr 1
      rw [decide_eq_decide, hd]
      exact ⟨fun h3 => ⟨this, h3⟩, fun h3 => h3.2⟩
    · rw [if_neg h]
      congr 1
      symm
      rw [decide_eq_false_iff_not, hd]
      exact fun e => h (congrArg ByteArray.toList e.1)
theorem rSame (l m : List ByteArray) (hl1 : l.length ≤ 1000000) : billetlaw03_Same.f (l.length + 1) l m = some (decide (l = m)) := by
  unfold billetlaw03_Same.f
  by_cases h : l.length = m.length
  · rw [if_pos (by omega)]
    have := same_l0 l m h hl1 l.length 0 (l.length + 1) (by omega) (by omega)
    rwa [List.drop_zero, List.drop_zero] at this
  · rw [if_neg (by omega)]
    congr 1
    symm
    rw [decide_eq_false_iff_not]
    exact fun e => h (congrArg List.length e)
theorem map_ba_inj {l m : List Bs} : l.map ba = m.map ba ↔ l = m := by
  constructor
  · intro h
    have := congrArg (List.map bs) h
    rw [List.map_map, List.map_map] at this
    have e : ∀ x : List Bs, x.map (bs ∘ ba) = x := fun x => by
      conv => rhs; rw [← List.map_id x]
      exact List.map_congr_left (fun y _ => bs_ba y)
    rwa [e, e] at this
  · rintro rfl; rfl
theorem same_C {w : World} {A B : Option Addr} {c d : Nat} {l m : List Bs} (hl : l.length ≤ 1000000) (h1 : Kd.C Kd.string w A (l.map ba).length (l.map ba)) (c1 : l.length ≤ c) (h2 : Kd.C Kd.string w B (m.map ba).length (m.map ba)) (c2 : m.length ≤ d) :
    Calls Tryz.prog 14 #[.slice A l.length c, .slice B m.length d] w fun e w' => e = .returned (.bool (decide (l = m))) ∧ Below w.heap.size w w' := by
  have h := billetlaw03_Same.calls _ A c (l.map ba) B d (m.map ba) _ w h1 (by rw [List.length_map]; exact c1) h2 (by rw [List.length_map]; exact c2) (rSame _ _ (by rw [List.length_map]; exact hl))
  rw [List.length_map, List.length_map] at h
  refine h.mono ?_
  rintro e w' ⟨rfl, hd⟩
  refine ⟨?_, below_drawn hd⟩
  have : decide (l.map ba = m.map ba) = decide (l = m) := by simp only [map_ba_inj]
  rw [this]
theorem Texts.reads {w : World} {base : Nat} {A : Option Addr} {c : Nat} {l : List Bs} (h : Texts w base (.slice A l.length c) l) : l.length ≤ c ∧ Kd.C Kd.string w A (l.map ba).length (l.map ba) := by
  obtain ⟨A', c', he, hc, hC⟩ := Kd.R_reads h
  injection he with e1 e2 e3
  subst e1; subst e3
  exact ⟨by rwa [List.length_map] at hc, hC⟩
theorem Texts.below {w w' : World} {base : Nat} {v : Value} {l : List Bs} (h : Texts w base v l) (hb : Below w.heap.size w w') : Texts w' base v l := Kd.R_below h hb
/-- A row of constant texts, as a literal lays it. -/
theorem lit_T (w : World) (l : List Bs) (hm : l.length ≤ 9223372036854775807) : Texts (w.alloc (.cells (encs Value.string (l.map ba)).toArray 9)) w.heap.size (.slice (some ⟨w.heap.size, 0, none⟩) l.length l.length) l := by
  have h := own_lit_of (enc := Value.string) w w.heap.size 9 (l.map ba) (Nat.le_refl _) (by rw [List.length_map]; exact hm)
  rw [List.length_map] at h
  refine Kd.R_of_own ?_ (fun _ _ => trivial)
  rw [List.length_map]
  exact h
end Go.Proofs.YtlmnmjnmilaipaaGreatDoor

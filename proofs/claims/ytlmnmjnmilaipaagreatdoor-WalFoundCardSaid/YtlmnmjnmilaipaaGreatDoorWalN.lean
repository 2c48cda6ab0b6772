/- Package wal: snap walked. -/
import Derived.Test.YtlmnmjnmilaipaaGreatDoorWalL
import Derived.Test.YtlmnmjnmilaipaaGreatDoorWalP
set_option linter.unusedVariables false
set_option linter.unusedSimpArgs false
namespace Go.Proofs.YtlmnmjnmilaipaaGreatDoor
open Go Go.RowKit Go.Sort PR Go.Proofs.YtlmnmjnmilaipaaGreatDoorW.PrintWords

theorem take_pay_len (s : Bs) : (takeP s).1.length ≤ 4096 := by
  unfold takeP
  split
  · split <;> exact Nat.zero_le _
  · split
    · split
      · exact Nat.zero_le _
      · split
        · rename_i h _ _
          show (List.take _ _).length ≤ _
          rw [List.length_take]; omega
        · exact Nat.zero_le _
    · exact Nat.zero_le _
theorem all_pay_len : ∀ (f : Nat) (s : Bs), ∀ p ∈ (allP f s).1, p.length ≤ 4096
  | 0, s, p, h => by cases h
  | f + 1, s, p, h => by
    unfold allP at h
    split at h
    · cases h
    · split at h
      · rcases List.mem_cons.1 h with rfl | h
        · exact take_pay_len s
        · exact all_pay_len f _ p h
      · cases h
theorem all_many : ∀ (f : Nat) (s : Bs), (allP f s).1.length ≤ s.length
  | 0, s => Nat.zero_le _
  | f + 1, s => by
    unfold allP
    split
    · exact Nat.zero_le _
    · split
      · rename_i h0 ht
        have hl := take_all_len s ht
        have := all_many f (s.drop (takeP s).2.1)
        rw [List.length_drop] at this
        show (allP f (s.drop (takeP s).2.1)).1.length + 1 ≤ _
        omega
      · exact Nat.zero_le _
theorem all_used : ∀ (f : Nat) (s : Bs), (allP f s).2.1 ≤ s.length
  | 0, s => Nat.zero_le _
  | f + 1, s => by
    unfold allP
    split
    · exact Nat.zero_le _
    · split
      · rename_i h0 ht
        have hl := take_all_len s ht
        have := all_used f (s.drop (takeP s).2.1)
        rw [List.length_drop] at this
        show (takeP s).2.1 + (allP f (s.drop (takeP s).2.1)).2.1 ≤ _
        omega
      · exact Nat.zero_le _
/-- frame.All, ready for use. -/
theorem all_use (s : ByteArray) (hs : s.size ≤ 100000) (ps : List Bs) (u : Nat) (er : Int) (h : allP (s.size + 1) (bs s) = (ps, u, er)) (w : World) :
    Calls Tryz.prog 86 #[.string s] w fun e w' => ∃ A c, e = .returned (.tuple #[.slice A ps.length c, .int .i64 (u : Int), .int .i64 er]) ∧ ps.length ≤ c ∧ Kd.C Kd.string w' A (ps.map ba).length (ps.map ba) ∧ Below w.heap.size w w' := by
  refine (all_any s hs w).mono ?_
  rintro e w' ⟨v, rfl, hR, hb⟩
  rw [h] at hR ⊢
  obtain ⟨A, c, rfl, hc, hC⟩ := Kd.R_reads hR
  rw [List.length_map] at hc
  exact ⟨A, c, by rw [List.length_map], hc, hC, hb⟩
theorem parse_use (ps : List Bs) (A : Option Addr) (c : Nat) (hc : ps.length ≤ c) (hn : ps.length ≤ 100000) (hs : ∀ s ∈ ps, s.length ≤ 4096) (w : World) (hC : Kd.C Kd.string w A (ps.map ba).length (ps.map ba)) :
    Calls Tryz.prog 87 #[.slice A ps.length c] w (ParsePost (parseP ps) w) := by
  have h := parse_any (ps.map ba) A c (by rw [List.length_map]; exact hc) (by rw [List.length_map]; exact hn) (fun s hs' => by
    obtain ⟨p, hp, rfl⟩ := List.mem_map.1 hs'
    rw [ba_size]
    have := hs p hp
    omega) w hC
  have e : (ps.map ba).map bs = ps := by
    rw [List.map_map]
    conv => rhs; rw [← List.map_id ps]
    exact List.map_congr_left (fun x _ => bs_ba x)
  rw [e, List.length_map] at h
  exact h

theorem ent1_bound {s : Bs} {x : Ent} (h : ent1 s = some x) : 0 ≤ x.1 ∧ x.1 ≤ 1099511627776 := by
  unfold ent1 at h
  split at h
  · cases h
  · split at h
    · rename_i hc
      obtain rfl := Option.some.inj h
      exact hc
    · cases h
def entV (x : Ent) : Value := .agg #[.int .i64 x.1, .string (ba x.2)]
def SnapPost (r : Option Ent) (w : World) (e : Ending) (w' : World) : Prop := Below w.heap.size w w' ∧ match r with
  | some x => e = .returned (.tuple #[entV x, .nilIface])
  | none => ∃ c, e = .returned (.tuple #[entV ent0, chV 110 (.one c)])
theorem snapPost_some {r : Option Ent} {x : Ent} (hr : r = some x) {w w' : World} {e : Ending} (hb : Below w.heap.size w w') (he : e = .returned (.tuple #[entV x, .nilIface])) : SnapPost r w e w' := by subst hr; exact ⟨hb, he⟩
theorem snapPost_none {r : Option Ent} (hr : r = none) {w w' : World} {e : Ending} (c : ByteArray) (hb : Below w.heap.size w w') (he : e = .returned (.tuple #[entV ent0, chV 110 (.one c)])) : SnapPost r w e w' := by subst hr; exact ⟨hb, c, he⟩
theorem zeroEnt2 : entV ent0 = .agg #[.int .i64 0, .string ⟨#[]⟩] := rfl
theorem file_size {D : Dk} (hD : D.Ok) (name : ByteArray) : (fileV D name).size ≤ 65536 := by
  unfold fileV fileP
  cases h : aget D.files name with
  | none => decide
  | some f =>
    show (ba (bs f.1)).size ≤ _
    rw [ba_bs]
    exact hD.bytes _ (aget_mem' h)
theorem bs_fileV (D : Dk) (name : ByteArray) : bs (fileV D name) = (fileP D name).getD [] := bs_ba _
abbrev boxE : Obj := .cells #[.int .i64 0, .string ⟨#[]⟩] 62
/-- The box of a result that is an entry, behind calls. -/
theorem boxE_at {w w1 : World} (hb : Below (w.alloc boxE).heap.size (w.alloc boxE) w1) : w1.cell? ⟨w.heap.size, 0, none⟩ = some (.int .i64 0) ∧ w1.cell? ⟨w.heap.size, 1, none⟩ = some (.string ⟨#[]⟩) ∧ w1.frozen? ⟨w.heap.size, 0, none⟩ = false ∧ w1.frozen? ⟨w.heap.size, 1, none⟩ = false ∧ w.heap.size < w1.heap.size := by
  refine ⟨(hb.cell (p := ⟨w.heap.size, 0, none⟩) (by simp)).trans (by go_simp), (hb.cell (p := ⟨w.heap.size, 1, none⟩) (by simp)).trans (by go_simp), (hb.frozen (p := ⟨w.heap.size, 0, none⟩) (by simp)).trans (by go_simp), (hb.frozen (p := ⟨w.heap.size, 1, none⟩) (by simp)).trans (by go_simp), ?_⟩
  have := hb.size
  simp at this
  omega
theorem boxE_end {w w1 : World} (hb : Below (w.alloc boxE).heap.size (w.alloc boxE) w1) (u v : Value) : Below w.heap.size w ((w1.setCell ⟨w.heap.size, 0, none⟩ u).setCell ⟨w.heap.size, 1, none⟩ v) :=
  ((((Below.refl _ w).alloc (Nat.le_refl _) _).trans (hb.mono (by simp))).setCell (Nat.le_refl _) _).setCell (Nat.le_refl _) _
theorem boxE_read {w w1 : World} (hb : Below (w.alloc boxE).heap.size (w.alloc boxE) w1) (u v : Value) : (w1.setCell ⟨w.heap.size, 0, none⟩ u).cell? ⟨w.heap.size, 0, none⟩ = some u ∧ ((w1.setCell ⟨w.heap.size, 0, none⟩ u).setCell ⟨w.heap.size, 1, none⟩ v).cell? ⟨w.heap.size, 1, none⟩ = some v := by
  obtain ⟨z0, z1, _⟩ := boxE_at hb
  refine ⟨World.cell?_setCell_same _ _ _ z0, World.cell?_setCell_same (u := .string ⟨#[]⟩) _ _ _ ?_⟩
  rw [← z1]
  exact World.cell?_setCell_other _ _ _ _ (by simp)
theorem boxE_below {w w1 : World} (hb : Below (w.alloc boxE).heap.size (w.alloc boxE) w1) : Below w.heap.size w w1 := ((Below.refl _ w).alloc (Nat.le_refl _) _).trans (hb.mono (by simp))
set_option maxHeartbeats 4000000 in
set_option maxRecDepth 100000 in
theorem snap_any (b mb : Nat) (D : Dk) (w : World) (h : DiskIs w b mb D) (hD : D.Ok) (hoff : D.off = false) :
    Calls Tryz.prog 65 #[.pointer (some ⟨b, 0, none⟩)] w (SnapPost (snapOf (fileP D kSnap)) w) := by
  have L := Lib.hid (load_any b mb D kSnap (w.alloc boxE) (h.alloc _) hD hoff)
  have hsz := file_size hD kSnap
  have hbs := bs_fileV D kSnap
  have F := Lib.hid (fun x W => failed_some x 110 (by decide) W)
  cases hg : aget D.files kSnap with
  | none =>
    have e : snapOf (fileP D kSnap) = some ent0 := by unfold fileP; rw [hg]; rfl
    rw [hg, Option.isSome_none] at L
    have HE := Lib.hid e
    clear h hD hoff hg e hsz hbs
    generalize fileV D kSnap = s at *
    go_enter Tryz.func65, Tryz.ntmps65
    go_wp2_with (go_at_call 85; refine L.out.mono ?_; rintro ev w1 ⟨rfl, hb⟩; obtain ⟨z0, z1, y0, y1, zl⟩ := boxE_at hb; have HB := Lib.hid hb; clear hb)
    exact bodyPost_ret (v := .tuple #[entV ent0, .nilIface]) (by simp [results, Tryz.results65, go_sem, zl, entV, ent0, ba, (boxE_read HB.out (.int .i64 0) (.string ⟨#[]⟩)).1, (boxE_read HB.out (.int .i64 0) (.string ⟨#[]⟩)).2]) rfl (snapPost_some HE.out (boxE_end HB.out _ _) rfl)
  | some f =>
    have hf : fileP D kSnap = some (bs (fileV D kSnap)) := by rw [hbs]; unfold fileP; rw [hg]; rfl
    rw [hg, Option.isSome_some] at L
    rw [hf]
    clear h hD hoff hg hf hbs
    generalize fileV D kSnap = s at *
    have hal : ∃ ps u er, allP (s.size + 1) (bs s) = (ps, u, er) := ⟨_, _, _, rfl⟩
    obtain ⟨ps, u, er, hal⟩ := hal
    have A := Lib.hid (fun W => all_use s (by omega) ps u er hal W)
    have hsn : snapOf (some (bs s)) = if er = 0 then (match ps with | [p] => (parseP [p]).bind (·.head?) | _ => none) else none := by
      show (if (allP ((bs s).length + 1) (bs s)).2.2 = 0 then _ else _) = _
      rw [bs_len, hal]
      rfl
    have hpl : ∀ p ∈ ps, p.length ≤ 4096 := fun p hp => all_pay_len (s.size + 1) (bs s) p (by rw [hal]; exact hp)
    have hpm : ps.length ≤ 65536 := by have := all_many (s.size + 1) (bs s); rw [hal, bs_len] at this; exact Nat.le_trans this hsz
    rw [hsn]
    clear hsn hal hsz
    by_cases her : er = 0
    · subst her
      rw [if_pos rfl]
      by_cases hl : ps.length = 1
      · obtain ⟨p, rfl⟩ := List.length_eq_one_iff.1 hl
        have P := Lib.hid (fun c A W hc hC => parse_use [p] A c hc (by simp) hpl W hC)
        clear hpl hpm hl
        dsimp only
        cases hp : parseP [p] with
        | none =>
          rw [hp] at P
          clear hp
          go_enter Tryz.func65, Tryz.ntmps65
          go_wp2_with (first
            | (go_at_call 85; refine L.out.mono ?_; rintro ev w1 ⟨rfl, hb⟩; have HB := Lib.hid hb; clear hb)
            | (go_at_call 86; refine (A.out _).mono ?_; rintro ev w2 ⟨A2, c2, rfl, hc2, hC, hb⟩; have HB2 := Lib.hid (HB.out.trans (hb.mono HB.out.size)); have HC := Lib.hid hC; have HCC := Lib.hid hc2; clear hb hC hc2)
            | (go_at_call 87; refine (P.out _ _ _ HCC.out HC.out).mono ?_; rintro ev w3 ⟨hb, rfl⟩; have HB3 := Lib.hid (HB2.out.trans (hb.mono HB2.out.size)); obtain ⟨z0, z1, y0, y1, zl⟩ := boxE_at HB3.out; clear hb; unfold chV))
          exact bodyPost_ret (v := .tuple #[entV ent0, chV 110 (.one ⟨#[112, 97, 114, 115, 101]⟩)]) (by simp [results, Tryz.results65, go_sem, zl, entV, ent0, ba, chV, (boxE_read HB3.out (.int .i64 0) (.string ⟨#[]⟩)).1, (boxE_read HB3.out (.int .i64 0) (.string ⟨#[]⟩)).2]) rfl (snapPost_none rfl _ (boxE_end HB3.out _ _) rfl)
        | some es =>
          have hel := parse_len _ _ hp
          obtain ⟨x, rfl⟩ := List.length_eq_one_iff.1 (show es.length = 1 from hel)
          rw [hp] at P
          clear hp hel
          obtain ⟨q, t⟩ := x
          go_enter Tryz.func65, Tryz.ntmps65
          go_wp2_with (first
            | (go_at_call 85; refine L.out.mono ?_; rintro ev w1 ⟨rfl, hb⟩; have HB := Lib.hid hb; clear hb)
            | (go_at_call 86; refine (A.out _).mono ?_; rintro ev w2 ⟨A2, c2, rfl, hc2, hC, hb⟩; have HB2 := Lib.hid (HB.out.trans (hb.mono HB.out.size)); have HC := Lib.hid hC; have HCC := Lib.hid hc2; clear hb hC hc2)
            | (go_at_call 87; refine (P.out _ _ _ HCC.out HC.out).mono ?_; rintro ev w3 ⟨hb, rfl, hR⟩; have HB3 := Lib.hid (HB2.out.trans (hb.mono HB2.out.size)); obtain ⟨z0, z1, y0, y1, zl⟩ := boxE_at HB3.out; have e01 := hR.at (i := 0) (by simp); obtain ⟨e0, e1⟩ := e01; simp only [Nat.zero_mul, Nat.zero_add, List.getD_cons_zero] at e0 e1; have glt := hR.lt; clear hb hR))
          exact bodyPost_ret (v := .tuple #[entV (q, t), .nilIface]) (by simp [results, Tryz.results65, go_sem, zl, entV, (boxE_read HB3.out (.int .i64 q) (.string (ba t))).1, (boxE_read HB3.out (.int .i64 q) (.string (ba t))).2]) rfl (snapPost_some rfl (boxE_end HB3.out _ _) rfl)
      · have hn : (match ps with | [p] => (parseP [p]).bind (·.head?) | _ => none) = none := by
          split
          · exact absurd rfl hl
          · rfl
        rw [hn]
        have hl2 : ((ps.length : Int) == 1) = false := by rw [beq_eq_false_iff_ne]; omega
        clear hn hpl
        go_enter Tryz.func65, Tryz.ntmps65
        go_wp2_with (first
          | (go_at_call 85; refine L.out.mono ?_; rintro ev w1 ⟨rfl, hb⟩; have HB := Lib.hid hb; clear hb)
          | (go_at_call 86; refine (A.out _).mono ?_; rintro ev w2 ⟨A2, c2, rfl, hc2, hC, hb⟩; have HB2 := Lib.hid (HB.out.trans (hb.mono HB.out.size)); have HC := Lib.hid hC; clear hb hC)
          | (go_at_call 41; refine (F.out _ _).mono ?_; rintro ev w3 ⟨rfl, hb⟩; have HB3 := Lib.hid (HB2.out.trans (hb.mono HB2.out.size)); obtain ⟨z0, z1, y0, y1, zl⟩ := boxE_at HB3.out; clear hb; unfold chV))
        exact bodyPost_ret (v := .tuple #[entV ent0, chV 110 (.one ⟨#[115, 110, 97, 112]⟩)]) (by simp [results, Tryz.results65, go_sem, zl, entV, ent0, ba, chV, (boxE_read HB3.out (.int .i64 0) (.string ⟨#[]⟩)).1, (boxE_read HB3.out (.int .i64 0) (.string ⟨#[]⟩)).2]) rfl (snapPost_none rfl _ (boxE_end HB3.out _ _) rfl)
    · rw [if_neg her]
      have her2 : (er == 0) = false := by rw [beq_eq_false_iff_ne]; exact her
      clear hpl
      go_enter Tryz.func65, Tryz.ntmps65
      go_wp2_with (first
        | (go_at_call 85; refine L.out.mono ?_; rintro ev w1 ⟨rfl, hb⟩; have HB := Lib.hid hb; clear hb)
        | (go_at_call 86; refine (A.out _).mono ?_; rintro ev w2 ⟨A2, c2, rfl, hc2, hC, hb⟩; have HB2 := Lib.hid (HB.out.trans (hb.mono HB.out.size)); have HC := Lib.hid hC; clear hb hC)
        | (go_at_call 41; refine (F.out _ _).mono ?_; rintro ev w3 ⟨rfl, hb⟩; have HB3 := Lib.hid (HB2.out.trans (hb.mono HB2.out.size)); obtain ⟨z0, z1, y0, y1, zl⟩ := boxE_at HB3.out; clear hb; unfold chV))
      exact bodyPost_ret (v := .tuple #[entV ent0, chV 110 (.one ⟨#[115, 110, 97, 112]⟩)]) (by simp [results, Tryz.results65, go_sem, zl, entV, ent0, ba, chV, (boxE_read HB3.out (.int .i64 0) (.string ⟨#[]⟩)).1, (boxE_read HB3.out (.int .i64 0) (.string ⟨#[]⟩)).2]) rfl (snapPost_none rfl _ (boxE_end HB3.out _ _) rfl)
end Go.Proofs.YtlmnmjnmilaipaaGreatDoor

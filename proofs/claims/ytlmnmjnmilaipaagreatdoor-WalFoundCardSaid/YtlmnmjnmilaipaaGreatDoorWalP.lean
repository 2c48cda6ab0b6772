/- Package wal: parse walked. -/
import Derived.Test.YtlmnmjnmilaipaaGreatDoorEnt
import Derived.Test.YtlmnmjnmilaipaaGreatDoorWalBA
import Derived.Test.YtlmnmjnmilaipaaGreatDoorVarR
set_option linter.unusedVariables false
set_option linter.unusedSimpArgs false
namespace Go.Proofs.YtlmnmjnmilaipaaGreatDoor
open Go Go.RowKit PR Go.Proofs.YtlmnmjnmilaipaaGreatDoorW.PrintWords

theorem txt_at {w : World} {A : Option Addr} {xs : List ByteArray} (h : Kd.C Kd.string w A xs.length xs) (k : Nat) (hk : k < xs.length) : ∃ ad, A = some ad ∧ w.cell? (ad.add k) = some (.string (xs.getD k ⟨#[]⟩)) := by
  obtain ⟨ad, c, rfl, hc, hK, hcell⟩ := Kd.C_get h ⟨#[]⟩ (k : Int) (by omega) (by omega)
  refine ⟨ad, rfl, ?_⟩
  obtain rfl : c = [Value.string (xs.getD k ⟨#[]⟩)] := hK
  have := hcell 0 _ rfl
  simpa [Kd.string, Kd.scalar] using this
/-- One payload as an entry. -/
def ent1 (s : Bs) : Option Ent := match readN s with
  | none => none
  | some (n, k) => if 0 ≤ n ∧ n ≤ 1099511627776 then some (n, s.drop k) else none
theorem parse_cons (s : Bs) (t : List Bs) : parseP (s :: t) = (ent1 s).bind fun e => (parseP t).map (e :: ·) := by
  conv => lhs; unfold parseP
  unfold ent1
  cases readN s with
  | none => rfl
  | some x =>
    obtain ⟨n, k⟩ := x
    dsimp only
    split <;> rfl
theorem parse_snoc : ∀ (a : List Bs) (s : Bs) (es : List Ent) (e : Ent), parseP a = some es → ent1 s = some e → parseP (a ++ [s]) = some (es ++ [e])
  | [], s, es, e, h, h1 => by
    obtain rfl : [] = es := Option.some.inj h
    show parseP (s :: []) = _
    rw [parse_cons, h1]; rfl
  | x :: a, s, es, e, h, h1 => by
    rw [parse_cons] at h
    obtain ⟨y, hy, h2⟩ := Option.bind_eq_some_iff.1 h
    obtain ⟨ys, hys, rfl⟩ := Option.map_eq_some_iff.1 h2
    show parseP (x :: (a ++ [s])) = _
    rw [parse_cons, hy, parse_snoc a s ys e hys h1]; rfl
theorem parse_bad : ∀ (a : List Bs) (s : Bs), s ∈ a → ent1 s = none → parseP a = none
  | x :: a, s, h, h1 => by
    rw [parse_cons]
    rcases List.mem_cons.1 h with rfl | h
    · rw [h1]; rfl
    · rw [parse_bad a s h h1]
      cases ent1 x <;> rfl
theorem parse_len : ∀ (a : List Bs) (es : List Ent), parseP a = some es → es.length = a.length
  | [], es, h => by obtain rfl : [] = es := Option.some.inj h; rfl
  | x :: a, es, h => by
    rw [parse_cons] at h
    obtain ⟨y, hy, h2⟩ := Option.bind_eq_some_iff.1 h
    obtain ⟨ys, hys, rfl⟩ := Option.map_eq_some_iff.1 h2
    rw [List.length_cons, List.length_cons, parse_len a ys hys]
def ParsePost (r : Option (List Ent)) (w : World) (e : Ending) (w' : World) : Prop := Below w.heap.size w w' ∧ match r with
  | some es => e = .returned (.tuple #[.slice (some ⟨w.heap.size, 0, none⟩) es.length es.length, .nilIface]) ∧ RowN w' w.heap.size es
  | none => e = .returned (.tuple #[.slice none 0 0, chV 110 (.one ⟨#[112, 97, 114, 115, 101]⟩)])
theorem parsePost_some {r : Option (List Ent)} {es : List Ent} (hr : r = some es) {n : Nat} (hn : es.length = n) {w w' : World} {e : Ending} (hb : Below w.heap.size w w') (he : e = .returned (.tuple #[.slice (some ⟨w.heap.size, 0, none⟩) n n, .nilIface])) (hR : RowN w' w.heap.size es) : ParsePost r w e w' := by
  subst hr; subst hn; exact ⟨hb, he, hR⟩
theorem parsePost_none {r : Option (List Ent)} (hr : r = none) {w w' : World} {e : Ending} (hb : Below w.heap.size w w') (he : e = .returned (.tuple #[.slice none 0 0, chV 110 (.one ⟨#[112, 97, 114, 115, 101]⟩)])) : ParsePost r w e w' := by
  subst hr; exact ⟨hb, he⟩
/-- What holds at a round's head of parse. -/
def ParseRel (l : List ByteArray) (w : World) (k : Nat) (wr : World) : Prop :=
  k ≤ l.length ∧ Below w.heap.size w wr ∧ ∃ es, parseP ((l.take k).map bs) = some es ∧ RowN wr w.heap.size (es ++ List.replicate (l.length - k) ent0)
theorem parseRel_start (l : List ByteArray) (w : World) : ParseRel l w 0 (w.alloc (.cells (madeCells #[.int .i64 0, .string ⟨#[]⟩] (l.length * 2)) 62)) :=
  ⟨Nat.zero_le _, (Below.refl _ _).alloc (Nat.le_refl _) _, [], rfl, by simpa using RowN.made w l.length⟩
theorem parseRel_step {l : List ByteArray} {w wr w2 : World} {k : Nat} (h : ParseRel l w k wr) (hk : k < l.length) {n : Int} {c : Nat} (hr : readN (bs (l.getD k ⟨#[]⟩)) = some (n, c)) (h0 : 0 ≤ n) (h1 : n ≤ 1099511627776) (hb : Below wr.heap.size wr w2) :
    ParseRel l w (k + 1) ((w2.setCell ⟨w.heap.size, k * 2, none⟩ (.int .i64 n)).setCell ⟨w.heap.size, k * 2 + 1, none⟩ (.string ((l.getD k ⟨#[]⟩).extract c (l.getD k ⟨#[]⟩).size))) := by
  obtain ⟨g1, g2, es, g3, g4⟩ := h
  have hl := parse_len _ _ g3
  rw [List.length_map, List.length_take, Nat.min_eq_left g1] at hl
  have hg : l.getD k ⟨#[]⟩ = l[k] := by simp [List.getD_eq_getElem?_getD, hk]
  have he : ent1 (bs (l.getD k ⟨#[]⟩)) = some (n, (bs (l.getD k ⟨#[]⟩)).drop c) := by unfold ent1; rw [hr]; dsimp only; rw [if_pos ⟨h0, h1⟩]
  have ht : (l.take (k + 1)).map bs = (l.take k).map bs ++ [bs (l.getD k ⟨#[]⟩)] := by
    rw [List.take_succ_eq_append_getElem hk, List.map_append, hg]; rfl
  have hx : bs ((l.getD k ⟨#[]⟩).extract c (l.getD k ⟨#[]⟩).size) = (bs (l.getD k ⟨#[]⟩)).drop c := by
    rw [extract_bs, List.take_of_length_le (by rw [bs_len]; omega)]
  refine ⟨hk, ((g2.trans (hb.mono g2.size)).setCell (Nat.le_refl _) _).setCell (Nat.le_refl _) _, es ++ [(n, (bs (l.getD k ⟨#[]⟩)).drop c)], by rw [ht]; exact parse_snoc _ _ _ _ g3 he, ?_⟩
  have := (g4.below hb).set (i := k) (by rw [List.length_append, List.length_replicate]; omega) n ((l.getD k ⟨#[]⟩).extract c (l.getD k ⟨#[]⟩).size)
  rw [hx] at this
  have e : (es ++ List.replicate (l.length - k) ent0).set k (n, (bs (l.getD k ⟨#[]⟩)).drop c) = (es ++ [(n, (bs (l.getD k ⟨#[]⟩)).drop c)]) ++ List.replicate (l.length - (k + 1)) ent0 := by
    rw [List.set_append, if_neg (by omega), hl, Nat.sub_self, show l.length - k = (l.length - (k + 1)) + 1 by omega, List.replicate_succ, List.set_cons_zero, List.append_assoc]; rfl
  rwa [e] at this
theorem parseRel_end {l : List ByteArray} {w wr : World} {k : Nat} (h : ParseRel l w k wr) (hk : ¬ k < l.length) : ParsePost (parseP (l.map bs)) w (.returned (.tuple #[.slice (some ⟨w.heap.size, 0, none⟩) l.length l.length, .nilIface])) wr := by
  obtain ⟨g1, g2, es, g3, g4⟩ := h
  rw [List.take_of_length_le (by omega)] at g3
  have hl := parse_len _ _ g3
  rw [List.length_map] at hl
  refine parsePost_some g3 hl g2 rfl ?_
  rw [show l.length - k = 0 by omega] at g4
  simpa using g4
theorem parse_none_at {l : List ByteArray} {k : Nat} (hk : k < l.length) (h : ent1 (bs (l.getD k ⟨#[]⟩)) = none) : parseP (l.map bs) = none := by
  have hg : l.getD k ⟨#[]⟩ = l[k] := by simp [List.getD_eq_getElem?_getD, hk]
  rw [hg] at h
  exact parse_bad _ _ (List.mem_map.2 ⟨l[k], List.getElem_mem hk, rfl⟩) h

set_option maxHeartbeats 4000000 in
set_option maxRecDepth 100000 in
theorem parse_any (l : List ByteArray) (A : Option Addr) (c : Nat) (hc : l.length ≤ c) (hn : l.length ≤ 100000) (hs : ∀ s ∈ l, s.size ≤ 1000000) (w : World) (hC : Kd.C Kd.string w A l.length l) :
    Calls Tryz.prog 87 #[.slice A l.length c] w (ParsePost (parseP (l.map bs)) w) := by
  have hmk := make_ents l.length hn
  have HS := Lib.hid hs
  have HC := Lib.hid hC
  clear hs hC
  have hlA : ∀ k, k < l.length → ∃ ad, A = some ad := fun k hk => by obtain ⟨ad, h, _⟩ := txt_at HC.out k hk; exact ⟨ad, h⟩
  have HLA := Lib.hid hlA
  clear hlA
  go_enter Tryz.func87, Tryz.ntmps87
  go_wp2
  go_loopw [14] (fun i wr => ∃ k : Nat, i = .int .i64 k ∧ ParseRel l w k wr) (fun i _ => l.length - (intOf i).toNat)
  case atStart => exact ⟨0, rfl, parseRel_start l w⟩
  case round =>
    obtain ⟨k, rfl, hrel⟩ := hrel
    have HR := Lib.hid hrel
    have hkl := hrel.1
    clear hrel
    by_cases hlt : k < l.length
    · obtain ⟨ad, hA, hcell⟩ := txt_at (Kd.C_below HC.out HR.out.2.1) k hlt
      have hg : (l.getD k ⟨#[]⟩).size ≤ 1000000 := by
        have e : l.getD k ⟨#[]⟩ = l[k] := by simp [List.getD_eq_getElem?_getD, hlt]
        rw [e]; exact HS.out _ (List.getElem_mem hlt)
      have hnum := rNum (l.getD k ⟨#[]⟩) hg 40 (Nat.le_refl _)
      have hstep := fun n c hr h0 h1 w2 hb => parseRel_step (w2 := w2) HR.out hlt (n := n) (c := c) hr h0 h1 hb
      have hnone := parse_none_at hlt
      have hglt := HR.out.2.1.size
      have HNONE := Lib.hid hnone
      have HSTEP := Lib.hid hstep
      clear hnone hstep
      subst hA
      generalize l.getD k ⟨#[]⟩ = s at *
      have N1 := Lib.hid (fun W (hb : Below wr.heap.size wr W) => varint_New.calls s s 0 false wr W hb rfl)
      cases hr : readU (bs s) 0 0 with
      | none =>
        rw [hr] at hnum
        have N2 := Lib.hid (fun g W (hI : IsS192 wr W g s 0 false) (hb : Below wr.heap.size wr W) => varint_Reader_Num.calls 40 g s 0 false 0 s 0 true wr W hI hb hnum)
        have N3 := Lib.hid (fun g W (hI : IsS192 wr W g s 0 true) (hb : Below wr.heap.size wr W) => varint_Reader_Bad.calls g s 0 true true s 0 true wr W hI hb rfl)
        have F := Lib.hid (fun x W => failed_some x 110 (by decide) W)
        have he : ent1 (bs s) = none := by unfold ent1 readN; rw [hr]; rfl
        have HN := Lib.hid (HNONE.out he)
        clear hnum hr he HNONE HSTEP
        go_wp2_with (first
          | (go_at_call 109; refine (N1.out _ (Below.refl _ _)).mono ?_; rintro ev w1 ⟨gr, rfl, hI, hb, _⟩; have HI := Lib.hid hI; have HB1 := Lib.hid hb; clear hI hb)
          | (go_at_call 110; refine (N2.out _ _ HI.out HB1.out).mono ?_; rintro ev w2 ⟨rfl, hI, hb, _⟩; have HI2 := Lib.hid hI; have HB2 := Lib.hid hb; clear hI hb)
          | (go_at_call 111; refine (N3.out _ _ HI2.out HB2.out).mono ?_; rintro ev w3 ⟨rfl, hI, hb, _⟩; have HI3 := Lib.hid hI; have HB3 := Lib.hid hb; clear hI hb)
          | (go_at_call 41; refine (F.out _ _).mono ?_; rintro ev w4 ⟨rfl, hb⟩; have HB4 := Lib.hid (HB3.out.trans (hb.mono HB3.out.size)); clear hb))
        go_ret2
        exact parsePost_none HN.out (HR.out.2.1.trans (HB4.out.mono hglt)) rfl
      | some x =>
        obtain ⟨u, c⟩ := x
        have hcl := readU_len (bs s) 0 0 u c hr
        rw [bs_len] at hcl
        have hrn : readN (bs s) = some (unzig u, c) := by unfold readN; rw [hr]; rfl
        rw [hr] at hnum
        unfold numR at hnum
        dsimp only at hnum
        generalize unzig u = n at *
        have N2 := Lib.hid (fun g W (hI : IsS192 wr W g s 0 false) (hb : Below wr.heap.size wr W) => varint_Reader_Num.calls 40 g s 0 false n s c false wr W hI hb hnum)
        have N3 := Lib.hid (fun g W (hI : IsS192 wr W g s c false) (hb : Below wr.heap.size wr W) => varint_Reader_Bad.calls g s c false false s c false wr W hI hb rfl)
        by_cases hin : 0 ≤ n ∧ n ≤ 1099511627776
        · obtain ⟨hn0, hn1⟩ := hin
          obtain ⟨m, hm⟩ : ∃ m, s.size = c + m := ⟨s.size - c, by omega⟩
          have hlf : varint_Reader_Left.f s (c : Int) false = some ((m : Int), s, (c : Int), false) := by
            unfold varint_Reader_Left.f
            rw [hm]
            have : wrap64 (((c + m : Nat) : Int) - (c : Int)) = (m : Int) := by unfold wrap64; omega
            rw [this]
          have N4 := Lib.hid (fun g W (hI : IsS192 wr W g s c false) (hb : Below wr.heap.size wr W) => varint_Reader_Left.calls g s c false m s c false wr W hI hb hlf)
          have hsub : (s.size : Int) - (m : Int) = (c : Int) := by omega
          have hcs : c ≤ s.size := by omega
          have HST := Lib.hid (fun w2 hb => HSTEP.out n c hrn hn0 hn1 w2 hb)
          have HBK := Lib.hid (show ∀ W, Below wr.heap.size wr W → (∃ a b, W.cell? ⟨w.heap.size, k * 2, none⟩ = some a ∧ W.cell? ⟨w.heap.size, k * 2 + 1, none⟩ = some b) ∧ W.frozen? ⟨w.heap.size, k * 2, none⟩ = false ∧ W.frozen? ⟨w.heap.size, k * 2 + 1, none⟩ = false from fun W hb => by
            obtain ⟨es, h3, h4⟩ := HR.out.2.2
            have h5 := h4.below hb
            have hl := parse_len _ _ h3
            rw [List.length_map, List.length_take] at hl
            have h6 := h5.at (i := k) (by rw [List.length_append, List.length_replicate]; omega)
            exact ⟨⟨_, _, h6.1, h6.2⟩, h5.fr _, h5.fr _⟩)
          clear hnum hr hrn hcl hm hlf HNONE HSTEP
          go_wp2_with (first
            | (go_at_call 109; refine (N1.out _ (Below.refl _ _)).mono ?_; rintro ev w1 ⟨gr, rfl, hI, hb, _⟩; have HI := Lib.hid hI; have HB1 := Lib.hid hb; clear hI hb)
            | (go_at_call 110; refine (N2.out _ _ HI.out HB1.out).mono ?_; rintro ev w2 ⟨rfl, hI, hb, _⟩; have HI2 := Lib.hid hI; have HB2 := Lib.hid hb; clear hI hb)
            | (go_at_call 111; refine (N3.out _ _ HI2.out HB2.out).mono ?_; rintro ev w3 ⟨rfl, hI, hb, _⟩; have HI3 := Lib.hid hI; have HB3 := Lib.hid hb; clear hI hb)
            | (go_at_call 112; refine (N4.out _ _ HI3.out HB3.out).mono ?_; rintro ev w4 ⟨rfl, hI, hb, _⟩; have HI4 := Lib.hid hI; have HB4 := Lib.hid hb; obtain ⟨⟨ca, cb, e0, e1⟩, f0, f1⟩ := HBK.out w4 hb; have hg4 := hb.size; clear hI hb))
          go_roundw
          case rel => exact ⟨k + 1, by go_num, HST.out _ HB4.out⟩
          case measure => simp [intOf]; omega
        · have F := Lib.hid (fun x W => failed_some x 110 (by decide) W)
          have he : ent1 (bs s) = none := by unfold ent1; rw [hrn]; dsimp only; rw [if_neg hin]
          have HN := Lib.hid (HNONE.out he)
          clear hnum hr he HNONE HSTEP hrn hcl
          by_cases hn0 : n < 0
          · clear hin
            go_wp2_with (first
              | (go_at_call 109; refine (N1.out _ (Below.refl _ _)).mono ?_; rintro ev w1 ⟨gr, rfl, hI, hb, _⟩; have HI := Lib.hid hI; have HB1 := Lib.hid hb; clear hI hb)
              | (go_at_call 110; refine (N2.out _ _ HI.out HB1.out).mono ?_; rintro ev w2 ⟨rfl, hI, hb, _⟩; have HI2 := Lib.hid hI; have HB2 := Lib.hid hb; clear hI hb)
              | (go_at_call 111; refine (N3.out _ _ HI2.out HB2.out).mono ?_; rintro ev w3 ⟨rfl, hI, hb, _⟩; have HI3 := Lib.hid hI; have HB3 := Lib.hid hb; clear hI hb)
              | (go_at_call 41; refine (F.out _ _).mono ?_; rintro ev w4 ⟨rfl, hb⟩; have HB4 := Lib.hid (HB3.out.trans (hb.mono HB3.out.size)); clear hb))
            go_ret2
            exact parsePost_none HN.out (HR.out.2.1.trans (HB4.out.mono hglt)) rfl
          · have hn1 : 1099511627776 < n := by omega
            have hn0' : 0 ≤ n := by omega
            clear hin hn0
            go_wp2_with (first
              | (go_at_call 109; refine (N1.out _ (Below.refl _ _)).mono ?_; rintro ev w1 ⟨gr, rfl, hI, hb, _⟩; have HI := Lib.hid hI; have HB1 := Lib.hid hb; clear hI hb)
              | (go_at_call 110; refine (N2.out _ _ HI.out HB1.out).mono ?_; rintro ev w2 ⟨rfl, hI, hb, _⟩; have HI2 := Lib.hid hI; have HB2 := Lib.hid hb; clear hI hb)
              | (go_at_call 111; refine (N3.out _ _ HI2.out HB2.out).mono ?_; rintro ev w3 ⟨rfl, hI, hb, _⟩; have HI3 := Lib.hid hI; have HB3 := Lib.hid hb; clear hI hb)
              | (go_at_call 41; refine (F.out _ _).mono ?_; rintro ev w4 ⟨rfl, hb⟩; have HB4 := Lib.hid (HB3.out.trans (hb.mono HB3.out.size)); clear hb))
            go_ret2
            exact parsePost_none HN.out (HR.out.2.1.trans (HB4.out.mono hglt)) rfl
    · go_wp2
      go_ret2
      exact parseRel_end HR.out hlt
end Go.Proofs.YtlmnmjnmilaipaaGreatDoor

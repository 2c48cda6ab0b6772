/- Package wal: log walked. -/
import Derived.Test.YtlmnmjnmilaipaaGreatDoorWalN
import Derived.Test.YtlmnmjnmilaipaaGreatDoorWalD
import Derived.Test.YtlmnmjnmilaipaaGreatDoorWalBA
import Derived.Deep.QuietTactic
import Derived.BigQuiet
set_option linter.unusedVariables false
set_option linter.unusedSimpArgs false
namespace Go.Proofs.YtlmnmjnmilaipaaGreatDoor
open Go Go.RowKit Go.Sort PR Go.Proofs.YtlmnmjnmilaipaaGreatDoorW.PrintWords

def mendP (D : Dk) (s : Bs) (used : Nat) (more : Bool) : Int × Dk := if more then renewP D kLog (ba (s.take used)) else (0, D)
def LogPost (b mb : Nat) (D : Dk) (q : Int) (s : Bs) (r : Option (List Ent × Nat × Bool)) (w : World) (e : Ending) (w' : World) : Prop := Only (Own b mb) w w' ∧ match r with
  | none => (∃ c, e = .returned (.tuple #[.slice none 0 0, chV 110 c])) ∧ DiskIs w' b mb D
  | some (all, used, more) => DiskIs w' b mb (mendP D s used more).2 ∧
    (((mendP D s used more).1 ≠ 0 ∧ ∃ c, e = .returned (.tuple #[.slice none 0 0, chV (mendP D s used more).1 c])) ∨
     ((mendP D s used more).1 = 0 ∧ ∃ g c, e = .returned (.tuple #[.slice (some ⟨g, 0, none⟩) (keepL q all).length c, .nilIface]) ∧ RowN w' g (keepL q all) ∧ w.heap.size ≤ g))
theorem logPost_none {b mb : Nat} {D : Dk} {q : Int} {s : Bs} {r : Option (List Ent × Nat × Bool)} (hr : r = none) {w w' : World} {e : Ending} (c : Ch) (ho : Only (Own b mb) w w') (hd : DiskIs w' b mb D) (he : e = .returned (.tuple #[.slice none 0 0, chV 110 c])) : LogPost b mb D q s r w e w' := by
  subst hr; exact ⟨ho, ⟨c, he⟩, hd⟩
theorem logPost_bad {b mb : Nat} {D D' : Dk} {q n : Int} {s : Bs} {r : Option (List Ent × Nat × Bool)} {all : List Ent} {used : Nat} {more : Bool} (hr : r = some (all, used, more)) (hm : mendP D s used more = (n, D')) (hn : n ≠ 0) {w w' : World} {e : Ending} (c : Ch) (ho : Only (Own b mb) w w') (hd : DiskIs w' b mb D') (he : e = .returned (.tuple #[.slice none 0 0, chV n c])) : LogPost b mb D q s r w e w' := by
  subst hr
  refine ⟨ho, ?_⟩
  dsimp only
  rw [hm]
  exact ⟨hd, .inl ⟨hn, c, he⟩⟩
theorem logPost_ok {b mb : Nat} {D D' : Dk} {q : Int} {s : Bs} {r : Option (List Ent × Nat × Bool)} {all : List Ent} {used : Nat} {more : Bool} (hr : r = some (all, used, more)) (hm : mendP D s used more = (0, D')) {w w' : World} {e : Ending} (g c : Nat) (ho : Only (Own b mb) w w') (hd : DiskIs w' b mb D') (he : e = .returned (.tuple #[.slice (some ⟨g, 0, none⟩) (keepL q all).length c, .nilIface])) (hR : RowN w' g (keepL q all)) (hg : w.heap.size ≤ g) : LogPost b mb D q s r w e w' := by
  subst hr
  refine ⟨ho, ?_⟩
  dsimp only
  rw [hm]
  exact ⟨hd, .inr ⟨rfl, g, c, he, hR, hg⟩⟩
theorem kLog_size2 : kLog.size ≤ maxLen := by unfold maxLen; decide
/-- What the order's loop has seen. -/
def OrdTo (q : Int) (all : List Ent) (k : Nat) : Prop := ∀ j, j < k → (all.getD j ent0).1 = (all.getD 0 ent0).1 + j ∧ 1 ≤ (all.getD j ent0).1 ∧ (all.getD 0 ent0).1 ≤ q + 1
theorem ord_of (q : Int) (all : List Ent) (h : OrdTo q all all.length) : ordP q all = true := by
  cases all with
  | nil => rfl
  | cons x t =>
    show (decide (x.1 ≤ q + 1) && ((List.range (x :: t).length).all fun i => decide (((x :: t).getD i (0, [])).1 = x.1 + i) && decide (1 ≤ ((x :: t).getD i (0, [])).1))) = true
    rw [Bool.and_eq_true, List.all_eq_true]
    refine ⟨decide_eq_true (h 0 (by simp)).2.2, fun i hi => ?_⟩
    obtain ⟨h1, h2, _⟩ := h i (List.mem_range.1 hi)
    rw [Bool.and_eq_true]
    exact ⟨decide_eq_true h1, decide_eq_true h2⟩
theorem ord_not (q : Int) (all : List Ent) (k : Nat) (hk : k < all.length) (h : ¬ ((all.getD k ent0).1 = (all.getD 0 ent0).1 + k ∧ 1 ≤ (all.getD k ent0).1 ∧ (all.getD 0 ent0).1 ≤ q + 1)) : ordP q all = false := by
  cases all with
  | nil => exact absurd hk (by simp)
  | cons x t =>
    rw [← Bool.not_eq_true]
    intro hc
    have hc : (decide (x.1 ≤ q + 1) && ((List.range (x :: t).length).all fun i => decide (((x :: t).getD i (0, [])).1 = x.1 + i) && decide (1 ≤ ((x :: t).getD i (0, [])).1))) = true := hc
    rw [Bool.and_eq_true, List.all_eq_true] at hc
    have h2 := hc.2 k (List.mem_range.2 hk)
    rw [Bool.and_eq_true] at h2
    exact h ⟨of_decide_eq_true h2.1, of_decide_eq_true h2.2, of_decide_eq_true hc.1⟩
theorem parse_bounds : ∀ (a : List Bs) (es : List Ent), parseP a = some es → ∀ j, j < es.length → 0 ≤ (es.getD j ent0).1 ∧ (es.getD j ent0).1 ≤ 1099511627776
  | [], es, h, j, hj => by obtain rfl : [] = es := Option.some.inj h; exact absurd hj (by simp)
  | x :: a, es, h, j, hj => by
    rw [parse_cons] at h
    obtain ⟨y, hy, h2⟩ := Option.bind_eq_some_iff.1 h
    obtain ⟨ys, hys, rfl⟩ := Option.map_eq_some_iff.1 h2
    cases j with
    | zero => exact ent1_bound hy
    | succ j => exact parse_bounds a ys hys j (by simpa using hj)
set_option maxHeartbeats 8000000 in
set_option maxRecDepth 100000 in
theorem log_any (b mb : Nat) (D : Dk) (q : Int) (w : World) (h : DiskIs w b mb D) (hD : D.Ok) (ha : D.acts + 3 < 4611686018427387904) (hoff : D.off = false) (hq0 : 0 ≤ q) (hq1 : q ≤ 1099511627776) :
    Calls Tryz.prog 66 #[.pointer (some ⟨b, 0, none⟩), .int .i64 q] w (LogPost b mb D q (bs (fileV D kLog)) (logOf q (bs (fileV D kLog))) w) := by
  have L := Lib.hid (load_any b mb D kLog (w.alloc (.cells #[.int .i64 q] 3)) (h.alloc _) hD hoff)
  have hsz := file_size hD kLog
  have F := Lib.hid (fun x W => failed_some x 110 (by decide) W)
  have HD := Lib.hid h
  have RN := fun (t : ByteArray) (ht : t.size ≤ maxLen) W (hW : DiskIs W b mb D) => renew_any b mb D kLog t W hW hD ha kLog_size2 ht
  generalize fileV D kLog = s at *
  obtain ⟨ps, u, er, hal⟩ : ∃ ps u er, allP (s.size + 1) (bs s) = (ps, u, er) := ⟨_, _, _, rfl⟩
  have A := Lib.hid (fun W => all_use s (by omega) ps u er hal W)
  have hpl : ∀ p ∈ ps, p.length ≤ 4096 := fun p hp => all_pay_len (s.size + 1) (bs s) p (by rw [hal]; exact hp)
  have hpm : ps.length ≤ 65536 := by have := all_many (s.size + 1) (bs s); rw [hal, bs_len] at this; exact Nat.le_trans this hsz
  have hus : u ≤ s.size := by have := all_used (s.size + 1) (bs s); rw [hal, bs_len] at this; exact this
  have P := Lib.hid (fun c A W hc hC => parse_use ps A c hc (by omega) hpl W hC)
  have hlg : logOf q (bs s) = match parseP ps with
    | none => none
    | some all => if er = 31 then none else if ordP q all then some (all, u, decide (er ≠ 0)) else none := by
    unfold logOf
    rw [bs_len, hal]
    rfl
  clear hal hpl h hD ha hoff
  have HDB := Lib.hid (fun W (hb : Below (w.alloc (.cells #[.int .i64 q] 3)).heap.size (w.alloc (.cells #[.int .i64 q] 3)) W) => (HD.out.alloc (.cells #[.int .i64 q] 3)).only (Only.of_below (S := fun _ => False) hb) (fun h => h) (fun h => h))
  have HOB := Lib.hid (fun W (hb : Below (w.alloc (.cells #[.int .i64 q] 3)).heap.size (w.alloc (.cells #[.int .i64 q] 3)) W) => (show Only (Own b mb) w W from ((Only.refl (Own b mb) w).alloc _).then_below hb))
  cases hp : parseP ps with
  | none =>
    rw [hp] at P hlg
    have HLG := Lib.hid hlg
    clear hp hlg
    go_enter Tryz.func66, Tryz.ntmps66
    go_wp2_with (first
      | (go_at_call 85; refine L.out.mono ?_; rintro ev w1 ⟨rfl, hb⟩; have HB := Lib.hid hb; clear hb)
      | (go_at_call 86; refine (A.out _).mono ?_; rintro ev w2 ⟨A2, c2, rfl, hc2, hC, hb⟩; have HB2 := Lib.hid (HB.out.trans (hb.mono HB.out.size)); have HC := Lib.hid hC; have HCC := Lib.hid hc2; clear hb hC hc2)
      | (go_at_call 87; refine (P.out _ _ _ HCC.out HC.out).mono ?_; rintro ev w3 ⟨hb, rfl⟩; have HB3 := Lib.hid (HB2.out.trans (hb.mono HB2.out.size)); clear hb; unfold chV)
      | (go_at_call 41; refine (F.out _ _).mono ?_; rintro ev w4 ⟨rfl, hb⟩; have HB4 := Lib.hid (HB3.out.trans (hb.mono HB3.out.size)); clear hb))
    go_ret2
    exact logPost_none HLG.out (.one ⟨#[108, 111, 103]⟩) (HOB.out _ HB4.out) (HDB.out _ HB4.out) rfl
  | some all =>
    have hel := parse_len _ _ hp
    have hbd := parse_bounds _ _ hp
    rw [hp] at P hlg
    dsimp only at hlg
    clear hp
    by_cases h31 : er = 31
    · subst h31
      rw [if_pos rfl] at hlg
      have HLG := Lib.hid hlg
      clear hbd hlg
      go_enter Tryz.func66, Tryz.ntmps66
      go_wp2_with (first
        | (go_at_call 85; refine L.out.mono ?_; rintro ev w1 ⟨rfl, hb⟩; have HB := Lib.hid hb; clear hb)
        | (go_at_call 86; refine (A.out _).mono ?_; rintro ev w2 ⟨A2, c2, rfl, hc2, hC, hb⟩; have HB2 := Lib.hid (HB.out.trans (hb.mono HB.out.size)); have HC := Lib.hid hC; have HCC := Lib.hid hc2; clear hb hC hc2)
        | (go_at_call 87; refine (P.out _ _ _ HCC.out HC.out).mono ?_; rintro ev w3 ⟨hb, rfl, hR⟩; have HB3 := Lib.hid (HB2.out.trans (hb.mono HB2.out.size)); clear hb hR)
        | (go_at_call 41; refine (F.out _ _).mono ?_; rintro ev w4 ⟨rfl, hb⟩; have HB4 := Lib.hid (HB3.out.trans (hb.mono HB3.out.size)); clear hb))
      go_ret2
      exact logPost_none HLG.out (.one ⟨#[108, 111, 103]⟩) (HOB.out _ HB4.out) (HDB.out _ HB4.out) rfl
    · rw [if_neg h31] at hlg
      have HLG := Lib.hid hlg
      clear hlg
      have h31b : (er == 31) = false := by rw [beq_eq_false_iff_ne]; exact h31
      have HBD := Lib.hid hbd
      have H31 := Lib.hid h31
      clear hbd h31
      go_enter Tryz.func66, Tryz.ntmps66
      go_wp2_with (first
        | (go_at_call 85; refine L.out.mono ?_; rintro ev w1 ⟨rfl, hb⟩; have HB := Lib.hid hb; clear hb)
        | (go_at_call 86; refine (A.out _).mono ?_; rintro ev w2 ⟨A2, c2, rfl, hc2, hC, hb⟩; have HB2 := Lib.hid (HB.out.trans (hb.mono HB.out.size)); have HC := Lib.hid hC; have HCC := Lib.hid hc2; clear hb hC hc2)
        | (go_at_call 87; refine (P.out _ _ _ HCC.out HC.out).mono ?_; rintro ev w3 ⟨hb, rfl, hR⟩; have HB3 := Lib.hid (HB2.out.trans (hb.mono HB2.out.size)); have HR := Lib.hid hR; have g23 := hb.size; have g12 := HB2.out.size; simp only [World.size_alloc] at g12; have G12 := Lib.hid g12; have g2 := hR.lt; clear hb hR g12)
        | (go_at_call 41; refine (F.out _ _).mono ?_; rintro ev w4 ⟨rfl, hb⟩; have HB4 := Lib.hid (HB3.out.trans (hb.mono HB3.out.size)); clear hb))
      have hcq := (show w3.cell? ⟨w.heap.size, 0, none⟩ = some (.int .i64 q) from (HB3.out.cell (p := ⟨w.heap.size, 0, none⟩) (by simp)).trans (by go_simp))
      have HCQ := Lib.hid hcq
      have g1 := HB3.out.size
      simp only [World.size_alloc] at g1
      have GW := Lib.hid g1
      clear hcq g1
      have HEL := Lib.hid hel
      clear hel
      go_loopw [45] (fun i wr => ∃ k : Nat, k ≤ ps.length ∧ i = .int .i64 k ∧ OrdTo q all k ∧ Kept w3 wr) (fun i _ => ps.length - (intOf i).toNat)
      case atStart => exact ⟨0, Nat.zero_le _, rfl, fun j hj => absurd hj (by omega), Only.refl _ _⟩
      case round =>
        obtain ⟨k, hk, rfl, hor, ho⟩ := hrel
        have HO := Lib.hid ho
        have HOR := Lib.hid hor
        clear ho hor
        have hgw := HO.out.size
        have hqw := GW.out
        have HBR := Lib.hid (show Below (w.alloc (.cells #[.int .i64 q] 3)).heap.size (w.alloc (.cells #[.int .i64 q] 3)) wr from HB3.out.trans (HO.out.below (B := (w.alloc (.cells #[.int .i64 q] 3)).heap.size) HB3.out.size (fun _ _ h => h)))
        by_cases hlt : k < ps.length
        · have hrow := HR.out.only HO.out (fun h => h)
          obtain ⟨ek0, ek1⟩ := hrow.at (i := k) (by rw [HEL.out]; exact hlt)
          obtain ⟨e0, _⟩ := hrow.at (i := 0) (by rw [HEL.out]; omega)
          simp only [Nat.zero_mul] at e0
          have cq := (HO.out.cell (p := ⟨w.heap.size, 0, none⟩) (by show w.heap.size < _; omega) (fun h => h)).trans HCQ.out
          obtain ⟨bk0, bk1⟩ := HBD.out k (by rw [HEL.out]; exact hlt)
          obtain ⟨ba0, ba1⟩ := HBD.out 0 (by rw [HEL.out]; omega)
          have hgl := hrow.lt
          have HNO := Lib.hid (ord_not q all k (by rw [HEL.out]; exact hlt))
          have HYES := Lib.hid (show ((all.getD k ent0).1 = (all.getD 0 ent0).1 + k ∧ 1 ≤ (all.getD k ent0).1 ∧ (all.getD 0 ent0).1 ≤ q + 1) → OrdTo q all (k + 1) from fun h j hj => by
            rcases Nat.lt_succ_iff_lt_or_eq.1 hj with h2 | rfl
            · exact HOR.out j h2
            · exact h)
          clear hrow
          generalize all.getD k ent0 = x at *
          generalize all.getD 0 ent0 = y at *
          obtain ⟨n, t⟩ := x
          obtain ⟨a, t0⟩ := y
          dsimp only at ek0 ek1 e0 bk0 bk1 ba0 ba1 HNO HYES
          have HFAIL := Lib.hid (show ¬(n = a + k ∧ 1 ≤ n ∧ a ≤ q + 1) → logOf q (bs s) = none from fun h => by rw [HLG.out, HNO.out h]; rfl)
          clear HNO
          have HSTEP := Lib.hid (show ∀ (m : Nat) (W : World), Below ((wr.alloc (.cells #[.int .i64 n, .string (ba t)] 62)).drewN m).heap.size ((wr.alloc (.cells #[.int .i64 n, .string (ba t)] 62)).drewN m) W → Below (w.alloc (.cells #[.int .i64 q] 3)).heap.size (w.alloc (.cells #[.int .i64 q] 3)) W from fun m W hb => (below_drewN (HBR.out.alloc HBR.out.size _) m).trans (hb.mono (Nat.le_trans HBR.out.size (by simp))))
          have hw : IntKind.i64.wrap (a + (k : Int)) = a + (k : Int) := IntWalk.i64_in _ (by omega)
          have h0l : 0 < ps.length := by omega
          have hqlt : w.heap.size < wr.heap.size := by omega
          have hw2 : IntKind.i64.wrap (q + 1) = q + 1 := IntWalk.i64_in _ (by omega)
          by_cases c1 : n = a + k
          · by_cases c2 : 1 ≤ n
            · by_cases c3 : a ≤ q + 1
              · have HY := Lib.hid (HYES.out ⟨c1, c2, c3⟩)
                have t1 : (n == a + (k : Int)) = true := by rw [beq_iff_eq]; exact c1
                have t2 : (n != a + (k : Int)) = false := by rw [bne_eq_false_iff_eq]; exact c1
                have t3 : decide (n < 1) = false := decide_eq_false (by omega)
                have t4 : decide (q + 1 < a) = false := decide_eq_false (by omega)
                clear c1 c2 c3 HYES HFAIL bk0 bk1 ba0 ba1
                go_wp2
                go_quiet (fail)
                go_wp2
                go_roundw
                case rel => exact ⟨k + 1, by omega, by go_num, HY.out, (HO.out.alloc _).drewN _⟩
                case measure => simp [intOf]; omega
              · have HX := Lib.hid (HFAIL.out (fun h => c3 h.2.2))
                have t1 : (n == a + (k : Int)) = true := by rw [beq_iff_eq]; exact c1
                have t2 : (n != a + (k : Int)) = false := by rw [bne_eq_false_iff_eq]; exact c1
                have t3 : decide (n < 1) = false := decide_eq_false (by omega)
                have t4 : decide (q + 1 < a) = true := decide_eq_true (by omega)
                clear c1 c2 c3 HYES HFAIL bk0 bk1 ba0 ba1
                go_wp2
                go_quiet (fail)
                go_wp2_with (go_at_call 41; refine (F.out _ _).mono ?_; rintro ev w4 ⟨rfl, hb⟩; have HB4 := Lib.hid (HSTEP.out _ _ hb); clear hb)
                go_ret2
                exact logPost_none HX.out (.one ⟨#[111, 114, 100, 101, 114]⟩) (HOB.out _ HB4.out) (HDB.out _ HB4.out) rfl
            · have HX := Lib.hid (HFAIL.out (fun h => c2 h.2.1))
              have t1 : (n == a + (k : Int)) = true := by rw [beq_iff_eq]; exact c1
              have t2 : (n != a + (k : Int)) = false := by rw [bne_eq_false_iff_eq]; exact c1
              have t3 : decide (n < 1) = true := decide_eq_true (by omega)
              clear c1 c2 HYES HFAIL bk0 bk1 ba0 ba1
              go_wp2
              go_quiet (fail)
              go_wp2_with (go_at_call 41; refine (F.out _ _).mono ?_; rintro ev w4 ⟨rfl, hb⟩; have HB4 := Lib.hid (HSTEP.out _ _ hb); clear hb)
              go_ret2
              exact logPost_none HX.out (.one ⟨#[111, 114, 100, 101, 114]⟩) (HOB.out _ HB4.out) (HDB.out _ HB4.out) rfl
          · have HX := Lib.hid (HFAIL.out (fun h => c1 h.1))
            have t1 : (n == a + (k : Int)) = false := by rw [beq_eq_false_iff_ne]; exact c1
            have t2 : (n != a + (k : Int)) = true := by rw [bne_iff_ne]; exact c1
            clear c1 HYES HFAIL bk0 bk1 ba0 ba1
            go_wp2
            go_quiet (fail)
            go_wp2_with (go_at_call 41; refine (F.out _ _).mono ?_; rintro ev w4 ⟨rfl, hb⟩; have HB4 := Lib.hid (HSTEP.out _ _ hb); clear hb)
            go_ret2
            exact logPost_none HX.out (.one ⟨#[111, 114, 100, 101, 114]⟩) (HOB.out _ HB4.out) (HDB.out _ HB4.out) rfl
        · have hkl : k = ps.length := by omega
          have HOK := Lib.hid (show logOf q (bs s) = some (all, u, decide (er ≠ 0)) from by
            rw [HLG.out, ord_of q all (by rw [HEL.out, ← hkl]; exact HOR.out)]; rfl)
          have hqlt : w.heap.size < wr.heap.size := by omega
          have h12 := G12.out
          have hgq : w.heap.size ≠ w2.heap.size := by omega
          have lb := HD.out.lt
          have lm := HD.out.map.lt
          have cq := Lib.hid ((HO.out.cell (p := ⟨w.heap.size, 0, none⟩) (by show w.heap.size < _; omega) (fun h => h)).trans HCQ.out)
          have DEL := fun W (hR : RowN W w2.heap.size all) (hq : W.cell? ⟨w.heap.size, 0, none⟩ = some (.int .i64 q)) => del_any w2.heap.size w.heap.size q all W hR hq hgq (by rw [HEL.out]; omega)
          rw [HEL.out] at DEL
          have DELH := Lib.hid DEL
          have hnb : b ≠ w2.heap.size := by omega
          have hnm : mb ≠ w2.heap.size := by omega
          clear DEL h31b
          by_cases h0 : er = 0
          · subst h0
            have HM := Lib.hid (show mendP D (bs s) u (decide ((0 : Int) ≠ 0)) = (0, D) from rfl)
            go_wp2_with (go_at_call 88; refine (DELH.out _ (HR.out.only HO.out (fun h => h)) cq.out).mono ?_; rintro ev w4 ⟨rfl, hR4, ho4⟩; have HR4 := Lib.hid hR4; have HO4 := Lib.hid ho4; clear hR4 ho4)
            go_ret2
            exact logPost_ok HOK.out HM.out w2.heap.size all.length ((HOB.out _ HBR.out).trans' HO4.out (fun _ _ h => h) (fun k hk h => absurd hk (by subst h; omega))) ((HDB.out _ HBR.out).only HO4.out (fun h => hnb h) (fun h => hnm h)) rfl HR4.out (by omega)
          · have h0b : (er == 0) = false := by rw [beq_eq_false_iff_ne]; exact h0
            have hx : ba ((bs s).take u) = s.extract 0 u := by
              rw [← ba_bs (s.extract 0 u), extract_bs, List.drop_zero]
            have HMM := Lib.hid (show mendP D (bs s) u (decide (er ≠ 0)) = renewP D kLog (s.extract 0 u) from by
              unfold mendP
              rw [if_pos (decide_eq_true h0), hx])
            have hxs : (s.extract 0 u).size ≤ maxLen := by
              have : (s.extract 0 u).size ≤ 65536 := by rw [ByteArray.size_extract]; omega
              unfold maxLen; omega
            have RN2 := fun W hW => RN (s.extract 0 u) hxs W hW
            generalize renewP D kLog (s.extract 0 u) = R at *
            obtain ⟨n1, D1⟩ := R
            dsimp only at RN2 HMM
            clear hx h0
            by_cases h1 : n1 = 0
            · subst h1
              have RN3 := Lib.hid (show ∀ W, DiskIs W b mb D → Calls Tryz.prog 38 #[.pointer (some ⟨b, 0, none⟩), .string kLog, .string (s.extract 0 u)] W fun e w' => e = .returned .nilIface ∧ DiskIs w' b mb D1 ∧ Only (Own b mb) W w' from fun W hW => (RN2 W hW).mono fun e w' h => ⟨h.1.choose_spec, h.2.1, h.2.2⟩)
              clear RN2 RN
              go_wp2_with (first
                | (go_at_call 38; refine (RN3.out _ (HDB.out _ HBR.out)).mono ?_; rintro ev w4 ⟨rfl, hd4, ho4⟩; have HR4 := Lib.hid ((HR.out.only HO.out (fun h => h)).only ho4 (fun h => h.elim (fun e => hnb e.symm) (fun e => hnm e.symm))); have CQ4 := Lib.hid ((ho4.cell (p := ⟨w.heap.size, 0, none⟩) hqlt (fun h => h.elim (fun e => absurd lb (by show ¬ b < w.heap.size; have e : w.heap.size = b := e; omega)) (fun e => absurd lm (by show ¬ mb < w.heap.size; have e : w.heap.size = mb := e; omega)))).trans cq.out); have HD4 := Lib.hid hd4; have HO4 := Lib.hid ho4; clear hd4 ho4)
                | (go_at_call 88; refine (DELH.out _ HR4.out CQ4.out).mono ?_; rintro ev w5 ⟨rfl, hR5, ho5⟩; have HR5 := Lib.hid hR5; have HO5 := Lib.hid ho5; clear hR5 ho5))
              go_ret2
              exact logPost_ok HOK.out HMM.out w2.heap.size all.length (((HOB.out _ HBR.out).trans HO4.out).trans' HO5.out (fun _ _ h => h) (fun k hk h => absurd hk (by subst h; omega))) (HD4.out.only HO5.out (fun h => hnb h) (fun h => hnm h)) rfl HR5.out (by omega)
            · have RN3 := Lib.hid (show ∀ W, DiskIs W b mb D → Calls Tryz.prog 38 #[.pointer (some ⟨b, 0, none⟩), .string kLog, .string (s.extract 0 u)] W fun e w' => (∃ x, e = .returned (chV n1 (.one x))) ∧ DiskIs w' b mb D1 ∧ Only (Own b mb) W w' from fun W hW => (RN2 W hW).mono fun e w' h => ⟨h.1.elim fun x h2 => ⟨x, by unfold errV at h2; rw [if_neg h1] at h2; exact h2⟩, h.2.1, h.2.2⟩)
              have H1 := Lib.hid h1
              clear RN2 RN h1
              go_wp2_with (go_at_call 38; refine (RN3.out _ (HDB.out _ HBR.out)).mono ?_; rintro ev w4 ⟨⟨x, rfl⟩, hd4, ho4⟩; have HD4 := Lib.hid hd4; have HO4 := Lib.hid ho4; clear hd4 ho4; unfold chV)
              go_ret2
              exact logPost_bad HOK.out HMM.out H1.out (.two ⟨#[109, 101, 110, 100]⟩ x) ((HOB.out _ HBR.out).trans HO4.out) HD4.out rfl
end Go.Proofs.YtlmnmjnmilaipaaGreatDoor

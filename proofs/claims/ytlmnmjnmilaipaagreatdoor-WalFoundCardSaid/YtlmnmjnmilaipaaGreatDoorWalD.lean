/- slices.IndexFunc, slices.DeleteFunc at entries, with package wal's closure. -/
import Derived.Test.YtlmnmjnmilaipaaGreatDoorEnt
import Derived.Test.YtlmnmjnmilaipaaGreatDoorWalBA
set_option linter.unusedVariables false
set_option linter.unusedSimpArgs false
namespace Go.Proofs.YtlmnmjnmilaipaaGreatDoor
open Go Go.RowKit

abbrev Kept (w w' : World) : Prop := Only (fun _ => False) w w'
theorem log1_any (n : Int) (t : ByteArray) (bq : Nat) (q : Int) (w : World) (hq : w.cell? ⟨bq, 0, none⟩ = some (.int .i64 q)) :
    Calls Tryz.prog 89 #[.agg #[.int .i64 n, .string t], .pointer (some ⟨bq, 0, none⟩)] w fun e w' => e = .returned (.bool (decide (n ≤ q))) ∧ Kept w w' := by
  have l1 := World.block_lt_of_cell? w _ hq
  simp only at l1
  go_enter Tryz.func89, Tryz.ntmps89
  go_wp2
  go_ret
  exact ⟨rfl, (Only.refl _ _).alloc _⟩
/-- The first entry to be deleted. -/
def FirstDel (q : Int) (xs : List Ent) (r : Int) : Prop :=
  (r = -1 ∧ ∀ j, j < xs.length → q < (xs.getD j ent0).1) ∨ ∃ k : Nat, r = k ∧ k < xs.length ∧ (∀ j, j < k → q < (xs.getD j ent0).1) ∧ (xs.getD k ent0).1 ≤ q
set_option maxHeartbeats 2000000 in
theorem idx_any (g bq : Nat) (q : Int) (c : Nat) (xs : List Ent) (w : World) (hR : RowN w g xs) (hq : w.cell? ⟨bq, 0, none⟩ = some (.int .i64 q)) (hl : xs.length ≤ 100000) :
    Calls Tryz.prog 113 #[.slice (some ⟨g, 0, none⟩) xs.length c, .func (.func 89) #[] #[.pointer (some ⟨bq, 0, none⟩)]] w fun e w' => Kept w w' ∧ ∃ r : Int, e = .returned (.int .i64 r) ∧ FirstDel q xs r := by
  have HQ := Lib.hid hq
  have HR := Lib.hid hR
  have lq := World.block_lt_of_cell? w _ hq
  simp only at lq
  clear hq hR
  go_enter Tryz.func113, Tryz.ntmps113
  go_wp2
  go_loopw [5, 8] (fun _ i wr => ∃ k : Nat, k ≤ xs.length ∧ i = .int .i64 k ∧ (∀ j, j < k → q < (xs.getD j ent0).1) ∧ Kept w wr) (fun _ i _ => xs.length - (intOf i).toNat)
  case atStart => exact ⟨0, Nat.zero_le _, rfl, fun j hj => absurd hj (by omega), Only.refl _ _⟩
  case round =>
    obtain ⟨k, hk, rfl, hok, ho⟩ := hrel
    have HO := Lib.hid ho
    have HK := Lib.hid hok
    clear ho hok
    by_cases hlt : k < xs.length
    · obtain ⟨e0, e1⟩ := (HR.out.only HO.out (fun h => h)).at hlt
      have hcall := log1_any (xs.getD k ent0).1 (ba (xs.getD k ent0).2) bq q wr ((HO.out.cell lq (fun h => h)).trans HQ.out)
      have HL := Lib.hid hlt
      have hglt := (HR.out.only HO.out (fun h => h)).lt
      have HK2 := Lib.hid (show ∀ z, decide ((xs.getD k ent0).1 ≤ q) = z → (z = true → FirstDel q xs k) ∧ (z = false → ∀ j, j < k + 1 → q < (xs.getD j ent0).1) from fun z hz => ⟨fun h => .inr ⟨k, rfl, hlt, HK.out, by subst hz; exact of_decide_eq_true h⟩, fun h j hj => by
        rcases Nat.lt_succ_iff_lt_or_eq.1 hj with h2 | rfl
        · exact HK.out j h2
        · subst hz; have := of_decide_eq_false h; omega⟩)
      generalize xs.getD k ent0 = x at *
      obtain ⟨n, t⟩ := x
      dsimp only at e0 e1 hcall HK2
      have K2 := HK2.out _ rfl
      generalize hz : decide (n ≤ q) = z at *
      have HZ := Lib.hid hz
      have K3 := Lib.hid K2
      clear hz K2 HK2
      cases z with
      | true =>
        go_wp2_with (go_at_call 89; refine hcall.mono ?_; rintro e w' ⟨rfl, hb'⟩; have HB := Lib.hid hb'; clear hb')
        go_ret
        exact ⟨HO.out.trans HB.out, k, rfl, K3.out.1 trivial⟩
      | false =>
        go_wp2_with (go_at_call 89; refine hcall.mono ?_; rintro e w' ⟨rfl, hb'⟩; have HB := Lib.hid hb'; clear hb')
        go_roundw
        case rel => exact ⟨k + 1, by omega, by go_num, K3.out.2 trivial, HO.out.trans HB.out⟩
        case measure => simp [intOf]; omega
    · go_wp2
      go_ret
      exact ⟨HO.out, -1, rfl, .inl ⟨rfl, fun j hj => HK.out j (by omega)⟩⟩
def keepL (q : Int) (xs : List Ent) : List Ent := xs.filter fun x => decide (q < x.1)
/-- DeleteFunc under way: i entries kept, j looked at. -/
structure DelRel (g : Nat) (q : Int) (xs : List Ent) (i j : Nat) (ys : List Ent) : Prop where
  ij : i < j
  jl : j ≤ xs.length
  len : ys.length = xs.length
  kept : ys.take i = keepL q (xs.take j)
  rest : ∀ p, j ≤ p → ys.getD p ent0 = xs.getD p ent0
theorem take_getD (xs : List Ent) (k : Nat) (h : k < xs.length) : xs.take (k + 1) = xs.take k ++ [xs.getD k ent0] := by
  rw [List.take_succ_eq_append_getElem h]
  simp [List.getD_eq_getElem?_getD, h]
theorem keep_all (q : Int) (xs : List Ent) (k : Nat) (hk : k ≤ xs.length) (h : ∀ j, j < k → q < (xs.getD j ent0).1) : keepL q (xs.take k) = xs.take k := by
  unfold keepL
  rw [List.filter_eq_self]
  intro x hx
  obtain ⟨j, hj, rfl⟩ := List.getElem_of_mem hx
  rw [List.length_take] at hj
  have := h j (by omega)
  rw [List.getElem_take]
  rw [List.getD_eq_getElem?_getD, List.getElem?_eq_getElem (by omega)] at this
  exact decide_eq_true this
theorem delRel_start {g : Nat} {q : Int} {xs : List Ent} {k : Nat} (hk : k < xs.length) (h : ∀ j, j < k → q < (xs.getD j ent0).1) (h2 : (xs.getD k ent0).1 ≤ q) : DelRel g q xs k (k + 1) xs :=
  ⟨by omega, hk, rfl, by
    rw [take_getD xs k hk]
    unfold keepL
    rw [List.filter_append]
    have h1 := keep_all q xs k (by omega) h
    unfold keepL at h1
    rw [h1]
    rw [List.filter_cons, if_neg (by rw [decide_eq_true_eq]; omega)]
    simp, fun p _ => rfl⟩
theorem delRel_drop {g : Nat} {q : Int} {xs : List Ent} {i j : Nat} {ys : List Ent} (h : DelRel g q xs i j ys) (hj : j < xs.length) (h2 : (xs.getD j ent0).1 ≤ q) : DelRel g q xs i (j + 1) ys :=
  ⟨Nat.lt_succ_of_lt h.ij, hj, h.len, by
    rw [h.kept, take_getD xs j hj]
    unfold keepL
    rw [List.filter_append, List.filter_cons, if_neg (by rw [decide_eq_true_eq]; omega)]
    simp, fun p hp => h.rest p (by omega)⟩
theorem delRel_keep {g : Nat} {q : Int} {xs : List Ent} {i j : Nat} {ys : List Ent} (h : DelRel g q xs i j ys) (hj : j < xs.length) (h2 : ¬ (xs.getD j ent0).1 ≤ q) : DelRel g q xs (i + 1) (j + 1) (ys.set i (xs.getD j ent0)) :=
  ⟨Nat.succ_lt_succ h.ij, hj, by rw [List.length_set]; exact h.len, by
    have hi : i < ys.length := by have := h.len; have := h.ij; omega
    rw [take_getD _ i (by rw [List.length_set]; exact hi), ent_set _ _ _ _ hi, if_pos rfl, List.take_set_of_le (Nat.le_refl _), h.kept, take_getD xs j hj]
    unfold keepL
    rw [List.filter_append, List.filter_cons, if_pos (by rw [decide_eq_true_eq]; omega)]
    simp, fun p hp => by
    have hi : i < ys.length := by have := h.len; have := h.ij; omega
    have := h.ij
    rw [ent_set _ _ _ _ hi, if_neg (by omega)]
    exact h.rest p (by omega)⟩
def DelPost (g : Nat) (q : Int) (xs : List Ent) (w : World) (e : Ending) (w' : World) : Prop :=
  e = .returned (.slice (some ⟨g, 0, none⟩) (keepL q xs).length xs.length) ∧ RowN w' g (keepL q xs) ∧ Only (· = g) w w'
theorem delPost_all {g : Nat} {q : Int} {xs : List Ent} {w w' : World} {e : Ending} (h : ∀ j, j < xs.length → q < (xs.getD j ent0).1) (he : e = .returned (.slice (some ⟨g, 0, none⟩) xs.length xs.length)) (hR : RowN w' g xs) (ho : Only (· = g) w w') : DelPost g q xs w e w' := by
  have := keep_all q xs xs.length (Nat.le_refl _) h
  rw [List.take_of_length_le (Nat.le_refl _)] at this
  unfold DelPost
  rw [this]
  exact ⟨he, hR, ho⟩
theorem firstDel_det {q : Int} {xs : List Ent} {r r' : Int} (h : FirstDel q xs r) (h' : FirstDel q xs r') : r = r' := by
  rcases h with ⟨rfl, h⟩ | ⟨k, rfl, h1, h2, h3⟩
  · rcases h' with ⟨rfl, _⟩ | ⟨k', rfl, g1, g2, g3⟩
    · rfl
    · have := h k' g1; omega
  · rcases h' with ⟨rfl, h⟩ | ⟨k', rfl, g1, g2, g3⟩
    · have := h k h1; omega
    · rcases Nat.lt_trichotomy k k' with l | l | l
      · have := g2 k l; omega
      · rw [l]
      · have := h2 k' l; omega
theorem firstDel_ex (q : Int) (xs : List Ent) : ∀ n k, k + n = xs.length → (∀ j, j < k → q < (xs.getD j ent0).1) → ∃ r, FirstDel q xs r
  | 0, k, hk, h => ⟨-1, .inl ⟨rfl, fun j hj => h j (by omega)⟩⟩
  | n + 1, k, hk, h => by
    by_cases hc : (xs.getD k ent0).1 ≤ q
    · exact ⟨k, .inr ⟨k, rfl, by omega, h, hc⟩⟩
    · exact firstDel_ex q xs n (k + 1) (by omega) (fun j hj => by
        rcases Nat.lt_succ_iff_lt_or_eq.1 hj with h2 | rfl
        · exact h j h2
        · omega)
theorem delPost_end {g : Nat} {q : Int} {xs ys : List Ent} {i j : Nat} {w w' : World} {e : Ending} (h : DelRel g q xs i j ys) (hj : ¬ j < xs.length) (hR : RowN w' g (ys.take i)) (ho : Only (· = g) w w') (he : e = .returned (.slice (some ⟨g, 0, none⟩) i xs.length)) : DelPost g q xs w e w' := by
  have h1 : ys.take i = keepL q xs := by rw [h.kept, List.take_of_length_le (show xs.length ≤ j by omega)]
  have h2 := congrArg List.length h1
  rw [List.length_take] at h2
  have := h.len; have := h.ij; have := h.jl
  rw [h1] at hR
  exact ⟨by rw [← h2, Nat.min_eq_left (by omega)]; exact he, hR, ho⟩
set_option maxHeartbeats 8000000 in
set_option maxRecDepth 100000 in
theorem del_any (g bq : Nat) (q : Int) (xs : List Ent) (w : World) (hR : RowN w g xs) (hq : w.cell? ⟨bq, 0, none⟩ = some (.int .i64 q)) (hgq : bq ≠ g) (hl : xs.length ≤ 100000) :
    Calls Tryz.prog 88 #[.slice (some ⟨g, 0, none⟩) xs.length xs.length, .func (.func 89) #[] #[.pointer (some ⟨bq, 0, none⟩)]] w (DelPost g q xs w) := by
  have HQ := Lib.hid hq
  have HR := Lib.hid hR
  have lq := World.block_lt_of_cell? w _ hq
  simp only at lq
  have lg := hR.lt
  obtain ⟨r, hr⟩ := firstDel_ex q xs xs.length 0 (by omega) (fun j hj => absurd hj (by omega))
  have A := Lib.hid (show Calls Tryz.prog 113 #[.slice (some ⟨g, 0, none⟩) xs.length xs.length, .func (.func 89) #[] #[.pointer (some ⟨bq, 0, none⟩)]] w fun e w' => e = .returned (.int .i64 r) ∧ Kept w w' from (idx_any g bq q xs.length xs w hR hq hl).mono fun e w' ⟨h1, r', h2, h3⟩ => ⟨by rw [firstDel_det hr h3]; exact h2, h1⟩)
  clear hq hR
  rcases hr with ⟨rfl, hr⟩ | ⟨k, rfl, h1, h2, h3⟩
  · have HRR := Lib.hid hr
    clear hr
    go_enter Tryz.func88, Tryz.ntmps88
    go_wp2_with (go_at_call 113; refine A.out.mono ?_; rintro e w1 ⟨rfl, hb⟩; have HB := Lib.hid hb; clear hb)
    go_ret
    exact delPost_all HRR.out rfl (HR.out.only HB.out (fun h => h)) (HB.out.mono (fun _ _ h => h.elim))
  · have HST := Lib.hid (delRel_start (g := g) h1 h2 h3)
    clear h2 h3
    have hk1 : ((k : Int) == -1) = false := by rw [beq_eq_false_iff_ne]; omega
    go_enter Tryz.func88, Tryz.ntmps88
    go_wp2_with (go_at_call 113; refine A.out.mono ?_; rintro e w1 ⟨rfl, hb⟩; have HB := Lib.hid hb; clear hb)
    go_loopw [5, 6, 7] (fun vi vj _ wr => ∃ i j ys, vi = .int .i64 (i : Nat) ∧ vj = .int .i64 (j : Nat) ∧ DelRel g q xs i j ys ∧ RowN wr g ys ∧ Only (· = g) w wr) (fun _ vj _ _ => xs.length - (intOf vj).toNat)
    case atStart => exact ⟨k, k + 1, xs, rfl, rfl, HST.out, HR.out.only HB.out (fun h => h), HB.out.mono (fun _ _ h => h.elim)⟩
    case round =>
      obtain ⟨i, j, ys, rfl, rfl, hd, hrow, ho⟩ := hrel
      have HD := Lib.hid hd
      have HO := Lib.hid ho
      have HY := Lib.hid hrow
      have hij := hd.ij
      have hjl := hd.jl
      have hyl := hd.len
      clear hd ho hrow
      by_cases hlt : j < xs.length
      · obtain ⟨e0, e1⟩ := HY.out.at (i := j) (by omega)
        have hrest := HD.out.rest j (Nat.le_refl _)
        rw [hrest] at e0 e1
        have hcall := fun W (hk : Kept wr W) => log1_any (xs.getD j ent0).1 (ba (xs.getD j ent0).2) bq q W ((hk.cell (Nat.lt_of_lt_of_le lq HO.out.size) (fun h => h)).trans ((HO.out.cell lq hgq).trans HQ.out))
        have HDR := Lib.hid (fun h => delRel_drop HD.out hlt h)
        have HKP := Lib.hid (fun h => delRel_keep HD.out hlt h)
        have HSET := Lib.hid (fun W (hW : RowN W g ys) => hW.set (i := i) (by omega) (xs.getD j ent0).1 (ba (xs.getD j ent0).2))
        have hglt := HY.out.lt
        clear hrest
        generalize xs.getD j ent0 = x at *
        obtain ⟨n, t⟩ := x
        dsimp only at e0 e1 hcall HDR HKP HSET
        have HC := Lib.hid hcall
        clear hcall
        have key := fun W (hb : Kept (wr.alloc (.cells #[.int .i64 n, .string (ba t)] 62)) W) => (show W.cell? ⟨wr.heap.size, 0, none⟩ = some (.int .i64 n) ∧ W.cell? ⟨wr.heap.size, 1, none⟩ = some (.string (ba t)) ∧ (∃ a b, W.cell? ⟨g, i * 2, none⟩ = some a ∧ W.cell? ⟨g, i * 2 + 1, none⟩ = some b) ∧ W.frozen? ⟨g, i * 2, none⟩ = false ∧ W.frozen? ⟨g, i * 2 + 1, none⟩ = false ∧ wr.heap.size < W.heap.size from by
          have h5 := (HY.out.alloc (.cells #[.int .i64 n, .string (ba t)] 62)).only hb (fun h => h)
          have h6 := h5.at (i := i) (by omega)
          refine ⟨(hb.cell (p := ⟨wr.heap.size, 0, none⟩) (by simp) (fun h => h)).trans (by go_simp), (hb.cell (p := ⟨wr.heap.size, 1, none⟩) (by simp) (fun h => h)).trans (by go_simp), ⟨_, _, h6.1, h6.2⟩, h5.fr _, h5.fr _, ?_⟩
          have := hb.size
          simp at this
          omega)
        have KEY := Lib.hid key
        clear key
        by_cases hz : n ≤ q
        · rw [decide_eq_true hz] at HC
          have HZ := Lib.hid hz
          clear hz
          go_wp2_with (go_at_call 89; refine (HC.out _ ((Only.refl _ _).alloc _)).mono ?_; rintro e w2 ⟨rfl, hb⟩; have HB := Lib.hid hb; clear hb)
          go_roundw
          case rel => exact ⟨i, j + 1, ys, rfl, by go_num, HDR.out HZ.out, (HY.out.alloc _).only HB.out (fun h => h), (HO.out.alloc _).trans (HB.out.mono (fun _ _ h => h.elim))⟩
          case measure => simp [intOf]; omega
        · rw [decide_eq_false hz] at HC
          have HZ := Lib.hid hz
          clear hz
          go_wp2_with (go_at_call 89; refine (HC.out _ ((Only.refl _ _).alloc _)).mono ?_; rintro e w2 ⟨rfl, hb⟩; obtain ⟨c0, c1, ⟨ca, cb, d0, d1⟩, f0, f1, hsz⟩ := KEY.out _ hb; have HB := Lib.hid hb; clear hb)
          go_roundw
          case rel =>
            have hs := HSET.out _ ((HY.out.alloc _).only HB.out (fun h => h))
            rw [bs_ba] at hs
            exact ⟨i + 1, j + 1, ys.set i (n, t), by go_num, by go_num, HKP.out HZ.out, hs, (((HO.out.alloc _).trans (HB.out.mono (fun _ _ h => h.elim))).setCell (fun _ => rfl) _).setCell (fun _ => rfl) _⟩
          case measure => simp [intOf]; omega
      · have hclr := fun ty => (HY.out.clear i (by omega) ty (xs.length - i)).1
        have hrw := Lib.hid (HY.out.clear i (by omega) 0 (xs.length - i)).2
        rw [hyl] at hclr hrw
        have hci : ¬ (xs.length = i) := by omega
        have HOO := Lib.hid (setCells_only (zE (xs.length - i)) g (i * 2) (fun k => k = g) w wr HO.out (fun _ => rfl))
        have hil : i ≤ xs.length := by omega
        generalize zE (xs.length - i) = ze at *
        clear hij
        go_wp2
        go_ret
        exact delPost_end HD.out hlt hrw.out HOO.out rfl
end Go.Proofs.YtlmnmjnmilaipaaGreatDoor

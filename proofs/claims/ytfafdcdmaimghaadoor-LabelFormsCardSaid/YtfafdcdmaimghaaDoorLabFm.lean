/- Layer 4: LabelForms walked. -/
import Derived.Test.YtfafdcdmaimghaaDoorLabL
set_option linter.unusedVariables false
set_option linter.unusedSimpArgs false
namespace Go.Proofs.YtfafdcdmaimghaaDoor
open Go Go.RowKit PR Go.Proofs.YtfafdcdmaimghaaDoorW.PrintWords

theorem infoInt : (Tryd.prog.info? 3).map (fun i => (i.zero, i.size, i.bytes)) = some (some (.int .i64 0), 1, 8) := by kernel_rfl
theorem int_at {w : World} {A : Option Addr} {xs : List Int} (h : Kd.C (Kd.int .i64) w A xs.length xs) (k : Nat) (hk : k < xs.length) : ∃ ad, A = some ad ∧ w.cell? (ad.add k) = some (.int .i64 (xs.getD k 0)) := by
  obtain ⟨ad, c, rfl, hc, hK, hcell⟩ := Kd.C_get h 0 (k : Int) (by omega) (by omega)
  refine ⟨ad, rfl, ?_⟩
  obtain rfl : c = [Value.int .i64 (xs.getD k 0)] := hK
  have := hcell 0 _ rfl
  simpa [Kd.int, Kd.scalar] using this
theorem turnL_take (l : List Int) (t k : Nat) (hk : k < l.length) : (turnL l t).take (k + 1) = (turnL l t).take k ++ [l.getD ((k + t) % l.length) 0] := by
  have h : k < (turnL l t).length := by rw [turnL_len]; exact hk
  rw [List.take_add_one, List.getElem?_eq_getElem h]
  simp [turnL]
theorem turnL_mem' (l : List Int) (t : Nat) (x : Int) (h : x ∈ turnL l t) : x ∈ l := by
  unfold turnL at h
  obtain ⟨i, hi, rfl⟩ := List.mem_map.1 h
  have hi := List.mem_range.1 hi
  have hj : (i + t) % l.length < l.length := Nat.mod_lt _ (by omega)
  rw [getD_get hj]
  exact List.getElem_mem _
theorem tidy_as {s u : Bs} {e : Int} (h : bothP s [] = (u, e)) (W : World) (hs : s.length ≤ 2097152) (hM : MaxLenAt W) :
    Calls Tryd.prog 13 #[.string (ba s)] W fun e' w' => e' = .returned (.tuple #[.string (ba u), .int .i64 e]) ∧ Below W.heap.size W w' := tidy_of h W hs hM
theorem issel_of {s : Bs} (h : isSel s = true) (W : World) (hs : s.length ≤ 2097152) (hM : MaxLenAt W) :
    Calls Tryd.prog 23 #[.string (ba s)] W fun e' w' => e' = .returned (.bool true) ∧ Below W.heap.size W w' := by
  have := lissel_any (ba s) W (by rw [ba_size]; exact hs) hM
  rwa [list_ba, h] at this
set_option maxHeartbeats 4000000 in
set_option maxRecDepth 100000 in
theorem labelForms_row (A0 : Option Addr) (c0 : Nat) (xs0 : List Int) (hl0 : xs0.length ≤ c0) (w : World) (hc0 : Kd.C (Kd.int .i64) w A0 xs0.length xs0) (hz0 : ∀ x ∈ xs0, i64 x) (hm0 : c0 ≤ maxLen)
    (turn : Int) (htu : i64 turn) (hM : MaxLenAt w) :
    Calls Tryd.prog 9 #[.slice A0 xs0.length c0, .int .i64 turn] w fun e w' => e = .returned (.bool true) ∧ Below w.heap.size w w' := by
  obtain ⟨ys, hys⟩ : ∃ ys, xs0.take 4 = ys := ⟨_, rfl⟩
  have hyl : ys.length = min 4 xs0.length := by rw [← hys, List.length_take]
  have hyc : Kd.C (Kd.int .i64) w A0 ys.length ys := by
    have h := Kd.C_take hc0 (m := min 4 xs0.length) (by omega)
    rwa [show xs0.take (min 4 xs0.length) = ys from by rw [← List.take_take, List.take_length, hys]] at h
  have hyz : ∀ y ∈ ys, i64 y := fun y hy => hz0 y (by rw [← hys] at hy; exact List.mem_of_mem_take hy)
  have hy0 : ys.length ≤ c0 := by omega
  have hmin : min (xs0.length : Int) 4 = ((ys.length : Nat) : Int) := by
    rw [hyl]
    rcases Nat.le_total xs0.length 4 with h | h
    · rw [Int.min_eq_left (by omega), Nat.min_eq_right h]
    · rw [Int.min_eq_right (by omega), Nat.min_eq_left h]; rfl
  obtain ⟨t, htt⟩ : ∃ t, pk turn % ys.length = t := ⟨_, rfl⟩
  have ht0 : ys ≠ [] → t < ys.length := fun h => by rw [← htt]; exact Nat.mod_lt _ (List.length_pos_iff.2 h)
  obtain ⟨S, e1, e2, hS, e3, e4⟩ := zForms ys t (by omega) ht0
  have hL1 := selP_len ys
  have hL2 := selP_len (turnL ys t)
  have a0 := fun W (h : Below w.heap.size w W) => selector_any A0 c0 ys W (Kd.C_below hyc h) hy0 hyz
  have a1 := fun A c W (hl : (turnL ys t).length ≤ c) (hc : Kd.C (Kd.int .i64) W A (turnL ys t).length (turnL ys t)) => selector_any A c (turnL ys t) W hc hl (fun x hx => hyz x (turnL_mem' ys t x hx))
  have a2 := fun W (h : Below w.heap.size w W) => tidy_of e1 W (by omega) (hM.below h)
  have a3 := fun W (h : Below w.heap.size w W) => tidy_of e2 W (by omega) (hM.below h)
  have a4 := fun W (h : Below w.heap.size w W) => issel_of e3 W (by omega) (hM.below h)
  have a5 := fun W (h : Below w.heap.size w W) => issel_of e4 W (by omega) (hM.below h)
  have a6 := fun (hn : 0 < ys.length) W => billetlaw04_pick.calls turn ((ys.length : Nat) : Int) _ W (rpick turn ys.length htu hn)
  rw [htt] at a6
  have htl := turnL_len ys t
  rw [htl] at a1
  have hat := fun W (h : Below w.heap.size w W) k hk => int_at (Kd.C_below hyc h) k hk
  have htk := fun k hk => turnL_take ys t k hk
  have hall : (turnL ys t).take ys.length = turnL ys t := List.take_of_length_le (by rw [htl]; exact Nat.le_refl _)
  have hn4 : ys.length ≤ 4 := by omega
  have htp : 0 < ys.length → t < ys.length := fun h => ht0 (List.length_pos_iff.1 h)
  have hkl : ∀ k, k ≤ ys.length → ((turnL ys t).take k).length = k := fun k hk => by rw [List.length_take, htl]; omega
  generalize selP ys = S1 at *
  generalize selP (turnL ys t) = S2 at *
  generalize turnL ys t = os at *
  have HAW := Lib.hid (awake4_any w hM)
  have B0 := Lib.hid a0
  have B1 := Lib.hid a1
  have B2 := Lib.hid a2
  have B3 := Lib.hid a3
  have B4 := Lib.hid a4
  have B5 := Lib.hid a5
  have B6 := Lib.hid a6
  have HAT := Lib.hid hat
  have HTK := Lib.hid htk
  have HAL := Lib.hid hall
  have HKL := Lib.hid hkl
  have HTP := Lib.hid htp
  obtain ⟨n, hn⟩ : ∃ n, ys.length = n := ⟨_, rfl⟩
  rw [hn] at B0 B1 B6 HAT HTK HAL HKL HTP hn4 hmin hy0
  clear a0 a1 a2 a3 a4 a5 a6 hat htk hall hkl htp e1 e2 e3 e4 hS hL1 hL2 hM hyc hyz hz0 hc0 hyl ht0 htl htt
  have HN := Lib.hid hn
  clear hn hys
  go_enter Tryd.func9, Tryd.ntmps9
  go_wp2_with (first
    | (go_at_call 10; refine HAW.out.mono ?_; rintro e w0 ⟨rfl, hb⟩; have C0 := Lib.hid hb; clear hb))
  go_loopw [6, 7] (fun v i wr => ∃ k : Nat, k ≤ n ∧ i = .int .i64 k ∧ Kd.R (Kd.int .i64) 3 wr w.heap.size (fun _ => True) v (os.take k) ∧ Below w.heap.size w wr) (fun _ i _ => n - (Lib.intOf i).toNat)
  case atStart => exact ⟨0, Nat.zero_le _, rfl, by rw [List.take_zero]; exact Kd.R_nil _ _ _ _ _, C0.out⟩
  case round =>
    obtain ⟨k, hk, rfl, hro, hrb⟩ := hrel
    obtain ⟨Av, cv, rfl⟩ := Kd.R_slice hro
    rw [HKL.out k hk] at hro ⊢
    have RO := Lib.hid hro
    have RB := Lib.hid hrb
    have hlt0 := hrb.size
    clear hro hrb
    by_cases hlt : k < n
    · obtain ⟨ad, rfl, _⟩ := HAT.out wr RB.out k hlt
      have hj : (k + t) % n < n := Nat.mod_lt _ (by omega)
      have htn := HTP.out (by omega)
      have hrem : Int.tmod ((k : Int) + (t : Int)) (n : Int) = (((k + t) % n : Nat) : Int) := by
        rw [Int.tmod_eq_emod_of_nonneg (by omega)]; rfl
      have hcell : ∀ W, Below w.heap.size w W → W.cell? (ad.add ((k + t) % n)) = some (.int .i64 (ys.getD ((k + t) % n) 0)) := fun W h => by
        obtain ⟨ad', e, h2⟩ := HAT.out W h _ hj
        injection e with e; subst e; exact h2
      have HC := Lib.hid hcell
      have HTK1 := HTK.out k hlt
      have HX := Lib.hid HTK1
      clear HTK1 hcell
      generalize (k + t) % n = j at *
      have hnz : ¬ ((n : Int) = 0) := by omega
      go_wp2_with (first
        | (go_at_call 28; refine (B6.out (by omega) _).mono ?_; rintro e w1 ⟨rfl, m, rfl⟩; have hcm := HC.out _ (belowN RB.out m); have hsm := (belowN RB.out m).size)
        | ((with_reducible refine gate_builtin (b := .append) (xs := #[.tmp 24, .tmp 37]) rfl ?_); (try (refine gate_guard (by rfl) ?_; dsimp only)); at_builtin; go_loud (refine Kd.R_append (Kd.int .i64) (w0 := w) w.heap.size rfl (.tmp 24) (.tmp 37) 33 3 (.int .i64 0) 8 rfl Tryd.underlying33 infoInt rfl (by decide) (by decide) (.slice Av k cv) (os.take k) (ys.getD j 0) [.int .i64 (ys.getD j 0)] (fun _ => True) (fun _ => False) (by rfl) (by rfl) rfl (fun _ h => h.elim) (fun _ _ => trivial) (Kd.R_drewN RO.out m) (belowN RB.out m) hsm (by rw [HKL.out k hk]; omega) ?_; intro v3 w3 ho hb _ _; have HO3 := Lib.hid ho; have HB3 := Lib.hid hb; clear ho hb)))
      go_roundw
      case rel => exact ⟨k + 1, by omega, by go_num, by rw [HX.out]; exact HO3.out, HB3.out⟩
      case measure => simp [Lib.intOf]; omega
    · obtain rfl : k = n := by omega
      have hro := RO.out
      rw [HAL.out] at hro
      obtain ⟨A', c', e13, hlc, hC13⟩ := Kd.R_reads hro
      have hon : os.length = k := by rw [← HAL.out]; exact HKL.out k (Nat.le_refl _)
      rw [hon] at e13 hlc hC13
      injection e13 with e1 e2 e3
      subst e1
      subst e3
      have H13 := Lib.hid hC13
      have HLC := Lib.hid hlc
      have HON := Lib.hid hon
      clear hC13 hro hon hlc
      have HBW := Lib.hid (fun W (h : Below wr.heap.size wr W) => below2 RB.out h)
      have HS2 := Lib.hid (fun W (h : Below wr.heap.size wr W) => B1.out Av cv W HLC.out (Kd.C_below H13.out h))
      go_wp2_with (first
        | (go_at_call 25; refine (HS2.out _ D6.out).mono ?_; rintro e w7 ⟨rfl, hb⟩; have D7 := Lib.hid (below2 D6.out hb); clear hb)
        | (go_at_call 25; refine (HS2.out _ D2.out).mono ?_; rintro e w3 ⟨rfl, hb⟩; have D3 := Lib.hid (below2 D2.out hb); clear hb)
        | (go_at_call 25; refine (B0.out _ (HBW.out _ (Below.refl _ _))).mono ?_; rintro e w1 ⟨rfl, hb⟩; have D1 := Lib.hid hb; clear hb)
        | (go_at_call 13; refine (B3.out _ (HBW.out _ D3.out)).mono ?_; rintro e w4 ⟨rfl, hb⟩; have D4 := Lib.hid (below2 D3.out hb); clear hb)
        | (go_at_call 13; refine (B2.out _ (HBW.out _ D1.out)).mono ?_; rintro e w2 ⟨rfl, hb⟩; have D2 := Lib.hid (below2 D1.out hb); clear hb)
        | (go_at_call 23; refine (B5.out _ (HBW.out _ D7.out)).mono ?_; rintro e w8 ⟨rfl, hb⟩; have D8 := Lib.hid (below2 D7.out hb); clear hb)
        | (go_at_call 23; refine (B4.out _ (HBW.out _ D4.out)).mono ?_; rintro e w6 ⟨rfl, hb⟩; have D6 := Lib.hid (below2 D4.out hb); clear hb))
      all_goals go_ret
      all_goals exact ⟨by first | rfl | (simp; done), HBW.out _ D8.out⟩
end Go.Proofs.YtfafdcdmaimghaaDoor

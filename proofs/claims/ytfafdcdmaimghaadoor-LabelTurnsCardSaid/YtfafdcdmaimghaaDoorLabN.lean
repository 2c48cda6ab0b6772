/- Layer 4: LabelTurns walked. -/
import Derived.Test.YtfafdcdmaimghaaDoorLabL
set_option linter.unusedVariables false
set_option linter.unusedSimpArgs false
namespace Go.Proofs.YtfafdcdmaimghaaDoor
open Go Go.RowKit PR Go.Proofs.YtfafdcdmaimghaaDoorW.PrintWords

theorem name_any (n : Int) (W : World) (hn : i64 n) : Calls Tryd.prog 27 #[.int .i64 n] W fun e w' => e = .returned (.string (ba (nameP n))) ∧ Below W.heap.size W w' :=
  billetlaw04_Name.calls n _ W (rName n hn)
theorem value_of {l k : Bs} {o : Option Bs} (h : valueP l k = o) (W : World) (hl : l.length ≤ 2097152) (hM : MaxLenAt W) :
    Calls Tryd.prog 17 #[.string (ba l), .string (ba k)] W fun e w' => e = .returned (.tuple #[.string (ba (o.getD [])), .bool o.isSome]) ∧ Below W.heap.size W w' := by
  have := lvalue_any (ba l) (ba k) W (by rw [ba_size]; exact hl) hM
  rwa [list_ba, list_ba, h] at this
theorem match_at {s l : Bs} {m : Bool} {e : Int} (h : matchP s l = (m, e)) {x : ByteArray} (hx : x = ba s) (W : World) (hs : s.length ≤ 2097152) (hl : l.length ≤ 2097152) (hM : MaxLenAt W) :
    Calls Tryd.prog 11 #[.string x, .string (ba l)] W fun e' w' => e' = .returned (.tuple #[.bool m, .int .i64 e]) ∧ Below W.heap.size W w' := by
  subst hx; exact match_of h W hs hl hM
theorem app3 (a b c : Bs) : ba a ++ ba b ++ ba c = ba (a ++ b ++ c) := by rw [ba_app', ba_app']
theorem app4 (a b c d : Bs) : ba a ++ ba b ++ ba c ++ ba d = ba (a ++ b ++ c ++ d) := by rw [ba_app', ba_app', ba_app']
set_option maxHeartbeats 16000000 in
set_option maxRecDepth 100000 in
theorem turns_core (key : Int) (hk : i64 key) (value : Int) (hv : i64 value) (A0 : Option Addr) (c0 : Nat) (xs0 : List Int) (hl0 : xs0.length ≤ c0) (w : World) (hc0 : Kd.C (Kd.int .i64) w A0 xs0.length xs0) (hz0 : ∀ x ∈ xs0, i64 x)
    (A1 : Option Addr) (c1 : Nat) (xs1 : List Int) (hl1 : xs1.length ≤ c1) (hc1 : Kd.C (Kd.int .i64) w A1 xs1.length xs1) (hz1 : ∀ x ∈ xs1, i64 x) (hM : MaxLenAt w)
    (K V L S : Bs) (eK : nameP key = K) (eV : nameP value = V) (eL : labP xs1 = L) (eS : selP (xs0.take 3) = S) (hK : K.length ≤ 12) (hV : V.length ≤ 12) (hL : L.length ≤ 108) (hS : S.length ≤ 108)
    (o : Option Bs) (b h x : Bool) (u : Bs) (hu : o.getD [] = u) (ho : o.isSome = h) (hcase : (h = false ∧ b = false) ∨ (h = true ∧ b = true ∧ u = V) ∨ (h = true ∧ b = false ∧ u ≠ V))
    (e1 : valueP L K = o) (e2 : matchP (K ++ [61] ++ V) L = (b, 0)) (e3 : matchP (K ++ [33, 61] ++ V) L = (!b, 0)) (e4 : matchP K L = (h, 0)) (e5 : matchP ([33] ++ K) L = (!h, 0))
    (e6 : matchP S L = (x, 0)) (hcs : (S = [] ∧ x = true) ∨ (S ≠ [] ∧ matchP (S ++ [44] ++ K) L = (x && h, 0))) :
    Calls Tryd.prog 6 #[.int .i64 key, .int .i64 value, .slice A0 xs0.length c0, .slice A1 xs1.length c1] w fun e w' => e = .returned (.bool true) ∧ Below w.heap.size w w' := by
  have hcat : ∀ a b : Bs, (a ++ b).length = a.length + b.length := fun a b => List.length_append
  have a0 := fun W (h : Below w.heap.size w W) => labels_any A1 c1 xs1 W (Kd.C_below hc1 h) hl1 hz1
  have a1 := fun W => name_any key W hk
  have a2 := fun W => name_any value W hv
  rw [eL] at a0
  rw [eK] at a1
  rw [eV] at a2
  have a3 := fun W (h : Below w.heap.size w W) => match_at e2 (app3 K [61] V) W (by rw [hcat, hcat]; simp; omega) (by omega) (hM.below h)
  have a4 := fun W (h : Below w.heap.size w W) => match_at e3 (app3 K [33, 61] V) W (by rw [hcat, hcat]; simp; omega) (by omega) (hM.below h)
  have a5 := fun W (h : Below w.heap.size w W) => match_of e4 W (by omega) (by omega) (hM.below h)
  have a6 := fun W (h : Below w.heap.size w W) => match_at e5 (ba_app' [33] K) W (by rw [hcat]; simp; omega) (by omega) (hM.below h)
  have a7 := fun W (h : Below w.heap.size w W) => value_of e1 W (by omega) (hM.below h)
  rw [hu, ho] at a7
  have hmin : (min (xs0.length : Int) 3).toNat = (xs0.take 3).length := by
    rw [List.length_take]
    rcases Nat.le_total xs0.length 3 with h | h
    · rw [Int.min_eq_left (by omega), Nat.min_eq_right h, Int.toNat_natCast]
    · rw [Int.min_eq_right (by omega), Nat.min_eq_left h]; rfl
  have HB0 : 0 ≤ min (xs0.length : Int) 3 ∧ min (xs0.length : Int) 3 ≤ (c0 : Int) := by
    rcases Nat.le_total xs0.length 3 with h | h
    · rw [Int.min_eq_left (by omega)]; omega
    · rw [Int.min_eq_right (by omega)]; omega
  have a8 := fun W (h : Below w.heap.size w W) => selector_any A0 c0 (xs0.take 3) W (Kd.C_take (Kd.C_below hc0 h) (m := min 3 xs0.length) (by omega) |> fun t => by rwa [show xs0.take (min 3 xs0.length) = xs0.take 3 from by rw [← List.take_take]; simp] at t) (by rw [List.length_take]; omega) (fun y hy => hz0 y (List.mem_of_mem_take hy))
  rw [eS, ← hmin] at a8
  have a9 := fun W (h : Below w.heap.size w W) => match_of e6 W (by omega) (by omega) (hM.below h)
  have HAW := Lib.hid (awake4_any w hM)
  have B0 := Lib.hid a0
  have B1 := Lib.hid a1
  have B2 := Lib.hid a2
  have B3 := Lib.hid a3
  have B4 := Lib.hid a4
  have B5 := Lib.hid a5
  have B6 := Lib.hid a6
  have B7 := Lib.hid a7
  have B8 := Lib.hid a8
  have B9 := Lib.hid a9
  have sK : (ba K).size ≤ 12 := by rw [ba_size]; exact hK
  have sV : (ba V).size ≤ 12 := by rw [ba_size]; exact hV
  have sS : (ba S).size ≤ 108 := by rw [ba_size]; exact hS
  rcases hcs with ⟨hS0, rfl⟩ | ⟨hS0, e9⟩
  · have hE1 : (ba S).toList = ([] : List UInt8) := by rw [Lib.toList_data, list_ba, hS0]
    clear a0 a1 a2 a3 a4 a5 a6 a7 a8 a9 e1 e2 e3 e4 e5 e6 hcat hM hmin hc0 hc1 hz0 hz1 hl0 hl1 hS0 eK eV eL eS hu ho hK hV hL hS
    rcases hcase with ⟨rfl, rfl⟩ | ⟨rfl, rfl, rfl⟩ | ⟨rfl, rfl, hne⟩
    all_goals (try have hq : ((ba u).toList == (ba V).toList) = false := by rw [Lib.toList_data, Lib.toList_data, list_ba, list_ba, beq_eq_false_iff_ne]; exact hne)
    all_goals
      go_enter Tryd.func6, Tryd.ntmps6
      go_wp2_with (first
        | (go_at_call 10; refine HAW.out.mono ?_; rintro e w0 ⟨rfl, hb⟩; have C0 := Lib.hid hb; clear hb)
        | (go_at_call 27; refine (B2.out _).mono ?_; rintro e w2 ⟨rfl, hb⟩; have C2 := Lib.hid (below2 C1.out hb); clear hb)
        | (go_at_call 27; refine (B1.out _).mono ?_; rintro e w1 ⟨rfl, hb⟩; have C1 := Lib.hid (below2 C0.out hb); clear hb)
        | (go_at_call 26; refine (B0.out _ C2.out).mono ?_; rintro e w3 ⟨rfl, hb⟩; have C3 := Lib.hid (below2 C2.out hb); clear hb)
        | (go_at_call 25; refine (B8.out _ C8.out).mono ?_; rintro e w9 ⟨rfl, hb⟩; have C9 := Lib.hid (below2 C8.out hb); clear hb)
        | (go_at_call 17; refine (B7.out _ C7.out).mono ?_; rintro e w8 ⟨rfl, hb⟩; have C8 := Lib.hid (below2 C7.out hb); clear hb)
        | (go_at_call 11; refine (B5.out _ D0.out).mono ?_; rintro e w11 ⟨rfl, hb⟩; have D1 := Lib.hid (below2 D0.out hb); clear hb)
        | (go_at_call 11; refine (B9.out _ C9.out).mono ?_; rintro e w10 ⟨rfl, hb⟩; have D0 := Lib.hid (below2 C9.out hb); clear hb)
        | (go_at_call 11; refine (B6.out _ C6.out).mono ?_; rintro e w7 ⟨rfl, hb⟩; have C7 := Lib.hid (below2 C6.out hb); clear hb)
        | (go_at_call 11; refine (B5.out _ C5.out).mono ?_; rintro e w6 ⟨rfl, hb⟩; have C6 := Lib.hid (below2 C5.out hb); clear hb)
        | (go_at_call 11; refine (B4.out _ C4.out).mono ?_; rintro e w5 ⟨rfl, hb⟩; have C5 := Lib.hid (below2 C4.out hb); clear hb)
        | (go_at_call 11; refine (B3.out _ C3.out).mono ?_; rintro e w4 ⟨rfl, hb⟩; have C4 := Lib.hid (below2 C3.out hb); clear hb))
      all_goals go_ret
      all_goals exact ⟨by first | rfl | (simp; done), D1.out⟩
  · have hE0 : ¬ (ba S).toList = ([] : List UInt8) := by rw [Lib.toList_data, list_ba]; exact hS0
    have hE1 : (ba S).toList.isEmpty = false := by rw [List.isEmpty_eq_false_iff]; exact hE0
    have aa := fun W (h : Below w.heap.size w W) => match_at e9 (app3 S [44] K) W (by rw [hcat, hcat]; simp; omega) (by omega) (hM.below h)
    have BB := Lib.hid aa
    clear a0 a1 a2 a3 a4 a5 a6 a7 a8 a9 aa e1 e2 e3 e4 e5 e6 e9 hcat hM hmin hc0 hc1 hz0 hz1 hl0 hl1 hS0 eK eV eL eS hu ho hK hV hL hS
    rcases hcase with ⟨rfl, rfl⟩ | ⟨rfl, rfl, rfl⟩ | ⟨rfl, rfl, hne⟩
    all_goals (try have hq : ((ba u).toList == (ba V).toList) = false := by rw [Lib.toList_data, Lib.toList_data, list_ba, list_ba, beq_eq_false_iff_ne]; exact hne)
    all_goals cases x
    all_goals
      go_enter Tryd.func6, Tryd.ntmps6
      go_wp2_with (first
        | (go_at_call 10; refine HAW.out.mono ?_; rintro e w0 ⟨rfl, hb⟩; have C0 := Lib.hid hb; clear hb)
        | (go_at_call 27; refine (B2.out _).mono ?_; rintro e w2 ⟨rfl, hb⟩; have C2 := Lib.hid (below2 C1.out hb); clear hb)
        | (go_at_call 27; refine (B1.out _).mono ?_; rintro e w1 ⟨rfl, hb⟩; have C1 := Lib.hid (below2 C0.out hb); clear hb)
        | (go_at_call 26; refine (B0.out _ C2.out).mono ?_; rintro e w3 ⟨rfl, hb⟩; have C3 := Lib.hid (below2 C2.out hb); clear hb)
        | (go_at_call 25; refine (B8.out _ C8.out).mono ?_; rintro e w9 ⟨rfl, hb⟩; have C9 := Lib.hid (below2 C8.out hb); clear hb)
        | (go_at_call 17; refine (B7.out _ C7.out).mono ?_; rintro e w8 ⟨rfl, hb⟩; have C8 := Lib.hid (below2 C7.out hb); clear hb)
        | (go_at_call 11; refine (BB.out _ D0.out).mono ?_; rintro e w11 ⟨rfl, hb⟩; have D1 := Lib.hid (below2 D0.out hb); clear hb)
        | (go_at_call 11; refine (B9.out _ C9.out).mono ?_; rintro e w10 ⟨rfl, hb⟩; have D0 := Lib.hid (below2 C9.out hb); clear hb)
        | (go_at_call 11; refine (B6.out _ C6.out).mono ?_; rintro e w7 ⟨rfl, hb⟩; have C7 := Lib.hid (below2 C6.out hb); clear hb)
        | (go_at_call 11; refine (B5.out _ C5.out).mono ?_; rintro e w6 ⟨rfl, hb⟩; have C6 := Lib.hid (below2 C5.out hb); clear hb)
        | (go_at_call 11; refine (B4.out _ C4.out).mono ?_; rintro e w5 ⟨rfl, hb⟩; have C5 := Lib.hid (below2 C4.out hb); clear hb)
        | (go_at_call 11; refine (B3.out _ C3.out).mono ?_; rintro e w4 ⟨rfl, hb⟩; have C4 := Lib.hid (below2 C3.out hb); clear hb))
      all_goals go_ret
      all_goals exact ⟨by first | rfl | (simp; done), D1.out⟩
theorem labelTurns_row (key : Int) (hk : i64 key) (value : Int) (hv : i64 value) (A0 : Option Addr) (c0 : Nat) (xs0 : List Int) (hl0 : xs0.length ≤ c0) (w : World) (hc0 : Kd.C (Kd.int .i64) w A0 xs0.length xs0) (hz0 : ∀ x ∈ xs0, i64 x) (hm0 : c0 ≤ maxLen)
    (A1 : Option Addr) (c1 : Nat) (xs1 : List Int) (hl1 : xs1.length ≤ c1) (hc1 : Kd.C (Kd.int .i64) w A1 xs1.length xs1) (hz1 : ∀ x ∈ xs1, i64 x) (hm1 : c1 ≤ maxLen) (hM : MaxLenAt w) :
    Calls Tryd.prog 6 #[.int .i64 key, .int .i64 value, .slice A0 xs0.length c0, .slice A1 xs1.length c1] w fun e w' => e = .returned (.bool true) ∧ Below w.heap.size w w' := by
  obtain ⟨o, x, e1, e2, e3, e4, e5, e6, e7, e8⟩ := zTurns key value (xs0.take 3) xs1 (by rw [List.length_take]; omega)
  refine turns_core key hk value hv A0 c0 xs0 hl0 w hc0 hz0 A1 c1 xs1 hl1 hc1 hz1 hM _ _ _ _ rfl rfl rfl rfl (nameP_len key) (nameP_len value) (labP_len xs1) (selP_len _) o (decide (o = some (nameP value))) o.isSome x (o.getD []) rfl rfl ?_ e1 e2 e3 e4 e5 e6 ?_
  · cases o with
    | none => exact .inl ⟨rfl, by simp⟩
    | some u =>
      rcases Classical.em (u = nameP value) with h | h
      · exact .inr (.inl ⟨rfl, by simp [h], h⟩)
      · exact .inr (.inr ⟨rfl, by simp [h], h⟩)
  · rcases Classical.em (selP (xs0.take 3) = []) with h | h
    · exact .inl ⟨h, e7 h⟩
    · exact .inr ⟨h, e8 h⟩
end Go.Proofs.YtfafdcdmaimghaaDoor

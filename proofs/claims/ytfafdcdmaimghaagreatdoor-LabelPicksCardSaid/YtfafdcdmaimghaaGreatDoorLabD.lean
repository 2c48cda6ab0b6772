/- Layer 4: label.read walked. -/
import Derived.Test.YtfafdcdmaimghaaGreatDoorLabC
set_option linter.unusedVariables false
set_option linter.unusedSimpArgs false
namespace Go.Proofs.YtfafdcdmaimghaaGreatDoor
open Go Go.RowKit Go.Proofs.YtfafdcdmaimghaaGreatDoorW.PrintWords

theorem hasSuf33 (l : Bs) : Lib.hasSuffix l [33] = decide (l.getLast? = some 33) := by
  unfold Lib.hasSuffix List.isSuffixOf
  rw [List.getLast?_eq_head?_reverse]
  cases l.reverse with
  | nil => rfl
  | cons b t =>
    rw [Bool.eq_iff_iff]
    simp [List.isPrefixOf]
    exact ⟨fun h => h.symm, fun h => h.symm⟩
theorem hasPre33 (l : Bs) : Lib.hasPrefix l [33] = decide (l.head? = some 33) := by
  unfold Lib.hasPrefix
  cases l with
  | nil => rfl
  | cons b t =>
    rw [Bool.eq_iff_iff]
    simp [List.isPrefixOf]
    exact ⟨fun h => h.symm, fun h => h.symm⟩
theorem trimSuf33 (l : Bs) : Lib.trimSuffix l [33] = if l.getLast? = some 33 then l.dropLast else l := by
  unfold Lib.trimSuffix
  rw [hasSuf33]
  by_cases h : l.getLast? = some 33
  · rw [if_pos (decide_eq_true h), if_pos h, List.dropLast_eq_take]; rfl
  · rw [if_neg (by rw [decide_eq_false h]; decide), if_neg h]
theorem extract1 (l : Bs) : (ba l).extract 1 (ba l).size = ba l.tail := by
  have h : ((ba l).extract 1 (ba l).size).data.toList = l.tail := by
    rw [ByteArray.data_extract, Array.toList_extract, list_ba, ba_size]
    cases l <;> simp [List.extract]
  rw [← ba_list ((ba l).extract 1 (ba l).size), h]
theorem lsuf_any (k : Bs) (w : World) (hs : k.length ≤ 2097152) : Calls Tryz.prog 32 #[.string (ba k), .string ⟨#[33]⟩] w fun e w' => e = .returned (.tuple #[.string (ba (if k.getLast? = some 33 then k.dropLast else k)), .bool (decide (k.getLast? = some 33))]) ∧ w' = w := by
  have h := Any.strings_CutSuffix Tryz.cutSufA (ba k) ⟨#[33]⟩ w (by rw [ba_size]; omega)
  have e2 : (⟨#[33]⟩ : ByteArray).data.toList = [33] := rfl
  rw [list_ba, e2, trimSuf33, hasSuf33] at h
  exact h
theorem lpre_any (k : Bs) (w : World) : Calls Tryz.prog 33 #[.string (ba k), .string ⟨#[33]⟩] w fun e w' => e = .returned (.bool (decide (k.head? = some 33))) ∧ w' = w := by
  have h := Any.strings_HasPrefix Tryz.hasPreA (ba k) ⟨#[33]⟩ w
  have e2 : (⟨#[33]⟩ : ByteArray).data.toList = [33] := rfl
  rw [list_ba, e2, hasPre33] at h
  exact h

theorem lnm_any (l : Bs) (h : l.length ≤ 2097152) (W : World) : Calls Tryz.prog 16 #[.string (ba l)] W fun e w' => e = .returned (.bool (isNm l)) ∧ Below W.heap.size W w' := by
  have := lname_any (ba l) W (by rw [ba_size]; omega)
  rwa [list_ba] at this
theorem ret_t {n m : Nat} {a b c d : ByteArray} (h1 : n = m) (h2 : a = c) (h3 : b = d) : Ending.returned (.agg #[.int .i64 n, .string a, .string b]) = .returned (.agg #[.int .i64 m, .string c, .string d]) := by rw [h1, h2, h3]

theorem obj_cell {w : World} {b : Nat} {cs : Array Value} {t : TypeId} (h : w.heap[b]? = some (.cells cs t)) (i : Nat) : w.cell? ⟨b, i, none⟩ = cs[i]? := by
  unfold World.cell?
  simp [h]
theorem obj_fr {w : World} {b : Nat} {cs : Array Value} {t : TypeId} (h : w.heap[b]? = some (.cells cs t)) (i : Nat) : w.frozen? ⟨b, i, none⟩ = false := by
  simp [World.frozen?, h]
/-- The two blocks of read: its result's, its t's. -/
structure RdW (w x : World) (a b c : Value) : Prop where
  z : x.heap[w.heap.size]? = some (.cells #[.int .i64 0, .string ⟨#[]⟩, .string ⟨#[]⟩] 33)
  t : x.heap[w.heap.size + 1]? = some (.cells #[a, b, c] 33)
  b : Below w.heap.size w x
theorem RdW.of {w x : World} {a b c : Value} {n : Nat} (hb : Below (((w.alloc (.cells #[.int .i64 0, .string ⟨#[]⟩, .string ⟨#[]⟩] 33)).drewN n).alloc (.cells #[a, b, c] 33)).heap.size (((w.alloc (.cells #[.int .i64 0, .string ⟨#[]⟩, .string ⟨#[]⟩] 33)).drewN n).alloc (.cells #[a, b, c] 33)) x) : RdW w x a b c := by
  have h1 : (((w.alloc (.cells #[.int .i64 0, .string ⟨#[]⟩, .string ⟨#[]⟩] 33)).drewN n).alloc (.cells #[a, b, c] 33)).heap.size = w.heap.size + 1 + 1 := by
    show ((w.heap.push _).push _).size = _
    simp
  refine ⟨?_, ?_, below2 (below_alloc (belowN (below_alloc (Below.refl _ _) _) n) _) hb⟩
  · rw [hb.block _ (by rw [h1]; omega)]
    show ((w.heap.push _).push _)[w.heap.size]? = _
    rw [Array.getElem?_push, if_neg (by simp), Array.getElem?_push, if_pos rfl]
  · rw [hb.block _ (by rw [h1]; omega)]
    show ((w.heap.push _).push _)[w.heap.size + 1]? = _
    rw [Array.getElem?_push, if_pos (by simp)]
theorem RdW.ofd {w x : World} {a b c : Value} {n : Nat} (hb : Below (((w.alloc (.cells #[.int .i64 0, .string ⟨#[]⟩, .string ⟨#[]⟩] 33)).drewN n).alloc (.cells #[a, b, c] 33)).drew.heap.size (((w.alloc (.cells #[.int .i64 0, .string ⟨#[]⟩, .string ⟨#[]⟩] 33)).drewN n).alloc (.cells #[a, b, c] 33)).drew x) : RdW w x a b c :=
  RdW.of ⟨hb.os, hb.tape, hb.output, hb.size, hb.block⟩
theorem RdW.step {w x y : World} {a b c : Value} (h : RdW w x a b c) (hb : Below x.heap.size x y) : RdW w y a b c :=
  ⟨(hb.block _ (Array.getElem?_eq_some_iff.1 h.z).1).trans h.z, (hb.block _ (Array.getElem?_eq_some_iff.1 h.t).1).trans h.t, below2 h.b hb⟩
theorem RdW.facts {w x : World} {a b c : Value} (h : RdW w x a b c) : x.cell? ⟨w.heap.size, 0, none⟩ = some (.int .i64 0) ∧ x.cell? ⟨w.heap.size, 1, none⟩ = some (.string ⟨#[]⟩) ∧ x.cell? ⟨w.heap.size, 2, none⟩ = some (.string ⟨#[]⟩) ∧
    x.frozen? ⟨w.heap.size, 0, none⟩ = false ∧ x.frozen? ⟨w.heap.size, 1, none⟩ = false ∧ x.frozen? ⟨w.heap.size, 2, none⟩ = false ∧
    x.cell? ⟨w.heap.size + 1, 0, none⟩ = some a ∧ x.cell? ⟨w.heap.size + 1, 1, none⟩ = some b ∧ x.cell? ⟨w.heap.size + 1, 2, none⟩ = some c :=
  ⟨obj_cell h.z 0, obj_cell h.z 1, obj_cell h.z 2, obj_fr h.z 0, obj_fr h.z 1, obj_fr h.z 2, obj_cell h.t 0, obj_cell h.t 1, obj_cell h.t 2⟩

theorem blk_set {w : World} {b i : Nat} {cs : Array Value} {t : TypeId} (h : w.heap[b]? = some (.cells cs t)) (v : Value) : (w.setCell ⟨b, i, none⟩ v).heap[b]? = some (.cells (cs.setIfInBounds i v) t) := by
  simp [World.setCell, Array.getElem?_modify, h]
theorem RdW.fin {w x : World} {a b c : Value} (h : RdW w x a b c) (p q r : Value) : (((x.setCell ⟨w.heap.size, 0, none⟩ p).setCell ⟨w.heap.size, 1, none⟩ q).setCell ⟨w.heap.size, 2, none⟩ r).cell? ⟨w.heap.size, 0, none⟩ = some p ∧
    (((x.setCell ⟨w.heap.size, 0, none⟩ p).setCell ⟨w.heap.size, 1, none⟩ q).setCell ⟨w.heap.size, 2, none⟩ r).cell? ⟨w.heap.size, 1, none⟩ = some q ∧
    (((x.setCell ⟨w.heap.size, 0, none⟩ p).setCell ⟨w.heap.size, 1, none⟩ q).setCell ⟨w.heap.size, 2, none⟩ r).cell? ⟨w.heap.size, 2, none⟩ = some r ∧
    Below w.heap.size w (((x.setCell ⟨w.heap.size, 0, none⟩ p).setCell ⟨w.heap.size, 1, none⟩ q).setCell ⟨w.heap.size, 2, none⟩ r) := by
  have h1 := blk_set (i := 2) (blk_set (i := 1) (blk_set (i := 0) h.z p) q) r
  refine ⟨?_, ?_, ?_, ((h.b.setCell (p := ⟨w.heap.size, 0, none⟩) (Nat.le_refl _) _).setCell (p := ⟨w.heap.size, 1, none⟩) (Nat.le_refl _) _).setCell (p := ⟨w.heap.size, 2, none⟩) (Nat.le_refl _) _⟩
  · rw [obj_cell h1 0]; simp
  · rw [obj_cell h1 1]; simp
  · rw [obj_cell h1 2]; simp
theorem read_res : Tryz.f14.results = #[.cell 2 33] := by kernel_rfl

set_option maxHeartbeats 4000000 in
set_option maxRecDepth 100000 in
theorem lread_any (s : ByteArray) (w : World) (hs : s.size ≤ 2097152) (hm : MaxLenAt w) :
    Calls Tryz.prog 14 #[.string s] w fun e w' => e = .returned (.agg #[.int .i64 (readT s.data.toList).1, .string (ba (readT s.data.toList).2.1), .string (ba (readT s.data.toList).2.2)]) ∧ Below w.heap.size w w' := by
  have hsz : s.data.toList.length ≤ 2097152 := by rw [← Lib.size_eq]; exact hs
  have hcut := fun W (h : Below w.heap.size w W) => lcut_any s W hs (hm.below h)
  have hk1 := (cutE_len 61 s.data.toList).1
  have hk2 := (cutE_len 61 s.data.toList).2
  change (keyOf s.data.toList).length ≤ _ at hk1
  change (valOf s.data.toList).length ≤ _ at hk2
  unfold readT rawT
  generalize (cutE 61 s.data.toList).2.2 = ok at *
  generalize keyOf s.data.toList = K at *
  generalize valOf s.data.toList = V at *
  have hsuf := fun W => lsuf_any K W (by omega)
  have hpre := fun W => lpre_any K W
  have HCUT := Lib.hid hcut
  have hdl : K.dropLast.length ≤ 2097152 := by rw [List.length_dropLast]; omega
  have htl : K.tail.length ≤ 2097152 := by rw [List.length_tail]; omega
  clear hcut hm
  go_enter Tryz.func14, Tryz.ntmps14
  cases ok
  · rw [if_neg (show ¬ (false = true) by decide)]
    have hna := lnm_any anyT (by decide)
    have e1 : isNm anyT = true := by decide
    rw [e1] at hna
    have HSUF := Lib.hid hsuf
    have HNA := Lib.hid hna
    clear hsuf hna
    by_cases hp : K.head? = some 33
    · rw [if_pos hp]
      simp only [e1, Bool.and_true]
      rw [decide_eq_true hp] at hpre
      have hnk := lnm_any K.tail htl
      have het := extract1 K
      have HPRE := Lib.hid hpre
      rw [← het] at hnk
      have hsl : 1 ≤ K.length := by cases K with
        | nil => cases hp
        | cons b t => simp
      rw [← ba_size] at hsl
      have HET := Lib.hid het
      clear hpre hp htl hdl het
      generalize isNm K.tail = nk at *
      have HNK := Lib.hid hnk
      clear hnk
      go_upto_region 9 with (first
        | (go_at_call 15; refine (HCUT.out _ (below_alloc (Below.refl _ _) _)).mono ?_; rintro e w2 ⟨rfl, n, rfl⟩)
        | (go_at_call 32; refine (HSUF.out _).mono ?_; rintro e w3 ⟨rfl, rfl⟩)
        | (go_at_call 33; refine (HPRE.out _).mono ?_; rintro e w4 ⟨rfl, rfl⟩))
      all_goals go_region
      all_goals cases nk
      all_goals go_wp2_with (first
          | (go_at_call_of 16 K; refine (HNK.out _).mono ?_; rintro e w5 ⟨rfl, hb5⟩; have RW := Lib.hid (RdW.ofd hb5); clear hb5; obtain ⟨z0, z1, z2, f0, f1, f2, t0, t1, t2⟩ := RW.out.facts)
          | (go_at_call 16; refine (HNA.out _).mono ?_; rintro e w6 ⟨rfl, hb6⟩; have RX := Lib.hid (RW.out.step hb6); clear hb6; clear z0 z1 z2 f0 f1 f2 t0 t1 t2; obtain ⟨z0, z1, z2, f0, f1, f2, t0, t1, t2⟩ := RX.out.facts))
      all_goals first
        | (obtain ⟨y0, y1, y2, yb⟩ := RX.out.fin (.int .i64 2) (.string ((ba K).extract 1 (ba K).size)) (.string ⟨#[97, 110, 121]⟩)
           refine bodyPost_ret (v := .agg #[.int .i64 2, .string ((ba K).extract 1 (ba K).size), .string ⟨#[97, 110, 121]⟩]) ?_ rfl ⟨ret_t (n := 2) rfl HET.out rfl, yb⟩
           simp only [results, read_res]
           go_simp)
        | (obtain ⟨y0, y1, y2, yb⟩ := RW.out.fin (.int .i64 0) (.string ⟨#[]⟩) (.string ⟨#[]⟩)
           refine bodyPost_ret (v := .agg #[.int .i64 0, .string ⟨#[]⟩, .string ⟨#[]⟩]) ?_ rfl ⟨rfl, yb⟩
           simp only [results, read_res]
           go_simp)
    · rw [if_neg hp]
      simp only [e1, Bool.and_true]
      rw [decide_eq_false hp] at hpre
      have hnk := lnm_any K (by omega)
      have HPRE := Lib.hid hpre
      clear hpre hp htl hdl
      generalize isNm K = nk at *
      have HNK := Lib.hid hnk
      clear hnk
      cases nk
      · go_wp2_with (first
          | (go_at_call 15; refine (HCUT.out _ (below_alloc (Below.refl _ _) _)).mono ?_; rintro e w2 ⟨rfl, n, rfl⟩)
          | (go_at_call 32; refine (HSUF.out _).mono ?_; rintro e w3 ⟨rfl, rfl⟩)
          | (go_at_call 33; refine (HPRE.out _).mono ?_; rintro e w4 ⟨rfl, rfl⟩)
          | (go_at_call_of 16 K; refine (HNK.out _).mono ?_; rintro e w5 ⟨rfl, hb5⟩; have RW := Lib.hid (RdW.of hb5); clear hb5; obtain ⟨z0, z1, z2, f0, f1, f2, t0, t1, t2⟩ := RW.out.facts)
          | (go_at_call 16; refine (HNA.out _).mono ?_; rintro e w6 ⟨rfl, hb6⟩; have RX := Lib.hid (RW.out.step hb6); clear hb6; clear z0 z1 z2 f0 f1 f2 t0 t1 t2; obtain ⟨z0, z1, z2, f0, f1, f2, t0, t1, t2⟩ := RX.out.facts))
        all_goals
          obtain ⟨y0, y1, y2, yb⟩ := RW.out.fin (.int .i64 0) (.string ⟨#[]⟩) (.string ⟨#[]⟩)
          refine bodyPost_ret (v := .agg #[.int .i64 0, .string ⟨#[]⟩, .string ⟨#[]⟩]) ?_ rfl ⟨rfl, yb⟩
          simp only [results, read_res]
          go_simp
      · go_wp2_with (first
          | (go_at_call 15; refine (HCUT.out _ (below_alloc (Below.refl _ _) _)).mono ?_; rintro e w2 ⟨rfl, n, rfl⟩)
          | (go_at_call 32; refine (HSUF.out _).mono ?_; rintro e w3 ⟨rfl, rfl⟩)
          | (go_at_call 33; refine (HPRE.out _).mono ?_; rintro e w4 ⟨rfl, rfl⟩)
          | (go_at_call_of 16 K; refine (HNK.out _).mono ?_; rintro e w5 ⟨rfl, hb5⟩; have RW := Lib.hid (RdW.of hb5); clear hb5; obtain ⟨z0, z1, z2, f0, f1, f2, t0, t1, t2⟩ := RW.out.facts)
          | (go_at_call 16; refine (HNA.out _).mono ?_; rintro e w6 ⟨rfl, hb6⟩; have RX := Lib.hid (RW.out.step hb6); clear hb6; clear z0 z1 z2 f0 f1 f2 t0 t1 t2; obtain ⟨z0, z1, z2, f0, f1, f2, t0, t1, t2⟩ := RX.out.facts))
        all_goals
          obtain ⟨y0, y1, y2, yb⟩ := RX.out.fin (.int .i64 1) (.string (ba K)) (.string ⟨#[97, 110, 121]⟩)
          refine bodyPost_ret (v := .agg #[.int .i64 1, .string (ba K), .string ⟨#[97, 110, 121]⟩]) ?_ rfl ⟨rfl, yb⟩
          simp only [results, read_res]
          go_simp
  · rw [if_pos rfl]
    have hna := lnm_any V (by omega)
    clear hpre
    generalize hnv : isNm V = nv at *
    have HNA := Lib.hid hna
    clear hna
    by_cases hs2 : K.getLast? = some 33
    · rw [if_pos hs2]
      simp only [hnv]
      simp only [if_pos hs2, decide_eq_true hs2] at hsuf
      have hnk := lnm_any K.dropLast hdl
      clear hs2 hnv htl hdl
      generalize hdk : isNm K.dropLast = nk at *
      clear hdk
      generalize K.dropLast = D at *
      have HSUF := Lib.hid hsuf
      have HNK := Lib.hid hnk
      clear hsuf hnk
      cases nk
      · go_wp2_with (first
          | (go_at_call 15; refine (HCUT.out _ (below_alloc (Below.refl _ _) _)).mono ?_; rintro e w2 ⟨rfl, n, rfl⟩)
          | (go_at_call 32; refine (HSUF.out _).mono ?_; rintro e w3 ⟨rfl, rfl⟩)
          | (go_at_call_of 16 D; refine (HNK.out _).mono ?_; rintro e w5 ⟨rfl, hb5⟩; have RW := Lib.hid (RdW.of hb5); clear hb5; obtain ⟨z0, z1, z2, f0, f1, f2, t0, t1, t2⟩ := RW.out.facts)
          | (go_at_call 16; refine (HNA.out _).mono ?_; rintro e w6 ⟨rfl, hb6⟩; have RX := Lib.hid (RW.out.step hb6); clear hb6; clear z0 z1 z2 f0 f1 f2 t0 t1 t2; obtain ⟨z0, z1, z2, f0, f1, f2, t0, t1, t2⟩ := RX.out.facts))
        all_goals
          obtain ⟨y0, y1, y2, yb⟩ := RW.out.fin (.int .i64 0) (.string ⟨#[]⟩) (.string ⟨#[]⟩)
          refine bodyPost_ret (v := .agg #[.int .i64 0, .string ⟨#[]⟩, .string ⟨#[]⟩]) ?_ rfl ⟨rfl, yb⟩
          simp only [results, read_res]
          go_simp
      · cases nv
        · go_wp2_with (first
            | (go_at_call 15; refine (HCUT.out _ (below_alloc (Below.refl _ _) _)).mono ?_; rintro e w2 ⟨rfl, n, rfl⟩)
            | (go_at_call 32; refine (HSUF.out _).mono ?_; rintro e w3 ⟨rfl, rfl⟩)
            | (go_at_call_of 16 D; refine (HNK.out _).mono ?_; rintro e w5 ⟨rfl, hb5⟩; have RW := Lib.hid (RdW.of hb5); clear hb5; obtain ⟨z0, z1, z2, f0, f1, f2, t0, t1, t2⟩ := RW.out.facts)
            | (go_at_call 16; refine (HNA.out _).mono ?_; rintro e w6 ⟨rfl, hb6⟩; have RX := Lib.hid (RW.out.step hb6); clear hb6; clear z0 z1 z2 f0 f1 f2 t0 t1 t2; obtain ⟨z0, z1, z2, f0, f1, f2, t0, t1, t2⟩ := RX.out.facts))
          all_goals
            obtain ⟨y0, y1, y2, yb⟩ := RX.out.fin (.int .i64 0) (.string ⟨#[]⟩) (.string ⟨#[]⟩)
            refine bodyPost_ret (v := .agg #[.int .i64 0, .string ⟨#[]⟩, .string ⟨#[]⟩]) ?_ rfl ⟨rfl, yb⟩
            simp only [results, read_res]
            go_simp
        · go_wp2_with (first
            | (go_at_call 15; refine (HCUT.out _ (below_alloc (Below.refl _ _) _)).mono ?_; rintro e w2 ⟨rfl, n, rfl⟩)
            | (go_at_call 32; refine (HSUF.out _).mono ?_; rintro e w3 ⟨rfl, rfl⟩)
            | (go_at_call_of 16 D; refine (HNK.out _).mono ?_; rintro e w5 ⟨rfl, hb5⟩; have RW := Lib.hid (RdW.of hb5); clear hb5; obtain ⟨z0, z1, z2, f0, f1, f2, t0, t1, t2⟩ := RW.out.facts)
            | (go_at_call 16; refine (HNA.out _).mono ?_; rintro e w6 ⟨rfl, hb6⟩; have RX := Lib.hid (RW.out.step hb6); clear hb6; clear z0 z1 z2 f0 f1 f2 t0 t1 t2; obtain ⟨z0, z1, z2, f0, f1, f2, t0, t1, t2⟩ := RX.out.facts))
          all_goals
            obtain ⟨y0, y1, y2, yb⟩ := RX.out.fin (.int .i64 4) (.string (ba D)) (.string (ba V))
            refine bodyPost_ret (v := .agg #[.int .i64 4, .string (ba D), .string (ba V)]) ?_ rfl ⟨rfl, yb⟩
            simp only [results, read_res]
            go_simp
    · rw [if_neg hs2]
      simp only [hnv]
      simp only [if_neg hs2, decide_eq_false hs2] at hsuf
      have hnk := lnm_any K (by omega)
      clear hs2 hnv htl hdl
      generalize isNm K = nk at *
      have HSUF := Lib.hid hsuf
      have HNK := Lib.hid hnk
      clear hsuf hnk
      cases nk
      · go_wp2_with (first
          | (go_at_call 15; refine (HCUT.out _ (below_alloc (Below.refl _ _) _)).mono ?_; rintro e w2 ⟨rfl, n, rfl⟩)
          | (go_at_call 32; refine (HSUF.out _).mono ?_; rintro e w3 ⟨rfl, rfl⟩)
          | (go_at_call_of 16 K; refine (HNK.out _).mono ?_; rintro e w5 ⟨rfl, hb5⟩; have RW := Lib.hid (RdW.of hb5); clear hb5; obtain ⟨z0, z1, z2, f0, f1, f2, t0, t1, t2⟩ := RW.out.facts)
          | (go_at_call 16; refine (HNA.out _).mono ?_; rintro e w6 ⟨rfl, hb6⟩; have RX := Lib.hid (RW.out.step hb6); clear hb6; clear z0 z1 z2 f0 f1 f2 t0 t1 t2; obtain ⟨z0, z1, z2, f0, f1, f2, t0, t1, t2⟩ := RX.out.facts))
        all_goals
          obtain ⟨y0, y1, y2, yb⟩ := RW.out.fin (.int .i64 0) (.string ⟨#[]⟩) (.string ⟨#[]⟩)
          refine bodyPost_ret (v := .agg #[.int .i64 0, .string ⟨#[]⟩, .string ⟨#[]⟩]) ?_ rfl ⟨rfl, yb⟩
          simp only [results, read_res]
          go_simp
      · cases nv
        · go_wp2_with (first
            | (go_at_call 15; refine (HCUT.out _ (below_alloc (Below.refl _ _) _)).mono ?_; rintro e w2 ⟨rfl, n, rfl⟩)
            | (go_at_call 32; refine (HSUF.out _).mono ?_; rintro e w3 ⟨rfl, rfl⟩)
            | (go_at_call_of 16 K; refine (HNK.out _).mono ?_; rintro e w5 ⟨rfl, hb5⟩; have RW := Lib.hid (RdW.of hb5); clear hb5; obtain ⟨z0, z1, z2, f0, f1, f2, t0, t1, t2⟩ := RW.out.facts)
            | (go_at_call 16; refine (HNA.out _).mono ?_; rintro e w6 ⟨rfl, hb6⟩; have RX := Lib.hid (RW.out.step hb6); clear hb6; clear z0 z1 z2 f0 f1 f2 t0 t1 t2; obtain ⟨z0, z1, z2, f0, f1, f2, t0, t1, t2⟩ := RX.out.facts))
          all_goals
            obtain ⟨y0, y1, y2, yb⟩ := RX.out.fin (.int .i64 0) (.string ⟨#[]⟩) (.string ⟨#[]⟩)
            refine bodyPost_ret (v := .agg #[.int .i64 0, .string ⟨#[]⟩, .string ⟨#[]⟩]) ?_ rfl ⟨rfl, yb⟩
            simp only [results, read_res]
            go_simp
        · go_wp2_with (first
            | (go_at_call 15; refine (HCUT.out _ (below_alloc (Below.refl _ _) _)).mono ?_; rintro e w2 ⟨rfl, n, rfl⟩)
            | (go_at_call 32; refine (HSUF.out _).mono ?_; rintro e w3 ⟨rfl, rfl⟩)
            | (go_at_call_of 16 K; refine (HNK.out _).mono ?_; rintro e w5 ⟨rfl, hb5⟩; have RW := Lib.hid (RdW.of hb5); clear hb5; obtain ⟨z0, z1, z2, f0, f1, f2, t0, t1, t2⟩ := RW.out.facts)
            | (go_at_call 16; refine (HNA.out _).mono ?_; rintro e w6 ⟨rfl, hb6⟩; have RX := Lib.hid (RW.out.step hb6); clear hb6; clear z0 z1 z2 f0 f1 f2 t0 t1 t2; obtain ⟨z0, z1, z2, f0, f1, f2, t0, t1, t2⟩ := RX.out.facts))
          all_goals
            obtain ⟨y0, y1, y2, yb⟩ := RX.out.fin (.int .i64 3) (.string (ba K)) (.string (ba V))
            refine bodyPost_ret (v := .agg #[.int .i64 3, .string (ba K), .string (ba V)]) ?_ rfl ⟨rfl, yb⟩
            simp only [results, read_res]
            go_simp
end Go.Proofs.YtfafdcdmaimghaaGreatDoor

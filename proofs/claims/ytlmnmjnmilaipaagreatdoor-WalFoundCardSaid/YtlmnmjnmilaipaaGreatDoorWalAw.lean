/- Layer 11: the document's example (awake) walked. -/
import Derived.Test.YtlmnmjnmilaipaaGreatDoorWalSit
set_option linter.unusedVariables false
set_option linter.unusedSimpArgs false
namespace Go.Proofs.YtlmnmjnmilaipaaGreatDoor
open Go Go.RowKit Go.Sort PR Go.Proofs.YtlmnmjnmilaipaaGreatDoorW.PrintWords

theorem pay_len {n : Nat} (hn : n ≤ 1099511627776) (t : Bs) : (payP n t).length ≤ t.length + 6 := by
  unfold payP
  have := numD_len 5 (2 * n) (by omega)
  rw [List.length_append]; omega
theorem frame_len {p : Bs} (h : p.length ≤ 4096) : (frameP p).length ≤ p.length + 6 := by
  rw [frameP_len]
  have := numD_len 1 (2 * p.length) (by omega)
  omega
theorem append_ok {D : Dk} {st : St} {m : Nat} (h : Calm D st m) (h0 : D.armed = 0) (t : Bs) (hq : st.seq + 1 ≤ 1099511627776) (hp : (payP (st.seq + 1) t).length ≤ 4096) (hm : m + t.length + 12 ≤ 65536) (ha : D.acts + 2 < 4611686018427387904) :
    ∃ D1, appendP ⟨st.seq, 0⟩ D t = (0, ⟨((st.seq + 1 : Nat) : Int), 0⟩, D1) ∧ Calm D1 (st.add t) (m + t.length + 12) ∧ D1.armed = 0 ∧ D.acts ≤ D1.acts ∧ D1.acts ≤ D.acts + 2 := by
  have h1 := frame_len hp
  have h2 := pay_len hq t
  rcases append_out h t hq hp (by omega) ha with ⟨a, b, c, d⟩ | ⟨_, b, _⟩
  · exact ⟨_, Prod.ext a (Prod.ext b rfl), ⟨d.lies, d.off, d.new, d.holds.mono (by omega)⟩, c.armed.trans h0, c.ge, c.le⟩
  · exact absurd h0 b
theorem check_ok {D : Dk} {st : St} {m : Nat} (h : Calm D st m) (h0 : D.armed = 0) (t : Bs) (hp : (payP st.seq t).length ≤ 4096) (ha : D.acts + 4 < 4611686018427387904) :
    ∃ D1, checkP ⟨st.seq, 0⟩ D t = (0, ⟨st.seq, 0⟩, D1) ∧ Calm D1 (st.check t) 0 ∧ D1.armed = 0 ∧ D.acts ≤ D1.acts ∧ D1.acts ≤ D.acts + 4 ∧ aget D1.files kLog = none ∧ (aget D1.files kSnap).isSome = true := by
  rcases check_out h t hp ha with ⟨a, b, c, d, e, f⟩ | ⟨_, b, _⟩
  · exact ⟨_, Prod.ext a (Prod.ext b rfl), d, c.armed.trans h0, c.ge, c.le, e, f⟩
  · exact absurd h0 b
theorem half_tail (st : St) : Tail st st [8, 104, 97, 108, 102] := by
  intro p y e
  left
  have hl : p.length ≤ 5 := by
    have := congrArg List.length e
    rw [List.length_append] at this
    simp at this; omega
  have hp : p = ([8, 104, 97, 108, 102] : Bs).take p.length := by rw [← e, List.take_left]
  have hall : ∀ k, k ≤ 5 → (([8, 104, 97, 108, 102] : Bs).take k = [] ∨ takeP (([8, 104, 97, 108, 102] : Bs).take k) = ([], 0, 30)) := by decide +kernel
  rw [hp]
  exact hall _ hl
theorem new_dsk (w : World) (hT : ErrTab w) : Dsk w ((w.alloc (.map #[] 0)).alloc (.cells #[.map (some w.heap.size), .int .i64 0, .int .i64 0, .bool false] 60)) (w.heap.size + 1) w.heap.size Dk.new := by
  have h1 := (MapKept.heap_alloc (w.alloc (.map #[] 0)) (.cells #[.map (some w.heap.size), .int .i64 0, .int .i64 0, .bool false] 60)).1
  rw [World.size_alloc] at h1
  exact ⟨⟨h1, (MapIs.made .string .string fv w).alloc _⟩, ((Below.refl _ w).alloc (Nat.le_refl _) _).alloc (by simp) _, by omega, Nat.le_refl _, hT⟩
/-- What the example comes to, plainly. -/
structure AwakeD (D1 D2 D3 D4 D5 D7 : Dk) (D6 : Dk) : Prop where
  a1 : appendP ⟨(0 : Nat), 0⟩ Dk.new (bs ⟨#[97]⟩) = (0, ⟨((1 : Nat) : Int), 0⟩, D1)
  a2 : appendP ⟨(1 : Nat), 0⟩ D1 (bs ⟨#[98]⟩) = (0, ⟨((2 : Nat) : Int), 0⟩, D2)
  a3 : checkP ⟨(2 : Nat), 0⟩ D2 (bs ⟨#[97, 98]⟩) = (0, ⟨((2 : Nat) : Int), 0⟩, D3)
  a4 : appendP ⟨(2 : Nat), 0⟩ D3 (bs ⟨#[99]⟩) = (0, ⟨((3 : Nat) : Int), 0⟩, D4)
  a5 : D4.append kLog ⟨#[8, 104, 97, 108, 102]⟩ = (0, D5)
  a6 : D5.restart [3] = D6
  a7 : openP D6 = ⟨some ((3 : Nat) : Int), [97, 98], [[99]], 0, D7⟩
  o1 : D1.Ok
  o2 : D2.Ok
  o3 : D3.Ok
  o4 : D4.Ok
  o5 : D5.Ok
  o6 : D6.Ok
  n1 : D1.acts ≤ 100
  n2 : D2.acts ≤ 100
  n3 : D3.acts ≤ 100
  n6 : D6.acts ≤ 100
theorem awakeD : ∃ D1 D2 D3 D4 D5 D7 D6, AwakeD D1 D2 D3 D4 D5 D7 D6 := by
  obtain ⟨D1, e1, c1, r1, _, n1⟩ := append_ok calm_new rfl (bs ⟨#[97]⟩) (by decide) (by decide +kernel) (by decide) (by decide)
  obtain ⟨D2, e2, c2, r2, _, n2⟩ := append_ok c1 r1 (bs ⟨#[98]⟩) (by decide) (by decide +kernel) (by decide) (by have : Dk.new.acts = 0 := rfl; omega)
  obtain ⟨D3, e3, c3, r3, _, n3, _⟩ := check_ok c2 r2 (bs ⟨#[97, 98]⟩) (by decide +kernel) (by have : Dk.new.acts = 0 := rfl; omega)
  obtain ⟨D4, e4, c4, r4, _, n4⟩ := append_ok c3 r3 (bs ⟨#[99]⟩) (by decide) (by decide +kernel) (by decide) (by have : Dk.new.acts = 0 := rfl; omega)
  have hacts : Dk.new.acts = 0 := rfl
  have hb : ∃ q a ts, Torn D4.files q [97, 98] a ts [] ∧ [[99]] = ts.drop (q + 1 - a) ∧ 3 = a + ts.length - 1 ∧ (framesP (paysP a ts)).length ≤ 100 := by
    obtain ⟨q, a, ts, h1, h2, h3, h4⟩ := c4.holds
    exact ⟨q, a, ts, h1, h2, h3, by simp at h4; have : (bs ⟨#[99]⟩).length = 1 := rfl; omega⟩
  obtain ⟨q, a, ts, hT, hl, hs, hz⟩ := hb
  obtain ⟨hby, hsy⟩ := bytes_of hT
  rw [List.append_nil] at hby
  have hlen : (fget D4.files kLog).1.size = (framesP (paysP a ts)).length := by rw [← bs_len, hby]
  have hXs : (⟨#[8, 104, 97, 108, 102]⟩ : ByteArray).size = 5 := rfl
  rcases append_act c4.lies c4.off in_l (s := ⟨#[8, 104, 97, 108, 102]⟩) (by omega) with ⟨_, h⟩ | e5
  · exact absurd r4 h
  · have hsy2 := (c4.lies.fget kLog).2
    have l5 := c4.lies.put' in_l (v := ((fget D4.files kLog).1 ++ ⟨#[8, 104, 97, 108, 102]⟩, (fget D4.files kLog).2)) (by rw [size_app]; omega) (by rw [size_app]; show (fget D4.files kLog).2 ≤ _; omega) (n := D4.acts + 1) (by omega) false
    have w5 : Wreck (aput D4.files kLog ((fget D4.files kLog).1 ++ ⟨#[8, 104, 97, 108, 102]⟩, (fget D4.files kLog).2)) ⟨[97, 98], [[99]], 3⟩ ⟨[97, 98], [[99]], 3⟩ 200 :=
      .inl ⟨[8, 104, 97, 108, 102], ⟨q, a, ts, ⟨by rw [aget_aput_other _ _ _ _ ne_ls.symm]; exact hT.snap, hT.qm, .inr ⟨_, _, aget_aput_same _ _ _, by rw [bs_app, hby]; rfl, hsy⟩, hT.num, hT.most, hT.pays⟩, hl, hs, by simp; omega⟩, half_tail _⟩
    obtain ⟨g1, g2, g3, g4, g5, g6⟩ := restart_out l5 [3] w5
    rcases open_out g1 g2 g5 (by decide) g6 (by rw [g4]; show D4.acts + 1 + 4 < _; omega) with ⟨s, D7, hs7, e7, _⟩ | ⟨_, h, _⟩
    · have hs7 : s = ⟨[97, 98], [[99]], 3⟩ := hs7.elim id id
      subst hs7
      exact ⟨D1, D2, D3, D4, _, D7, _, e1, e2, e3, e4, e5, rfl, e7, c1.lies.ok, c2.lies.ok, c3.lies.ok, c4.lies.ok, l5.ok, g1.ok, by omega, by omega, by omega, by rw [g4]; show D4.acts + 1 ≤ 100; omega⟩
    · exact absurd g3 h
theorem reads_three (w : World) : ReadsI (w.alloc (.cells #[.int .i64 3] 3)) (some ⟨w.heap.size, 0, none⟩) [3] :=
  ⟨fun i hi => ⟨w.heap.size, 0, rfl, by
    obtain rfl : i = 0 := by simpa using hi
    go_simp⟩, by decide, fun x hx => by obtain rfl := List.mem_singleton.1 hx; decide⟩
set_option maxHeartbeats 8000000 in
set_option maxRecDepth 100000 in
theorem awake_any (w : World) (hT : ErrTab w) : Calls Tryz.prog 9 #[] w fun e w' => e = .returned (.bool true) ∧ Below w.heap.size w w' := by
  obtain ⟨D1, D2, D3, D4, D5, D7, D6, A⟩ := awakeD
  have S0 := Lib.hid (new_dsk w hT)
  have C1 := Lib.hid (fun W (h : Dsk w W (w.heap.size + 1) w.heap.size Dk.new) => open_by (open_calm calm_new) h Dk.new_ok (by decide))
  have C2 := Lib.hid (fun bw W (h : Sit w W bw (w.heap.size + 1) w.heap.size Dk.new ⟨(0 : Nat), 0⟩) => append_by A.a1 h Dk.new_ok (by decide) (by decide) (by decide))
  have C3 := Lib.hid (fun bw W (h : Sit w W bw (w.heap.size + 1) w.heap.size D1 ⟨(1 : Nat), 0⟩) => append_by A.a2 h A.o1 (by have := A.n1; omega) (by decide) (by decide))
  have C4 := Lib.hid (fun bw W (h : Sit w W bw (w.heap.size + 1) w.heap.size D2 ⟨(2 : Nat), 0⟩) => check_by A.a3 h A.o2 (by have := A.n2; omega) (by decide) (by decide))
  have C5 := Lib.hid (fun bw W (h : Sit w W bw (w.heap.size + 1) w.heap.size D3 ⟨(2 : Nat), 0⟩) => append_by A.a4 h A.o3 (by have := A.n3; omega) (by decide) (by decide))
  have C6 := Lib.hid (fun W (h : DiskIs W (w.heap.size + 1) w.heap.size D4) => append_any (w.heap.size + 1) w.heap.size D4 kLog ⟨#[8, 104, 97, 108, 102]⟩ W h A.o4 kLog_size (by decide))
  rw [A.a5] at C6
  have C7 := Lib.hid (fun g W (h : DiskIs W (w.heap.size + 1) w.heap.size D5) hg hr => restart_any (w.heap.size + 1) w.heap.size D5 (some ⟨g, 0, none⟩) 1 [3] W h A.o5 hg hr)
  rw [A.a6] at C7
  have C8 := Lib.hid (fun W (h : Dsk w W (w.heap.size + 1) w.heap.size D6) => open_by A.a7 h A.o6 (by have := A.n6; omega))
  have SQ := Lib.hid (fun bw W (h : Sit w W bw (w.heap.size + 1) w.heap.size D7 ⟨(3 : Nat), 0⟩) => (show Calls Tryz.prog 16 #[.pointer (some ⟨bw, 0, none⟩)] W fun e w' => e = .returned (.int .i64 3) ∧ Below W.heap.size W w' from seq_by h))
  have SM := Lib.hid (fun W base A c B d (h1 : Texts W base (.slice A ([[99]] : List Bs).length c) [[99]]) (h2 : Texts W B (.slice d ([[99]] : List Bs).length 1) [[99]]) => (show Calls Tryz.prog 14 #[.slice A 1 c, .slice d 1 1] W fun e w' => e = .returned (.bool true) ∧ Below W.heap.size W w' from same_C (by decide) h1.reads.2 h1.reads.1 h2.reads.2 h2.reads.1))
  have hba : ba [97, 98] = ⟨#[97, 98]⟩ := rfl
  have LT := Lib.hid (fun W => lit_T W [[99]] (by decide))
  clear A
  go_enter Tryz.func9, Tryz.ntmps9
  go_wp2_with (first
    | (go_at_call 10; refine (new_any _).mono ?_; rintro ev w1 ⟨rfl, rfl⟩; have T0 := Lib.hid S0.out)
    | (go_at_call 11; have zz := T7; clear zz; (with_reducible refine (C8.out _ T7.out).mono ?_); rintro ev w8 ⟨bw8, A8, c8, rfl, hs, _, hx, _⟩; have T8 := Lib.hid hs; have X8 := Lib.hid hx; clear hs hx)
    | (go_at_call 11; have zz := T1; clear zz; (with_reducible refine (openW_nil _).mono ?_); rintro ev w2 ⟨rfl, ho⟩; have T2 := Lib.hid (T1.out.below (ho.below (Nat.le_refl _) (fun _ _ h => h))); clear ho)
    | (go_at_call 11; (with_reducible refine (C1.out _ T0.out).mono ?_); rintro ev w1 ⟨bw, A1, c1, rfl, hs, _, _, _⟩; have T1 := Lib.hid hs; clear hs)
    | (go_at_call 17; have zz := T4; clear zz; (with_reducible refine (C5.out _ _ T4.out).mono ?_); rintro ev w5 ⟨rfl, hs, _⟩; have T5 := Lib.hid hs; clear hs)
    | (go_at_call 17; have zz := T21; clear zz; (with_reducible refine (C3.out _ _ T21.out).mono ?_); rintro ev w3 ⟨rfl, hs, _⟩; have T3 := Lib.hid hs; clear hs)
    | (go_at_call 17; (with_reducible refine (C2.out _ _ T2.out).mono ?_); rintro ev w21 ⟨rfl, hs, _⟩; have T21 := Lib.hid hs; clear hs)
    | (go_at_call 13; (with_reducible refine (C4.out _ _ T3.out).mono ?_); rintro ev w4 ⟨rfl, hs, _⟩; have T4 := Lib.hid hs; clear hs)
    | (go_at_call 20; refine (C6.out _ T5.out.dk).mono ?_; rintro ev w6 ⟨rfl, hd, ho⟩; have T6 := Lib.hid (T5.out.toDsk.upd ho hd); have hz6 := hd.lt; clear hd ho)
    | (go_at_call 33; go_loud (refine Calls.mono (C7.out w6.heap.size _ (T6.out.dk.alloc (.cells #[.int .i64 3] 3)) (fun ad h _ => by injection h with h; subst h; show w6.heap.size ≠ _; omega) (reads_three w6)) ?_; rintro ev w7 ⟨rfl, hd, ho⟩; have T7 := Lib.hid ((T6.out.below ((Below.refl _ _).alloc (Nat.le_refl _) (.cells #[.int .i64 3] 3))).upd ho hd); clear hd ho))
    | (go_at_call 16; (with_reducible refine (SQ.out _ _ T8.out).mono ?_); rintro ev w9 ⟨rfl, hb⟩; have T9 := Lib.hid (T8.out.below hb); have X9 := Lib.hid (X8.out.below hb); clear hb)
    | (go_at_call 14; refine (SM.out _ _ _ _ _ _ (X9.out.below ((Below.refl _ _).alloc (Nat.le_refl _) _)) (LT.out _)).mono ?_; rintro ev w10 ⟨rfl, hb⟩; have HB := Lib.hid ((T9.out.be.alloc T9.out.be.size _).trans (hb.mono (Nat.le_trans T9.out.be.size (by simp)))); clear hb))
  go_ret
  exact ⟨rfl, HB.out⟩
end Go.Proofs.YtlmnmjnmilaipaaGreatDoor

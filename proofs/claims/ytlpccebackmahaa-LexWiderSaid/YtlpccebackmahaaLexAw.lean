/- Layer 7: awake, billetlaw07.pick. -/
import Derived.Test.YtlpccebackmahaaLexZ
import Derived.Test.YtlpccebackmahaaLexB
set_option linter.unusedVariables false
set_option linter.unusedSimpArgs false
namespace Go.Proofs.Ytlpccebackmahaa
open Go.RowKit

def awE : List Ed := [⟨0, 1, 2⟩, ⟨0, 2, 2⟩, ⟨1, 3, 1⟩, ⟨2, 3, 2⟩, ⟨1, 2, 2⟩]
theorem aw_yes1 : FormOk 4 awE 0 3 [1, 0] [] := by decide +kernel
theorem aw_yes2 : FormOk 4 awE 0 3 [0, 1] [] := by decide +kernel
theorem aw_no3 : ¬ FormOk 4 awE 0 3 [2] [] := by decide +kernel
theorem aw_got1 : gotR [1, 0] (flowR 4 awE 0 3 [1, 0] []) = [2, 1] := by decide +kernel
theorem aw_got2 : gotR [0, 1] (flowR 4 awE 0 3 [0, 1] []) = [2, 1] := by decide +kernel

theorem reads2 {W : World} {g : Nat} {a b : Int} {t : TypeId} (h : W.heap[g]? = some (.cells #[.int .i64 a, .int .i64 b] t)) : ReadsI W (some ⟨g, 0, none⟩) [a, b] :=
  ⟨fun i hi => by
    have hi : i < 2 := hi
    refine ⟨g, 0, rfl, (Array.getElem?_eq_some_iff.1 h).1, ?_⟩
    rcases (show i = 0 ∨ i = 1 by omega) with rfl | rfl
    · exact obj_cell h 0
    · exact obj_cell h 1, by show 2 ≤ maxLen; unfold maxLen; omega⟩
theorem reads1 {W : World} {g : Nat} {a : Int} {t : TypeId} (h : W.heap[g]? = some (.cells #[.int .i64 a] t)) : ReadsI W (some ⟨g, 0, none⟩) [a] :=
  ⟨fun i hi => by
    have hi : i < 1 := hi
    refine ⟨g, 0, rfl, (Array.getElem?_eq_some_iff.1 h).1, ?_⟩
    obtain rfl : i = 0 := by omega
    exact obj_cell h 0, by show 1 ≤ maxLen; unfold maxLen; omega⟩
def awObj : Obj := .cells #[.int .i64 0, .int .i64 1, .int .i64 2, .int .i64 0, .int .i64 2, .int .i64 2, .int .i64 1, .int .i64 3, .int .i64 1, .int .i64 2, .int .i64 3, .int .i64 2, .int .i64 1, .int .i64 2, .int .i64 2] 50
theorem reads_aw {W : World} {g : Nat} (h : W.heap[g]? = some awObj) : ReadsE W (some ⟨g, 0, none⟩) awE :=
  ⟨fun i hi => by
    have hi : i < 5 := hi
    refine ⟨g, 0, rfl, (Array.getElem?_eq_some_iff.1 h).1, ?_⟩
    rcases (show i = 0 ∨ i = 1 ∨ i = 2 ∨ i = 3 ∨ i = 4 by omega) with rfl | rfl | rfl | rfl | rfl
    all_goals exact ⟨obj_cell h _, obj_cell h _, obj_cell h _⟩, by show 5 ≤ maxLen; unfold maxLen; omega⟩
theorem no_ways (w : World) : ReadsWW w none [] := ⟨fun i hi => absurd hi (Nat.not_lt_zero i), fun l hl => (by cases hl), Nat.zero_le _⟩
theorem awFill (order got : List Int) (g b d : Nat) (W : World) (hE : W.heap[b]? = some awObj) (hO : ReadsI W (some ⟨g, 0, none⟩) order) (hF : FormOk 4 awE 0 3 order []) (hg : gotR order (flowR 4 awE 0 3 order []) = got) :
    Calls Try.prog 11 #[.agg #[.int .i64 4, .slice (some ⟨b, 0, none⟩) 5 5], .int .i64 0, .int .i64 3, .slice (some ⟨g, 0, none⟩) order.length d, .slice none 0 0] W fun e w' => Kept W w' ∧ ∃ v1 A2 c2, e = .returned (.tuple #[v1, .slice A2 got.length c2, .int .i64 0]) ∧ ReadsI w' A2 got := by
  refine (lfill_any 4 0 3 (some ⟨b, 0, none⟩) (some ⟨g, 0, none⟩) none 5 d 0 awE order [] W (reads_aw hE) hO (no_ways W) (fun h => by cases h)).mono ?_
  rintro e w' ⟨hk, h⟩
  rw [show plainWays [] = [] from rfl, if_pos hF] at h
  obtain ⟨v1, v2, h1, _, h4⟩ := h
  rw [hg] at h4
  obtain ⟨A2, c2, rfl, h4, _⟩ := h4
  exact ⟨hk, v1, A2, c2, h1, h4⟩
theorem awFill3 (g b d : Nat) (W : World) (hE : W.heap[b]? = some awObj) (hO : ReadsI W (some ⟨g, 0, none⟩) [2]) :
    Calls Try.prog 11 #[.agg #[.int .i64 4, .slice (some ⟨b, 0, none⟩) 5 5], .int .i64 0, .int .i64 3, .slice (some ⟨g, 0, none⟩) 1 d, .slice none 0 0] W fun e w' => Kept W w' ∧ e = .returned (.tuple #[.slice none 0 0, .slice none 0 0, .int .i64 50]) := by
  refine (lfill_any 4 0 3 (some ⟨b, 0, none⟩) (some ⟨g, 0, none⟩) none 5 d 0 awE [2] [] W (reads_aw hE) hO (no_ways W) (fun h => by cases h)).mono ?_
  rintro e w' ⟨hk, h⟩
  rw [show plainWays [] = [] from rfl, if_neg aw_no3] at h
  exact ⟨hk, h⟩
theorem ints_same (A B : Option Addr) (c d : Nat) (x y : Int) (w : World) (hx : ReadsI w A [x, y]) (hy : ReadsI w B [x, y]) :
    Calls Try.prog 13 #[.slice A 2 c, .slice B 2 d] w fun e w' => e = .returned (.bool true) ∧ Kept w w' := by
  refine (ints_any A B c d [x, y] [x, y] w hx hy).mono ?_
  rintro e w' ⟨h1, h2⟩
  rw [decide_eq_true rfl] at h1
  exact ⟨h1, h2⟩
set_option maxHeartbeats 2000000 in
theorem awake_any (w : World) : Calls Try.prog 10 #[] w fun e w' => e = .returned (.bool true) ∧ Kept w w' := by
  have f1 := fun W g b d h1 h2 => awFill [1, 0] [2, 1] g b d W h1 h2 aw_yes1 aw_got1
  have f2 := fun W g b d h1 h2 => awFill [0, 1] [2, 1] g b d W h1 h2 aw_yes2 aw_got2
  simp only [List.length_cons, List.length_nil, Nat.reduceAdd] at f1 f2
  have F1 := Lib.hid f1
  have F2 := Lib.hid f2
  have F3 := Lib.hid awFill3
  clear f1 f2
  obtain ⟨w1, hw1⟩ : ∃ w1, w.alloc awObj = w1 := ⟨_, rfl⟩
  have hs1 : w1.heap.size = w.heap.size + 1 := by rw [← hw1]; simp
  have hb1 : w1.heap[w.heap.size]? = some awObj := by rw [← hw1]; exact World.alloc_heap_new w _
  have hk1 : Kept w w1 := by rw [← hw1]; exact (Only.refl _ _).alloc _
  obtain ⟨w2, hw2⟩ : ∃ w2, w1.alloc (.cells #[.int .i64 4, .slice (some ⟨w.heap.size, 0, none⟩) 5 5] 24) = w2 := ⟨_, rfl⟩
  have hs2 : w2.heap.size = w1.heap.size + 1 := by rw [← hw2]; simp
  have hk2 : Kept w1 w2 := by rw [← hw2]; exact (Only.refl _ _).alloc _
  have hn2 : w2.heap[w1.heap.size]? = some (.cells #[.int .i64 4, .slice (some ⟨w.heap.size, 0, none⟩) 5 5] 24) := by rw [← hw2]; exact World.alloc_heap_new w1 _
  have hb2 := (hk2.block w.heap.size (by omega) (fun x => x)).trans hb1
  have key : ∀ W, Kept w2 W → W.heap[w.heap.size]? = some awObj ∧ W.cell? ⟨w1.heap.size, 0, none⟩ = some (.int .i64 4) ∧ W.cell? ⟨w1.heap.size, 1, none⟩ = some (.slice (some ⟨w.heap.size, 0, none⟩) 5 5) := fun W hk => by
    have h1 := (hk.block w1.heap.size (by omega) (fun x => x)).trans hn2
    exact ⟨(hk.block w.heap.size (by omega) (fun x => x)).trans hb2, obj_cell h1 0, obj_cell h1 1⟩
  have HK2 := Lib.hid (hk1.trans hk2)
  have KEY := Lib.hid key
  clear hs1 hb1 hk1 hs2 hk2 hn2 hb2 key
  unfold awObj at hw1
  obtain ⟨e0, c0, c1⟩ := KEY.out w2 (Only.refl _ _)
  go_enter Try.func10, Try.ntmps10
  go_wp2_with (fail)
  refine (F1.out _ _ _ _ (KEY.out _ ((Only.refl _ _).alloc _)).1 (reads2 (World.alloc_heap_new _ _))).mono ?_
  rintro e w3 ⟨hk3, v1, A3, c3, rfl, hr3⟩
  have HK3 := Lib.hid (((Only.refl _ w2).alloc _).trans hk3)
  have HR3 := Lib.hid hr3
  clear hk3 hr3 c0 c1 e0
  obtain ⟨e0, c0, c1⟩ := KEY.out w3 HK3.out
  go_wp2_with (fail)
  refine (F2.out _ _ _ _ (KEY.out _ (HK3.out.alloc _)).1 (reads2 (World.alloc_heap_new _ _))).mono ?_
  rintro e w4 ⟨hk4, v2, A4, c4, rfl, hr4⟩
  have HK4 := Lib.hid ((HK3.out.alloc _).trans hk4)
  have HR4 := Lib.hid hr4
  have HR34 := Lib.hid (HR3.out.fix (((Only.refl _ w3).alloc _).trans hk4))
  clear hk4 hr4 c0 c1 e0
  obtain ⟨e0, c0, c1⟩ := KEY.out w4 HK4.out
  go_wp2_with (fail)
  refine (F3.out _ _ _ _ (KEY.out _ (HK4.out.alloc _)).1 (reads1 (World.alloc_heap_new _ _))).mono ?_
  rintro e w5 ⟨hk5, rfl⟩
  have HK5 := Lib.hid ((HK4.out.alloc _).trans hk5)
  have HR45 := Lib.hid (HR4.out.fix (((Only.refl _ w4).alloc _).trans hk5))
  have HR35 := Lib.hid (HR34.out.fix (((Only.refl _ w4).alloc _).trans hk5))
  clear hk5 c0 c1 e0 hw1 hw2
  go_wp2_with (fail)
  refine (ints_same _ _ _ _ 2 1 _ (HR35.out.fix ((Only.refl _ _).alloc _)) (reads2 (World.alloc_heap_new _ _))).mono ?_
  rintro e w6 ⟨rfl, hk6⟩
  have HK6 := Lib.hid ((HK5.out.alloc _).trans hk6)
  have HR46 := Lib.hid (HR45.out.fix (((Only.refl _ w5).alloc _).trans hk6))
  clear hk6
  go_wp2_with (fail)
  refine (ints_same _ _ _ _ 2 1 _ (HR46.out.fix ((Only.refl _ _).alloc _)) (reads2 (World.alloc_heap_new _ _))).mono ?_
  rintro e w7 ⟨rfl, hk7⟩
  have HK7 := Lib.hid ((HK6.out.alloc _).trans hk7)
  clear hk7
  go_wp2_with (fail)
  go_ret
  exact ⟨rfl, HK2.out.trans HK7.out⟩
end Go.Proofs.Ytlpccebackmahaa

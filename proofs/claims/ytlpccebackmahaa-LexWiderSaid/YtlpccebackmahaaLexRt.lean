/- Layer 7: lex.task.right. -/
import Derived.Lib.OwnBridge
import Derived.Test.YtlpccebackmahaaSortV
import Derived.Test.YtlpccebackmahaaLexW
import Derived.Test.YtlpccebackmahaaOwnRows
set_option linter.unusedVariables false
set_option linter.unusedSimpArgs false
namespace Go.Proofs.Ytlpccebackmahaa
open Go.RowKit Go.Shelf Go.Sort

theorem sorts_here (F : Fence) (m : Nat) (hF : F = Fence.wide) : AnyZI.SortsIn Try.prog Try.sortedA_ren F m := by
  subst hF
  exact ⟨fun blk off cap ss W hH hblk hsz => callsIn_wide.2 (AnyM.slices_Sort_int Try.sortA blk off cap ss W hH hblk hsz),
   fun p cap W => callsIn_wide.2 (AnyM.slices_Sort_int_none Try.sortA p cap W)⟩

/-- slices.Sorted over a value of slices.Values. -/
theorem sortedV_any (Bs cap : Nat) (A : Option Addr) (zs : List Int) (w : World) (hz : zs.length ≤ 300) (hBs : w.cell? ⟨Bs, 0, none⟩ = some (.slice A zs.length cap)) (hlt : Bs < w.heap.size) (hR : ReadsI w A zs) :
    Calls Try.prog 37 #[.func (.func 57) #[] #[.pointer (some ⟨Bs, 0, none⟩)]] w fun e w' => ∃ (v : Value), e = .returned v ∧
      w'.ownsRow w.heap.size 3 1 v zs.length ((zs.mergeSort (fun x y => decide (x ≤ y))).map encZ) ∧ (v = .slice none 0 0 ↔ zs = []) ∧ Below w.heap.size w w' := by
  refine (callsIn_wide (n := 6)).1 ?_
  have hseq : SeqGivesB Fence.wide (6 - 1 - 1 - 1) Try.prog 57 #[.pointer (some ⟨Bs, 0, none⟩)] (fun ss => ss = zs) zs.length w := by
    intro l J W hW hJ hY h0
    refine (values1_in Fence.wide (6 - 1 - 1 - 1) trivial rfl (by omega) l Bs cap A zs J (fun pre W1 h1 => ?_) (fun pre x W1 h1 h2 => hY pre x W1 h1 h2) W h0).mono ?_
    · have hb := hJ pre W1 h1
      exact ⟨(hb.cell (p := ⟨Bs, 0, none⟩) hlt).trans hBs, hR.below hb⟩
    · rintro e W' ⟨h1, h2⟩
      exact ⟨h1, zs, rfl, h2⟩
  have cS := sortedB_in Try.sortedA Fence.wide 6 trivial trivial trivial trivial rfl (by omega) (sorts_here _ _ rfl) (enters_of Try.func56 (by kernel_rfl) rfl) 57 #[.pointer (some ⟨Bs, 0, none⟩)] trivial (enters_of Try.func57 (by kernel_rfl) rfl) (fun ss => ss = zs) zs.length (by unfold maxLen; omega) (by omega) w (fun ss h => by rw [h]; exact Nat.le_refl _) hseq
  change CallsIn _ _ Try.prog 37 _ _ _ at cS
  refine cS.mono ?_
  rintro e w' ⟨v, ss, h1, rfl, h3, h4, h5⟩
  exact ⟨v, h1, h3, h4, h5⟩

/-! ### what is compacted -/
theorem compact_len_nodup {zs : List Int} (hp : zs.Pairwise (· ≤ ·)) : (Lib.compact zs).length = zs.length ↔ zs.Nodup := by
  unfold Lib.compact Lib.compactUpTo
  rw [List.length_map]
  constructor
  · intro h
    have hall : ∀ j, j < zs.length → Lib.keeps zs.toArray j = true := by
      have := (List.filter_sublist (p := Lib.keeps zs.toArray) (l := List.range zs.length))
      have he := this.eq_of_length (by rw [h, List.length_range])
      intro j hj
      have hm : j ∈ (List.range zs.length).filter (Lib.keeps zs.toArray) := by rw [he]; exact List.mem_range.2 hj
      exact (List.mem_filter.1 hm).2
    rw [List.nodup_iff_pairwise_ne]
    rw [List.pairwise_iff_getElem] at hp ⊢
    intro i j hi hj hij
    have hk := hall (i + 1) (by omega)
    have hne : zs[i + 1]'(by omega) ≠ zs[i] := by
      unfold Lib.keeps at hk
      simpa [show i + 1 < zs.length by omega, hi] using hk
    have h1 : zs[i] ≤ zs[i + 1]'(by omega) := hp i (i + 1) hi (by omega) (by omega)
    have h2 : zs[i + 1]'(by omega) ≤ zs[j] := by
      rcases Nat.lt_or_ge (i + 1) j with h | h
      · exact hp (i + 1) j (by omega) hj h
      · have : j = i + 1 := by omega
        subst this; exact Int.le_refl _
    omega
  · intro h
    have : (List.range zs.length).filter (Lib.keeps zs.toArray) = List.range zs.length := by
      rw [List.filter_eq_self]
      intro j hj
      have hj := List.mem_range.1 hj
      unfold Lib.keeps
      by_cases h0 : j = 0
      · subst h0; simp
      · have : zs[j] ≠ zs[j - 1]'(by omega) := by
          rw [List.nodup_iff_pairwise_ne, List.pairwise_iff_getElem] at h
          exact fun he => h (j - 1) j (by omega) hj (by omega) he.symm
        simpa [hj, show j - 1 < zs.length by omega] using Or.inr this
    rw [this, List.length_range]
theorem compact_sorted (zs : List Int) : (Lib.compact (zs.mergeSort fun x y => decide (x ≤ y))).length = zs.length ↔ zs.Nodup := by
  have hs : (zs.mergeSort fun x y => decide (x ≤ y)).Pairwise (· ≤ ·) := by
    have := List.pairwise_mergeSort (le := fun x y : Int => decide (x ≤ y)) (fun a b c h1 h2 => by simp at *; omega) (fun a b => by simp; omega) zs
    exact this.imp (fun h => by simpa using h)
  have hp := List.mergeSort_perm zs fun x y => decide (x ≤ y)
  rw [← hp.length_eq, compact_len_nodup hs]
  exact hp.nodup_iff

theorem task_false {N : Int} {E : List Ed} {s t : Int} {order : List Int} (h : ¬ (NetOk N E ∧ (0 ≤ s ∧ s < N) ∧ (0 ≤ t ∧ t < N) ∧ s ≠ t ∧ order.length ≤ E.length)) : decide (TaskOk N E s t order) = false :=
  decide_eq_false fun x => h ⟨x.1, x.2.1, x.2.2.1, x.2.2.2.1, x.2.2.2.2.1⟩
theorem task_true {N : Int} {E : List Ed} {s t : Int} {order : List Int} (h : NetOk N E ∧ (0 ≤ s ∧ s < N) ∧ (0 ≤ t ∧ t < N) ∧ s ≠ t ∧ order.length ≤ E.length) : decide (TaskOk N E s t order) = (decide (order.Nodup) && !(order.any fun i => !decide (SrcOk E s i))) := by
  rw [Bool.eq_iff_iff]
  simp only [decide_eq_true_iff, Bool.and_eq_true, Bool.not_eq_true', List.any_eq_false]
  constructor
  · intro x
    exact ⟨x.2.2.2.2.2.1, fun i hi => by simpa using x.2.2.2.2.2.2 i hi⟩
  · rintro ⟨x, y⟩
    exact ⟨h.1, h.2.1, h.2.2.1, h.2.2.2.1, h.2.2.2.2, x, fun i hi => by simpa using y i hi⟩
theorem values_call (a : Option Addr) (len cap : Nat) (w : World) :
    Calls Try.prog 38 #[.slice a len cap] w fun e w' => e = .returned (.func (.func 57) #[] #[.pointer (some ⟨w.heap.size, 0, none⟩)]) ∧ w' = w.alloc (.cells #[.slice a len cap] 25) := by
  go_enter Try.func38, Try.ntmps38
  go_wp2
  go_ret
  exact ⟨rfl, rfl⟩
/-- slices.Compact over a row of the call's own. -/
theorem compact_own (base : Nat) (v : Value) (zs : List Int) (w : World) (hb : base ≤ w.heap.size) (hz : zs.length ≤ 300) (h : w.ownsRow base 3 1 v zs.length (zs.map encZ)) :
    Calls Try.prog 39 #[v] w fun e w' => (∃ a c, e = .returned (.slice a (Lib.compact zs).length c)) ∧ Below base w w' := by
  rcases h.2 with ⟨rfl, h0⟩ | ⟨gb, cap, cur, rfl, hbase, hgb, r1, r2, r3, r4⟩
  · obtain rfl : zs = [] := List.eq_nil_of_length_eq_zero h0
    refine (AnyG.slices_Compact_int_empty Try.compactA none 0 w).mono ?_
    rintro e w' ⟨rfl, rfl⟩
    exact ⟨⟨none, 0, rfl⟩, Below.refl _ _⟩
  · have hH : Holds encZ w gb 0 zs.toArray := holds_of_block_i hgb (by simpa using r4)
    refine (AnyG.slices_Compact_int Try.compactA gb 0 cap zs w hH (by omega) (by omega)).mono ?_
    rintro e w' ⟨rfl, q, rfl⟩
    exact ⟨⟨_, _, rfl⟩, Lib.below_putRow (Below.refl _ _) hbase⟩

theorem tbox {w w1 wr : World} {a b c d e : Value} {t : TypeId} (hw : w.alloc (.cells #[a, b, c, d, e] t) = w1) (h : Kept w1 wr) :
    wr.cell? ⟨w.heap.size, 0, none⟩ = some a ∧ wr.cell? ⟨w.heap.size, 1, none⟩ = some b ∧ wr.cell? ⟨w.heap.size, 2, none⟩ = some c ∧ wr.cell? ⟨w.heap.size, 3, none⟩ = some d ∧ wr.cell? ⟨w.heap.size, 4, none⟩ = some e ∧ w.heap.size < wr.heap.size := by
  subst hw
  have h0 : w.heap.size < (w.alloc (.cells #[a, b, c, d, e] t)).heap.size := by simp
  have hb := (h.block w.heap.size h0 (fun x => x)).trans (World.alloc_heap_new w _)
  exact ⟨obj_cell hb 0, obj_cell hb 1, obj_cell hb 2, obj_cell hb 3, obj_cell hb 4, Nat.lt_of_lt_of_le h0 h.size⟩
theorem only_then {S : Nat → Prop} {a b c : World} (h : Only S a b) {B : Nat} (k : Below B b c) (hB : a.heap.size ≤ B) : Only S a c :=
  ⟨k.os.trans h.os, k.tape.trans h.tape, k.output.trans h.output, Nat.le_trans h.size k.size, fun i hi hn => (k.block i (by omega)).trans (h.block i hi hn)⟩
set_option maxHeartbeats 2000000 in
theorem right_any (N s t : Int) (A B : Option Addr) (c d : Nat) (E : List Ed) (order : List Int) (w : World) (hE : ReadsE w A E) (hO : ReadsI w B order) :
    Calls Try.prog 22 #[taskV N s t A B E.length c order.length d] w fun e w' => e = .returned (.bool (decide (TaskOk N E s t order))) ∧ Kept w w' := by
  have lE := hE.len
  have lO := hO.len
  unfold maxLen at lE lO
  obtain ⟨w1, hw1⟩ : ∃ w1, w.alloc (.cells #[.int .i64 N, .slice A E.length c, .int .i64 s, .int .i64 t, .slice B order.length d] 54) = w1 := ⟨_, rfl⟩
  have hk1 : Kept w w1 := by rw [← hw1]; exact (Only.refl _ _).alloc _
  have hg := gright_any N A c E w1 (hE.fix hk1)
  have hv := fun v W => isVertex_any N s t v A B E.length c order.length d W
  unfold taskV at hv
  have HG := Lib.hid hg
  have HV := Lib.hid hv
  have HE := Lib.hid hE
  have HO := Lib.hid hO
  have HK1 := Lib.hid hk1
  have HW1 := Lib.hid hw1
  have HKC := Lib.hid (Only.refl (fun _ => False) w1)
  clear hg hv hE hO hk1
  obtain ⟨c0, c1, c2, c3, c4, clt⟩ := tbox HW1.out HKC.out
  unfold taskV
  have HT := Lib.hid (@task_true N E s t order)
  have HF := Lib.hid (@task_false N E s t order)
  generalize decide (TaskOk N E s t order) = ans at *
  have HQ0 := Lib.hid (Eq.refl (decide (NetOk N E)))
  generalize hq : decide (NetOk N E) = q at *
  have HQ := Lib.hid hq
  clear hq HQ0
  go_enter Try.func22, Try.ntmps22
  go_wp2_with (first
    | (go_at_call 35; refine HG.out.mono ?_; rintro e w' ⟨rfl, hb⟩; have hn := HKC.out.trans hb; clear HKC hb; have HKC := Lib.hid hn; clear hn c0 c1 c2 c3 c4 clt; obtain ⟨c0, c1, c2, c3, c4, clt⟩ := tbox HW1.out HKC.out)
    | (go_at_call 36; refine (HV.out _ _).mono ?_; rintro e w' ⟨rfl, hb⟩; have hn := HKC.out.trans hb; clear HKC hb; have HKC := Lib.hid hn; clear hn c0 c1 c2 c3 c4 clt; obtain ⟨c0, c1, c2, c3, c4, clt⟩ := tbox HW1.out HKC.out))
  case' _ => skip
  all_goals first
    | (go_ret
       refine ⟨ret_boolI ?_, HK1.out.trans HKC.out⟩
       symm
       apply HF.out
       rintro ⟨z1, z2, z3, z4, z5⟩
       have z0 := HQ.out
       rw [decide_eq_true z1] at z0
       first | exact z4 (by assumption) | contradiction | omega | (subst z0; contradiction) | (rename_i h; rcases h with h | h; exact z4 (beq_iff_eq.1 h); omega))
    | skip
  have hz : NetOk N E ∧ (0 ≤ s ∧ s < N) ∧ (0 ≤ t ∧ t < N) ∧ s ≠ t ∧ order.length ≤ E.length := ⟨by have := HQ.out; rw [show q = true by assumption] at this; exact of_decide_eq_true this, by assumption, by assumption, by first | assumption | omega, by omega⟩
  have hz3 : order.length ≤ 300 := by have := hz.1.2.2.1; omega
  have HA := Lib.hid (HT.out hz)
  have HZ := Lib.hid hz
  clear HT HF hz
  have hso := sortedV_any w'.heap.size d B order (w'.alloc (.cells #[.slice B order.length d] 25)) hz3 (by simp [World.cell?_alloc_new]) (by simp) (HO.out.fix ((HK1.out.trans HKC.out).alloc _))
  have HSO := Lib.hid hso
  clear hso
  have HSZ := Lib.hid HKC.out.size
  rename World => wp
  go_wp2_with (first
    | (go_at_call 38; refine (values_call _ _ _ _).mono ?_; rintro e w' ⟨rfl, rfl⟩)
    | (go_at_call 37; refine HSO.out.mono ?_; rintro e w' ⟨v, rfl, hrow, hnil, hb⟩; have hn := HKC.out.trans (((Only.refl _ wp).alloc _).trans (Only.of_below hb)); clear HKC; have HKC := Lib.hid hn; have HROW := Lib.hid hrow; have HNIL := Lib.hid hnil; have HB := Lib.hid hb; clear hn hrow hnil hb c0 c1 c2 c3 c4 clt HSO; obtain ⟨c0, c1, c2, c3, c4, clt⟩ := tbox HW1.out HKC.out))
  have hrow2 : w'.drew.ownsRow (wp.heap.size + 1) 3 1 v order.length ((order.mergeSort fun x y => decide (x ≤ y)).map encZ) := row_drew (by have := HROW.out; simpa using this)
  have hco := compact_own (wp.heap.size + 1) v (order.mergeSort fun x y => decide (x ≤ y)) w'.drew (by have := HB.out.size; simpa using this) (by rw [List.length_mergeSort]; omega) (by rw [List.length_mergeSort]; exact hrow2)
  have hkd : Kept w1 w'.drew := HKC.out.drew
  have hw1l : w1.heap.size ≤ wp.heap.size + 1 := Nat.le_succ_of_le HSZ.out
  have HCO := Lib.hid hco
  have HKD := Lib.hid hkd
  have HWL := Lib.hid hw1l
  have hlen := compact_sorted order
  clear hco hrow2 hkd hw1l
  generalize hLC : (Lib.compact (order.mergeSort fun x y => decide (x ≤ y))).length = LC at *
  have HLEN := Lib.hid hlen
  clear hlen hLC
  by_cases hnd : LC = order.length
  · subst hnd
    have hcf := fun W (hk : Kept w1 W) => contIc1_any (fun i => !decide (SrcOk E s i)) (.pointer (some ⟨w.heap.size, 0, none⟩)) B d order W (HO.out.fix (HK1.out.trans hk)) (fun W2 i hk2 hi => by
      obtain ⟨g0, g1, g2, g3, g4, glt⟩ := tbox HW1.out (hk.trans hk2)
      exact right1L_any N s t (order.getD i 0) A B c order.length d w.heap.size E W2 (HE.out.fix (HK1.out.trans (hk.trans hk2))) glt g0 g1 g2 g3 g4)
    have HCF := Lib.hid hcf
    have HND := Lib.hid (HLEN.out.1 rfl)
    clear hcf HLEN
    go_wp2
    go_region_with (first
      | (go_at_call 39; go_loud (refine HCO.out.mono ?_; rintro e w' ⟨⟨a5, c5, rfl⟩, hb⟩; have hn := only_then HKD.out hb HWL.out; have HKN := Lib.hid hn; clear hn hb c0 c1 c2 c3 c4 clt; obtain ⟨c0, c1, c2, c3, c4, clt⟩ := tbox HW1.out HKN.out))
      | (go_at_call 40; go_loud (refine (HCF.out _ HKN.out).mono ?_; rintro e w' ⟨rfl, hb⟩; have HB6 := Lib.hid hb; clear hb)))
    all_goals (go_wp2; go_ret; exact ⟨ret_boolI (by rw [HA.out, decide_eq_true HND.out]; rfl), HK1.out.trans (HKN.out.trans HB6.out)⟩)
  · have hne : ((LC : Int) == (order.length : Int)) = false := by rw [beq_eq_false_iff_ne]; omega
    have hne2 : (LC == order.length) = false := by rw [beq_eq_false_iff_ne]; exact hnd
    have hne3 : decide ((LC : Int) = (order.length : Int)) = false := decide_eq_false (by omega)
    have hne4 : decide (LC = order.length) = false := decide_eq_false hnd
    have HND := Lib.hid hnd
    clear hnd
    go_wp2
    first | (go_region_with (first
      | (go_at_call 39; go_loud (refine HCO.out.mono ?_; rintro e w' ⟨⟨a5, c5, rfl⟩, hb⟩; have hn := only_then HKD.out hb HWL.out; have HKN := Lib.hid hn; clear hn hb c0 c1 c2 c3 c4 clt; obtain ⟨c0, c1, c2, c3, c4, clt⟩ := tbox HW1.out HKN.out)))) | fail
    all_goals (go_wp2; go_ret; exact ⟨ret_boolI (by rw [HA.out, decide_eq_false (fun h => HND.out (HLEN.out.2 h))]; rfl), HK1.out.trans HKN.out⟩)
end Go.Proofs.Ytlpccebackmahaa

/- put of the document's own disk. -/
import Derived.Test.YtekkmfclaepcgaaRefF
import Derived.BigQuiet
import Derived.Deep.QuietTactic
set_option linter.unusedVariables false
namespace Go.Proofs.Ytekkmfclaepcgaa
open Go.RowKit

theorem putStep_len (k : ByteArray) (v : ByteArray × Nat) (l : Fl) : (l.foldl (putStep k v) ([], false)).1.length ≤ 2 * l.length := by
  have : ∀ (m : Fl) (s : Fl × Bool), (m.foldl (putStep k v) s).1.length ≤ s.1.length + 2 * m.length := by
    intro m
    induction m with
    | nil => intro s; simp
    | cons p m ih =>
      intro s
      rw [List.foldl_cons]
      have := ih (putStep k v s p)
      have h2 : (putStep k v s p).1.length ≤ s.1.length + 2 := by
        unfold putStep
        split <;> split <;> simp_all
      simp only [List.length_cons]
      omega
  simpa using this l ([], false)
theorem geq_bool (a b : ByteArray) (x : Bool) (h : decide (nlt a b) = x) : Op.bytesLess a.toList b.toList = x := by rw [bytesLess_nlt, h]

theorem RowOwned.alloc {w w' : World} {base n : Nat} {e : TypeId} {size : Nat} {v : Value} {xs : List Value} (h : w.ownsRow base e size v n xs) (o : Obj) (hw : w'.heap = w.heap := by rfl) : (w'.alloc o).ownsRow base e size v n xs := by
  have : w'.ownsRow base e size v n xs := by unfold World.ownsRow at h ⊢; rw [hw]; exact h
  exact this.alloc o
theorem below_drewN {B : Nat} {a w : World} (h : Below B a w) (n : Nat) : Below B a (w.drewN n) := ⟨h.os, h.tape, h.output, h.size, h.block⟩

set_option maxHeartbeats 4000000 in
set_option maxRecDepth 100000 in
theorem rput_any (base b : Nat) (D : Dk) (l : Fl) (v : Value) (nm s : ByteArray) (n : Nat) (w : World) (h : RIs w base b D l v) (hl9 : l.length ≤ 9) (hbase : base ≤ w.heap.size) :
    Calls Try.prog 45 #[.pointer (some ⟨b, 0, none⟩), .agg #[.string nm, .string s, .int .i64 n]] w fun e w' => e = .returned (.tuple #[]) ∧ (∃ v', RIs w' base b { D with files := aput D.files nm (s, n) } (insL nm (s, n) l) v') ∧ Only (· = b) w w' := by
  obtain ⟨A, c, rfl, hl, hf⟩ := h.file
  have c0 := h.c0
  have lb := h.lt
  obtain ⟨i0, hi, hz0, hz1, hz2⟩ := info_parts infoRF
  have HF := Lib.hid hf
  have HR := Lib.hid h
  clear hf h hl
  go_enter Try.func45, Try.ntmps45
  go_wp2
  go_loopw [4, 5, 6] (fun out put i wr => ∃ k : Nat, k ≤ l.length ∧ i = .int .i64 k ∧ put = .bool ((l.take k).foldl (putStep nm (s, n)) ([], false)).2 ∧ wr.ownsRow (w.heap.size + 1) 72 3 out ((l.take k).foldl (putStep nm (s, n)) ([], false)).1.length (flat ((l.take k).foldl (putStep nm (s, n)) ([], false)).1) ∧ Below (w.heap.size + 1) (w.alloc (.cells #[.string nm, .string s, .int .i64 n] 72)) wr) (fun _ _ i _ => l.length - (intOf i).toNat)
  case atStart => exact ⟨0, Nat.zero_le _, rfl, rfl, ⟨rfl, .inl ⟨rfl, rfl⟩⟩, Below.refl _ _⟩
  case round =>
    obtain ⟨k, hk, rfl, rfl, hown, hB⟩ := hrel
    have hsz := hB.size
    rw [show (w.alloc (.cells #[.string nm, .string s, .int .i64 n] 72)).heap.size = w.heap.size + 1 by simp] at hsz
    have c0' := ((hB.cell (p := ⟨b, 0, none⟩) (by show b < _; omega)).trans (World.cell?_alloc_past _ _ _ lb)).trans c0
    have f0' : wr.frozen? ⟨b, 0, none⟩ = false := ((hB.frozen (p := ⟨b, 0, none⟩) (by show b < _; omega)).trans (World.frozen?_alloc_past _ _ _ lb)).trans (HR.out.fr 0)
    have x0 : wr.cell? ⟨w.heap.size, 0, none⟩ = some (.string nm) := (hB.cell (p := ⟨w.heap.size, 0, none⟩) (by show w.heap.size < _; omega)).trans (World.cell?_alloc_new _ _ _ 0)
    have x1 : wr.cell? ⟨w.heap.size, 1, none⟩ = some (.string s) := (hB.cell (p := ⟨w.heap.size, 1, none⟩) (by show w.heap.size < _; omega)).trans (World.cell?_alloc_new _ _ _ 1)
    have x2 : wr.cell? ⟨w.heap.size, 2, none⟩ = some (.int .i64 n) := (hB.cell (p := ⟨w.heap.size, 2, none⟩) (by show w.heap.size < _; omega)).trans (World.cell?_alloc_new _ _ _ 2)
    have hpl := putStep_len nm (s, n) (l.take k)
    have htl : (l.take k).length ≤ k := List.length_take_le _ _
    have HB := Lib.hid hB
    clear hB
    by_cases hlt : k < l.length
    · obtain ⟨g, rfl, _, hg, _, h1, h2, h3⟩ := HF.out k hlt
      have h1' := ((HB.out.cell (p := ⟨g, k * 3, none⟩) (by show g < _; omega)).trans (World.cell?_alloc_past _ _ _ hg)).trans h1
      have h2' := ((HB.out.cell (p := ⟨g, k * 3 + 1, none⟩) (by show g < _; omega)).trans (World.cell?_alloc_past _ _ _ hg)).trans h2
      have h3' := ((HB.out.cell (p := ⟨g, k * 3 + 2, none⟩) (by show g < _; omega)).trans (World.cell?_alloc_past _ _ _ hg)).trans h3
      have hst : (l.take (k + 1)).foldl (putStep nm (s, n)) ([], false) = putStep nm (s, n) ((l.take k).foldl (putStep nm (s, n)) ([], false)) l[k] := by
        rw [List.take_succ_eq_append_getElem hlt, List.foldl_append]; rfl
      obtain ⟨A2, cc2, hv2⟩ := row_slice hown
      subst hv2
      generalize hQ : (l.take k).foldl (putStep nm (s, n)) ([], false) = q at *
      obtain ⟨m, pt⟩ := q
      simp only at hown hpl
      have HW := Lib.hid hown
      have HS := Lib.hid hst
      clear h1 h2 h3 hown hst hQ
      generalize hp : l[k] = p at *
      obtain ⟨px, pb, pn⟩ := p
      simp only at h1' h2' h3'
      clear hp
      have hge : ∀ x, decide (nlt px nm) = x → Op.bytesLess px.toList nm.toList = x := geq_bool px nm
      cases pt with
      | true =>
        by_cases e : px = nm
        · have HT : Hid ((l.take (k + 1)).foldl (putStep nm (s, n)) ([], false) = (m, true)) := Lib.hid (by rw [HS.out]; simp [putStep, e])
          rw [e] at h1'
          clear HS hge e h2' h3'
          go_wp2
          go_quiet (fail)
          go_wp2
          go_quiet (fail)
          go_wp2
          go_roundw
          case rel => exact ⟨k + 1, by omega, by go_num, by rw [HT.out], by rw [HT.out]; exact HW.out, below_drewN HB.out _⟩
          case measure => simp [intOf]; omega
        · have HT : Hid ((l.take (k + 1)).foldl (putStep nm (s, n)) ([], false) = (m ++ [(px, pb, pn)], true)) := Lib.hid (by rw [HS.out]; simp [putStep, e])
          have hb := bytes_ne e
          clear HS hge e
          go_wp2
          go_quiet (fail)
          go_wp2
          go_quiet (fail)
          go_wp2_with (at_builtin; refine wpList_append_own _ rfl _ _ 68 rfl (w.heap.size + 1) 72 i0 _ 3 40 Try.underlying68 hi hz0 hz1 hz2 rfl (by decide) _ _ _ rfl (RowOwned.alloc HW.out _) ⟨_, 0, none⟩ 1 1 [.string px, .string pb, .int .i64 pn] rfl rfl (three_new _ _ _ _ _) (by simp [Value.oneCell']) (by unfold maxLen; omega) (by omega) (by simp; omega) ?_; intro v1 w1 hown1 hgrow1 hnil1; have HN1 := Lib.hid hown1; have HG1 := Lib.hid hgrow1; clear hown1 hgrow1 hnil1)
          go_roundw
          case rel => exact ⟨k + 1, by omega, by go_num, by rw [HT.out], by rw [HT.out, List.length_append, flat_append]; exact HN1.out, ((below_drewN HB.out _).alloc (by show _ ≤ wr.heap.size; omega) _).grown HG1.out (alloc_le (by show _ ≤ wr.heap.size; omega) _) (row_at HW.out)⟩
          case measure => simp [intOf]; omega
      | false =>
        by_cases hn : nlt px nm
        · have e : px ≠ nm := fun e => nlt_irrefl nm (by rw [e] at hn; exact hn)
          have HT : Hid ((l.take (k + 1)).foldl (putStep nm (s, n)) ([], false) = (m ++ [(px, pb, pn)], false)) := Lib.hid (by rw [HS.out]; simp [putStep, e, hn])
          have hb := bytes_ne e
          have hg' := hge true (by simpa using hn)
          clear HS hge e hn
          go_wp2
          go_quiet (fail)
          go_wp2
          go_quiet (fail)
          go_wp2_with (at_builtin; refine wpList_append_own _ rfl _ _ 68 rfl (w.heap.size + 1) 72 i0 _ 3 40 Try.underlying68 hi hz0 hz1 hz2 rfl (by decide) _ _ _ rfl (RowOwned.alloc HW.out _) ⟨_, 0, none⟩ 1 1 [.string px, .string pb, .int .i64 pn] rfl rfl (three_new _ _ _ _ _) (by simp [Value.oneCell']) (by unfold maxLen; omega) (by omega) (by simp; omega) ?_; intro v1 w1 hown1 hgrow1 hnil1; have HN1 := Lib.hid hown1; have HG1 := Lib.hid hgrow1; clear hown1 hgrow1 hnil1)
          go_roundw
          case rel => exact ⟨k + 1, by omega, by go_num, by rw [HT.out], by rw [HT.out, List.length_append, flat_append]; exact HN1.out, ((below_drewN HB.out _).alloc (by show _ ≤ wr.heap.size; omega) _).grown HG1.out (alloc_le (by show _ ≤ wr.heap.size; omega) _) (row_at HW.out)⟩
          case measure => simp [intOf]; omega
        · have hg' := hge false (by simpa using hn)
          by_cases e : px = nm
          · have HT : Hid ((l.take (k + 1)).foldl (putStep nm (s, n)) ([], false) = (m ++ [(nm, s, n)], true)) := Lib.hid (by rw [HS.out]; simp [putStep, e, nlt_irrefl])
            rw [e] at h1' hg'
            clear HS hge e hn h2' h3'
            go_wp2
            go_quiet (fail)
            go_wp2_with (at_builtin; refine wpList_append_own _ rfl _ _ 68 rfl (w.heap.size + 1) 72 i0 _ 3 40 Try.underlying68 hi hz0 hz1 hz2 rfl (by decide) _ _ _ rfl (RowOwned.alloc HW.out _) ⟨_, 0, none⟩ 1 1 [.string nm, .string s, .int .i64 n] rfl rfl (three_new _ _ _ _ _) (by simp [Value.oneCell']) (by unfold maxLen; omega) (by omega) (by simp; omega) ?_; intro v1 w1 hown1 hgrow1 hnil1; have HN1 := Lib.hid hown1; have HG1 := Lib.hid hgrow1; clear hown1 hgrow1 hnil1)
            have HB1 := Lib.hid (((below_drewN HB.out _).alloc (by show _ ≤ wr.heap.size; omega) _).grown HG1.out (alloc_le (by show _ ≤ wr.heap.size; omega) _) (row_at HW.out))
            have hkeep : ∀ p : Addr, p.block < w.heap.size + 1 → (w.alloc (.cells #[.string nm, .string s, .int .i64 n] 72)).cell? p = wr.cell? p := fun p hp => (HB.out.cell hp).symm
            have k0 := (HB1.out.cell (p := ⟨b, 0, none⟩) (by show b < _; omega)).trans ((hkeep ⟨b, 0, none⟩ (by show b < _; omega)).trans c0')
            have k1 := (HB1.out.cell (p := ⟨w.heap.size, 0, none⟩) (by show w.heap.size < _; omega)).trans ((hkeep ⟨w.heap.size, 0, none⟩ (by show w.heap.size < _; omega)).trans x0)
            have q1 := (HB1.out.cell (p := ⟨g, k * 3, none⟩) (by show g < _; omega)).trans ((hkeep ⟨g, k * 3, none⟩ (by show g < _; omega)).trans h1')
            clear hkeep
            go_quiet (fail)
            go_wp2
            go_roundw
            case rel => exact ⟨k + 1, by omega, by go_num, by rw [HT.out], by rw [HT.out, List.length_append, flat_append]; exact HN1.out, below_drewN HB1.out _⟩
            case measure => simp [intOf]; omega
          · have HT : Hid ((l.take (k + 1)).foldl (putStep nm (s, n)) ([], false) = (m ++ [(nm, s, n)] ++ [(px, pb, pn)], true)) := Lib.hid (by rw [HS.out]; simp [putStep, e, hn])
            have hb := bytes_ne e
            clear HS hge e hn
            go_wp2
            go_quiet (fail)
            go_wp2_with (at_builtin; refine wpList_append_own _ rfl _ _ 68 rfl (w.heap.size + 1) 72 i0 _ 3 40 Try.underlying68 hi hz0 hz1 hz2 rfl (by decide) _ _ _ rfl (RowOwned.alloc HW.out _) ⟨_, 0, none⟩ 1 1 [.string nm, .string s, .int .i64 n] rfl rfl (three_new _ _ _ _ _) (by simp [Value.oneCell']) (by unfold maxLen; omega) (by omega) (by simp; omega) ?_; intro v1 w1 hown1 hgrow1 hnil1; have HN1 := Lib.hid hown1; have HG1 := Lib.hid hgrow1; clear hown1 hgrow1 hnil1)
            have HB1 := Lib.hid (((below_drewN HB.out _).alloc (by show _ ≤ wr.heap.size; omega) _).grown HG1.out (alloc_le (by show _ ≤ wr.heap.size; omega) _) (row_at HW.out))
            have hkeep : ∀ p : Addr, p.block < w.heap.size + 1 → (w.alloc (.cells #[.string nm, .string s, .int .i64 n] 72)).cell? p = wr.cell? p := fun p hp => (HB.out.cell hp).symm
            have k0 := (HB1.out.cell (p := ⟨b, 0, none⟩) (by show b < _; omega)).trans ((hkeep ⟨b, 0, none⟩ (by show b < _; omega)).trans c0')
            have k1 := (HB1.out.cell (p := ⟨w.heap.size, 0, none⟩) (by show w.heap.size < _; omega)).trans ((hkeep ⟨w.heap.size, 0, none⟩ (by show w.heap.size < _; omega)).trans x0)
            have q1 := (HB1.out.cell (p := ⟨g, k * 3, none⟩) (by show g < _; omega)).trans ((hkeep ⟨g, k * 3, none⟩ (by show g < _; omega)).trans h1')
            have q2 := (HB1.out.cell (p := ⟨g, k * 3 + 1, none⟩) (by show g < _; omega)).trans ((hkeep ⟨g, k * 3 + 1, none⟩ (by show g < _; omega)).trans h2')
            have q3 := (HB1.out.cell (p := ⟨g, k * 3 + 2, none⟩) (by show g < _; omega)).trans ((hkeep ⟨g, k * 3 + 2, none⟩ (by show g < _; omega)).trans h3')
            clear hkeep
            have hsz1 : w.heap.size + 1 ≤ w1.heap.size := (Nat.le_trans (by simp) HB1.out.size)
            obtain ⟨A3, cc3, hv3⟩ := row_slice HN1.out
            subst hv3
            go_quiet (fail)
            go_wp2_with (at_builtin; refine wpList_append_own _ rfl _ _ 68 rfl (w.heap.size + 1) 72 i0 _ 3 40 Try.underlying68 hi hz0 hz1 hz2 rfl (by decide) _ _ _ rfl (RowOwned.alloc HN1.out _) ⟨_, 0, none⟩ 1 1 [.string px, .string pb, .int .i64 pn] rfl rfl (three_new _ _ _ _ _) (by simp [Value.oneCell']) (by unfold maxLen; omega) (by omega) (by simp; omega) ?_; intro v2 w2 hown2 hgrow2 hnil2; have HN2 := Lib.hid hown2; have HG2 := Lib.hid hgrow2; clear hown2 hgrow2 hnil2)
            go_roundw
            case rel => exact ⟨k + 1, by omega, by go_num, by rw [HT.out], by rw [HT.out, List.length_append, flat_append, List.length_append, flat_append]; exact HN2.out, ((below_drewN HB1.out _).alloc (by show _ ≤ w1.heap.size; exact hsz1) _).grown HG2.out (alloc_le (by show _ ≤ w1.heap.size; exact hsz1) _) (row_at HN1.out)⟩
            case measure => simp [intOf]; omega
    · have hkl : k = l.length := by omega
      subst hkl
      rw [List.take_length] at hown hpl
      rw [List.take_length]
      have hall := putStep_all nm (s, n) l []
      generalize hQ : l.foldl (putStep nm (s, n)) ([], false) = q at *
      obtain ⟨m, pt⟩ := q
      simp only [List.nil_append] at hown hpl hall
      obtain ⟨A2, cc2, hv2⟩ := row_slice hown
      subst hv2
      have HW := Lib.hid hown
      clear hown hQ
      have hal : Below w.heap.size w (w.alloc (.cells #[.string nm, .string s, .int .i64 n] 72)) := (Below.refl _ _).alloc (Nat.le_refl _) _
      have HB0 := Lib.hid (hal.trans (HB.out.mono (Nat.le_succ _)))
      clear hal
      cases pt with
      | true =>
        simp only [if_true] at hall
        subst hall
        go_wp2
        go_end0
        exact ⟨rfl, ⟨_, RIs.stored HR.out HB0.out (row_base HW.out (Nat.le_succ _)) hbase (HR.out.rel.put nm (s, n))⟩, Only.stored HB0.out _⟩
      | false =>
        simp only [Bool.false_eq_true, if_false] at hall
        have HA := Lib.hid hall
        clear hall
        go_wp2_with (at_builtin; refine wpList_append_own _ rfl _ _ 68 rfl (w.heap.size + 1) 72 i0 _ 3 40 Try.underlying68 hi hz0 hz1 hz2 rfl (by decide) _ _ _ rfl (RowOwned.alloc HW.out _) ⟨_, 0, none⟩ 1 1 [.string nm, .string s, .int .i64 n] rfl rfl (three_new _ _ _ _ _) (by simp [Value.oneCell']) (by unfold maxLen; omega) (by omega) (by simp; omega) ?_; intro v1 w1 hown1 hgrow1 hnil1; have HN1 := Lib.hid hown1; have HG1 := Lib.hid hgrow1; clear hown1 hgrow1 hnil1; have HB1 := Lib.hid ((HB0.out.alloc (by omega) _).grown HG1.out (alloc_le (by omega) _) (fun k hk => Nat.le_of_succ_le (row_at HW.out k hk))); have f1 : w1.frozen? ⟨b, 0, none⟩ = false := (HB1.out.frozen (p := ⟨b, 0, none⟩) lb).trans (HR.out.fr 0); have k0 := (HB1.out.cell (p := ⟨b, 0, none⟩) lb).trans c0; obtain ⟨A4, cc4, hv4⟩ := row_slice HN1.out; subst hv4)
        go_end0
        refine ⟨rfl, ⟨_, RIs.stored (m := insL nm (s, n) l) HR.out HB1.out ?_ hbase (HR.out.rel.put nm (s, n))⟩, Only.stored HB1.out _⟩
        rw [← HA.out, List.length_append, flat_append]
        exact row_base HN1.out (Nat.le_succ _)
end Go.Proofs.Ytekkmfclaepcgaa

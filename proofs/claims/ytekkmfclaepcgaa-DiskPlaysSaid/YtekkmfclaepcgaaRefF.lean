/- drop, put and List of the document's own disk. -/
import Derived.Test.YtekkmfclaepcgaaRefE
import Derived.OwnWalk
import Derived.Deep.LoopGhost
set_option linter.unusedVariables false
namespace Go.Proofs.Ytekkmfclaepcgaa
open Go.RowKit

theorem infoRF : (Try.prog.info? 72).map (fun i => (i.zero, i.size, i.bytes)) = some (some (.agg #[.string ⟨#[]⟩, .string ⟨#[]⟩, .int .i64 0]), 3, 40) := by kernel_rfl
theorem infoStr : (Try.prog.info? 9).map (fun i => (i.zero, i.size, i.bytes)) = some (some (.string ⟨#[]⟩), 1, 16) := by kernel_rfl
theorem three_new (w : World) (a b c : Value) (t : TypeId) : ∀ j u, [a, b, c][j]? = some u → (w.alloc (.cells #[a, b, c] t)).cell? ((⟨w.heap.size, 0, none⟩ : Addr).add j) = some u := by
  intro j u hu
  have e : (⟨w.heap.size, 0, none⟩ : Addr).add j = ⟨w.heap.size, j, none⟩ := by unfold Addr.add; split <;> simp_all
  rw [e, World.cell?_alloc_new, ← hu]
  simp
theorem one_new (w : World) (a : Value) (t : TypeId) : ∀ j u, [a][j]? = some u → (w.alloc (.cells #[a] t)).cell? ((⟨w.heap.size, 0, none⟩ : Addr).add j) = some u := by
  intro j u hu
  have e : (⟨w.heap.size, 0, none⟩ : Addr).add j = ⟨w.heap.size, j, none⟩ := by unfold Addr.add; split <;> simp_all
  rw [e, World.cell?_alloc_new, ← hu]
  simp
theorem row_slice {w : World} {base n : Nat} {e : TypeId} {size : Nat} {v : Value} {xs : List Value} (h : w.ownsRow base e size v n xs) : ∃ A c, v = .slice A n c := by
  rcases h.2 with ⟨rfl, rfl⟩ | ⟨g, cap, cur, rfl, _⟩
  · exact ⟨none, 0, rfl⟩
  · exact ⟨_, cap, rfl⟩
theorem row_base {w : World} {base base' n : Nat} {e : TypeId} {size : Nat} {v : Value} {xs : List Value} (h : w.ownsRow base e size v n xs) (hb : base' ≤ base) : w.ownsRow base' e size v n xs := by
  refine ⟨h.1, ?_⟩
  rcases h.2 with h2 | ⟨g, cap, cur, h1, h2, r⟩
  · exact .inl h2
  · exact .inr ⟨g, cap, cur, h1, by omega, r⟩
theorem row_at {w : World} {base n : Nat} {e : TypeId} {size : Nat} {v : Value} {xs : List Value} (h : w.ownsRow base e size v n xs) : ∀ k, v.ownBlock = some k → base ≤ k := by
  intro k hk
  rcases h.2 with ⟨rfl, _⟩ | ⟨g, cap, cur, rfl, hb, _⟩
  · simp [Value.ownBlock] at hk
  · have : g = k := by simpa [Value.ownBlock] using hk
    omega
theorem alloc_le {n : Nat} {w : World} (h : n ≤ w.heap.size) (o : Obj) : n ≤ (w.alloc o).heap.size := Nat.le_trans h (by simp)
theorem row_drew {w : World} {base n : Nat} {e : TypeId} {size : Nat} {v : Value} {xs : List Value} (h : w.ownsRow base e size v n xs) : w.drew.ownsRow base e size v n xs := h
theorem adel_snoc (l : Fl) (p : ByteArray × (ByteArray × Nat)) (k : ByteArray) : adel (l ++ [p]) k = if p.1 = k then adel l k else adel l k ++ [p] := by
  unfold adel
  rw [List.filter_append]
  by_cases e : p.1 = k
  · rw [if_pos e, List.filter_cons_of_neg (by simpa using e)]
    simp
  · rw [if_neg e, List.filter_cons_of_pos (by simpa using e)]
    simp
theorem adel_len (l : Fl) (k : ByteArray) : (adel l k).length ≤ l.length := (adel_sub l k).length_le

/-- The new row is stored into the disk's struct. -/
theorem RIs.stored {w wr : World} {base b : Nat} {D : Dk} {l m : Fl} {v u : Value} {fs : Fl} (h : RIs w base b D l v) (hB : Below w.heap.size w wr) (hr : wr.ownsRow w.heap.size 72 3 u m.length (flat m)) (hbase : base ≤ w.heap.size) (hrel : RefRel m fs) :
    RIs (wr.setCell ⟨b, 0, none⟩ u) base b { D with files := fs } m u := by
  refine ⟨hrel, by rw [rblk_setCell ((hB.block b h.lt).trans h.blk)]; simp, ?_, h.le⟩
  refine ownsRow_setCell_ne (row_base hr hbase) (fun k hk => ?_) _
  have := row_at hr k hk
  have := h.lt
  show k ≠ b
  omega
theorem Only.stored {w wr : World} {b : Nat} (hB : Below w.heap.size w wr) (u : Value) : Only (· = b) w (wr.setCell ⟨b, 0, none⟩ u) := (Only.of_below (S := (· = b)) hB).setCell (p := ⟨b, 0, none⟩) (fun _ => rfl) u

set_option maxHeartbeats 2000000 in
set_option maxRecDepth 100000 in
theorem rdrop_any (base b : Nat) (D : Dk) (l : Fl) (v : Value) (nm : ByteArray) (w : World) (h : RIs w base b D l v) (hl9 : l.length ≤ 9) (hbase : base ≤ w.heap.size) :
    Calls Try.prog 46 #[.pointer (some ⟨b, 0, none⟩), .string nm] w fun e w' => e = .returned (.tuple #[]) ∧ (∃ v', RIs w' base b { D with files := adel D.files nm } (adel l nm) v' ∧ ∀ k, v'.ownBlock = some k → w.heap.size ≤ k) ∧ Only (· = b) w w' := by
  obtain ⟨A, c, rfl, hl, hf⟩ := h.file
  have c0 := h.c0
  have lb := h.lt
  obtain ⟨i0, hi, hz0, hz1, hz2⟩ := info_parts infoRF
  have HF := Lib.hid hf
  have HR := Lib.hid h
  clear hf h hl
  go_enter Try.func46, Try.ntmps46
  go_wp2
  go_loopw [4, 5] (fun out i wr => ∃ k : Nat, k ≤ l.length ∧ i = .int .i64 k ∧ wr.ownsRow w.heap.size 72 3 out (adel (l.take k) nm).length (flat (adel (l.take k) nm)) ∧ Below w.heap.size w wr) (fun _ i _ => l.length - (intOf i).toNat)
  case atStart => exact ⟨0, Nat.zero_le _, rfl, ⟨rfl, .inl ⟨rfl, rfl⟩⟩, Below.refl _ _⟩
  case round =>
    obtain ⟨k, hk, rfl, hown, hB⟩ := hrel
    have hsz := hB.size
    have c0' := (hB.cell (p := ⟨b, 0, none⟩) lb).trans c0
    have HB := Lib.hid hB
    clear hB
    by_cases hlt : k < l.length
    · obtain ⟨g, rfl, _, hg, _, h1, h2, h3⟩ := HF.out k hlt
      have h1' := (HB.out.cell (p := ⟨g, k * 3, none⟩) hg).trans h1
      have h2' := (HB.out.cell (p := ⟨g, k * 3 + 1, none⟩) hg).trans h2
      have h3' := (HB.out.cell (p := ⟨g, k * 3 + 2, none⟩) hg).trans h3
      have htk : l.take (k + 1) = l.take k ++ [l[k]] := List.take_succ_eq_append_getElem hlt
      have hsn := adel_snoc (l.take k) l[k] nm
      rw [← htk] at hsn
      have hal := adel_len (l.take k) nm
      have htl : (l.take k).length ≤ k := List.length_take_le _ _
      obtain ⟨A2, cc2, hv2⟩ := row_slice hown
      subst hv2
      have HW := Lib.hid hown
      have HS := Lib.hid hsn
      clear h1 h2 h3 htk hsn hown
      by_cases e : l[k].1 = nm
      · rw [if_pos e] at HS
        rw [e] at h1'
        clear e h2' h3'
        go_wp2
        go_roundw
        case rel => exact ⟨k + 1, by omega, by go_num, by rw [HS.out]; exact HW.out, HB.out⟩
        case measure => simp [intOf]; omega
      · rw [if_neg e] at HS
        have hb := bytes_ne e
        generalize hp : l[k] = p at *
        obtain ⟨px, pb, pn⟩ := p
        have hal' := adel_len (l.take k) nm
        simp only at h1' h2' h3' hb
        have HP := Lib.hid hp
        clear hp e
        go_wp2_with (at_builtin; refine wpList_append_own _ rfl _ _ 68 rfl w.heap.size 72 i0 _ 3 40 Try.underlying68 hi hz0 hz1 hz2 rfl (by decide) _ _ _ rfl (HW.out.alloc _) ⟨wr.heap.size, 0, none⟩ 1 1 [.string px, .string pb, .int .i64 pn] rfl rfl (three_new _ _ _ _ _) (by simp [Value.oneCell']) (by unfold maxLen; omega) (by omega) (by simp; omega) ?_; intro v' w1 hown1 hgrow1 _; have HN1 := Lib.hid hown1; have HG1 := Lib.hid hgrow1; clear hown1 hgrow1)
        go_roundw
        case rel => exact ⟨k + 1, by omega, by go_num, by rw [HS.out, List.length_append, flat_append]; exact HN1.out, (HB.out.alloc (by omega) _).grown HG1.out (alloc_le hsz _) (row_at HW.out)⟩
        case measure => simp [intOf]; omega
    · have hkl : k = l.length := by omega
      subst hkl
      rw [List.take_length] at hown
      have f0 := (HB.out.frozen (p := ⟨b, 0, none⟩) lb).trans (HR.out.fr 0)
      obtain ⟨A2, cc2, hv2⟩ := row_slice hown
      subst hv2
      have HW := Lib.hid hown
      clear hown
      go_wp2
      go_end0
      exact ⟨rfl, ⟨.slice A2 (adel l nm).length cc2, RIs.stored HR.out HB.out HW.out hbase (HR.out.rel.del nm), row_at HW.out⟩, Only.stored HB.out _⟩
end Go.Proofs.Ytekkmfclaepcgaa

/- Layer 11, plainly: each act of a log is done or cut; what then lies on the disk; what a Restart and an Open make of it. -/
import Derived.Test.YtlmnmjnmilaipaaGreatDoorWalPl
import Derived.Test.YtlmnmjnmilaipaaGreatDoorDiskPl
set_option linter.unusedVariables false
set_option linter.unusedSimpArgs false
namespace Go.Proofs.YtlmnmjnmilaipaaGreatDoor
open Go

theorem n100 : (100 : Int) ≠ 0 := by decide
theorem n00 : ¬ (0 : Int) ≠ 0 := by decide
/-- One act: cut, or done. -/
def ActRes (D : Dk) (r : Int × Dk) (fs : Fl) : Prop :=
  (r = (100, ⟨D.files, D.acts + 1, D.armed, true⟩) ∧ D.armed ≠ 0) ∨ r = (0, ⟨fs, D.acts + 1, D.armed, false⟩)
theorem tick_res {D : Dk} (h : D.off = false) : (D.tick = ⟨D.files, D.acts + 1, D.armed, true⟩ ∧ D.armed ≠ 0) ∨ D.tick = ⟨D.files, D.acts + 1, D.armed, false⟩ := by
  rw [off_tick h]
  by_cases e : D.acts + 1 = D.armed
  · rw [decide_eq_true e]; exact .inl ⟨rfl, by omega⟩
  · rw [decide_eq_false e]; exact .inr rfl
theorem append_act {D : Dk} (hD : Lies D) (h : D.off = false) {k s : ByteArray} (hk : k ∈ keys3) (hs : (fget D.files k).1.size + s.size ≤ 65536) : ActRes D (D.append k s) (aput D.files k ((fget D.files k).1 ++ s, (fget D.files k).2)) := by
  rcases tick_res h with ⟨e, ha⟩ | e
  · rw [append_cut (by rw [e]), e]; exact .inl ⟨rfl, ha⟩
  · rw [append_go hD (by rw [e]) hk hs, e]; exact .inr rfl
theorem sync_act {D : Dk} (h : D.off = false) {k : ByteArray} {f : ByteArray × Nat} (hg : aget D.files k = some f) : ActRes D (D.sync k) (aput D.files k (f.1, f.1.size)) := by
  rcases tick_res h with ⟨e, ha⟩ | e
  · rw [sync_cut (by rw [e]), e]; exact .inl ⟨rfl, ha⟩
  · rw [sync_go (by rw [e]) hg, e]; exact .inr rfl
theorem rename_act {D : Dk} (h : D.off = false) {k j : ByteArray} {f : ByteArray × Nat} (hg : aget D.files k = some f) (hj : j ∈ keys3) : ActRes D (D.rename k j) (aput (adel D.files k) j f) := by
  rcases tick_res h with ⟨e, ha⟩ | e
  · rw [rename_cut (by rw [e]), e]; exact .inl ⟨rfl, ha⟩
  · rw [rename_go (by rw [e]) hg hj, e]; exact .inr rfl
theorem remove_act {D : Dk} (h : D.off = false) {k : ByteArray} {f : ByteArray × Nat} (hg : aget D.files k = some f) : ActRes D (D.remove k) (adel D.files k) := by
  rcases tick_res h with ⟨e, ha⟩ | e
  · rw [remove_cut (by rw [e]), e]; exact .inl ⟨rfl, ha⟩
  · rw [remove_go (by rw [e]) hg, e]; exact .inr rfl
theorem Lies.same {D : Dk} (h : Lies D) {n : Nat} (hn : n < 4611686018427387904) (o : Bool) : Lies ⟨D.files, n, D.armed, o⟩ := ⟨.mk' h.ok.files hn h.ok.armed, h.k3⟩
theorem Lies.put' {D : Dk} (h : Lies D) {k : ByteArray} (hk : k ∈ keys3) {v : ByteArray × Nat} (h1 : v.1.size ≤ 65536) (h2 : v.2 ≤ v.1.size) {n : Nat} (hn : n < 4611686018427387904) (o : Bool) : Lies ⟨aput D.files k v, n, D.armed, o⟩ := h.put hk h1 h2 n hn o
theorem Lies.del {D : Dk} (h : Lies D) (k : ByteArray) {n : Nat} (hn : n < 4611686018427387904) (o : Bool) : Lies ⟨adel D.files k, n, D.armed, o⟩ := ⟨.mk' (h.ok.files.del k) hn h.ok.armed, h.k3.del k⟩
/-- What any of a log's calls keeps. -/
structure Step (n : Nat) (D D' : Dk) : Prop where
  lies : Lies D'
  armed : D'.armed = D.armed
  ge : D.acts ≤ D'.acts
  le : D'.acts ≤ D.acts + n
theorem Step.trans {n m : Nat} {D D1 D2 : Dk} (h : Step n D D1) (k : Step m D1 D2) : Step (n + m) D D2 :=
  ⟨k.lies, k.armed.trans h.armed, Nat.le_trans h.ge k.ge, by have := h.le; have := k.le; omega⟩
theorem Step.mono {n m : Nat} {D D' : Dk} (h : Step n D D') (hm : n ≤ m) : Step m D D' := ⟨h.lies, h.armed, h.ge, by have := h.le; omega⟩
/-- A file written anew: cut, with the file new alone turned; or done. -/
theorem renew_act {D : Dk} (hD : Lies D) (h : D.off = false) (hn : aget D.files kNew = none) {k s : ByteArray} (hk : k ∈ keys3) (hkn : k ≠ kNew) (hs : s.size ≤ 65536) (ha : D.acts + 3 < 4611686018427387904) :
    ((renewP D k s).1 = 100 ∧ D.armed ≠ 0 ∧ (renewP D k s).2.off = true ∧ Step 3 D (renewP D k s).2 ∧ ∀ j, j ≠ kNew → aget (renewP D k s).2.files j = aget D.files j) ∨
    ((renewP D k s).1 = 0 ∧ (renewP D k s).2.off = false ∧ Step 3 D (renewP D k s).2 ∧ aget (renewP D k s).2.files k = some (s, s.size) ∧ aget (renewP D k s).2.files kNew = none ∧ ∀ j, j ≠ kNew → j ≠ k → aget (renewP D k s).2.files j = aget D.files j) := by
  have hf0 : fget D.files kNew = (⟨#[]⟩, 0) := by unfold fget; rw [hn]; rfl
  have a1 := append_act hD h in_n (s := s) (by rw [hf0]; show 0 + s.size ≤ _; omega)
  rw [hf0] at a1
  rw [show (⟨#[]⟩ : ByteArray) ++ s = s from ByteArray.empty_append] at a1
  dsimp only at a1
  unfold renewP
  rcases a1 with ⟨e1, h1⟩ | e1
  · rw [e1, if_pos n100]
    exact .inl ⟨rfl, h1, rfl, ⟨hD.same (by omega) _, rfl, by show D.acts ≤ D.acts + 1; omega, by show D.acts + 1 ≤ D.acts + 3; omega⟩, fun j _ => rfl⟩
  · rw [e1, if_neg n00]
    dsimp only
    have l1 : Lies ⟨aput D.files kNew (s, 0), D.acts + 1, D.armed, false⟩ := hD.put' in_n hs (Nat.zero_le _) (by omega) _
    have g1 : aget (aput D.files kNew (s, 0)) kNew = some (s, 0) := aget_aput_same _ _ _
    have a2 := sync_act (D := ⟨aput D.files kNew (s, 0), D.acts + 1, D.armed, false⟩) rfl g1
    rcases a2 with ⟨e2, h2⟩ | e2
    · rw [e2, if_pos n100]
      exact .inl ⟨rfl, h2, rfl, ⟨l1.same (by show D.acts + 1 + 1 < _; omega) _, rfl, by show D.acts ≤ D.acts + 1 + 1; omega, by show D.acts + 1 + 1 ≤ D.acts + 3; omega⟩, fun j hj => aget_aput_other _ _ _ _ hj⟩
    · rw [e2, if_neg n00]
      dsimp only
      have l2 : Lies ⟨aput (aput D.files kNew (s, 0)) kNew (s, s.size), D.acts + 1 + 1, D.armed, false⟩ := l1.put' in_n hs (Nat.le_refl _) (by omega) _
      have g2 : aget (aput (aput D.files kNew (s, 0)) kNew (s, s.size)) kNew = some (s, s.size) := aget_aput_same _ _ _
      have a3 := rename_act (D := ⟨aput (aput D.files kNew (s, 0)) kNew (s, s.size), D.acts + 1 + 1, D.armed, false⟩) rfl g2 hk
      rcases a3 with ⟨e3, h3⟩ | e3
      · rw [e3]
        exact .inl ⟨rfl, h3, rfl, ⟨l2.same (by show D.acts + 1 + 1 + 1 < _; omega) _, rfl, by show D.acts ≤ D.acts + 1 + 1 + 1; omega, by show D.acts + 1 + 1 + 1 ≤ D.acts + 3; omega⟩, fun j hj => by
          show aget (aput (aput D.files kNew (s, 0)) kNew (s, s.size)) j = _
          rw [aget_aput_other _ _ _ _ hj, aget_aput_other _ _ _ _ hj]⟩
      · rw [e3]
        refine .inr ⟨rfl, rfl, ⟨?_, rfl, by show D.acts ≤ D.acts + 1 + 1 + 1; omega, by show D.acts + 1 + 1 + 1 ≤ D.acts + 3; omega⟩, aget_aput_same _ _ _, ?_, fun j hj hjk => ?_⟩
        · exact (l2.del kNew (n := D.acts + 1 + 1 + 1) (by omega) false).put' hk hs (Nat.le_refl _) (by show D.acts + 1 + 1 + 1 < _; omega) false
        · show aget (aput (adel _ _) _ _) kNew = none
          rw [aget_aput_other _ _ _ _ (fun e => hkn e.symm), aget_adel_same]
        · show aget (aput (adel _ _) _ _) j = _
          rw [aget_aput_other _ _ _ _ hjk, aget_adel_other _ hj, aget_aput_other _ _ _ _ hj, aget_aput_other _ _ _ _ hj]

/-! ### what lies in the files -/
structure Torn (fs : Fl) (q : Nat) (text : Bs) (a : Nat) (ts : List Bs) (x : Bs) : Prop where
  snap : (aget fs kSnap = none ∧ q = 0 ∧ text = []) ∨ (∃ s, aget fs kSnap = some (s, s.size) ∧ bs s = frameP (payP q text) ∧ (payP q text).length ≤ 4096)
  qm : q ≤ 1099511627776
  log : (aget fs kLog = none ∧ ts = [] ∧ x = []) ∨ ∃ s n, aget fs kLog = some (s, n) ∧ bs s = framesP (paysP a ts) ++ x ∧ (framesP (paysP a ts)).length ≤ n
  num : 1 ≤ a ∧ a ≤ q + 1 ∧ q + 1 ≤ a + ts.length
  most : a + ts.length ≤ 1099511627777
  pays : ∀ p ∈ paysP a ts, p.length ≤ 4096
theorem Torn.laid {D : Dk} {q : Nat} {text : Bs} {a : Nat} {ts : List Bs} {x : Bs} (h : Torn D.files q text a ts x) (hp : Part x) : Laid D q text a ts x := by
  refine ⟨?_, h.qm, ?_, h.num, h.most, h.pays, hp⟩
  · rcases h.snap with ⟨h1, h2⟩ | ⟨s, h1, h2, h3⟩
    · exact .inl ⟨by unfold fileP; rw [h1]; rfl, h2⟩
    · exact .inr ⟨by unfold fileP; rw [h1, ← h2]; rfl, h3⟩
  · rcases h.log with ⟨h1, h2⟩ | ⟨s, n, h1, h2, h3⟩
    · exact .inl ⟨by unfold fileP; rw [h1]; rfl, h2⟩
    · exact .inr (by unfold fileP; rw [h1, ← h2]; rfl)
theorem Torn.files {fs fs' : Fl} {q : Nat} {text : Bs} {a : Nat} {ts : List Bs} {x : Bs} (h : Torn fs q text a ts x) (h1 : aget fs' kSnap = aget fs kSnap) (h2 : aget fs' kLog = aget fs kLog) : Torn fs' q text a ts x :=
  ⟨by rw [h1]; exact h.snap, h.qm, by rw [h2]; exact h.log, h.num, h.most, h.pays⟩
/-- A log's state: the checkpoint's text, the records since, the last record's number. -/
structure St where
  text : Bs
  l : List Bs
  seq : Nat
def St.add (s : St) (t : Bs) : St := ⟨s.text, s.l ++ [t], s.seq + 1⟩
def St.check (s : St) (t : Bs) : St := ⟨t, [], s.seq⟩
/-- The files tell a state; x stands behind the log's frames; the log has no more than m bytes. -/
def Holds (fs : Fl) (st : St) (x : Bs) (m : Nat) : Prop := ∃ q a ts, Torn fs q st.text a ts x ∧ st.l = ts.drop (q + 1 - a) ∧ st.seq = a + ts.length - 1 ∧ (framesP (paysP a ts)).length + x.length ≤ m
theorem Holds.files {fs fs' : Fl} {st : St} {x : Bs} {m : Nat} (h : Holds fs st x m) (h1 : aget fs' kSnap = aget fs kSnap) (h2 : aget fs' kLog = aget fs kLog) : Holds fs' st x m := by
  obtain ⟨q, a, ts, h3, h4⟩ := h
  exact ⟨q, a, ts, h3.files h1 h2, h4⟩
theorem Holds.mono {fs : Fl} {st : St} {x : Bs} {m m' : Nat} (h : Holds fs st x m) (hm : m ≤ m') : Holds fs st x m' := by
  obtain ⟨q, a, ts, h3, h4, h5, h6⟩ := h
  exact ⟨q, a, ts, h3, h4, h5, Nat.le_trans h6 hm⟩
/-- What may stand behind the log's frames: whatever is kept of it is a frame's beginning, or the next record's frame. -/
def Tail (st st' : St) (x : Bs) : Prop := ∀ p y, p ++ y = x → Part p ∨ ∃ t, p = frameP (payP (st.seq + 1) t) ∧ (payP (st.seq + 1) t).length ≤ 4096 ∧ st.seq + 1 ≤ 1099511627776 ∧ st' = st.add t
theorem Tail.pre {st st' : St} {x p y : Bs} (h : Tail st st' x) (e : p ++ y = x) : Tail st st' p := fun p' y' e' => h p' (y' ++ y) (by rw [← List.append_assoc, e', e])
theorem tail_nil (st st' : St) : Tail st st' [] := fun p y e => .inl (.inl (List.append_eq_nil_iff.1 e).1)
theorem tail_frame (st : St) (t : Bs) (h : (payP (st.seq + 1) t).length ≤ 4096) (hq : st.seq + 1 ≤ 1099511627776) : Tail st (st.add t) (frameP (payP (st.seq + 1) t)) := fun p y e => by
  by_cases hy : y = []
  · subst hy
    rw [List.append_nil] at e
    exact .inr ⟨t, e, h, hq, rfl⟩
  · exact .inl (.inr (take_short _ p y h e hy))
/-- Behind a cut: the old state or the new one, as far as it was synced. -/
def Wreck (fs : Fl) (st st' : St) (m : Nat) : Prop := (∃ x, Holds fs st x m ∧ Tail st st' x) ∨ Holds fs st' [] m
theorem Wreck.files {fs fs' : Fl} {st st' : St} {m : Nat} (h : Wreck fs st st' m) (h1 : aget fs' kSnap = aget fs kSnap) (h2 : aget fs' kLog = aget fs kLog) : Wreck fs' st st' m := by
  rcases h with ⟨x, h3, h4⟩ | h3
  · exact .inl ⟨x, h3.files h1 h2, h4⟩
  · exact .inr (h3.files h1 h2)
/-- A log between its calls: nothing is torn, no file is left over. -/
structure Calm (D : Dk) (st : St) (m : Nat) : Prop where
  lies : Lies D
  off : D.off = false
  new : aget D.files kNew = none
  holds : Holds D.files st [] m
theorem Calm.wreck {D : Dk} {st : St} {m : Nat} (h : Calm D st m) (st' : St) : Wreck D.files st st' m := .inl ⟨[], h.holds, tail_nil _ _⟩

/-! ### Append -/
theorem bytes_of {fs : Fl} {q : Nat} {text : Bs} {a : Nat} {ts : List Bs} {x : Bs} (h : Torn fs q text a ts x) : bs (fget fs kLog).1 = framesP (paysP a ts) ++ x ∧ ((framesP (paysP a ts)).length ≤ (fget fs kLog).2) := by
  unfold fget
  rcases h.log with ⟨h1, rfl, rfl⟩ | ⟨s, n, h1, h2, h3⟩
  · rw [h1]; exact ⟨rfl, Nat.le_refl _⟩
  · rw [h1]; exact ⟨h2, h3⟩
theorem append_out {D : Dk} {st : St} {m : Nat} (h : Calm D st m) (t : Bs) (hq : st.seq + 1 ≤ 1099511627776) (hp : (payP (st.seq + 1) t).length ≤ 4096) (hm : m + (frameP (payP (st.seq + 1) t)).length ≤ 65536) (ha : D.acts + 2 < 4611686018427387904) :
    ((appendP ⟨st.seq, 0⟩ D t).1 = 0 ∧ (appendP ⟨st.seq, 0⟩ D t).2.1 = ⟨((st.seq + 1 : Nat) : Int), 0⟩ ∧ Step 2 D (appendP ⟨st.seq, 0⟩ D t).2.2 ∧ Calm (appendP ⟨st.seq, 0⟩ D t).2.2 (st.add t) (m + (frameP (payP (st.seq + 1) t)).length)) ∨
    ((appendP ⟨st.seq, 0⟩ D t).1 = 100 ∧ D.armed ≠ 0 ∧ (appendP ⟨st.seq, 0⟩ D t).2.2.off = true ∧ Step 2 D (appendP ⟨st.seq, 0⟩ D t).2.2 ∧ Wreck (appendP ⟨st.seq, 0⟩ D t).2.2.files st (st.add t) (m + (frameP (payP (st.seq + 1) t)).length)) := by
  obtain ⟨q, a, ts, hT, hl, hs, hsz⟩ := h.holds
  rw [List.length_nil, Nat.add_zero] at hsz
  have hnum := hT.num
  have hseq : st.seq + 1 = a + ts.length := by omega
  obtain ⟨hb, hsy⟩ := bytes_of hT
  rw [List.append_nil] at hb
  have hlen : (fget D.files kLog).1.size = (framesP (paysP a ts)).length := by rw [← bs_len, hb]
  have hsy2 := (h.lies.fget kLog).2
  have hsyn : (fget D.files kLog).2 = (fget D.files kLog).1.size := by omega
  have hfit : (fget D.files kLog).1.size + (ba (frameP (payP (st.seq + 1) t))).size ≤ 65536 := by rw [ba_size]; omega
  have e1 : ((st.seq : Nat) : Int) + 1 = ((st.seq + 1 : Nat) : Int) := by omega
  unfold appendP
  rw [if_neg n00, e1, madeP_ok hq hp]
  dsimp only
  rw [if_neg n00]
  have a1 := append_act h.lies h.off in_l hfit
  generalize hfr : ba (frameP (payP (st.seq + 1) t)) = F at *
  have hFb : bs F = frameP (payP (st.seq + 1) t) := by rw [← hfr, bs_ba]
  generalize hS : (fget D.files kLog).1 = S at *
  generalize hN : (fget D.files kLog).2 = n at *
  have hSF : (S ++ F).size ≤ 65536 := by rw [size_app]; exact hfit
  have l1 : Lies ⟨aput D.files kLog (S ++ F, n), D.acts + 1, D.armed, false⟩ := h.lies.put' in_l hSF (by rw [size_app]; show n ≤ S.size + F.size; omega) (by omega) _
  rcases a1 with ⟨e1, h1⟩ | e1
  · rw [e1, if_pos n100]
    exact .inr ⟨rfl, h1, rfl, ⟨h.lies.same (by omega) _, rfl, by show D.acts ≤ D.acts + 1; omega, by show D.acts + 1 ≤ D.acts + 2; omega⟩, .inl ⟨[], h.holds.mono (Nat.le_add_right _ _), tail_nil _ _⟩⟩
  · rw [e1, if_neg n00]
    dsimp only
    have g1 : aget (aput D.files kLog (S ++ F, n)) kLog = some (S ++ F, n) := aget_aput_same _ _ _
    have a2 := sync_act (D := ⟨aput D.files kLog (S ++ F, n), D.acts + 1, D.armed, false⟩) rfl g1
    have hpy : paysP a (ts ++ [t]) = paysP a ts ++ [payP (st.seq + 1) t] := by rw [pays_snoc, hseq]
    have hfp : framesP (paysP a (ts ++ [t])) = framesP (paysP a ts) ++ frameP (payP (st.seq + 1) t) := by rw [hpy, frames_snoc]
    rcases a2 with ⟨e2, h2⟩ | e2
    · rw [e2, if_pos n100]
      refine .inr ⟨rfl, h2, rfl, ⟨l1.same (by show D.acts + 1 + 1 < _; omega) _, rfl, by show D.acts ≤ D.acts + 1 + 1; omega, by show D.acts + 1 + 1 ≤ D.acts + 2; omega⟩, .inl ⟨frameP (payP (st.seq + 1) t), ⟨q, a, ts, ⟨?_, hT.qm, .inr ⟨S ++ F, n, g1, by rw [bs_app, hb, hFb], by omega⟩, hnum, hT.most, hT.pays⟩, hl, hs, by omega⟩, tail_frame _ _ hp hq⟩⟩
      show (aget (aput D.files kLog (S ++ F, n)) kSnap = none ∧ _) ∨ _
      rw [aget_aput_other _ _ _ _ ne_ls.symm]
      exact hT.snap
    · rw [e2, if_neg n00]
      refine .inl ⟨rfl, rfl, ⟨l1.put' in_l hSF (Nat.le_refl _) (by show D.acts + 1 + 1 < _; omega) _, rfl, by show D.acts ≤ D.acts + 1 + 1; omega, by show D.acts + 1 + 1 ≤ D.acts + 2; omega⟩, ?_⟩
      refine ⟨l1.put' in_l hSF (Nat.le_refl _) (by show D.acts + 1 + 1 < _; omega) _, rfl, ?_, q, a, ts ++ [t], ⟨?_, hT.qm, .inr ⟨S ++ F, (S ++ F).size, aget_aput_same _ _ _, ?_, ?_⟩, ?_, ?_, ?_⟩, ?_, ?_, ?_⟩
      · show aget (aput (aput D.files kLog (S ++ F, n)) kLog (S ++ F, (S ++ F).size)) kNew = none
        rw [aget_aput_other _ _ _ _ ne_ln.symm, aget_aput_other _ _ _ _ ne_ln.symm]
        exact h.new
      · show (aget (aput (aput D.files kLog (S ++ F, n)) kLog (S ++ F, (S ++ F).size)) kSnap = none ∧ _) ∨ _
        rw [aget_aput_other _ _ _ _ ne_ls.symm, aget_aput_other _ _ _ _ ne_ls.symm]
        exact hT.snap
      · rw [bs_app, hb, hFb, hfp, List.append_nil]
      · rw [hfp, List.length_append, size_app, ← bs_len F, hFb]; omega
      · rw [List.length_append]; omega
      · rw [List.length_append, List.length_singleton]; omega
      · rw [hpy]
        intro p hp'
        rcases List.mem_append.1 hp' with h2 | h2
        · exact hT.pays p h2
        · obtain rfl := List.mem_singleton.1 h2; exact hp
      · show st.l ++ [t] = (ts ++ [t]).drop (q + 1 - a)
        rw [List.drop_append_of_le_length (by omega), hl]
      · show st.seq + 1 = a + (ts ++ [t]).length - 1
        rw [List.length_append, List.length_singleton]; omega
      · rw [hfp, List.length_append, List.length_nil]; omega
/-! ### Checkpoint -/
theorem check_out {D : Dk} {st : St} {m : Nat} (h : Calm D st m) (t : Bs) (hp : (payP st.seq t).length ≤ 4096) (ha : D.acts + 4 < 4611686018427387904) :
    ((checkP ⟨st.seq, 0⟩ D t).1 = 0 ∧ (checkP ⟨st.seq, 0⟩ D t).2.1 = ⟨st.seq, 0⟩ ∧ Step 4 D (checkP ⟨st.seq, 0⟩ D t).2.2 ∧ Calm (checkP ⟨st.seq, 0⟩ D t).2.2 (st.check t) 0 ∧ aget (checkP ⟨st.seq, 0⟩ D t).2.2.files kLog = none ∧ (aget (checkP ⟨st.seq, 0⟩ D t).2.2.files kSnap).isSome = true) ∨
    ((checkP ⟨st.seq, 0⟩ D t).1 = 100 ∧ D.armed ≠ 0 ∧ (checkP ⟨st.seq, 0⟩ D t).2.2.off = true ∧ Step 4 D (checkP ⟨st.seq, 0⟩ D t).2.2 ∧ Wreck (checkP ⟨st.seq, 0⟩ D t).2.2.files st (st.check t) m) := by
  obtain ⟨q, a, ts, hT, hl, hs, hsz⟩ := h.holds
  have hnum := hT.num
  have hmost := hT.most
  have hfp := frameP_len (payP st.seq t)
  have hd2 : (numD (2 * (payP st.seq t).length)).length ≤ 2 := numD_len 1 _ (by omega)
  have hfs : (ba (frameP (payP st.seq t))).size ≤ 65536 := by rw [ba_size]; omega
  unfold checkP
  rw [if_neg n00, madeP_ok (by omega) hp]
  dsimp only
  rw [if_neg n00]
  have R := renew_act h.lies h.off h.new in_s ne_sn hfs (by omega)
  have hFb : bs (ba (frameP (payP st.seq t))) = frameP (payP st.seq t) := bs_ba _
  generalize ba (frameP (payP st.seq t)) = F at *
  generalize renewP D kSnap F = R1 at *
  obtain ⟨n1, D1⟩ := R1
  dsimp only at R ⊢
  rcases R with ⟨e, h1, h2, h3, h4⟩ | ⟨e, h2, h3, h4, h5, h6⟩
  · subst e
    rw [if_pos n100]
    exact .inr ⟨rfl, h1, h2, h3.mono (by omega), .inl ⟨[], h.holds.files (h4 _ ne_sn) (h4 _ ne_ln), tail_nil _ _⟩⟩
  · subst e
    rw [if_neg n00]
    have hlog := h6 kLog ne_ln ne_ls
    by_cases hlg : (aget D1.files kLog).isSome = true
    · obtain ⟨f, hf⟩ := Option.isSome_iff_exists.1 hlg
      rw [if_pos hlg]
      have hacts := h3.le
      have hge := h3.ge
      rcases remove_act h2 hf with ⟨e4, h7⟩ | e4
      · rw [e4]
        refine .inr ⟨rfl, by rw [← h3.armed]; exact h7, rfl, ⟨h3.lies.same (by omega) _, h3.armed, by show D.acts ≤ D1.acts + 1; omega, by show D1.acts + 1 ≤ D.acts + 4; omega⟩, .inr ⟨st.seq, a, ts, ⟨.inr ⟨F, h4, hFb, hp⟩, by omega, ?_, ⟨hnum.1, by omega, by omega⟩, hmost, hT.pays⟩, ?_, by show st.seq = _; omega, hsz⟩⟩
        · show (aget D1.files kLog = none ∧ _) ∨ _
          rw [hlog]; exact hT.log
        · show [] = ts.drop (st.seq + 1 - a)
          rw [List.drop_eq_nil_of_le (by omega)]
      · rw [e4]
        have hL : Lies ⟨adel D1.files kLog, D1.acts + 1, D1.armed, false⟩ := h3.lies.del kLog (by omega) _
        refine .inl ⟨rfl, rfl, ⟨hL, h3.armed, by show D.acts ≤ D1.acts + 1; omega, by show D1.acts + 1 ≤ D.acts + 4; omega⟩, ⟨hL, rfl, ?_, st.seq, st.seq + 1, [], ⟨.inr ⟨F, ?_, hFb, hp⟩, by omega, .inl ⟨aget_adel_same _ _, rfl, rfl⟩, ⟨by omega, by omega, by simp⟩, by simp; omega, fun p hp' => by cases hp'⟩, by show [] = _; simp, by show st.seq = _; simp, by simp [paysP, framesP]⟩, aget_adel_same _ _, ?_⟩
        · show aget (adel D1.files kLog) kNew = none
          rw [aget_adel_other _ ne_ln.symm]; exact h5
        · show aget (adel D1.files kLog) kSnap = _
          rw [aget_adel_other _ ne_ls.symm]; exact h4
        · show (aget (adel D1.files kLog) kSnap).isSome = true
          rw [aget_adel_other _ ne_ls.symm, h4]; rfl
    · rw [if_neg hlg]
      have hno : aget D1.files kLog = none := by
        cases hx : aget D1.files kLog with
        | none => rfl
        | some y => rw [hx] at hlg; exact absurd rfl hlg
      exact .inl ⟨rfl, rfl, h3.mono (by omega), ⟨h3.lies, h2, h5, st.seq, st.seq + 1, [], ⟨.inr ⟨F, h4, hFb, hp⟩, by omega, .inl ⟨hno, rfl, rfl⟩, ⟨by omega, by omega, by simp⟩, by simp; omega, fun p hp' => by cases hp'⟩, by show [] = _; simp, by show st.seq = _; simp, by simp [paysP, framesP]⟩, hno, by rw [h4]; rfl⟩
/-! ### Restart -/
def Flat (fs : Fl) : Prop := ∀ f, aget fs kLog = some f → f.2 = f.1.size
theorem take_app (a b : Bs) (k : Nat) (h : a.length ≤ k) : (a ++ b).take k = a ++ b.take (k - a.length) := by
  rw [List.take_append, List.take_of_length_le h]
theorem holds_restart {D : Dk} (hD : D.Ok) (keep : List Int) {st : St} {x : Bs} {m : Nat} (h : Holds D.files st x m) : ∃ y z, y ++ z = x ∧ Holds (D.restart keep).files st y m := by
  obtain ⟨q, a, ts, hT, hl, hs, hsz⟩ := h
  obtain ⟨c1, e1⟩ := restart_aget hD keep kSnap
  obtain ⟨c2, e2⟩ := restart_aget hD keep kLog
  have hsn : aget (D.restart keep).files kSnap = aget D.files kSnap := by
    rw [e1]
    rcases hT.snap with ⟨h1, _⟩ | ⟨s, h1, _⟩
    · rw [h1]; rfl
    · rw [h1]; show some (cutTo (s, s.size) c1) = _; rw [cutTo_synced]
  rcases hT.log with ⟨h1, h2, h3⟩ | ⟨s, n, h1, h2, h3⟩
  · refine ⟨[], x, rfl, q, a, ts, ⟨by rw [hsn]; exact hT.snap, hT.qm, .inl ⟨by rw [e2, h1]; rfl, h2, rfl⟩, hT.num, hT.most, hT.pays⟩, hl, hs, by rw [List.length_nil]; omega⟩
  · have hok := hD.synced _ (aget_mem' h1)
    obtain ⟨k, k1, k2, k3⟩ := cutTo_spec (s, n) hok c2
    dsimp only at k1 k2 k3
    refine ⟨x.take (k - (framesP (paysP a ts)).length), x.drop (k - (framesP (paysP a ts)).length), List.take_append_drop _ _, q, a, ts, ⟨by rw [hsn]; exact hT.snap, hT.qm, .inr ⟨s.extract 0 k, k, by rw [e2, h1]; show some (cutTo (s, n) c2) = _; rw [k3], ?_, by omega⟩, hT.num, hT.most, hT.pays⟩, hl, hs, by rw [List.length_take]; omega⟩
    have : bs (s.extract 0 k) = (bs s).take k := by
      unfold bs
      rw [ByteArray.data_extract, Array.toList_extract, List.extract_eq_take_drop, List.drop_zero, Nat.sub_zero]
    rw [this, h2, take_app _ _ _ (by omega)]
theorem restart_k3 {D : Dk} (h : K3 D.files) (keep : List Int) : K3 (D.restart keep).files := by
  have h3 := refiles_keys keep D.snames D.files D.files.length
  intro p hp
  have : p.1 ∈ D.files.map (·.1) := by rw [← h3]; exact List.mem_map.2 ⟨p, hp, rfl⟩
  obtain ⟨q, hq, e⟩ := List.mem_map.1 this
  rw [← e]; exact h q hq
theorem restart_flat {D : Dk} (hD : D.Ok) (keep : List Int) : Flat (D.restart keep).files := by
  obtain ⟨c, e⟩ := restart_aget hD keep kLog
  intro f hf
  rw [e] at hf
  obtain ⟨g, hg, rfl⟩ := Option.map_eq_some_iff.1 hf
  have hok := hD.synced _ (aget_mem' hg)
  obtain ⟨k, k1, k2, k3⟩ := cutTo_spec g hok c
  rw [k3]
  show k = (g.1.extract 0 k).size
  rw [ByteArray.size_extract]; omega
theorem restart_out {D : Dk} (hD : Lies D) (keep : List Int) {st st' : St} {m : Nat} (h : Wreck D.files st st' m) :
    Lies (D.restart keep) ∧ (D.restart keep).off = false ∧ (D.restart keep).armed = 0 ∧ (D.restart keep).acts = D.acts ∧ Flat (D.restart keep).files ∧ Wreck (D.restart keep).files st st' m := by
  refine ⟨⟨D.restart_ok hD.ok keep, restart_k3 hD.k3 keep⟩, rfl, rfl, rfl, restart_flat hD.ok keep, ?_⟩
  rcases h with ⟨x, h1, h2⟩ | h1
  · obtain ⟨y, z, e, h3⟩ := holds_restart hD.ok keep h1
    exact .inl ⟨y, h3, h2.pre e⟩
  · obtain ⟨y, z, e, h3⟩ := holds_restart hD.ok keep h1
    obtain ⟨rfl, _⟩ := List.append_eq_nil_iff.1 e
    exact .inr h3
theorem Calm.flat {D : Dk} {st : St} {m : Nat} (h : Calm D st m) : Flat D.files := by
  obtain ⟨q, a, ts, hT, hl, hs, hsz⟩ := h.holds
  intro f hf
  have h1 := h.lies.ok.synced _ (aget_mem' hf)
  rcases hT.log with ⟨h2, _⟩ | ⟨s, n, h2, h3, h4⟩
  · rw [h2] at hf; cases hf
  · rw [h2] at hf
    obtain rfl := Option.some.inj hf
    have : s.size = (framesP (paysP a ts)).length := by rw [← bs_len, h3, List.append_nil]
    dsimp only at h1 ⊢
    omega
/-! ### Open -/
def keepL' (q : Int) (xs : List (Int × Bs)) : List (Int × Bs) := xs.filter fun x => decide (q < x.1)
def mendP' (D : Dk) (s : Bs) (used : Nat) (more : Bool) : Int × Dk := if more then renewP D kLog (ba (s.take used)) else (0, D)
/-- An Open behind the cleaning. -/
def openB (D0 : Dk) : OpenR :=
  match snapOf (fileP D0 kSnap) with
  | none => ⟨none, [], [], 110, D0⟩
  | some (q, text) =>
    match logOf q ((fileP D0 kLog).getD []) with
    | none => ⟨none, [], [], 110, D0⟩
    | some (all, used, more) =>
      if (mendP' D0 ((fileP D0 kLog).getD []) used more).1 ≠ 0 then ⟨none, [], [], (mendP' D0 ((fileP D0 kLog).getD []) used more).1, (mendP' D0 ((fileP D0 kLog).getD []) used more).2⟩
      else ⟨some (logSeq q (keepL' q all)), text, (keepL' q all).map (·.2), 0, (mendP' D0 ((fileP D0 kLog).getD []) used more).2⟩
theorem openP_onB {D : Dk} (hoff : D.off = false) : openP D = if (if (aget D.files kNew).isSome then D.remove kNew else (0, D)).1 ≠ 0 then ⟨none, [], [], (if (aget D.files kNew).isSome then D.remove kNew else (0, D)).1, (if (aget D.files kNew).isSome then D.remove kNew else (0, D)).2⟩ else openB (if (aget D.files kNew).isSome then D.remove kNew else (0, D)).2 := by
  unfold openP
  rw [if_neg (by rw [hoff]; simp)]
  rfl
theorem openP_absent {D : Dk} (hoff : D.off = false) (hn : aget D.files kNew = none) : openP D = openB D := by
  rw [openP_onB hoff, hn]
  rfl
theorem openP_present {D : Dk} (hoff : D.off = false) {f : ByteArray × Nat} (hn : aget D.files kNew = some f) : openP D = if (D.remove kNew).1 ≠ 0 then ⟨none, [], [], (D.remove kNew).1, (D.remove kNew).2⟩ else openB (D.remove kNew).2 := by
  rw [openP_onB hoff, hn]
  rfl
theorem Laid.getD {D : Dk} {q : Nat} {text : Bs} {a : Nat} {ts : List Bs} {part : Bs} (h : Laid D q text a ts part) : (fileP D kLog).getD [] = framesP (paysP a ts) ++ part := by
  rcases h.log with ⟨h1, rfl, rfl⟩ | h1
  · rw [h1]; rfl
  · rw [h1]; rfl
theorem openB_at {D0 : Dk} {q : Nat} {text : Bs} {a : Nat} {ts : List Bs} {x : Bs} (h : Laid D0 q text a ts x) :
    openB D0 = if (mendP' D0 (framesP (paysP a ts) ++ x) (framesP (paysP a ts)).length (decide (x ≠ []))).1 ≠ 0 then ⟨none, [], [], (mendP' D0 (framesP (paysP a ts) ++ x) (framesP (paysP a ts)).length (decide (x ≠ []))).1, (mendP' D0 (framesP (paysP a ts) ++ x) (framesP (paysP a ts)).length (decide (x ≠ []))).2⟩
      else ⟨some ((a + ts.length - 1 : Nat) : Int), text, ts.drop (q + 1 - a), 0, (mendP' D0 (framesP (paysP a ts) ++ x) (framesP (paysP a ts)).length (decide (x ≠ []))).2⟩ := by
  unfold openB
  rw [h.snapOf]
  dsimp only
  rw [h.logOf]
  dsimp only
  rw [h.getD]
  have e : keepL' (q : Int) (entsP a ts) = entsP (q + 1) (ts.drop (q + 1 - a)) := h.filter
  rw [e, ents_snd, logSeq_ents, h.last]
theorem openB_out {D0 : Dk} (hD : Lies D0) (hoff : D0.off = false) (hnew : aget D0.files kNew = none) (hf : Flat D0.files) {st st' : St} {m : Nat} (hm : m ≤ 65536) (h : Wreck D0.files st st' m) (ha : D0.acts + 3 < 4611686018427387904) :
    (∃ s D1, (s = st ∨ s = st') ∧ openB D0 = ⟨some (s.seq : Int), s.text, s.l, 0, D1⟩ ∧ Calm D1 s m ∧ Step 3 D0 D1) ∨
    ((openB D0).err = 100 ∧ D0.armed ≠ 0 ∧ (openB D0).disk.off = true ∧ Step 3 D0 (openB D0).disk ∧ Wreck (openB D0).disk.files st st' m) := by
  have whole : ∀ s, (s = st ∨ s = st') → Holds D0.files s [] m → ∃ s D1, (s = st ∨ s = st') ∧ openB D0 = ⟨some (s.seq : Int), s.text, s.l, 0, D1⟩ ∧ Calm D1 s m ∧ Step 3 D0 D1 := by
    intro s hs ⟨q, a, ts, hT, hl, hq, hsz⟩
    refine ⟨s, D0, hs, ?_, ⟨hD, hoff, hnew, q, a, ts, hT, hl, hq, hsz⟩, ⟨hD, rfl, Nat.le_refl _, by omega⟩⟩
    have e := openB_at (hT.laid (.inl rfl))
    have em : mendP' D0 (framesP (paysP a ts) ++ []) (framesP (paysP a ts)).length (decide (([] : Bs) ≠ [])) = (0, D0) := rfl
    rw [em, if_neg n00, ← hl, ← hq] at e
    exact e
  rcases h with ⟨x, h1, h2⟩ | h1
  · rcases h2 x [] (List.append_nil x) with hp | ⟨t, ht, hp4, hq40, hst⟩
    · by_cases hx : x = []
      · subst hx
        exact .inl (whole st (.inl rfl) h1)
      · have h1' := h1
        obtain ⟨q, a, ts, hT, hl, hq, hsz⟩ := h1
        have e := openB_at (hT.laid hp)
        have em : mendP' D0 (framesP (paysP a ts) ++ x) (framesP (paysP a ts)).length (decide (x ≠ [])) = renewP D0 kLog (ba (framesP (paysP a ts))) := by
          unfold mendP'
          rw [if_pos (decide_eq_true hx), List.take_left]
        rw [em] at e
        have R := renew_act hD hoff hnew in_l ne_ln (s := ba (framesP (paysP a ts))) (by rw [ba_size]; omega) ha
        have hFb : bs (ba (framesP (paysP a ts))) = framesP (paysP a ts) := bs_ba _
        have hFs : (ba (framesP (paysP a ts))).size = (framesP (paysP a ts)).length := ba_size _
        generalize ba (framesP (paysP a ts)) = F at *
        generalize renewP D0 kLog F = R1 at *
        obtain ⟨n1, D1⟩ := R1
        dsimp only at R e
        rcases R with ⟨en, r1, r2, r3, r4⟩ | ⟨en, r2, r3, r4, r5, r6⟩
        · subst en
          rw [if_pos n100] at e
          rw [e]
          exact .inr ⟨rfl, r1, r2, r3, .inl ⟨x, h1'.files (r4 _ ne_sn) (r4 _ ne_ln), h2⟩⟩
        · subst en
          rw [if_neg n00, ← hl, ← hq] at e
          refine .inl ⟨st, D1, .inl rfl, e, ⟨r3.lies, r2, r5, q, a, ts, ⟨by rw [r6 _ ne_sn ne_ls.symm]; exact hT.snap, hT.qm, .inr ⟨F, F.size, r4, by rw [hFb, List.append_nil], by omega⟩, hT.num, hT.most, hT.pays⟩, hl, hq, ?_⟩, r3⟩
          have : 0 < x.length := List.length_pos_iff.2 hx
          rw [List.length_nil]; omega
    · subst hst
      refine .inl (whole (st.add t) (.inr rfl) ?_)
      obtain ⟨q, a, ts, hT, hl, hq, hsz⟩ := h1
      have hnum := hT.num
      have hseq : st.seq + 1 = a + ts.length := by omega
      have hpy : paysP a (ts ++ [t]) = paysP a ts ++ [payP (st.seq + 1) t] := by rw [pays_snoc, hseq]
      have hfp : framesP (paysP a (ts ++ [t])) = framesP (paysP a ts) ++ frameP (payP (st.seq + 1) t) := by rw [hpy, frames_snoc]
      rcases hT.log with ⟨g1, g2, g3⟩ | ⟨s, n, g1, g2, g3⟩
      · rw [g3] at ht
        exact absurd ht.symm (frameP_ne _)
      · have hn := hf _ g1
        dsimp only at hn
        have hs2 : s.size = (framesP (paysP a ts) ++ x).length := by rw [← bs_len, g2]
        rw [List.length_append] at hs2
        rw [ht] at g2 hs2 hsz
        refine ⟨q, a, ts ++ [t], ⟨hT.snap, hT.qm, .inr ⟨s, n, g1, by rw [g2, hfp, List.append_nil], by rw [hfp, List.length_append]; omega⟩, ?_, ?_, ?_⟩, ?_, ?_, ?_⟩
        · rw [List.length_append]; omega
        · rw [List.length_append, List.length_singleton]; omega
        · rw [hpy]
          intro p hp'
          rcases List.mem_append.1 hp' with h2 | h2
          · exact hT.pays p h2
          · obtain rfl := List.mem_singleton.1 h2; exact hp4
        · show st.l ++ [t] = (ts ++ [t]).drop (q + 1 - a)
          rw [List.drop_append_of_le_length (by omega), hl]
        · show st.seq + 1 = a + (ts ++ [t]).length - 1
          rw [List.length_append, List.length_singleton]; omega
        · rw [hfp, List.length_append, List.length_nil]; omega
  · exact .inl (whole st' (.inr rfl) h1)
theorem open_out {D : Dk} (hD : Lies D) (hoff : D.off = false) (hf : Flat D.files) {st st' : St} {m : Nat} (hm : m ≤ 65536) (h : Wreck D.files st st' m) (ha : D.acts + 4 < 4611686018427387904) :
    (∃ s D1, (s = st ∨ s = st') ∧ openP D = ⟨some (s.seq : Int), s.text, s.l, 0, D1⟩ ∧ Calm D1 s m ∧ Step 4 D D1) ∨
    ((openP D).err = 100 ∧ D.armed ≠ 0 ∧ (openP D).disk.off = true ∧ Step 4 D (openP D).disk ∧ Wreck (openP D).disk.files st st' m) := by
  cases hn : aget D.files kNew with
  | none =>
    rw [openP_absent hoff hn]
    rcases openB_out hD hoff hn hf hm h (by omega) with ⟨s, D1, h1, h2, h3, h4⟩ | ⟨h1, h2, h3, h4, h5⟩
    · exact .inl ⟨s, D1, h1, h2, h3, h4.mono (by omega)⟩
    · exact .inr ⟨h1, h2, h3, h4.mono (by omega), h5⟩
  | some f =>
    rw [openP_present hoff hn]
    rcases remove_act hoff hn with ⟨e, h1⟩ | e
    · rw [e, if_pos n100]
      exact .inr ⟨rfl, h1, rfl, ⟨hD.same (by omega) _, rfl, by show D.acts ≤ D.acts + 1; omega, by show D.acts + 1 ≤ D.acts + 4; omega⟩, h⟩
    · rw [e, if_neg n00]
      dsimp only
      have hL : Lies ⟨adel D.files kNew, D.acts + 1, D.armed, false⟩ := hD.del kNew (by omega) _
      have hS : Step 1 D ⟨adel D.files kNew, D.acts + 1, D.armed, false⟩ := ⟨hL, rfl, by show D.acts ≤ D.acts + 1; omega, Nat.le_refl _⟩
      rcases openB_out (D0 := ⟨adel D.files kNew, D.acts + 1, D.armed, false⟩) hL rfl (aget_adel_same _ _) (fun f hf' => hf f (by rw [← aget_adel_other D.files ne_ln]; exact hf')) hm (h.files (aget_adel_other _ ne_sn) (aget_adel_other _ ne_ln)) (by show D.acts + 1 + 3 < _; omega) with ⟨s, D1, h1, h2, h3, h4⟩ | ⟨h1, h2, h3, h4, h5⟩
      · exact .inl ⟨s, D1, h1, h2, h3, (hS.trans h4).mono (by omega)⟩
      · exact .inr ⟨h1, h2, h3, (hS.trans h4).mono (by omega), h5⟩
/-- An Open between calls turns nothing. -/
theorem open_calm {D : Dk} {st : St} {m : Nat} (h : Calm D st m) : openP D = ⟨some (st.seq : Int), st.text, st.l, 0, D⟩ := by
  rw [openP_absent h.off h.new]
  obtain ⟨q, a, ts, hT, hl, hq, hsz⟩ := h.holds
  have e := openB_at (hT.laid (.inl rfl))
  have em : mendP' D (framesP (paysP a ts) ++ []) (framesP (paysP a ts)).length (decide (([] : Bs) ≠ [])) = (0, D) := rfl
  rw [em, if_neg n00, ← hl, ← hq] at e
  exact e
theorem calm_new : Calm Dk.new ⟨[], [], 0⟩ 0 :=
  ⟨⟨Dk.new_ok, fun p hp => by cases hp⟩, rfl, rfl, 0, 1, [], ⟨.inl ⟨rfl, rfl, rfl⟩, by omega, .inl ⟨rfl, rfl, rfl⟩, ⟨by omega, by omega, by simp⟩, by simp, fun p hp => by cases hp⟩, rfl, rfl, by simp [paysP, framesP]⟩
end Go.Proofs.YtlmnmjnmilaipaaGreatDoor

/- Layer 7, plainly: a raw network made right, sources in the order that raw numbers say. -/
import Derived.Test.YtlpccebackmahaaLexC
import Derived.Test.YtlpccebackmahaaLexA
set_option linter.unusedVariables false
set_option linter.unusedSimpArgs false
namespace Go.Proofs.Ytlpccebackmahaa

def fitN (N : Int) : Int := 2 + pickOf N 8
def fitEd (M : Int) (e : Ed) : Ed := ⟨pickOf e.f M, if pickOf e.f M = pickOf e.t M then (pickOf e.t M + 1) % M else pickOf e.t M, pickOf e.c 10⟩
def fitE (N : Int) (E : List Ed) : List Ed := (E.take 40).map (fitEd (fitN N))
theorem fitN_range (N : Int) : 2 ≤ fitN N ∧ fitN N ≤ 9 := by
  have := pick_range N 8 (by decide)
  unfold fitN; omega
theorem fitEd_ok {M : Int} (h : 2 ≤ M) (e : Ed) : EdOk M (fitEd M e) := by
  have h1 := pick_range e.f M (by omega)
  have h2 := pick_range e.t M (by omega)
  have h3 := pick_range e.c 10 (by decide)
  unfold fitEd
  refine ⟨h1, ?_, ?_, h3.1, by show pickOf e.c 10 ≤ 1000; omega⟩
  · show 0 ≤ (if pickOf e.f M = pickOf e.t M then (pickOf e.t M + 1) % M else pickOf e.t M) ∧ (if pickOf e.f M = pickOf e.t M then (pickOf e.t M + 1) % M else pickOf e.t M) < M
    split
    · exact ⟨Int.emod_nonneg _ (by omega), Int.emod_lt_of_pos _ (by omega)⟩
    · exact h2
  · show pickOf e.f M ≠ (if pickOf e.f M = pickOf e.t M then (pickOf e.t M + 1) % M else pickOf e.t M)
    split
    · rename_i h4
      rw [h4]
      intro h5
      rcases Int.lt_or_le (pickOf e.t M + 1) M with h6 | h6
      · rw [Int.emod_eq_of_lt (by omega) h6] at h5; omega
      · have : pickOf e.t M + 1 = M := by omega
        rw [this, Int.emod_self] at h5
        omega
    · rename_i h4; exact h4
theorem fitE_len (N : Int) (E : List Ed) : (fitE N E).length ≤ 40 := by unfold fitE; rw [List.length_map, List.length_take]; omega
theorem fit_ok (N : Int) (E : List Ed) : NetOk (fitN N) (fitE N E) := by
  have h := fitN_range N
  have hl := fitE_len N E
  refine ⟨h.1, by omega, by omega, fun e he => ?_⟩
  unfold fitE at he
  obtain ⟨x, _, rfl⟩ := List.mem_map.1 he
  exact fitEd_ok h.1 x
theorem fit_small (N : Int) (E : List Ed) : ∀ e ∈ fitE N E, e.c ≤ 9 := fun e he => by
  unfold fitE at he
  obtain ⟨x, _, rfl⟩ := List.mem_map.1 he
  have := pick_range x.c 10 (by decide)
  show pickOf x.c 10 ≤ 9
  omega

/-- The edges that leave 0. -/
def srcsK (E : List Ed) (k : Nat) : List Int := ((List.range k).filter fun i => (E.getD i default).f == 0).map fun i : Nat => (i : Int)
def srcs (E : List Ed) : List Int := srcsK E E.length
theorem srcsK_succ (E : List Ed) (k : Nat) : srcsK E (k + 1) = srcsK E k ++ (if (E.getD k default).f = 0 then [(k : Int)] else []) := by
  unfold srcsK
  rw [List.range_succ, List.filter_append, List.map_append]
  congr 1
  by_cases h : (E.getD k default).f = 0
  · rw [if_pos h, List.filter_cons_of_pos (by simpa using h)]; rfl
  · rw [if_neg h, List.filter_cons_of_neg (by simpa using h)]; rfl
theorem srcsK_len (E : List Ed) (k : Nat) : (srcsK E k).length ≤ k := by
  unfold srcsK
  rw [List.length_map]
  exact Nat.le_trans (List.length_filter_le _ _) (by simp)
theorem srcs_ok (E : List Ed) : (srcs E).Nodup ∧ ∀ i ∈ srcs E, SrcOk E 0 i := by
  constructor
  · unfold srcs srcsK
    rw [List.nodup_iff_pairwise_ne, List.pairwise_map]
    have h := (List.nodup_range (n := E.length)).sublist (List.filter_sublist (p := fun i => (E.getD i default).f == 0))
    rw [List.nodup_iff_pairwise_ne] at h
    exact h.imp fun {a b} h e => h (by omega)
  · intro i hi
    unfold srcs srcsK at hi
    obtain ⟨j, hj, rfl⟩ := List.mem_map.1 hi
    obtain ⟨h1, h2⟩ := List.mem_filter.1 hj
    exact ⟨by omega, by have := List.mem_range.1 h1; omega, by simpa using h2⟩
/-- Which comes next. -/
def nextK (rest raw : List Int) : Nat := match raw with
  | [] => 0
  | r :: _ => (pickOf r rest.length).toNat
def orderN : Nat → List Int → List Int → List Int
  | 0, _, _ => []
  | n + 1, rest, raw => rest.getD (nextK rest raw) 0 :: orderN n (rest.eraseIdx (nextK rest raw)) raw.tail
def orderL (rest raw : List Int) : List Int := orderN rest.length rest raw
def orderR (E : List Ed) (raw : List Int) : List Int := orderL (srcs E) raw
theorem nextK_lt (rest raw : List Int) (h : 0 < rest.length) : nextK rest raw < rest.length := by
  unfold nextK
  split
  · exact h
  · have := pick_range (by assumption) (rest.length : Int) (by omega)
    omega
theorem orderL_step (rest raw : List Int) (h : 0 < rest.length) : orderL rest raw = rest.getD (nextK rest raw) 0 :: orderL (rest.eraseIdx (nextK rest raw)) raw.tail := by
  have hk := nextK_lt rest raw h
  obtain ⟨n, hn⟩ : ∃ n, rest.length = n + 1 := ⟨rest.length - 1, by omega⟩
  unfold orderL
  rw [List.length_eraseIdx_of_lt hk, hn]
  rfl
theorem orderL_nil (raw : List Int) : orderL [] raw = [] := rfl
theorem orderL_perm : ∀ (n : Nat) (rest raw : List Int), rest.length = n → (orderL rest raw).Perm rest := by
  intro n
  induction n with
  | zero =>
    intro rest raw h
    obtain rfl := List.eq_nil_of_length_eq_zero h
    exact List.Perm.refl _
  | succ n ih =>
    intro rest raw h
    have hk := nextK_lt rest raw (by omega)
    rw [orderL_step rest raw (by omega)]
    have h2 := ih (rest.eraseIdx (nextK rest raw)) raw.tail (by rw [List.length_eraseIdx_of_lt hk]; omega)
    refine (h2.cons _).trans ?_
    rw [List.getD_eq_getElem?_getD, List.getElem?_eq_getElem hk]
    rw [List.eraseIdx_eq_take_drop_succ]
    show (rest[nextK rest raw] :: (rest.take (nextK rest raw) ++ rest.drop (nextK rest raw + 1))).Perm rest
    refine List.perm_middle.symm.trans ?_
    rw [List.getElem_cons_drop hk, List.take_append_drop]
theorem orderR_perm (E : List Ed) (raw : List Int) : (orderR E raw).Perm (srcs E) := orderL_perm _ _ _ rfl
theorem orderR_ok (E : List Ed) (raw : List Int) : (orderR E raw).Nodup ∧ (∀ i ∈ orderR E raw, SrcOk E 0 i) ∧ (orderR E raw).length ≤ E.length := by
  have hp := orderR_perm E raw
  obtain ⟨h1, h2⟩ := srcs_ok E
  exact ⟨hp.nodup_iff.2 h1, fun i hi => h2 i (hp.mem_iff.1 hi), by rw [hp.length_eq]; exact srcsK_len E E.length⟩
/-- Any part of them makes a task that may be. -/
theorem task_of_sub {N : Int} {E : List Ed} (hN : NetOk N E) {o o' : List Int} (h : o'.Sublist o) (ho : o.Nodup ∧ (∀ i ∈ o, SrcOk E 0 i) ∧ o.length ≤ E.length) : TaskOk N E 0 1 o' := by
  have h2 := hN.1
  exact ⟨hN, by omega, by omega, by decide, Nat.le_trans h.length_le ho.2.2, ho.1.sublist h, fun i hi => ho.2.1 i (h.subset hi)⟩
theorem form_of_sub {N : Int} {E : List Ed} (hN : NetOk N E) {o o' : List Int} (h : o'.Sublist o) (ho : o.Nodup ∧ (∀ i ∈ o, SrcOk E 0 i) ∧ o.length ≤ E.length) : FormOk N E 0 1 o' [] :=
  ⟨task_of_sub hN h ho, Nat.zero_le _, fun i hi => absurd hi (Nat.not_lt_zero i)⟩
end Go.Proofs.Ytlpccebackmahaa
/- Layer 7, plainly: what the statements say of flows that are filled. -/
set_option linter.unusedVariables false
set_option linter.unusedSimpArgs false
namespace Go.Proofs.Ytlpccebackmahaa

theorem natsOf_take (o : List Int) (j : Nat) : natsOf (o.take j) = (natsOf o).take j := by unfold natsOf; rw [List.map_take]
theorem natsOf_len (o : List Int) : (natsOf o).length = o.length := by simp [natsOf]
theorem gotR_len (o fl : List Int) : (gotR o fl).length = o.length := by simp [gotR]
theorem Least.congr {E : List Ed} {s t : Int} {A B : List Nat} {m : Int} (h : Least E s t A m) (hAB : ∀ i, i < E.length → (E.getD i default).f = s → (i ∈ A ↔ i ∈ B)) : Least E s t B m := by
  refine ⟨?_, fun S h1 h2 => ?_⟩
  · obtain ⟨S, h1, h2, h3⟩ := h.some
    exact ⟨S, h1, h2, by rw [h3, cutA_congr hAB]⟩
  · rw [← cutA_congr hAB]; exact h.all S h1 h2
/-- What the first j sources have, together. -/
theorem sum_prefix {N : Int} {E : List Ed} {s t : Int} {o : List Int} {ws : List (List (List Int × Int))} (h : FormOk N E s t o ws) (j : Nat) (hj : j ≤ o.length) :
    Least E s t (natsOf (o.take j)) ((gotR o (flowR N E s t o ws)).take j).sum := by
  have := (h.inv o.length (Nat.le_refl _)).sum h.1.lexT j hj
  rw [natsOf_take]
  have e : lsum ((natsOf o).take j) (fun k => (fillN N.toNat E s t (natsOf o) (waysN ws) o.length).getD k 0) = ((gotR o (flowR N E s t o ws)).take j).sum := by
    unfold lsum gotR natsOf flowR
    rw [← List.map_take, ← List.map_take, List.map_map]
    rfl
  rwa [e] at this
theorem sum_all {N : Int} {E : List Ed} {s t : Int} {o : List Int} {ws : List (List (List Int × Int))} (h : FormOk N E s t o ws) : Least E s t (natsOf o) (gotR o (flowR N E s t o ws)).sum := by
  have := sum_prefix h o.length (Nat.le_refl _)
  rwa [List.take_length, List.take_of_length_le (by rw [gotR_len]; exact Nat.le_refl _)] at this
theorem list_of_sums : ∀ {a b : List Int}, a.length = b.length → (∀ j, j ≤ a.length → (a.take j).sum = (b.take j).sum) → a = b := by
  intro a
  induction a with
  | nil => intro b hl _; exact (List.eq_nil_of_length_eq_zero hl.symm).symm
  | cons x a ih =>
    intro b hl h
    rcases b with _ | ⟨y, b⟩
    · simp at hl
    · have h1 := h 1 (by simp)
      simp only [List.take_succ_cons, List.take_zero, List.sum_cons, List.sum_nil] at h1
      obtain rfl : x = y := by omega
      rw [ih (by simpa using hl) (fun j hj => by
        have := h (j + 1) (by simpa using hj)
        simp only [List.take_succ_cons, List.sum_cons] at this
        omega)]
/-- LexGreatest: the Max of what is open. -/
theorem law_greatest {N : Int} {E : List Ed} {s t : Int} {o : List Int} {ws : List (List (List Int × Int))} (h : FormOk N E s t o ws) (j : Nat) (hj : j ≤ o.length) :
    ((gotR o (flowR N E s t o ws)).take j).sum = (push N.toNat (opn E s (natsOf (o.take j))) s t 1073741824 (List.replicate (opn E s (natsOf (o.take j))).length 0)).2 := by
  have h1 := sum_prefix h j hj
  have h2 := max_least h.1.lexT (natsOf (o.take j))
  rw [opn_length]
  exact h1.uniq h2
theorem form_take {N : Int} {E : List Ed} {s t : Int} {o : List Int} (h : FormOk N E s t o []) {o' : List Int} (hs : o'.Sublist o) : FormOk N E s t o' [] :=
  ⟨⟨h.1.1, h.1.2.1, h.1.2.2.1, h.1.2.2.2.1, Nat.le_trans hs.length_le h.1.2.2.2.2.1, h.1.2.2.2.2.2.1.sublist hs, fun i hi => h.1.2.2.2.2.2.2 i (hs.subset hi)⟩, Nat.zero_le _, fun i hi => absurd hi (Nat.not_lt_zero i)⟩
/-- LexFirst: whoever comes last changes nothing. -/
theorem law_ahead {N : Int} {E : List Ed} {s t : Int} {o : List Int} (h : FormOk N E s t o []) (i : Nat) (hi : i < o.length) :
    gotR (o.take (i + 1)) (flowR N E s t (o.take (i + 1)) []) = (gotR o (flowR N E s t o [])).take (i + 1) := by
  have h' := form_take h (List.take_sublist (i + 1) o)
  have hlen : (o.take (i + 1)).length = i + 1 := by rw [List.length_take]; omega
  refine list_of_sums (by rw [gotR_len, List.length_take, List.length_take, gotR_len]) (fun j hj => ?_)
  rw [gotR_len, hlen] at hj
  have h1 := sum_prefix h' j (by omega)
  have h2 := sum_prefix h j (by omega)
  rw [List.take_take, Nat.min_eq_left hj] at h1
  rw [List.take_take, Nat.min_eq_left hj]
  exact h1.uniq h2
/-- .. nobody has more than alone; the first one has just that. -/
theorem law_alone {N : Int} {E : List Ed} {s t : Int} {o : List Int} (h : FormOk N E s t o []) (i : Nat) (hi : i < o.length) :
    ∃ x, gotR [o.getD i 0] (flowR N E s t [o.getD i 0] []) = [x] ∧ (gotR o (flowR N E s t o [])).getD i 0 ≤ x ∧ (i = 0 → x = (gotR o (flowR N E s t o [])).getD 0 0) := by
  have hm : o.getD i 0 ∈ o := by rw [List.getD_eq_getElem?_getD, List.getElem?_eq_getElem hi]; exact List.getElem_mem hi
  have h' := form_take h (List.singleton_sublist.2 hm)
  have hx := sum_all h'
  refine ⟨_, rfl, ?_, ?_⟩
  · have hx2 : Least E s t (natsOf [o.getD i 0]) ((flowR N E s t [o.getD i 0] []).getD (o.getD i 0).toNat 0) := by
      have : (gotR [o.getD i 0] (flowR N E s t [o.getD i 0] [])).sum = (flowR N E s t [o.getD i 0] []).getD (o.getD i 0).toNat 0 := by simp [gotR]
      rwa [this] at hx
    obtain ⟨S, s1, s2, s3⟩ := hx2.some
    show (gotR o (flowR N E s t o [])).getD i 0 ≤ (flowR N E s t [o.getD i 0] []).getD (o.getD i 0).toNat 0
    rw [s3]
    have T := h.1.lexT
    have hf := h.inv o.length (Nat.le_refl _)
    have hp := part_le T.ends T.sv (hf.ok.full (fun i hi => (T.caps i hi).1)) hf.noIn (natsOf [o.getD i 0]) S s1 s2
    refine Int.le_trans (Int.le_of_eq ?_) hp
    rw [partA_sum _ (by simp [natsOf]) (fun k hk => T.src k (by
      simp only [natsOf, List.map_cons, List.map_nil, List.mem_singleton] at hk
      rw [hk]
      exact List.mem_map.2 ⟨_, hm, rfl⟩))]
    simp only [natsOf, List.map_cons, List.map_nil, lsum, List.sum_cons, List.sum_nil, Int.add_zero]
    unfold gotR
    rw [List.getD_eq_getElem?_getD, List.getElem?_map, List.getElem?_eq_getElem hi]
    simp only [Option.map_some, Option.getD_some]
    rw [List.getD_eq_getElem?_getD (l := o), List.getElem?_eq_getElem hi]
    rfl
  · rintro rfl
    have h1 := sum_prefix h 1 (by omega)
    have e1 : o.take 1 = [o.getD 0 0] := by
      rcases o with _ | ⟨a, l⟩
      · simp at hi
      · rfl
    rw [e1] at h1
    have h2 := hx.uniq h1
    have e2 : ((gotR o (flowR N E s t o [])).take 1).sum = (gotR o (flowR N E s t o [])).getD 0 0 := by
      have hl : 0 < (gotR o (flowR N E s t o [])).length := by rw [gotR_len]; exact hi
      generalize gotR o (flowR N E s t o []) = g at hl ⊢
      rcases g with _ | ⟨a, l⟩
      · simp at hl
      · simp
    rw [e2] at h2
    rw [← h2]
    exact (Int.add_zero _).symm
/-- LexTotal. -/
theorem law_total {N : Int} {E : List Ed} {s t : Int} {a b : List Int} {ws vs : List (List (List Int × Int))} (ha : FormOk N E s t a ws) (hb : FormOk N E s t b vs) (hp : a.Perm b) :
    (gotR a (flowR N E s t a ws)).sum = (gotR b (flowR N E s t b vs)).sum := by
  refine (sum_all ha).uniq ((sum_all hb).congr (fun i _ _ => ?_))
  unfold natsOf
  rw [(hp.map Int.toNat).mem_iff]
end Go.Proofs.Ytlpccebackmahaa
/- Layer 7, plainly: LexWider. -/
set_option linter.unusedVariables false
set_option linter.unusedSimpArgs false
namespace Go.Proofs.Ytlpccebackmahaa

/-- The edge k with a Cap greater by d. -/
def widen (E : List Ed) (k : Nat) (d : Int) : List Ed := E.set k { E.getD k default with c := (E.getD k default).c + d }
theorem widen_len (E : List Ed) (k : Nat) (d : Int) : (widen E k d).length = E.length := by simp [widen]
theorem widen_get (E : List Ed) (k : Nat) (d : Int) (hk : k < E.length) (i : Nat) (hi : i < E.length) :
    ((widen E k d).getD i default).f = (E.getD i default).f ∧ ((widen E k d).getD i default).t = (E.getD i default).t ∧ ((widen E k d).getD i default).c = (E.getD i default).c + (if i = k then d else 0) := by
  unfold widen
  by_cases h : i = k
  · subst h
    rw [List.getD_eq_getElem?_getD, List.getElem?_set_self hk, if_pos rfl]
    exact ⟨rfl, rfl, rfl⟩
  · rw [List.getD_eq_getElem?_getD, List.getElem?_set_ne (fun e => h e.symm), if_neg h, ← List.getD_eq_getElem?_getD, Int.add_zero]
    exact ⟨rfl, rfl, rfl⟩
theorem sum_split (l : List Int) (h : 0 < l.length) : (l.take 1).sum = l.getD 0 0 ∧ l.sum = l.getD 0 0 + (l.drop 1).sum := by
  rcases l with _ | ⟨a, l⟩
  · simp at h
  · simp
theorem law_wider {N : Int} {E : List Ed} {s t : Int} {o : List Int} {d : Int} {k : Nat} (h : FormOk N E s t o []) (ho : 0 < o.length) (hk : o.getD 0 0 = (k : Int)) (hd : 0 ≤ d) (hall : ∀ i, i < E.length → (E.getD i default).f = s → (i : Int) ∈ o)
    (h' : FormOk N (widen E k d) s t o []) :
    (gotR o (flowR N E s t o [])).getD 0 0 ≤ (gotR o (flowR N (widen E k d) s t o [])).getD 0 0 ∧
      ((gotR o (flowR N (widen E k d) s t o [])).drop 1).sum ≤ ((gotR o (flowR N E s t o [])).drop 1).sum := by
  have hm : (k : Int) ∈ o := by rw [← hk, List.getD_eq_getElem?_getD, List.getElem?_eq_getElem ho]; exact List.getElem_mem ho
  obtain ⟨_, hkl, hkf⟩ := h.1.2.2.2.2.2.2 _ hm
  have hkl2 : k < E.length := by omega
  rw [Int.toNat_natCast] at hkf
  have T := h.1.lexT
  have e1 : o.take 1 = [(k : Int)] := by
    rcases o with _ | ⟨a, l⟩
    · simp at ho
    · have : a = (k : Int) := hk
      rw [this]; rfl
  have hn : natsOf [(k : Int)] = [k] := by simp [natsOf]
  have p1 := sum_prefix h 1 ho
  have q1 := sum_prefix h' 1 ho
  rw [e1, hn] at p1 q1
  have p2 := sum_all h
  have q2 := sum_all h'
  have g1 : (gotR o (flowR N E s t o [])).length = o.length := gotR_len _ _
  have g2 : (gotR o (flowR N (widen E k d) s t o [])).length = o.length := gotR_len _ _
  generalize gotR o (flowR N E s t o []) = p at *
  generalize gotR o (flowR N (widen E k d) s t o []) = q at *
  obtain ⟨a1, a2⟩ := sum_split p (by omega)
  obtain ⟨b1, b2⟩ := sum_split q (by omega)
  rw [a1] at p1
  rw [b1] at q1
  have hw := wider (N := N.toNat) (A := natsOf o) (widen_len E k d) hkl2 hkf hd (fun i hi hf => List.mem_map.2 ⟨_, hall i hi hf, Int.toNat_natCast i⟩) (fun i hi => (T.caps i hi).1) (fun i hi => widen_get E k d hkl2 i hi) p2 p1 q2 q1
  omega
theorem orderR_all (E : List Ed) (raw : List Int) (i : Nat) (hi : i < E.length) (hf : (E.getD i default).f = 0) : (i : Int) ∈ orderR E raw := by
  rw [(orderR_perm E raw).mem_iff]
  unfold srcs srcsK
  exact List.mem_map.2 ⟨i, List.mem_filter.2 ⟨List.mem_range.2 hi, by simpa using hf⟩, rfl⟩
theorem widen_ok {N : Int} {E : List Ed} {o : List Int} {k : Nat} {d : Int} (h : FormOk N E 0 1 o []) (hc : ∀ e ∈ E, e.c ≤ 9) (hd : 0 ≤ d ∧ d ≤ 900) : FormOk N (widen E k d) 0 1 o [] := by
  by_cases hk : k < E.length
  · refine ⟨⟨⟨h.1.1.1, h.1.1.2.1, by rw [widen_len]; exact h.1.1.2.2.1, fun e he => ?_⟩, h.1.2.1, h.1.2.2.1, h.1.2.2.2.1, by rw [widen_len]; exact h.1.2.2.2.2.1, h.1.2.2.2.2.2.1, fun i hi => ?_⟩, Nat.zero_le _, fun i hi => absurd hi (Nat.not_lt_zero i)⟩
    · obtain ⟨i, hi, rfl⟩ := List.getElem_of_mem he
      have hi2 : i < E.length := by rw [widen_len] at hi; exact hi
      obtain ⟨w1, w2, w3⟩ := widen_get E k d hk i hi2
      rw [List.getD_eq_getElem?_getD, List.getElem?_eq_getElem hi] at w1 w2 w3
      simp only [Option.getD_some] at w1 w2 w3
      have hm : E.getD i default ∈ E := by rw [List.getD_eq_getElem?_getD, List.getElem?_eq_getElem hi2]; exact List.getElem_mem hi2
      obtain ⟨c1, c2, c3, c4, c5⟩ := h.1.1.2.2.2 _ hm
      have := hc _ hm
      refine ⟨by rw [w1]; exact c1, by rw [w2]; exact c2, by rw [w1, w2]; exact c3, ?_, ?_⟩
      · rw [w3]; split <;> omega
      · rw [w3]; split <;> omega
    · obtain ⟨s1, s2, s3⟩ := h.1.2.2.2.2.2.2 i hi
      exact ⟨s1, by rw [widen_len]; exact s2, by rw [(widen_get E k d hk i.toNat (by omega)).1]; exact s3⟩
  · have : widen E k d = E := by unfold widen; exact List.set_eq_of_length_le (by omega)
    rw [this]; exact h
end Go.Proofs.Ytlpccebackmahaa

/- The reference's All, numbered, has walked. -/
import Derived.Test.YtlmnmjnmilaipaaGreatDoorReT
import Derived.Test.YtlmnmjnmilaipaaGreatDoorRkB
import Derived.Deep.RegionWith
set_option linter.unusedVariables false
set_option linter.unusedSimpArgs false
namespace Go.Proofs.YtlmnmjnmilaipaaGreatDoor.Rk
open Go Go.RowKit PR Go.Proofs.YtlmnmjnmilaipaaGreatDoorW.PrintWords

theorem rall_l0 (s : ByteArray) (hs : s.size ≤ 100000) : ∀ (n j k : Nat) (out : List ByteArray), j + n = s.size → n + 1 ≤ k → out.length ≤ j →
    billetref03_All.l0 k s out (j : Int) = some (out ++ (allP (n + 1) ((bs s).drop j)).1.map ba, ((j + (allP (n + 1) ((bs s).drop j)).2.1 : Nat) : Int), (allP (n + 1) ((bs s).drop j)).2.2) := by
  intro n
  induction n using Nat.strongRecOn with
  | _ n ih =>
    intro j k out hj hk ho
    obtain ⟨k, rfl⟩ : ∃ k', k = k' + 1 := ⟨k - 1, by omega⟩
    rw [billetref03_All.l0]
    by_cases hn : n = 0
    · subst hn
      have hd : (bs s).drop j = [] := List.drop_eq_nil_of_le (by rw [bs_len]; omega)
      rw [if_neg (by omega), hd]
      simp [allP]
    · have hdn : (bs s).drop j ≠ [] := fun h => by
        have := congrArg List.length h
        rw [List.length_drop, bs_len, List.length_nil] at this
        omega
      have hex : bs (s.extract j s.size) = (bs s).drop j := bs_extract s j
      have hes : (s.extract j s.size).size = s.size - j := by rw [ByteArray.size_extract]; omega
      have hT : billetref03_Take.f k (s.extract j s.size) = some (ba (takeP ((bs s).drop j)).1, ((takeP ((bs s).drop j)).2.1 : Int), (takeP ((bs s).drop j)).2.2) := by
        unfold billetref03_Take.f
        rw [if_pos (by omega), hex]
      rw [if_pos (by omega), if_pos (by omega), if_pos (by omega), Int.toNat_natCast, hT, Option.bind_some]
      dsimp only
      rw [allP, if_neg hdn]
      by_cases ht : (takeP ((bs s).drop j)).2.2 = 0
      · rw [if_pos ht, if_pos ht, if_pos (by omega)]
        have htl := take_all_len _ ht
        rw [List.length_drop, bs_len] at htl
        generalize hq : (takeP ((bs s).drop j)).2.1 = q at *
        rw [wadd j q (by omega)]
        obtain ⟨n', rfl⟩ : ∃ n', n = n' + q := ⟨n - q, by omega⟩
        have h1 := ih n' (by omega) (j + q) k (out ++ [ba (takeP ((bs s).drop j)).1]) (by omega) (by omega) (by rw [List.length_append, List.length_singleton]; omega)
        rw [h1, List.drop_drop]
        rw [allP_fuel s.size ((bs s).drop (j + q)) (n' + q) (n' + 1) (by rw [List.length_drop, bs_len]; omega) (by rw [List.length_drop, bs_len]; omega) (by rw [List.length_drop, bs_len]; omega)]
        simp [Nat.add_assoc]
      · rw [if_neg ht, if_neg ht]
        simp
theorem rall_any (s : ByteArray) (hs : s.size ≤ 100000) (w : World) : Calls Tryz.prog 82 #[.string s] w fun e w' => ∃ v, e = .returned (.tuple #[v, .int .i64 ((allP (s.size + 1) (bs s)).2.1 : Int), .int .i64 (allP (s.size + 1) (bs s)).2.2]) ∧ Kd.R Kd.string 9 w' w.heap.size (fun _ => True) v ((allP (s.size + 1) (bs s)).1.map ba) ∧ Below w.heap.size w w' :=
  billetref03_All.calls (s.size + 1) s _ _ _ w (by
    have h := rall_l0 s hs s.size 0 (s.size + 1) [] (by omega) (by omega) (Nat.zero_le _)
    rw [List.drop_zero, List.nil_append, Nat.zero_add] at h
    exact h)
theorem RdIs.drewN {w : World} {r : Nat} {s : ByteArray} {bad : Bool} (h : RdIs w r s bad) (n : Nat) : RdIs (w.drewN n) r s bad := h
/-- What numbered hands back. -/
def numbV (s : Bs) : Value := match numbP s with
  | none => .tuple #[.int .i64 0, .string ⟨#[]⟩, .bool false]
  | some x => .tuple #[.int .i64 x.1, .string (ba x.2), .bool true]
set_option maxHeartbeats 4000000 in
set_option maxRecDepth 100000 in
theorem rnumb_any (s : ByteArray) (w : World) (hs : s.size ≤ 900000) :
    Calls Tryz.prog 83 #[.string s] w fun e w' => e = .returned (numbV (bs s)) ∧ Below w.heap.size w w' := by
  have HB := Lib.hid ((Below.refl w.heap.size w).alloc (Nat.le_refl _) (.cells #[.string s, .bool false] 189))
  have HN := rdnum_any _ s _ (RdIs.made w s) (by omega)
  cases hr : readN (bs s) with
  | none =>
    have hv : numbV (bs s) = .tuple #[.int .i64 0, .string ⟨#[]⟩, .bool false] := by unfold numbV numbP; rw [hr]
    have hd : rdN s = (0, s, true) := by unfold rdN; rw [hr]
    rw [hd] at HN
    rw [hv]
    have HN := Lib.hid HN
    clear hv hd hr
    go_enter Tryz.func83, Tryz.ntmps83
    go_wp2_with (first
        | (go_at_call 104; refine (rdnew_any s _).mono ?_; rintro e w1 ⟨rfl, rfl⟩)
        | (go_at_call 105; refine HN.out.mono ?_; rintro e w2 ⟨rfl, h2, o2⟩; have H2 := Lib.hid h2; have B2 := Lib.hid (HB.out.trans (o2.below (by simp) (fun k hk e => by subst e; omega))); clear h2 o2)
        | (go_at_call 106; refine (rdbad_any _ _ _ _ H2.out).mono ?_; rintro e w3 ⟨rfl, rfl⟩))
    go_ret3
    exact ⟨rfl, B2.out⟩
  | some x =>
    obtain ⟨n, k⟩ := x
    have hd : rdN s = (n, s.extract k s.size, false) := by unfold rdN; rw [hr]
    rw [hd] at HN
    have HN := Lib.hid HN
    have hlen := readN_len hr
    rw [bs_len] at hlen
    obtain ⟨hk1, hk2, hk3⟩ := hlen
    have hxs : (s.extract k s.size).size = s.size - k := by rw [ByteArray.size_extract]; omega
    by_cases hin : 0 ≤ n ∧ n ≤ 1099511627776
    · have hv : numbV (bs s) = .tuple #[.int .i64 n, .string (s.extract k s.size), .bool true] := by
        unfold numbV numbP; rw [hr]; dsimp only; rw [if_pos hin]; dsimp only; rw [← bs_extract, ba_bs]
      rw [hv]
      obtain ⟨hin1, hin2⟩ := hin
      obtain ⟨L, hL⟩ : ∃ L, (s.extract k s.size).size = L := ⟨_, rfl⟩
      rw [hL] at hxs
      have hsz : s.size = k + L := by omega
      have hex : s.extract k s.size = s.extract k (k + L) := by rw [hsz]
      have HEX := Lib.hid hex
      clear hxs hv hd hr
      go_enter Tryz.func83, Tryz.ntmps83
      go_wp2_with (first
        | (go_at_call 104; refine (rdnew_any s _).mono ?_; rintro e w1 ⟨rfl, rfl⟩)
        | (go_at_call 105; refine HN.out.mono ?_; rintro e w2 ⟨rfl, h2, o2⟩; have H2 := Lib.hid h2; have B2 := Lib.hid (HB.out.trans (o2.below (by simp) (fun k hk e => by subst e; omega))); clear h2 o2)
        | (go_at_call 106; refine (rdbad_any _ _ _ _ H2.out).mono ?_; rintro e w3 ⟨rfl, rfl⟩)
        | fail)
      go_quiet ((go_at_call 107; exact Calls.quiet_of_same ((left_by (RdIs.drewN H2.out _) hL).mono fun e w' h => ⟨h.1, h.2.symm⟩)))
      go_wp2
      go_ret3
      exact ⟨congrArg Ending.returned (by rw [HEX.out]; rfl), below_drewN B2.out _⟩
    · have hv : numbV (bs s) = .tuple #[.int .i64 0, .string ⟨#[]⟩, .bool false] := by unfold numbV numbP; rw [hr]; dsimp only; rw [if_neg hin]
      rw [hv]
      have hin2 : n < 0 ∨ 1099511627776 < n := by omega
      clear hv hd hr hin
      rcases hin2 with hin2 | hin2
      all_goals go_enter Tryz.func83, Tryz.ntmps83
      all_goals go_wp2_with (first
        | (go_at_call 104; refine (rdnew_any s _).mono ?_; rintro e w1 ⟨rfl, rfl⟩)
        | (go_at_call 105; refine HN.out.mono ?_; rintro e w2 ⟨rfl, h2, o2⟩; have H2 := Lib.hid h2; have B2 := Lib.hid (HB.out.trans (o2.below (by simp) (fun k hk e => by subst e; omega))); clear h2 o2)
        | (go_at_call 106; refine (rdbad_any _ _ _ _ H2.out).mono ?_; rintro e w3 ⟨rfl, rfl⟩))
      all_goals go_ret3
      all_goals exact ⟨rfl, B2.out⟩
/-- The law's own disk, somewhere in memory. -/
def RDk (w : World) (base rb : Nat) (D : Dk) : Prop := ∃ l v, RIs w base rb D l v
theorem snames_any (D : Dk) (nm : ByteArray) : (D.snames.any fun x => decide (x = nm)) = (aget D.files nm).isSome := by
  rw [Bool.eq_iff_iff, List.any_eq_true]
  simp only [decide_eq_true_eq]
  have h1 : (∃ x, x ∈ D.snames ∧ x = nm) ↔ nm ∈ D.files.map (·.1) := by
    constructor
    · rintro ⟨x, hx, rfl⟩; exact (snames_perm D).mem_iff.1 hx
    · intro h; exact ⟨nm, (snames_perm D).mem_iff.2 h, rfl⟩
  rw [h1]
  cases h : aget D.files nm with
  | none => simp only [Option.isSome_none, Bool.false_eq_true, iff_false]; exact aget_none_iff.1 h
  | some z =>
    simp only [Option.isSome_some, iff_true]
    exact List.mem_map.2 ⟨_, aget_mem' h, rfl⟩
theorem Texts.reads' {w : World} {base : Nat} {A : Option Addr} {c : Nat} {ok : Nat → Prop} {l : List ByteArray} (h : Kd.R Kd.string 9 w base ok (.slice A l.length c) l) : l.length ≤ c ∧ Kd.C Kd.string w A l.length l := by
  obtain ⟨A', c', he, hc, hC⟩ := Kd.R_reads h
  injection he with e1 e2 e3
  subst e1; subst e3
  exact ⟨hc, hC⟩
theorem Kd_R_at {w : World} {base e n c : Nat} {A : Option Addr} {ok : Nat → Prop} {l : List ByteArray} (h : Kd.R Kd.string e w base ok (.slice A n c) l) (i : Nat) (hi : i < l.length) : ∃ g, A = some ⟨g, 0, none⟩ ∧ w.cell? ⟨g, i, none⟩ = some (.string (l.getD i ⟨#[]⟩)) := by
  obtain ⟨A', c', he, hc, hC⟩ := Kd.R_reads h
  injection he with e1 e2 e3
  subst e1
  obtain ⟨ad, cs, e, hcs, hK, hat⟩ := Kd.C_get hC ⟨#[]⟩ (i : Int) (by omega) (by omega)
  obtain ⟨inner, hown⟩ := Kd.R_own h
  rcases hown.2 with ⟨hv, hn⟩ | ⟨g, cap, cur, hv, _⟩
  · exact absurd hn (by omega)
  · injection hv with e4
    rw [e] at e4
    injection e4 with e4
    subst e4
    refine ⟨g, e, ?_⟩
    have hk : cs = [.string (l.getD i ⟨#[]⟩)] := hK
    have := hat 0 (.string (l.getD i ⟨#[]⟩)) (by rw [hk]; rfl)
    rw [Int.toNat_natCast, show Kd.string.sz = 1 from rfl, Nat.mul_one, Nat.add_zero] at this
    have e5 : (⟨g, 0, none⟩ : Addr).add i = ⟨g, i, none⟩ := by unfold Addr.add; split <;> simp_all
    rwa [e5] at this
set_option maxHeartbeats 4000000 in
set_option maxRecDepth 100000 in
theorem rhas_any (base rb : Nat) (D : Dk) (nm : ByteArray) (w : World) (h : RDk w base rb D) (hD : D.Ok) :
    Calls Tryz.prog 55 #[.pointer (some ⟨rb, 0, none⟩), .string nm] w fun e w' => e = .returned (.bool (aget D.files nm).isSome) ∧ Below w.heap.size w w' := by
  obtain ⟨l, v, h⟩ := h
  have hlf := h.rel.len hD.nodup
  have hml := hD.many
  have hn := h.rel.names hD.nodup
  have HL := Lib.hid (rlist_any base rb D l v w h (by omega))
  rw [hn] at HL
  rw [← snames_any]
  obtain ⟨xs, hxs⟩ : ∃ xs, D.snames = xs := ⟨_, rfl⟩
  have hxl : l.length = xs.length := by rw [← hxs, ← hn, List.length_map]
  rw [hxs, hxl] at HL
  rw [hxs]
  have hx4 : xs.length ≤ 9 := by omega
  clear hxs hn hlf hml h hD hxl
  go_enter Tryz.func55, Tryz.ntmps55
  go_wp2_with (go_at_call 59; refine HL.out.mono ?_; rintro e w1 ⟨A, c, rfl, hR, hB⟩; have HR := Lib.hid hR; have HB := Lib.hid hB; clear hR hB)
  go_loop [6] (fun i => ∃ k : Nat, k ≤ xs.length ∧ i = .int .i64 k ∧ (xs.take k).any (fun x => decide (x = nm)) = false) (fun i => xs.length - (intOf i).toNat)
  case atStart => exact ⟨0, Nat.zero_le _, rfl, rfl⟩
  case round =>
    obtain ⟨k, hk, rfl, hn⟩ := hrel
    have HN := Lib.hid hn
    clear hn
    by_cases hlt : k < xs.length
    · obtain ⟨bk, rfl, hc⟩ := Kd_R_at HR.out k hlt
      have hxk : xs.take (k + 1) = xs.take k ++ [xs.getD k ⟨#[]⟩] := by
        rw [List.take_succ_eq_append_getElem hlt, List.getD_eq_getElem?_getD, List.getElem?_eq_getElem hlt]; rfl
      have hbk := World.block_lt_of_cell? w1 _ hc
      simp only at hbk
      by_cases e : xs.getD k ⟨#[]⟩ = nm
      · have hany : (xs.any fun x => decide (x = nm)) = true := by
          rw [List.any_eq_true]
          refine ⟨nm, ?_, by simp⟩
          rw [← e, List.getD_eq_getElem?_getD, List.getElem?_eq_getElem hlt]
          exact List.getElem_mem hlt
        have HA := Lib.hid hany
        rw [e] at hc
        clear e hany hxk
        go_wp2
        go_ret
        exact ⟨congrArg Ending.returned (by rw [HA.out]; rfl), HB.out⟩
      · have HS := Lib.hid (show (xs.take (k + 1)).any (fun x => decide (x = nm)) = false by
          rw [hxk, List.any_append, HN.out]; simp only [List.any_cons, List.any_nil, Bool.or_false, Bool.false_or, decide_eq_false_iff_not]; exact e)
        have hb := bytes_ne e
        clear e hxk
        generalize xs.getD k ⟨#[]⟩ = x at *
        go_wp2
        go_round
        case rel => exact ⟨k + 1, by omega, by go_num, HS.out⟩
        case measure => simp [intOf]; omega
    · obtain rfl : k = xs.length := by omega
      have hn := HN.out
      rw [List.take_length] at hn
      have HA := Lib.hid hn
      clear hn
      go_wp2
      go_ret
      exact ⟨congrArg Ending.returned (by rw [HA.out]; rfl), HB.out⟩
end Go.Proofs.YtlmnmjnmilaipaaGreatDoor.Rk
/- The reference's renews, snap walked. -/
set_option linter.unusedVariables false
set_option linter.unusedSimpArgs false
namespace Go.Proofs.YtlmnmjnmilaipaaGreatDoor.Rk
open Go Go.RowKit PR Go.Proofs.YtlmnmjnmilaipaaGreatDoorW.PrintWords

theorem RS.trans {w w1 w2 : World} {base b : Nat} (h : Only (RS w base b) w w1) (k : Only (RS w1 base b) w1 w2) : Only (RS w base b) w w2 :=
  h.trans' k (fun _ _ q => q) (fun i hi q => by
    by_cases hS : RS w base b i
    · exact hS
    · rcases q with q | ⟨q1, cs, q2⟩
      · exact .inl q
      · exact .inr ⟨q1, cs, (h.block i hi hS).symm.trans q2⟩)
theorem RS.below {w w' : World} {base b : Nat} (h : Below w.heap.size w w') : Only (RS w base b) w w' := Only.of_below h
theorem RDk.below {w w' : World} {base rb : Nat} {D : Dk} (h : RDk w base rb D) (hb : Below w.heap.size w w') : RDk w' base rb D := by
  obtain ⟨l, v, h⟩ := h
  exact ⟨l, v, h.only (Only.of_below (S := fun _ => False) hb) (fun x => x) (fun _ _ x => x)⟩
theorem RDk.lt {w : World} {base rb : Nat} {D : Dk} (h : RDk w base rb D) : rb < w.heap.size := by
  obtain ⟨l, v, h⟩ := h; exact h.lt
theorem RDk.le {w : World} {base rb : Nat} {D : Dk} (h : RDk w base rb D) : base ≤ rb := by
  obtain ⟨l, v, h⟩ := h; exact h.le
theorem RDk.c3 {w : World} {base rb : Nat} {D : Dk} (h : RDk w base rb D) : w.cell? ⟨rb, 3, none⟩ = some (.bool D.off) := by
  obtain ⟨l, v, h⟩ := h; exact h.c3
theorem rd_append {w : World} {base rb : Nat} {D : Dk} {nm s : ByteArray} (h : RDk w base rb D) (hD : D.Ok) (hln : nm.size ≤ maxLen) (hls : s.size ≤ maxLen) :
    Calls Tryz.prog 21 #[.pointer (some ⟨rb, 0, none⟩), .string nm, .string s] w fun e w' => e = .returned (.int .i64 (D.append nm s).1) ∧ RDk w' base rb (D.append nm s).2 ∧ Only (RS w base rb) w w' := by
  obtain ⟨l, v, h⟩ := h
  exact rappend_any base rb D l v nm s w h hD hln hls
theorem rd_sync {w : World} {base rb : Nat} {D : Dk} {nm : ByteArray} (h : RDk w base rb D) (hD : D.Ok) :
    Calls Tryz.prog 63 #[.pointer (some ⟨rb, 0, none⟩), .string nm] w fun e w' => e = .returned (.int .i64 (D.sync nm).1) ∧ RDk w' base rb (D.sync nm).2 ∧ Only (RS w base rb) w w' := by
  obtain ⟨l, v, h⟩ := h
  exact rsync_any base rb D l v nm w h hD
theorem rd_remove {w : World} {base rb : Nat} {D : Dk} {nm : ByteArray} (h : RDk w base rb D) (hD : D.Ok) :
    Calls Tryz.prog 56 #[.pointer (some ⟨rb, 0, none⟩), .string nm] w fun e w' => e = .returned (.int .i64 (D.remove nm).1) ∧ RDk w' base rb (D.remove nm).2 ∧ Only (RS w base rb) w w' := by
  obtain ⟨l, v, h⟩ := h
  exact rremove_any base rb D l v nm w h hD
theorem rd_rename {w : World} {base rb : Nat} {D : Dk} {nm tn : ByteArray} (h : RDk w base rb D) (hD : D.Ok) (hln : tn.size ≤ maxLen) :
    Calls Tryz.prog 84 #[.pointer (some ⟨rb, 0, none⟩), .string nm, .string tn] w fun e w' => e = .returned (.int .i64 (D.rename nm tn).1) ∧ RDk w' base rb (D.rename nm tn).2 ∧ Only (RS w base rb) w w' := by
  obtain ⟨l, v, h⟩ := h
  exact rrename_any base rb D l v nm tn w h hD hln
theorem rd_read {w : World} {base rb : Nat} {D : Dk} {nm : ByteArray} (h : RDk w base rb D) :
    Calls Tryz.prog 62 #[.pointer (some ⟨rb, 0, none⟩), .string nm] w fun e w' => e = .returned (.tuple #[.string (D.read nm).1, .int .i64 (D.read nm).2]) ∧ w = w' := by
  obtain ⟨l, v, h⟩ := h
  exact rread_any base rb D l v nm w h
set_option maxHeartbeats 2000000 in
theorem rrenews_any (base rb : Nat) (D : Dk) (nm s : ByteArray) (w : World) (h : RDk w base rb D) (hD : D.Ok) (ha : D.acts + 3 < 4611686018427387904) (hn : nm.size ≤ maxLen) (hs : s.size ≤ maxLen) :
    Calls Tryz.prog 64 #[.pointer (some ⟨rb, 0, none⟩), .string nm, .string s] w fun e w' => e = .returned (.int .i64 (renewP D nm s).1) ∧ RDk w' base rb (renewP D nm s).2 ∧ Only (RS w base rb) w w' := by
  have k1 := Dk.append_ok hD (by omega) kNew s
  have a1 := Dk.append_acts D kNew s
  have A := Lib.hid (rd_append (nm := kNew) h hD (by decide) hs)
  obtain ⟨r1, D1, hr1⟩ : ∃ r1 D1, D.append kNew s = (r1, D1) := ⟨_, _, rfl⟩
  rw [hr1] at A k1 a1
  dsimp only at A k1 a1
  by_cases h1 : r1 ≠ 0
  · have hR : renewP D nm s = (r1, D1) := by unfold renewP; rw [hr1, if_pos h1]
    rw [hR]
    clear hR hr1 k1 a1 h hD
    go_enter Tryz.func64, Tryz.ntmps64
    go_wp2_with (go_at_call 21; refine A.out.mono ?_; rintro e w1 ⟨rfl, h1, o1⟩; have H1 := Lib.hid h1; have O1 := Lib.hid o1; clear h1 o1)
    go_ret
    exact ⟨rfl, H1.out, O1.out⟩
  · have h1 : r1 = 0 := by simpa using h1
    subst h1
    have k2 := Dk.sync_ok k1 (by omega) kNew
    have a2 := Dk.sync_acts D1 kNew
    have B := Lib.hid (fun W (hW : RDk W base rb D1) => rd_sync (nm := kNew) hW k1)
    obtain ⟨r2, D2, hr2⟩ : ∃ r2 D2, D1.sync kNew = (r2, D2) := ⟨_, _, rfl⟩
    rw [hr2] at B k2 a2
    dsimp only at B k2 a2
    by_cases h2 : r2 ≠ 0
    · have hR : renewP D nm s = (r2, D2) := by unfold renewP; rw [hr1]; dsimp only; rw [if_neg (by simp), hr2, if_pos h2]
      rw [hR]
      clear hR hr1 hr2 k1 a1 k2 a2 h hD
      go_enter Tryz.func64, Tryz.ntmps64
      go_wp2_with (first
        | (go_at_call 21; refine A.out.mono ?_; rintro e w1 ⟨rfl, h1, o1⟩; have H1 := Lib.hid h1; have O1 := Lib.hid o1; clear h1 o1)
        | (go_at_call 63; refine (B.out _ H1.out).mono ?_; rintro e w2 ⟨rfl, h2, o2⟩; have H2 := Lib.hid h2; have O2 := Lib.hid (RS.trans O1.out o2); clear h2 o2))
      go_ret
      exact ⟨rfl, H2.out, O2.out⟩
    · have h2 : r2 = 0 := by simpa using h2
      subst h2
      have C := Lib.hid (fun W (hW : RDk W base rb D2) => rd_rename (nm := kNew) (tn := nm) hW k2 hn)
      have hR : renewP D nm s = D2.rename kNew nm := by unfold renewP; rw [hr1]; dsimp only; rw [if_neg (by simp), hr2, if_neg (by simp)]
      rw [hR]
      obtain ⟨r3, D3, hr3⟩ : ∃ r3 D3, D2.rename kNew nm = (r3, D3) := ⟨_, _, rfl⟩
      rw [hr3] at C ⊢
      dsimp only at C ⊢
      clear hR hr1 hr2 hr3 k1 a1 k2 a2 h hD
      go_enter Tryz.func64, Tryz.ntmps64
      go_wp2_with (first
        | (go_at_call 21; refine A.out.mono ?_; rintro e w1 ⟨rfl, h1, o1⟩; have H1 := Lib.hid h1; have O1 := Lib.hid o1; clear h1 o1)
        | (go_at_call 63; refine (B.out _ H1.out).mono ?_; rintro e w2 ⟨rfl, h2, o2⟩; have H2 := Lib.hid h2; have O2 := Lib.hid (RS.trans O1.out o2); clear h2 o2)
        | (go_at_call 84; refine (C.out _ H2.out).mono ?_; rintro e w3 ⟨rfl, h3, o3⟩; have H3 := Lib.hid h3; have O3 := Lib.hid (RS.trans O2.out o3); clear h3 o3))
      go_ret
      exact ⟨rfl, H3.out, O3.out⟩
def snapV (r : Option Ent) : Value := match r with
  | none => .tuple #[.int .i64 0, .string ⟨#[]⟩, .int .i64 110]
  | some x => .tuple #[.int .i64 x.1, .string (ba x.2), .int .i64 0]
theorem parse_one (p : Bs) : (parseP [p]).bind (·.head?) = numbP p := by
  rw [parse_cons']
  cases numbP p <;> rfl
theorem snapOf_some {s : Bs} {ps : List Bs} {u : Nat} {er : Int} (h : allP (s.length + 1) s = (ps, u, er)) : snapOf (some s) = if er = 0 ∧ ps.length = 1 then numbP (ps.getD 0 []) else none := by
  show (if (allP (s.length + 1) s).2.2 = 0 then _ else _) = _
  rw [h]
  dsimp only
  by_cases h1 : er = 0
  · rw [if_pos h1]
    match ps with
    | [] => rw [if_neg (by simp)]
    | [p] => rw [if_pos ⟨h1, rfl⟩]; exact parse_one p
    | p :: q :: t => rw [if_neg (by simp)]
  · rw [if_neg h1, if_neg (fun h => h1 h.1)]
set_option maxHeartbeats 4000000 in
set_option maxRecDepth 100000 in
theorem rsnap_any (base rb : Nat) (D : Dk) (w : World) (h : RDk w base rb D) (hD : D.Ok) (hoff : D.off = false) :
    Calls Tryz.prog 57 #[.pointer (some ⟨rb, 0, none⟩)] w fun e w' => e = .returned (snapV (snapOf (fileP D kSnap))) ∧ Below w.heap.size w w' := by
  have L := Lib.hid (rhas_any base rb D kSnap w h hD)
  cases hg : aget D.files kSnap with
  | none =>
    have e : snapOf (fileP D kSnap) = some ent0 := by unfold fileP; rw [hg]; rfl
    rw [hg, Option.isSome_none] at L
    rw [e]
    clear h hD hoff hg e
    go_enter Tryz.func57, Tryz.ntmps57
    go_wp2_with (go_at_call 55; refine L.out.mono ?_; rintro ev w1 ⟨rfl, hb⟩; have HB := Lib.hid hb; clear hb)
    go_ret3
    exact ⟨rfl, HB.out⟩
  | some f =>
    have hf : fileP D kSnap = some (bs f.1) := by unfold fileP; rw [hg]; rfl
    have hsz : f.1.size ≤ 65536 := hD.bytes _ (aget_mem' hg)
    have hrd : D.read kSnap = (f.1, 0) := by unfold Dk.read; rw [if_neg (by rw [hoff]; simp), hg]
    rw [hg, Option.isSome_some] at L
    rw [hf]
    have RD := Lib.hid (fun W (hW : RDk W base rb D) => rd_read (nm := kSnap) hW)
    rw [hrd] at RD
    dsimp only at RD
    have H0 := Lib.hid h
    clear h hD hoff hg hf hrd
    generalize f.1 = s at *
    obtain ⟨ps, u, er, hal⟩ : ∃ ps u er, allP (s.size + 1) (bs s) = (ps, u, er) := ⟨_, _, _, rfl⟩
    have hal2 := hal
    rw [← bs_len] at hal2
    rw [snapOf_some hal2]
    have A := Lib.hid (fun W => rall_any s (by omega) W)
    rw [hal] at A
    dsimp only at A
    have hpl : ∀ p ∈ ps, p.length ≤ 4096 := fun p hp => all_pay_len (s.size + 1) (bs s) p (by rw [hal]; exact hp)
    have hpm : ps.length ≤ 65536 := by have := all_many (s.size + 1) (bs s); rw [hal, bs_len] at this; exact Nat.le_trans this hsz
    clear hal hal2
    by_cases her : er = 0
    · subst her
      by_cases hl : ps.length = 1
      · rw [if_pos ⟨rfl, hl⟩]
        obtain ⟨p, rfl⟩ := List.length_eq_one_iff.1 hl
        have NB := Lib.hid (fun W => rnumb_any (ba p) W (by rw [ba_size]; have := hpl p (by simp); omega))
        rw [bs_ba] at NB
        show Calls _ _ _ _ fun e w' => e = .returned (snapV (numbP p)) ∧ _
        unfold numbV at NB
        clear hpl hl
        obtain ⟨q, hq⟩ : ∃ q, numbP p = q := ⟨_, rfl⟩
        rw [hq] at NB ⊢
        clear hq
        cases q with
        | none =>
          dsimp only at NB
          go_enter Tryz.func57, Tryz.ntmps57
          go_wp2_with (first
            | (go_at_call 55; refine L.out.mono ?_; rintro ev w1 ⟨rfl, hb⟩; have HB := Lib.hid hb; clear hb)
            | (go_at_call 62; refine (RD.out _ (H0.out.below HB.out)).mono ?_; rintro ev w2 ⟨rfl, rfl⟩)
            | (go_at_call 82; refine (A.out _).mono ?_; rintro ev w3 ⟨v3, rfl, hR, hb⟩; obtain ⟨A3, c3, rfl⟩ := Kd.R_slice hR; obtain ⟨g3, rfl, hc3⟩ := Kd_R_at hR 0 (by simp); have HB3 := Lib.hid (HB.out.trans (hb.mono HB.out.size)); have hl3 := World.block_lt_of_cell? _ _ hc3; clear hR hb)
            | (go_at_call 83; refine (NB.out _).mono ?_; rintro ev w4 ⟨rfl, hb⟩; have HB4 := Lib.hid (HB3.out.trans (hb.mono HB3.out.size)); clear hb))
          go_ret3
          exact ⟨rfl, HB4.out⟩
        | some x =>
          obtain ⟨n, t⟩ := x
          dsimp only at NB
          go_enter Tryz.func57, Tryz.ntmps57
          go_wp2_with (first
            | (go_at_call 55; refine L.out.mono ?_; rintro ev w1 ⟨rfl, hb⟩; have HB := Lib.hid hb; clear hb)
            | (go_at_call 62; refine (RD.out _ (H0.out.below HB.out)).mono ?_; rintro ev w2 ⟨rfl, rfl⟩)
            | (go_at_call 82; refine (A.out _).mono ?_; rintro ev w3 ⟨v3, rfl, hR, hb⟩; obtain ⟨A3, c3, rfl⟩ := Kd.R_slice hR; obtain ⟨g3, rfl, hc3⟩ := Kd_R_at hR 0 (by simp); have HB3 := Lib.hid (HB.out.trans (hb.mono HB.out.size)); have hl3 := World.block_lt_of_cell? _ _ hc3; clear hR hb)
            | (go_at_call 83; refine (NB.out _).mono ?_; rintro ev w4 ⟨rfl, hb⟩; have HB4 := Lib.hid (HB3.out.trans (hb.mono HB3.out.size)); clear hb))
          go_ret3
          exact ⟨rfl, HB4.out⟩
      · rw [if_neg (fun h => hl h.2)]
        have hlm : (ps.map ba).length = ps.length := List.length_map _
        have hl2 : ps.length < 1 ∨ 1 < ps.length := by omega
        have hl3 : ((ps.length : Int) == 1) = false := beq_eq_false_iff_ne.2 (by omega)
        clear hpl hl
        go_enter Tryz.func57, Tryz.ntmps57
        go_wp2_with (first
          | (go_at_call 55; refine L.out.mono ?_; rintro ev w1 ⟨rfl, hb⟩; have HB := Lib.hid hb; clear hb)
          | (go_at_call 62; refine (RD.out _ (H0.out.below HB.out)).mono ?_; rintro ev w2 ⟨rfl, rfl⟩)
          | (go_at_call 82; refine (A.out _).mono ?_; rintro ev w3 ⟨v3, rfl, hR, hb⟩; obtain ⟨A3, c3, rfl⟩ := Kd.R_slice hR; rw [hlm]; have HB3 := Lib.hid (HB.out.trans (hb.mono HB.out.size)); clear hR hb))
        go_ret3
        exact ⟨rfl, HB3.out⟩
    · rw [if_neg (fun h => her h.1)]
      have her2 : (er == 0) = false := beq_eq_false_iff_ne.2 her
      have hlm : (ps.map ba).length = ps.length := List.length_map _
      clear hpl
      go_enter Tryz.func57, Tryz.ntmps57
      go_wp2_with (first
        | (go_at_call 55; refine L.out.mono ?_; rintro ev w1 ⟨rfl, hb⟩; have HB := Lib.hid hb; clear hb)
        | (go_at_call 62; refine (RD.out _ (H0.out.below HB.out)).mono ?_; rintro ev w2 ⟨rfl, rfl⟩)
        | (go_at_call 82; refine (A.out _).mono ?_; rintro ev w3 ⟨v3, rfl, hR, hb⟩; obtain ⟨A3, c3, rfl⟩ := Kd.R_slice hR; rw [hlm]; have HB3 := Lib.hid (HB.out.trans (hb.mono HB.out.size)); clear hR hb))
      go_ret3
      exact ⟨rfl, HB3.out⟩
end Go.Proofs.YtlmnmjnmilaipaaGreatDoor.Rk
/- The reference's log walked. -/
set_option linter.unusedVariables false
set_option linter.unusedSimpArgs false
namespace Go.Proofs.YtlmnmjnmilaipaaGreatDoor.Rk
open Go Go.RowKit PR Go.Proofs.YtlmnmjnmilaipaaGreatDoorW.PrintWords

def firstP (es : List Ent) : Int := (es.head?.map (·.1)).getD 0
def RLogPost (base rb : Nat) (D : Dk) (s : Bs) (R : Option (List Ent × Nat × Bool)) (w : World) (e : Ending) (w' : World) : Prop := match R with
  | none => e = .returned (.tuple #[.int .i64 0, .slice none 0 0, .int .i64 110]) ∧ RDk w' base rb D ∧ Only (RS w base rb) w w'
  | some (all, used, more) => ∃ v, e = .returned (.tuple #[.int .i64 (firstP all), v, .int .i64 (mendP D s used more).1]) ∧ Kd.R Kd.string 9 w' w.heap.size (fun _ => True) v (all.map fun x => ba x.2) ∧ RDk w' base rb (mendP D s used more).2 ∧ Only (RS w base rb) w w'
theorem rlog_none (base rb : Nat) (D : Dk) (q : Nat) (w : World) (h : RDk w base rb D) (hD : D.Ok) (hg : aget D.files kLog = none) :
    Calls Tryz.prog 58 #[.pointer (some ⟨rb, 0, none⟩), .int .i64 (q : Int)] w (RLogPost base rb D [] (logOf q []) w) := by
  have L := Lib.hid (rhas_any base rb D kLog w h hD)
  have e : logOf q [] = some ([], 0, false) := by rfl
  rw [hg, Option.isSome_none] at L
  rw [e]
  have H := Lib.hid h
  clear h hD hg e
  go_enter Tryz.func58, Tryz.ntmps58
  go_wp2_with (go_at_call 55; refine L.out.mono ?_; rintro ev w1 ⟨rfl, hb⟩; have HB := Lib.hid hb; clear hb)
  go_ret3
  exact ⟨_, rfl, Kd.R_nil _ _ _ _ _, H.out.below HB.out, RS.below HB.out⟩
def LRel (q : Nat) (l : List Bs) (w0 : World) (k : Nat) (first : Int) (v : Value) (wr : World) : Prop := ∃ es, LogRel q l k first es ∧ 0 ≤ first ∧ first ≤ 1099511627776 ∧ Kd.R Kd.string 9 wr w0.heap.size (fun j => w0.heap.size ≤ j) v (es.map fun x => ba x.2) ∧ Below w0.heap.size w0 wr
theorem LRel.zero (q : Nat) (l : List Bs) (w : World) : LRel q l w 0 0 (.slice none 0 0) w := ⟨[], LogRel.zero _ _, by omega, by omega, Kd.R_nil _ _ _ _ _, Below.refl _ _⟩
theorem numb_bound {s : Bs} {m : Int} {t : Bs} (h : numbP s = some (m, t)) : 0 ≤ m ∧ m ≤ 1099511627776 := by
  unfold numbP at h
  split at h
  · cases h
  · split at h
    · rename_i hb
      injection h with h
      injection h with h1 h2
      subst h1
      exact hb
    · cases h
theorem rlog_bad {base rb : Nat} {D : Dk} {s : Bs} {R : Option (List Ent × Nat × Bool)} {w w' : World} {e : Ending} (hR : R = none) (he : e = .returned (.tuple #[.int .i64 0, .slice none 0 0, .int .i64 110])) (h : RDk w base rb D) (hb : Below w.heap.size w w') : RLogPost base rb D s R w e w' := by
  subst hR
  exact ⟨he, h.below hb, RS.below hb⟩
theorem LRel.step {q : Nat} {l : List Bs} {w0 w5 : World} {k : Nat} {first m : Int} {t : Bs} {es : List Ent} {v5 : Value} (h : LogRel q l (k + 1) first (es ++ [(m, t)])) (h0 : 0 ≤ first) (h1 : first ≤ 1099511627776)
    (ho : Kd.R Kd.string 9 w5 w0.heap.size (fun j => w0.heap.size ≤ j) v5 ((es.map fun x => ba x.2) ++ [ba t])) (hb : Below w0.heap.size w0 w5) : LRel q l w0 (k + 1) first v5 w5 :=
  ⟨_, h, h0, h1, by rw [List.map_append]; exact ho, hb⟩
theorem rlog_good {base rb : Nat} {D : Dk} {s : Bs} {R : Option (List Ent × Nat × Bool)} {w w' : World} {e : Ending} {es : List Ent} {u : Nat} {n : Int} {v : Value} (hR : R = some (es, u, false)) (hf : n = firstP es) (he : e = .returned (.tuple #[.int .i64 n, v, .int .i64 0]))
    (hv : Kd.R Kd.string 9 w' w.heap.size (fun _ => True) v (es.map fun x => ba x.2)) (h : RDk w' base rb D) (ho : Only (RS w base rb) w w') : RLogPost base rb D s R w e w' := by
  subst hR hf
  exact ⟨v, he, hv, h, ho⟩
theorem rlog_mend {base rb : Nat} {D D' : Dk} {s : Bs} {R : Option (List Ent × Nat × Bool)} {w w' : World} {e : Ending} {es : List Ent} {u : Nat} {n r : Int} {v : Value} (hR : R = some (es, u, true)) (hf : n = firstP es) (hm : mendP D s u true = (r, D')) (he : e = .returned (.tuple #[.int .i64 n, v, .int .i64 r]))
    (hv : Kd.R Kd.string 9 w' w.heap.size (fun _ => True) v (es.map fun x => ba x.2)) (h : RDk w' base rb D') (ho : Only (RS w base rb) w w') : RLogPost base rb D s R w e w' := by
  subst hR hf
  refine ⟨v, ?_, hv, ?_, ho⟩
  · rw [hm]; exact he
  · rw [hm]; exact h
theorem row_RS {w w' : World} {base rb b0 : Nat} {D : Dk} {ok : Nat → Prop} {v : Value} {xs : List ByteArray} (h : Kd.R Kd.string 9 w b0 ok v xs) (hd : RDk w base rb D) (ho : Only (RS w base rb) w w') : Kd.R Kd.string 9 w' b0 ok v xs := by
  obtain ⟨l, u, hd⟩ := hd
  obtain ⟨h0, inner, hown, hr⟩ := h
  refine ⟨h0, inner, ?_, hr⟩
  obtain ⟨e1, h3⟩ := hown
  refine ⟨e1, ?_⟩
  rcases h3 with h3 | ⟨g, cap, cur, rfl, hb, hh, r⟩
  · exact .inl h3
  · refine .inr ⟨g, cap, cur, rfl, hb, (ho.block g (Array.getElem?_eq_some_iff.1 hh).1 ?_).trans hh, r⟩
    rintro (rfl | ⟨_, cs, h5⟩)
    · rw [hd.blk] at hh
      injection hh with hh
      injection hh with _ hh
      exact absurd hh (by decide)
    · rw [h5] at hh
      injection hh with hh
      injection hh with _ hh
      exact absurd hh (by decide)
set_option maxHeartbeats 8000000 in
set_option maxRecDepth 100000 in
theorem rlog_some (base rb : Nat) (D : Dk) (q : Nat) (f : ByteArray × Nat) (w : World) (h : RDk w base rb D) (hD : D.Ok) (ha : D.acts + 3 < 4611686018427387904) (hoff : D.off = false) (hq : q ≤ 1099511627776) (hg : aget D.files kLog = some f) :
    Calls Tryz.prog 58 #[.pointer (some ⟨rb, 0, none⟩), .int .i64 (q : Int)] w (RLogPost base rb D (bs f.1) (logOf q (bs f.1)) w) := by
  have L := Lib.hid (rhas_any base rb D kLog w h hD)
  have hsz : f.1.size ≤ 65536 := hD.bytes _ (aget_mem' hg)
  have hrd : D.read kLog = (f.1, 0) := by unfold Dk.read; rw [if_neg (by rw [hoff]; simp), hg]
  rw [hg, Option.isSome_some] at L
  have RD := Lib.hid (fun W (hW : RDk W base rb D) => rd_read (nm := kLog) hW)
  rw [hrd] at RD
  dsimp only at RD
  have H0 := Lib.hid h
  have RN := Lib.hid (fun u W (hW : RDk W base rb D) => rrenews_any base rb D kLog (f.1.extract 0 u) W hW hD ha (by decide) (by rw [ByteArray.size_extract]; unfold maxLen; omega))
  clear h hD hoff hg hrd
  generalize f.1 = s at *
  obtain ⟨ps, u, er, hal⟩ : ∃ ps u er, allP (s.size + 1) (bs s) = (ps, u, er) := ⟨_, _, _, rfl⟩
  have hal2 := hal
  rw [← bs_len] at hal2
  have A := Lib.hid (fun W => rall_any s (by omega) W)
  rw [hal] at A
  dsimp only at A
  have hpl : ∀ p ∈ ps, p.length ≤ 4096 := fun p hp => all_pay_len (s.size + 1) (bs s) p (by rw [hal]; exact hp)
  have hpm : ps.length ≤ 65536 := by have := all_many (s.size + 1) (bs s); rw [hal, bs_len] at this; exact Nat.le_trans this hsz
  have hlm : (ps.map ba).length = ps.length := List.length_map _
  have HAL := Lib.hid hal2
  have HPL := Lib.hid hpl
  clear hal hal2 hpl
  by_cases h31 : er = 31
  · subst h31
    rw [logOf_no (.inr (.inl (by rw [HAL.out])))]
    go_enter Tryz.func58, Tryz.ntmps58
    go_wp2_with (first
      | (go_at_call 55; refine L.out.mono ?_; rintro ev w1 ⟨rfl, hb⟩; have HB := Lib.hid hb; clear hb)
      | (go_at_call 62; refine (RD.out _ (H0.out.below HB.out)).mono ?_; rintro ev w2 ⟨rfl, rfl⟩)
      | (go_at_call 82; refine (A.out _).mono ?_; rintro ev w3 ⟨v3, rfl, hR, hb⟩; obtain ⟨A3, c3, rfl⟩ := Kd.R_slice hR; rw [hlm]; have HB3 := Lib.hid (HB.out.trans (hb.mono HB.out.size)); clear hR hb))
    go_ret3
    exact ⟨rfl, H0.out.below HB3.out, RS.below HB3.out⟩
  · have hne31 : (er == 31) = false := beq_eq_false_iff_ne.2 h31
    generalize hR : logOf q (bs s) = R
    have HR := Lib.hid hR
    clear hR
    go_enter Tryz.func58, Tryz.ntmps58
    go_wp2_with (first
      | (go_at_call 55; refine L.out.mono ?_; rintro ev w1 ⟨rfl, hb⟩; have HB := Lib.hid hb; clear hb)
      | (go_at_call 62; refine (RD.out _ (H0.out.below HB.out)).mono ?_; rintro ev w2 ⟨rfl, rfl⟩)
      | (go_at_call 82; refine (A.out _).mono ?_; rintro ev w3 ⟨v3, rfl, hR, hb⟩; obtain ⟨A3, c3, rfl⟩ := Kd.R_slice hR; rw [hlm]; have HB3 := Lib.hid (HB.out.trans (hb.mono HB.out.size)); have HR3 := Lib.hid hR; clear hR hb))
    have hb3s := HB3.out.size
    have HUS := Lib.hid (show u ≤ s.size by have := all_used ((bs s).length + 1) (bs s); rw [HAL.out, bs_len] at this; exact this)
    go_loopw [13, 14, 15] (fun fi v i wr => ∃ (k : Nat) (n : Int), i = .int .i64 k ∧ fi = .int .i64 n ∧ LRel q ps w3 k n v wr) (fun _ _ i _ => ps.length - (intOf i).toNat)
    case atStart => exact ⟨0, 0, rfl, rfl, LRel.zero _ _ _⟩
    case round =>
      obtain ⟨k, n, rfl, rfl, hrel⟩ := hrel
      have HREL := Lib.hid hrel
      obtain ⟨es, hlr, hn0, hn1, hrow, hbw⟩ := hrel
      have hes := hlr.len
      have hkl := hlr.kl
      obtain ⟨Av, cv, rfl⟩ := Kd.R_slice hrow
      rw [List.length_map, hes] at hrow ⊢
      have HLR := Lib.hid hlr
      have HROW := Lib.hid hrow
      have HBW := Lib.hid hbw
      have hws := hbw.size
      have HES := Lib.hid (show es.length ≤ 65536 by omega)
      clear hlr hrow hbw hes
      by_cases hlt : k < ps.length
      · obtain ⟨g3, rfl, hc3⟩ := Kd_R_at HR3.out k (by rw [hlm]; exact hlt)
        have hg3 := World.block_lt_of_cell? _ _ hc3
        have hcw := (HBW.out.cell (p := ⟨g3, k, none⟩) hg3).trans hc3
        rw [show (ps.map ba).getD k ⟨#[]⟩ = ba (ps.getD k []) from by rw [List.getD_eq_getElem?_getD, List.getElem?_map, List.getD_eq_getElem?_getD, List.getElem?_eq_getElem hlt]; rfl] at hcw
        have hgw : g3 < wr.heap.size := Nat.lt_of_lt_of_le hg3 hws
        have hpk : (ps.getD k []).length ≤ 4096 := HPL.out _ (by rw [List.getD_eq_getElem?_getD, List.getElem?_eq_getElem hlt]; exact List.getElem_mem hlt)
        have NB := Lib.hid (fun W => rnumb_any (ba (ps.getD k [])) W (by rw [ba_size]; omega))
        rw [bs_ba] at NB
        unfold numbV at NB
        obtain ⟨x, hx⟩ : ∃ x, numbP (ps.getD k []) = x := ⟨_, rfl⟩
        rw [hx] at NB
        clear hc3 hg3 hpk
        generalize ba (ps.getD k []) = p at *
        cases x with
        | none =>
          dsimp only at NB
          have HF := Lib.hid (show R = none by rw [← HR.out]; exact logOf_no (.inl (by rw [HAL.out]; exact HLR.out.no hlt hx)))
          clear hx
          go_wp2_with (go_at_call 83; refine (NB.out _).mono ?_; rintro ev w4 ⟨rfl, hb⟩; have HB4 := Lib.hid (HBW.out.trans (hb.mono hws)); have HRO := Lib.hid (Kd.R_below HROW.out hb); clear hb)
          go_ret3
          exact rlog_bad HF.out rfl H0.out (HB3.out.trans (HB4.out.mono hb3s))
        | some x =>
          obtain ⟨m, t⟩ := x
          dsimp only at NB
          have hmb : 0 ≤ m ∧ m ≤ 1099511627776 := numb_bound hx
          obtain ⟨hm0, hm1⟩ := hmb
          have HBAD := Lib.hid (show ¬ fitsP q k n m → R = none from fun h => by
            rw [← HR.out]
            rcases HLR.out.bad hlt hx h with h2 | h2
            · exact logOf_no (.inl (by rw [HAL.out]; exact h2))
            · exact logOf_no (.inr (.inr (by rw [HAL.out]; exact h2))))
          have HSTEP := Lib.hid (show fitsP q k n m → _ from fun h => HLR.out.step hlt hx h)
          clear hx
          by_cases hk0 : k = 0
          · have hk0a : k ≤ 0 := by omega
            have hfit : fitsP q k n m ↔ 1 ≤ m ∧ m ≤ q + 1 := by unfold fitsP; rw [if_pos hk0]
            have HK0 := Lib.hid hk0
            rw [hfit] at HBAD HSTEP
            rw [if_pos hk0] at HSTEP
            clear hfit hk0
            by_cases hlo : m < 1
            · have HF := Lib.hid (HBAD.out (by omega))
              go_wp2_with (go_at_call 83; refine (NB.out _).mono ?_; rintro ev w4 ⟨rfl, hb⟩; have HB4 := Lib.hid (HBW.out.trans (hb.mono hws)); have HRO := Lib.hid (Kd.R_below HROW.out hb); clear hb)
              go_ret3
              exact rlog_bad HF.out rfl H0.out (HB3.out.trans (HB4.out.mono hb3s))
            · by_cases hhi : (q : Int) + 1 < m
              · have HF := Lib.hid (HBAD.out (by omega))
                go_wp2_with (go_at_call 83; refine (NB.out _).mono ?_; rintro ev w4 ⟨rfl, hb⟩; have HB4 := Lib.hid (HBW.out.trans (hb.mono hws)); have HRO := Lib.hid (Kd.R_below HROW.out hb); clear hb)
                go_ret3
                exact rlog_bad HF.out rfl H0.out (HB3.out.trans (HB4.out.mono hb3s))
              · have HY := Lib.hid (HSTEP.out ⟨by omega, by omega⟩)
                clear HBAD HSTEP
                obtain rfl : k = 0 := HK0.out
                go_wp2_with (first | (go_at_call 83; refine (NB.out _).mono ?_; rintro ev w4 ⟨rfl, hb⟩; have HB4 := Lib.hid (HBW.out.trans (hb.mono hws)); have HRO := Lib.hid (Kd.R_below HROW.out hb); clear hb) | ((with_reducible refine gate_builtin (b := .append) (xs := #[.tmp 84, .tmp 86]) rfl ?_); (try (refine gate_guard (by rfl) ?_; dsimp only)); at_builtin; go_loud (refine Kd.R_append Kd.string (w0 := w3) w3.heap.size rfl (.tmp 84) (.tmp 86) 22 9 (.string ⟨#[]⟩) 16 rfl Tryz.underlying22 infoStr rfl (by decide) (by decide) (.slice Av 0 cv) (es.map fun x => ba x.2) (ba t) [.string (ba t)] (fun j => w3.heap.size ≤ j) (fun _ => False) (by rfl) (by rfl) rfl (fun _ h => h.elim) (fun j hj => Nat.le_trans HB4.out.size hj) HRO.out HB4.out HB4.out.size (by rw [List.length_map]; have := HES.out; omega) ?_; intro v5 w5 ho hb5 hgr _; have HO5 := Lib.hid ho; have HB5 := Lib.hid hb5; clear ho hb5 hgr)))
                go_roundw
                case rel => exact ⟨1, m, by go_num, rfl, LRel.step HY.out hm0 hm1 HO5.out HB5.out⟩
                case measure => simp [intOf]; omega
          · have hk0a : 0 < k := by omega
            have hfit : fitsP q k n m ↔ m = n + k := by unfold fitsP; rw [if_neg hk0]
            rw [hfit] at HBAD HSTEP
            rw [if_neg hk0] at HSTEP
            clear hfit
            by_cases hm : m = n + k
            · have HY := Lib.hid (HSTEP.out hm)
              have t1 : (m == n + (k : Int)) = true := by rw [beq_iff_eq]; exact hm
              have t2 : (m != n + (k : Int)) = false := by rw [bne_eq_false_iff_eq]; exact hm
              have HM := Lib.hid hm
              clear HBAD HSTEP hm
              go_wp2_with (first | (go_at_call 83; refine (NB.out _).mono ?_; rintro ev w4 ⟨rfl, hb⟩; have HB4 := Lib.hid (HBW.out.trans (hb.mono hws)); have HRO := Lib.hid (Kd.R_below HROW.out hb); clear hb) | ((with_reducible refine gate_builtin (b := .append) (xs := #[.tmp 84, .tmp 86]) rfl ?_); (try (refine gate_guard (by rfl) ?_; dsimp only)); at_builtin; go_loud (refine Kd.R_append Kd.string (w0 := w3) w3.heap.size rfl (.tmp 84) (.tmp 86) 22 9 (.string ⟨#[]⟩) 16 rfl Tryz.underlying22 infoStr rfl (by decide) (by decide) (.slice Av k cv) (es.map fun x => ba x.2) (ba t) [.string (ba t)] (fun j => w3.heap.size ≤ j) (fun _ => False) (by rfl) (by rfl) rfl (fun _ h => h.elim) (fun j hj => Nat.le_trans HB4.out.size hj) HRO.out HB4.out HB4.out.size (by rw [List.length_map]; have := HES.out; omega) ?_; intro v5 w5 ho hb5 hgr _; have HO5 := Lib.hid ho; have HB5 := Lib.hid hb5; clear ho hb5 hgr)))
              go_roundw
              case rel => exact ⟨k + 1, n, by go_num, rfl, LRel.step HY.out hn0 hn1 HO5.out HB5.out⟩
              case measure => simp [intOf]; omega
            · have HF := Lib.hid (HBAD.out hm)
              have t1 : (m == n + (k : Int)) = false := by rw [beq_eq_false_iff_ne]; exact hm
              have t2 : (m != n + (k : Int)) = true := by rw [bne_iff_ne]; exact hm
              go_wp2_with (go_at_call 83; refine (NB.out _).mono ?_; rintro ev w4 ⟨rfl, hb⟩; have HB4 := Lib.hid (HBW.out.trans (hb.mono hws)); have HRO := Lib.hid (Kd.R_below HROW.out hb); clear hb)
              go_ret3
              exact rlog_bad HF.out rfl H0.out (HB3.out.trans (HB4.out.mono hb3s))
      · obtain rfl : k = ps.length := by omega
        obtain ⟨q1, q2⟩ := HLR.out.at
        have hf : n = firstP es := HLR.out.first
        have hy := logOf_yes (q := (q : Int)) (s := bs s) (by rw [HAL.out]; exact q1) (by rw [HAL.out]; exact h31) q2
        rw [HAL.out, HR.out] at hy
        dsimp only at hy
        have HBf := Lib.hid (HB3.out.trans (HBW.out.mono hb3s))
        have HRD := Lib.hid (H0.out.below HBf.out)
        have HF := Lib.hid hf
        have HV := Lib.hid (Kd.R_mono (Kd.R_lower HROW.out hb3s) (fun _ _ => trivial))
        by_cases h0 : er = 0
        · have HY := Lib.hid (show R = some (es, u, false) by rw [hy]; simp [h0])
          have t1 : (er == 0) = true := beq_iff_eq.2 h0
          have t2 : (er != 0) = false := bne_eq_false_iff_eq.2 h0
          clear hy hf h0 hne31 h31 q1 q2
          go_wp2
          go_ret3
          exact rlog_good HY.out HF.out rfl HV.out HRD.out (RS.below HBf.out)
        · have HY := Lib.hid (show R = some (es, u, true) by rw [hy]; simp [h0])
          have t1 : (er == 0) = false := beq_eq_false_iff_ne.2 h0
          have t2 : (er != 0) = true := bne_iff_ne.2 h0
          have hus := HUS.out
          have RNu := Lib.hid (RN.out u wr HRD.out)
          have hbe : ba ((bs s).take u) = s.extract 0 u := by rw [← bs_extract0, ba_bs]
          have HM := Lib.hid (show mendP D (bs s) u true = renewP D kLog (s.extract 0 u) by unfold mendP; rw [if_pos rfl, hbe])
          clear hy hf h0 hne31 h31 q1 q2 hbe
          generalize renewP D kLog (s.extract 0 u) = mr at *
          obtain ⟨r, D'⟩ := mr
          dsimp only at RNu
          go_wp2_with (go_at_call 64; refine RNu.out.mono ?_; rintro ev w6 ⟨rfl, hd, ho⟩; have HD6 := Lib.hid hd; have HO6 := Lib.hid ho; clear hd ho)
          go_ret3
          exact rlog_mend HY.out HF.out HM.out rfl (row_RS HV.out HRD.out HO6.out) HD6.out (RS.trans (RS.below HBf.out) HO6.out)
end Go.Proofs.YtlmnmjnmilaipaaGreatDoor.Rk

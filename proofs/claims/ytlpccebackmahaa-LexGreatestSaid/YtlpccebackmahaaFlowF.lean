/- Push: whole. -/
import Derived.Test.YtlpccebackmahaaFlowE
set_option linter.unusedVariables false
set_option linter.unusedSimpArgs false
namespace Go.Proofs.Ytlpccebackmahaa

/-- Push: flow and how much more it is; by fuel. -/
def pushN (N : Nat) (E : List Ed) (s t most : Int) : Nat → List Int → Int → List Int × Int
  | 0, fl, sum => (fl, sum)
  | n + 1, fl, sum => if sum < most then
      match wayOf N E fl s t with
      | none => (fl, sum)
      | some l => pushN N E s t most n (addAll (roomOf E fl l (most - sum)) fl l) (sum + roomOf E fl l (most - sum))
    else (fl, sum)
def push (N : Nat) (E : List Ed) (s t most : Int) (fl : List Int) : List Int × Int := pushN N E s t most most.toNat fl 0
theorem room_step {N : Nat} {E : List Ed} {fl : List Int} {s t most sum : Int} {l : List St} (hE : Ends N E) (hs : 0 ≤ s ∧ s < N) (h : wayOf N E fl s t = some l) (hm : sum < most) : 0 < roomOf E fl l (most - sum) ∧ roomOf E fl l (most - sum) ≤ most - sum ∧ ∀ p ∈ l, roomOf E fl l (most - sum) ≤ roomAt E fl p := by
  have hc := wayOf_chain hE hs h
  obtain ⟨h1, h2⟩ := roomOf_le E fl l (most - sum)
  exact ⟨roomOf_pos E fl l _ (by omega) hc.room, h1, h2⟩
/-- More fuel than is left changes nothing. -/
theorem pushN_fuel {N : Nat} {E : List Ed} {s t most : Int} (hE : Ends N E) (hs : 0 ≤ s ∧ s < N) : ∀ n m fl sum, (most - sum).toNat ≤ n → n ≤ m → pushN N E s t most m fl sum = pushN N E s t most n fl sum := by
  intro n
  induction n with
  | zero =>
    intro m fl sum h1 h2
    have : ¬ sum < most := by omega
    cases m with
    | zero => rfl
    | succ m => unfold pushN; rw [if_neg this]
  | succ n ih =>
    intro m fl sum h1 h2
    obtain ⟨m, rfl⟩ : ∃ m', m = m' + 1 := ⟨m - 1, by omega⟩
    unfold pushN
    split
    · rename_i hlt
      cases hw : wayOf N E fl s t with
      | none => rfl
      | some l =>
        obtain ⟨a, b, _⟩ := room_step hE hs hw hlt
        exact ih m _ _ (by omega) (by omega)
    · rfl
/-- What a Push leaves. -/
structure Pushed (N : Nat) (E : List Ed) (s t most : Int) (fl : List Int) (sum : Int) (r : List Int × Int) : Prop where
  ok : Okf N E r.1 s t
  noIn : NoIn E r.1 s
  grow : ∀ i, i < E.length → (E.getD i default).f = s → fl.getD i 0 ≤ r.1.getD i 0
  val : outF (E.zip r.1) s = outF (E.zip fl) s + (r.2 - sum)
  up : sum ≤ r.2
  le : sum ≤ most → r.2 ≤ most
  last : most ≤ r.2 ∨ wayOf N E r.1 s t = none
theorem pushed {N : Nat} {E : List Ed} {s t most : Int} (hE : Ends N E) (hs : 0 ≤ s ∧ s < N) (hst : s ≠ t) : ∀ n fl sum, (most - sum).toNat ≤ n → Okf N E fl s t → NoIn E fl s → Pushed N E s t most fl sum (pushN N E s t most n fl sum) := by
  intro n
  induction n with
  | zero =>
    intro fl sum h1 h2 h3
    exact ⟨h2, h3, fun _ _ _ => Int.le_refl _, by show _ = _ + (sum - sum); simp [pushN], Int.le_refl _, fun h => h, .inl (by show most ≤ sum; omega)⟩
  | succ n ih =>
    intro fl sum h1 h2 h3
    unfold pushN
    split
    · rename_i hlt
      cases hw : wayOf N E fl s t with
      | none => exact ⟨h2, h3, fun _ _ _ => Int.le_refl _, by show _ = _ + (sum - sum); simp, Int.le_refl _, fun h => h, .inr hw⟩
      | some l =>
        obtain ⟨a, b, c⟩ := room_step hE hs hw hlt
        have hc := wayOf_chain hE hs hw
        dsimp only
        generalize roomOf E fl l (most - sum) = d at *
        obtain ⟨n1, n2⟩ := hc.into h2.len h3 d (by omega)
        have := ih (addAll d fl l) (sum + d) (by omega) (h2.add hc (by omega) c) n1
        refine ⟨this.ok, this.noIn, fun i hi hf => Int.le_trans (n2 i hi hf) (this.grow i hi hf), ?_, ?_, fun _ => this.le (by omega), this.last⟩
        · rw [this.val, hc.value h2.len hst]
          omega
        · have := this.up
          omega
    · exact ⟨h2, h3, fun _ _ _ => Int.le_refl _, by show _ = _ + (sum - sum); simp, Int.le_refl _, fun h => h, .inl (by show most ≤ sum; omega)⟩
/-- A flow that is as great as a cut has no way. -/
theorem no_way_of_cut {N : Nat} {E : List Ed} {fl : List Int} {s t : Int} (hE : Ends N E) (hs : 0 ≤ s ∧ s < N) (hst : s ≠ t) (hf : Okf N E fl s t) (S : Int → Bool) (h1 : S s = true) (h2 : S t = false) (hv : outF (E.zip fl) s = cutF (E.zip fl) S) : wayOf N E fl s t = none := by
  cases hw : wayOf N E fl s t with
  | none => rfl
  | some l =>
    exfalso
    have hc := wayOf_chain hE hs hw
    obtain ⟨a, b, c⟩ := room_step (most := 1) (sum := 0) hE hs hw (by omega)
    have hok := hf.add hc (by omega) c
    have hle := value_le_cut (hok.good hE) hs S h1 h2
    rw [hc.value hf.len hst] at hle
    have e : cutF (E.zip (addAll (roomOf E fl l (1 - 0)) fl l)) S = cutF (E.zip fl) S := by
      have : ∀ (g : List Int), g.length = E.length → cutF (E.zip g) S = lsum E (fun e => if S e.f = true ∧ S e.t = false then e.c else 0) := by
        intro g hg
        unfold cutF lsum
        have : (E.zip g).map (fun p => if S p.1.f = true ∧ S p.1.t = false then p.1.c else 0) = ((E.zip g).map Prod.fst).map (fun e => if S e.f = true ∧ S e.t = false then e.c else 0) := by rw [List.map_map]; rfl
        rw [this, List.map_fst_zip (by omega)]
      rw [this _ hok.len, this _ hf.len]
    omega
end Go.Proofs.Ytlpccebackmahaa

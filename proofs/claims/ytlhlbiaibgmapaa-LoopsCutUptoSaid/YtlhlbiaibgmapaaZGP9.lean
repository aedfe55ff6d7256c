/-
  Plain: what the reference's Reach returns.
-/
import Derived.Test.YtlhlbiaibgmapaaZGP8
set_option linter.unusedSimpArgs false
set_option linter.unusedVariables false
namespace Go.Proofs.Ytlhlbiaibgmapaa
theorem rowR_inv {N : List (List Int)} {skip : Int} {i : Nat} {P : Nat → Prop} (hP : P i → ∀ m ∈ sc N i, m ≠ skip → P m.toNat) : ∀ (l : List Int) (S : Nat → Bool), (∀ m ∈ l, m ∈ sc N i) → (∀ x, S x = true → P x) → ∀ x, rowR skip i S l x = true → P x
  | [], S, _, h, x, hx => h x hx
  | m :: l, S, hl, h, x, hx => by
    refine rowR_inv hP l (if S i = true ∧ m ≠ skip then setS S m.toNat else S) (fun z hz => hl z (by simp [hz])) (fun y hy => ?_) x hx
    split at hy
    · rename_i hc
      unfold setS at hy
      split at hy
      · rename_i e
        rw [e]
        exact hP (h i hc.1) m (hl m (by simp)) hc.2
      · exact h y hy
    · exact h y hy
theorem rnd_inv {N : List (List Int)} {skip : Int} {P : Nat → Prop} (hP : ∀ i, i < N.length → P i → ∀ m ∈ sc N i, m ≠ skip → P m.toNat) {S : Nat → Bool} (h : ∀ x, S x = true → P x) : ∀ (i : Nat), i ≤ N.length → ∀ x, rnd N skip S i x = true → P x
  | 0, _, x, hx => h x hx
  | i + 1, hi, x, hx => rowR_inv (hP i (by omega)) _ _ (fun _ h => h) (rnd_inv hP h i (by omega)) x hx
theorem Clsd.rnd {N : List (List Int)} {skip : Int} {S : Nat → Bool} (h : Clsd N skip S) : Clsd N skip (rnd N skip S N.length) := by
  have e : Go.Proofs.Ytlhlbiaibgmapaa.rnd N skip S N.length = S := by
    funext x
    cases hx : S x with
    | true => exact rnd_le N skip S 0 _ x (Nat.zero_le _) hx
    | false =>
      cases hr : Go.Proofs.Ytlhlbiaibgmapaa.rnd N skip S N.length x with
      | false => rfl
      | true =>
        have := rnd_inv (P := fun x => S x = true) h (fun _ h => h) N.length (Nat.le_refl _) x hr
        rw [hx] at this
        cases this
  rw [e]
  exact h
theorem rnds_clsd {N : List (List Int)} {skip : Int} (hN : NOk N) (S : Nat → Bool) : ∀ r, Clsd N skip (rnds N skip S r) ∨ uns N.length (rnds N skip S r) + r ≤ uns N.length S
  | 0 => .inr (by simp [rnds])
  | r + 1 => by
    rcases rnds_clsd hN S r with h | h
    · exact .inl h.rnd
    · rcases rnd_more hN (rnds N skip S r) with h2 | h2
      · exact .inl h2.rnd
      · right
        rw [rnds]
        omega
theorem rnds_le (N : List (List Int)) (skip : Int) (S : Nat → Bool) : ∀ (r x : Nat), S x = true → rnds N skip S r x = true
  | 0, x, h => h
  | r + 1, x, h => rnd_le N skip _ 0 _ x (Nat.zero_le _) (rnds_le N skip S r x h)
theorem rnds_snd {N : List (List Int)} {skip : Int} (hN : NOk N) {S : Nat → Bool} (h : ∀ x, S x = true → Rc (ED N) skip x) : ∀ (r x : Nat), rnds N skip S r x = true → Rc (ED N) skip x
  | 0, x, hx => h x hx
  | r + 1, x, hx => rnd_snd hN (rnds_snd hN h r) _ x hx
theorem Rc_lt {N : List (List Int)} (hN : NOk N) (h0 : 0 < N.length) {d : Int} {x : Nat} (h : Rc (ED N) d x) : x < N.length := by
  induction h with
  | base => exact h0
  | step _ h2 _ _ => have := (hN.sc h2).2; simpa using this
/-- what Reach returns, in the blocks' numbers -/
def rch (N : List (List Int)) (skip : Int) : Nat → Bool := if skip = 0 then fun _ => false else rnds N skip (setS (fun _ => false) 0) N.length
theorem rch_iff {N : List (List Int)} (hN : NOk N) (h0 : 0 < N.length) (skip : Int) (x : Nat) : rch N skip x = true ↔ Rc (ED N) skip x := by
  unfold rch
  by_cases hs : skip = 0
  · rw [if_pos hs]
    simp only [Bool.false_eq_true, false_iff]
    intro h
    have : ∀ y, Rc (ED N) skip y → False := fun y hy => by
      induction hy with
      | base h => exact h hs.symm
      | step _ _ _ ih => exact ih
    exact this x h
  · rw [if_neg hs]
    have hS0 : ∀ y, setS (fun _ => false) 0 y = true → Rc (ED N) skip y := fun y hy => by
      unfold setS at hy
      split at hy
      · rename_i e; subst e; exact .base (fun e => hs e.symm)
      · cases hy
    constructor
    · exact rnds_snd hN hS0 _ x
    · intro h
      have hc : Clsd N skip (rnds N skip (setS (fun _ => false) 0) N.length) := by
        rcases rnds_clsd hN (setS (fun _ => false) 0) N.length with h | h
        · exact h
        · have h1 : uns N.length (setS (fun _ => false) 0) + 1 ≤ uns N.length (fun _ => false) := uns_set h0 rfl
          rw [uns_none] at h1
          omega
      induction h with
      | base => exact rnds_le N skip _ _ 0 (by simp [setS])
      | step h1 h2 h3 ih => have := hc _ (Rc_lt hN h0 h1) ih _ h2 h3; simpa using this
end Go.Proofs.Ytlhlbiaibgmapaa

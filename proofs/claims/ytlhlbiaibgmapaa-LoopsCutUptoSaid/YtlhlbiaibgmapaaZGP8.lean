/-
  Plain: the rounds of the reference's Reach.
-/
import Derived.Test.YtlhlbiaibgmapaaZGP5
set_option linter.unusedSimpArgs false
set_option linter.unusedVariables false
namespace Go.Proofs.Ytlhlbiaibgmapaa
/-- the edges of one block -/
def rowR (skip : Int) (i : Nat) (S : Nat → Bool) (l : List Int) : Nat → Bool := l.foldl (fun S m => if S i = true ∧ m ≠ skip then setS S m.toNat else S) S
/-- a round, as far as block i -/
def rnd (N : List (List Int)) (skip : Int) (S : Nat → Bool) : Nat → (Nat → Bool)
  | 0 => S
  | i + 1 => rowR skip i (rnd N skip S i) (sc N i)
def rnds (N : List (List Int)) (skip : Int) (S : Nat → Bool) : Nat → (Nat → Bool)
  | 0 => S
  | r + 1 => rnd N skip (rnds N skip S r) N.length
theorem setS_le (S : Nat → Bool) (b : Nat) : ∀ x, S x = true → setS S b x = true := fun x h => by unfold setS; split <;> first | rfl | exact h
theorem rowR_snoc (skip : Int) (i : Nat) (S : Nat → Bool) (l : List Int) (m : Int) : rowR skip i S (l ++ [m]) = if rowR skip i S l i = true ∧ m ≠ skip then setS (rowR skip i S l) m.toNat else rowR skip i S l := by
  unfold rowR
  rw [List.foldl_append]
  rfl
theorem rowR_le (skip : Int) (i : Nat) : ∀ (l : List Int) (S : Nat → Bool) (x : Nat), S x = true → rowR skip i S l x = true
  | [], S, x, h => h
  | m :: l, S, x, h => by
    show rowR skip i (if S i = true ∧ m ≠ skip then setS S m.toNat else S) l x = true
    refine rowR_le skip i l _ x ?_
    split
    · exact setS_le _ _ _ h
    · exact h
theorem rowR_in (skip : Int) (i : Nat) : ∀ (l : List Int) (S : Nat → Bool), S i = true → ∀ m ∈ l, m ≠ skip → rowR skip i S l m.toNat = true
  | [], S, _, m, hm, _ => by cases hm
  | n :: l, S, h, m, hm, hs => by
    show rowR skip i (if S i = true ∧ n ≠ skip then setS S n.toNat else S) l m.toNat = true
    rcases List.mem_cons.1 hm with rfl | hm
    · refine rowR_le skip i l _ _ ?_
      rw [if_pos ⟨h, hs⟩]
      simp [setS]
    · refine rowR_in skip i l _ ?_ m hm hs
      split
      · exact setS_le _ _ _ h
      · exact h
theorem rowR_snd {N : List (List Int)} {skip : Int} {i : Nat} (hN : NOk N) : ∀ (l : List Int) (S : Nat → Bool), (∀ m ∈ l, m ∈ sc N i) → (∀ x, S x = true → Rc (ED N) skip x) → ∀ x, rowR skip i S l x = true → Rc (ED N) skip x
  | [], S, _, h, x, hx => h x hx
  | m :: l, S, hl, h, x, hx => by
    refine rowR_snd hN l (if S i = true ∧ m ≠ skip then setS S m.toNat else S) (fun z hz => hl z (by simp [hz])) (fun y hy => ?_) x hx
    split at hy
    · rename_i hc
      unfold setS at hy
      split at hy
      · rename_i e
        have hm := hl m (by simp)
        have h0 := (hN.sc hm).1
        have e2 : (y : Int) = m := by omega
        exact .step (h i hc.1) (by show (y : Int) ∈ sc N i; rw [e2]; exact hm) (by rw [e2]; exact hc.2)
      · exact h y hy
    · exact h y hy
theorem rnd_le (N : List (List Int)) (skip : Int) (S : Nat → Bool) : ∀ (i j x : Nat), i ≤ j → rnd N skip S i x = true → rnd N skip S j x = true
  | i, 0, x, h, hx => by obtain rfl : i = 0 := by omega
                         exact hx
  | i, j + 1, x, h, hx => by
    by_cases e : i = j + 1
    · subst e; exact hx
    · exact rowR_le skip j _ _ x (rnd_le N skip S i j x (by omega) hx)
theorem rnd_in (N : List (List Int)) (skip : Int) (S : Nat → Bool) {i : Nat} (hi : i < N.length) (hS : S i = true) {m : Int} (hm : m ∈ sc N i) (hs : m ≠ skip) : rnd N skip S N.length m.toNat = true := by
  refine rnd_le N skip S (i + 1) N.length _ (by omega) ?_
  exact rowR_in skip i _ _ (rnd_le N skip S 0 i i (Nat.zero_le _) hS) m hm hs
theorem rnd_snd {N : List (List Int)} {skip : Int} (hN : NOk N) {S : Nat → Bool} (h : ∀ x, S x = true → Rc (ED N) skip x) : ∀ (i x : Nat), rnd N skip S i x = true → Rc (ED N) skip x
  | 0, x, hx => h x hx
  | i + 1, x, hx => rowR_snd hN _ _ (fun _ h => h) (rnd_snd hN h i) x hx
def Clsd (N : List (List Int)) (skip : Int) (S : Nat → Bool) : Prop := ∀ i, i < N.length → S i = true → ∀ m ∈ sc N i, m ≠ skip → S m.toNat = true
/-- a round adds something, or nothing is missing -/
theorem rnd_more {N : List (List Int)} {skip : Int} (hN : NOk N) (S : Nat → Bool) : Clsd N skip S ∨ uns N.length (rnd N skip S N.length) + 1 ≤ uns N.length S := by
  by_cases hc : Clsd N skip S
  · exact .inl hc
  · right
    unfold Clsd at hc
    simp only [Classical.not_forall] at hc
    obtain ⟨i, hi, hS, m, hm, hs, hn⟩ := hc
    have hml := (hN.sc hm).2
    have hmf : S m.toNat = false := by simpa using hn
    have h1 := uns_set hml hmf
    have h2 : uns N.length (rnd N skip S N.length) ≤ uns N.length (setS S m.toNat) := uns_mono fun x hx => by
      unfold setS at hx
      split at hx
      · rename_i e; rw [e]; exact rnd_in N skip S hi hS hm hs
      · exact rnd_le N skip S 0 _ x (Nat.zero_le _) hx
    omega
end Go.Proofs.Ytlhlbiaibgmapaa

/-
  The order of the states of may, in plain terms: what is reached from a state is described by what is reached from a greater one.
-/
import Derived.Test.YtndkadphpbnpeaaZCM5
set_option linter.unusedSimpArgs false
set_option linter.unusedVariables false
namespace Go.Proofs.Ytndkadphpbnpeaa
open Go.W
def LeS (X Z : Option (Int → Option Int)) : Prop := joinS X Z = Z
def LeM (m n : Int → Option Int) : Prop := ∀ k a, m k = some a → ∃ b, n k = some b ∧ b ≤ a
theorem jn_le {a b : Option Int} (h : ∀ x, a = some x → ∃ z, b = some z ∧ z ≤ x) : jn a b = b := by
  cases a with
  | none => rfl
  | some x =>
    obtain ⟨z, rfl, hz⟩ := h x rfl
    simp only [jn, Option.some.injEq]
    omega
theorem joinM_le {m n : Int → Option Int} (h : LeM m n) : joinM m n = n := funext fun k => jn_le (h k)
theorem LeM_of {m n : Int → Option Int} (h : joinM m n = n) : LeM m n := by
  intro k a hk
  have := congrFun h k
  simp only [joinM, hk] at this
  cases hn : n k with
  | none => rw [hn] at this; simp [jn] at this
  | some b => rw [hn] at this; simp only [jn, Option.some.injEq] at this; exact ⟨b, rfl, by omega⟩
theorem LeM_join (m n : Int → Option Int) : LeM m (joinM m n) := by
  intro k a hk
  simp only [joinM, hk]
  cases n k with
  | none => exact ⟨a, rfl, by omega⟩
  | some b => exact ⟨min a b, rfl, by omega⟩
theorem LeS_join (X Y : Option (Int → Option Int)) : LeS X (joinS X Y) := by
  unfold LeS
  cases X with
  | none => rfl
  | some m =>
    cases Y with
    | none => rfl
    | some n => simp only [joinS, Option.bind_some, Option.map_some]; rw [joinM_le (LeM_join m n)]
theorem Bd_join {y : Int} {m n : Int → Option Int} (h : Bd y m) (k : Bd y n) : Bd y (joinM m n) := by
  intro j b hj
  simp only [joinM] at hj
  cases hm : m j with
  | none => rw [hm] at hj; exact k j b hj
  | some a =>
    cases hn : n j with
    | none => rw [hm, hn] at hj; simp only [jn, Option.some.injEq] at hj; subst hj; exact h j a hm
    | some c =>
      have h1 := h j a hm
      have h2 := k j c hn
      rw [hm, hn] at hj; simp only [jn, Option.some.injEq] at hj
      omega
theorem BdS_join {y : Int} {M N : Option (Int → Option Int)} (h : BdS y M) (k : BdS y N) : BdS y (joinS M N) := by
  intro q hq
  cases M with
  | none => simp [joinS] at hq
  | some m =>
    cases N with
    | none => simp [joinS] at hq
    | some n => simp only [joinS, Option.bind_some, Option.map_some, Option.some.injEq] at hq; subst hq; exact Bd_join (h m rfl) (k n rfl)
theorem LeM.acc {s y k : Int} {m n : Int → Option Int} (hm : Bd y m) (hn : Bd y n) (h : LeM m n) : LeM (accM s y m k) (accM s y n k) := by
  intro j a hj
  simp only [accM] at hj ⊢
  split at hj
  · rename_i e
    simp only [Option.some.injEq] at hj
    rw [if_pos e]
    exact ⟨0, rfl, by omega⟩
  · rename_i e
    rw [if_neg e]
    split at hj
    · rename_i e2
      rw [if_pos e2]
      obtain ⟨b1, hb1, hj⟩ := Option.bind_eq_some_iff.1 hj
      obtain ⟨b2, hb2, hle⟩ := h j b1 hb1
      have q1 := hm j b1 hb1
      have q2 := hn j b2 hb2
      have hlim : (n k).getD y ≤ (m k).getD y := by
        cases hk : m k with
        | none =>
          cases hk2 : n k with
          | none => simp
          | some c => have := hn k c hk2; simp; omega
        | some c => obtain ⟨c2, hc2, hle2⟩ := h k c hk; rw [hc2]; simpa using hle2
      rw [hb2, Option.bind_some]
      unfold ageing at hj ⊢
      generalize (m k).getD y = h1 at *
      generalize (n k).getD y = h2 at *
      split at hj
      · simp only [Option.some.injEq] at hj
        split
        · exact ⟨_, rfl, by omega⟩
        · rw [if_neg (by omega)]; exact ⟨_, rfl, by omega⟩
      · split at hj
        · simp at hj
        · simp only [Option.some.injEq] at hj
          split
          · exact ⟨_, rfl, by omega⟩
          · rw [if_neg (by omega)]; exact ⟨_, rfl, by omega⟩
    · rename_i e2
      rw [if_neg e2]
      exact h j a hj
theorem LeM.range {lo c : Int} {m n : Int → Option Int} (h : LeM m n) : LeM (rangeM m lo c) (rangeM n lo c) := by
  intro j a hj
  simp only [rangeM] at hj ⊢
  split at hj
  · rename_i e; rw [if_pos e]; simp only [Option.some.injEq] at hj; exact ⟨0, rfl, by omega⟩
  · rename_i e; rw [if_neg e]; exact h j a hj
theorem LeS.mk {m n : Int → Option Int} (h : LeM m n) : LeS (some m) (some n) := by
  unfold LeS; simp only [joinS, Option.bind_some, Option.map_some]; rw [joinM_le h]
theorem LeS.acc {s y k : Int} {X Z : Option (Int → Option Int)} (hX : BdS y X) (hZ : BdS y Z) (h : LeS X Z) : LeS (accS s y X k) (accS s y Z k) := by
  cases X with
  | none => simp only [LeS, joinS, Option.bind_none] at h; subst h; rfl
  | some m =>
    cases Z with
    | none => rfl
    | some n =>
      have h1 : LeM m n := LeM_of (by simpa [LeS, joinS] using h)
      simp only [accS, Option.map_some]
      split
      · exact LeS.mk h1
      · exact LeS.mk (h1.acc (hX m rfl) (hZ n rfl))
theorem LeS.rng {s y lo hi : Int} {X Z : Option (Int → Option Int)} (hX : BdS y X) (hZ : BdS y Z) (h : LeS X Z) : LeS (rngS s y X lo hi) (rngS s y Z lo hi) := by
  cases X with
  | none => simp only [LeS, joinS, Option.bind_none] at h; subst h; rfl
  | some m =>
    cases Z with
    | none => simp only [rngS, Option.bind_none]; unfold LeS joinS; cases (rngS s y (some m) lo hi) <;> simp [rngS]
    | some n =>
      have h1 : LeM m n := LeM_of (by simpa [LeS, joinS] using h)
      simp only [rngS, Option.bind_some]
      split
      · exact LeS.mk h1
      · split
        · exact LeS.mk (h1.acc (hX m rfl) (hZ n rfl))
        · split
          · rfl
          · exact LeS.mk h1.range
theorem LeS.step {s y lo hi : Int} {X Z : Option (Int → Option Int)} (hX : BdS y X) (hZ : BdS y Z) (h : LeS X Z) : LeS (stepS s y X lo hi) (stepS s y Z lo hi) := by
  unfold stepS; split
  · exact h.acc hX hZ
  · exact h.rng hX hZ
end Go.Proofs.Ytndkadphpbnpeaa

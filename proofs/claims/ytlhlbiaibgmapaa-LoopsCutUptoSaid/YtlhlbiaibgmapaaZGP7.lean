/-
  Plain: following a list ends within its length.
-/
import Derived.Test.YtlhlbiaibgmapaaZGA8
set_option linter.unusedSimpArgs false
set_option linter.unusedVariables false
namespace Go.Proofs.Ytlhlbiaibgmapaa
def ite' (l : List Int) : Nat → Int → Int
  | 0, b => b
  | k + 1, b => ite' l k (l.getD b.toNat 0)
theorem ite'_add (l : List Int) : ∀ (i k : Nat) (b : Int), ite' l (i + k) b = ite' l k (ite' l i b)
  | 0, k, b => by rw [Nat.zero_add]; rfl
  | i + 1, k, b => by rw [show i + 1 + k = (i + k) + 1 by omega, ite', ite', ite'_add l i k]
theorem chn_iff (l : List Int) (a : Int) : ∀ (k : Nat) (b : Int), chn l a k b = true ↔ ∃ j, j < k ∧ (∀ i, i ≤ j → 0 ≤ ite' l i b ∧ ite' l i b < l.length) ∧ ite' l j b = a
  | 0, b => by simp [chn]
  | k + 1, b => by
    rw [chn]
    by_cases h1 : b < 0 ∨ (l.length : Int) ≤ b
    · rw [if_pos h1]
      simp only [Bool.false_eq_true, false_iff]
      rintro ⟨j, hj, h2, _⟩
      have := h2 0 (Nat.zero_le _)
      simp only [ite'] at this
      omega
    · rw [if_neg h1]
      by_cases h2 : a = b
      · rw [if_pos h2]
        simp only [true_iff]
        refine ⟨0, by omega, fun i hi => ?_, by rw [ite', h2]⟩
        obtain rfl : i = 0 := by omega
        simp only [ite']
        omega
      · rw [if_neg h2, chn_iff l a k]
        constructor
        · rintro ⟨j, hj, h3, h4⟩
          refine ⟨j + 1, by omega, fun i hi => ?_, by rw [ite']; exact h4⟩
          cases i with
          | zero => simp only [ite']; omega
          | succ i => rw [ite']; exact h3 i (by omega)
        · rintro ⟨j, hj, h3, h4⟩
          cases j with
          | zero => exact (h2 (by rw [← h4]; rfl)).elim
          | succ j =>
            refine ⟨j, by omega, fun i hi => ?_, by rw [← h4]; rfl⟩
            have := h3 (i + 1) (by omega)
            rw [ite'] at this
            exact this
theorem chn_enough (l : List Int) (a b : Int) : chn l a (l.length + 1) b = chn l a l.length b := by
  rw [Bool.eq_iff_iff, chn_iff, chn_iff]
  constructor
  · rintro ⟨j, hj, h1, h2⟩
    by_cases hjn : j < l.length
    · exact ⟨j, hjn, h1, h2⟩
    · have hjl : j = l.length := by omega
      subst hjl
      -- two places of the way are the same
      have hex : ∃ i i', i < i' ∧ i' ≤ l.length ∧ ite' l i b = ite' l i' b := by
        apply Classical.byContradiction
        intro hno
        have hnd : ((List.range (l.length + 1)).map fun i => (ite' l i b).toNat).Nodup := by
          unfold List.Nodup
          rw [List.pairwise_map]
          refine List.Pairwise.imp_of_mem ?_ List.pairwise_lt_range
          intro x y hx hy hxy e
          have hx' := h1 x (by have := List.mem_range.1 hx; omega)
          have hy' := h1 y (by have := List.mem_range.1 hy; omega)
          exact hno ⟨x, y, hxy, by have := List.mem_range.1 hy; omega, by omega⟩
        have hsub : ∀ x ∈ (List.range (l.length + 1)).map fun i => (ite' l i b).toNat, x ∈ List.range l.length := by
          intro x hx
          obtain ⟨i, hi, rfl⟩ := List.mem_map.1 hx
          have := h1 i (by have := List.mem_range.1 hi; omega)
          exact List.mem_range.2 (by omega)
        have := List.Nodup.length_le_of_subset hnd hsub
        simp only [List.length_map, List.length_range] at this
        omega
      obtain ⟨i, i', hlt, hle, he⟩ := hex
      refine ⟨i + (l.length - i'), by omega, fun x hx => h1 x (by omega), ?_⟩
      rw [ite'_add, he, ← ite'_add, show i' + (l.length - i') = l.length by omega]
      exact h2
  · rintro ⟨j, hj, h1, h2⟩
    exact ⟨j, by omega, h1, h2⟩
end Go.Proofs.Ytlhlbiaibgmapaa

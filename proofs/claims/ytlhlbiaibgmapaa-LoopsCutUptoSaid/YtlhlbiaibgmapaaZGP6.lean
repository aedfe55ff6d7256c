/-
  Plain: the predecessors.
-/
import Derived.Test.YtlhlbiaibgmapaaZGP5
set_option linter.unusedSimpArgs false
set_option linter.unusedVariables false
namespace Go.Proofs.Ytlhlbiaibgmapaa
theorem addP_mem (k : Int) : ∀ (l : List Int) (PL : List (List Int)) (j : Nat) (x : Int), j < PL.length → (x ∈ (addP PL k l).getD j [] ↔ x ∈ PL.getD j [] ∨ (x = k ∧ ∃ m ∈ l, m.toNat = j))
  | [], PL, j, x, _ => by simp [addP]
  | n :: l, PL, j, x, hj => by
    rw [addP, addP_mem k l _ j x (by simpa using hj)]
    by_cases e : n.toNat = j
    · have : (PL.set n.toNat (PL.getD n.toNat [] ++ [k])).getD j [] = PL.getD j [] ++ [k] := by
        rw [List.getD_eq_getElem?_getD, List.getElem?_set, if_pos e, if_pos (by omega)]
        simp [e]
      rw [this, List.mem_append, List.mem_singleton]
      constructor
      · rintro ((h | h) | ⟨h, m, hm, h2⟩)
        · exact .inl h
        · exact .inr ⟨h, n, by simp, e⟩
        · exact .inr ⟨h, m, by simp [hm], h2⟩
      · rintro (h | ⟨h, _⟩)
        · exact .inl (.inl h)
        · exact .inl (.inr h)
    · have : (PL.set n.toNat (PL.getD n.toNat [] ++ [k])).getD j [] = PL.getD j [] := by
        rw [List.getD_eq_getElem?_getD, List.getElem?_set, if_neg e, List.getD_eq_getElem?_getD]
      rw [this]
      constructor
      · rintro (h | ⟨h, m, hm, h2⟩)
        · exact .inl h
        · exact .inr ⟨h, m, by simp [hm], h2⟩
      · rintro (h | ⟨h, m, hm, h2⟩)
        · exact .inl h
        · rcases List.mem_cons.1 hm with rfl | hm
          · exact (e h2).elim
          · exact .inr ⟨h, m, hm, h2⟩
theorem prevs_mem : ∀ (N : List (List Int)) (PL : List (List Int)) (k j : Nat) (x : Int), j < PL.length → (x ∈ (prevs PL k N).getD j [] ↔ x ∈ PL.getD j [] ∨ ∃ i : Nat, i < N.length ∧ x = ((k + i : Nat) : Int) ∧ ∃ m ∈ N.getD i [], m.toNat = j)
  | [], PL, k, j, x, _ => by simp [prevs]
  | l :: N, PL, k, j, x, hj => by
    rw [prevs, prevs_mem N _ (k + 1) j x (by rw [addP_len]; exact hj), addP_mem _ _ _ _ _ hj]
    constructor
    · rintro ((h | ⟨h, m, hm, h2⟩) | ⟨i, hi, h, m, hm, h2⟩)
      · exact .inl h
      · exact .inr ⟨0, by simp, by simpa using h, m, by simpa using hm, h2⟩
      · exact .inr ⟨i + 1, by simp; omega, by rw [h]; congr 1; omega, m, by simpa using hm, h2⟩
    · rintro (h | ⟨i, hi, h, m, hm, h2⟩)
      · exact .inl (.inl h)
      · cases i with
        | zero => exact .inl (.inr ⟨by simpa using h, m, by simpa using hm, h2⟩)
        | succ i => exact .inr ⟨i, by simp at hi; omega, by rw [h]; congr 1; omega, m, by simpa using hm, h2⟩
theorem prevOf_len (N : List (List Int)) : (prevOf N).length = N.length := by unfold prevOf; rw [prevs_len]; simp
/-- the predecessors of a block -/
theorem prevOf_mem {N : List (List Int)} (hN : NOk N) {b : Nat} (hb : b < N.length) (x : Int) : x ∈ (prevOf N).getD b [] ↔ ∃ p : Nat, x = p ∧ p < N.length ∧ ED N p b := by
  unfold prevOf
  rw [prevs_mem N _ 0 b x (by simpa using hb)]
  have h0 : (List.replicate N.length ([] : List Int)).getD b [] = [] := by
    rw [List.getD_eq_getElem?_getD, List.getElem?_replicate, if_pos hb]; rfl
  rw [h0]
  constructor
  · rintro (h | ⟨i, hi, rfl, m, hm, h2⟩)
    · simp at h
    · refine ⟨i, by simp, hi, ?_⟩
      have := (hN.sc (b := i) hm).1
      show (b : Int) ∈ sc N i
      have e : (b : Int) = m := by omega
      rw [e]
      exact hm
  · rintro ⟨p, rfl, hp, he⟩
    exact .inr ⟨p, hp, by simp, b, he, by simp⟩
theorem prevOf_row {N : List (List Int)} (hN : NOk N) {b : Nat} (hb : b < N.length) : ∀ x ∈ (prevOf N).getD b [], 0 ≤ x ∧ x.toNat < N.length := by
  intro x hx
  obtain ⟨p, rfl, hp, _⟩ := (prevOf_mem hN hb x).1 hx
  exact ⟨by omega, by simpa using hp⟩
end Go.Proofs.Ytlhlbiaibgmapaa

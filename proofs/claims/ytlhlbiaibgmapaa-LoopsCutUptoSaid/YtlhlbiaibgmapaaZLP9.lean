/-
  The reference's reaches, plain.
-/
import Derived.Test.YtlhlbiaibgmapaaZLP5
set_option linter.unusedSimpArgs false
set_option linter.unusedVariables false
namespace Go.Proofs.Ytlhlbiaibgmapaa
/-- reaches(next, from, to, without, steps) -/
def rrs (N : List (List Int)) (to wo : Nat) : Nat → Nat → Bool
  | 0, x => decide (x = to)
  | k + 1, x => decide (x = to) || (!decide (x = wo) && (sc N x).any fun y => !decide (y = (wo : Int)) && rrs N to wo k y.toNat)
theorem rrs_succ (N : List (List Int)) (to wo k x : Nat) : rrs N to wo (k + 1) x = (decide (x = to) || (!decide (x = wo) && (sc N x).any fun y => !decide (y = (wo : Int)) && rrs N to wo k y.toNat)) := rfl
theorem rrs_iff {N : List (List Int)} (hN : NOk N) {to wo k x : Nat} : rrs N to wo (k + 1) x = true ↔ x = to ∨ (x ≠ wo ∧ ∃ y, ED N x y ∧ y ≠ wo ∧ rrs N to wo k y = true) := by
  rw [rrs_succ]
  simp only [Bool.or_eq_true, decide_eq_true_eq, Bool.and_eq_true, Bool.not_eq_true', decide_eq_false_iff_not, List.any_eq_true]
  constructor
  · rintro (h | ⟨h1, y, h2, h3, h4⟩)
    · exact .inl h
    · obtain ⟨k1, _⟩ := hN.sc h2
      refine .inr ⟨h1, y.toNat, ?_, by omega, h4⟩
      show ((y.toNat : Nat) : Int) ∈ sc N x
      rw [show ((y.toNat : Nat) : Int) = y by omega]
      exact h2
  · rintro (h | ⟨h1, y, h2, h3, h4⟩)
    · exact .inl h
    · exact .inr ⟨h1, (y : Int), h2, by omega, by simpa using h4⟩
theorem rrs_mono {N : List (List Int)} (hN : NOk N) {to wo : Nat} : ∀ (k x : Nat), rrs N to wo k x = true → rrs N to wo (k + 1) x = true
  | 0, x, h => (rrs_iff hN).2 (.inl (by simpa [rrs] using h))
  | k + 1, x, h => by
    rcases (rrs_iff hN).1 h with h | ⟨h1, y, h2, h3, h4⟩
    · exact (rrs_iff hN).2 (.inl h)
    · exact (rrs_iff hN).2 (.inr ⟨h1, y, h2, h3, rrs_mono hN k y h4⟩)
/-- what is reached at all is reached backward -/
theorem rrs_bw {N : List (List Int)} (hN : NOk N) (h0 : 0 < N.length) {h : Nat} {lt : List Int} {l : Nat} (hl : (l : Int) ∈ lt) : ∀ (k x : Nat), RE N x → x ≠ h → rrs N l h k x = true → Bw N h lt x
  | 0, x, hx, hne, hr => by
    obtain rfl : x = l := by simpa [rrs] using hr
    exact .base hl hne hx
  | k + 1, x, hx, hne, hr => by
    rcases (rrs_iff hN).1 hr with rfl | ⟨_, y, h2, h3, h4⟩
    · exact .base hl hne hx
    · have hy : RE N y := (re_iff hN h0 y).2 (((re_iff hN h0 x).1 hx).step h2 (by omega))
      exact .step (rrs_bw hN h0 hl k y hy h3 h4) h2 hne hx
/-- stable, or one more in each round -/
theorem rrs_round {N : List (List Int)} (hN : NOk N) (to wo : Nat) : ∀ k, (∃ j, j ≤ k ∧ ∀ x, x < N.length → rrs N to wo (j + 1) x = rrs N to wo j x) ∨ uns N.length (rrs N to wo k) + k ≤ N.length
  | 0 => .inr (by
    have h2 := List.length_filter_le (fun i => !rrs N to wo 0 i) (List.range N.length)
    rw [List.length_range] at h2
    unfold uns
    omega)
  | k + 1 => by
    rcases rrs_round hN to wo k with ⟨j, hj, h⟩ | h
    · exact .inl ⟨j, by omega, h⟩
    · by_cases hs : ∀ x, x < N.length → rrs N to wo (k + 1) x = rrs N to wo k x
      · exact .inl ⟨k, by omega, hs⟩
      · right
        obtain ⟨x, hx⟩ := Classical.not_forall.1 hs
        obtain ⟨hx1, hx2⟩ := Classical.not_imp.1 hx
        have h1 : rrs N to wo k x = false := by
          cases hq : rrs N to wo k x with
          | false => rfl
          | true => exact (hx2 (by rw [rrs_mono hN k x hq, hq])).elim
        have h2 : rrs N to wo (k + 1) x = true := by
          cases hq : rrs N to wo (k + 1) x with
          | true => rfl
          | false => exact (hx2 (by rw [hq, h1])).elim
        have h3 := uns_set (n := N.length) (S := rrs N to wo k) hx1 h1
        have h4 : uns N.length (rrs N to wo (k + 1)) ≤ uns N.length (setS (rrs N to wo k) x) := uns_mono fun i hi => by
          unfold setS at hi
          by_cases e : i = x
          · subst e; exact h2
          · rw [if_neg e] at hi; exact rrs_mono hN k i hi
        omega
theorem rrs_stay {N : List (List Int)} (hN : NOk N) {to wo j : Nat} (h : ∀ x, x < N.length → rrs N to wo (j + 1) x = rrs N to wo j x) : ∀ (m x : Nat), x < N.length → rrs N to wo (j + m) x = rrs N to wo j x
  | 0, x, hx => rfl
  | m + 1, x, hx => by
    rw [← h x hx, show j + (m + 1) = (j + m) + 1 by omega, Bool.eq_iff_iff, rrs_iff hN, rrs_iff hN]
    constructor
    · rintro (h1 | ⟨h1, y, h2, h3, h4⟩)
      · exact .inl h1
      · exact .inr ⟨h1, y, h2, h3, by rw [← rrs_stay hN h m y (by have := hN.sc h2; omega)]; exact h4⟩
    · rintro (h1 | ⟨h1, y, h2, h3, h4⟩)
      · exact .inl h1
      · exact .inr ⟨h1, y, h2, h3, by rw [rrs_stay hN h m y (by have := hN.sc h2; omega)]; exact h4⟩
theorem rrs_clo {N : List (List Int)} (hN : NOk N) {to wo x y : Nat} (hx : x < N.length) (hne : x ≠ wo) (hE : ED N x y) (hy : y ≠ wo) (hr : rrs N to wo N.length y = true) : rrs N to wo N.length x = true := by
  have hup : rrs N to wo (N.length + 1) x = true := (rrs_iff hN).2 (.inr ⟨hne, y, hE, hy, hr⟩)
  rcases rrs_round hN to wo N.length with ⟨j, hj, h⟩ | h
  · have h1 := rrs_stay hN h (N.length + 1 - j) x hx
    have h2 := rrs_stay hN h (N.length - j) x hx
    rw [show j + (N.length + 1 - j) = N.length + 1 by omega] at h1
    rw [show j + (N.length - j) = N.length by omega] at h2
    rw [h2, ← h1]
    exact hup
  · cases hq : rrs N to wo N.length x with
    | true => rfl
    | false =>
      have := uns_pos (n := N.length) (S := rrs N to wo N.length) hx hq
      omega
theorem bw_rrs {N : List (List Int)} (hN : NOk N) (h0 : 0 < N.length) {h : Nat} {lt : List Int} {x : Nat} (hb : Bw N h lt x) : ∃ l : Nat, (l : Int) ∈ lt ∧ rrs N l h N.length x = true := by
  induction hb with
  | @base l hl hne hr =>
    refine ⟨l, hl, ?_⟩
    obtain ⟨n, hn⟩ : ∃ n, N.length = n + 1 := ⟨N.length - 1, by omega⟩
    rw [hn]
    exact (rrs_iff hN).2 (.inl rfl)
  | @step b p hb hE hne hr ih =>
    obtain ⟨l, hl, h1⟩ := ih
    exact ⟨l, hl, rrs_clo hN (RE.lt hN h0 hr) hne hE hb.ne h1⟩
end Go.Proofs.Ytlhlbiaibgmapaa

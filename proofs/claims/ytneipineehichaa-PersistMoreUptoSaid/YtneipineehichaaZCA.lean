/-
  The cache's geometry: isPower, Valid, Line, Set.
-/
import Derived.Test.YtneipineehichaaZF
set_option linter.unusedSimpArgs false
set_option linter.unusedVariables false
namespace Go.Proofs.Ytneipineehichaa
open Go.W
def isP2 (n lim : Int) : Bool := decide (n ≤ lim) && (n == 1 || n == 2 || n == 4 || n == 8 || n == 16 || n == 32 || n == 64)
theorem isP2_and : ∀ m : Fin 65, 1 ≤ m.val → (andI .i64 (m.val : Int) ((m.val : Int) - 1) = 0 ↔ (m.val = 1 ∨ m.val = 2 ∨ m.val = 4 ∨ m.val = 8 ∨ m.val = 16 ∨ m.val = 32 ∨ m.val = 64)) := by
  decide
theorem isP2_spec (n lim : Int) (h1 : 1 ≤ n) (h2 : n ≤ lim) (hl : lim ≤ 64) : decide (andI .i64 n (n - 1) = 0) = isP2 n lim := by
  obtain ⟨m, rfl⟩ := Int.eq_ofNat_of_zero_le (show 0 ≤ n by omega)
  have := isP2_and ⟨m, by omega⟩ (by simp only []; omega)
  simp only [] at this
  rw [Bool.eq_iff_iff, decide_eq_true_iff, this]
  simp only [isP2, h2, decide_true, Bool.true_and, Bool.or_eq_true, beq_iff_eq]
  omega
theorem isP2_neg {n lim : Int} (h : ¬ 1 ≤ n) : isP2 n lim = false := by
  have : (n == 1 || n == 2 || n == 4 || n == 8 || n == 16 || n == 32 || n == 64) = false := by
    simp only [Bool.or_eq_false_iff, beq_eq_false_iff_ne]; omega
  rw [isP2, this, Bool.and_false]
set_option maxRecDepth 10000 in
theorem isPower_spec (n lim : Int) (hl : lim ≤ 64) (w : World) : VRet Try.prog 33 #[.int .i64 n, .int .i64 lim] w fun v w' => v = .bool (isP2 n lim) ∧ Ext w w' := by
  refine VRet_start T.mo ok33 rfl fun Ψ hΨ => ?_; simp only [vc33, rs33]
  simp only [VS, VD, SV, SL, T, Nat.reduceEqDiff, Nat.reduceAdd, Nat.reduceSub, Nat.reduceMul, Nat.reduceLeDiff, Nat.reduceLT, reduceIte]
  refine YG_d (fun h => ?_) (fun h => ?_)
  · simp only [VS, VD, SV, SL, T, Nat.reduceEqDiff, Nat.reduceAdd, Nat.reduceSub, Nat.reduceMul, Nat.reduceLeDiff, Nat.reduceLT, reduceIte, h]
    refine YG_d (fun h2 => ?_) (fun h2 => ?_)
    · simp only [VS, VD, SV, SL, T, Nat.reduceEqDiff, Nat.reduceAdd, Nat.reduceSub, Nat.reduceMul, Nat.reduceLeDiff, Nat.reduceLT, reduceIte, h, h2]
      simp only [decide_eq_true_eq] at h h2
      exact ⟨by omega, hΨ _ _ ⟨by rw [isP2_spec n lim h h2 hl], Ext.refl _⟩⟩
    · simp only [VS, VD, SV, SL, T, Nat.reduceEqDiff, Nat.reduceAdd, Nat.reduceSub, Nat.reduceMul, Nat.reduceLeDiff, Nat.reduceLT, reduceIte, h, h2]
      refine hΨ _ _ ⟨?_, Ext.refl _⟩
      simp only [Bool.not_true, decide_eq_false_iff_not] at h2
      simp [isP2, h2]
  · simp only [VS, VD, SV, SL, T, Nat.reduceEqDiff, Nat.reduceAdd, Nat.reduceSub, Nat.reduceMul, Nat.reduceLeDiff, Nat.reduceLT, reduceIte, h]
    refine hΨ _ _ ⟨?_, Ext.refl _⟩
    simp only [Bool.not_true, decide_eq_false_iff_not] at h
    rw [isP2_neg h]
/-- a valid geometry -/
def Geo (s y l : Int) : Bool := isP2 s 64 && (decide (1 ≤ y) && (decide (y ≤ 8) && isP2 l 16))
def cfgV (s y l : Int) : Value := .agg #[.int .i64 s, .int .i64 y, .int .i64 l]
set_option maxRecDepth 10000 in
theorem Valid_spec (s y l : Int) (w : World) : VRet Try.prog 17 #[cfgV s y l] w fun v w' => v = .bool (Geo s y l) ∧ Ext w w' := by
  refine VRet_start T.mo ok17 rfl fun Ψ hΨ => ?_; simp only [vc17, rs17]
  simp only [VS, VD, SV, SL, T, Nat.reduceEqDiff, Nat.reduceAdd, Nat.reduceSub, Nat.reduceMul, Nat.reduceLeDiff, Nat.reduceLT, reduceIte, cfgV]
  refine (isPower_spec s 64 (by omega) _).mono ?_
  rintro _ w1 ⟨rfl, hE⟩
  replace hE := ((Ext.refl w).alloc tomb).trans hE
  simp only [VS, VD, SV, SL, T, Nat.reduceEqDiff, Nat.reduceAdd, Nat.reduceSub, Nat.reduceMul, Nat.reduceLeDiff, Nat.reduceLT, reduceIte]
  refine YG_b (fun h => ?_) (fun h => ?_)
  · simp only [VS, VD, SV, SL, T, Nat.reduceEqDiff, Nat.reduceAdd, Nat.reduceSub, Nat.reduceMul, Nat.reduceLeDiff, Nat.reduceLT, reduceIte, h]
    refine YG_d (fun h2 => ?_) (fun h2 => ?_)
    · simp only [VS, VD, SV, SL, T, Nat.reduceEqDiff, Nat.reduceAdd, Nat.reduceSub, Nat.reduceMul, Nat.reduceLeDiff, Nat.reduceLT, reduceIte, h, h2]
      refine YG_d (fun h3 => ?_) (fun h3 => ?_)
      · simp only [VS, VD, SV, SL, T, Nat.reduceEqDiff, Nat.reduceAdd, Nat.reduceSub, Nat.reduceMul, Nat.reduceLeDiff, Nat.reduceLT, reduceIte, h, h2, h3]
        refine (isPower_spec l 16 (by omega) _).mono ?_
        rintro _ w2 ⟨rfl, hE2⟩
        simp only [VS, VD, SV, SL, T, Nat.reduceEqDiff, Nat.reduceAdd, Nat.reduceSub, Nat.reduceMul, Nat.reduceLeDiff, Nat.reduceLT, reduceIte, h, h2, h3]
        exact hΨ _ _ ⟨by simp [Geo, h, h2, h3], hE.trans hE2⟩
      · simp only [VS, VD, SV, SL, T, Nat.reduceEqDiff, Nat.reduceAdd, Nat.reduceSub, Nat.reduceMul, Nat.reduceLeDiff, Nat.reduceLT, reduceIte, h, h2, h3]
        exact hΨ _ _ ⟨by simp [Geo, h, h2, h3], hE⟩
    · simp only [VS, VD, SV, SL, T, Nat.reduceEqDiff, Nat.reduceAdd, Nat.reduceSub, Nat.reduceMul, Nat.reduceLeDiff, Nat.reduceLT, reduceIte, h, h2]
      exact hΨ _ _ ⟨by simp [Geo, h, h2], hE⟩
  · simp only [VS, VD, SV, SL, T, Nat.reduceEqDiff, Nat.reduceAdd, Nat.reduceSub, Nat.reduceMul, Nat.reduceLeDiff, Nat.reduceLT, reduceIte, h]
    exact hΨ _ _ ⟨by simp [Geo, h], hE⟩
theorem isP2_cases {n lim : Int} (h : isP2 n lim = true) : n ≤ lim ∧ (n = 1 ∨ n = 2 ∨ n = 4 ∨ n = 8 ∨ n = 16 ∨ n = 32 ∨ n = 64) := by
  simp only [isP2, Bool.and_eq_true, decide_eq_true_eq, Bool.or_eq_true, beq_iff_eq] at h
  omega
theorem Geo_spec {s y l : Int} (h : Geo s y l = true) : 1 ≤ s ∧ s ≤ 64 ∧ 1 ≤ y ∧ y ≤ 8 ∧ 1 ≤ l ∧ l ≤ 16 := by
  simp only [Geo, Bool.and_eq_true, decide_eq_true_eq] at h
  obtain ⟨h1, h2, h3, h4⟩ := h
  have := isP2_cases h1
  have := isP2_cases h4
  omega
def setOf (s y l n : Int) : Int := if Geo s y l = true ∧ 0 ≤ n then n % s else -1
def lineOf (s y l n : Int) : Int := if Geo s y l = true ∧ 0 ≤ n then n / l else -1
set_option maxRecDepth 10000 in
theorem Set_spec (s y l n : Int) (w : World) : VRet Try.prog 41 #[cfgV s y l, .int .i64 n] w fun v w' => v = .int .i64 (setOf s y l n) ∧ Ext w w' := by
  refine VRet_start T.mo ok41 rfl fun Ψ hΨ => ?_; simp only [vc41, rs41]
  simp only [VS, VD, SV, SL, T, Nat.reduceEqDiff, Nat.reduceAdd, Nat.reduceSub, Nat.reduceMul, Nat.reduceLeDiff, Nat.reduceLT, reduceIte, cfgV]
  refine (Valid_spec s y l _).mono ?_
  rintro _ w1 ⟨rfl, hE⟩
  replace hE := ((Ext.refl w).alloc tomb).trans hE
  simp only [VS, VD, SV, SL, T, Nat.reduceEqDiff, Nat.reduceAdd, Nat.reduceSub, Nat.reduceMul, Nat.reduceLeDiff, Nat.reduceLT, reduceIte]
  refine YG_b (fun h => ?_) (fun h => ?_)
  · simp only [VS, VD, SV, SL, T, Nat.reduceEqDiff, Nat.reduceAdd, Nat.reduceSub, Nat.reduceMul, Nat.reduceLeDiff, Nat.reduceLT, reduceIte, h]
    simp only [Bool.not_eq_false'] at h
    refine cnd_d (fun hn => ?_) (fun hn => ?_)
    · simp only [VS, VD, SV, SL, T, Nat.reduceEqDiff, Nat.reduceAdd, Nat.reduceSub, Nat.reduceMul, Nat.reduceLeDiff, Nat.reduceLT, reduceIte]
      exact hΨ _ _ ⟨by simp [setOf]; omega, hE⟩
    · simp only [VS, VD, SV, SL, T, Nat.reduceEqDiff, Nat.reduceAdd, Nat.reduceSub, Nat.reduceMul, Nat.reduceLeDiff, Nat.reduceLT, reduceIte]
      have := Geo_spec h
      exact ⟨by omega, hΨ _ _ ⟨by simp [setOf, h]; omega, hE⟩⟩
  · simp only [VS, VD, SV, SL, T, Nat.reduceEqDiff, Nat.reduceAdd, Nat.reduceSub, Nat.reduceMul, Nat.reduceLeDiff, Nat.reduceLT, reduceIte, h]
    refine hΨ _ _ ⟨?_, hE⟩
    simp at h
    simp [setOf, h]
set_option maxRecDepth 10000 in
theorem Line_spec (s y l n : Int) (hn63 : n ≤ 9223372036854775807) (w : World) : VRet Try.prog 36 #[cfgV s y l, .int .i64 n] w fun v w' => v = .int .i64 (lineOf s y l n) ∧ Ext w w' := by
  refine VRet_start T.mo ok36 rfl fun Ψ hΨ => ?_; simp only [vc36, rs36]
  simp only [VS, VD, SV, SL, T, Nat.reduceEqDiff, Nat.reduceAdd, Nat.reduceSub, Nat.reduceMul, Nat.reduceLeDiff, Nat.reduceLT, reduceIte, cfgV]
  refine (Valid_spec s y l _).mono ?_
  rintro _ w1 ⟨rfl, hE⟩
  replace hE := ((Ext.refl w).alloc tomb).trans hE
  simp only [VS, VD, SV, SL, T, Nat.reduceEqDiff, Nat.reduceAdd, Nat.reduceSub, Nat.reduceMul, Nat.reduceLeDiff, Nat.reduceLT, reduceIte]
  refine YG_b (fun h => ?_) (fun h => ?_)
  · simp only [VS, VD, SV, SL, T, Nat.reduceEqDiff, Nat.reduceAdd, Nat.reduceSub, Nat.reduceMul, Nat.reduceLeDiff, Nat.reduceLT, reduceIte, h]
    simp only [Bool.not_eq_false'] at h
    refine cnd_d (fun hn => ?_) (fun hn => ?_)
    · simp only [VS, VD, SV, SL, T, Nat.reduceEqDiff, Nat.reduceAdd, Nat.reduceSub, Nat.reduceMul, Nat.reduceLeDiff, Nat.reduceLT, reduceIte]
      exact hΨ _ _ ⟨by simp [lineOf]; omega, hE⟩
    · simp only [VS, VD, SV, SL, T, Nat.reduceEqDiff, Nat.reduceAdd, Nat.reduceSub, Nat.reduceMul, Nat.reduceLeDiff, Nat.reduceLT, reduceIte]
      have := Geo_spec h
      have h0 : 0 ≤ n / l := Int.ediv_nonneg (by omega) (by omega)
      have h1 : n / l ≤ n := Int.ediv_le_self _ (by omega)
      exact ⟨by omega, hΨ _ _ ⟨by simp [lineOf, h]; omega, hE⟩⟩
  · simp only [VS, VD, SV, SL, T, Nat.reduceEqDiff, Nat.reduceAdd, Nat.reduceSub, Nat.reduceMul, Nat.reduceLeDiff, Nat.reduceLT, reduceIte, h]
    refine hΨ _ _ ⟨?_, hE⟩
    simp at h
    simp [lineOf, h]
end Go.Proofs.Ytneipineehichaa

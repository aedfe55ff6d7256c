/-
  The reference of chapter 6: power, Valid, Line, Set, Ints.
-/
import Derived.Test.YtblogcihkjhgkaaK5
set_option linter.unusedSimpArgs false
set_option linter.unusedVariables false
namespace Go.Proofs.Ytblogcihkjhgkaa
open Go.W Go.RowKit
theorem pw_cases {k : Nat} (h : k ≤ 7) : ((2 : Int) ^ k = 1 ∧ k = 0) ∨ ((2 : Int) ^ k = 2 ∧ k = 1) ∨ ((2 : Int) ^ k = 4 ∧ k = 2) ∨ ((2 : Int) ^ k = 8 ∧ k = 3) ∨ ((2 : Int) ^ k = 16 ∧ k = 4) ∨ ((2 : Int) ^ k = 32 ∧ k = 5) ∨ ((2 : Int) ^ k = 64 ∧ k = 6) ∨ ((2 : Int) ^ k = 128 ∧ k = 7) := by
  rcases (by omega : k = 0 ∨ k = 1 ∨ k = 2 ∨ k = 3 ∨ k = 4 ∨ k = 5 ∨ k = 6 ∨ k = 7) with rfl | rfl | rfl | rfl | rfl | rfl | rfl | rfl <;> simp
set_option maxRecDepth 10000 in
theorem power_spec (n m : Int) (hm : m = 64 ∨ m = 16) (w : World) : VRet Try.prog 31 #[.int .i64 n, .int .i64 m] w fun v w' => v = .bool (isP2 n m) ∧ Ext w w' := by
  refine VRet_start T.mo ok31 rfl fun Ψ hΨ => ?_; simp only [vc31, rs31]
  simp only [VS, VD, SV, SL, T, Nat.reduceEqDiff, Nat.reduceAdd, Nat.reduceSub, Nat.reduceMul, Nat.reduceLeDiff, Nat.reduceLT, reduceIte]
  refine LoopP_intro (α := Nat) (fun k f' w' => f' 0 = .int .i64 n ∧ f' 1 = .int .i64 m ∧ f' 5 = .int .i64 ((2 : Int) ^ k) ∧ k ≤ 7 ∧ w' = w ∧ ∀ j, j < k → (2 : Int) ^ j ≠ n) (fun k => 8 - k) 0 ?_ ?_
  · simp only [VS, VD, SV, SL, T, Nat.reduceEqDiff, Nat.reduceAdd, Nat.reduceSub, Nat.reduceMul, Nat.reduceLeDiff, Nat.reduceLT, reduceIte]
    exact ⟨rfl, fun j hj => by omega⟩
  · rintro k f' w' ⟨f0, f1, f5, hk, rfl, hj⟩
    simp only [VS, VD, SV, SL, T, Nat.reduceEqDiff, Nat.reduceAdd, Nat.reduceSub, Nat.reduceMul, Nat.reduceLeDiff, Nat.reduceLT, reduceIte, f0, f1, f5]
    refine cnd_d (fun hle => ?_) (fun hle => ?_)
    · simp only [VS, VD, SV, SL, T, Nat.reduceEqDiff, Nat.reduceAdd, Nat.reduceSub, Nat.reduceMul, Nat.reduceLeDiff, Nat.reduceLT, reduceIte, f0, f1, f5]
      have hk6 : k ≤ 6 := by rcases pw_cases hk with h | h | h | h | h | h | h | h <;> omega
      refine cnd_d (fun hq => ?_) (fun hq => ?_)
      · simp only [VS, VD, SV, SL, T, Nat.reduceEqDiff, Nat.reduceAdd, Nat.reduceSub, Nat.reduceMul, Nat.reduceLeDiff, Nat.reduceLT, reduceIte]
        refine hΨ _ _ ⟨?_, Ext.refl _⟩
        rw [← hq]
        have hb : isP2 ((2 : Int) ^ k) m = true := by
          unfold isP2
          rcases pw_cases hk with h | h | h | h | h | h | h | h <;> rw [h.1] at hle ⊢ <;> rcases hm with rfl | rfl <;> first | rfl | (exfalso; omega)
        rw [hb]
      · simp only [VS, VD, SV, SL, T, Nat.reduceEqDiff, Nat.reduceAdd, Nat.reduceSub, Nat.reduceMul, Nat.reduceLeDiff, Nat.reduceLT, reduceIte, f5]
        have e1 : 2 * (2 : Int) ^ k = 2 ^ (k + 1) := by rw [Int.pow_succ]; omega
        have hb : -9223372036854775808 ≤ 2 * (2 : Int) ^ k ∧ 2 * (2 : Int) ^ k ≤ 9223372036854775807 := by rcases pw_cases hk with h | h | h | h | h | h | h | h <;> rw [h.1] <;> omega
        refine ⟨hb, k + 1, ⟨f0, f1, by rw [e1], by omega, fun j hj' => ?_⟩, by omega⟩
        rcases Nat.lt_succ_iff_lt_or_eq.1 hj' with h | rfl
        · exact hj j h
        · exact hq
    · simp only [VS, VD, SV, SL, T, Nat.reduceEqDiff, Nat.reduceAdd, Nat.reduceSub, Nat.reduceMul, Nat.reduceLeDiff, Nat.reduceLT, reduceIte]
      refine hΨ _ _ ⟨?_, Ext.refl _⟩
      have hf : isP2 n m = false := by
        cases hc : isP2 n m with
        | false => rfl
        | true =>
          exfalso
          obtain ⟨h1, h2⟩ := isP2_cases hc
          have hp : ∀ j, j ≤ 6 → (2 : Int) ^ j ≤ m → (2 : Int) ^ j ≠ n := by
            intro j hj6 hjm
            apply hj
            apply Nat.lt_of_not_le
            intro hkj
            have : (2 : Int) ^ k ≤ 2 ^ j := by rcases pw_cases hk with h | h | h | h | h | h | h | h <;> rcases pw_cases (show j ≤ 7 by omega) with h' | h' | h' | h' | h' | h' | h' | h' <;> omega
            omega
          have p0 := hp 0 (by omega); have p1 := hp 1 (by omega); have p2 := hp 2 (by omega); have p3 := hp 3 (by omega); have p4 := hp 4 (by omega); have p5 := hp 5 (by omega); have p6 := hp 6 (by omega)
          simp only [Int.reducePow] at p0 p1 p2 p3 p4 p5 p6
          omega
      rw [hf]
set_option maxRecDepth 10000 in
theorem rValid_spec (s y l : Int) (w : World) : VRet Try.prog 13 #[cfgV s y l] w fun v w' => v = .bool (Geo s y l) ∧ Ext w w' := by
  refine VRet_start T.mo ok13 rfl fun Ψ hΨ => ?_; simp only [vc13, rs13]
  simp only [VS, VD, SV, SL, T, Nat.reduceEqDiff, Nat.reduceAdd, Nat.reduceSub, Nat.reduceMul, Nat.reduceLeDiff, Nat.reduceLT, reduceIte, cfgV]
  refine (power_spec s 64 (.inl rfl) _).mono ?_
  rintro _ w1 ⟨rfl, hE⟩
  replace hE := ((Ext.refl w).alloc tomb).trans hE
  simp only [VS, VD, SV, SL, T, Nat.reduceEqDiff, Nat.reduceAdd, Nat.reduceSub, Nat.reduceMul, Nat.reduceLeDiff, Nat.reduceLT, reduceIte]
  refine YG_b (fun h => ?_) (fun h => ?_)
  · simp only [VS, VD, SV, SL, T, Nat.reduceEqDiff, Nat.reduceAdd, Nat.reduceSub, Nat.reduceMul, Nat.reduceLeDiff, Nat.reduceLT, reduceIte, h]
    refine YG_d (fun h2 => ?_) (fun h2 => ?_)
    · simp only [VS, VD, SV, SL, T, Nat.reduceEqDiff, Nat.reduceAdd, Nat.reduceSub, Nat.reduceMul, Nat.reduceLeDiff, Nat.reduceLT, reduceIte, h, h2]
      refine YG_d (fun h3 => ?_) (fun h3 => ?_)
      · simp only [VS, VD, SV, SL, T, Nat.reduceEqDiff, Nat.reduceAdd, Nat.reduceSub, Nat.reduceMul, Nat.reduceLeDiff, Nat.reduceLT, reduceIte, h, h2, h3]
        refine (power_spec l 16 (.inr rfl) _).mono ?_
        rintro _ w2 ⟨rfl, hE2⟩
        simp only [VS, VD, SV, SL, T, Nat.reduceEqDiff, Nat.reduceAdd, Nat.reduceSub, Nat.reduceMul, Nat.reduceLeDiff, Nat.reduceLT, reduceIte, h, h2, h3]
        exact hΨ _ _ ⟨by simp [Geo, h, h2, h3], hE.trans hE2⟩
      · simp only [VS, VD, SV, SL, T, Nat.reduceEqDiff, Nat.reduceAdd, Nat.reduceSub, Nat.reduceMul, Nat.reduceLeDiff, Nat.reduceLT, reduceIte, h, h2, h3]
        exact hΨ _ _ ⟨by simp [Geo, h, h2, h3], hE⟩
    · simp only [VS, VD, SV, SL, T, Nat.reduceEqDiff, Nat.reduceAdd, Nat.reduceSub, Nat.reduceMul, Nat.reduceLeDiff, Nat.reduceLT, reduceIte, h, h2]
      exact hΨ _ _ ⟨by simp [Geo, h, h2], hE⟩
  · simp only [VS, VD, SV, SL, T, Nat.reduceEqDiff, Nat.reduceAdd, Nat.reduceSub, Nat.reduceMul, Nat.reduceLeDiff, Nat.reduceLT, reduceIte, h]
    exact hΨ _ _ ⟨by simp [Geo, h], hE⟩
set_option maxRecDepth 10000 in
theorem rSet_spec (s y l n : Int) (w : World) : VRet Try.prog 18 #[cfgV s y l, .int .i64 n] w fun v w' => v = .int .i64 (setOf s y l n) ∧ Ext w w' := by
  refine VRet_start T.mo ok18 rfl fun Ψ hΨ => ?_; simp only [vc18, rs18]
  simp only [VS, VD, SV, SL, T, Nat.reduceEqDiff, Nat.reduceAdd, Nat.reduceSub, Nat.reduceMul, Nat.reduceLeDiff, Nat.reduceLT, reduceIte, cfgV]
  refine (rValid_spec s y l _).mono ?_
  rintro _ w1 ⟨rfl, hE⟩
  replace hE := ((Ext.refl w).alloc tomb).trans hE
  simp only [VS, VD, SV, SL, T, Nat.reduceEqDiff, Nat.reduceAdd, Nat.reduceSub, Nat.reduceMul, Nat.reduceLeDiff, Nat.reduceLT, reduceIte]
  refine YG_b (fun h => ?_) (fun h => ?_)
  · simp only [VS, VD, SV, SL, T, Nat.reduceEqDiff, Nat.reduceAdd, Nat.reduceSub, Nat.reduceMul, Nat.reduceLeDiff, Nat.reduceLT, reduceIte, h]
    simp only [Bool.not_eq_false'] at h
    refine cnd_d (fun hn => ?_) (fun hn => ?_)
    · simp only [VS, VD, SV, SL, T, Nat.reduceEqDiff, Nat.reduceAdd, Nat.reduceSub, Nat.reduceMul, Nat.reduceLeDiff, Nat.reduceLT, reduceIte]
      exact hΨ _ _ ⟨by simp [setOf]; omega, hE⟩
    · simp only [VS, VD, SV, SL, T, Nat.reduceEqDiff, Nat.reduceAdd, Nat.reduceSub, Nat.reduceMul, Nat.reduceLeDiff, Nat.reduceLT, reduceIte]
      have := Geo_spec h
      exact ⟨by omega, hΨ _ _ ⟨by simp [setOf, h]; omega, hE⟩⟩
  · simp only [VS, VD, SV, SL, T, Nat.reduceEqDiff, Nat.reduceAdd, Nat.reduceSub, Nat.reduceMul, Nat.reduceLeDiff, Nat.reduceLT, reduceIte, h]
    refine hΨ _ _ ⟨?_, hE⟩
    simp at h
    simp [setOf, h]
set_option maxRecDepth 10000 in
theorem rLine_spec (s y l n : Int) (hn63 : n ≤ 9223372036854775807) (w : World) : VRet Try.prog 16 #[cfgV s y l, .int .i64 n] w fun v w' => v = .int .i64 (lineOf s y l n) ∧ Ext w w' := by
  refine VRet_start T.mo ok16 rfl fun Ψ hΨ => ?_; simp only [vc16, rs16]
  simp only [VS, VD, SV, SL, T, Nat.reduceEqDiff, Nat.reduceAdd, Nat.reduceSub, Nat.reduceMul, Nat.reduceLeDiff, Nat.reduceLT, reduceIte, cfgV]
  refine (rValid_spec s y l _).mono ?_
  rintro _ w1 ⟨rfl, hE⟩
  replace hE := ((Ext.refl w).alloc tomb).trans hE
  simp only [VS, VD, SV, SL, T, Nat.reduceEqDiff, Nat.reduceAdd, Nat.reduceSub, Nat.reduceMul, Nat.reduceLeDiff, Nat.reduceLT, reduceIte]
  refine YG_b (fun h => ?_) (fun h => ?_)
  · simp only [VS, VD, SV, SL, T, Nat.reduceEqDiff, Nat.reduceAdd, Nat.reduceSub, Nat.reduceMul, Nat.reduceLeDiff, Nat.reduceLT, reduceIte, h]
    simp only [Bool.not_eq_false'] at h
    refine cnd_d (fun hn => ?_) (fun hn => ?_)
    · simp only [VS, VD, SV, SL, T, Nat.reduceEqDiff, Nat.reduceAdd, Nat.reduceSub, Nat.reduceMul, Nat.reduceLeDiff, Nat.reduceLT, reduceIte]
      exact hΨ _ _ ⟨by simp [lineOf]; omega, hE⟩
    · have := Geo_spec h
      simp only [VS, VD, SV, SL, T, Nat.reduceEqDiff, Nat.reduceAdd, Nat.reduceSub, Nat.reduceMul, Nat.reduceLeDiff, Nat.reduceLT, reduceIte]
      refine DW_intro (fun _ _ _ _ => True) ?_
      simp only [VS, VD, SV, SL, T, Nat.reduceEqDiff, Nat.reduceAdd, Nat.reduceSub, Nat.reduceMul, Nat.reduceLeDiff, Nat.reduceLT, reduceIte]
      have e0 := Int.emod_nonneg n (show l ≠ 0 by omega)
      have e1 := Int.emod_lt_of_pos n (show 0 < l by omega)
      have e2 : n - n % l = l * (n / l) := by have := Int.emod_add_mul_ediv n l; omega
      have e3 : (n - n % l) / l = n / l := by rw [e2]; exact Int.mul_ediv_cancel_left _ (by omega)
      have e4 : 0 ≤ n / l := Int.ediv_nonneg (by omega) (by omega)
      have e5 : 0 ≤ n - n % l := by rw [e2]; exact Int.mul_nonneg (by omega) e4
      refine ⟨by omega, by omega, ?_⟩
      intro w2 hE2 _
      simp only [VS, VD, SV, SL, T, Nat.reduceEqDiff, Nat.reduceAdd, Nat.reduceSub, Nat.reduceMul, Nat.reduceLeDiff, Nat.reduceLT, reduceIte]
      have e6 : n / l ≤ n := Int.ediv_le_self _ (by omega)
      refine ⟨by omega, hΨ _ _ ⟨?_, hE.trans hE2⟩⟩
      rw [e3]
      simp only [lineOf]
      rw [if_pos ⟨h, by omega⟩]
  · simp only [VS, VD, SV, SL, T, Nat.reduceEqDiff, Nat.reduceAdd, Nat.reduceSub, Nat.reduceMul, Nat.reduceLeDiff, Nat.reduceLT, reduceIte, h]
    refine hΨ _ _ ⟨?_, hE⟩
    simp at h
    simp [lineOf, h]
set_option maxRecDepth 10000 in
theorem Ints_spec (u v : Value) (l m : List Int) (hl : l.length ≤ 1000000) (w : World) (hu : IntsAt w u l) (hv : IntsAt w v m) : VRet Try.prog 29 #[u, v] w fun v w' => v = .bool (decide (l = m)) ∧ Ext w w' := by
  obtain ⟨a, c, rfl⟩ := hu.form
  obtain ⟨a', c', rfl⟩ := hv.form
  refine VRet_start T.mo ok29 rfl fun Ψ hΨ => ?_; simp only [vc29, rs29]
  simp only [VS, VD, SV, SL, T, Nat.reduceEqDiff, Nat.reduceAdd, Nat.reduceSub, Nat.reduceMul, Nat.reduceLeDiff, Nat.reduceLT, reduceIte]
  refine cnd_d (fun hq => ?_) (fun hq => ?_)
  · simp only [VS, VD, SV, SL, T, Nat.reduceEqDiff, Nat.reduceAdd, Nat.reduceSub, Nat.reduceMul, Nat.reduceLeDiff, Nat.reduceLT, reduceIte]
    refine hΨ _ _ ⟨?_, Ext.refl _⟩
    rw [decide_eq_false]
    rintro rfl
    exact hq rfl
  · have hlm : l.length = m.length := by
      apply Classical.byContradiction
      intro hne
      apply hq
      omega
    simp only [VS, VD, SV, SL, T, Nat.reduceEqDiff, Nat.reduceAdd, Nat.reduceSub, Nat.reduceMul, Nat.reduceLeDiff, Nat.reduceLT, reduceIte]
    refine LoopP_intro (α := Nat) (fun i f' w' => f' 0 = .slice a l.length c ∧ f' 1 = .slice a' m.length c' ∧ f' 5 = .int .i64 i ∧ i ≤ l.length ∧ Ext w w' ∧ l.take i = m.take i) (fun i => l.length - i) 0 ?_ ?_
    · simp only [VS, VD, SV, SL, T, Nat.reduceEqDiff, Nat.reduceAdd, Nat.reduceSub, Nat.reduceMul, Nat.reduceLeDiff, Nat.reduceLT, reduceIte]
      exact ⟨rfl, Nat.zero_le _, Ext.refl _, rfl⟩
    · rintro i f' w' ⟨f0, f1, f5, hi, hE, htk⟩
      simp only [VS, VD, SV, SL, T, Nat.reduceEqDiff, Nat.reduceAdd, Nat.reduceSub, Nat.reduceMul, Nat.reduceLeDiff, Nat.reduceLT, reduceIte, f5, f0]
      refine cnd_d (fun hlt => ?_) (fun hlt => ?_)
      · have hi1 : i < l.length := by omega
        have hi2 : i < m.length := by omega
        obtain ⟨b, off, cs, e, fz, rfl, _, hb, hc⟩ := (hu.ext hE).get (i := i) (x := l[i]) (by simp [hi1])
        obtain ⟨b', off', cs', e', fz', rfl, _, hb', hc'⟩ := (hv.ext hE).get (i := i) (x := m[i]) (by simp [hi2])
        simp only [VS, VD, SV, SL, T, Nat.reduceEqDiff, Nat.reduceAdd, Nat.reduceSub, Nat.reduceMul, Nat.reduceLeDiff, Nat.reduceLT, reduceIte, f5, f0, f1]
        refine DW_intro (fun _ _ _ _ => True) ?_
        simp only [VS, VD, SV, SL, T, Nat.reduceEqDiff, Nat.reduceAdd, Nat.reduceSub, Nat.reduceMul, Nat.reduceLeDiff, Nat.reduceLT, reduceIte, f5, f0, f1, hb, hb', hc, hc', Int.toNat_natCast]
        refine ⟨by omega, by omega, ?_⟩
        intro w2 hE2 _
        simp only [VS, VD, SV, SL, T, Nat.reduceEqDiff, Nat.reduceAdd, Nat.reduceSub, Nat.reduceMul, Nat.reduceLeDiff, Nat.reduceLT, reduceIte]
        refine cnd_d (fun hq2 => ?_) (fun hq2 => ?_)
        · simp only [VS, VD, SV, SL, T, Nat.reduceEqDiff, Nat.reduceAdd, Nat.reduceSub, Nat.reduceMul, Nat.reduceLeDiff, Nat.reduceLT, reduceIte]
          refine hΨ _ _ ⟨?_, hE.trans hE2⟩
          rw [decide_eq_false]
          rintro rfl
          exact hq2 rfl
        · have hq3 : l[i] = m[i] := Classical.not_not.1 hq2
          simp only [VS, VD, SV, SL, T, Nat.reduceEqDiff, Nat.reduceAdd, Nat.reduceSub, Nat.reduceMul, Nat.reduceLeDiff, Nat.reduceLT, reduceIte, f5]
          refine ⟨by omega, i + 1, ⟨f0, f1, by simp, by omega, hE.trans hE2, ?_⟩, by omega⟩
          rw [List.take_succ_eq_append_getElem hi1, List.take_succ_eq_append_getElem hi2, htk, hq3]
      · simp only [VS, VD, SV, SL, T, Nat.reduceEqDiff, Nat.reduceAdd, Nat.reduceSub, Nat.reduceMul, Nat.reduceLeDiff, Nat.reduceLT, reduceIte]
        refine hΨ _ _ ⟨?_, hE⟩
        rw [decide_eq_true]
        rw [List.take_of_length_le (by omega), List.take_of_length_le (by omega)] at htk
        exact htk
end Go.Proofs.Ytblogcihkjhgkaa

/-
  CacheFlush, CacheFlushes.
-/
import Derived.Test.YtblogcihkjhgkaaK11
set_option linter.unusedSimpArgs false
set_option linter.unusedVariables false
namespace Go.Proofs.Ytblogcihkjhgkaa
open Go.W Go.RowKit
theorem mul_sy {s y l : Int} (hg : Geo s y l = true) : ((s.toNat * y.toNat : Nat) : Int) = s * y ∧ 0 ≤ s * y ∧ s * y ≤ 512 := by
  have hgs := Geo_spec hg
  refine ⟨by rw [Int.natCast_mul, Int.toNat_of_nonneg (by omega), Int.toNat_of_nonneg (by omega)], Int.mul_nonneg (by omega) (by omega), Int.mul_le_mul (show s ≤ 64 by omega) (show y ≤ 8 by omega) (by omega) (by omega)⟩
theorem not_great {xs : List Int} (h : ¬ (xs.length > 200 ∨ ∃ x ∈ xs, x > 100000)) : xs.length ≤ 200 ∧ ∀ x ∈ xs, x ≤ 100000 := by
  refine ⟨by omega, fun x hx => ?_⟩
  apply Int.not_lt.1
  intro h'
  exact h (.inr ⟨x, hx, h'⟩)
set_option maxRecDepth 100000 in
theorem CacheFlush_spec (s y l : Int) (v : Value) (xs : List Int) (u : Value) (ys : List Int) (w : World) (hv : IntsAt w v xs) (hM : xs.length ≤ maxLen ∧ ∀ n ∈ xs, -9223372036854775808 ≤ n ∧ n ≤ 9223372036854775807) (hu : IntsAt w u ys) (hN : ys.length ≤ maxLen ∧ ∀ n ∈ ys, -9223372036854775808 ≤ n ∧ n ≤ 9223372036854775807) :
    VRet Try.prog 7 #[cfgV s y l, v, u] w fun v w' => v = .bool true ∧ Ext w w' := by
  have hlen : xs.length ≤ 9223372036854775807 := by have := hM.1; simp only [maxLen] at this; omega
  have hlen' : ys.length ≤ 9223372036854775807 := by have := hN.1; simp only [maxLen] at this; omega
  obtain ⟨av, cv, rfl⟩ := hv.form
  obtain ⟨au, cu, rfl⟩ := hu.form
  refine VRet_start T.mo ok7 rfl fun Ψ hΨ => ?_; simp only [vc7, rs7]
  simp only [VS, VD, SV, SL, T, Nat.reduceEqDiff, Nat.reduceAdd, Nat.reduceSub, Nat.reduceMul, Nat.reduceLeDiff, Nat.reduceLT, reduceIte, cfgV]
  refine (awake_spec _).mono ?_
  rintro _ w1 ⟨rfl, hE1⟩
  replace hE1 := ((Ext.refl w).alloc tomb).trans hE1
  simp only [VS, VD, SV, SL, T, Nat.reduceEqDiff, Nat.reduceAdd, Nat.reduceSub, Nat.reduceMul, Nat.reduceLeDiff, Nat.reduceLT, reduceIte]
  refine (made_spec s y l _ xs hlen (fun x hx => (hM.2 x hx).2) w1 (hv.ext hE1)).mono ?_
  rintro v2 w2 h2
  have hE2 : Ext w w2 := by rcases h2 with ⟨_, _, h⟩ | ⟨_, p, F, _, _, _, h⟩ <;> exact hE1.trans h
  simp only [VS, VD, SV, SL, T, Nat.reduceEqDiff, Nat.reduceAdd, Nat.reduceSub, Nat.reduceMul, Nat.reduceLeDiff, Nat.reduceLT, reduceIte]
  refine (great_spec _ xs hlen w2 (hv.ext hE2)).mono ?_
  rintro _ w3 ⟨rfl, hE3⟩
  by_cases hgr : xs.length > 200 ∨ ∃ x ∈ xs, x > 100000
  · rw [decide_eq_true hgr]
    simp only [VS, VD, SV, SL, T, Nat.reduceEqDiff, Nat.reduceAdd, Nat.reduceSub, Nat.reduceMul, Nat.reduceLeDiff, Nat.reduceLT, reduceIte]
    exact hΨ _ _ ⟨rfl, hE2.trans hE3⟩
  rw [decide_eq_false hgr]
  simp only [VS, VD, SV, SL, T, Nat.reduceEqDiff, Nat.reduceAdd, Nat.reduceSub, Nat.reduceMul, Nat.reduceLeDiff, Nat.reduceLT, reduceIte]
  refine (great_spec _ ys hlen' w3 (hu.ext (hE2.trans hE3))).mono ?_
  rintro _ w4 ⟨rfl, hE4⟩
  have hE := (hE2.trans hE3).trans hE4
  by_cases hgr' : ys.length > 200 ∨ ∃ x ∈ ys, x > 100000
  · rw [decide_eq_true hgr']
    simp only [VS, VD, SV, SL, T, Nat.reduceEqDiff, Nat.reduceAdd, Nat.reduceSub, Nat.reduceMul, Nat.reduceLeDiff, Nat.reduceLT, reduceIte]
    exact hΨ _ _ ⟨rfl, hE⟩
  rw [decide_eq_false hgr']
  obtain ⟨hyl, hyb⟩ := not_great hgr'
  rcases h2 with ⟨hg, rfl, _⟩ | ⟨hg, p, F, rfl, hC, hF, _⟩
  · simp only [VS, VD, SV, SL, T, Nat.reduceEqDiff, Nat.reduceAdd, Nat.reduceSub, Nat.reduceMul, Nat.reduceLeDiff, Nat.reduceLT, reduceIte, Option.isNone_none]
    exact hΨ _ _ ⟨rfl, hE⟩
  simp only [VS, VD, SV, SL, T, Nat.reduceEqDiff, Nat.reduceAdd, Nat.reduceSub, Nat.reduceMul, Nat.reduceLeDiff, Nat.reduceLT, reduceIte, Option.isNone_some]
  have hgs := Geo_spec hg
  have hC4 := hC.ext (hE3.trans hE4)
  rw [emp_stS s y, runS_stS hg] at hC4
  generalize xs.foldl (addH s l) (fun _ => []) = H at hC4
  replace hF : ∀ b, F b → w.heap.size ≤ b := fun b hb => Nat.le_trans hE1.size (hF b hb)
  refine (Clone_spec hC4).mono ?_
  rintro _ w5 ⟨hE5, p', G, rfl, hD5, hG⟩
  have hG' : ∀ b, G b → w.heap.size ≤ b := fun b hb => Nat.le_trans hE.size (hG b hb)
  have hd5 : ∀ b, F b → ¬ G b := fun b hb hb' => by have := hC4.lt b hb; have := hG b hb'; omega
  simp only [VS, VD, SV, SL, T, Nat.reduceEqDiff, Nat.reduceAdd, Nat.reduceSub, Nat.reduceMul, Nat.reduceLeDiff, Nat.reduceLT, reduceIte]
  refine (Flush_mv hD5).mono ?_
  rintro v6 w6 ⟨G6, hD6, hm6⟩
  have hE6 := hm6.ext (hE.trans hE5) hG'
  obtain ⟨hC6, hd6⟩ := hm6.other (hC4.ext hE5) hd5
  have hG6 := hm6.above (hE.trans hE5).size hG'
  simp only [VS, VD, SV, SL, T, Nat.reduceEqDiff, Nat.reduceAdd, Nat.reduceSub, Nat.reduceMul, Nat.reduceLeDiff, Nat.reduceLT, reduceIte]
  refine (misses_spec hg hC6 _ ys (by omega) (fun x hx => (hN.2 x hx).2) w hu hE6 hF).mono ?_
  rintro _ w7 ⟨rfl, F7, hC7, hm7⟩
  have hE7 := hm7.ext hE6 hF
  obtain ⟨hD7, hd7⟩ := hm7.other hD6 (fun b hb hb' => hd6 b hb' hb)
  simp only [VS, VD, SV, SL, T, Nat.reduceEqDiff, Nat.reduceAdd, Nat.reduceSub, Nat.reduceMul, Nat.reduceLeDiff, Nat.reduceLT, reduceIte]
  refine (misses_spec hg hD7 _ ys (by omega) (fun x hx => (hN.2 x hx).2) w hu hE7 hG6).mono ?_
  rintro _ w8 ⟨rfl, G8, hD8, hm8⟩
  have hE8 := hm8.ext hE7 hG6
  obtain ⟨q1, q2⟩ := flush_run hg ys (H := H) (P := fun _ => []) (fun i => ⟨H i, rfl⟩)
  rw [sumR_nil] at q2
  obtain ⟨e1, e2, e3⟩ := mul_sy hg
  have n1 := mis_le s y l ys H
  generalize mis s y l H ys = m1 at *
  generalize mis s y l (fun _ => []) ys = m2 at *
  simp only [VS, VD, SV, SL, T, Nat.reduceEqDiff, Nat.reduceAdd, Nat.reduceSub, Nat.reduceMul, Nat.reduceLeDiff, Nat.reduceLT, reduceIte]
  have d1 : ((m1 : Int) ≤ (m2 : Int)) := by omega
  rw [decide_eq_true d1]
  simp only [VS, VD, SV, SL, T, Nat.reduceEqDiff, Nat.reduceAdd, Nat.reduceSub, Nat.reduceMul, Nat.reduceLeDiff, Nat.reduceLT, reduceIte]
  refine ⟨by omega, by omega, hΨ _ _ ⟨?_, hE8⟩⟩
  rw [decide_eq_true (by omega)]
end Go.Proofs.Ytblogcihkjhgkaa

/-
  The reference for must: touched, Access, AccessRange.
-/
import Derived.Test.YtehmbpkcbmnfnaaZCW3
set_option linter.unusedSimpArgs false
set_option linter.unusedVariables false
namespace Go.Proofs.Ytehmbpkcbmnfnaa
open Go.W Go.RowKit
set_option maxRecDepth 10000 in
theorem touched_spec (s y l set lo hi : Int) (hs : 1 ≤ s ∧ s ≤ 1000000) (hset : 0 ≤ set ∧ set < s) (hlo : 0 ≤ lo ∧ lo ≤ 1000000) (w : World) :
    VRet Try.prog 39 #[cfgV s y l, .int .i64 set, .int .i64 lo, .int .i64 hi] w fun v w' => v = .bool (decide (tch s lo hi set)) ∧ Ext w w' := by
  refine VRet_start T.mo ok39 rfl fun Ψ hΨ => ?_; simp only [vc39, rs39]
  simp only [VS, VD, SV, SL, T, Nat.reduceEqDiff, Nat.reduceAdd, Nat.reduceSub, Nat.reduceMul, Nat.reduceLeDiff, Nat.reduceLT, reduceIte, cfgV]
  have hE := (Ext.refl w).alloc tomb
  have hiff := tch_iff (hi := hi) hs.1 hlo.1 hset
  refine LoopP_intro (α := Nat) (fun i f' w' => f' 1 = .int .i64 set ∧ f' 2 = .int .i64 lo ∧ f' 3 = .int .i64 hi ∧ f' 4 = .agg #[.int .i64 s, .int .i64 y, .int .i64 l] ∧ f' 9 = .int .i64 i ∧ i ≤ s.toNat ∧ Ext w w' ∧ ∀ q : Int, 0 ≤ q → q < i → (lo + q) % s ≠ set) (fun i => s.toNat - i) 0 ?_ ?_
  · simp only [VS, VD, SV, SL, T, Nat.reduceEqDiff, Nat.reduceAdd, Nat.reduceSub, Nat.reduceMul, Nat.reduceLeDiff, Nat.reduceLT, reduceIte]
    exact ⟨rfl, by omega, hE, fun q h1 h2 => by omega⟩
  rintro i f' w' ⟨f1, f2, f3, f4, f9, hi', hEx, hno⟩
  simp only [VS, VD, SV, SL, T, Nat.reduceEqDiff, Nat.reduceAdd, Nat.reduceSub, Nat.reduceMul, Nat.reduceLeDiff, Nat.reduceLT, reduceIte, f9, f4]
  by_cases h1 : (i : Int) < s
  · rw [decide_eq_true h1]
    simp only [VS, VD, SV, SL, T, Nat.reduceEqDiff, Nat.reduceAdd, Nat.reduceSub, Nat.reduceMul, Nat.reduceLeDiff, Nat.reduceLT, reduceIte, f2, f9, f3]
    refine ⟨by omega, ?_⟩
    refine cnd_d (fun h2 => ?_) (fun h2 => ?_)
    · simp only [VS, VD, SV, SL, T, Nat.reduceEqDiff, Nat.reduceAdd, Nat.reduceSub, Nat.reduceMul, Nat.reduceLeDiff, Nat.reduceLT, reduceIte, f2, f9, f4, f1]
      refine ⟨by omega, by omega, ?_⟩
      refine cnd_d (fun h3 => ?_) (fun h3 => ?_)
      · simp only [VS, VD, SV, SL, T, Nat.reduceEqDiff, Nat.reduceAdd, Nat.reduceSub, Nat.reduceMul, Nat.reduceLeDiff, Nat.reduceLT, reduceIte]
        refine hΨ _ _ ⟨?_, hEx⟩
        rw [decide_eq_true (hiff.1 ⟨i, by omega, h1, h2, h3⟩)]
      · simp only [VS, VD, SV, SL, T, Nat.reduceEqDiff, Nat.reduceAdd, Nat.reduceSub, Nat.reduceMul, Nat.reduceLeDiff, Nat.reduceLT, reduceIte, f9]
        refine ⟨by omega, i + 1, ⟨f1, f2, f3, f4, by simp, by omega, hEx, fun q q1 q2 => ?_⟩, by omega⟩
        by_cases hqi : q < i
        · exact hno q q1 hqi
        · rw [show q = i by omega]; exact h3
    · simp only [VS, VD, SV, SL, T, Nat.reduceEqDiff, Nat.reduceAdd, Nat.reduceSub, Nat.reduceMul, Nat.reduceLeDiff, Nat.reduceLT, reduceIte]
      refine hΨ _ _ ⟨?_, hEx⟩
      rw [decide_eq_false (fun h => by
        obtain ⟨q, q1, q2, q3, q4⟩ := hiff.2 h
        exact hno q q1 (by omega) q4)]
  · rw [decide_eq_false h1]
    simp only [VS, VD, SV, SL, T, Nat.reduceEqDiff, Nat.reduceAdd, Nat.reduceSub, Nat.reduceMul, Nat.reduceLeDiff, Nat.reduceLT, reduceIte]
    refine hΨ _ _ ⟨?_, hEx⟩
    rw [decide_eq_false (fun h => by
      obtain ⟨q, q1, q2, q3, q4⟩ := hiff.2 h
      exact hno q q1 (by omega) q4)]
def rg1 (s y lo hi : Int) (x : Int × Int) : Option (Int × Int) := upd1 y (decide (tch s lo hi (x.1 % s))) x
def ac1 (s y k a : Int) (x : Int × Int) : Option (Int × Int) := if x.1 = k then none else upd1 y (decide (x.1 % s = k % s ∧ (a < 0 ∨ x.2 < a))) x
/-- the ages' and lines' ranges -/
def BdL (y : Int) (L : List (Int × Int)) : Prop := ∀ x ∈ L, 0 ≤ x.1 ∧ 0 ≤ x.2 ∧ x.2 < y
set_option maxHeartbeats 1000000 in
set_option maxRecDepth 10000 in
theorem rAccess_spec (s y l : Int) (hv : Geo s y l = true) (L : List (Int × Int)) (hL : L.length ≤ 100000) (hbd : BdL y L) (k : Int) (hk : 0 ≤ k) (v : Value) (w : World) (h : LnAt w v L) :
    VRet Try.prog 38 #[cfgV s y l, v, .int .i64 k] w fun v w' => LnAt w' v (rAcc s y L k) ∧ Ext w w' := by
  have hp := Geo_spec hv
  obtain ⟨a, c, rfl⟩ := lnAt_form h
  refine VRet_start T.mo ok38 rfl fun Ψ hΨ => ?_; simp only [vc38, rs38]
  simp only [VS, VD, SV, SL, T, Nat.reduceEqDiff, Nat.reduceAdd, Nat.reduceSub, Nat.reduceMul, Nat.reduceLeDiff, Nat.reduceLT, reduceIte, cfgV]
  have hE := (Ext.refl w).alloc tomb
  rw [decide_eq_false (show ¬ k < 0 by omega)]
  simp only [VS, VD, SV, SL, T, Nat.reduceEqDiff, Nat.reduceAdd, Nat.reduceSub, Nat.reduceMul, Nat.reduceLeDiff, Nat.reduceLT, reduceIte]
  refine (rFind_spec L (by omega) _ k _ (h.ext hE)).mono ?_
  rintro _ w1 ⟨rfl, hE1⟩
  replace hE := hE.trans hE1
  have hr : rAcc s y L k = L.filterMap (ac1 s y k (rFind L k)) ++ [(k, 0)] := rfl
  generalize rFind L k = fa at *
  simp only [VS, VD, SV, SL, T, Nat.reduceEqDiff, Nat.reduceAdd, Nat.reduceSub, Nat.reduceMul, Nat.reduceLeDiff, Nat.reduceLT, reduceIte]
  refine loop_cB (fun f' w' => f' 2 = .int .i64 k ∧ live (f' 3) = true ∧ LnO w.heap.size w' (f' 8) (L.filterMap (ac1 s y k fa)) ∧ Ext w w') ?_ ?_
  · refine LoopP_intro (α := Nat) (fun i f' w' => f' 1 = .slice a L.length c ∧ f' 2 = .int .i64 k ∧ f' 3 = .agg #[.int .i64 s, .int .i64 y, .int .i64 l] ∧ f' 7 = .int .i64 fa ∧ f' 9 = .int .i64 i ∧ i ≤ L.length ∧ LnO w.heap.size w' (f' 8) ((L.take i).filterMap (ac1 s y k fa)) ∧ Ext w w') (fun i => L.length - i) 0 ?_ ?_
    · simp only [VS, VD, SV, SL, T, Nat.reduceEqDiff, Nat.reduceAdd, Nat.reduceSub, Nat.reduceMul, Nat.reduceLeDiff, Nat.reduceLT, reduceIte]
      exact ⟨rfl, by omega, OwnL.nil _ _ _ _ _, hE⟩
    rintro i f' w' ⟨f1, f2, f3, f7, f9, hi, hown, hEx⟩
    simp only [VS, VD, SV, SL, T, Nat.reduceEqDiff, Nat.reduceAdd, Nat.reduceSub, Nat.reduceMul, Nat.reduceLeDiff, Nat.reduceLT, reduceIte, f9, f1]
    refine cnd_d (fun hlt => ?_) (fun hlt => ?_)
    · have hi' : i < L.length := by omega
      obtain ⟨b, off, cs, e, fz, rfl, hbk, hle, hext, hc0, hc1⟩ := lnAt_get (h.ext hEx) hi'
      have hst : (L.take (i + 1)).filterMap (ac1 s y k fa) = (L.take i).filterMap (ac1 s y k fa) ++ (ac1 s y k fa L[i]).toList := by
        rw [List.take_succ_eq_append_getElem hi', List.filterMap_append]; simp only [List.filterMap_cons, List.filterMap_nil]; cases ac1 s y k fa L[i] <;> rfl
      have hlen : ((L.take i).filterMap (ac1 s y k fa)).length ≤ i := Nat.le_trans (List.length_filterMap_le _ _) (List.length_take_le _ _)
      have hxb := hbd _ (List.getElem_mem hi')
      generalize (L.take i).filterMap (ac1 s y k fa) = R at *
      generalize L[i] = x at *
      obtain ⟨v8, f8⟩ : ∃ v, f' 8 = v := ⟨_, rfl⟩
      rw [f8] at hown
      simp only [VS, VD, SV, SL, T, Nat.reduceEqDiff, Nat.reduceAdd, Nat.reduceSub, Nat.reduceMul, Nat.reduceLeDiff, Nat.reduceLT, reduceIte, f9, f1, f2, Int.toNat_natCast, hbk, hle, hext]
      refine ⟨by omega, ?_⟩
      replace hown := hown.ext ((Ext.refl w').alloc tomb)
      replace hEx := hEx.alloc tomb
      generalize w'.alloc tomb = wa at *
      refine cnd_d (fun hq => ?_) (fun hq => ?_)
      · have hj : ac1 s y k fa x = none := by unfold ac1; rw [if_pos hq]
        rw [hj] at hst
        simp only [VS, VD, SV, SL, T, Nat.reduceEqDiff, Nat.reduceAdd, Nat.reduceSub, Nat.reduceMul, Nat.reduceLeDiff, Nat.reduceLT, reduceIte, f9]
        exact ⟨by omega, i + 1, ⟨f1, f2, f3, f7, by simp, by omega, by rw [hst, f8]; simpa using hown, hEx⟩, by omega⟩
      have hj : ac1 s y k fa x = upd1 y (decide (x.1 % s = k % s ∧ (fa < 0 ∨ x.2 < fa))) x := by unfold ac1; rw [if_neg hq]
      rw [hj] at hst
      simp only [VS, VD, SV, SL, T, Nat.reduceEqDiff, Nat.reduceAdd, Nat.reduceSub, Nat.reduceMul, Nat.reduceLeDiff, Nat.reduceLT, reduceIte]
      refine DW_intro (fun _ _ _ _ => True) ?_
      simp only [VS, VD, SV, SL, T, Nat.reduceEqDiff, Nat.reduceAdd, Nat.reduceSub, Nat.reduceMul, Nat.reduceLeDiff, Nat.reduceLT, reduceIte, f2, f3, f7]
      refine ⟨by omega, by omega, ?_⟩
      by_cases q1 : x.1 % s = k % s
      · rw [decide_eq_true q1]
        by_cases q2 : fa < 0
        · rw [decide_eq_true (show x.1 % s = k % s ∧ (fa < 0 ∨ x.2 < fa) from ⟨q1, .inl q2⟩)] at hst
          have d2 : decide (fa < 0) = true := decide_eq_true q2
          simp only [VS, VD, SV, SL, T, Nat.reduceEqDiff, Nat.reduceAdd, Nat.reduceSub, Nat.reduceMul, Nat.reduceLeDiff, Nat.reduceLT, reduceIte, f7, d2]
          intro w3 hE3 _
          replace hown := hown.ext hE3
          replace hEx := hEx.trans hE3
          simp only [VS, VD, SV, SL, T, Nat.reduceEqDiff, Nat.reduceAdd, Nat.reduceSub, Nat.reduceMul, Nat.reduceLeDiff, Nat.reduceLT, reduceIte, d2, f3]
          refine ⟨by omega, ?_⟩
          refine cnd_d (fun hy => ?_) (fun hy => ?_)
          · have hu : upd1 y true x = some (x.1, x.2 + 1) := by unfold upd1; simp [hy]
            rw [hu] at hst
            simp only [VS, VD, SV, SL, T, Nat.reduceEqDiff, Nat.reduceAdd, Nat.reduceSub, Nat.reduceMul, Nat.reduceLeDiff, Nat.reduceLT, reduceIte, f8]
            refine app_line hown (by omega) hEx.size x.1 _ ?_
            intro v' w4 ho4 hE4
            simp only [VS, VD, SV, SL, T, Nat.reduceEqDiff, Nat.reduceAdd, Nat.reduceSub, Nat.reduceMul, Nat.reduceLeDiff, Nat.reduceLT, reduceIte, f9]
            exact ⟨by omega, i + 1, ⟨f1, f2, by rw [f3], f7, by simp, by omega, by rw [hst]; exact ho4, hE4 w hEx (Nat.le_refl _)⟩, by omega⟩
          · have hu : upd1 y true x = none := by unfold upd1; simp; omega
            rw [hu] at hst
            simp only [VS, VD, SV, SL, T, Nat.reduceEqDiff, Nat.reduceAdd, Nat.reduceSub, Nat.reduceMul, Nat.reduceLeDiff, Nat.reduceLT, reduceIte, f9]
            exact ⟨by omega, i + 1, ⟨f1, f2, by rw [f3], f7, by simp, by omega, by rw [hst, f8]; simpa using hown, hEx⟩, by omega⟩
        · have d2 : decide (fa < 0) = false := decide_eq_false q2
          simp only [VS, VD, SV, SL, T, Nat.reduceEqDiff, Nat.reduceAdd, Nat.reduceSub, Nat.reduceMul, Nat.reduceLeDiff, Nat.reduceLT, reduceIte, f7, d2]
          by_cases q3 : x.2 < fa
          · rw [decide_eq_true (show x.1 % s = k % s ∧ (fa < 0 ∨ x.2 < fa) from ⟨q1, .inr q3⟩)] at hst
            have d3 : decide (x.2 < fa) = true := decide_eq_true q3
            intro w3 hE3 _
            replace hown := hown.ext hE3
            replace hEx := hEx.trans hE3
            simp only [VS, VD, SV, SL, T, Nat.reduceEqDiff, Nat.reduceAdd, Nat.reduceSub, Nat.reduceMul, Nat.reduceLeDiff, Nat.reduceLT, reduceIte, d2, d3, f3]
            refine ⟨by omega, ?_⟩
            refine cnd_d (fun hy => ?_) (fun hy => ?_)
            · have hu : upd1 y true x = some (x.1, x.2 + 1) := by unfold upd1; simp [hy]
              rw [hu] at hst
              simp only [VS, VD, SV, SL, T, Nat.reduceEqDiff, Nat.reduceAdd, Nat.reduceSub, Nat.reduceMul, Nat.reduceLeDiff, Nat.reduceLT, reduceIte, f8]
              refine app_line hown (by omega) hEx.size x.1 _ ?_
              intro v' w4 ho4 hE4
              simp only [VS, VD, SV, SL, T, Nat.reduceEqDiff, Nat.reduceAdd, Nat.reduceSub, Nat.reduceMul, Nat.reduceLeDiff, Nat.reduceLT, reduceIte, f9]
              exact ⟨by omega, i + 1, ⟨f1, f2, by rw [f3], f7, by simp, by omega, by rw [hst]; exact ho4, hE4 w hEx (Nat.le_refl _)⟩, by omega⟩
            · have hu : upd1 y true x = none := by unfold upd1; simp; omega
              rw [hu] at hst
              simp only [VS, VD, SV, SL, T, Nat.reduceEqDiff, Nat.reduceAdd, Nat.reduceSub, Nat.reduceMul, Nat.reduceLeDiff, Nat.reduceLT, reduceIte, f9]
              exact ⟨by omega, i + 1, ⟨f1, f2, by rw [f3], f7, by simp, by omega, by rw [hst, f8]; simpa using hown, hEx⟩, by omega⟩
          · rw [decide_eq_false (show ¬ (x.1 % s = k % s ∧ (fa < 0 ∨ x.2 < fa)) from fun h => h.2.elim q2 q3)] at hst
            have d3 : decide (x.2 < fa) = false := decide_eq_false q3
            intro w3 hE3 _
            replace hown := hown.ext hE3
            replace hEx := hEx.trans hE3
            simp only [VS, VD, SV, SL, T, Nat.reduceEqDiff, Nat.reduceAdd, Nat.reduceSub, Nat.reduceMul, Nat.reduceLeDiff, Nat.reduceLT, reduceIte, d2, d3, f3]
            refine cnd_d (fun hy => ?_) (fun hy => ?_)
            · have hu : upd1 y false x = some (x.1, x.2) := by unfold upd1; simp [hy]
              rw [hu] at hst
              simp only [VS, VD, SV, SL, T, Nat.reduceEqDiff, Nat.reduceAdd, Nat.reduceSub, Nat.reduceMul, Nat.reduceLeDiff, Nat.reduceLT, reduceIte, f8]
              refine app_line hown (by omega) hEx.size x.1 _ ?_
              intro v' w4 ho4 hE4
              simp only [VS, VD, SV, SL, T, Nat.reduceEqDiff, Nat.reduceAdd, Nat.reduceSub, Nat.reduceMul, Nat.reduceLeDiff, Nat.reduceLT, reduceIte, f9]
              exact ⟨by omega, i + 1, ⟨f1, f2, by rw [f3], f7, by simp, by omega, by rw [hst]; exact ho4, hE4 w hEx (Nat.le_refl _)⟩, by omega⟩
            · have hu : upd1 y false x = none := by unfold upd1; simp; omega
              rw [hu] at hst
              simp only [VS, VD, SV, SL, T, Nat.reduceEqDiff, Nat.reduceAdd, Nat.reduceSub, Nat.reduceMul, Nat.reduceLeDiff, Nat.reduceLT, reduceIte, f9]
              exact ⟨by omega, i + 1, ⟨f1, f2, by rw [f3], f7, by simp, by omega, by rw [hst, f8]; simpa using hown, hEx⟩, by omega⟩
      · rw [decide_eq_false q1]
        rw [decide_eq_false (show ¬ (x.1 % s = k % s ∧ (fa < 0 ∨ x.2 < fa)) from fun h => q1 h.1)] at hst
        have d2 : (1 : Nat) = 1 := rfl
        simp only [VS, VD, SV, SL, T, Nat.reduceEqDiff, Nat.reduceAdd, Nat.reduceSub, Nat.reduceMul, Nat.reduceLeDiff, Nat.reduceLT, reduceIte]
        intro w3 hE3 _
        replace hown := hown.ext hE3
        replace hEx := hEx.trans hE3
        simp only [VS, VD, SV, SL, T, Nat.reduceEqDiff, Nat.reduceAdd, Nat.reduceSub, Nat.reduceMul, Nat.reduceLeDiff, Nat.reduceLT, reduceIte, f3, f3]
        refine cnd_d (fun hy => ?_) (fun hy => ?_)
        · have hu : upd1 y false x = some (x.1, x.2) := by unfold upd1; simp [hy]
          rw [hu] at hst
          simp only [VS, VD, SV, SL, T, Nat.reduceEqDiff, Nat.reduceAdd, Nat.reduceSub, Nat.reduceMul, Nat.reduceLeDiff, Nat.reduceLT, reduceIte, f8]
          refine app_line hown (by omega) hEx.size x.1 _ ?_
          intro v' w4 ho4 hE4
          simp only [VS, VD, SV, SL, T, Nat.reduceEqDiff, Nat.reduceAdd, Nat.reduceSub, Nat.reduceMul, Nat.reduceLeDiff, Nat.reduceLT, reduceIte, f9]
          exact ⟨by omega, i + 1, ⟨f1, f2, by rw [f3], f7, by simp, by omega, by rw [hst]; exact ho4, hE4 w hEx (Nat.le_refl _)⟩, by omega⟩
        · have hu : upd1 y false x = none := by unfold upd1; simp; omega
          rw [hu] at hst
          simp only [VS, VD, SV, SL, T, Nat.reduceEqDiff, Nat.reduceAdd, Nat.reduceSub, Nat.reduceMul, Nat.reduceLeDiff, Nat.reduceLT, reduceIte, f9]
          exact ⟨by omega, i + 1, ⟨f1, f2, by rw [f3], f7, by simp, by omega, by rw [hst, f8]; simpa using hown, hEx⟩, by omega⟩
    · rw [List.take_of_length_le (by omega)] at hown
      simp only [VS, VD, SV, SL, T, Nat.reduceEqDiff, Nat.reduceAdd, Nat.reduceSub, Nat.reduceMul, Nat.reduceLeDiff, Nat.reduceLT, reduceIte]
      exact ⟨f2, by rw [f3]; rfl, hown, hEx⟩
  clear hE
  rintro f0 w2 ⟨f2, f3, hown, hE⟩
  have hlen : (L.filterMap (ac1 s y k fa)).length ≤ L.length := List.length_filterMap_le _ _
  obtain ⟨v8, f8⟩ : ∃ v, f0 8 = v := ⟨_, rfl⟩
  rw [f8] at hown
  simp only [VS, VD, SV, SL, T, Nat.reduceEqDiff, Nat.reduceAdd, Nat.reduceSub, Nat.reduceMul, Nat.reduceLeDiff, Nat.reduceLT, reduceIte, f8, f2]
  refine app_line hown (by omega) hE.size k 0 ?_
  intro v' w3 ho3 hE3
  simp only [VS, VD, SV, SL, T, Nat.reduceEqDiff, Nat.reduceAdd, Nat.reduceSub, Nat.reduceMul, Nat.reduceLeDiff, Nat.reduceLT, reduceIte]
  refine hΨ _ _ ⟨?_, hE3 w hE (Nat.le_refl _)⟩
  rw [hr]
  exact ho3.sl fun _ => rfl
set_option maxHeartbeats 1000000 in
set_option maxRecDepth 10000 in
theorem rAccessRange_spec (s y l : Int) (hv : Geo s y l = true) (L : List (Int × Int)) (hL : L.length ≤ 100000) (hbd : BdL y L) (lo hi : Int) (hhi : hi ≤ 1000) (v : Value) (w : World) (h : LnAt w v L) :
    VRet Try.prog 17 #[cfgV s y l, v, .int .i64 lo, .int .i64 hi] w fun v w' => LnAt w' v (rRngX s y L lo hi) ∧ Ext w w' := by
  have hp := Geo_spec hv
  obtain ⟨a, c, rfl⟩ := lnAt_form h
  refine VRet_start T.mo ok17 rfl fun Ψ hΨ => ?_; simp only [vc17, rs17]
  simp only [VS, VD, SV, SL, T, Nat.reduceEqDiff, Nat.reduceAdd, Nat.reduceSub, Nat.reduceMul, Nat.reduceLeDiff, Nat.reduceLT, reduceIte, cfgV]
  have hE := (Ext.refl w).alloc tomb
  refine cnd_d (fun q1 => ?_) (fun q1 => ?_)
  · simp only [VS, VD, SV, SL, T, Nat.reduceEqDiff, Nat.reduceAdd, Nat.reduceSub, Nat.reduceMul, Nat.reduceLeDiff, Nat.reduceLT, reduceIte]
    refine hΨ _ _ ⟨?_, hE⟩
    unfold rRngX; rw [if_pos q1]; exact h.ext hE
  simp only [VS, VD, SV, SL, T, Nat.reduceEqDiff, Nat.reduceAdd, Nat.reduceSub, Nat.reduceMul, Nat.reduceLeDiff, Nat.reduceLT, reduceIte]
  refine cnd_d (fun q2 => ?_) (fun q2 => ?_)
  · simp only [VS, VD, SV, SL, T, Nat.reduceEqDiff, Nat.reduceAdd, Nat.reduceSub, Nat.reduceMul, Nat.reduceLeDiff, Nat.reduceLT, reduceIte]
    refine (rAccess_spec s y l hv L hL hbd (max lo 0) (by omega) _ _ (h.ext hE)).mono ?_
    rintro v w1 ⟨h1, hE1⟩
    simp only [VS, VD, SV, SL, T, Nat.reduceEqDiff, Nat.reduceAdd, Nat.reduceSub, Nat.reduceMul, Nat.reduceLeDiff, Nat.reduceLT, reduceIte]
    refine hΨ _ _ ⟨?_, hE.trans hE1⟩
    unfold rRngX; rw [if_neg q1, if_pos q2, ← q2]; exact h1
  have hr : rRngX s y L lo hi = L.filterMap (rg1 s y (max lo 0) hi) := by unfold rRngX; rw [if_neg q1, if_neg q2]; rfl
  have hlo0 : 0 ≤ max lo 0 ∧ max lo 0 ≤ 1000 := ⟨by omega, by omega⟩
  generalize max lo 0 = lo' at *
  simp only [VS, VD, SV, SL, T, Nat.reduceEqDiff, Nat.reduceAdd, Nat.reduceSub, Nat.reduceMul, Nat.reduceLeDiff, Nat.reduceLT, reduceIte]
  refine LoopP_intro (α := Nat) (fun i f' w' => f' 1 = .slice a L.length c ∧ f' 2 = .int .i64 lo' ∧ f' 3 = .int .i64 hi ∧ f' 4 = .agg #[.int .i64 s, .int .i64 y, .int .i64 l] ∧ f' 10 = .int .i64 i ∧ i ≤ L.length ∧ LnO w.heap.size w' (f' 9) ((L.take i).filterMap (rg1 s y lo' hi)) ∧ Ext w w') (fun i => L.length - i) 0 ?_ ?_
  · simp only [VS, VD, SV, SL, T, Nat.reduceEqDiff, Nat.reduceAdd, Nat.reduceSub, Nat.reduceMul, Nat.reduceLeDiff, Nat.reduceLT, reduceIte]
    exact ⟨rfl, by omega, OwnL.nil _ _ _ _ _, hE⟩
  rintro i f' w' ⟨f1, f2, f3, f4, f10, hi', hown, hEx⟩
  simp only [VS, VD, SV, SL, T, Nat.reduceEqDiff, Nat.reduceAdd, Nat.reduceSub, Nat.reduceMul, Nat.reduceLeDiff, Nat.reduceLT, reduceIte, f10, f1]
  refine cnd_d (fun hlt => ?_) (fun hlt => ?_)
  · have hi' : i < L.length := by omega
    obtain ⟨b, off, cs, e, fz, rfl, hbk, hle, hext, hc0, hc1⟩ := lnAt_get (h.ext hEx) hi'
    have hst : (L.take (i + 1)).filterMap (rg1 s y lo' hi) = (L.take i).filterMap (rg1 s y lo' hi) ++ (rg1 s y lo' hi L[i]).toList := by
      rw [List.take_succ_eq_append_getElem hi', List.filterMap_append]; simp only [List.filterMap_cons, List.filterMap_nil]; cases rg1 s y lo' hi L[i] <;> rfl
    have hlen : ((L.take i).filterMap (rg1 s y lo' hi)).length ≤ i := Nat.le_trans (List.length_filterMap_le _ _) (List.length_take_le _ _)
    have hxb := hbd _ (List.getElem_mem hi')
    unfold rg1 at hst
    change (L.take (i + 1)).filterMap (rg1 s y lo' hi) = (L.take i).filterMap (rg1 s y lo' hi) ++ _ at hst
    generalize (L.take i).filterMap (rg1 s y lo' hi) = R at *
    generalize L[i] = x at *
    have hm0 := Int.emod_nonneg x.1 (show s ≠ 0 by omega)
    have hm1 := Int.emod_lt_of_pos x.1 (show 0 < s by omega)
    obtain ⟨v9, f9⟩ : ∃ v, f' 9 = v := ⟨_, rfl⟩
    rw [f9] at hown
    simp only [VS, VD, SV, SL, T, Nat.reduceEqDiff, Nat.reduceAdd, Nat.reduceSub, Nat.reduceMul, Nat.reduceLeDiff, Nat.reduceLT, reduceIte, f10, f1, Int.toNat_natCast, hbk, hle, hext]
    refine ⟨by omega, ?_⟩
    replace hown := hown.ext ((Ext.refl w').alloc tomb)
    replace hEx := hEx.alloc tomb
    generalize w'.alloc tomb = wa at *
    refine DW_intro (fun _ _ _ _ => True) ?_
    simp only [VS, VD, SV, SL, T, Nat.reduceEqDiff, Nat.reduceAdd, Nat.reduceSub, Nat.reduceMul, Nat.reduceLeDiff, Nat.reduceLT, reduceIte, f4, f2, f3]
    refine ⟨by omega, ?_⟩
    intro w3 hE3 _
    simp only [VS, VD, SV, SL, T, Nat.reduceEqDiff, Nat.reduceAdd, Nat.reduceSub, Nat.reduceMul, Nat.reduceLeDiff, Nat.reduceLT, reduceIte]
    refine (touched_spec s y l (x.1 % s) lo' hi (by omega) ⟨hm0, hm1⟩ (by omega) _).mono ?_
    rintro _ w5 ⟨rfl, hE5⟩
    replace hown := hown.ext (hE3.trans hE5)
    replace hEx := hEx.trans (hE3.trans hE5)
    generalize decide (tch s lo' hi (x.1 % s)) = up at *
    cases up with
    | true =>
      simp only [VS, VD, SV, SL, T, Nat.reduceEqDiff, Nat.reduceAdd, Nat.reduceSub, Nat.reduceMul, Nat.reduceLeDiff, Nat.reduceLT, reduceIte, f4]
      refine ⟨by omega, ?_⟩
      refine cnd_d (fun hy => ?_) (fun hy => ?_)
      · have hu : upd1 y true x = some (x.1, x.2 + 1) := by unfold upd1; simp [hy]
        rw [hu] at hst
        simp only [VS, VD, SV, SL, T, Nat.reduceEqDiff, Nat.reduceAdd, Nat.reduceSub, Nat.reduceMul, Nat.reduceLeDiff, Nat.reduceLT, reduceIte, f9]
        refine app_line hown (by omega) hEx.size x.1 _ ?_
        intro v' w4 ho4 hE4
        simp only [VS, VD, SV, SL, T, Nat.reduceEqDiff, Nat.reduceAdd, Nat.reduceSub, Nat.reduceMul, Nat.reduceLeDiff, Nat.reduceLT, reduceIte, f10]
        exact ⟨by omega, i + 1, ⟨f1, f2, f3, by rw [f4], by simp, by omega, by rw [hst]; exact ho4, hE4 w hEx (Nat.le_refl _)⟩, by omega⟩
      · have hu : upd1 y true x = none := by unfold upd1; simp; omega
        rw [hu] at hst
        simp only [VS, VD, SV, SL, T, Nat.reduceEqDiff, Nat.reduceAdd, Nat.reduceSub, Nat.reduceMul, Nat.reduceLeDiff, Nat.reduceLT, reduceIte, f10]
        exact ⟨by omega, i + 1, ⟨f1, f2, f3, by rw [f4], by simp, by omega, by rw [hst, f9]; simpa using hown, hEx⟩, by omega⟩
    | false =>
      simp only [VS, VD, SV, SL, T, Nat.reduceEqDiff, Nat.reduceAdd, Nat.reduceSub, Nat.reduceMul, Nat.reduceLeDiff, Nat.reduceLT, reduceIte, f4]
      refine cnd_d (fun hy => ?_) (fun hy => ?_)
      · have hu : upd1 y false x = some (x.1, x.2) := by unfold upd1; simp [hy]
        rw [hu] at hst
        simp only [VS, VD, SV, SL, T, Nat.reduceEqDiff, Nat.reduceAdd, Nat.reduceSub, Nat.reduceMul, Nat.reduceLeDiff, Nat.reduceLT, reduceIte, f9]
        refine app_line hown (by omega) hEx.size x.1 _ ?_
        intro v' w4 ho4 hE4
        simp only [VS, VD, SV, SL, T, Nat.reduceEqDiff, Nat.reduceAdd, Nat.reduceSub, Nat.reduceMul, Nat.reduceLeDiff, Nat.reduceLT, reduceIte, f10]
        exact ⟨by omega, i + 1, ⟨f1, f2, f3, by rw [f4], by simp, by omega, by rw [hst]; exact ho4, hE4 w hEx (Nat.le_refl _)⟩, by omega⟩
      · have hu : upd1 y false x = none := by unfold upd1; simp; omega
        rw [hu] at hst
        simp only [VS, VD, SV, SL, T, Nat.reduceEqDiff, Nat.reduceAdd, Nat.reduceSub, Nat.reduceMul, Nat.reduceLeDiff, Nat.reduceLT, reduceIte, f10]
        exact ⟨by omega, i + 1, ⟨f1, f2, f3, by rw [f4], by simp, by omega, by rw [hst, f9]; simpa using hown, hEx⟩, by omega⟩
  · rw [List.take_of_length_le (by omega)] at hown
    simp only [VS, VD, SV, SL, T, Nat.reduceEqDiff, Nat.reduceAdd, Nat.reduceSub, Nat.reduceMul, Nat.reduceLeDiff, Nat.reduceLT, reduceIte]
    refine hΨ _ _ ⟨?_, hEx⟩
    rw [hr]
    exact hown.sl fun _ => rfl
end Go.Proofs.Ytehmbpkcbmnfnaa

/-
  persist: PersistFits.
-/
import Derived.Test.YtneipineehichaaZPC6
set_option linter.unusedSimpArgs false
set_option linter.unusedVariables false
namespace Go.Proofs.Ytneipineehichaa
open Go.W Go.RowKit
/-- a sum over the sets -/
def psum (g : Nat → Nat) : Nat → Nat
  | 0 => 0
  | k + 1 => psum g k + g k
theorem psum_flat (g : Nat → List Int) (k : Nat) : ((List.range k).flatMap g).length = psum (fun i => (g i).length) k := by
  induction k with
  | zero => rfl
  | succ k ih => rw [List.range_succ, List.flatMap_append, List.length_append, ih]; simp [psum]
theorem psum_le {g h : Nat → Nat} {k : Nat} (hl : ∀ i, i < k → g i ≤ h i) : psum g k ≤ psum h k := by
  induction k with
  | zero => exact Nat.le_refl _
  | succ k ih =>
    have := ih fun i hi => hl i (by omega)
    have := hl k (by omega)
    simp only [psum]
    omega
theorem psum_eq {g h : Nat → Nat} {k : Nat} (hl : ∀ i, i < k → g i = h i) : psum g k = psum h k :=
  Nat.le_antisymm (psum_le fun i hi => Nat.le_of_eq (hl i hi)) (psum_le fun i hi => Nat.le_of_eq (hl i hi).symm)
theorem psum_const (c k : Nat) : psum (fun _ => c) k = k * c := by
  induction k with
  | zero => simp [psum]
  | succ k ih => simp only [psum, ih, Nat.succ_mul]
theorem psum_one {g : Nat → Nat} {k i : Nat} (hi : i < k) : g i ≤ psum g k := by
  induction k with
  | zero => omega
  | succ k ih =>
    simp only [psum]
    by_cases e : i = k
    · subst e; omega
    · have := ih (by omega); omega
/-- the persistent lines, set by set -/
theorem pers_sum (L : List (Int × Int)) (s y : Int) (hs : 0 < s) : (pers L s y).length = psum (fun i => if (cnt L s i : Int) ≤ y then cnt L s i else 0) s.toNat := by
  have hperm : (pers L s y).Perm ((List.range s.toNat).flatMap fun i => if (cnt L s i : Int) ≤ y then lns L s i MX else []) := by
    refine (List.perm_ext_iff_of_nodup ((pers_sorted L s y).imp (by intro a b h; omega)) ?_).2 fun n => ?_
    · unfold List.Nodup
      rw [List.pairwise_flatMap]
      refine ⟨fun i _ => ?_, ?_⟩
      · split
        · exact lns_nodup _ _ _ _
        · exact List.nodup_nil
      · refine List.nodup_range.imp ?_
        intro a b hab n ha n' hb e
        subst e
        split at ha
        · split at hb
          · rw [lns_mem] at ha hb; omega
          · simp at hb
        · simp at ha
    · rw [pers_mem, List.mem_flatMap]
      have h0 := Int.emod_nonneg n (show s ≠ 0 by omega)
      have h1 := Int.emod_lt_of_pos n hs
      constructor
      · rintro ⟨h2, h3⟩
        refine ⟨(n % s).toNat, List.mem_range.2 (by omega), ?_⟩
        rw [if_pos h3, lns_mem]
        have := acd_range h2
        have := MX_eq
        exact ⟨h2, by omega, rfl⟩
      · rintro ⟨i, hi, h⟩
        split at h
        · rename_i hc
          rw [lns_mem] at h
          obtain ⟨h2, _, rfl⟩ := h
          exact ⟨h2, hc⟩
        · simp at h
  rw [hperm.length_eq, psum_flat]
  refine psum_eq fun i hi => ?_
  split
  · rfl
  · rfl
theorem fits_1 (L : List (Int × Int)) (s y : Int) (hs : 0 < s) : (pers L s y).length ≤ psum (cnt L s) s.toNat := by
  rw [pers_sum L s y hs]
  refine psum_le fun i hi => ?_
  split <;> omega
theorem fits_2 (L : List (Int × Int)) (s y : Int) (hs : 0 < s) (h : ∀ i, i < s.toNat → (cnt L s i : Int) ≤ y) : (pers L s y).length = psum (cnt L s) s.toNat := by
  rw [pers_sum L s y hs]
  exact psum_eq fun i hi => if_pos (h i hi)
theorem fits_3 (L : List (Int × Int)) (s y : Int) (hs : 0 < s) (h : ∀ i, i < s.toNat → y < (cnt L s i : Int)) : (pers L s y).length = 0 := by
  rw [pers_sum L s y hs]
  have := psum_eq (k := s.toNat) (g := fun i => if (cnt L s i : Int) ≤ y then cnt L s i else 0) (h := fun _ => 0) fun i hi => if_neg (by have := h i hi; omega)
  rw [this, psum_const]
  omega
theorem fits_4 (L : List (Int × Int)) (s y : Int) (hs : 0 < s) (hy : 0 ≤ y) : ((pers L s y).length : Int) ≤ s * y := by
  rw [pers_sum L s y hs]
  have := psum_le (k := s.toNat) (g := fun i => if (cnt L s i : Int) ≤ y then cnt L s i else 0) (h := fun _ => y.toNat) fun i hi => by
    show (if (cnt L s i : Int) ≤ y then cnt L s i else 0) ≤ y.toNat
    split <;> omega
  rw [psum_const] at this
  have h2 : ((s.toNat * y.toNat : Nat) : Int) = s * y := by
    rw [Int.natCast_mul, Int.toNat_of_nonneg (by omega), Int.toNat_of_nonneg hy]
  omega
theorem fits_5 (L : List (Int × Int)) (s y : Int) (hs : 0 < s) (h : (psum (cnt L s) s.toNat : Int) ≤ y) : (pers L s y).length = psum (cnt L s) s.toNat :=
  fits_2 L s y hs fun i hi => by have := psum_one (g := cnt L s) hi; omega
theorem cnt_len (L : List (Int × Int)) (s : Int) (i : Nat) : cnt L s i ≤ 65536 := lns_len L s i MX
theorem psum_bd (L : List (Int × Int)) (s : Int) (k : Nat) (hk : k ≤ 64) : psum (cnt L s) k ≤ 64 * 65536 := by
  have := psum_le (k := k) (g := cnt L s) (h := fun _ => 65536) fun i _ => cnt_len L s i
  rw [psum_const] at this
  exact Nat.le_trans this (Nat.mul_le_mul_right 65536 hk)
set_option maxRecDepth 10000 in
theorem PersistFits_spec (s y l : Int) (lv : Value) (L : List (Int × Int)) (w : World) (h : RefsAt w lv L) :
    VRet Try.prog 6 #[cfgV s y l, lv] w fun v w' => v = .bool true ∧ Ext w w' := by
  obtain ⟨la, lc, rfl⟩ := h.form
  refine VRet_start T.mo ok6 rfl fun Ψ hΨ => ?_; simp only [vc6, rs6]
  simp only [VS, VD, SV, SL, T, Nat.reduceEqDiff, Nat.reduceAdd, Nat.reduceSub, Nat.reduceMul, Nat.reduceLeDiff, Nat.reduceLT, reduceIte, cfgV]
  refine (awake_spec _).mono ?_
  rintro _ w1 ⟨rfl, hE⟩
  replace hE := ((Ext.refl w).alloc tomb).trans hE
  simp only [VS, VD, SV, SL, T, Nat.reduceEqDiff, Nat.reduceAdd, Nat.reduceSub, Nat.reduceMul, Nat.reduceLeDiff, Nat.reduceLT, reduceIte]
  refine (usable_spec s y l _ L none 0 0 w1 (h.ext hE)).mono ?_
  rintro _ w2 ⟨rfl, hE2⟩
  replace hE := hE.trans hE2
  by_cases hu : usb s y l L 0 = true
  · obtain ⟨hg, h12, _, hm⟩ := usb_spec hu
    have hp := Geo_spec hg
    have ec : confI s y l L = cnts L s := by rw [confI, if_pos hg]
    have ep : persI s y l L = pers L s y := by rw [persI, if_pos hg]
    have ef : flushI s y l = s * y := by rw [flushI, if_pos hg]
    have hcl : (cnts L s).length = s.toNat := by rw [cnts, List.length_map, List.length_range]
    simp only [VS, VD, SV, SL, T, Nat.reduceEqDiff, Nat.reduceAdd, Nat.reduceSub, Nat.reduceMul, Nat.reduceLeDiff, Nat.reduceLT, reduceIte, hu, Bool.not_true]
    refine (Conflicts_spec s y l _ L (by omega) w2 (h.ext hE)).mono ?_
    rintro v3 w3 ⟨hI, hE3⟩
    rw [ec] at hI
    replace hE := hE.trans hE3
    obtain ⟨ca, cc, rfl⟩ := hI.form
    rw [hcl] at *
    simp only [VS, VD, SV, SL, T, Nat.reduceEqDiff, Nat.reduceAdd, Nat.reduceSub, Nat.reduceMul, Nat.reduceLeDiff, Nat.reduceLT, reduceIte]
    refine loop_cB (fun f' w' => f' 1 = .slice la L.length lc ∧ f' 2 = .agg #[.int .i64 s, .int .i64 y, .int .i64 l] ∧ Ext w w' ∧ f' 5 = .int .i64 (psum (cnt L s) s.toNat) ∧ (∃ m, f' 6 = .int .i64 m ∧ ∀ j, j < s.toNat → (cnt L s j : Int) ≤ m) ∧ (∃ e, f' 7 = .int .i64 e ∧ ∀ j, j < s.toNat → e ≤ (cnt L s j : Int))) ?_ ?_
    · refine LoopP_intro (α := Nat) (fun i f' w' => f' 1 = .slice la L.length lc ∧ f' 2 = .agg #[.int .i64 s, .int .i64 y, .int .i64 l] ∧ f' 19 = .slice ca s.toNat cc ∧ f' 20 = .int .i64 s.toNat ∧ f' 21 = .int .i64 i ∧ i ≤ s.toNat ∧ w' = w3 ∧ f' 5 = .int .i64 (psum (cnt L s) i) ∧ (∃ m, f' 6 = .int .i64 m ∧ ∀ j, j < i → (cnt L s j : Int) ≤ m) ∧ (∃ e, f' 7 = .int .i64 e ∧ ∀ j, j < i → e ≤ (cnt L s j : Int))) (fun i => s.toNat - i) 0 ?_ ?_
      · simp only [VS, VD, SV, SL, T, Nat.reduceEqDiff, Nat.reduceAdd, Nat.reduceSub, Nat.reduceMul, Nat.reduceLeDiff, Nat.reduceLT, reduceIte]
        exact ⟨rfl, Nat.zero_le _, rfl, ⟨0, rfl, fun j hj => by omega⟩, ⟨_, rfl, fun j hj => by omega⟩⟩
      · rintro i f' w' ⟨f1, f2, f19, f20, f21, hi, rfl, f5, ⟨m, f6, hmx⟩, ⟨e, f7, hmn⟩⟩
        simp only [VS, VD, SV, SL, T, Nat.reduceEqDiff, Nat.reduceAdd, Nat.reduceSub, Nat.reduceMul, Nat.reduceLeDiff, Nat.reduceLT, reduceIte, f20, f21]
        by_cases hlt : (i : Int) < s.toNat
        · rw [decide_eq_true hlt]
          obtain ⟨b, off, cs, et, fz, rfl, _, hb, hcs⟩ := hI.get (i := i) (x := (cnt L s i : Int)) (by simp [cnts, List.getElem?_range (show i < s.toNat by omega)])
          have hbd := psum_bd L s i (by omega)
          have hcb := cnt_len L s i
          simp only [VS, VD, SV, SL, T, Nat.reduceEqDiff, Nat.reduceAdd, Nat.reduceSub, Nat.reduceMul, Nat.reduceLeDiff, Nat.reduceLT, reduceIte, f1, f2, f5, f6, f7, f19, f20, f21, hb, hcs, Int.toNat_natCast]
          refine ⟨by omega, by omega, by omega, i + 1, ⟨by simp, by omega, by simp [psum], ⟨_, rfl, fun j hj => ?_⟩, ⟨_, rfl, fun j hj => ?_⟩⟩, by omega⟩
          · by_cases ej : j = i
            · subst ej; omega
            · have := hmx j (by omega); omega
          · by_cases ej : j = i
            · subst ej; omega
            · have := hmn j (by omega); omega
        · rw [decide_eq_false hlt]
          obtain rfl : i = s.toNat := by omega
          simp only [VS, VD, SV, SL, T, Nat.reduceEqDiff, Nat.reduceAdd, Nat.reduceSub, Nat.reduceMul, Nat.reduceLeDiff, Nat.reduceLT, reduceIte, f1, f2, f5]
          exact ⟨hE, ⟨m, f6, hmx⟩, ⟨e, f7, hmn⟩⟩
    · rintro f3 w4 ⟨g1, g2, hE4, g5, ⟨m, g6, hmx⟩, ⟨e, g7, hmn⟩⟩
      simp only [VS, VD, SV, SL, T, Nat.reduceEqDiff, Nat.reduceAdd, Nat.reduceSub, Nat.reduceMul, Nat.reduceLeDiff, Nat.reduceLT, reduceIte, g1, g2]
      refine (Misses_spec s y l _ L (by omega) w4 (h.ext hE4)).mono ?_
      rintro _ w5 ⟨rfl, hE5⟩
      rw [ep]
      have q1 := fits_1 L s y (by omega)
      have q2 : m ≤ y → (pers L s y).length = psum (cnt L s) s.toNat := fun hh => fits_2 L s y (by omega) fun i hi => by have := hmx i hi; omega
      have q3 : y < e → (pers L s y).length = 0 := fun hh => fits_3 L s y (by omega) fun i hi => by have := hmn i hi; omega
      have q4 := fits_4 L s y (by omega) (by omega)
      have q5 := fits_5 L s y (by omega)
      generalize (pers L s y).length = n at *
      generalize psum (cnt L s) s.toNat = tot at *
      simp only [VS, VD, SV, SL, T, Nat.reduceEqDiff, Nat.reduceAdd, Nat.reduceSub, Nat.reduceMul, Nat.reduceLeDiff, Nat.reduceLT, reduceIte, g5]
      rw [decide_eq_true (show (n : Int) ≤ tot by omega)]
      simp only [VS, VD, SV, SL, T, Nat.reduceEqDiff, Nat.reduceAdd, Nat.reduceSub, Nat.reduceMul, Nat.reduceLeDiff, Nat.reduceLT, reduceIte, g2, g5, g6]
      have hfin : ∀ w6, Ext w5 w6 → Ext w w6 := fun w6 h => (hE4.trans hE5).trans h
      by_cases a1 : y < m
      · rw [decide_eq_true a1]
        simp only [VS, VD, SV, SL, T, Nat.reduceEqDiff, Nat.reduceAdd, Nat.reduceSub, Nat.reduceMul, Nat.reduceLeDiff, Nat.reduceLT, reduceIte, g2, g5, g6, g7]
        by_cases a2 : e ≤ y
        · rw [decide_eq_true a2]
          simp only [VS, VD, SV, SL, T, Nat.reduceEqDiff, Nat.reduceAdd, Nat.reduceSub, Nat.reduceMul, Nat.reduceLeDiff, Nat.reduceLT, reduceIte, g2, g5, g6, g7]
          refine (PFlush_spec s y l w5).mono ?_
          rintro _ w6 ⟨rfl, hE6⟩
          rw [ef]
          have d3 : decide ((n : Int) ≤ s * y) = true := decide_eq_true q4
          simp only [VS, VD, SV, SL, T, Nat.reduceEqDiff, Nat.reduceAdd, Nat.reduceSub, Nat.reduceMul, Nat.reduceLeDiff, Nat.reduceLT, reduceIte, g2, g5, g6, g7, d3]
          by_cases a3 : y < (tot : Int)
          · rw [decide_eq_true a3]
            simp only [VS, VD, SV, SL, T, Nat.reduceEqDiff, Nat.reduceAdd, Nat.reduceSub, Nat.reduceMul, Nat.reduceLeDiff, Nat.reduceLT, reduceIte, g2, g5, g6, g7]
            exact hΨ _ _ ⟨rfl, hfin _ hE6⟩
          · rw [decide_eq_false a3]
            have n3 := q5 (by omega)
            have d4 : decide ((n : Int) = tot) = true := decide_eq_true (by omega)
            simp only [VS, VD, SV, SL, T, Nat.reduceEqDiff, Nat.reduceAdd, Nat.reduceSub, Nat.reduceMul, Nat.reduceLeDiff, Nat.reduceLT, reduceIte, g2, g5, g6, g7, d4]
            exact hΨ _ _ ⟨rfl, hfin _ hE6⟩
        · rw [decide_eq_false a2]
          have n2 := q3 (by omega)
          have d2 : decide ((n : Int) = 0) = true := decide_eq_true (by omega)
          simp only [VS, VD, SV, SL, T, Nat.reduceEqDiff, Nat.reduceAdd, Nat.reduceSub, Nat.reduceMul, Nat.reduceLeDiff, Nat.reduceLT, reduceIte, g2, g5, g6, g7, d2]
          refine (PFlush_spec s y l w5).mono ?_
          rintro _ w6 ⟨rfl, hE6⟩
          rw [ef]
          have d3 : decide ((n : Int) ≤ s * y) = true := decide_eq_true q4
          simp only [VS, VD, SV, SL, T, Nat.reduceEqDiff, Nat.reduceAdd, Nat.reduceSub, Nat.reduceMul, Nat.reduceLeDiff, Nat.reduceLT, reduceIte, g2, g5, g6, g7, d3]
          by_cases a3 : y < (tot : Int)
          · rw [decide_eq_true a3]
            simp only [VS, VD, SV, SL, T, Nat.reduceEqDiff, Nat.reduceAdd, Nat.reduceSub, Nat.reduceMul, Nat.reduceLeDiff, Nat.reduceLT, reduceIte, g2, g5, g6, g7]
            exact hΨ _ _ ⟨rfl, hfin _ hE6⟩
          · rw [decide_eq_false a3]
            have n3 := q5 (by omega)
            have d4 : decide ((n : Int) = tot) = true := decide_eq_true (by omega)
            simp only [VS, VD, SV, SL, T, Nat.reduceEqDiff, Nat.reduceAdd, Nat.reduceSub, Nat.reduceMul, Nat.reduceLeDiff, Nat.reduceLT, reduceIte, g2, g5, g6, g7, d4]
            exact hΨ _ _ ⟨rfl, hfin _ hE6⟩
      · rw [decide_eq_false a1]
        have n1 := q2 (by omega)
        have d1 : decide ((n : Int) = tot) = true := decide_eq_true (by omega)
        simp only [VS, VD, SV, SL, T, Nat.reduceEqDiff, Nat.reduceAdd, Nat.reduceSub, Nat.reduceMul, Nat.reduceLeDiff, Nat.reduceLT, reduceIte, g2, g5, g6, g7, d1]
        by_cases a2 : e ≤ y
        · rw [decide_eq_true a2]
          simp only [VS, VD, SV, SL, T, Nat.reduceEqDiff, Nat.reduceAdd, Nat.reduceSub, Nat.reduceMul, Nat.reduceLeDiff, Nat.reduceLT, reduceIte, g2, g5, g6, g7]
          refine (PFlush_spec s y l w5).mono ?_
          rintro _ w6 ⟨rfl, hE6⟩
          rw [ef]
          have d3 : decide ((n : Int) ≤ s * y) = true := decide_eq_true q4
          simp only [VS, VD, SV, SL, T, Nat.reduceEqDiff, Nat.reduceAdd, Nat.reduceSub, Nat.reduceMul, Nat.reduceLeDiff, Nat.reduceLT, reduceIte, g2, g5, g6, g7, d3]
          by_cases a3 : y < (tot : Int)
          · rw [decide_eq_true a3]
            simp only [VS, VD, SV, SL, T, Nat.reduceEqDiff, Nat.reduceAdd, Nat.reduceSub, Nat.reduceMul, Nat.reduceLeDiff, Nat.reduceLT, reduceIte, g2, g5, g6, g7]
            exact hΨ _ _ ⟨rfl, hfin _ hE6⟩
          · rw [decide_eq_false a3]
            have n3 := q5 (by omega)
            have d4 : decide ((n : Int) = tot) = true := decide_eq_true (by omega)
            simp only [VS, VD, SV, SL, T, Nat.reduceEqDiff, Nat.reduceAdd, Nat.reduceSub, Nat.reduceMul, Nat.reduceLeDiff, Nat.reduceLT, reduceIte, g2, g5, g6, g7, d4]
            exact hΨ _ _ ⟨rfl, hfin _ hE6⟩
        · rw [decide_eq_false a2]
          have n2 := q3 (by omega)
          have d2 : decide ((n : Int) = 0) = true := decide_eq_true (by omega)
          simp only [VS, VD, SV, SL, T, Nat.reduceEqDiff, Nat.reduceAdd, Nat.reduceSub, Nat.reduceMul, Nat.reduceLeDiff, Nat.reduceLT, reduceIte, g2, g5, g6, g7, d2]
          refine (PFlush_spec s y l w5).mono ?_
          rintro _ w6 ⟨rfl, hE6⟩
          rw [ef]
          have d3 : decide ((n : Int) ≤ s * y) = true := decide_eq_true q4
          simp only [VS, VD, SV, SL, T, Nat.reduceEqDiff, Nat.reduceAdd, Nat.reduceSub, Nat.reduceMul, Nat.reduceLeDiff, Nat.reduceLT, reduceIte, g2, g5, g6, g7, d3]
          by_cases a3 : y < (tot : Int)
          · rw [decide_eq_true a3]
            simp only [VS, VD, SV, SL, T, Nat.reduceEqDiff, Nat.reduceAdd, Nat.reduceSub, Nat.reduceMul, Nat.reduceLeDiff, Nat.reduceLT, reduceIte, g2, g5, g6, g7]
            exact hΨ _ _ ⟨rfl, hfin _ hE6⟩
          · rw [decide_eq_false a3]
            have n3 := q5 (by omega)
            have d4 : decide ((n : Int) = tot) = true := decide_eq_true (by omega)
            simp only [VS, VD, SV, SL, T, Nat.reduceEqDiff, Nat.reduceAdd, Nat.reduceSub, Nat.reduceMul, Nat.reduceLeDiff, Nat.reduceLT, reduceIte, g2, g5, g6, g7, d4]
            exact hΨ _ _ ⟨rfl, hfin _ hE6⟩
  · have hu' : usb s y l L 0 = false := by simpa using hu
    simp only [VS, VD, SV, SL, T, Nat.reduceEqDiff, Nat.reduceAdd, Nat.reduceSub, Nat.reduceMul, Nat.reduceLeDiff, Nat.reduceLT, reduceIte, hu', Bool.not_false]
    exact hΨ _ _ ⟨rfl, hE⟩
end Go.Proofs.Ytneipineehichaa

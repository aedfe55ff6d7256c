/-
  persist: PersistStays.
-/
import Derived.Test.YtneipineehichaaZPD2
set_option linter.unusedSimpArgs false
set_option linter.unusedVariables false
namespace Go.Proofs.Ytneipineehichaa
open Go.W Go.RowKit
open C (CacheAt stS addH hitS Mv Chg Access_mv Flush_mv ptr dst)
set_option maxRecDepth 100000 in
theorem PersistStays_spec (s y l : Int) (lv : Value) (L : List (Int × Int)) (xv : Value) (xs : List Int) (w : World) (h : RefsAt w lv L) (hxv : SlAt w xv 1 (xs.map fun n => [.int .u16 n])) (hM : xs.length ≤ maxLen ∧ ∀ n ∈ xs, 0 ≤ n ∧ n ≤ 65535) :
    VRet Try.prog 9 #[cfgV s y l, lv, xv] w fun v w' => v = .bool true ∧ Ext w w' := by
  obtain ⟨la, lc, rfl⟩ := h.form
  obtain ⟨xa, xc, rfl⟩ := hxv.form
  simp only [List.length_map] at *
  refine VRet_start T.mo ok9 rfl fun Ψ hΨ => ?_; simp only [vc9, rs9]
  simp only [VS, VD, SV, SL, T, Nat.reduceEqDiff, Nat.reduceAdd, Nat.reduceSub, Nat.reduceMul, Nat.reduceLeDiff, Nat.reduceLT, reduceIte, cfgV]
  refine (awake_spec _).mono ?_
  rintro _ w1 ⟨rfl, hE⟩
  replace hE := ((Ext.refl w).alloc tomb).trans hE
  simp only [VS, VD, SV, SL, T, Nat.reduceEqDiff, Nat.reduceAdd, Nat.reduceSub, Nat.reduceMul, Nat.reduceLeDiff, Nat.reduceLT, reduceIte]
  refine (usable_spec s y l _ L _ xs.length _ w1 (h.ext hE)).mono ?_
  rintro _ w2 ⟨rfl, hE2⟩
  replace hE := hE.trans hE2
  by_cases hu : usb s y l L xs.length = true
  case neg =>
    have hu' : usb s y l L xs.length = false := by simpa using hu
    simp only [VS, VD, SV, SL, T, Nat.reduceEqDiff, Nat.reduceAdd, Nat.reduceSub, Nat.reduceMul, Nat.reduceLeDiff, Nat.reduceLT, reduceIte, hu', Bool.not_false]
    exact hΨ _ _ ⟨rfl, hE⟩
  obtain ⟨hg, h12, hx2, hm⟩ := usb_spec hu
  have hp := Geo_spec hg
  simp only [VS, VD, SV, SL, T, Nat.reduceEqDiff, Nat.reduceAdd, Nat.reduceSub, Nat.reduceMul, Nat.reduceLeDiff, Nat.reduceLT, reduceIte, hu, Bool.not_true]
  refine (C.New_spec s y l w2).mono ?_
  rintro v3 w3 hq
  rcases hq with ⟨hg', _⟩ | ⟨_, p, rfl, hC, hE3⟩
  · rw [hg] at hg'; cases hg'
  rw [show List.replicate s.toNat [] = stS s y fun _ => [] from C.emp_stS s y] at hC
  generalize hF0 : (fun b => w2.heap.size ≤ b ∧ b < w3.heap.size) = F0 at hC
  have hF1 : ∀ b, F0 b → w2.heap.size ≤ b ∧ b < w3.heap.size := fun b hb => by subst hF0; exact hb
  have hFw : ∀ b, F0 b → w.heap.size ≤ b := fun b hb => Nat.le_trans hE.size (hF1 b hb).1
  have hR3 : RefsAt (hid F0 w3) (.slice la L.length lc) L := SlAt.per (h.ext hE) (hid_new hE3 fun b hb => (hF1 b hb).1)
  have hX3 : SlAt (hid F0 w3) (.slice xa xs.length xc) 1 (xs.map fun n => [.int .u16 n]) := SlAt.per (hxv.ext hE) (hid_new hE3 fun b hb => (hF1 b hb).1)
  replace hE := hE.trans hE3
  have d0 : decide ((0 : Int) = 0) = true := rfl
  have ep : persI s y l L = pers L s y := by rw [persI, if_pos hg]
  have hpl := pers_len L s y
  simp only [VS, VD, SV, SL, T, Nat.reduceEqDiff, Nat.reduceAdd, Nat.reduceSub, Nat.reduceMul, Nat.reduceLeDiff, Nat.reduceLT, reduceIte, d0, Bool.not_true]
  refine (VRet.hidE (R := fun w v => IntsAt w v (persI s y l L)) (fun _ _ _ h k => h.per k) (fun b hb => (hF1 b hb).2) (Persistent_spec s y l _ L (by omega) _ hR3)).mono ?_
  rintro v4 w4 ⟨hI4, hE4⟩
  replace hE := hE.trans hE4
  replace hC := hC.ext hE4
  replace hR3 := SlAt.per hR3 (hid_ext (F := F0) hE4)
  replace hX3 := hX3.per (hid_ext (F := F0) hE4)
  have hF4 : ∀ b, F0 b → b < w4.heap.size := fun b hb => Nat.lt_of_lt_of_le (hF1 b hb).2 hE4.size
  rw [ep] at hI4
  simp only [VS, VD, SV, SL, T, Nat.reduceEqDiff, Nat.reduceAdd, Nat.reduceSub, Nat.reduceMul, Nat.reduceLeDiff, Nat.reduceLT, reduceIte]
  refine (VRet.hidE (R := fun w v => FnAt w v (pers L s y)) (fun _ _ _ h k => h.per k) hF4 (contains_spec v4 (pers L s y) (by omega) _ hI4)).mono ?_
  rintro fv w5 ⟨hf5, hE5⟩
  replace hE := hE.trans hE5
  replace hC := hC.ext hE5
  replace hR3 := SlAt.per hR3 (hid_ext (F := F0) hE5)
  replace hX3 := hX3.per (hid_ext (F := F0) hE5)
  have hF5 : ∀ b, F0 b → b < w5.heap.size := fun b hb => Nat.lt_of_lt_of_le (hF4 b hb) hE5.size
  simp only [VS, VD, SV, SL, T, Nat.reduceEqDiff, Nat.reduceAdd, Nat.reduceSub, Nat.reduceMul, Nat.reduceLeDiff, Nat.reduceLT, reduceIte]
  refine (VRet.hidE (R := fun w v => IntsAt w v (acs L xs)) (fun _ _ _ h k => h.per k) hF5 (accesses_spec _ L (by omega) _ xs (by omega) hM.2 _ hR3 hX3)).mono ?_
  rintro v7 w7 ⟨hA, hE7⟩
  replace hf5 := hf5.per (hid_ext (F := F0) hE7)
  replace hC := hC.ext hE7
  replace hE := hE.trans hE7
  have hrw := hE.size
  obtain ⟨aa, ac, rfl⟩ := hA.form
  have hal := acs_len L xs
  simp only [VS, VD, SV, SL, T, Nat.reduceEqDiff, Nat.reduceAdd, Nat.reduceSub, Nat.reduceMul, Nat.reduceLeDiff, Nat.reduceLT, reduceIte]
  refine LoopP_intro (α := Nat) (fun i f' w' => f' 3 = .agg #[.int .i64 s, .int .i64 y, .int .i64 l] ∧ f' 7 = ptr p ∧ f' 9 = fv ∧ f' 35 = .slice aa (acs L xs).length ac ∧ f' 36 = .int .i64 (acs L xs).length ∧ f' 37 = .int .i64 i ∧ i ≤ (acs L xs).length ∧ Ext w w' ∧
      ∃ (F : Nat → Prop) (H : Nat → List Int) (D : List Int), CacheAt w' F p s y l (stS s y H) ∧ HL L s H ∧ Chg F0 w7 w' ∧ (∀ b, F b → F0 b ∨ w7.heap.size ≤ b) ∧ IntO w7.heap.size w' (f' 10) D ∧ (∀ b, (f' 10).ownBlock = some b → ¬ F b) ∧ D.length ≤ i ∧ ∀ k ∈ D, k ∈ pers L s y ∧ k ∈ H (k % s).toNat) (fun i => (acs L xs).length - i) 0 ?_ ?_
  · simp only [VS, VD, SV, SL, T, Nat.reduceEqDiff, Nat.reduceAdd, Nat.reduceSub, Nat.reduceMul, Nat.reduceLeDiff, Nat.reduceLT, reduceIte]
    exact ⟨rfl, Nat.zero_le _, hE, F0, _, [], hC, HL.nil L s, C.Chg.of_ext (Ext.refl _), fun b hb => .inl hb, World.ownsRow_nil _ _ _ _, fun b hb => (by cases hb), Nat.le_refl _, fun k hk => by simp at hk⟩
  · rintro i f' w' ⟨f3, f7, f9, f35, f36, f37, hi, hE', F, H, D, hC', hH, hCh, hFF, hO', hOF, hDl, hD⟩
    simp only [VS, VD, SV, SL, T, Nat.reduceEqDiff, Nat.reduceAdd, Nat.reduceSub, Nat.reduceMul, Nat.reduceLeDiff, Nat.reduceLT, reduceIte, f36, f37]
    by_cases hlt : (i : Int) < (acs L xs).length
    · rw [decide_eq_true hlt]
      have hi' : i < (acs L xs).length := by omega
      obtain ⟨b, off, cs, e, fz, rfl, _, hb, hc⟩ := (hA.per (per_chg hCh)).get (i := i) (x := (acs L xs)[i]) (by simp [hi'])
      obtain ⟨ha, hn0, hn1⟩ := acs_u hM.2 (List.getElem_mem hi')
      generalize hn : (acs L xs)[i] = n at *
      have hm0 : 0 ≤ n * l := Int.mul_nonneg hn0 (by omega)
      have hm1 : n * l ≤ 3000 * 16 := Int.mul_le_mul hn1 (by omega) (by omega) (by omega)
      have hFw' : ∀ b, F b → w.heap.size ≤ b := fun b hb => (hFF b hb).elim (hFw b) fun h => Nat.le_trans hrw h
      simp only [VS, VD, SV, SL, T, Nat.reduceEqDiff, Nat.reduceAdd, Nat.reduceSub, Nat.reduceMul, Nat.reduceLeDiff, Nat.reduceLT, reduceIte, f3, f7, f35, f37, hb, hc, Int.toNat_natCast]
      refine ⟨by omega, by omega, ?_⟩
      refine (Access_mv hg hC' (n * l) (by omega)).mono ?_
      rintro _ w8 ⟨rfl, F8, hC8, hm8⟩
      have hE8 := hm8.ext hE' hFw'
      have hCh8 : Chg F0 w7 w8 := hCh.trans hm8.1 hFF
      have hFF8 : ∀ b, F8 b → F0 b ∨ w7.heap.size ≤ b := fun b hb => (hm8.2 b hb).elim (hFF b) fun h => .inr (Nat.le_trans hCh.size h)
      have hH8 := hH.add (l := l) (by omega) ha
      have hma := mem_add (s := s) (l := l) (by omega) hn0 H
      have hO8 : IntO w7.heap.size w8 (f' 10) D := own_at hO' fun b hb => hm8.1.get b (hO'.lt b hb).2 (hOF b hb)
      have hOF8 : ∀ b, (f' 10).ownBlock = some b → ¬ F8 b := fun b hb hf => (hm8.2 b hf).elim (hOF b hb) fun h => by have := (hO'.lt b hb).2; omega
      simp only [VS, VD, SV, SL, T, Nat.reduceEqDiff, Nat.reduceAdd, Nat.reduceSub, Nat.reduceMul, Nat.reduceLeDiff, Nat.reduceLT, reduceIte]
      refine (hf5.per (per_chg hCh8)).call (n := n) (by simp only [VS, VD, SV, SL, T, Nat.reduceEqDiff, Nat.reduceAdd, Nat.reduceSub, Nat.reduceMul, Nat.reduceLeDiff, Nat.reduceLT, reduceIte, f9]) (by simp only [VS, VD, SV, SL, T, Nat.reduceEqDiff, Nat.reduceAdd, Nat.reduceSub, Nat.reduceMul, Nat.reduceLeDiff, Nat.reduceLT, reduceIte]) ?_
      intro w9 hE9
      have hC9 := hC8.ext hE9
      have hCh9 : Chg F0 w7 w9 := hCh8.trans (C.Chg.of_ext (F := fun _ => False) hE9) (fun b hb => hb.elim)
      have hO9 : IntO w7.heap.size w9 (f' 10) D := own_at hO8 fun b hb => hE9.get b (hO8.lt b hb).2
      have hEw9 := hE8.trans hE9
      simp only [VS, VD, SV, SL, T, Nat.reduceEqDiff, Nat.reduceAdd, Nat.reduceSub, Nat.reduceMul, Nat.reduceLeDiff, Nat.reduceLT, reduceIte]
      refine cnd_c (fun g wz => g 3 = .agg #[.int .i64 s, .int .i64 y, .int .i64 l] ∧ g 7 = ptr p ∧ g 9 = fv ∧ g 35 = .slice (some ⟨b, off, none⟩) (acs L xs).length ac ∧ g 36 = .int .i64 (acs L xs).length ∧ g 37 = .int .i64 i ∧ Ext w wz ∧ ∃ D', CacheAt wz F8 p s y l (stS s y (addH s l H (n * l))) ∧ Chg F0 w7 wz ∧ IntO w7.heap.size wz (g 10) D' ∧ (∀ b, (g 10).ownBlock = some b → ¬ F8 b) ∧ D'.length ≤ i + 1 ∧ ∀ k ∈ D', k ∈ pers L s y ∧ k ∈ addH s l H (n * l) (k % s).toNat) ?_ ?_
      · by_cases hpn : n ∈ pers L s y
        · rw [decide_eq_true hpn]
          simp only [VS, VD, SV, SL, T, Nat.reduceEqDiff, Nat.reduceAdd, Nat.reduceSub, Nat.reduceMul, Nat.reduceLeDiff, Nat.reduceLT, reduceIte]
          refine app_int hO9 (by omega) hCh9.size n ?_
          intro v' wz hoz hgz hnew
          have hcz : Chg (fun b => w7.heap.size ≤ b ∧ ¬ F8 b) w9 wz := ⟨hgz.os, hgz.tape, hgz.output, hgz.size, fun b hlt hnb => hgz.block b hlt fun e => hnb ⟨(hO9.lt b e.symm).1, hOF8 b e.symm⟩⟩
          simp only [VS, VD, SV, SL, T, Nat.reduceEqDiff, Nat.reduceAdd, Nat.reduceSub, Nat.reduceMul, Nat.reduceLeDiff, Nat.reduceLT, reduceIte, f3, f7, f9, f35, f36, f37]
          refine ⟨hEw9.grownO hO9 hrw hgz, _, hC9.chg hcz (fun b hb hq => hq.2 hb), hCh9.trans hcz (fun b hb => .inr hb.1), hoz, fun b hb hf => ?_, by simp; omega, fun k hk => ?_⟩
          · rcases hnew b hb with e | e
            · exact hOF8 b e hf
            · have := hC9.lt b hf; omega
          · rw [hma]
            rcases List.mem_append.1 hk with hk | hk
            · exact ⟨(hD k hk).1, .inl (hD k hk).2⟩
            · simp only [List.mem_singleton] at hk
              subst hk
              exact ⟨hpn, .inr rfl⟩
        · rw [decide_eq_false hpn]
          simp only [VS, VD, SV, SL, T, Nat.reduceEqDiff, Nat.reduceAdd, Nat.reduceSub, Nat.reduceMul, Nat.reduceLeDiff, Nat.reduceLT, reduceIte, f3, f7, f9, f35, f36, f37]
          exact ⟨hEw9, D, hC9, hCh9, hO9, hOF8, by omega, fun k hk => ⟨(hD k hk).1, (hma k).2 (.inl (hD k hk).2)⟩⟩
      · clear hO8 hO9 hC9 hCh9 hEw9 hD hDl hOF hO' hOF8
        rintro g wz ⟨g3, g7, g9, g35, g36, g37, hEz, D', hCz, hChz, hOz, hOFz, hDl, hD⟩
        have hIz := hOz.ints
        obtain ⟨da, dc, hd⟩ := hIz.form
        rw [hd] at hIz
        simp only [VS, VD, SV, SL, T, Nat.reduceEqDiff, Nat.reduceAdd, Nat.reduceSub, Nat.reduceMul, Nat.reduceLeDiff, Nat.reduceLT, reduceIte, hd]
        refine LoopP_intro (α := Nat) (fun j f' w' => f' 3 = .agg #[.int .i64 s, .int .i64 y, .int .i64 l] ∧ f' 7 = ptr p ∧ f' 9 = fv ∧ f' 35 = .slice (some ⟨b, off, none⟩) (acs L xs).length ac ∧ f' 36 = .int .i64 (acs L xs).length ∧ f' 37 = .int .i64 i ∧ f' 10 = .slice da D'.length dc ∧ f' 54 = .slice da D'.length dc ∧ f' 55 = .int .i64 D'.length ∧ f' 56 = .int .i64 j ∧ j ≤ D'.length ∧ Ext wz w') (fun j => D'.length - j) 0 ?_ ?_
        · simp only [VS, VD, SV, SL, T, Nat.reduceEqDiff, Nat.reduceAdd, Nat.reduceSub, Nat.reduceMul, Nat.reduceLeDiff, Nat.reduceLT, reduceIte, g3, g7, g9, g35, g36, g37, hd]
          exact ⟨rfl, Nat.zero_le _, Ext.refl _⟩
        · rintro j f2 w10 ⟨k3, k7, k9, k35, k36, k37, k10, k54, k55, k56, hj, hE10⟩
          simp only [VS, VD, SV, SL, T, Nat.reduceEqDiff, Nat.reduceAdd, Nat.reduceSub, Nat.reduceMul, Nat.reduceLeDiff, Nat.reduceLT, reduceIte, k55, k56]
          by_cases hlt2 : (j : Int) < D'.length
          · rw [decide_eq_true hlt2]
            have hj' : j < D'.length := by omega
            obtain ⟨b2, off2, cs2, e2, fz2, rfl, _, hb2, hc2⟩ := (hIz.ext hE10).get (i := j) (x := D'[j]) (by simp [hj'])
            have hDj := hD _ (List.getElem_mem hj')
            generalize D'[j] = k at *
            have hka := (pers_mem.1 hDj.1).1
            have hkr := acd_range hka
            have q0 : 0 ≤ k * l := Int.mul_nonneg hkr.1 (by omega)
            have q1 : k * l ≤ 65535 * 16 := Int.mul_le_mul hkr.2 (by omega) (by omega) (by omega)
            simp only [VS, VD, SV, SL, T, Nat.reduceEqDiff, Nat.reduceAdd, Nat.reduceSub, Nat.reduceMul, Nat.reduceLeDiff, Nat.reduceLT, reduceIte, k3, k7, k54, k56, hb2, hc2, Int.toNat_natCast]
            refine ⟨by omega, by omega, ?_⟩
            refine (C.Probe_spec (hCz.ext hE10) (k * l) (by omega)).mono ?_
            rintro _ w11 ⟨rfl, hE11⟩
            rw [hit_pers hg hH8 hDj.1, decide_eq_true hDj.2]
            simp only [VS, VD, SV, SL, T, Nat.reduceEqDiff, Nat.reduceAdd, Nat.reduceSub, Nat.reduceMul, Nat.reduceLeDiff, Nat.reduceLT, reduceIte, Bool.not_true, k3, k7, k9, k35, k36, k37, k10, k54, k55, k56]
            exact ⟨by omega, j + 1, ⟨by simp, by omega, hE10.trans hE11⟩, by omega⟩
          · rw [decide_eq_false hlt2]
            simp only [VS, VD, SV, SL, T, Nat.reduceEqDiff, Nat.reduceAdd, Nat.reduceSub, Nat.reduceMul, Nat.reduceLeDiff, Nat.reduceLT, reduceIte, k3, k7, k9, k35, k36, k37, k10]
            refine ⟨by omega, i + 1, ⟨by simp, by omega, hEz.trans hE10, F8, _, D', hCz.ext hE10, hH8, hChz.trans (C.Chg.of_ext (F := fun _ => False) hE10) (fun b hb => hb.elim), hFF8, ?_, ?_, hDl, hD⟩, by omega⟩
            · rw [← hd]
              exact own_at hOz fun b hb => hE10.get b (hOz.lt b hb).2
            · rw [← hd]
              exact hOFz
    · rw [decide_eq_false hlt]
      simp only [VS, VD, SV, SL, T, Nat.reduceEqDiff, Nat.reduceAdd, Nat.reduceSub, Nat.reduceMul, Nat.reduceLeDiff, Nat.reduceLT, reduceIte]
      exact hΨ _ _ ⟨rfl, hE'⟩
end Go.Proofs.Ytneipineehichaa

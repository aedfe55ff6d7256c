/-
  persist: PersistFlushes.
-/
import Derived.Test.YtneipineehichaaZPD2
set_option linter.unusedSimpArgs false
set_option linter.unusedVariables false
namespace Go.Proofs.Ytneipineehichaa
open Go.W Go.RowKit
open C (CacheAt stS addH hitS Mv Chg Access_mv Flush_mv ptr dst)
set_option maxRecDepth 100000 in
theorem PersistFlushes_spec (s y l : Int) (lv : Value) (L : List (Int × Int)) (xv : Value) (xs : List Int) (ev : Int) (w : World) (h : RefsAt w lv L) (hxv : SlAt w xv 1 (xs.map fun n => [.int .u16 n])) (hM : xs.length ≤ maxLen ∧ ∀ n ∈ xs, 0 ≤ n ∧ n ≤ 65535) (hev : 0 ≤ ev ∧ ev ≤ 255) :
    VRet Try.prog 8 #[cfgV s y l, lv, xv, .int .u8 ev] w fun v w' => v = .bool true ∧ Ext w w' := by
  obtain ⟨la, lc, rfl⟩ := h.form
  obtain ⟨xa, xc, rfl⟩ := hxv.form
  simp only [List.length_map] at *
  refine VRet_start T.mo ok8 rfl fun Ψ hΨ => ?_; simp only [vc8, rs8]
  simp only [VS, VD, SV, SL, T, Nat.reduceEqDiff, Nat.reduceAdd, Nat.reduceSub, Nat.reduceMul, Nat.reduceLeDiff, Nat.reduceLT, reduceIte, cfgV]
  refine (awake_spec _).mono ?_
  rintro _ w1 ⟨rfl, hE⟩
  replace hE := ((Ext.refl w).alloc tomb).trans hE
  simp only [VS, VD, SV, SL, T, Nat.reduceEqDiff, Nat.reduceAdd, Nat.reduceSub, Nat.reduceMul, Nat.reduceLeDiff, Nat.reduceLT, reduceIte]
  refine (usable_spec s y l _ L _ xs.length _ w1 (h.ext hE)).mono ?_
  rintro _ w2 ⟨rfl, hE2⟩
  replace hE := hE.trans hE2
  by_cases hu : usb s y l L xs.length = true
  case neg =>
    have hu' : usb s y l L xs.length = false := by simpa using hu
    simp only [VS, VD, SV, SL, T, Nat.reduceEqDiff, Nat.reduceAdd, Nat.reduceSub, Nat.reduceMul, Nat.reduceLeDiff, Nat.reduceLT, reduceIte, hu', Bool.not_false]
    exact hΨ _ _ ⟨rfl, hE⟩
  obtain ⟨hg, h12, hx2, hm⟩ := usb_spec hu
  have hp := Geo_spec hg
  simp only [VS, VD, SV, SL, T, Nat.reduceEqDiff, Nat.reduceAdd, Nat.reduceSub, Nat.reduceMul, Nat.reduceLeDiff, Nat.reduceLT, reduceIte, hu, Bool.not_true]
  refine (C.New_spec s y l w2).mono ?_
  rintro v3 w3 hq
  rcases hq with ⟨hg', _⟩ | ⟨_, p, rfl, hC, hE3⟩
  · rw [hg] at hg'; cases hg'
  rw [show List.replicate s.toNat [] = stS s y fun _ => [] from C.emp_stS s y] at hC
  generalize hF0 : (fun b => w2.heap.size ≤ b ∧ b < w3.heap.size) = F0 at hC
  have hF1 : ∀ b, F0 b → w2.heap.size ≤ b ∧ b < w3.heap.size := fun b hb => by subst hF0; exact hb
  have hFw : ∀ b, F0 b → w.heap.size ≤ b := fun b hb => Nat.le_trans hE.size (hF1 b hb).1
  have hR3 : RefsAt (hid F0 w3) (.slice la L.length lc) L := SlAt.per (h.ext hE) (hid_new hE3 fun b hb => (hF1 b hb).1)
  have hX3 : SlAt (hid F0 w3) (.slice xa xs.length xc) 1 (xs.map fun n => [.int .u16 n]) := SlAt.per (hxv.ext hE) (hid_new hE3 fun b hb => (hF1 b hb).1)
  replace hE := hE.trans hE3
  have d0 : decide ((0 : Int) = 0) = true := rfl
  have ep : persI s y l L = pers L s y := by rw [persI, if_pos hg]
  have hpl := pers_len L s y
  simp only [VS, VD, SV, SL, T, Nat.reduceEqDiff, Nat.reduceAdd, Nat.reduceSub, Nat.reduceMul, Nat.reduceLeDiff, Nat.reduceLT, reduceIte, d0, Bool.not_true]
  refine (VRet.hidE (R := fun w v => IntsAt w v (persI s y l L)) (fun _ _ _ h k => h.per k) (fun b hb => (hF1 b hb).2) (Persistent_spec s y l _ L (by omega) _ hR3)).mono ?_
  rintro v4 w4 ⟨hI4, hE4⟩
  replace hE := hE.trans hE4
  replace hC := hC.ext hE4
  replace hR3 := SlAt.per hR3 (hid_ext (F := F0) hE4)
  replace hX3 := hX3.per (hid_ext (F := F0) hE4)
  have hF4 : ∀ b, F0 b → b < w4.heap.size := fun b hb => Nat.lt_of_lt_of_le (hF1 b hb).2 hE4.size
  rw [ep] at hI4
  simp only [VS, VD, SV, SL, T, Nat.reduceEqDiff, Nat.reduceAdd, Nat.reduceSub, Nat.reduceMul, Nat.reduceLeDiff, Nat.reduceLT, reduceIte]
  refine (VRet.hidE (R := fun w v => FnAt w v (pers L s y)) (fun _ _ _ h k => h.per k) hF4 (contains_spec v4 (pers L s y) (by omega) _ hI4)).mono ?_
  rintro fv w5 ⟨hf5, hE5⟩
  replace hE := hE.trans hE5
  replace hC := hC.ext hE5
  replace hR3 := SlAt.per hR3 (hid_ext (F := F0) hE5)
  replace hX3 := hX3.per (hid_ext (F := F0) hE5)
  have hF5 : ∀ b, F0 b → b < w5.heap.size := fun b hb => Nat.lt_of_lt_of_le (hF4 b hb) hE5.size
  simp only [VS, VD, SV, SL, T, Nat.reduceEqDiff, Nat.reduceAdd, Nat.reduceSub, Nat.reduceMul, Nat.reduceLeDiff, Nat.reduceLT, reduceIte]
  refine (VRet.hidE (R := fun w v => IntsAt w v (acs L xs)) (fun _ _ _ h k => h.per k) hF5 (accesses_spec _ L (by omega) _ xs (by omega) hM.2 _ hR3 hX3)).mono ?_
  rintro v7 w7 ⟨hA, hE7⟩
  replace hf5 := hf5.per (hid_ext (F := F0) hE7)
  replace hC := hC.ext hE7
  replace hE := hE.trans hE7
  have hrw := hE.size
  obtain ⟨aa, ac, rfl⟩ := hA.form
  have hal := acs_len L xs
  simp only [VS, VD, SV, SL, T, Nat.reduceEqDiff, Nat.reduceAdd, Nat.reduceSub, Nat.reduceMul, Nat.reduceLeDiff, Nat.reduceLT, reduceIte]
  refine loop_cB (fun f' w' => f' 1 = .slice la L.length lc ∧ f' 4 = .agg #[.int .i64 s, .int .i64 y, .int .i64 l] ∧ Ext w w' ∧ ∃ m k : Nat, f' 12 = .int .i64 m ∧ f' 13 = .int .i64 k ∧ k ≤ 200 ∧ m ≤ (k + 1) * (pers L s y).length) ?_ ?_
  · refine LoopP_intro (α := Nat) (fun i f' w' => f' 1 = .slice la L.length lc ∧ f' 3 = .int .u8 ev ∧ f' 4 = .agg #[.int .i64 s, .int .i64 y, .int .i64 l] ∧ f' 9 = ptr p ∧ f' 11 = fv ∧ f' 36 = .slice aa (acs L xs).length ac ∧ f' 37 = .int .i64 (acs L xs).length ∧ f' 38 = .int .i64 i ∧ i ≤ (acs L xs).length ∧ Ext w w' ∧
      ∃ (F : Nat → Prop) (H : Nat → List Int), CacheAt w' F p s y l (stS s y H) ∧ HL L s H ∧ Chg F0 w7 w' ∧ (∀ b, F b → F0 b ∨ w7.heap.size ≤ b) ∧ ∃ m k : Nat, f' 12 = .int .i64 m ∧ f' 13 = .int .i64 k ∧ k ≤ i ∧ m ≤ i ∧ m ≤ k * (pers L s y).length + (pin L s y H).length) (fun i => (acs L xs).length - i) 0 ?_ ?_
    · simp only [VS, VD, SV, SL, T, Nat.reduceEqDiff, Nat.reduceAdd, Nat.reduceSub, Nat.reduceMul, Nat.reduceLeDiff, Nat.reduceLT, reduceIte]
      exact ⟨rfl, Nat.zero_le _, hE, F0, _, hC, HL.nil L s, C.Chg.of_ext (Ext.refl _), fun b hb => .inl hb, 0, 0, rfl, rfl, Nat.le_refl _, Nat.le_refl _, by omega⟩
    · rintro i f' w' ⟨f1, f3, f4, f9, f11, f36, f37, f38, hi, hE', F, H, hC', hH, hCh, hFF, m, k, f12, f13, hki, hmi, hmk⟩
      simp only [VS, VD, SV, SL, T, Nat.reduceEqDiff, Nat.reduceAdd, Nat.reduceSub, Nat.reduceMul, Nat.reduceLeDiff, Nat.reduceLT, reduceIte, f37, f38]
      by_cases hlt : (i : Int) < (acs L xs).length
      · rw [decide_eq_true hlt]
        have hi' : i < (acs L xs).length := by omega
        obtain ⟨b, off, cs, e, fz, rfl, _, hb, hc⟩ := (hA.per (per_chg hCh)).get (i := i) (x := (acs L xs)[i]) (by simp [hi'])
        obtain ⟨ha, hn0, hn1⟩ := acs_u hM.2 (List.getElem_mem hi')
        generalize hn : (acs L xs)[i] = n at *
        have hm0 : 0 ≤ n * l := Int.mul_nonneg hn0 (by omega)
        have hm1 : n * l ≤ 3000 * 16 := Int.mul_le_mul hn1 (by omega) (by omega) (by omega)
        have hFw' : ∀ b, F b → w.heap.size ≤ b := fun b hb => (hFF b hb).elim (hFw b) fun h => Nat.le_trans hrw h
        simp only [VS, VD, SV, SL, T, Nat.reduceEqDiff, Nat.reduceAdd, Nat.reduceSub, Nat.reduceMul, Nat.reduceLeDiff, Nat.reduceLT, reduceIte, f36, f38, hb, hc, Int.toNat_natCast]
        refine ⟨by omega, ?_⟩
        refine YG_c (fun g wz => g 1 = .slice la L.length lc ∧ g 3 = .int .u8 ev ∧ g 4 = .agg #[.int .i64 s, .int .i64 y, .int .i64 l] ∧ g 9 = ptr p ∧ g 11 = fv ∧ g 36 = .slice (some ⟨b, off, none⟩) (acs L xs).length ac ∧ g 37 = .int .i64 (acs L xs).length ∧ g 38 = .int .i64 i ∧ g 15 = .int .i64 n ∧ g 12 = .int .i64 m ∧ g 13 = .int .i64 k ∧ (∃ q : Bool, g 52 = .bool q) ∧ wz = w') ?_ ?_
        · by_cases h0 : 0 < (i : Int)
          · rw [decide_eq_true h0]
            simp only [VS, VD, SV, SL, T, Nat.reduceEqDiff, Nat.reduceAdd, Nat.reduceSub, Nat.reduceMul, Nat.reduceLeDiff, Nat.reduceLT, reduceIte, f1, f3, f4, f9, f11, f12, f13, f36, f37, f38]
            exact ⟨by omega, by omega, by omega, _, rfl⟩
          · rw [decide_eq_false h0]
            simp only [VS, VD, SV, SL, T, Nat.reduceEqDiff, Nat.reduceAdd, Nat.reduceSub, Nat.reduceMul, Nat.reduceLeDiff, Nat.reduceLT, reduceIte, f1, f3, f4, f9, f11, f12, f13, f36, f37, f38]
            exact ⟨_, rfl⟩
        · rintro g wz ⟨g1, g3, g4, g9, g11, g36, g37, g38, g15, g12, g13, ⟨q, g52⟩, rfl⟩
          simp only [VS, VD, SV, SL, T, Nat.reduceEqDiff, Nat.reduceAdd, Nat.reduceSub, Nat.reduceMul, Nat.reduceLeDiff, Nat.reduceLT, reduceIte, g52]
          refine cnd_c (fun g wz => g 1 = .slice la L.length lc ∧ g 3 = .int .u8 ev ∧ g 4 = .agg #[.int .i64 s, .int .i64 y, .int .i64 l] ∧ g 9 = ptr p ∧ g 11 = fv ∧ g 36 = .slice (some ⟨b, off, none⟩) (acs L xs).length ac ∧ g 37 = .int .i64 (acs L xs).length ∧ g 38 = .int .i64 i ∧ g 15 = .int .i64 n ∧ Ext w wz ∧
            ∃ (F : Nat → Prop) (H : Nat → List Int), CacheAt wz F p s y l (stS s y H) ∧ HL L s H ∧ Chg F0 w7 wz ∧ (∀ b, F b → F0 b ∨ w7.heap.size ≤ b) ∧ ∃ k : Nat, g 12 = .int .i64 m ∧ g 13 = .int .i64 k ∧ k ≤ i + 1 ∧ m ≤ k * (pers L s y).length + (pin L s y H).length) ?_ ?_
          · cases q with
            | true =>
              simp only [VS, VD, SV, SL, T, Nat.reduceEqDiff, Nat.reduceAdd, Nat.reduceSub, Nat.reduceMul, Nat.reduceLeDiff, Nat.reduceLT, reduceIte, g9]
              refine (Flush_mv hC').mono ?_
              rintro _ w8 ⟨F8, hC8, hm8⟩
              simp only [VS, VD, SV, SL, T, Nat.reduceEqDiff, Nat.reduceAdd, Nat.reduceSub, Nat.reduceMul, Nat.reduceLeDiff, Nat.reduceLT, reduceIte, g1, g3, g4, g9, g11, g12, g13, g15, g36, g37, g38]
              refine ⟨by omega, hm8.ext hE' hFw', F8, _, hC8, HL.nil L s, hCh.trans hm8.1 hFF, fun b hb => (hm8.2 b hb).elim (hFF b) fun h => .inr (Nat.le_trans hCh.size h), k + 1, by simp, by omega, ?_⟩
              have := pin_le L s y H
              rw [Nat.succ_mul]
              omega
            | false =>
              simp only [VS, VD, SV, SL, T, Nat.reduceEqDiff, Nat.reduceAdd, Nat.reduceSub, Nat.reduceMul, Nat.reduceLeDiff, Nat.reduceLT, reduceIte, g1, g3, g4, g9, g11, g12, g13, g15, g36, g37, g38]
              exact ⟨hE', F, H, hC', hH, hCh, hFF, k, rfl, by omega, hmk⟩
          · clear hC' hH hCh hFF hmk hFw' hb hE' g12 g13 g52 g1 g3 g4 g9 g11 g36 g37 g38 g15
            rintro g wz ⟨g1, g3, g4, g9, g11, g36, g37, g38, g15, hE', F, H, hC', hH, hCh, hFF, k, g12, g13, hk', hmk⟩
            have hFw' : ∀ b, F b → w.heap.size ≤ b := fun b hb => (hFF b hb).elim (hFw b) fun h => Nat.le_trans hrw h
            simp only [VS, VD, SV, SL, T, Nat.reduceEqDiff, Nat.reduceAdd, Nat.reduceSub, Nat.reduceMul, Nat.reduceLeDiff, Nat.reduceLT, reduceIte, g4, g9, g15]
            refine ⟨by omega, ?_⟩
            refine (Access_mv hg hC' (n * l) (by omega)).mono ?_
            rintro _ w8 ⟨rfl, F8, hC8, hm8⟩
            have hE8 := hm8.ext hE' hFw'
            have hCh8 : Chg F0 w7 w8 := hCh.trans hm8.1 hFF
            have hFF8 : ∀ b, F8 b → F0 b ∨ w7.heap.size ≤ b := fun b hb => (hm8.2 b hb).elim (hFF b) fun h => .inr (Nat.le_trans hCh.size h)
            have hH8 := hH.add (l := l) (by omega) ha
            have hmono := pin_mono (L := L) (s := s) (y := y) (l := l) (by omega) hn0 H
            cases hhit : hitS s l (stS s y H) (n * l) with
            | true =>
              simp only [VS, VD, SV, SL, T, Nat.reduceEqDiff, Nat.reduceAdd, Nat.reduceSub, Nat.reduceMul, Nat.reduceLeDiff, Nat.reduceLT, reduceIte, Bool.not_true, g1, g3, g4, g9, g11, g12, g13, g15, g36, g37, g38]
              exact ⟨by omega, i + 1, ⟨by simp, by omega, hE8, F8, _, hC8, hH8, hCh8, hFF8, m, k, rfl, rfl, hk', by omega, by omega⟩, by omega⟩
            | false =>
              simp only [VS, VD, SV, SL, T, Nat.reduceEqDiff, Nat.reduceAdd, Nat.reduceSub, Nat.reduceMul, Nat.reduceLeDiff, Nat.reduceLT, reduceIte, Bool.not_false]
              refine (hf5.per (per_chg hCh8)).call (n := n) (by simp only [VS, VD, SV, SL, T, Nat.reduceEqDiff, Nat.reduceAdd, Nat.reduceSub, Nat.reduceMul, Nat.reduceLeDiff, Nat.reduceLT, reduceIte, g11]) (by simp only [VS, VD, SV, SL, T, Nat.reduceEqDiff, Nat.reduceAdd, Nat.reduceSub, Nat.reduceMul, Nat.reduceLeDiff, Nat.reduceLT, reduceIte, g15]) ?_
              intro w9 hE9
              have hC9 := hC8.ext hE9
              have hCh9 : Chg F0 w7 w9 := hCh8.trans (C.Chg.of_ext (F := fun _ => False) hE9) (fun b hb => hb.elim)
              by_cases hpn : n ∈ pers L s y
              · rw [decide_eq_true hpn]
                rw [hit_pers hg hH hpn] at hhit
                have hnew := pin_new (l := l) (by omega) hpn (of_decide_eq_false hhit)
                simp only [VS, VD, SV, SL, T, Nat.reduceEqDiff, Nat.reduceAdd, Nat.reduceSub, Nat.reduceMul, Nat.reduceLeDiff, Nat.reduceLT, reduceIte, g1, g3, g4, g9, g11, g12, g13, g15, g36, g37, g38]
                exact ⟨by omega, by omega, i + 1, ⟨by simp, by omega, hE8.trans hE9, F8, _, hC9, hH8, hCh9, hFF8, m + 1, k, by simp, rfl, hk', by omega, by omega⟩, by omega⟩
              · rw [decide_eq_false hpn]
                simp only [VS, VD, SV, SL, T, Nat.reduceEqDiff, Nat.reduceAdd, Nat.reduceSub, Nat.reduceMul, Nat.reduceLeDiff, Nat.reduceLT, reduceIte, g1, g3, g4, g9, g11, g12, g13, g15, g36, g37, g38]
                exact ⟨by omega, i + 1, ⟨by simp, by omega, hE8.trans hE9, F8, _, hC9, hH8, hCh9, hFF8, m, k, rfl, rfl, hk', by omega, by omega⟩, by omega⟩
      · rw [decide_eq_false hlt]
        simp only [VS, VD, SV, SL, T, Nat.reduceEqDiff, Nat.reduceAdd, Nat.reduceSub, Nat.reduceMul, Nat.reduceLeDiff, Nat.reduceLT, reduceIte, f1, f4]
        have := pin_le L s y H
        refine ⟨hE', m, k, f12, f13, by omega, ?_⟩
        rw [Nat.succ_mul]
        omega
  · rintro f8 w8 ⟨g1, g4, hE8, m, k, g12, g13, hk, hmk⟩
    simp only [VS, VD, SV, SL, T, Nat.reduceEqDiff, Nat.reduceAdd, Nat.reduceSub, Nat.reduceMul, Nat.reduceLeDiff, Nat.reduceLT, reduceIte, g1, g4, g12, g13]
    refine ⟨by omega, ?_⟩
    refine (Misses_spec s y l _ L (by omega) w8 (h.ext hE8)).mono ?_
    rintro _ w9 ⟨rfl, hE9⟩
    rw [ep]
    have hmul : ((k : Int) + 1) * ((pers L s y).length : Int) = (((k + 1) * (pers L s y).length : Nat) : Int) := by simp
    have hbd : (k + 1) * (pers L s y).length ≤ 201 * 65536 := Nat.mul_le_mul (by omega) hpl
    simp only [VS, VD, SV, SL, T, Nat.reduceEqDiff, Nat.reduceAdd, Nat.reduceSub, Nat.reduceMul, Nat.reduceLeDiff, Nat.reduceLT, reduceIte, hmul]
    refine ⟨by omega, hΨ _ _ ⟨?_, hE8.trans hE9⟩⟩
    rw [decide_eq_true (by omega)]
end Go.Proofs.Ytneipineehichaa

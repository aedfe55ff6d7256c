/-
  persist: PersistCold.
-/
import Derived.Test.YtneipineehichaaZPC5
import Derived.Test.YtneipineehichaaZK
set_option linter.unusedSimpArgs false
set_option linter.unusedVariables false
namespace Go.Proofs.Ytneipineehichaa
open Go.W Go.RowKit
open C (CacheAt stS addH hitS misB Mv Access_mv Flush_mv sumR ptr)
theorem misB_hit {s y l : Int} (hg : Geo s y l = true) (H : Nat → List Int) {a : Int} (ha : 0 ≤ a) : misB s y l H a = if hitS s l (stS s y H) a = true then 0 else 1 := by
  rw [C.hitS_stS hg]
  unfold misB
  by_cases h : a / l ∈ (C.dst (H ((a / l) % s).toNat)).take y.toNat
  · rw [if_neg (fun q => q.2 h), if_pos (by simp [ha, h])]
  · rw [if_pos ⟨ha, h⟩, if_neg (by simp [h])]
theorem u16_get {w : World} {a : Option Addr} {c : Nat} {xs : List Int} (h : SlAt w (.slice a xs.length c) 1 (xs.map fun n => [.int .u16 n])) {i : Nat} (hi : i < xs.length) :
    ∃ b off cs e fz, a = some ⟨b, off, none⟩ ∧ w.heap[b]? = some (.cells cs e fz) ∧ cs[off + i]? = some (.int .u16 xs[i]) := by
  obtain ⟨b, off, cs, e, fz, rfl, _, hb, hsz, hcs⟩ := h.get (i := i) (r := [.int .u16 xs[i]]) (by simp [hi])
  refine ⟨b, off, cs, e, fz, rfl, hb, ?_⟩
  have h6 := congrArg (fun a : Array Value => a[0]?) hcs
  simp only [Array.getElem?_extract] at h6
  rw [if_pos (by omega)] at h6
  simpa using h6
set_option maxRecDepth 100000 in
theorem PersistCold_spec (s y l : Int) (v : Value) (xs : List Int) (u : Value) (ys : List Int) (w : World) (hv : SlAt w v 1 (xs.map fun n => [.int .u16 n])) (hM : xs.length ≤ maxLen ∧ ∀ n ∈ xs, 0 ≤ n ∧ n ≤ 65535) (hu : SlAt w u 1 (ys.map fun n => [.int .u16 n])) (hN : ys.length ≤ maxLen ∧ ∀ n ∈ ys, 0 ≤ n ∧ n ≤ 65535) :
    VRet Try.prog 10 #[cfgV s y l, v, u] w fun v w' => v = .bool true ∧ Ext w w' := by
  obtain ⟨av, cv, rfl⟩ := hv.form
  obtain ⟨au, cu, rfl⟩ := hu.form
  simp only [List.length_map] at *
  refine VRet_start T.mo ok10 rfl fun Ψ hΨ => ?_; simp only [vc10, rs10]
  simp only [VS, VD, SV, SL, T, Nat.reduceEqDiff, Nat.reduceAdd, Nat.reduceSub, Nat.reduceMul, Nat.reduceLeDiff, Nat.reduceLT, reduceIte, cfgV]
  refine (awake_spec _).mono ?_
  rintro _ w1 ⟨rfl, hE⟩
  replace hE := ((Ext.refl w).alloc tomb).trans hE
  simp only [VS, VD, SV, SL, T, Nat.reduceEqDiff, Nat.reduceAdd, Nat.reduceSub, Nat.reduceMul, Nat.reduceLeDiff, Nat.reduceLT, reduceIte]
  refine (Valid_spec s y l w1).mono ?_
  rintro _ w2 ⟨rfl, hE2⟩
  replace hE := hE.trans hE2
  by_cases hg : Geo s y l = true
  case neg =>
    have hg' : Geo s y l = false := by simpa using hg
    simp only [VS, VD, SV, SL, T, Nat.reduceEqDiff, Nat.reduceAdd, Nat.reduceSub, Nat.reduceMul, Nat.reduceLeDiff, Nat.reduceLT, reduceIte, hg', Bool.not_false]
    exact hΨ _ _ ⟨rfl, hE⟩
  have hp := Geo_spec hg
  simp only [VS, VD, SV, SL, T, Nat.reduceEqDiff, Nat.reduceAdd, Nat.reduceSub, Nat.reduceMul, Nat.reduceLeDiff, Nat.reduceLT, reduceIte, hg, Bool.not_true]
  by_cases h1 : 100 < (xs.length : Int)
  · rw [decide_eq_true h1]
    simp only [VS, VD, SV, SL, T, Nat.reduceEqDiff, Nat.reduceAdd, Nat.reduceSub, Nat.reduceMul, Nat.reduceLeDiff, Nat.reduceLT, reduceIte]
    exact hΨ _ _ ⟨rfl, hE⟩
  rw [decide_eq_false h1]
  simp only [VS, VD, SV, SL, T, Nat.reduceEqDiff, Nat.reduceAdd, Nat.reduceSub, Nat.reduceMul, Nat.reduceLeDiff, Nat.reduceLT, reduceIte]
  by_cases h2 : 100 < (ys.length : Int)
  · rw [decide_eq_true h2]
    simp only [VS, VD, SV, SL, T, Nat.reduceEqDiff, Nat.reduceAdd, Nat.reduceSub, Nat.reduceMul, Nat.reduceLeDiff, Nat.reduceLT, reduceIte]
    exact hΨ _ _ ⟨rfl, hE⟩
  rw [decide_eq_false h2]
  simp only [VS, VD, SV, SL, T, Nat.reduceEqDiff, Nat.reduceAdd, Nat.reduceSub, Nat.reduceMul, Nat.reduceLeDiff, Nat.reduceLT, reduceIte]
  refine (C.New_spec s y l w2).mono ?_
  rintro v3 w3 hq
  rcases hq with ⟨hg', _⟩ | ⟨_, p, rfl, hC, hE3⟩
  · rw [hg] at hg'; cases hg'
  rw [show List.replicate s.toNat [] = stS s y fun _ => [] from C.emp_stS s y] at hC
  have hFn : ∀ b, (fun b => w2.heap.size ≤ b ∧ b < w3.heap.size) b → w.heap.size ≤ b := fun b hb => Nat.le_trans hE.size hb.1
  replace hE := hE.trans hE3
  have d0 : decide ((0 : Int) = 0) = true := rfl
  simp only [VS, VD, SV, SL, T, Nat.reduceEqDiff, Nat.reduceAdd, Nat.reduceSub, Nat.reduceMul, Nat.reduceLeDiff, Nat.reduceLT, reduceIte, d0, Bool.not_true]
  refine loop_cB (fun f' w' => f' 2 = .slice au ys.length cu ∧ f' 3 = .agg #[.int .i64 s, .int .i64 y, .int .i64 l] ∧ f' 7 = ptr p ∧ Ext w w' ∧ ∃ H F, CacheAt w' F p s y l (stS s y H) ∧ ∀ b, F b → w.heap.size ≤ b) ?_ ?_
  · refine LoopP_intro (α := Nat) (fun i f' w' => f' 2 = .slice au ys.length cu ∧ f' 3 = .agg #[.int .i64 s, .int .i64 y, .int .i64 l] ∧ f' 7 = ptr p ∧ f' 38 = .slice av xs.length cv ∧ f' 39 = .int .i64 xs.length ∧ f' 40 = .int .i64 i ∧ i ≤ xs.length ∧ Ext w w' ∧ ∃ H F, CacheAt w' F p s y l (stS s y H) ∧ ∀ b, F b → w.heap.size ≤ b) (fun i => xs.length - i) 0 ?_ ?_
    · simp only [VS, VD, SV, SL, T, Nat.reduceEqDiff, Nat.reduceAdd, Nat.reduceSub, Nat.reduceMul, Nat.reduceLeDiff, Nat.reduceLT, reduceIte]
      exact ⟨rfl, Nat.zero_le _, hE, _, _, hC, hFn⟩
    · rintro i f' w' ⟨f2, f3, f7, f38, f39, f40, hi, hE', H, F, hC', hF'⟩
      simp only [VS, VD, SV, SL, T, Nat.reduceEqDiff, Nat.reduceAdd, Nat.reduceSub, Nat.reduceMul, Nat.reduceLeDiff, Nat.reduceLT, reduceIte, f39, f40]
      by_cases hlt : (i : Int) < xs.length
      · rw [decide_eq_true hlt]
        have hi' : i < xs.length := by omega
        obtain ⟨b, off, cs, e, fz, rfl, hb, hc⟩ := u16_get (hv.ext hE') hi'
        have hx := hM.2 _ (List.getElem_mem hi')
        generalize xs[i] = x at *
        have m0 : 0 ≤ x % 400 := by omega
        simp only [VS, VD, SV, SL, T, Nat.reduceEqDiff, Nat.reduceAdd, Nat.reduceSub, Nat.reduceMul, Nat.reduceLeDiff, Nat.reduceLT, reduceIte, f7, f38, f40, hb, hc, Int.toNat_natCast]
        refine ⟨by omega, by omega, by omega, ?_⟩
        refine (Access_mv hg hC' (x % 400) (by omega)).mono ?_
        rintro _ w4 ⟨rfl, F4, hC4, hm4⟩
        simp only [VS, VD, SV, SL, T, Nat.reduceEqDiff, Nat.reduceAdd, Nat.reduceSub, Nat.reduceMul, Nat.reduceLeDiff, Nat.reduceLT, reduceIte, f2, f3, f7, f38, f39, f40]
        exact ⟨by omega, i + 1, ⟨by simp, by omega, hm4.ext hE' hF', _, F4, hC4, hm4.above hE'.size hF'⟩, by omega⟩
      · rw [decide_eq_false hlt]
        simp only [VS, VD, SV, SL, T, Nat.reduceEqDiff, Nat.reduceAdd, Nat.reduceSub, Nat.reduceMul, Nat.reduceLeDiff, Nat.reduceLT, reduceIte, f2, f3, f7]
        exact ⟨hE', H, F, hC', hF'⟩
  · clear hC hFn hE
    rintro f3 w4 ⟨g2, g3, g7, hE4, H, F, hC, hF⟩
    simp only [VS, VD, SV, SL, T, Nat.reduceEqDiff, Nat.reduceAdd, Nat.reduceSub, Nat.reduceMul, Nat.reduceLeDiff, Nat.reduceLT, reduceIte, g7]
    refine (C.Clone_spec hC).mono ?_
    rintro _ w5 ⟨hE5, p', G, rfl, hD5, hG⟩
    have hG' : ∀ b, G b → w.heap.size ≤ b := fun b hb => Nat.le_trans hE4.size (hG b hb)
    have hd5 : ∀ b, F b → ¬ G b := fun b hb hb' => by have := hC.lt b hb; have := hG b hb'; omega
    simp only [VS, VD, SV, SL, T, Nat.reduceEqDiff, Nat.reduceAdd, Nat.reduceSub, Nat.reduceMul, Nat.reduceLeDiff, Nat.reduceLT, reduceIte, Option.isNone_some]
    refine (Flush_mv hD5).mono ?_
    rintro v6 w6 ⟨G6, hD6, hm6⟩
    have hE6 := hm6.ext (hE4.trans hE5) hG'
    obtain ⟨hC6, hd6⟩ := hm6.other (hC.ext hE5) hd5
    have hG6 := hm6.above (hE4.trans hE5).size hG'
    simp only [VS, VD, SV, SL, T, Nat.reduceEqDiff, Nat.reduceAdd, Nat.reduceSub, Nat.reduceMul, Nat.reduceLeDiff, Nat.reduceLT, reduceIte, g2]
    refine loop_cB (fun f' w' => f' 3 = .agg #[.int .i64 s, .int .i64 y, .int .i64 l] ∧ Ext w w' ∧ ∃ (m n : Nat), f' 12 = .int .i64 m ∧ f' 13 = .int .i64 n ∧ m ≤ n ∧ n ≤ 100 ∧ n ≤ m + s.toNat * y.toNat) ?_ ?_
    · refine LoopP_intro (α := Nat) (fun i f' w' => f' 3 = .agg #[.int .i64 s, .int .i64 y, .int .i64 l] ∧ f' 7 = ptr p ∧ f' 11 = ptr p' ∧ f' 56 = .slice au ys.length cu ∧ f' 57 = .int .i64 ys.length ∧ f' 58 = .int .i64 i ∧ i ≤ ys.length ∧ Ext w w' ∧ ∃ H P F G, CacheAt w' F p s y l (stS s y H) ∧ CacheAt w' G p' s y l (stS s y P) ∧ (∀ b, F b → ¬ G b) ∧ (∀ b, F b → w.heap.size ≤ b) ∧ (∀ b, G b → w.heap.size ≤ b) ∧ (∀ i, ∃ R, H i = P i ++ R) ∧
        ∃ (m n : Nat), f' 12 = .int .i64 m ∧ f' 13 = .int .i64 n ∧ m ≤ n ∧ n ≤ i ∧ n ≤ m + sumR y P s.toNat) (fun i => ys.length - i) 0 ?_ ?_
      · simp only [VS, VD, SV, SL, T, Nat.reduceEqDiff, Nat.reduceAdd, Nat.reduceSub, Nat.reduceMul, Nat.reduceLeDiff, Nat.reduceLT, reduceIte, g3, g7]
        exact ⟨rfl, Nat.zero_le _, hE6, H, fun _ => [], F, G6, hC6, hD6, hd6, hF, hG6, fun i => ⟨H i, rfl⟩, 0, 0, rfl, rfl, Nat.le_refl _, Nat.le_refl _, by omega⟩
      · clear hC6 hD6 hd6 hF hG6 hE6 hm6 hd5 hG' hG hD5 hE5 hC hE4 g2 g3 g7
        rintro i f' w' ⟨f3, f7, f11, f56, f57, f58, hi, hE', H, P, F, G, hC, hD, hd, hF, hG, hR, m, n, f12, f13, hmn, hni, hsum⟩
        simp only [VS, VD, SV, SL, T, Nat.reduceEqDiff, Nat.reduceAdd, Nat.reduceSub, Nat.reduceMul, Nat.reduceLeDiff, Nat.reduceLT, reduceIte, f57, f58]
        by_cases hlt : (i : Int) < ys.length
        · rw [decide_eq_true hlt]
          have hi' : i < ys.length := by omega
          obtain ⟨b, off, cs, e, fz, rfl, hb, hc⟩ := u16_get (hu.ext hE') hi'
          have hx := hN.2 _ (List.getElem_mem hi')
          generalize ys[i] = x at *
          have m0 : 0 ≤ x % 400 := by omega
          obtain ⟨k1, k2, k3⟩ := C.flush_acc hg hR (x % 400)
          rw [misB_hit hg H m0, misB_hit hg P m0] at k1 k2
          simp only [VS, VD, SV, SL, T, Nat.reduceEqDiff, Nat.reduceAdd, Nat.reduceSub, Nat.reduceMul, Nat.reduceLeDiff, Nat.reduceLT, reduceIte, f7, f56, f58, hb, hc, Int.toNat_natCast]
          refine ⟨by omega, by omega, by omega, ?_⟩
          refine (Access_mv hg hC (x % 400) (by omega)).mono ?_
          rintro _ w4 ⟨rfl, F4, hC4, hm4⟩
          have hE4 := hm4.ext hE' hF
          have hF4 := hm4.above hE'.size hF
          obtain ⟨hD4, hd4⟩ := hm4.other hD (fun b hb hb' => hd b hb' hb)
          simp only [VS, VD, SV, SL, T, Nat.reduceEqDiff, Nat.reduceAdd, Nat.reduceSub, Nat.reduceMul, Nat.reduceLeDiff, Nat.reduceLT, reduceIte]
          refine cnd_c (fun g w5 => g 3 = .agg #[.int .i64 s, .int .i64 y, .int .i64 l] ∧ g 7 = ptr p ∧ g 11 = ptr p' ∧ g 56 = .slice (some ⟨b, off, none⟩) ys.length cu ∧ g 57 = .int .i64 ys.length ∧ g 58 = .int .i64 i ∧ g 15 = .int .u16 x ∧ g 13 = .int .i64 n ∧ g 12 = .int .i64 (m + (if hitS s l (stS s y H) (x % 400) = true then 0 else 1) : Nat) ∧ w5 = w4) ?_ ?_
          · by_cases hh : hitS s l (stS s y H) (x % 400) = true
            · simp only [VS, VD, SV, SL, T, Nat.reduceEqDiff, Nat.reduceAdd, Nat.reduceSub, Nat.reduceMul, Nat.reduceLeDiff, Nat.reduceLT, reduceIte, hh, Bool.not_true, f3, f7, f11, f12, f13, f56, f57, f58]
            · have hh' : hitS s l (stS s y H) (x % 400) = false := by simpa using hh
              simp only [VS, VD, SV, SL, T, Nat.reduceEqDiff, Nat.reduceAdd, Nat.reduceSub, Nat.reduceMul, Nat.reduceLeDiff, Nat.reduceLT, reduceIte, hh', Bool.not_false, f3, f7, f11, f12, f13, f56, f57, f58]
              exact ⟨by omega, by simp⟩
          · rintro g w5 ⟨g3, g7, g11, g56, g57, g58, g15, g13, g12, rfl⟩
            simp only [VS, VD, SV, SL, T, Nat.reduceEqDiff, Nat.reduceAdd, Nat.reduceSub, Nat.reduceMul, Nat.reduceLeDiff, Nat.reduceLT, reduceIte, g11, g15]
            refine ⟨by omega, by omega, ?_⟩
            refine (Access_mv hg hD4 (x % 400) (by omega)).mono ?_
            rintro _ w6 ⟨rfl, G6, hD6, hm6⟩
            have hE6 := hm6.ext hE4 hG
            have hG6 := hm6.above hE4.size hG
            obtain ⟨hC6, hd6⟩ := hm6.other hC4 (fun b hb hb' => hd4 b hb' hb)
            simp only [VS, VD, SV, SL, T, Nat.reduceEqDiff, Nat.reduceAdd, Nat.reduceSub, Nat.reduceMul, Nat.reduceLeDiff, Nat.reduceLT, reduceIte]
            by_cases hh : hitS s l (stS s y P) (x % 400) = true
            · rw [if_pos hh] at k1 k2
              simp only [VS, VD, SV, SL, T, Nat.reduceEqDiff, Nat.reduceAdd, Nat.reduceSub, Nat.reduceMul, Nat.reduceLeDiff, Nat.reduceLT, reduceIte, hh, Bool.not_true, g3, g7, g11, g56, g57, g58]
              exact ⟨by omega, i + 1, ⟨by simp, by omega, hE6, _, _, F4, G6, hC6, hD6, hd6, hF4, hG6, k3, _, n, g12, g13, by omega, by omega, by omega⟩, by omega⟩
            · have hh' : hitS s l (stS s y P) (x % 400) = false := by simpa using hh
              rw [if_neg hh] at k1 k2
              simp only [VS, VD, SV, SL, T, Nat.reduceEqDiff, Nat.reduceAdd, Nat.reduceSub, Nat.reduceMul, Nat.reduceLeDiff, Nat.reduceLT, reduceIte, hh', Bool.not_false, g3, g7, g11, g13, g56, g57, g58]
              exact ⟨by omega, by omega, i + 1, ⟨by simp, by omega, hE6, _, _, F4, G6, hC6, hD6, hd6, hF4, hG6, k3, _, n + 1, g12, by simp, by omega, by omega, by omega⟩, by omega⟩
        · rw [decide_eq_false hlt]
          have := C.sumR_le y P s.toNat
          simp only [VS, VD, SV, SL, T, Nat.reduceEqDiff, Nat.reduceAdd, Nat.reduceSub, Nat.reduceMul, Nat.reduceLeDiff, Nat.reduceLT, reduceIte, f3]
          exact ⟨hE', m, n, f12, f13, hmn, by omega, by omega⟩
    · rintro f5 w7 ⟨g3, hE7, m, n, g12, g13, hmn, hn, hsum⟩
      simp only [VS, VD, SV, SL, T, Nat.reduceEqDiff, Nat.reduceAdd, Nat.reduceSub, Nat.reduceMul, Nat.reduceLeDiff, Nat.reduceLT, reduceIte, g12, g13]
      rw [decide_eq_true (show (m : Int) ≤ n by omega)]
      simp only [VS, VD, SV, SL, T, Nat.reduceEqDiff, Nat.reduceAdd, Nat.reduceSub, Nat.reduceMul, Nat.reduceLeDiff, Nat.reduceLT, reduceIte, g3, g12, g13]
      refine ⟨by omega, ?_⟩
      refine (PFlush_spec s y l w7).mono ?_
      rintro _ w8 ⟨rfl, hE8⟩
      have ef : flushI s y l = s * y := by rw [flushI, if_pos hg]
      have e1 : ((s.toNat * y.toNat : Nat) : Int) = s * y := by rw [Int.natCast_mul, Int.toNat_of_nonneg (by omega), Int.toNat_of_nonneg (by omega)]
      have d1 : decide ((n : Int) - m ≤ s * y) = true := decide_eq_true (by omega)
      simp only [VS, VD, SV, SL, T, Nat.reduceEqDiff, Nat.reduceAdd, Nat.reduceSub, Nat.reduceMul, Nat.reduceLeDiff, Nat.reduceLT, reduceIte, ef, d1]
      exact hΨ _ _ ⟨rfl, hE7.trans hE8⟩
end Go.Proofs.Ytneipineehichaa

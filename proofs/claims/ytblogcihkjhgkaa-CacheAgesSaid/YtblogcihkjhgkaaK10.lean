/-
  CacheAges.
-/
import Derived.Test.YtblogcihkjhgkaaKQ
set_option linter.unusedSimpArgs false
set_option linter.unusedVariables false
namespace Go.Proofs.Ytblogcihkjhgkaa
open Go.W Go.RowKit
set_option maxRecDepth 100000 in
theorem CacheAges_spec (s y l : Int) (v : Value) (xs : List Int) (a : Int) (w : World) (hv : IntsAt w v xs) (hM : xs.length ≤ maxLen ∧ ∀ n ∈ xs, -9223372036854775808 ≤ n ∧ n ≤ 9223372036854775807) (ha : -9223372036854775808 ≤ a ∧ a ≤ 9223372036854775807) :
    VRet Try.prog 8 #[cfgV s y l, v, .int .i64 a] w fun v w' => v = .bool true ∧ Ext w w' := by
  have hlen : xs.length ≤ 9223372036854775807 := by have := hM.1; simp only [maxLen] at this; omega
  obtain ⟨av, cv, rfl⟩ := hv.form
  refine VRet_start T.mo ok8 rfl fun Ψ hΨ => ?_; simp only [vc8, rs8]
  simp only [VS, VD, SV, SL, T, Nat.reduceEqDiff, Nat.reduceAdd, Nat.reduceSub, Nat.reduceMul, Nat.reduceLeDiff, Nat.reduceLT, reduceIte, cfgV]
  refine (awake_spec _).mono ?_
  rintro _ w1 ⟨rfl, hE1⟩
  replace hE1 := ((Ext.refl w).alloc tomb).trans hE1
  simp only [VS, VD, SV, SL, T, Nat.reduceEqDiff, Nat.reduceAdd, Nat.reduceSub, Nat.reduceMul, Nat.reduceLeDiff, Nat.reduceLT, reduceIte]
  refine (made_spec s y l _ xs hlen (fun x hx => (hM.2 x hx).2) w1 (hv.ext hE1)).mono ?_
  rintro v2 w2 h2
  have hE2 : Ext w w2 := by rcases h2 with ⟨_, _, h⟩ | ⟨_, p, F, _, _, _, h⟩ <;> exact hE1.trans h
  simp only [VS, VD, SV, SL, T, Nat.reduceEqDiff, Nat.reduceAdd, Nat.reduceSub, Nat.reduceMul, Nat.reduceLeDiff, Nat.reduceLT, reduceIte]
  refine (great_spec _ xs hlen w2 (hv.ext hE2)).mono ?_
  rintro _ w3 ⟨rfl, hE3⟩
  have hE := hE2.trans hE3
  by_cases hgr : xs.length > 200 ∨ ∃ x ∈ xs, x > 100000
  · rw [decide_eq_true hgr]
    simp only [VS, VD, SV, SL, T, Nat.reduceEqDiff, Nat.reduceAdd, Nat.reduceSub, Nat.reduceMul, Nat.reduceLeDiff, Nat.reduceLT, reduceIte]
    exact hΨ _ _ ⟨rfl, hE⟩
  rw [decide_eq_false hgr]
  have hbig : ∀ x ∈ xs, x ≤ 100000 := by
    intro x hx
    apply Int.not_lt.1
    intro h
    exact hgr (.inr ⟨x, hx, h⟩)
  rcases h2 with ⟨hg, rfl, _⟩ | ⟨hg, p, F, rfl, hC, hF, _⟩
  · simp only [VS, VD, SV, SL, T, Nat.reduceEqDiff, Nat.reduceAdd, Nat.reduceSub, Nat.reduceMul, Nat.reduceLeDiff, Nat.reduceLT, reduceIte, Option.isNone_none]
    exact hΨ _ _ ⟨rfl, hE⟩
  simp only [VS, VD, SV, SL, T, Nat.reduceEqDiff, Nat.reduceAdd, Nat.reduceSub, Nat.reduceMul, Nat.reduceLeDiff, Nat.reduceLT, reduceIte, Option.isNone_some]
  by_cases ha1 : 100000 < a
  · rw [decide_eq_true ha1]
    simp only [VS, VD, SV, SL, T, Nat.reduceEqDiff, Nat.reduceAdd, Nat.reduceSub, Nat.reduceMul, Nat.reduceLeDiff, Nat.reduceLT, reduceIte]
    exact hΨ _ _ ⟨rfl, hE⟩
  rw [decide_eq_false ha1]
  simp only [VS, VD, SV, SL, T, Nat.reduceEqDiff, Nat.reduceAdd, Nat.reduceSub, Nat.reduceMul, Nat.reduceLeDiff, Nat.reduceLT, reduceIte]
  have hgs := Geo_spec hg
  have hC3 := hC.ext hE3
  rw [emp_stS s y, runS_stS hg] at hC3
  refine (Lines_spec hC3).mono ?_
  rintro v4 w4 ⟨hL, hE4⟩
  obtain ⟨a4, c4, rfl⟩ := hL.form
  rw [stS_len]
  rw [stS_len] at hL
  simp only [VS, VD, SV, SL, T, Nat.reduceEqDiff, Nat.reduceAdd, Nat.reduceSub, Nat.reduceMul, Nat.reduceLeDiff, Nat.reduceLT, reduceIte]
  have hC4 := hC3.ext hE4
  have hEw4 := hE.trans hE4
  refine LoopP_intro (α := Nat) (fun i f' w' => f' 2 = .int .i64 a ∧ f' 3 = .agg #[.int .i64 s, .int .i64 y, .int .i64 l] ∧ f' 7 = ptr p ∧ f' 29 = .slice a4 s.toNat c4 ∧ f' 30 = .int .i64 s.toNat ∧ f' 31 = .int .i64 i ∧ i ≤ s.toNat ∧ Ext w4 w' ∧
    ∃ b, f' 8 = .bool b ∧ (b = false → ∀ j, j < i → a ∉ (dst (hh s l j xs)).take y.toNat)) (fun i => s.toNat - i) 0 ?_ ?_
  · simp only [VS, VD, SV, SL, T, Nat.reduceEqDiff, Nat.reduceAdd, Nat.reduceSub, Nat.reduceMul, Nat.reduceLeDiff, Nat.reduceLT, reduceIte]
    exact ⟨rfl, Nat.zero_le _, Ext.refl _, false, rfl, fun _ j hj => by omega⟩
  · rintro i f' wo ⟨f2, f3, f7, f29, f30, f31, hi, hEx, b, f8, hb⟩
    simp only [VS, VD, SV, SL, T, Nat.reduceEqDiff, Nat.reduceAdd, Nat.reduceSub, Nat.reduceMul, Nat.reduceLeDiff, Nat.reduceLT, reduceIte, f31, f30]
    refine cnd_d (fun hlt => ?_) (fun hlt => ?_)
    · have hi' : i < s.toNat := by omega
      obtain ⟨b5, off5, cs5, e5, fz5, u5, rfl, _, hb5, hc5, hu5⟩ := (hL.ext hEx).get (stX_get (xs := xs) (l := l) (y := y) hi')
      obtain ⟨a6, c6, rfl⟩ := hu5.form
      generalize hD : (dst (hh s l i xs)).take y.toNat = D at *
      simp only [VS, VD, SV, SL, T, Nat.reduceEqDiff, Nat.reduceAdd, Nat.reduceSub, Nat.reduceMul, Nat.reduceLeDiff, Nat.reduceLT, reduceIte, f31, f29, hb5, Int.toNat_natCast, hc5, f3]
      refine ⟨by omega, cnd_d (fun hq => ?_) (fun hq => ?_)⟩
      · exfalso
        have : D.length ≤ y.toNat := by rw [← hD]; exact List.length_take_le ..
        omega
      · simp only [VS, VD, SV, SL, T, Nat.reduceEqDiff, Nat.reduceAdd, Nat.reduceSub, Nat.reduceMul, Nat.reduceLeDiff, Nat.reduceLT, reduceIte]
        refine LoopP_intro (α := Nat) (fun j f' w' => f' 2 = .int .i64 a ∧ f' 3 = .agg #[.int .i64 s, .int .i64 y, .int .i64 l] ∧ f' 7 = ptr p ∧ f' 9 = .int .i64 i ∧ f' 29 = .slice (some ⟨b5, off5, none⟩) s.toNat c4 ∧ f' 30 = .int .i64 s.toNat ∧ f' 31 = .int .i64 i ∧ f' 41 = .slice a6 D.length c6 ∧ f' 42 = .int .i64 D.length ∧ f' 43 = .int .i64 j ∧ j ≤ D.length ∧ Ext wo w' ∧
          ∃ b, f' 8 = .bool b ∧ (b = false → (∀ j, j < i → a ∉ (dst (hh s l j xs)).take y.toNat) ∧ a ∉ D.take j)) (fun j => D.length - j) 0 ?_ ?_
        · simp only [VS, VD, SV, SL, T, Nat.reduceEqDiff, Nat.reduceAdd, Nat.reduceSub, Nat.reduceMul, Nat.reduceLeDiff, Nat.reduceLT, reduceIte, f2, f3, f7, f29, f30, f31, f8]
          exact ⟨rfl, Nat.zero_le _, Ext.refl _, b, rfl, fun h => ⟨hb h, by simp⟩⟩
        · rintro j f'' w'' ⟨g2, g3, g7, g9, g29, g30, g31, g41, g42, g43, hj, hExy, b', g8, hb'⟩
          simp only [VS, VD, SV, SL, T, Nat.reduceEqDiff, Nat.reduceAdd, Nat.reduceSub, Nat.reduceMul, Nat.reduceLeDiff, Nat.reduceLT, reduceIte, g43, g42]
          refine cnd_d (fun hlt2 => ?_) (fun hlt2 => ?_)
          · have hj' : j < D.length := by omega
            obtain ⟨b7, off7, cs7, e7, fz7, rfl, _, hb7, hc7⟩ := (hu5.ext hExy).get (i := j) (x := D[j]) (by simp [hj'])
            obtain ⟨k0, k1, kset, kage, khit, khit2⟩ := line_facts hg hbig hi' (j := j) (k := D[j]) (by rw [hD]; simp [hj'])
            simp only [VS, VD, SV, SL, T, Nat.reduceEqDiff, Nat.reduceAdd, Nat.reduceSub, Nat.reduceMul, Nat.reduceLeDiff, Nat.reduceLT, reduceIte, g43, g41, hb7, Int.toNat_natCast, hc7, g3]
            refine ⟨by omega, ?_⟩
            refine (Set_spec s y l D[j] _).mono ?_
            rintro _ w7 ⟨rfl, hE7⟩
            rw [kset]
            simp only [VS, VD, SV, SL, T, Nat.reduceEqDiff, Nat.reduceAdd, Nat.reduceSub, Nat.reduceMul, Nat.reduceLeDiff, Nat.reduceLT, reduceIte, g9, g7, ne_eq, not_true_eq_false, decide_false]
            have hC7 := hC4.ext ((hEx.trans hExy).trans hE7)
            refine (Age_spec hC7 D[j]).mono ?_
            rintro _ w8 ⟨rfl, hE8⟩
            rw [kage]
            have hkl : 0 ≤ D[j] * l ∧ D[j] * l ≤ 1600000 := ⟨Int.mul_nonneg k0 (by omega), Int.mul_le_mul k1 (show l ≤ 16 by omega) (by omega) (by omega)⟩
            simp only [VS, VD, SV, SL, T, Nat.reduceEqDiff, Nat.reduceAdd, Nat.reduceSub, Nat.reduceMul, Nat.reduceLeDiff, Nat.reduceLT, reduceIte, g9, g7, g3, ne_eq, not_true_eq_false, decide_false]
            refine ⟨by omega, ?_⟩
            refine (Probe_spec (hC7.ext hE8) (D[j] * l) (by omega)).mono ?_
            rintro _ w9 ⟨rfl, hE9⟩
            rw [khit]
            simp only [VS, VD, SV, SL, T, Nat.reduceEqDiff, Nat.reduceAdd, Nat.reduceSub, Nat.reduceMul, Nat.reduceLeDiff, Nat.reduceLT, reduceIte, g7, g3, Bool.not_true]
            refine ⟨by omega, by omega, by omega, ?_⟩
            refine (Probe_spec ((hC7.ext hE8).ext hE9) (D[j] * l + l - 1) (by omega)).mono ?_
            rintro _ w10 ⟨rfl, hE10⟩
            rw [khit2]
            have hEn := (((hExy.trans hE7).trans hE8).trans hE9).trans hE10
            have key : ∀ b'', (b'' = false → (b' = false ∧ ¬ (D[j] = a))) → (b'' = false → (∀ j, j < i → a ∉ (dst (hh s l j xs)).take y.toNat) ∧ a ∉ D.take (j + 1)) := by
              intro b'' h1 h2
              obtain ⟨h3, h4⟩ := h1 h2
              refine ⟨(hb' h3).1, ?_⟩
              rw [List.take_succ_eq_append_getElem hj', List.mem_append]
              rintro (h | h)
              · exact (hb' h3).2 h
              · simp only [List.mem_singleton] at h; exact h4 h.symm
            cases b' with
            | true =>
              simp only [VS, VD, SV, SL, T, Nat.reduceEqDiff, Nat.reduceAdd, Nat.reduceSub, Nat.reduceMul, Nat.reduceLeDiff, Nat.reduceLT, reduceIte, g8, g43, Bool.not_true]
              exact ⟨by omega, j + 1, ⟨g2, g3, g7, g9, g29, g30, g31, g41, g42, by simp, by omega, hEn, true, rfl, key _ (fun h => by cases h)⟩, by omega⟩
            | false =>
              simp only [VS, VD, SV, SL, T, Nat.reduceEqDiff, Nat.reduceAdd, Nat.reduceSub, Nat.reduceMul, Nat.reduceLeDiff, Nat.reduceLT, reduceIte, g8, g43, g2, Bool.not_true]
              exact ⟨by omega, j + 1, ⟨g3, g7, g9, g29, g30, g31, g41, g42, by simp, by omega, hEn, _, rfl, key _ (fun h => ⟨rfl, by simpa using h⟩)⟩, by omega⟩
          · simp only [VS, VD, SV, SL, T, Nat.reduceEqDiff, Nat.reduceAdd, Nat.reduceSub, Nat.reduceMul, Nat.reduceLeDiff, Nat.reduceLT, reduceIte, g31]
            refine ⟨by omega, i + 1, ⟨g2, g3, g7, g29, g30, by simp, by omega, hEx.trans hExy, b', g8, fun h j' hj' => ?_⟩, by omega⟩
            by_cases e : j' = i
            · subst e
              rw [hD]
              have := (hb' h).2
              rw [List.take_of_length_le (by omega)] at this
              exact this
            · exact (hb' h).1 j' (by omega)
    · have hfin := hEw4.trans hEx
      cases b with
      | true =>
        simp only [VS, VD, SV, SL, T, Nat.reduceEqDiff, Nat.reduceAdd, Nat.reduceSub, Nat.reduceMul, Nat.reduceLeDiff, Nat.reduceLT, reduceIte, f8]
        exact hΨ _ _ ⟨rfl, hfin⟩
      | false =>
        have hno : ∀ i, i < s.toNat → a ∉ (dst (hh s l i xs)).take y.toNat := fun i' hi' => hb rfl i' (by omega)
        simp only [VS, VD, SV, SL, T, Nat.reduceEqDiff, Nat.reduceAdd, Nat.reduceSub, Nat.reduceMul, Nat.reduceLeDiff, Nat.reduceLT, reduceIte, f8, f7, f2]
        refine (Age_spec (hC4.ext hEx) a).mono ?_
        rintro _ w8 ⟨rfl, hE8⟩
        rw [age_none (H := xs.foldl (addH s l) fun _ => []) hg hno]
        simp only [VS, VD, SV, SL, T, Nat.reduceEqDiff, Nat.reduceAdd, Nat.reduceSub, Nat.reduceMul, Nat.reduceLeDiff, Nat.reduceLT, reduceIte, f2, decide_true]
        by_cases h0 : a < 0
        · rw [decide_eq_true h0]
          simp only [VS, VD, SV, SL, T, Nat.reduceEqDiff, Nat.reduceAdd, Nat.reduceSub, Nat.reduceMul, Nat.reduceLeDiff, Nat.reduceLT, reduceIte]
          exact hΨ _ _ ⟨rfl, hfin.trans hE8⟩
        · rw [decide_eq_false h0]
          have hkl : 0 ≤ a * l ∧ a * l ≤ 1600000 := ⟨Int.mul_nonneg (by omega) (by omega), Int.mul_le_mul (show a ≤ 100000 by omega) (show l ≤ 16 by omega) (by omega) (by omega)⟩
          simp only [VS, VD, SV, SL, T, Nat.reduceEqDiff, Nat.reduceAdd, Nat.reduceSub, Nat.reduceMul, Nat.reduceLeDiff, Nat.reduceLT, reduceIte, f7, f2, f3]
          refine ⟨by omega, ?_⟩
          refine (Probe_spec ((hC4.ext hEx).ext hE8) (a * l) (by omega)).mono ?_
          rintro _ w9 ⟨rfl, hE9⟩
          rw [hit_none (H := xs.foldl (addH s l) fun _ => []) hg hno]
          simp only [VS, VD, SV, SL, T, Nat.reduceEqDiff, Nat.reduceAdd, Nat.reduceSub, Nat.reduceMul, Nat.reduceLeDiff, Nat.reduceLT, reduceIte, Bool.not_false]
          exact hΨ _ _ ⟨rfl, (hfin.trans hE8).trans hE9⟩
end Go.Proofs.Ytblogcihkjhgkaa

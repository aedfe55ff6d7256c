/-
  CacheInclusion.
-/
import Derived.Test.YtblogcihkjhgkaaK13
set_option linter.unusedSimpArgs false
set_option linter.unusedVariables false
namespace Go.Proofs.Ytblogcihkjhgkaa
open Go.W Go.RowKit
theorem take_sub {M : List Int} {n : Int} {i j : Nat} (h : n ∈ M.take i) (hij : i ≤ j) : n ∈ M.take j := by
  rw [← Nat.min_eq_left hij, ← List.take_take] at h
  exact List.mem_of_mem_take h
set_option maxRecDepth 100000 in
theorem CacheInclusion_spec (s y l : Int) (m : Int) (v : Value) (xs : List Int) (w : World) (hm : 0 ≤ m ∧ m ≤ 255) (hv : IntsAt w v xs) (hM : xs.length ≤ maxLen ∧ ∀ n ∈ xs, -9223372036854775808 ≤ n ∧ n ≤ 9223372036854775807) :
    VRet Try.prog 5 #[cfgV s y l, .int .u8 m, v] w fun v w' => v = .bool true ∧ Ext w w' := by
  have hlen : xs.length ≤ 9223372036854775807 := by have := hM.1; simp only [maxLen] at this; omega
  obtain ⟨av, cv, rfl⟩ := hv.form
  refine VRet_start T.mo ok5 rfl fun Ψ hΨ => ?_; simp only [vc5, rs5]
  simp only [VS, VD, SV, SL, T, Nat.reduceEqDiff, Nat.reduceAdd, Nat.reduceSub, Nat.reduceMul, Nat.reduceLeDiff, Nat.reduceLT, reduceIte, cfgV]
  refine (awake_spec _).mono ?_
  rintro _ w1 ⟨rfl, hE1⟩
  replace hE1 := ((Ext.refl w).alloc tomb).trans hE1
  simp only [VS, VD, SV, SL, T, Nat.reduceEqDiff, Nat.reduceAdd, Nat.reduceSub, Nat.reduceMul, Nat.reduceLeDiff, Nat.reduceLT, reduceIte]
  refine ⟨by omega, by omega, ?_⟩
  refine rV_addw (q := .i64) (a := y) (b := m % 8) (by simp only [VS, VD, SV, SL, T, Nat.reduceEqDiff, Nat.reduceAdd, Nat.reduceSub, Nat.reduceMul, Nat.reduceLeDiff, Nat.reduceLT, reduceIte]) (by simp only [VS, VD, SV, SL, T, Nat.reduceEqDiff, Nat.reduceAdd, Nat.reduceSub, Nat.reduceMul, Nat.reduceLeDiff, Nat.reduceLT, reduceIte]) ?_
  generalize hy' : IntKind.i64.wrap (y + m % 8) = y'
  simp only [VS, VD, SV, SL, T, Nat.reduceEqDiff, Nat.reduceAdd, Nat.reduceSub, Nat.reduceMul, Nat.reduceLeDiff, Nat.reduceLT, reduceIte]
  have hE1' := hE1.alloc tomb
  refine DW_intro (fun _ _ v w' => Mad w w' s y l (stX s y l []) v) ?_
  simp only [VS, VD, SV, SL, T, Nat.reduceEqDiff, Nat.reduceAdd, Nat.reduceSub, Nat.reduceMul, Nat.reduceLeDiff, Nat.reduceLT, reduceIte]
  refine rY_ph rfl rfl (fun _ _ _ h hE => h.ext hE) (fun w' hE' _ => ?_) ?_
  · simp only [VS, VD, SV, SL, T, Nat.reduceEqDiff, Nat.reduceAdd, Nat.reduceSub, Nat.reduceMul, Nat.reduceLeDiff, Nat.reduceLT, reduceIte]
    exact made_mad s y l _ [] (by simp) (by simp) w' (nil_ints _) w (hE1'.trans hE').size
  rintro v1 ⟨_, _, _, _⟩
  simp only [VS, VD, SV, SL, T, Nat.reduceEqDiff, Nat.reduceAdd, Nat.reduceSub, Nat.reduceMul, Nat.reduceLeDiff, Nat.reduceLT, reduceIte]
  intro w2 hE2 hF2
  have hMx := FA_head hF2
  simp only [VS, VD, SV, SL, T, Nat.reduceEqDiff, Nat.reduceAdd, Nat.reduceSub, Nat.reduceMul, Nat.reduceLeDiff, Nat.reduceLT, reduceIte]
  refine (made_mad s y' l _ [] (by simp) (by simp) w2 (nil_ints _) w2 (Nat.le_refl _)).mono ?_
  rintro v3 w3 ⟨hE3, hMy⟩
  have hEw3 := (hE1'.trans hE2).trans hE3
  simp only [VS, VD, SV, SL, T, Nat.reduceEqDiff, Nat.reduceAdd, Nat.reduceSub, Nat.reduceMul, Nat.reduceLeDiff, Nat.reduceLT, reduceIte]
  refine (great_spec _ xs hlen w3 (hv.ext hEw3)).mono ?_
  rintro _ w4 ⟨rfl, hE4⟩
  have hE := hEw3.trans hE4
  by_cases hgr : xs.length > 200 ∨ ∃ x ∈ xs, x > 100000
  · rw [decide_eq_true hgr]
    simp only [VS, VD, SV, SL, T, Nat.reduceEqDiff, Nat.reduceAdd, Nat.reduceSub, Nat.reduceMul, Nat.reduceLeDiff, Nat.reduceLT, reduceIte]
    exact hΨ _ _ ⟨rfl, hE⟩
  rw [decide_eq_false hgr]
  obtain ⟨hxl, hxb⟩ := not_great hgr
  rcases hMx with ⟨hg, rfl⟩ | ⟨hg, p, F, rfl, hC, hF⟩
  · simp only [VS, VD, SV, SL, T, Nat.reduceEqDiff, Nat.reduceAdd, Nat.reduceSub, Nat.reduceMul, Nat.reduceLeDiff, Nat.reduceLT, reduceIte, Option.isNone_none]
    exact hΨ _ _ ⟨rfl, hE⟩
  rcases hMy with ⟨hg', rfl⟩ | ⟨hg', p', G, rfl, hD, hG⟩
  · simp only [VS, VD, SV, SL, T, Nat.reduceEqDiff, Nat.reduceAdd, Nat.reduceSub, Nat.reduceMul, Nat.reduceLeDiff, Nat.reduceLT, reduceIte, Option.isNone_none, Option.isNone_some]
    exact hΨ _ _ ⟨rfl, hE⟩
  simp only [VS, VD, SV, SL, T, Nat.reduceEqDiff, Nat.reduceAdd, Nat.reduceSub, Nat.reduceMul, Nat.reduceLeDiff, Nat.reduceLT, reduceIte, Option.isNone_some]
  have hgs := Geo_spec hg
  have hyy : y ≤ y' := by
    have : IntKind.i64.wrap (y + m % 8) = y + m % 8 := wrap_inr (by constructor <;> simp [IntKind.min, IntKind.max, IntKind.signed, IntKind.bits] <;> omega)
    omega
  have hd : ∀ b, G b → ¬ F b := fun b hb hb' => by have := hC.lt b hb'; have := hG b hb; omega
  replace hG : ∀ b, G b → w.heap.size ≤ b := fun b hb => Nat.le_trans (hE1'.trans hE2).size (hG b hb)
  refine LoopP_intro (α := Nat) (fun i f' w' => f' 8 = ptr p ∧ f' 9 = ptr p' ∧ f' 42 = .slice av xs.length cv ∧ f' 43 = .int .i64 xs.length ∧ f' 44 = .int .i64 i ∧ i ≤ xs.length ∧ Ext w w' ∧
    ∃ F G, CacheAt w' F p s y l (stX s y l (xs.take i)) ∧ CacheAt w' G p' s y' l (stX s y' l (xs.take i)) ∧ (∀ b, F b → w.heap.size ≤ b) ∧ (∀ b, G b → w.heap.size ≤ b) ∧ (∀ b, G b → ¬ F b)) (fun i => xs.length - i) 0 ?_ ?_
  · simp only [VS, VD, SV, SL, T, Nat.reduceEqDiff, Nat.reduceAdd, Nat.reduceSub, Nat.reduceMul, Nat.reduceLeDiff, Nat.reduceLT, reduceIte]
    exact ⟨rfl, Nat.zero_le _, hE, F, G, hC.ext (hE3.trans hE4), hD.ext hE4, hF, hG, hd⟩
  · rintro i f' wo ⟨f8, f9, f42, f43, f44, hi, hEx, F, G, hC, hD, hF, hG, hd⟩
    simp only [VS, VD, SV, SL, T, Nat.reduceEqDiff, Nat.reduceAdd, Nat.reduceSub, Nat.reduceMul, Nat.reduceLeDiff, Nat.reduceLT, reduceIte, f44, f43]
    refine cnd_d (fun hlt => ?_) (fun hlt => ?_)
    · have hi' : i < xs.length := by omega
      obtain ⟨b5, off5, cs5, e5, fz5, rfl, _, hb5, hc5⟩ := (hv.ext hEx).get (i := i) (x := xs[i]) (by simp [hi'])
      have htake : xs.take (i + 1) = xs.take i ++ [xs[i]] := List.take_succ_eq_append_getElem hi'
      have hxr := hM.2 _ (List.getElem_mem hi')
      generalize hx : xs[i] = x at *
      have hHx : (xs.take (i + 1)).foldl (addH s l) (fun _ => []) = addH s l ((xs.take i).foldl (addH s l) fun _ => []) x := by rw [htake, List.foldl_append]; rfl
      simp only [VS, VD, SV, SL, T, Nat.reduceEqDiff, Nat.reduceAdd, Nat.reduceSub, Nat.reduceMul, Nat.reduceLeDiff, Nat.reduceLT, reduceIte, f44, f42, hb5, Int.toNat_natCast, hc5, f8]
      refine ⟨by omega, ?_⟩
      refine (Access_mv hg hC x hxr.2).mono ?_
      rintro _ w6 ⟨rfl, F6, hC6, hm6⟩
      obtain ⟨hD6, hd6⟩ := hm6.other hD hd
      have hE6 := hm6.ext hEx hF
      have hF6 := hm6.above hEx.size hF
      simp only [VS, VD, SV, SL, T, Nat.reduceEqDiff, Nat.reduceAdd, Nat.reduceSub, Nat.reduceMul, Nat.reduceLeDiff, Nat.reduceLT, reduceIte, f9]
      refine (Access_mv hg' hD6 x hxr.2).mono ?_
      rintro _ w7 ⟨rfl, G7, hD7, hm7⟩
      obtain ⟨hC7, hd7⟩ := hm7.other hC6 (fun b hb hb' => hd6 b hb' hb)
      have hE7 := hm7.ext hE6 hG
      have hG7 := hm7.above hE6.size hG
      rw [← hHx] at hC7 hD7
      rw [hitS_stS hg, hitS_stS hg']
      generalize (xs.take i).foldl (addH s l) (fun _ => []) = H at *
      by_cases hs : 0 ≤ x ∧ x / l ∈ (dst (H ((x / l) % s).toNat)).take y.toNat
      · have hs' : 0 ≤ x ∧ x / l ∈ (dst (H ((x / l) % s).toNat)).take y'.toNat := ⟨hs.1, take_sub hs.2 (by omega)⟩
        rw [decide_eq_true hs, decide_eq_true hs']
        simp only [VS, VD, SV, SL, T, Nat.reduceEqDiff, Nat.reduceAdd, Nat.reduceSub, Nat.reduceMul, Nat.reduceLeDiff, Nat.reduceLT, reduceIte, Bool.not_true, f44]
        exact ⟨by omega, i + 1, ⟨f8, f9, f42, f43, by simp, by omega, hE7, F6, G7, hC7, hD7, hF6, hG7, fun b hb hb' => hd7 b hb' hb⟩, by omega⟩
      · rw [decide_eq_false hs]
        simp only [VS, VD, SV, SL, T, Nat.reduceEqDiff, Nat.reduceAdd, Nat.reduceSub, Nat.reduceMul, Nat.reduceLeDiff, Nat.reduceLT, reduceIte, f44]
        exact ⟨by omega, i + 1, ⟨f8, f9, f42, f43, by simp, by omega, hE7, F6, G7, hC7, hD7, hF6, hG7, fun b hb hb' => hd7 b hb' hb⟩, by omega⟩
    · rw [List.take_of_length_le (by omega)] at hC hD
      simp only [VS, VD, SV, SL, T, Nat.reduceEqDiff, Nat.reduceAdd, Nat.reduceSub, Nat.reduceMul, Nat.reduceLeDiff, Nat.reduceLT, reduceIte, f8]
      refine (Lines_spec hC).mono ?_
      rintro v4 w5 ⟨hL, hE5⟩
      obtain ⟨a4, c4, rfl⟩ := hL.form
      rw [stS_len]
      rw [stS_len] at hL
      have hD5 := hD.ext hE5
      simp only [VS, VD, SV, SL, T, Nat.reduceEqDiff, Nat.reduceAdd, Nat.reduceSub, Nat.reduceMul, Nat.reduceLeDiff, Nat.reduceLT, reduceIte]
      refine LoopP_intro (α := Nat) (fun i f' w' => f' 9 = ptr p' ∧ f' 61 = .slice a4 s.toNat c4 ∧ f' 62 = .int .i64 s.toNat ∧ f' 63 = .int .i64 i ∧ i ≤ s.toNat ∧ Ext w5 w') (fun i => s.toNat - i) 0 ?_ ?_
      · simp only [VS, VD, SV, SL, T, Nat.reduceEqDiff, Nat.reduceAdd, Nat.reduceSub, Nat.reduceMul, Nat.reduceLeDiff, Nat.reduceLT, reduceIte, f9]
        exact ⟨rfl, Nat.zero_le _, Ext.refl _⟩
      · rintro i f' wo' ⟨f9, f61, f62, f63, hi, hEy⟩
        simp only [VS, VD, SV, SL, T, Nat.reduceEqDiff, Nat.reduceAdd, Nat.reduceSub, Nat.reduceMul, Nat.reduceLeDiff, Nat.reduceLT, reduceIte, f63, f62]
        refine cnd_d (fun hlt => ?_) (fun hlt => ?_)
        · have hi' : i < s.toNat := by omega
          obtain ⟨b5, off5, cs5, e5, fz5, u5, rfl, _, hb5, hc5, hu5⟩ := (hL.ext hEy).get (stX_get (xs := xs) (l := l) (y := y) hi')
          obtain ⟨a6, c6, rfl⟩ := hu5.form
          generalize hDD : (dst (hh s l i xs)).take y.toNat = D at *
          simp only [VS, VD, SV, SL, T, Nat.reduceEqDiff, Nat.reduceAdd, Nat.reduceSub, Nat.reduceMul, Nat.reduceLeDiff, Nat.reduceLT, reduceIte, f63, f61, hb5, Int.toNat_natCast, hc5]
          refine ⟨by omega, ?_⟩
          refine LoopP_intro (α := Nat) (fun j f' w' => f' 9 = ptr p' ∧ f' 61 = .slice (some ⟨b5, off5, none⟩) s.toNat c4 ∧ f' 62 = .int .i64 s.toNat ∧ f' 63 = .int .i64 i ∧ f' 67 = .slice a6 D.length c6 ∧ f' 68 = .int .i64 D.length ∧ f' 69 = .int .i64 j ∧ j ≤ D.length ∧ Ext wo' w') (fun j => D.length - j) 0 ?_ ?_
          · simp only [VS, VD, SV, SL, T, Nat.reduceEqDiff, Nat.reduceAdd, Nat.reduceSub, Nat.reduceMul, Nat.reduceLeDiff, Nat.reduceLT, reduceIte, f9, f61, f62, f63]
            exact ⟨rfl, Nat.zero_le _, Ext.refl _⟩
          · rintro j f'' w'' ⟨g9, g61, g62, g63, g67, g68, g69, hj, hEz⟩
            simp only [VS, VD, SV, SL, T, Nat.reduceEqDiff, Nat.reduceAdd, Nat.reduceSub, Nat.reduceMul, Nat.reduceLeDiff, Nat.reduceLT, reduceIte, g69, g68]
            refine cnd_d (fun hlt2 => ?_) (fun hlt2 => ?_)
            · have hj' : j < D.length := by omega
              have hjy : j < y.toNat := by
                have : D.length ≤ y.toNat := by rw [← hDD]; exact List.length_take_le ..
                omega
              obtain ⟨b7, off7, cs7, e7, fz7, rfl, _, hb7, hc7⟩ := (hu5.ext hEz).get (i := j) (x := D[j]) (by simp [hj'])
              have hk : ((dst (hh s l i xs)).take y.toNat)[j]? = some D[j] := by rw [hDD]; simp [hj']
              obtain ⟨_, _, _, kage, _, _⟩ := line_facts hg' hxb hi' (j := j) (k := D[j]) (by
                rw [List.getElem?_take_of_lt (by omega)] at hk ⊢
                exact hk)
              simp only [VS, VD, SV, SL, T, Nat.reduceEqDiff, Nat.reduceAdd, Nat.reduceSub, Nat.reduceMul, Nat.reduceLeDiff, Nat.reduceLT, reduceIte, g69, g67, hb7, Int.toNat_natCast, hc7, g9]
              refine ⟨by omega, ?_⟩
              refine (Age_spec (hD5.ext (hEy.trans hEz)) D[j]).mono ?_
              rintro _ w8 ⟨rfl, hE8⟩
              rw [kage]
              simp only [VS, VD, SV, SL, T, Nat.reduceEqDiff, Nat.reduceAdd, Nat.reduceSub, Nat.reduceMul, Nat.reduceLeDiff, Nat.reduceLT, reduceIte, ne_eq, not_true_eq_false, decide_false, g69]
              exact ⟨by omega, j + 1, ⟨g9, g61, g62, g63, g67, g68, by simp, by omega, hEz.trans hE8⟩, by omega⟩
            · simp only [VS, VD, SV, SL, T, Nat.reduceEqDiff, Nat.reduceAdd, Nat.reduceSub, Nat.reduceMul, Nat.reduceLeDiff, Nat.reduceLT, reduceIte, g63]
              exact ⟨by omega, i + 1, ⟨g9, g61, g62, by simp, by omega, hEy.trans hEz⟩, by omega⟩
        · simp only [VS, VD, SV, SL, T, Nat.reduceEqDiff, Nat.reduceAdd, Nat.reduceSub, Nat.reduceMul, Nat.reduceLeDiff, Nat.reduceLT, reduceIte]
          exact hΨ _ _ ⟨rfl, (hEx.trans hE5).trans hEy⟩
end Go.Proofs.Ytblogcihkjhgkaa

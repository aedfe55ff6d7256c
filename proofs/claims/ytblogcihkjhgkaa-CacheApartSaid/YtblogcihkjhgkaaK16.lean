/-
  CacheApart.
-/
import Derived.Test.YtblogcihkjhgkaaK14
set_option linter.unusedSimpArgs false
set_option linter.unusedVariables false
namespace Go.Proofs.Ytblogcihkjhgkaa
open Go.W Go.RowKit
section
variable (w : World) (a : Int)
set_option maxRecDepth 10000
theorem Flush_nil : VRet Try.prog 22 #[.pointer none] w fun _ w' => w' = w := by
  refine VRet_start T.mo ok22 rfl fun Ψ hΨ => ?_; simp only [vc22, rs22]
  simp only [VS, VD, SV, SL, T, Nat.reduceEqDiff, Nat.reduceAdd, Nat.reduceSub, Nat.reduceMul, Nat.reduceLeDiff, Nat.reduceLT, reduceIte, Option.isNone_none]
  exact hΨ _ _ rfl
theorem Access_nil : VRet Try.prog 23 #[.pointer none, .int .i64 a] w fun v w' => v = .bool false ∧ w' = w := by
  refine VRet_start T.mo ok23 rfl fun Ψ hΨ => ?_; simp only [vc23, rs23]
  simp only [VS, VD, SV, SL, T, Nat.reduceEqDiff, Nat.reduceAdd, Nat.reduceSub, Nat.reduceMul, Nat.reduceLeDiff, Nat.reduceLT, reduceIte, Option.isNone_none]
  exact hΨ _ _ ⟨rfl, rfl⟩
theorem Probe_nil : VRet Try.prog 26 #[.pointer none, .int .i64 a] w fun v w' => v = .bool false ∧ w' = w := by
  refine VRet_start T.mo ok26 rfl fun Ψ hΨ => ?_; simp only [vc26, rs26]
  simp only [VS, VD, SV, SL, T, Nat.reduceEqDiff, Nat.reduceAdd, Nat.reduceSub, Nat.reduceMul, Nat.reduceLeDiff, Nat.reduceLT, reduceIte, Option.isNone_none]
  exact hΨ _ _ ⟨rfl, rfl⟩
theorem Age_nil : VRet Try.prog 25 #[.pointer none, .int .i64 a] w fun v w' => v = .int .i64 (-1) ∧ w' = w := by
  refine VRet_start T.mo ok25 rfl fun Ψ hΨ => ?_; simp only [vc25, rs25]
  simp only [VS, VD, SV, SL, T, Nat.reduceEqDiff, Nat.reduceAdd, Nat.reduceSub, Nat.reduceMul, Nat.reduceLeDiff, Nat.reduceLT, reduceIte, Option.isNone_none]
  exact hΨ _ _ ⟨rfl, rfl⟩
theorem Lines_nil : VRet Try.prog 24 #[.pointer none] w fun v w' => v = .slice none 0 0 ∧ w' = w := by
  refine VRet_start T.mo ok24 rfl fun Ψ hΨ => ?_; simp only [vc24, rs24]
  simp only [VS, VD, SV, SL, T, Nat.reduceEqDiff, Nat.reduceAdd, Nat.reduceSub, Nat.reduceMul, Nat.reduceLeDiff, Nat.reduceLT, reduceIte, Option.isNone_none]
  exact hΨ _ _ ⟨rfl, rfl⟩
theorem Clone_nil : VRet Try.prog 27 #[.pointer none] w fun v w' => v = .pointer none ∧ w' = w := by
  refine VRet_start T.mo ok27 rfl fun Ψ hΨ => ?_; simp only [vc27, rs27]
  simp only [VS, VD, SV, SL, T, Nat.reduceEqDiff, Nat.reduceAdd, Nat.reduceSub, Nat.reduceMul, Nat.reduceLeDiff, Nat.reduceLT, reduceIte, Option.isNone_none]
  exact hΨ _ _ ⟨rfl, rfl⟩
end
theorem OwnLs.chg {n : Nat} {w w' : World} {F : Nat → Prop} {s : Int} {L : List (List Int)} {v : Value} (h : OwnLs n w s L v) (hC : Chg F w w') (hF : ∀ b, F b → b < n) : OwnLs n w' s L v := by
  obtain ⟨q, us, e1, e2, e3, e4, e5, e6, e7⟩ := h
  refine ⟨q, us, e1, e2, e3, (hC.get q (get_lt e4) (fun hf => by have := hF q hf; omega)).trans e4, fun i u li hu hl => own_chg (e5 i u li hu hl) hC (fun b hb hf => ?_), fun i u b hu hb => ⟨(e6 i u b hu hb).1, Nat.lt_of_lt_of_le (e6 i u b hu hb).2.1 hC.size, (e6 i u b hu hb).2.2⟩, e7⟩
  have := (e6 i u b hu hb).1
  have := hF b hf
  omega
theorem OwnLs.ext {n : Nat} {w w' : World} {s : Int} {L : List (List Int)} {v : Value} (h : OwnLs n w s L v) (hE : Ext w w') : OwnLs n w' s L v := h.chg (F := fun _ => False) (Chg.of_ext hE) (fun _ h => h.elim)
theorem OwnLs.ints {n : Nat} {w : World} {s : Int} {L : List (List Int)} {v : Value} (h : OwnLs n w s L v) (hl : L.length = s.toNat) : IntssAt w v L := by
  obtain ⟨q, us, rfl, e2, e3, e4, e5, e6, e7⟩ := h
  refine .inr ⟨q, 0, s.toNat, by rw [hl], fun j li hj => ?_⟩
  have hjl : j < us.length := by have := (List.getElem?_eq_some_iff.1 hj).1; omega
  refine ⟨us[j], ?_, own_ints (e5 j us[j] li (by simp [hjl]) hj)⟩
  rw [cell_mk, e4, Nat.zero_add]
  simp [hjl]
set_option maxRecDepth 100000 in
theorem CacheApart_spec (s y l : Int) (v : Value) (xs : List Int) (st : Int) (w : World) (hv : IntsAt w v xs) (hM : xs.length ≤ maxLen ∧ ∀ n ∈ xs, -9223372036854775808 ≤ n ∧ n ≤ 9223372036854775807) (hst : -9223372036854775808 ≤ st ∧ st ≤ 9223372036854775807) :
    VRet Try.prog 10 #[cfgV s y l, v, .int .i64 st] w fun v w' => v = .bool true ∧ Ext w w' := by
  have hlen : xs.length ≤ 9223372036854775807 := by have := hM.1; simp only [maxLen] at this; omega
  obtain ⟨av, cv, rfl⟩ := hv.form
  refine VRet_start T.mo ok10 rfl fun Ψ hΨ => ?_; simp only [vc10, rs10]
  simp only [VS, VD, SV, SL, T, Nat.reduceEqDiff, Nat.reduceAdd, Nat.reduceSub, Nat.reduceMul, Nat.reduceLeDiff, Nat.reduceLT, reduceIte, cfgV]
  refine (awake_spec _).mono ?_
  rintro _ w1 ⟨rfl, hE1⟩
  replace hE1 := ((Ext.refl w).alloc tomb).trans hE1
  simp only [VS, VD, SV, SL, T, Nat.reduceEqDiff, Nat.reduceAdd, Nat.reduceSub, Nat.reduceMul, Nat.reduceLeDiff, Nat.reduceLT, reduceIte]
  refine DW_intro (fun _ _ v w' => Mad w w' s y l (stX s y l xs) v) ?_
  simp only [VS, VD, SV, SL, T, Nat.reduceEqDiff, Nat.reduceAdd, Nat.reduceSub, Nat.reduceMul, Nat.reduceLeDiff, Nat.reduceLT, reduceIte]
  refine rY_ph rfl rfl (fun _ _ _ h hE => h.ext hE) (fun w' hE' _ => ?_) ?_
  · simp only [VS, VD, SV, SL, T, Nat.reduceEqDiff, Nat.reduceAdd, Nat.reduceSub, Nat.reduceMul, Nat.reduceLeDiff, Nat.reduceLT, reduceIte]
    exact made_mad s y l _ xs hlen (fun x hx => (hM.2 x hx).2) w' (hv.ext (hE1.trans hE')) w (hE1.trans hE').size
  rintro v1 ⟨_, _, _, _⟩
  simp only [VS, VD, SV, SL, T, Nat.reduceEqDiff, Nat.reduceAdd, Nat.reduceSub, Nat.reduceMul, Nat.reduceLeDiff, Nat.reduceLT, reduceIte]
  intro w2 hE2 hF2
  have hMx := FA_head hF2
  simp only [VS, VD, SV, SL, T, Nat.reduceEqDiff, Nat.reduceAdd, Nat.reduceSub, Nat.reduceMul, Nat.reduceLeDiff, Nat.reduceLT, reduceIte]
  refine (made_mad s y l _ [] (by simp) (by simp) w2 (nil_ints _) w2 (Nat.le_refl _)).mono ?_
  rintro v3 w3 ⟨hE3, hMy⟩
  have hEw3 := (hE1.trans hE2).trans hE3
  simp only [VS, VD, SV, SL, T, Nat.reduceEqDiff, Nat.reduceAdd, Nat.reduceSub, Nat.reduceMul, Nat.reduceLeDiff, Nat.reduceLT, reduceIte]
  refine (great_spec _ xs hlen w3 (hv.ext hEw3)).mono ?_
  rintro _ w4 ⟨rfl, hE4⟩
  have hE := hEw3.trans hE4
  by_cases hgr : xs.length > 200 ∨ ∃ x ∈ xs, x > 100000
  · rw [decide_eq_true hgr]
    simp only [VS, VD, SV, SL, T, Nat.reduceEqDiff, Nat.reduceAdd, Nat.reduceSub, Nat.reduceMul, Nat.reduceLeDiff, Nat.reduceLT, reduceIte]
    exact hΨ _ _ ⟨rfl, hE⟩
  rw [decide_eq_false hgr]
  obtain ⟨hxl, hxb⟩ := not_great hgr
  rcases hMx with ⟨hg, rfl⟩ | ⟨hg, p, F, rfl, hC, hF⟩
  · simp only [VS, VD, SV, SL, T, Nat.reduceEqDiff, Nat.reduceAdd, Nat.reduceSub, Nat.reduceMul, Nat.reduceLeDiff, Nat.reduceLT, reduceIte, Option.isNone_none]
    exact hΨ _ _ ⟨rfl, hE⟩
  rcases hMy with ⟨hg', rfl⟩ | ⟨hg', p', G, rfl, hD, hG⟩
  · rw [hg] at hg'; cases hg'
  simp only [VS, VD, SV, SL, T, Nat.reduceEqDiff, Nat.reduceAdd, Nat.reduceSub, Nat.reduceMul, Nat.reduceLeDiff, Nat.reduceLT, reduceIte, Option.isNone_some]
  have hgs := Geo_spec hg
  have hdFG : ∀ b, F b → ¬ G b := fun b hb hb' => by have := hC.lt b hb; have := hG b hb'; omega
  replace hG : ∀ b, G b → w.heap.size ≤ b := fun b hb => Nat.le_trans (hE1.trans hE2).size (hG b hb)
  have hC4 := hC.ext (hE3.trans hE4)
  have hD4 := hD.ext hE4
  clear hC hD hF2
  refine (Clone_spec hC4).mono ?_
  rintro _ w5 ⟨hE5, pz, K, rfl, hZ5, hK⟩
  have hdFK : ∀ b, F b → ¬ K b := fun b hb hb' => by have := hC4.lt b hb; have := hK b hb'; omega
  have hdKG : ∀ b, K b → ¬ G b := fun b hb hb' => by have := hD4.lt b hb'; have := hK b hb; omega
  replace hK : ∀ b, K b → w.heap.size ≤ b := fun b hb => Nat.le_trans hE.size (hK b hb)
  have hC5 := hC4.ext hE5
  have hD5 := hD4.ext hE5
  simp only [VS, VD, SV, SL, T, Nat.reduceEqDiff, Nat.reduceAdd, Nat.reduceSub, Nat.reduceMul, Nat.reduceLeDiff, Nat.reduceLT, reduceIte]
  refine LoopP_intro (α := Nat) (fun i f' w' => f' 2 = .int .i64 st ∧ f' 3 = .agg #[.int .i64 s, .int .i64 y, .int .i64 l] ∧ f' 7 = ptr p ∧ f' 8 = ptr p' ∧ f' 9 = ptr pz ∧ f' 37 = .slice av xs.length cv ∧ f' 38 = .int .i64 xs.length ∧ f' 39 = .int .i64 i ∧ i ≤ xs.length ∧ Ext w w' ∧
    CacheAt w' F p s y l (stX s y l xs) ∧ CacheAt w' K pz s y l (stX s y l xs) ∧ ∃ G P, CacheAt w' G p' s y l (stS s y P) ∧ (∀ b, G b → w.heap.size ≤ b) ∧ (∀ b, F b → ¬ G b) ∧ (∀ b, K b → ¬ G b) ∧ ∀ j : Nat, (j : Int) = st → P j = hh s l j (xs.take i)) (fun i => xs.length - i) 0 ?_ ?_
  · simp only [VS, VD, SV, SL, T, Nat.reduceEqDiff, Nat.reduceAdd, Nat.reduceSub, Nat.reduceMul, Nat.reduceLeDiff, Nat.reduceLT, reduceIte]
    exact ⟨rfl, Nat.zero_le _, hE.trans hE5, hC5, hZ5, G, _, hD5, hG, hdFG, hdKG, fun j _ => rfl⟩
  · clear hC4 hD4 hC5 hD5 hZ5 hdFG hdKG hG
    rintro i f' wo ⟨f2, f3, f7, f8, f9, f37, f38, f39, hi, hEx, hC, hZ, G, P, hD, hG, hdFG, hdKG, hP⟩
    simp only [VS, VD, SV, SL, T, Nat.reduceEqDiff, Nat.reduceAdd, Nat.reduceSub, Nat.reduceMul, Nat.reduceLeDiff, Nat.reduceLT, reduceIte, f39, f38]
    refine cnd_d (fun hlt => ?_) (fun hlt => ?_)
    · have hi' : i < xs.length := by omega
      obtain ⟨b5, off5, cs5, e5, fz5, rfl, _, hb5, hc5⟩ := (hv.ext hEx).get (i := i) (x := xs[i]) (by simp [hi'])
      have htake : xs.take (i + 1) = xs.take i ++ [xs[i]] := List.take_succ_eq_append_getElem hi'
      have hxr := hM.2 _ (List.getElem_mem hi')
      generalize hx : xs[i] = x at *
      have hhx : ∀ j, hh s l j (xs.take (i + 1)) = (if 0 ≤ x ∧ ((x / l) % s).toNat = j then [x / l] else []) ++ hh s l j (xs.take i) := by
        intro j
        rw [htake, hh_append, hh_cons]
        first | done | rfl
      simp only [VS, VD, SV, SL, T, Nat.reduceEqDiff, Nat.reduceAdd, Nat.reduceSub, Nat.reduceMul, Nat.reduceLeDiff, Nat.reduceLT, reduceIte, f39, f37, hb5, Int.toNat_natCast, hc5, f3]
      refine ⟨by omega, ?_⟩
      refine DW_intro (fun _ _ v _ => v = .int .i64 (lineOf s y l x)) ?_
      simp only [VS, VD, SV, SL, T, Nat.reduceEqDiff, Nat.reduceAdd, Nat.reduceSub, Nat.reduceMul, Nat.reduceLeDiff, Nat.reduceLT, reduceIte, f3]
      refine rY_ph rfl rfl (fun _ _ _ h _ => h) (fun w8 hE8 _ => ?_) ?_
      · simp only [VS, VD, SV, SL, T, Nat.reduceEqDiff, Nat.reduceAdd, Nat.reduceSub, Nat.reduceMul, Nat.reduceLeDiff, Nat.reduceLT, reduceIte]
        refine (Line_spec s y l x hxr.2 _).mono ?_
        rintro _ w9 ⟨rfl, hE9⟩
        exact ⟨hE9, rfl⟩
      rintro _ ⟨_, _, _, rfl⟩
      simp only [VS, VD, SV, SL, T, Nat.reduceEqDiff, Nat.reduceAdd, Nat.reduceSub, Nat.reduceMul, Nat.reduceLeDiff, Nat.reduceLT, reduceIte]
      intro w6 hE6 _
      simp only [VS, VD, SV, SL, T, Nat.reduceEqDiff, Nat.reduceAdd, Nat.reduceSub, Nat.reduceMul, Nat.reduceLeDiff, Nat.reduceLT, reduceIte]
      refine (Set_spec s y l (lineOf s y l x) _).mono ?_
      rintro _ w7 ⟨rfl, hE7⟩
      have hE67 := hE6.trans hE7
      simp only [VS, VD, SV, SL, T, Nat.reduceEqDiff, Nat.reduceAdd, Nat.reduceSub, Nat.reduceMul, Nat.reduceLeDiff, Nat.reduceLT, reduceIte]
      by_cases hx0 : 0 ≤ x
      · have hline : lineOf s y l x = x / l := by simp [lineOf, hg, hx0]
        have hxl0 : 0 ≤ x / l := Int.ediv_nonneg hx0 (by omega)
        have hm0 := Int.emod_nonneg (x / l) (show s ≠ 0 by omega)
        rw [hline, setOf_eq hg hxl0, decide_eq_true hm0]
        simp only [VS, VD, SV, SL, T, Nat.reduceEqDiff, Nat.reduceAdd, Nat.reduceSub, Nat.reduceMul, Nat.reduceLeDiff, Nat.reduceLT, reduceIte, f2]
        refine cnd_d (fun hq => ?_) (fun hq => ?_)
        · simp only [VS, VD, SV, SL, T, Nat.reduceEqDiff, Nat.reduceAdd, Nat.reduceSub, Nat.reduceMul, Nat.reduceLeDiff, Nat.reduceLT, reduceIte, f8]
          refine (Access_mv hg (hD.ext hE67) x hxr.2).mono ?_
          rintro _ w8 ⟨rfl, G8, hD8, hm8⟩
          obtain ⟨hC8, hdFG8⟩ := hm8.other (hC.ext hE67) hdFG
          obtain ⟨hZ8, hdKG8⟩ := hm8.other (hZ.ext hE67) hdKG
          simp only [VS, VD, SV, SL, T, Nat.reduceEqDiff, Nat.reduceAdd, Nat.reduceSub, Nat.reduceMul, Nat.reduceLeDiff, Nat.reduceLT, reduceIte, f39]
          refine ⟨by omega, i + 1, ⟨f2, f3, f7, f8, f9, f37, f38, by simp, by omega, hm8.ext (hEx.trans hE67) hG, hC8, hZ8, G8, _, hD8, hm8.above (hEx.trans hE67).size hG, hdFG8, hdKG8, fun j hj => ?_⟩, by omega⟩
          have e1 : ((x / l) % s).toNat = j := by omega
          rw [hhx, ← hP j hj]
          simp [addH, hx0, e1]
        · simp only [VS, VD, SV, SL, T, Nat.reduceEqDiff, Nat.reduceAdd, Nat.reduceSub, Nat.reduceMul, Nat.reduceLeDiff, Nat.reduceLT, reduceIte, f39]
          refine ⟨by omega, i + 1, ⟨f2, f3, f7, f8, f9, f37, f38, by simp, by omega, hEx.trans hE67, hC.ext hE67, hZ.ext hE67, G, P, hD.ext hE67, hG, hdFG, hdKG, fun j hj => ?_⟩, by omega⟩
          rw [hhx, if_neg (fun h => hq (by omega)), List.nil_append]
          exact hP j hj
      · have hline : lineOf s y l x = -1 := by simp only [lineOf]; rw [if_neg (by omega)]
        have hset : setOf s y l (-1) = -1 := by simp only [setOf]; rw [if_neg (by omega)]
        rw [hline, hset, decide_eq_false (show ¬ (0 : Int) ≤ -1 by omega)]
        simp only [VS, VD, SV, SL, T, Nat.reduceEqDiff, Nat.reduceAdd, Nat.reduceSub, Nat.reduceMul, Nat.reduceLeDiff, Nat.reduceLT, reduceIte, f39]
        refine ⟨by omega, i + 1, ⟨f2, f3, f7, f8, f9, f37, f38, by simp, by omega, hEx.trans hE67, hC.ext hE67, hZ.ext hE67, G, P, hD.ext hE67, hG, hdFG, hdKG, fun j hj => ?_⟩, by omega⟩
        rw [hhx, if_neg (fun h => hx0 h.1), List.nil_append]
        exact hP j hj
    · rw [List.take_of_length_le (by omega)] at hP
      simp only [VS, VD, SV, SL, T, Nat.reduceEqDiff, Nat.reduceAdd, Nat.reduceSub, Nat.reduceMul, Nat.reduceLeDiff, Nat.reduceLT, reduceIte, f7]
      refine (Lines_own hC).mono ?_
      rintro vp w6 ⟨hE6, hLp⟩
      simp only [VS, VD, SV, SL, T, Nat.reduceEqDiff, Nat.reduceAdd, Nat.reduceSub, Nat.reduceMul, Nat.reduceLeDiff, Nat.reduceLT, reduceIte, f8]
      refine (Lines_own (hD.ext hE6)).mono ?_
      rintro vq w7 ⟨hE7, hLq⟩
      simp only [VS, VD, SV, SL, T, Nat.reduceEqDiff, Nat.reduceAdd, Nat.reduceSub, Nat.reduceMul, Nat.reduceLeDiff, Nat.reduceLT, reduceIte, f9]
      refine (Lines_own ((hZ.ext hE6).ext hE7)).mono ?_
      rintro vw w8 ⟨hE8, hLw⟩
      have hE68 := (hE6.trans hE7).trans hE8
      have hLp8 := hLp.ext (hE7.trans hE8)
      have hLq8 := hLq.ext hE8
      have hip := hLp8.ints (stS_len _ _ _)
      have hiq := hLq8.ints (stS_len _ _ _)
      obtain ⟨ap, cp, rfl⟩ := hip.form
      obtain ⟨aq, cq, rfl⟩ := hiq.form
      have hiw := hLw.ints (stS_len _ _ _)
      obtain ⟨aw, cw, rfl⟩ := hiw.form
      rw [stS_len] at *
      simp only [VS, VD, SV, SL, T, Nat.reduceEqDiff, Nat.reduceAdd, Nat.reduceSub, Nat.reduceMul, Nat.reduceLeDiff, Nat.reduceLT, reduceIte]
      refine DW_c (fun g w9 => g 84 = .bool false ∧ g 7 = ptr p ∧ g 9 = ptr pz ∧ g 13 = .slice ap s.toNat cp ∧ g 15 = .slice aw s.toNat cw ∧ Ext w8 w9) ?_ ?_
      · refine DW_intro (fun _ _ _ _ => True) ?_
        simp only [VS, VD, SV, SL, T, Nat.reduceEqDiff, Nat.reduceAdd, Nat.reduceSub, Nat.reduceMul, Nat.reduceLeDiff, Nat.reduceLT, reduceIte, f2]
        by_cases h0 : 0 ≤ st
        · rw [decide_eq_true h0]
          simp only [VS, VD, SV, SL, T, Nat.reduceEqDiff, Nat.reduceAdd, Nat.reduceSub, Nat.reduceMul, Nat.reduceLeDiff, Nat.reduceLT, reduceIte, f2, f3]
          by_cases h1 : st < s
          · rw [decide_eq_true h1]
            obtain ⟨j, rfl⟩ : ∃ j : Nat, st = j := ⟨st.toNat, by omega⟩
            have hj' : j < s.toNat := by omega
            obtain ⟨b1, o1, cs1, e1, fz1, u1, rfl, _, hb1, hc1, hu1⟩ := hip.get (stX_get (xs := xs) (l := l) (y := y) hj')
            obtain ⟨b2, o2, cs2, e2, fz2, u2, rfl, _, hb2, hc2, hu2⟩ := hiq.get (stS_get (H := P) (y := y) hj')
            simp only [VS, VD, SV, SL, T, Nat.reduceEqDiff, Nat.reduceAdd, Nat.reduceSub, Nat.reduceMul, Nat.reduceLeDiff, Nat.reduceLT, reduceIte, f2, hb1, hc1, hb2, hc2, Int.toNat_natCast]
            refine ⟨by omega, by omega, ?_⟩
            intro w9 hE9 _
            simp only [VS, VD, SV, SL, T, Nat.reduceEqDiff, Nat.reduceAdd, Nat.reduceSub, Nat.reduceMul, Nat.reduceLeDiff, Nat.reduceLT, reduceIte]
            rw [hP j rfl] at hu2
            have hle : ((dst (hh s l j xs)).take y.toNat).length ≤ y.toNat := List.length_take_le ..
            refine (Ints_spec u1 u2 _ _ (by omega) w9 (hu1.ext hE9) (hu2.ext hE9)).mono ?_
            rintro _ w10 ⟨rfl, hE10⟩
            rw [decide_eq_true rfl]
            simp only [VS, VD, SV, SL, T, Nat.reduceEqDiff, Nat.reduceAdd, Nat.reduceSub, Nat.reduceMul, Nat.reduceLeDiff, Nat.reduceLT, reduceIte, f7, f9, Bool.not_true]
            exact hE9.trans hE10
          · rw [decide_eq_false h1]
            simp only [VS, VD, SV, SL, T, Nat.reduceEqDiff, Nat.reduceAdd, Nat.reduceSub, Nat.reduceMul, Nat.reduceLeDiff, Nat.reduceLT, reduceIte]
            intro w9 hE9 _
            simp only [VS, VD, SV, SL, T, Nat.reduceEqDiff, Nat.reduceAdd, Nat.reduceSub, Nat.reduceMul, Nat.reduceLeDiff, Nat.reduceLT, reduceIte, f7, f9]
            exact hE9
        · rw [decide_eq_false h0]
          simp only [VS, VD, SV, SL, T, Nat.reduceEqDiff, Nat.reduceAdd, Nat.reduceSub, Nat.reduceMul, Nat.reduceLeDiff, Nat.reduceLT, reduceIte]
          intro w9 hE9 _
          simp only [VS, VD, SV, SL, T, Nat.reduceEqDiff, Nat.reduceAdd, Nat.reduceSub, Nat.reduceMul, Nat.reduceLeDiff, Nat.reduceLT, reduceIte, f7, f9]
          exact hE9
      · rintro g w9 ⟨g84, g7, g9, g13, g15, hE9⟩
        simp only [VS, VD, SV, SL, T, Nat.reduceEqDiff, Nat.reduceAdd, Nat.reduceSub, Nat.reduceMul, Nat.reduceLeDiff, Nat.reduceLT, reduceIte, g84, g7]
        refine (Flush_mv (hC.ext (hE68.trans hE9))).mono ?_
        rintro v10 w10 ⟨F10, hC10, hm10⟩
        obtain ⟨hZ10, hdFK10⟩ := hm10.other (hZ.ext (hE68.trans hE9)) (fun b hb hb' => hdFK b hb' hb)
        simp only [VS, VD, SV, SL, T, Nat.reduceEqDiff, Nat.reduceAdd, Nat.reduceSub, Nat.reduceMul, Nat.reduceLeDiff, Nat.reduceLT, reduceIte, g7]
        refine (Access_mv hg hC10 7 (by omega)).mono ?_
        rintro _ w11 ⟨rfl, F11, hC11, hm11⟩
        obtain ⟨hZ11, _⟩ := hm11.other hZ10 hdFK10
        have hm := hm10.trans hm11
        have hE11 := hm.ext (hEx.trans (hE68.trans hE9)) hF
        have hip11 := ((hLp8.ext hE9).chg hm.1 (fun b hb => hC.lt b hb)).ints (stS_len _ _ _)
        have hiw11 := ((hLw.ext hE9).chg hm.1 (fun b hb => by have := hC.lt b hb; have := (hE6.trans hE7).size; omega)).ints (stS_len _ _ _)
        simp only [VS, VD, SV, SL, T, Nat.reduceEqDiff, Nat.reduceAdd, Nat.reduceSub, Nat.reduceMul, Nat.reduceLeDiff, Nat.reduceLT, reduceIte, g15]
        refine LoopP_intro (α := Nat) (fun j g w' => g 9 = ptr pz ∧ g 13 = .slice ap s.toNat cp ∧ g 15 = .slice aw s.toNat cw ∧ g 90 = .int .i64 s.toNat ∧ g 91 = .int .i64 j ∧ j ≤ s.toNat ∧ Ext w11 w') (fun j => s.toNat - j) 0 ?_ ?_
        · simp only [VS, VD, SV, SL, T, Nat.reduceEqDiff, Nat.reduceAdd, Nat.reduceSub, Nat.reduceMul, Nat.reduceLeDiff, Nat.reduceLT, reduceIte, g9, g13, g15]
          exact ⟨rfl, Nat.zero_le _, Ext.refl _⟩
        · clear g7 g9 g13 g15 g84 f2 f3 f7 f8 f9 f37 f38 f39
          rintro j g w12 ⟨g9, g13, g15, g90, g91, hj, hE12⟩
          simp only [VS, VD, SV, SL, T, Nat.reduceEqDiff, Nat.reduceAdd, Nat.reduceSub, Nat.reduceMul, Nat.reduceLeDiff, Nat.reduceLT, reduceIte, g91, g90]
          refine cnd_d (fun hlt2 => ?_) (fun hlt2 => ?_)
          · have hj' : j < s.toNat := by omega
            obtain ⟨b1, o1, cs1, e1, fz1, u1, rfl, _, hb1, hc1, hu1⟩ := (hip11.ext hE12).get (stX_get (xs := xs) (l := l) (y := y) hj')
            obtain ⟨b2, o2, cs2, e2, fz2, u2, rfl, _, hb2, hc2, hu2⟩ := (hiw11.ext hE12).get (stX_get (xs := xs) (l := l) (y := y) hj')
            have hle : ((dst (hh s l j xs)).take y.toNat).length ≤ y.toNat := List.length_take_le ..
            simp only [VS, VD, SV, SL, T, Nat.reduceEqDiff, Nat.reduceAdd, Nat.reduceSub, Nat.reduceMul, Nat.reduceLeDiff, Nat.reduceLT, reduceIte, g91]
            refine DW_intro (fun n _ v w' => match n with | 8 => v = .bool true | 12 => IntssAt w' v (stX s y l xs) | _ => IntsAt w' v ((dst (hh s l j xs)).take y.toNat)) ?_
            simp only [VS, VD, SV, SL, T, Nat.reduceEqDiff, Nat.reduceAdd, Nat.reduceSub, Nat.reduceMul, Nat.reduceLeDiff, Nat.reduceLT, reduceIte, g15, g13, g91, hb1, hc1, hb2, hc2, Int.toNat_natCast]
            refine ⟨by omega, by omega, ?_⟩
            refine rY_ph rfl rfl (fun _ _ _ h _ => h) (fun w' hE' _ => ?_) ?_
            · simp only [VS, VD, SV, SL, T, Nat.reduceEqDiff, Nat.reduceAdd, Nat.reduceSub, Nat.reduceMul, Nat.reduceLeDiff, Nat.reduceLT, reduceIte]
              refine (Ints_spec u2 u1 _ _ (by omega) w' (hu2.ext hE') (hu1.ext hE')).mono ?_
              rintro _ w13 ⟨rfl, hE13⟩
              exact ⟨hE13, by rw [decide_eq_true rfl]⟩
            rintro v8 ⟨_, _, _, h8⟩
            obtain rfl : v8 = .bool true := h8
            simp only [VS, VD, SV, SL, T, Nat.reduceEqDiff, Nat.reduceAdd, Nat.reduceSub, Nat.reduceMul, Nat.reduceLeDiff, Nat.reduceLT, reduceIte, Bool.not_true, g9]
            refine rY_ph rfl rfl (fun _ _ _ h hE => IntssAt.ext h hE) (fun w' hE' _ => ?_) ?_
            · simp only [VS, VD, SV, SL, T, Nat.reduceEqDiff, Nat.reduceAdd, Nat.reduceSub, Nat.reduceMul, Nat.reduceLeDiff, Nat.reduceLT, reduceIte]
              refine (Lines_spec (hZ11.ext (hE12.trans hE'))).mono ?_
              rintro v12 w13 ⟨hL13, hE13⟩
              exact ⟨hE13, hL13⟩
            rintro v12 ⟨w', hE', _, h12⟩
            replace h12 : IntssAt w' v12 (stX s y l xs) := h12
            obtain ⟨a12, c12, rfl⟩ := h12.form
            rw [stS_len]
            rw [stS_len] at h12
            obtain ⟨b3, o3, cs3, e3, fz3, u3, rfl, _, _, _, _⟩ := h12.get (stX_get (xs := xs) (l := l) (y := y) hj')
            simp only [VS, VD, SV, SL, T, Nat.reduceEqDiff, Nat.reduceAdd, Nat.reduceSub, Nat.reduceMul, Nat.reduceLeDiff, Nat.reduceLT, reduceIte, g91, Int.toNat_natCast]
            refine ⟨by omega, rY_phl (fun _ _ _ h hE => IntsAt.ext h hE) (fun w'' hE'' hFD => ?_) ?_⟩
            · have h12' : IntssAt w'' (.slice (some ⟨b3, o3, none⟩) s.toNat c12) (stX s y l xs) := hFD 12 (by simp)
              obtain ⟨b4, o4, cs4, e4, fz4, u4, ee, _, hb4, hc4, hu4⟩ := h12'.get (stX_get (xs := xs) (l := l) (y := y) hj')
              simp only [Option.some.injEq, Addr.mk.injEq, and_true] at ee
              obtain ⟨rfl, rfl⟩ := ee
              simp only [VS, VD, SV, SL, T, Nat.reduceEqDiff, Nat.reduceAdd, Nat.reduceSub, Nat.reduceMul, Nat.reduceLeDiff, Nat.reduceLT, reduceIte, hb4, hc4]
              exact ⟨Ext.refl _, hu4⟩
            rintro v15 _
            simp only [VS, VD, SV, SL, T, Nat.reduceEqDiff, Nat.reduceAdd, Nat.reduceSub, Nat.reduceMul, Nat.reduceLeDiff, Nat.reduceLT, reduceIte, g13, g91, hb1, hc1, Int.toNat_natCast]
            refine ⟨by omega, ?_⟩
            intro w13 hE13 hF13
            have h15 : IntsAt w13 v15 ((dst (hh s l j xs)).take y.toNat) := FA_head hF13
            simp only [VS, VD, SV, SL, T, Nat.reduceEqDiff, Nat.reduceAdd, Nat.reduceSub, Nat.reduceMul, Nat.reduceLeDiff, Nat.reduceLT, reduceIte]
            refine (Ints_spec v15 u1 _ _ (by omega) w13 h15 (hu1.ext hE13)).mono ?_
            rintro _ w14 ⟨rfl, hE14⟩
            rw [decide_eq_true rfl]
            simp only [VS, VD, SV, SL, T, Nat.reduceEqDiff, Nat.reduceAdd, Nat.reduceSub, Nat.reduceMul, Nat.reduceLeDiff, Nat.reduceLT, reduceIte, Bool.not_true, g91]
            exact ⟨by omega, j + 1, ⟨g9, g13, g15, g90, by simp, by omega, (hE12.trans hE13).trans hE14⟩, by omega⟩
          · simp only [VS, VD, SV, SL, T, Nat.reduceEqDiff, Nat.reduceAdd, Nat.reduceSub, Nat.reduceMul, Nat.reduceLeDiff, Nat.reduceLT, reduceIte]
            refine (Flush_nil _).mono ?_
            rintro _ _ rfl
            simp only [VS, VD, SV, SL, T, Nat.reduceEqDiff, Nat.reduceAdd, Nat.reduceSub, Nat.reduceMul, Nat.reduceLeDiff, Nat.reduceLT, reduceIte]
            refine (Access_nil _ _).mono ?_
            rintro _ _ ⟨rfl, rfl⟩
            simp only [VS, VD, SV, SL, T, Nat.reduceEqDiff, Nat.reduceAdd, Nat.reduceSub, Nat.reduceMul, Nat.reduceLeDiff, Nat.reduceLT, reduceIte, Bool.not_false]
            refine (Probe_nil _ _).mono ?_
            rintro _ _ ⟨rfl, rfl⟩
            simp only [VS, VD, SV, SL, T, Nat.reduceEqDiff, Nat.reduceAdd, Nat.reduceSub, Nat.reduceMul, Nat.reduceLeDiff, Nat.reduceLT, reduceIte, Bool.not_false]
            refine (Age_nil _ _).mono ?_
            rintro _ _ ⟨rfl, rfl⟩
            simp only [VS, VD, SV, SL, T, Nat.reduceEqDiff, Nat.reduceAdd, Nat.reduceSub, Nat.reduceMul, Nat.reduceLeDiff, Nat.reduceLT, reduceIte, decide_true]
            refine (Lines_nil _).mono ?_
            rintro _ _ ⟨rfl, rfl⟩
            have e0 : decide (((0 : Nat) : Int) = 0) = true := rfl
            simp only [VS, VD, SV, SL, T, Nat.reduceEqDiff, Nat.reduceAdd, Nat.reduceSub, Nat.reduceMul, Nat.reduceLeDiff, Nat.reduceLT, reduceIte, e0]
            refine (Clone_nil _).mono ?_
            rintro _ _ ⟨rfl, rfl⟩
            simp only [VS, VD, SV, SL, T, Nat.reduceEqDiff, Nat.reduceAdd, Nat.reduceSub, Nat.reduceMul, Nat.reduceLeDiff, Nat.reduceLT, reduceIte, Option.isNone_none]
            exact hΨ _ _ ⟨rfl, hE11.trans hE12⟩
end Go.Proofs.Ytblogcihkjhgkaa

/-
  CacheReuse.
-/
import Derived.Test.YtblogcihkjhgkaaKP
set_option linter.unusedSimpArgs false
set_option linter.unusedVariables false
namespace Go.Proofs.Ytblogcihkjhgkaa
open Go.W Go.RowKit
set_option maxRecDepth 100000 in
theorem CacheReuse_spec (s y l : Int) (v : Value) (xs : List Int) (a : Int) (w : World) (hv : IntsAt w v xs) (hM : xs.length ≤ maxLen ∧ ∀ n ∈ xs, -9223372036854775808 ≤ n ∧ n ≤ 9223372036854775807) (ha : -9223372036854775808 ≤ a ∧ a ≤ 9223372036854775807) :
    VRet Try.prog 6 #[cfgV s y l, v, .int .i64 a] w fun v w' => v = .bool true ∧ Ext w w' := by
  have hlen : xs.length ≤ 9223372036854775807 := by have := hM.1; simp only [maxLen] at this; omega
  obtain ⟨av, cv, rfl⟩ := hv.form
  refine VRet_start T.mo ok6 rfl fun Ψ hΨ => ?_; simp only [vc6, rs6]
  simp only [VS, VD, SV, SL, T, Nat.reduceEqDiff, Nat.reduceAdd, Nat.reduceSub, Nat.reduceMul, Nat.reduceLeDiff, Nat.reduceLT, reduceIte, cfgV]
  refine (awake_spec _).mono ?_
  rintro _ w1 ⟨rfl, hE1⟩
  replace hE1 := ((Ext.refl w).alloc tomb).trans hE1
  simp only [VS, VD, SV, SL, T, Nat.reduceEqDiff, Nat.reduceAdd, Nat.reduceSub, Nat.reduceMul, Nat.reduceLeDiff, Nat.reduceLT, reduceIte]
  refine (made_spec s y l _ xs hlen (fun x hx => (hM.2 x hx).2) w1 (hv.ext hE1)).mono ?_
  rintro v2 w2 h2
  have hE2 : Ext w w2 := by rcases h2 with ⟨_, _, h⟩ | ⟨_, p, F, _, _, _, h⟩ <;> exact hE1.trans h
  simp only [VS, VD, SV, SL, T, Nat.reduceEqDiff, Nat.reduceAdd, Nat.reduceSub, Nat.reduceMul, Nat.reduceLeDiff, Nat.reduceLT, reduceIte]
  refine (great_spec _ xs hlen w2 (hv.ext hE2)).mono ?_
  rintro _ w3 ⟨rfl, hE3⟩
  have hE := hE2.trans hE3
  by_cases hgr : xs.length > 200 ∨ ∃ x ∈ xs, x > 100000
  · rw [decide_eq_true hgr]
    simp only [VS, VD, SV, SL, T, Nat.reduceEqDiff, Nat.reduceAdd, Nat.reduceSub, Nat.reduceMul, Nat.reduceLeDiff, Nat.reduceLT, reduceIte]
    exact hΨ _ _ ⟨rfl, hE⟩
  rw [decide_eq_false hgr]
  rcases h2 with ⟨hg, rfl, _⟩ | ⟨hg, p, F, rfl, hC, hF, _⟩
  · simp only [VS, VD, SV, SL, T, Nat.reduceEqDiff, Nat.reduceAdd, Nat.reduceSub, Nat.reduceMul, Nat.reduceLeDiff, Nat.reduceLT, reduceIte, Option.isNone_none]
    exact hΨ _ _ ⟨rfl, hE⟩
  simp only [VS, VD, SV, SL, T, Nat.reduceEqDiff, Nat.reduceAdd, Nat.reduceSub, Nat.reduceMul, Nat.reduceLeDiff, Nat.reduceLT, reduceIte, Option.isNone_some]
  by_cases ha0 : a < 0
  · rw [decide_eq_true ha0]
    simp only [VS, VD, SV, SL, T, Nat.reduceEqDiff, Nat.reduceAdd, Nat.reduceSub, Nat.reduceMul, Nat.reduceLeDiff, Nat.reduceLT, reduceIte]
    exact hΨ _ _ ⟨rfl, hE⟩
  rw [decide_eq_false ha0]
  simp only [VS, VD, SV, SL, T, Nat.reduceEqDiff, Nat.reduceAdd, Nat.reduceSub, Nat.reduceMul, Nat.reduceLeDiff, Nat.reduceLT, reduceIte]
  by_cases ha1 : 100000 < a
  · rw [decide_eq_true ha1]
    simp only [VS, VD, SV, SL, T, Nat.reduceEqDiff, Nat.reduceAdd, Nat.reduceSub, Nat.reduceMul, Nat.reduceLeDiff, Nat.reduceLT, reduceIte]
    exact hΨ _ _ ⟨rfl, hE⟩
  rw [decide_eq_false ha1]
  simp only [VS, VD, SV, SL, T, Nat.reduceEqDiff, Nat.reduceAdd, Nat.reduceSub, Nat.reduceMul, Nat.reduceLeDiff, Nat.reduceLT, reduceIte]
  refine (Line_spec s y l a ha.2 w3).mono ?_
  rintro _ w4 ⟨rfl, hE4⟩
  have hgs := Geo_spec hg
  have hline : lineOf s y l a = a / l := by simp [lineOf, hg, show 0 ≤ a by omega]
  rw [hline]
  simp only [VS, VD, SV, SL, T, Nat.reduceEqDiff, Nat.reduceAdd, Nat.reduceSub, Nat.reduceMul, Nat.reduceLeDiff, Nat.reduceLT, reduceIte]
  refine ⟨by omega, ?_⟩
  have hr0 : w.heap.size ≤ w4.heap.size := (hE.trans hE4).size
  have hC4 := hC.ext (hE3.trans hE4)
  rw [emp_stS s y, runS_stS hg] at hC4
  refine LoopP_intro (α := Nat) (fun j f' w' => f' 1 = .slice av xs.length cv ∧ f' 2 = .int .i64 a ∧ f' 3 = .agg #[.int .i64 s, .int .i64 y, .int .i64 l] ∧ f' 7 = ptr p ∧ f' 8 = .int .i64 (a / l) ∧ f' 9 = .map (some w4.heap.size) ∧ f' 10 = .int .i64 ((xs.length : Int) - 1 - j) ∧ j ≤ xs.length ∧ Ext w w' ∧
    CacheAt w' F p s y l (stS s y (xs.foldl (addH s l) fun _ => [])) ∧ (∃ ml c, w'.heap[w4.heap.size]? = some (.map (mk ml) c) ∧ MWF ml c ∧ (∀ k, mget ml k ≠ none ↔ k ∈ hh s l ((a / l) % s).toNat (xs.drop (xs.length - j)))) ∧
    a / l ∉ hh s l ((a / l) % s).toNat (xs.drop (xs.length - j))) (fun j => xs.length + 1 - j) 0 ?_ ?_
  · simp only [VS, VD, SV, SL, T, Nat.reduceEqDiff, Nat.reduceAdd, Nat.reduceSub, Nat.reduceMul, Nat.reduceLeDiff, Nat.reduceLT, reduceIte]
    refine ⟨?_, Nat.zero_le _, (hE.trans hE4).alloc _, hC4.ext ((Ext.refl w4).alloc _), ⟨[], 0, rfl, MWF_nil, ?_⟩, ?_⟩
    · simp
    · intro k; simp [mget_nil, hh]
    · simp [hh]
  · rintro j f' w' ⟨f1, f2, f3, f7, f8, f9, f10, hj, hEx, hCx, ⟨ml, mc, hm, hwf, hmem⟩, hnm⟩
    simp only [VS, VD, SV, SL, T, Nat.reduceEqDiff, Nat.reduceAdd, Nat.reduceSub, Nat.reduceMul, Nat.reduceLeDiff, Nat.reduceLT, reduceIte, f10]
    refine cnd_d (fun hlt => ?_) (fun hlt => ?_)
    · have hjl : j < xs.length := by omega
      obtain ⟨ix, hix⟩ : ∃ ix : Nat, xs.length = ix + 1 + j := ⟨xs.length - 1 - j, by omega⟩
      have e10 : (xs.length : Int) - 1 - j = ix := by omega
      rw [e10] at f10
      have hixl : ix < xs.length := by omega
      obtain ⟨b, off, cs, e, fz, rfl, _, hb, hc⟩ := (hv.ext hEx).get (i := ix) (x := xs[ix]) (by simp [hixl])
      simp only [VS, VD, SV, SL, T, Nat.reduceEqDiff, Nat.reduceAdd, Nat.reduceSub, Nat.reduceMul, Nat.reduceLeDiff, Nat.reduceLT, reduceIte, f3, f1, f10]
      refine DW_intro (fun _ _ v _ => v = .int .i64 (lineOf s y l xs[ix])) ?_
      simp only [VS, VD, SV, SL, T, Nat.reduceEqDiff, Nat.reduceAdd, Nat.reduceSub, Nat.reduceMul, Nat.reduceLeDiff, Nat.reduceLT, reduceIte, f3, f1, f10, hb, hc, Int.toNat_natCast]
      refine ⟨by omega, ?_⟩
      intro w5 hE5 _
      simp only [VS, VD, SV, SL, T, Nat.reduceEqDiff, Nat.reduceAdd, Nat.reduceSub, Nat.reduceMul, Nat.reduceLeDiff, Nat.reduceLT, reduceIte]
      refine (Line_spec s y l xs[ix] (hM.2 _ (List.getElem_mem hixl)).2 w5).mono ?_
      rintro _ w6 ⟨rfl, hE6⟩
      have hE56 := hE5.trans hE6
      have hm6 := hE56.obj hm
      have hC6 := hCx.ext hE56
      have hdrop : xs.drop (xs.length - (j + 1)) = xs[ix] :: xs.drop (xs.length - j) := by
        rw [show xs.length - (j + 1) = ix by omega, show xs.length - j = ix + 1 by omega]
        exact List.drop_eq_getElem_cons hixl
      simp only [VS, VD, SV, SL, T, Nat.reduceEqDiff, Nat.reduceAdd, Nat.reduceSub, Nat.reduceMul, Nat.reduceLeDiff, Nat.reduceLT, reduceIte, f8]
      refine cnd_d (fun hq => ?_) (fun hq => ?_)
      · simp only [VS, VD, SV, SL, T, Nat.reduceEqDiff, Nat.reduceAdd, Nat.reduceSub, Nat.reduceMul, Nat.reduceLeDiff, Nat.reduceLT, reduceIte]
        refine DW_intro (fun _ _ v _ => v = .bool (hitS s l (stS s y (xs.foldl (addH s l) fun _ => [])) a)) ?_
        simp only [VS, VD, SV, SL, T, Nat.reduceEqDiff, Nat.reduceAdd, Nat.reduceSub, Nat.reduceMul, Nat.reduceLeDiff, Nat.reduceLT, reduceIte, f7, f2, f9, f3, hm6]
        refine rY_ph rfl rfl (fun _ _ _ h _ => h) (fun w8 hE8 _ => ?_) ?_
        · simp only [VS, VD, SV, SL, T, Nat.reduceEqDiff, Nat.reduceAdd, Nat.reduceSub, Nat.reduceMul, Nat.reduceLeDiff, Nat.reduceLT, reduceIte]
          refine (Probe_spec (hC6.ext hE8) a ha.2).mono ?_
          rintro _ w9 ⟨rfl, hE9⟩
          exact ⟨hE9, rfl⟩
        rintro _ ⟨_, _, _, rfl⟩
        have hsl : sLen Try.prog 43 (.map (some w4.heap.size)) w6 = some (.int .i64 ml.length, w6) := sLenM (by kernel_rfl) (.inr ⟨_, rfl, hm6, hwf⟩)
        simp only [VS, VD, SV, SL, T, Nat.reduceEqDiff, Nat.reduceAdd, Nat.reduceSub, Nat.reduceMul, Nat.reduceLeDiff, Nat.reduceLT, reduceIte, f9, f3, hsl]
        intro w8 hE8 _
        simp only [VS, VD, SV, SL, T, Nat.reduceEqDiff, Nat.reduceAdd, Nat.reduceSub, Nat.reduceMul, Nat.reduceLeDiff, Nat.reduceLT, reduceIte]
        refine hΨ _ _ ⟨?_, (hEx.trans hE56).trans hE8⟩
        have hal : 0 ≤ a / l := Int.ediv_nonneg (by omega) (by omega)
        have hx0 : 0 ≤ xs[ix] := by
          apply Int.not_lt.1
          intro hneg
          have : lineOf s y l xs[ix] = -1 := by simp only [lineOf]; rw [if_neg (by omega)]
          omega
        have hxl : xs[ix] / l = a / l := by rw [← hq]; simp [lineOf, hg, hx0]
        generalize hPd : hh s l ((a / l) % s).toNat (xs.drop (xs.length - j)) = P at *
        have hH : hh s l ((a / l) % s).toNat xs = P ++ (a / l) :: hh s l ((a / l) % s).toNat (xs.take ix) := by
          have e1 : xs = xs.take ix ++ xs[ix] :: xs.drop (xs.length - j) := by
            rw [← hdrop, show xs.length - (j + 1) = ix by omega, List.take_append_drop]
          rw [show hh s l ((a / l) % s).toNat xs = hh s l ((a / l) % s).toNat (xs.take ix ++ xs[ix] :: xs.drop (xs.length - j)) from congrArg _ e1, hh_append, hh_cons, hPd, hxl, if_pos ⟨hx0, rfl⟩, List.append_assoc]
          rfl
        have hmlen : ml.length = (dst P).length := by
          have hp : (ml.map (·.1)).Perm (dst P) := (List.perm_ext_iff_of_nodup hwf.keys (dst_nodup _)).2 (fun k => by
            rw [mem_dst, ← hmem k, ne_eq, mget_none]
            simp only [List.mem_map, ne_eq, Classical.not_forall, Classical.not_not, exists_prop])
          simpa using hp.length_eq
        have hb1 : hitS s l (stS s y (xs.foldl (addH s l) fun _ => [])) a = decide ((ml.length : Int) < y) := by
          rw [hitS_stS hg, decide_eq_decide]
          have := mem_take_dst (R := hh s l ((a / l) % s).toNat (xs.take ix)) hnm y.toNat
          rw [← hH] at this
          constructor
          · rintro ⟨_, hm⟩
            have := this.1 hm
            omega
          · intro h
            exact ⟨by omega, this.2 (by omega)⟩
        rw [hb1]
        simp
      · simp only [VS, VD, SV, SL, T, Nat.reduceEqDiff, Nat.reduceAdd, Nat.reduceSub, Nat.reduceMul, Nat.reduceLeDiff, Nat.reduceLT, reduceIte]
        refine DW_intro (fun k _ v _ => v = .int .i64 (if k = 5 then setOf s y l (lineOf s y l xs[ix]) else setOf s y l (a / l))) ?_
        simp only [VS, VD, SV, SL, T, Nat.reduceEqDiff, Nat.reduceAdd, Nat.reduceSub, Nat.reduceMul, Nat.reduceLeDiff, Nat.reduceLT, reduceIte, f3, f8]
        have e11 : (ix : Int) - 1 = (xs.length : Int) - 1 - ((j + 1 : Nat) : Int) := by omega
        by_cases hx0 : 0 ≤ lineOf s y l xs[ix]
        · rw [decide_eq_true hx0]
          simp only [VS, VD, SV, SL, T, Nat.reduceEqDiff, Nat.reduceAdd, Nat.reduceSub, Nat.reduceMul, Nat.reduceLeDiff, Nat.reduceLT, reduceIte, f3, f8]
          refine rY_ph rfl rfl (fun _ _ _ h _ => h) (fun w8 hE8 _ => ?_) ?_
          · simp only [VS, VD, SV, SL, T, Nat.reduceEqDiff, Nat.reduceAdd, Nat.reduceSub, Nat.reduceMul, Nat.reduceLeDiff, Nat.reduceLT, reduceIte]
            refine (Set_spec s y l (lineOf s y l xs[ix]) _).mono ?_
            rintro _ w9 ⟨rfl, hE9⟩
            exact ⟨hE9, by simp⟩
          rintro _ ⟨_, _, _, rfl⟩
          simp only [VS, VD, SV, SL, T, Nat.reduceEqDiff, Nat.reduceAdd, Nat.reduceSub, Nat.reduceMul, Nat.reduceLeDiff, Nat.reduceLT, reduceIte, f3, f8]
          intro w8 hE8 _
          simp only [VS, VD, SV, SL, T, Nat.reduceEqDiff, Nat.reduceAdd, Nat.reduceSub, Nat.reduceMul, Nat.reduceLeDiff, Nat.reduceLT, reduceIte]
          refine (Set_spec s y l (a / l) _).mono ?_
          rintro _ w9 ⟨rfl, hE9⟩
          simp only [VS, VD, SV, SL, T, Nat.reduceEqDiff, Nat.reduceAdd, Nat.reduceSub, Nat.reduceMul, Nat.reduceLeDiff, Nat.reduceLT, reduceIte]
          have hE69 := hE8.trans hE9
          have hm9 := hE69.obj hm6
          have hC9 := hC6.ext hE69
          have hE9w := (hEx.trans hE56).trans hE69
          have hx0' : 0 ≤ xs[ix] := by
            apply Int.not_lt.1
            intro hneg
            have : lineOf s y l xs[ix] = -1 := by simp only [lineOf]; rw [if_neg (by omega)]
            omega
          have hxe : lineOf s y l xs[ix] = xs[ix] / l := by simp [lineOf, hg, hx0']
          have hxl0 : 0 ≤ xs[ix] / l := by omega
          have hal : 0 ≤ a / l := Int.ediv_nonneg (by omega) (by omega)
          refine cnd_d (fun hs => ?_) (fun hs => ?_)
          · simp only [VS, VD, SV, SL, T, Nat.reduceEqDiff, Nat.reduceAdd, Nat.reduceSub, Nat.reduceMul, Nat.reduceLeDiff, Nat.reduceLT, reduceIte, f9]
            refine rV_update T.me43 hm9 hwf.keys ?_
            simp only [VS, VD, SV, SL, T, Nat.reduceEqDiff, Nat.reduceAdd, Nat.reduceSub, Nat.reduceMul, Nat.reduceLeDiff, Nat.reduceLT, reduceIte, f10]
            have hset : (xs[ix] / l % s).toNat = (a / l % s).toNat := by
              rw [hxe, setOf_eq hg hxl0, setOf_eq hg hal] at hs
              rw [hs]
            have hsuf : hh s l ((a / l) % s).toNat (xs.drop (xs.length - (j + 1))) = hh s l ((a / l) % s).toNat (xs.drop (xs.length - j)) ++ [xs[ix] / l] := by
              rw [hdrop, hh_cons, if_pos ⟨hx0', hset⟩]
            refine ⟨by omega, j + 1, ⟨f1, f2, f3, f7, f8, f9, by rw [e11], by omega, hE9w.putb hr0 _, hC9.chg (G := (· = w4.heap.size)) ⟨rfl, rfl, rfl, by rw [putb_size]; exact Nat.le_refl _, fun b _ hb => putb_get_ne hb _⟩ (fun b hb e => by have := hC4.lt b hb; omega), ⟨_, _, by rw [if_pos (get_lt hm9)], hwf.set _ _, fun k => ?_⟩, ?_⟩, by omega⟩
            · rw [hsuf, mget_mset, List.mem_append, ← hmem, hxe]
              by_cases hk : k = xs[ix] / l <;> simp [hk]
            · rw [hsuf, List.mem_append]
              rintro (h | h)
              · exact hnm h
              · simp only [List.mem_singleton] at h
                omega
          · simp only [VS, VD, SV, SL, T, Nat.reduceEqDiff, Nat.reduceAdd, Nat.reduceSub, Nat.reduceMul, Nat.reduceLeDiff, Nat.reduceLT, reduceIte, f10]
            have hset : ¬ ((xs[ix] / l % s).toNat = (a / l % s).toNat) := by
              intro h
              apply hs
              rw [hxe, setOf_eq hg hxl0, setOf_eq hg hal]
              have := Int.emod_nonneg (xs[ix] / l) (show s ≠ 0 by omega)
              have := Int.emod_nonneg (a / l) (show s ≠ 0 by omega)
              omega
            have hsuf : hh s l ((a / l) % s).toNat (xs.drop (xs.length - (j + 1))) = hh s l ((a / l) % s).toNat (xs.drop (xs.length - j)) := by
              rw [hdrop, hh_cons, if_neg (fun h => hset h.2), List.append_nil]
            exact ⟨by omega, j + 1, ⟨f1, f2, f3, f7, f8, f9, by rw [e11], by omega, hE9w, hC9, ⟨ml, mc, hm9, hwf, by rw [hsuf]; exact hmem⟩, by rw [hsuf]; exact hnm⟩, by omega⟩
        · rw [decide_eq_false hx0]
          simp only [VS, VD, SV, SL, T, Nat.reduceEqDiff, Nat.reduceAdd, Nat.reduceSub, Nat.reduceMul, Nat.reduceLeDiff, Nat.reduceLT, reduceIte]
          intro w8 hE8 _
          simp only [VS, VD, SV, SL, T, Nat.reduceEqDiff, Nat.reduceAdd, Nat.reduceSub, Nat.reduceMul, Nat.reduceLeDiff, Nat.reduceLT, reduceIte, f10]
          have hneg : ¬ (0 ≤ xs[ix]) := by
            intro hp
            apply hx0
            simp only [lineOf]
            rw [if_pos ⟨hg, hp⟩]
            exact Int.ediv_nonneg hp (by omega)
          have hsuf : hh s l ((a / l) % s).toNat (xs.drop (xs.length - (j + 1))) = hh s l ((a / l) % s).toNat (xs.drop (xs.length - j)) := by
            rw [hdrop, hh_cons, if_neg (fun h => hneg h.1), List.append_nil]
          refine ⟨by omega, j + 1, ⟨f1, f2, f3, f7, f8, f9, by rw [e11], by omega, (hEx.trans hE56).trans hE8, hC6.ext hE8, ⟨ml, mc, hE8.obj hm6, hwf, by rw [hsuf]; exact hmem⟩, by rw [hsuf]; exact hnm⟩, by omega⟩
    · simp only [VS, VD, SV, SL, T, Nat.reduceEqDiff, Nat.reduceAdd, Nat.reduceSub, Nat.reduceMul, Nat.reduceLeDiff, Nat.reduceLT, reduceIte, f7, f2]
      refine (Probe_spec hCx a ha.2).mono ?_
      rintro _ w5 ⟨rfl, hE5⟩
      simp only [VS, VD, SV, SL, T, Nat.reduceEqDiff, Nat.reduceAdd, Nat.reduceSub, Nat.reduceMul, Nat.reduceLeDiff, Nat.reduceLT, reduceIte]
      refine hΨ _ _ ⟨?_, hEx.trans hE5⟩
      rw [show xs.length - j = 0 by omega, List.drop_zero] at hnm
      rw [hitS_stS hg, decide_eq_false]
      · rfl
      · rintro ⟨_, hm⟩
        exact not_mem_take_dst hnm _ hm
end Go.Proofs.Ytblogcihkjhgkaa

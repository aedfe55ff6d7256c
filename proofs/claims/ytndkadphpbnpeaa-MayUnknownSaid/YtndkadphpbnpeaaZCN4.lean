/-
  MaySteps.
-/
import Derived.Test.YtndkadphpbnpeaaZCN3
set_option linter.unusedSimpArgs false
set_option linter.unusedVariables false
namespace Go.Proofs.Ytndkadphpbnpeaa
open Go.W Go.RowKit
set_option maxRecDepth 10000 in
theorem New_bad (s y l : Int) (hv : Geo s y l = false) (w : World) : VRet Try.prog 21 #[cfgV s y l] w fun v w' => v = .tuple #[stV 0 0 0 false (.slice none 0 0), .int .i64 1] ∧ Ext w w' := by
  refine VRet_start T.mo ok21 rfl fun Ψ hΨ => ?_; simp only [vc21, rs21]
  simp only [VS, VD, SV, SL, T, Nat.reduceEqDiff, Nat.reduceAdd, Nat.reduceSub, Nat.reduceMul, Nat.reduceLeDiff, Nat.reduceLT, reduceIte, cfgV]
  refine (Valid_spec s y l _).mono ?_
  rintro _ w1 ⟨rfl, hE1⟩
  rw [hv]
  simp only [VS, VD, SV, SL, T, Nat.reduceEqDiff, Nat.reduceAdd, Nat.reduceSub, Nat.reduceMul, Nat.reduceLeDiff, Nat.reduceLT, reduceIte, Bool.not_false]
  exact hΨ _ _ ⟨rfl, (((Ext.refl w).alloc tomb).alloc tomb).trans hE1⟩
set_option maxRecDepth 10000 in
theorem Unknown_bad (s y l : Int) (hv : Geo s y l = false) (w : World) : VRet Try.prog 14 #[cfgV s y l] w fun v w' => v = .tuple #[stV 0 0 0 false (.slice none 0 0), .int .i64 1] ∧ Ext w w' := by
  refine VRet_start T.mo ok14 rfl fun Ψ hΨ => ?_; simp only [vc14, rs14]
  simp only [VS, VD, SV, SL, T, Nat.reduceEqDiff, Nat.reduceAdd, Nat.reduceSub, Nat.reduceMul, Nat.reduceLeDiff, Nat.reduceLT, reduceIte, cfgV]
  refine (Valid_spec s y l _).mono ?_
  rintro _ w1 ⟨rfl, hE1⟩
  rw [hv]
  simp only [VS, VD, SV, SL, T, Nat.reduceEqDiff, Nat.reduceAdd, Nat.reduceSub, Nat.reduceMul, Nat.reduceLeDiff, Nat.reduceLT, reduceIte, Bool.not_false]
  exact hΨ _ _ ⟨rfl, (((Ext.refl w).alloc tomb).alloc tomb).trans hE1⟩
theorem sSlice_upto {P : Program} {w : World} {t : TypeId} {sz : Nat} (he : esz P t = some sz) {b o n c i : Nat} (h : i ≤ c) : sSlice P t (.slice (some ⟨b, o, none⟩) n c) none (some (.int .i64 i)) w = some (.slice (some ⟨b, o, none⟩) i c, w) := by
  have : (0 : Int) ≤ i ∧ (i : Int) ≤ c := by omega
  simp [sSlice, he, bnd, h, add_mk]
theorem SlAt.upto {w : World} {sz : Nat} {rows : List (List Value)} {a : Option Addr} {n c i : Nat} (h : SlAt w (.slice a n c) sz rows) (hi : i ≤ rows.length) : SlAt w (.slice a i c) sz (rows.take i) := by
  rcases h with ⟨h, h'⟩ | ⟨b, off, cap, h1, h2⟩
  · subst h'
    simp only [List.length_nil, Nat.le_zero] at hi
    subst hi
    exact .inl ⟨⟨_, _, rfl⟩, by simp⟩
  · simp only [Value.slice.injEq] at h1
    obtain ⟨rfl, rfl, rfl⟩ := h1
    refine .inr ⟨b, off, c, by rw [List.length_take, Nat.min_eq_left hi], fun j r hr => h2 j r ?_⟩
    have hj := (List.getElem?_eq_some_iff.1 hr).1
    rw [List.length_take] at hj
    rw [List.getElem?_take_of_lt (by omega)] at hr
    exact hr
set_option maxHeartbeats 1000000 in
set_option maxRecDepth 100000 in
theorem MaySteps_spec (s y l : Int) (lv : Value) (L : List Stp) (w : World) (h : StpsAt w lv L) (hcap : ∃ a n c, lv = .slice a n c ∧ n ≤ c ∧ (a = none → c = 0)) :
    VRet Try.prog 7 #[cfgV s y l, lv] w fun v w' => v = .bool true ∧ Ext w w' := by
  obtain ⟨la, lc, rfl⟩ := h.form
  have hcap' : L.length ≤ lc := by
    obtain ⟨a, n, c, e, hle, _⟩ := hcap
    simp only [Value.slice.injEq] at e
    omega
  refine VRet_start T.mo ok7 rfl fun Ψ hΨ => ?_; simp only [vc7, rs7]
  simp only [VS, VD, SV, SL, T, Nat.reduceEqDiff, Nat.reduceAdd, Nat.reduceSub, Nat.reduceMul, Nat.reduceLeDiff, Nat.reduceLT, reduceIte, cfgV]
  refine (awake_spec _).mono ?_
  rintro _ w1 ⟨rfl, hE⟩
  replace hE := ((Ext.refl w).alloc tomb).trans hE
  simp only [VS, VD, SV, SL, T, Nat.reduceEqDiff, Nat.reduceAdd, Nat.reduceSub, Nat.reduceMul, Nat.reduceLeDiff, Nat.reduceLT, reduceIte]
  refine (Valid_spec s y l _).mono ?_
  rintro _ w2 ⟨rfl, hE2⟩
  replace hE := hE.trans hE2
  cases hv : Geo s y l with
  | false =>
    simp only [VS, VD, SV, SL, T, Nat.reduceEqDiff, Nat.reduceAdd, Nat.reduceSub, Nat.reduceMul, Nat.reduceLeDiff, Nat.reduceLT, reduceIte, Bool.not_false]
    refine (New_bad s y l hv _).mono ?_
    rintro _ w3 ⟨rfl, hE3⟩
    simp only [VS, VD, SV, SL, T, Nat.reduceEqDiff, Nat.reduceAdd, Nat.reduceSub, Nat.reduceMul, Nat.reduceLeDiff, Nat.reduceLT, reduceIte, stV]
    refine (Unknown_bad s y l hv _).mono ?_
    rintro _ w4 ⟨rfl, hE4⟩
    simp only [VS, VD, SV, SL, T, Nat.reduceEqDiff, Nat.reduceAdd, Nat.reduceSub, Nat.reduceMul, Nat.reduceLeDiff, Nat.reduceLT, reduceIte, stV, decide_true]
    exact hΨ _ _ ⟨rfl, ((((hE.trans hE3).alloc tomb).trans hE4).alloc tomb)⟩
  | true =>
    have hp := Geo_spec hv
    simp only [VS, VD, SV, SL, T, Nat.reduceEqDiff, Nat.reduceAdd, Nat.reduceSub, Nat.reduceMul, Nat.reduceLeDiff, Nat.reduceLT, reduceIte, Bool.not_true]
    refine (small_spec s y l _ L _ (h.ext hE)).mono ?_
    rintro _ w3 ⟨⟨r, rfl, hr⟩, hE3⟩
    replace hE := hE.trans hE3
    cases r with
    | false =>
      simp only [VS, VD, SV, SL, T, Nat.reduceEqDiff, Nat.reduceAdd, Nat.reduceSub, Nat.reduceMul, Nat.reduceLeDiff, Nat.reduceLT, reduceIte, Bool.not_false]
      exact hΨ _ _ ⟨rfl, hE⟩
    | true =>
      have hsm := hr.1 rfl
      simp only [VS, VD, SV, SL, T, Nat.reduceEqDiff, Nat.reduceAdd, Nat.reduceSub, Nat.reduceMul, Nat.reduceLeDiff, Nat.reduceLT, reduceIte, Bool.not_true]
      refine (New_spec s y l hv _).mono ?_
      rintro _ w4 ⟨⟨st, rfl, hm⟩, hE4⟩
      replace hE := hE.trans hE4
      obtain ⟨u0, a0, n0, c0, rfl⟩ := hm.form
      simp only [VS, VD, SV, SL, T, Nat.reduceEqDiff, Nat.reduceAdd, Nat.reduceSub, Nat.reduceMul, Nat.reduceLeDiff, Nat.reduceLT, reduceIte, stV, ne_eq, not_true_eq_false, decide_false]
      replace hE := hE.alloc tomb
      replace hm := hm.ext ((Ext.refl _).alloc tomb)
      generalize w4.alloc tomb = w5 at *
      have hsub : ∀ n, smP s y l (L.take n) := fun n => ⟨hv, hsm.2.1, by have := hsm.2.2.1; simp only [List.length_take]; omega, fun x hx => hsm.2.2.2 x (List.mem_of_mem_take hx)⟩
      obtain ⟨q1, q2, q3, q4⟩ := run_all (hsub 0)
      have hr0 : RefAt w5 (stV s y l false (.slice none 0 0)) s y l false [] := ⟨_, rfl, .inl ⟨⟨_, _, rfl⟩, rfl⟩⟩
      refine (same_spec s y l hv (some fun _ => none) q2 q3 false [] q1 (by simp) _ _ w5 hm hr0).mono ?_
      rintro _ w6 ⟨rfl, hE6⟩
      simp only [VS, VD, SV, SL, T, Nat.reduceEqDiff, Nat.reduceAdd, Nat.reduceSub, Nat.reduceMul, Nat.reduceLeDiff, Nat.reduceLT, reduceIte, Bool.not_true]
      refine LoopP_intro (α := Nat) (fun i f' w' => f' 1 = .slice la L.length lc ∧ f' 2 = .agg #[.int .i64 s, .int .i64 y, .int .i64 l] ∧ f' 54 = .int .i64 L.length ∧ f' 55 = .int .i64 i ∧ i ≤ L.length ∧ Ext w w' ∧ MayAt w' (f' 9) s y l (runS s y (L.take i))) (fun i => L.length - i) 0 ?_ ?_
      · simp only [VS, VD, SV, SL, T, Nat.reduceEqDiff, Nat.reduceAdd, Nat.reduceSub, Nat.reduceMul, Nat.reduceLeDiff, Nat.reduceLT, reduceIte, stV]
        exact ⟨rfl, Nat.zero_le _, hE.trans hE6, hm.ext hE6⟩
      · clear hm hE6 hE q1 q2 q3 q4 hr0
        rintro i f' wo ⟨f1, f2, f54, f55, hi, hEx, hx⟩
        simp only [VS, VD, SV, SL, T, Nat.reduceEqDiff, Nat.reduceAdd, Nat.reduceSub, Nat.reduceMul, Nat.reduceLeDiff, Nat.reduceLT, reduceIte, f55, f54]
        refine cnd_d (fun hlt => ?_) (fun hlt => ?_)
        · have hi' : i < L.length := by omega
          have hl40 := hsm.2.2.1
          obtain ⟨b, off, cs, e, fz, rfl, hb, hle2, hext⟩ := (h.ext hEx).get hi'
          obtain ⟨u9, a9, n9, c9, f9⟩ := hx.form
          rw [f9] at hx
          have hS := runS_snoc s y (L.take i) L[i]
          rw [← List.take_succ_eq_append_getElem hi'] at hS
          have hnr := hsm.2.2.2 _ (List.getElem_mem hi')
          unfold near at hnr
          have hbi := (run_all (hsub i)).2.1
          have hall := run_all (hsub (i + 1))
          have hsl : StpsAt w (.slice (some ⟨b, off, none⟩) (i + 1) lc) (L.take (i + 1)) := by
            have := SlAt.upto (i := i + 1) h (by simp; omega)
            rw [← List.map_take] at this
            exact this
          generalize hq : L[i] = q at *
          have ess : ∀ w, sSlice Try.prog 24 (.slice (some ⟨b, off, none⟩) L.length lc) none (some (.int .i64 ((i : Int) + 1))) w = some (.slice (some ⟨b, off, none⟩) (i + 1) lc, w) := by
            intro w
            have := sSlice_upto (P := Try.prog) (w := w) (t := 24) (sz := 3) (by kernel_rfl) (b := b) (o := off) (n := L.length) (c := lc) (i := i + 1) (by omega)
            simpa using this
          simp only [VS, VD, SV, SL, T, Nat.reduceEqDiff, Nat.reduceAdd, Nat.reduceSub, Nat.reduceMul, Nat.reduceLeDiff, Nat.reduceLT, reduceIte, f55]
          refine DW_intro (fun _ _ v w' => ∃ a b, v = .tuple #[a, b] ∧ MayAt w' a s y l (runS s y (L.take (i + 1))) ∧ RefAt w' b s y l (runR s y (L.take (i + 1))).1 (runR s y (L.take (i + 1))).2) ?_
          simp only [VS, VD, SV, SL, T, Nat.reduceEqDiff, Nat.reduceAdd, Nat.reduceSub, Nat.reduceMul, Nat.reduceLeDiff, Nat.reduceLT, reduceIte, f1, f2, f55, ess]
          refine ⟨by omega, ?_⟩
          refine rY_ph rfl rfl ?_ ?_ ?_
          · rintro v w1 w2 ⟨a, b, e, h1, h2⟩ hE
            exact ⟨a, b, e, h1.ext hE, h2.ext hE⟩
          · intro w7 hE7 _
            simp only [VS, VD, SV, SL, T, Nat.reduceEqDiff, Nat.reduceAdd, Nat.reduceSub, Nat.reduceMul, Nat.reduceLeDiff, Nat.reduceLT, reduceIte]
            refine (after_spec s y l _ _ (hsub (i + 1)) w7 (hsl.ext (hEx.trans hE7))).mono ?_
            rintro v w8 ⟨hh, hE8⟩
            exact ⟨hE8, hh⟩
          rintro _ ⟨w7, hE7, _, xa, xb, rfl, hxa, hxb⟩
          obtain ⟨u1, a1, n1, c1, rfl⟩ := MayAt.form hxa
          obtain ⟨a2, c2, rfl⟩ := RefAt.form hxb
          clear hxa hxb
          simp only [VS, VD, SV, SL, T, Nat.reduceEqDiff, Nat.reduceAdd, Nat.reduceSub, Nat.reduceMul, Nat.reduceLeDiff, Nat.reduceLT, reduceIte, stV]
          intro w8 hE8 hF8
          obtain ⟨xa, xb, ee, hxa, hxb⟩ := FA_head hF8
          simp only [Value.tuple.injEq, Array.mk.injEq, List.cons.injEq, and_true] at ee
          obtain ⟨rfl, rfl⟩ := ee
          simp only [VS, VD, SV, SL, T, Nat.reduceEqDiff, Nat.reduceAdd, Nat.reduceSub, Nat.reduceMul, Nat.reduceLeDiff, Nat.reduceLT, reduceIte, stV]
          refine DW_intro (fun _ _ _ _ => True) ?_
          have hb8 := hE8.obj hb
          simp only [VS, VD, SV, SL, T, Nat.reduceEqDiff, Nat.reduceAdd, Nat.reduceSub, Nat.reduceMul, Nat.reduceLeDiff, Nat.reduceLT, reduceIte, f1, f55, f9, stV, hb8, hle2, hext, Int.toNat_natCast]
          refine ⟨by omega, ?_⟩
          intro w9 hE9 _
          simp only [VS, VD, SV, SL, T, Nat.reduceEqDiff, Nat.reduceAdd, Nat.reduceSub, Nat.reduceMul, Nat.reduceLeDiff, Nat.reduceLT, reduceIte]
          refine (step_spec s y l hv _ hbi _ q.lo q.hi q.pick (by omega) (by omega) w9 ((hx.ext hE8).ext hE9)).mono ?_
          rintro v1 w10 ⟨hm1, hE10⟩
          rw [← hS] at hm1
          obtain ⟨u3, a3, n3, c3, rfl⟩ := hm1.form
          have hE910 := hE9.trans hE10
          simp only [VS, VD, SV, SL, T, Nat.reduceEqDiff, Nat.reduceAdd, Nat.reduceSub, Nat.reduceMul, Nat.reduceLeDiff, Nat.reduceLT, reduceIte, f9, stV]
          refine (same_spec s y l hv _ hall.2.1 hall.2.2.1 _ _ hall.1 (by omega) _ _ w10 hm1 (hxb.ext hE910)).mono ?_
          rintro _ w11 ⟨rfl, hE11⟩
          simp only [VS, VD, SV, SL, T, Nat.reduceEqDiff, Nat.reduceAdd, Nat.reduceSub, Nat.reduceMul, Nat.reduceLeDiff, Nat.reduceLT, reduceIte, Bool.not_true, stV]
          refine (Equal_spec s y l hv _ _ _ w11 (hm1.ext hE11) (hxa.ext (hE910.trans hE11))).mono ?_
          rintro _ w12 ⟨rfl, hE12⟩
          simp only [VS, VD, SV, SL, T, Nat.reduceEqDiff, Nat.reduceAdd, Nat.reduceSub, Nat.reduceMul, Nat.reduceLeDiff, Nat.reduceLT, reduceIte, Bool.not_true, f55]
          exact ⟨by omega, i + 1, ⟨f1, f2, f54, by simp, by omega, hEx.trans (hE8.trans ((hE910.trans hE11).trans hE12)), hm1.ext (hE11.trans hE12)⟩, by omega⟩
        · simp only [VS, VD, SV, SL, T, Nat.reduceEqDiff, Nat.reduceAdd, Nat.reduceSub, Nat.reduceMul, Nat.reduceLeDiff, Nat.reduceLT, reduceIte]
          exact hΨ _ _ ⟨rfl, hEx⟩
end Go.Proofs.Ytndkadphpbnpeaa

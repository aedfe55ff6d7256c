/-
  MustSteps.
-/
import Derived.Test.YtehmbpkcbmnfnaaZCW5
set_option linter.unusedSimpArgs false
set_option linter.unusedVariables false
namespace Go.Proofs.Ytehmbpkcbmnfnaa
open Go.W Go.RowKit
theorem AbsB.bdl {y : Int} {L : List (Int × Int)} {m : Bnd} (h : AbsB L m) (hb : Bd y m) : BdL y L := fun x hx => hb x.1 x.2 ((h.mem x.1 x.2).1 hx)
theorem ageU_some' {y k a : Int} {m : Bnd} (hb : Bd y m) (hk : m k = some a) : ageU m k = (a, true) := by
  have h := hb k a hk
  unfold ageU
  rw [if_neg (show ¬ k < 0 by omega), hk]
set_option maxHeartbeats 1000000 in
set_option maxRecDepth 10000 in
theorem MustSteps_spec (s y l : Int) (lv : Value) (Q : List Op) (line : Int) (w : World) (h : OpsAt w lv Q) (hQM : OpsOk Q) (hline : i64ok line) :
    VRet Try.prog 3 #[cfgV s y l, lv, .int .i64 line] w fun v w' => v = .bool true ∧ Ext w w' := by
  obtain ⟨la, lc, rfl⟩ := h.form
  refine VRet_start T.mo ok3 rfl fun Ψ hΨ => ?_; simp only [vc3, rs3]
  simp only [VS, VD, SV, SL, T, Nat.reduceEqDiff, Nat.reduceAdd, Nat.reduceSub, Nat.reduceMul, Nat.reduceLeDiff, Nat.reduceLT, reduceIte, cfgV]
  refine (awake_spec _).mono ?_
  rintro _ w1 ⟨rfl, hE⟩
  replace hE := ((Ext.refl w).alloc tomb).trans hE
  simp only [VS, VD, SV, SL, T, Nat.reduceEqDiff, Nat.reduceAdd, Nat.reduceSub, Nat.reduceMul, Nat.reduceLeDiff, Nat.reduceLT, reduceIte]
  have z0 : decide (¬ (0 : Int) = 0) = false := rfl
  have z1 : decide (¬ (1 : Int) = 0) = true := rfl
  have z2 : decide (¬ (1 : Int) = 1) = false := rfl
  have z3 : decide ((1 : Int) = 0) = false := rfl
  cases hv : Geo s y l with
  | false =>
    refine (New_bad s y l hv _).mono ?_
    rintro _ w2 ⟨rfl, hE2⟩
    simp only [VS, VD, SV, SL, T, Nat.reduceEqDiff, Nat.reduceAdd, Nat.reduceSub, Nat.reduceMul, Nat.reduceLeDiff, Nat.reduceLT, reduceIte, muV]
    refine (Valid_spec s y l _).mono ?_
    rintro _ w3 ⟨rfl, hE3⟩
    rw [hv]
    have bf : (false == false) = true := rfl
    simp only [VS, VD, SV, SL, T, Nat.reduceEqDiff, Nat.reduceAdd, Nat.reduceSub, Nat.reduceMul, Nat.reduceLeDiff, Nat.reduceLT, reduceIte, z1, z2, z3, bf, Bool.not_true]
    exact hΨ _ _ ⟨rfl, ((hE.trans hE2).alloc tomb).trans hE3⟩
  | true =>
    have hp := Geo_spec hv
    refine (New_spec s y l hv _).mono ?_
    rintro _ w2 ⟨⟨st, rfl, hm⟩, hE2⟩
    obtain ⟨b0, o0, c0, rfl⟩ := hm.form
    simp only [VS, VD, SV, SL, T, Nat.reduceEqDiff, Nat.reduceAdd, Nat.reduceSub, Nat.reduceMul, Nat.reduceLeDiff, Nat.reduceLT, reduceIte, muV]
    refine (Valid_spec s y l _).mono ?_
    rintro _ w3 ⟨rfl, hE3⟩
    rw [hv]
    replace hm := hm.ext (((Ext.refl w2).alloc tomb).trans hE3)
    replace hE := ((hE.trans hE2).alloc tomb).trans hE3
    have bf : (true == true) = true := rfl
    simp only [VS, VD, SV, SL, T, Nat.reduceEqDiff, Nat.reduceAdd, Nat.reduceSub, Nat.reduceMul, Nat.reduceLeDiff, Nat.reduceLT, reduceIte, z0, bf, Bool.not_true]
    refine (great_spec _ Q hQM.1 _ (h.ext hE)).mono ?_
    rintro _ w4 ⟨⟨r, rfl, hr⟩, hE4⟩
    replace hE := hE.trans hE4
    replace hm := hm.ext hE4
    cases r with
    | true =>
      simp only [VS, VD, SV, SL, T, Nat.reduceEqDiff, Nat.reduceAdd, Nat.reduceSub, Nat.reduceMul, Nat.reduceLeDiff, Nat.reduceLT, reduceIte]
      exact hΨ _ _ ⟨rfl, hE⟩
    | false =>
      have hQL := hr.1 rfl
      have hlQ := hQL.1
      simp only [VS, VD, SV, SL, T, Nat.reduceEqDiff, Nat.reduceAdd, Nat.reduceSub, Nat.reduceMul, Nat.reduceLeDiff, Nat.reduceLT, reduceIte, muV]
      refine LoopP_intro (α := Nat) (fun i f' w' => f' 2 = .int .i64 line ∧ f' 3 = .agg #[.int .i64 s, .int .i64 y, .int .i64 l] ∧ f' 42 = .slice la Q.length lc ∧ f' 43 = .int .i64 Q.length ∧ f' 44 = .int .i64 i ∧ i ≤ Q.length ∧ Ext w w' ∧
        ∃ M L, MuK w' (f' 7) s y l M ∧ LnAt w' (f' 9) L ∧ AbsB L M ∧ Bd y M ∧ Lim M ∧ L.length ≤ i) (fun i => Q.length - i) 0 ?_ ?_
      · simp only [VS, VD, SV, SL, T, Nat.reduceEqDiff, Nat.reduceAdd, Nat.reduceSub, Nat.reduceMul, Nat.reduceLeDiff, Nat.reduceLT, reduceIte, muV]
        exact ⟨rfl, by omega, hE, emU, [], hm, .inl ⟨⟨_, _, rfl⟩, rfl⟩, AbsB_nil, Bd_em y, Lim_em, by simp⟩
      clear hm
      rintro i f' wo ⟨f2, f3, f42, f43, f44, hi, hEx, M, L, hm, hl, hA, hb, hlim, hlen⟩
      obtain ⟨b7, o7, c7, f7⟩ := hm.form
      rw [f7] at hm
      obtain ⟨a9, c9, f9⟩ := lnAt_form hl
      rw [f9] at hl
      simp only [VS, VD, SV, SL, T, Nat.reduceEqDiff, Nat.reduceAdd, Nat.reduceSub, Nat.reduceMul, Nat.reduceLeDiff, Nat.reduceLT, reduceIte, f44, f43]
      refine cnd_d (fun hlt => ?_) (fun hlt => ?_)
      · have hi' : i < Q.length := by omega
        obtain ⟨b, off, cs, e, fz, rfl, hbk, hle2, hext⟩ := (h.ext hEx).get hi'
        have hop := hQL.2 _ (List.getElem_mem hi')
        unfold OpL at hop
        generalize Q[i] = x at *
        have hA' := hA.do (s := s) (lo := x.lo) (hi := x.hi) hb
        have hb' := hb.do (s := s) (lo := x.lo) (hi := x.hi) hp.2.2.1
        have hlim' := hlim.do (s := s) (y := y) hop.1 hop.2
        have hlen' := rDo_len s y L x.lo x.hi
        simp only [VS, VD, SV, SL, T, Nat.reduceEqDiff, Nat.reduceAdd, Nat.reduceSub, Nat.reduceMul, Nat.reduceLeDiff, Nat.reduceLT, reduceIte, f42, f44, Int.toNat_natCast, hbk, hle2, hext, f7, muV]
        refine ⟨by omega, ?_⟩
        have hEb := ((Ext.refl wo).alloc tomb).alloc tomb
        replace hm := hm.ext hEb
        replace hl := hl.ext hEb
        replace hEx := hEx.trans hEb
        generalize (wo.alloc tomb).alloc tomb = wa at *
        refine (do_spec s y l hv M hb _ x.lo x.hi x.pick (by omega) _ hm).mono ?_
        rintro _ w5 ⟨hm5, hE5⟩
        replace hm := hm.ext hE5
        replace hl := hl.ext hE5
        replace hEx := hEx.trans hE5
        obtain ⟨b5, o5, c5, rfl⟩ := hm5.form
        simp only [VS, VD, SV, SL, T, Nat.reduceEqDiff, Nat.reduceAdd, Nat.reduceSub, Nat.reduceMul, Nat.reduceLeDiff, Nat.reduceLT, reduceIte, f7, f9, muV]
        refine (same_spec s y l hv M hb hlim L hA (by omega) _ _ _ hm hl).mono ?_
        rintro _ w6 ⟨rfl, hE6⟩
        replace hm5 := hm5.ext hE6
        replace hl := hl.ext hE6
        replace hEx := hEx.trans hE6
        simp only [VS, VD, SV, SL, T, Nat.reduceEqDiff, Nat.reduceAdd, Nat.reduceSub, Nat.reduceMul, Nat.reduceLeDiff, Nat.reduceLT, reduceIte, Bool.not_true]
        have hend : ∀ (g : Fr) (wz : World) (lz : Value), LnAt wz lz (rDo s y L x.lo x.hi) → Ext w6 wz → VRet Try.prog 16 #[muV s y l (.slice (some ⟨b5, o5, none⟩) s.toNat c5), lz] wz fun v w' => v = .bool true ∧ Ext wz w' ∧ MuK w' (muV s y l (.slice (some ⟨b5, o5, none⟩) s.toNat c5)) s y l (doU s y M x.lo x.hi) ∧ LnAt w' lz (rDo s y L x.lo x.hi) := by
          intro g wz lz hlz hEz
          refine (same_spec s y l hv _ hb' hlim' _ hA' (by omega) _ _ _ (hm5.ext hEz) hlz).mono ?_
          rintro v w7 ⟨rfl, hE7⟩
          exact ⟨rfl, hE7, (hm5.ext hEz).ext hE7, hlz.ext hE7⟩
        by_cases q : x.lo = -1 ∧ x.hi = -1
        · have hd : rDo s y L x.lo x.hi = [] := by unfold rDo; rw [if_pos q]
          have d1 : decide (x.lo = -1) = true := decide_eq_true q.1
          have d2 : decide (x.hi = -1) = true := decide_eq_true q.2
          simp only [VS, VD, SV, SL, T, Nat.reduceEqDiff, Nat.reduceAdd, Nat.reduceSub, Nat.reduceMul, Nat.reduceLeDiff, Nat.reduceLT, reduceIte, d1, d2, muV]
          refine (hend f' w6 (.slice none 0 0) (by rw [hd]; exact .inl ⟨⟨_, _, rfl⟩, rfl⟩) (Ext.refl _)).mono ?_
          rintro _ w7 ⟨rfl, hE7, hm7, hl7⟩
          simp only [VS, VD, SV, SL, T, Nat.reduceEqDiff, Nat.reduceAdd, Nat.reduceSub, Nat.reduceMul, Nat.reduceLeDiff, Nat.reduceLT, reduceIte, Bool.not_true, f44]
          exact ⟨by omega, i + 1, ⟨f2, f3, f42, f43, by simp, by omega, hEx.trans hE7, _, _, hm7, hl7, hA', hb', hlim', by omega⟩, by omega⟩
        · have hd : rDo s y L x.lo x.hi = rRngX s y L x.lo x.hi := by unfold rDo; rw [if_neg q]
          have hgo : ∀ Ψ' : Value → World → Prop, (∀ v w', LnAt w' v (rDo s y L x.lo x.hi) ∧ Ext w6 w' → Ψ' v w') → VRet Try.prog 17 #[cfgV s y l, .slice a9 L.length c9, .int .i64 x.lo, .int .i64 x.hi] w6 Ψ' := by
            intro Ψ' hk
            refine (rAccessRange_spec s y l hv L (by omega) (hA.bdl hb) x.lo x.hi (by omega) _ _ hl).mono ?_
            rintro v w7 ⟨h7, hE7⟩
            exact hk v w7 ⟨by rw [hd]; exact h7, hE7⟩
          by_cases q1 : x.lo = -1
          · have d1 : decide (x.lo = -1) = true := decide_eq_true q1
            have d2 : decide (x.hi = -1) = false := decide_eq_false (fun h => q ⟨q1, h⟩)
            simp only [VS, VD, SV, SL, T, Nat.reduceEqDiff, Nat.reduceAdd, Nat.reduceSub, Nat.reduceMul, Nat.reduceLeDiff, Nat.reduceLT, reduceIte, d1, d2, f3, f9]
            refine hgo _ ?_
            rintro v7 w7 ⟨h7, hE7⟩
            simp only [VS, VD, SV, SL, T, Nat.reduceEqDiff, Nat.reduceAdd, Nat.reduceSub, Nat.reduceMul, Nat.reduceLeDiff, Nat.reduceLT, reduceIte, muV]
            refine (hend f' w7 v7 h7 hE7).mono ?_
            rintro _ w8 ⟨rfl, hE8, hm8, hl8⟩
            simp only [VS, VD, SV, SL, T, Nat.reduceEqDiff, Nat.reduceAdd, Nat.reduceSub, Nat.reduceMul, Nat.reduceLeDiff, Nat.reduceLT, reduceIte, Bool.not_true, f44]
            exact ⟨by omega, i + 1, ⟨f2, by rw [f3], f42, f43, by simp, by omega, (hEx.trans hE7).trans hE8, _, _, hm8, hl8, hA', hb', hlim', by omega⟩, by omega⟩
          · have d1 : decide (x.lo = -1) = false := decide_eq_false q1
            simp only [VS, VD, SV, SL, T, Nat.reduceEqDiff, Nat.reduceAdd, Nat.reduceSub, Nat.reduceMul, Nat.reduceLeDiff, Nat.reduceLT, reduceIte, d1, f3, f9]
            refine hgo _ ?_
            rintro v7 w7 ⟨h7, hE7⟩
            simp only [VS, VD, SV, SL, T, Nat.reduceEqDiff, Nat.reduceAdd, Nat.reduceSub, Nat.reduceMul, Nat.reduceLeDiff, Nat.reduceLT, reduceIte, muV]
            refine (hend f' w7 v7 h7 hE7).mono ?_
            rintro _ w8 ⟨rfl, hE8, hm8, hl8⟩
            simp only [VS, VD, SV, SL, T, Nat.reduceEqDiff, Nat.reduceAdd, Nat.reduceSub, Nat.reduceMul, Nat.reduceLeDiff, Nat.reduceLT, reduceIte, Bool.not_true, f44]
            exact ⟨by omega, i + 1, ⟨f2, by rw [f3], f42, f43, by simp, by omega, (hEx.trans hE7).trans hE8, _, _, hm8, hl8, hA', hb', hlim', by omega⟩, by omega⟩
      · simp only [VS, VD, SV, SL, T, Nat.reduceEqDiff, Nat.reduceAdd, Nat.reduceSub, Nat.reduceMul, Nat.reduceLeDiff, Nat.reduceLT, reduceIte, f7, f2, muV]
        refine (Age_spec s y l hv M _ line _ hm).mono ?_
        rintro _ w5 ⟨rfl, hE5⟩
        simp only [VS, VD, SV, SL, T, Nat.reduceEqDiff, Nat.reduceAdd, Nat.reduceSub, Nat.reduceMul, Nat.reduceLeDiff, Nat.reduceLT, reduceIte, f9, f2]
        refine (rFind_spec L (by omega) _ line _ (hl.ext hE5)).mono ?_
        rintro _ w6 ⟨rfl, hE6⟩
        have hf := hA.find line
        have hfin := (hEx.trans hE5).trans hE6
        cases hq : M line with
        | none =>
          rw [hq] at hf
          have ha : ageU M line = (0, false) := by unfold ageU; split <;> simp [hq]
          rw [ha, hf]
          have d1 : decide (0 ≤ (none : Option Int).getD (-1)) = false := rfl
          have d2 : (false == false) = true := rfl
          have d3 : decide ((0 : Int) = max ((none : Option Int).getD (-1)) 0) = true := rfl
          simp only [VS, VD, SV, SL, T, Nat.reduceEqDiff, Nat.reduceAdd, Nat.reduceSub, Nat.reduceMul, Nat.reduceLeDiff, Nat.reduceLT, reduceIte, d1, d2, d3]
          exact hΨ _ _ ⟨rfl, hfin⟩
        | some c =>
          rw [hq] at hf
          have hc := hb line c hq
          have ha : ageU M line = (c, true) := ageU_some' hb hq
          rw [ha, hf, Option.getD_some]
          have d1 : decide (0 ≤ c) = true := decide_eq_true hc.2.1
          have d2 : (true == true) = true := rfl
          have d3 : decide (c = max c 0) = true := decide_eq_true (by omega)
          simp only [VS, VD, SV, SL, T, Nat.reduceEqDiff, Nat.reduceAdd, Nat.reduceSub, Nat.reduceMul, Nat.reduceLeDiff, Nat.reduceLT, reduceIte, d1, d2, d3]
          exact hΨ _ _ ⟨rfl, hfin⟩
end Go.Proofs.Ytehmbpkcbmnfnaa

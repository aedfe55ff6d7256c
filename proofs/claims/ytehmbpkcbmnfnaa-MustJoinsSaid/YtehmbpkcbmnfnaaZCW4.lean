/-
  MustJoins.
-/
import Derived.Test.YtehmbpkcbmnfnaaZCW3
set_option linter.unusedSimpArgs false
set_option linter.unusedVariables false
namespace Go.Proofs.Ytehmbpkcbmnfnaa
open Go.W Go.RowKit
theorem joinU_comm (m n : Bnd) : joinU m n = joinU n m := by
  funext k
  unfold joinU
  cases m k <;> cases n k <;> simp [Int.max_comm]
theorem joinU_idem (m : Bnd) : joinU m m = m := by
  funext k
  unfold joinU
  cases h : m k <;> simp [h]
theorem joinU_assoc (m n o : Bnd) : joinU (joinU m n) o = joinU m (joinU n o) := by
  funext k
  unfold joinU
  cases m k <;> cases n k <;> cases o k <;> simp [Int.max_assoc]
/-- the law's test of equality -/
theorem eq_test {y : Int} {m n : Bnd} (hm : Bd y m) (hn : Bd y n) {A B : List (Int × Int)} (ha : AbsB A m) (hb : AbsB B n) (hl : A.length = B.length) (h : ∀ x ∈ A, rFind B x.1 = x.2) : m = n := by
  have hsub : ∀ x ∈ A, x ∈ B := by
    rintro ⟨j, b⟩ hx
    have h1 := h _ hx
    have h2 := (hm j b ((ha.mem j b).1 hx)).2.1
    simp only [hb.find] at h1
    cases hq : n j with
    | none => rw [hq] at h1; simp at h1; omega
    | some c => rw [hq] at h1; simp at h1; subst h1; exact (hb.mem j c).2 hq
  have hnA : A.Nodup := (List.pairwise_map.1 ha.nd).imp (fun h e => h (by rw [e]))
  have hperm : ∀ x ∈ B, x ∈ A := by
    intro x hx
    apply Classical.byContradiction
    intro hx'
    have h1 : (x :: A).Nodup := List.nodup_cons.2 ⟨hx', hnA⟩
    have h2 := List.Nodup.length_le_of_subset h1 (l₂ := B) (fun z hz => by
      rcases List.mem_cons.1 hz with rfl | hz
      · exact hx
      · exact hsub z hz)
    simp only [List.length_cons] at h2
    omega
  funext k
  cases hmk : m k with
  | none =>
    cases hnk : n k with
    | none => rfl
    | some c =>
      have := (ha.mem k c).1 (hperm _ ((hb.mem k c).2 hnk))
      rw [hmk] at this; cases this
  | some b =>
    have := (hb.mem k b).1 (hsub _ ((ha.mem k b).2 hmk))
    rw [this]
set_option maxHeartbeats 2000000 in
set_option maxRecDepth 10000 in
theorem MustJoins_spec (s y l : Int) (av : Value) (A : List Op) (bv : Value) (B : List Op) (dv : Value) (D : List Op) (w : World) (ha : OpsAt w av A) (hAM : OpsOk A) (hb : OpsAt w bv B) (hBM : OpsOk B) (hd : OpsAt w dv D) (hDM : OpsOk D) :
    VRet Try.prog 6 #[cfgV s y l, av, bv, dv] w fun v w' => v = .bool true ∧ Ext w w' := by
  obtain ⟨aa, ac, rfl⟩ := ha.form
  obtain ⟨ba, bc, rfl⟩ := hb.form
  obtain ⟨da, dc, rfl⟩ := hd.form
  refine VRet_start T.mo ok6 rfl fun Ψ hΨ => ?_; simp only [vc6, rs6]
  simp only [VS, VD, SV, SL, T, Nat.reduceEqDiff, Nat.reduceAdd, Nat.reduceSub, Nat.reduceMul, Nat.reduceLeDiff, Nat.reduceLT, reduceIte, cfgV]
  refine (awake_spec _).mono ?_
  rintro _ w1 ⟨rfl, hE⟩
  replace hE := ((Ext.refl w).alloc tomb).trans hE
  simp only [VS, VD, SV, SL, T, Nat.reduceEqDiff, Nat.reduceAdd, Nat.reduceSub, Nat.reduceMul, Nat.reduceLeDiff, Nat.reduceLT, reduceIte]
  refine (states_spec s y l _ _ A B hAM.1 hBM.1 _ (ha.ext hE) (hb.ext hE)).mono ?_
  rintro _ w2 ⟨⟨va, vb, r, rfl, ⟨sa, na, ca, s1, y1, l1, rfl⟩, ⟨sb, nb, cb, s2, y2, l2, rfl⟩, hr, hm⟩, hE2⟩
  replace hE := hE.trans hE2
  simp only [VS, VD, SV, SL, T, Nat.reduceEqDiff, Nat.reduceAdd, Nat.reduceSub, Nat.reduceMul, Nat.reduceLeDiff, Nat.reduceLT, reduceIte, muV]
  replace hE := (hE.alloc tomb).alloc tomb
  have hE23 := ((Ext.refl w2).alloc tomb).alloc tomb
  generalize (w2.alloc tomb).alloc tomb = w3 at *
  refine (states_spec s y l _ (.slice none 0 0) D [] hDM.1 (by simp) _ (hd.ext hE) (.inl ⟨⟨_, _, rfl⟩, rfl⟩)).mono ?_
  rintro _ w4 ⟨⟨vc, vd, r2, rfl, ⟨sc, nc, cc, s3, y3, l3, rfl⟩, ⟨sd, nd, cd, s4, y4, l4, rfl⟩, hr2, hm2⟩, hE4⟩
  replace hE := hE.trans hE4
  simp only [VS, VD, SV, SL, T, Nat.reduceEqDiff, Nat.reduceAdd, Nat.reduceSub, Nat.reduceMul, Nat.reduceLeDiff, Nat.reduceLT, reduceIte, muV]
  replace hE := (hE.alloc tomb).alloc tomb
  have hE35 := (hE4.alloc tomb).alloc tomb
  have hE45 := ((Ext.refl w4).alloc tomb).alloc tomb
  generalize (w4.alloc tomb).alloc tomb = w5 at *
  cases r with
  | false =>
    simp only [VS, VD, SV, SL, T, Nat.reduceEqDiff, Nat.reduceAdd, Nat.reduceSub, Nat.reduceMul, Nat.reduceLeDiff, Nat.reduceLT, reduceIte]
    exact hΨ _ _ ⟨rfl, hE⟩
  | true =>
    cases r2 with
    | false =>
      simp only [VS, VD, SV, SL, T, Nat.reduceEqDiff, Nat.reduceAdd, Nat.reduceSub, Nat.reduceMul, Nat.reduceLeDiff, Nat.reduceLT, reduceIte]
      exact hΨ _ _ ⟨rfl, hE⟩
    | true =>
      obtain ⟨hv, hAL, hBL⟩ := hr.1 rfl
      obtain ⟨_, hDL, _⟩ := hr2.1 rfl
      have hp := Geo_spec hv
      obtain ⟨hx, hy⟩ := hm rfl
      obtain ⟨hz, _⟩ := hm2 rfl
      replace hx := hx.ext (hE23.trans hE35)
      replace hy := hy.ext (hE23.trans hE35)
      replace hz := hz.ext hE45
      have bA := runU_bd (s := s) hp.2.2.1 A (Bd_em y)
      have bB := runU_bd (s := s) hp.2.2.1 B (Bd_em y)
      have bD := runU_bd (s := s) hp.2.2.1 D (Bd_em y)
      have lA := runU_lim (s := s) (y := y) A hAL.2 Lim_em
      have lB := runU_lim (s := s) (y := y) B hBL.2 Lim_em
      generalize runU s y emU A = M at *
      generalize runU s y emU B = N at *
      generalize runU s y emU D = O at *
      clear hm hm2 hr hr2
      simp only [VS, VD, SV, SL, T, Nat.reduceEqDiff, Nat.reduceAdd, Nat.reduceSub, Nat.reduceMul, Nat.reduceLeDiff, Nat.reduceLT, reduceIte, muV]
      refine (Join_spec s y l hv M N _ _ _ hx hy).mono ?_
      rintro _ w6 ⟨hj, hE6⟩
      obtain ⟨bj, oj, cj, rfl⟩ := hj.form
      have hE7 := hE6.alloc tomb
      replace hx := hx.ext hE7
      replace hy := hy.ext hE7
      replace hz := hz.ext hE7
      replace hj := hj.ext ((Ext.refl w6).alloc tomb)
      replace hE := hE.trans hE7
      simp only [VS, VD, SV, SL, T, Nat.reduceEqDiff, Nat.reduceAdd, Nat.reduceSub, Nat.reduceMul, Nat.reduceLeDiff, Nat.reduceLT, reduceIte, muV]
      generalize w6.alloc tomb = w7 at *
      have hK := keysU_of bA lA
      have hKB := keysU_of bB lB
      have hlk := hK.len
      have hlkB := hKB.len
      have habs := lst_abs bA hK
      have habsB := lst_abs bB hKB
      have hks : (keysU M).length ≤ 1001 := by unfold keysU; exact Nat.le_trans (List.length_filter_le _ _) (by simp)
      have hjs : (keysU N).length ≤ 1001 := by unfold keysU; exact Nat.le_trans (List.length_filter_le _ _) (by simp)
      generalize keysU M = Ks at *
      generalize keysU N = Js at *
      refine (Lines_spec s y l hv M Ks hK _ _ hx).mono ?_
      rintro v8 w8 ⟨hE8, ho⟩
      obtain ⟨ak, ck, rfl⟩ := ho.ints.form
      have hints := ho.ints
      replace hx := hx.ext hE8
      replace hy := hy.ext hE8
      replace hz := hz.ext hE8
      replace hj := hj.ext hE8
      replace hE := hE.trans hE8
      simp only [VS, VD, SV, SL, T, Nat.reduceEqDiff, Nat.reduceAdd, Nat.reduceSub, Nat.reduceMul, Nat.reduceLeDiff, Nat.reduceLT, reduceIte]
      refine loop_cB (fun f' w' => live (f' 4) = true ∧ f' 9 = muV s1 y1 l1 (.slice sa na ca) ∧ f' 10 = muV s2 y2 l2 (.slice sb nb cb) ∧ f' 12 = muV s3 y3 l3 (.slice sc nc cc) ∧ live (f' 13) = true ∧ f' 15 = muV s y l (.slice (some ⟨bj, oj, none⟩) s.toNat cj) ∧ f' 17 = .slice none 0 0 ∧ LnAt w' (f' 16) (lst M Ks) ∧ Ext w8 w') ?_ ?_
      · refine LoopP_intro (α := Nat) (fun i f' w' => live (f' 4) = true ∧ f' 9 = muV s1 y1 l1 (.slice sa na ca) ∧ f' 10 = muV s2 y2 l2 (.slice sb nb cb) ∧ f' 12 = muV s3 y3 l3 (.slice sc nc cc) ∧ live (f' 13) = true ∧ f' 15 = muV s y l (.slice (some ⟨bj, oj, none⟩) s.toNat cj) ∧ f' 17 = .slice none 0 0 ∧ f' 57 = .slice ak Ks.length ck ∧ f' 58 = .int .i64 Ks.length ∧ f' 59 = .int .i64 i ∧ i ≤ Ks.length ∧ LnO w8.heap.size w' (f' 16) (lst M (Ks.take i)) ∧ Ext w8 w') (fun i => Ks.length - i) 0 ?_ ?_
        · simp only [VS, VD, SV, SL, T, Nat.reduceEqDiff, Nat.reduceAdd, Nat.reduceSub, Nat.reduceMul, Nat.reduceLeDiff, Nat.reduceLT, reduceIte, muV]
          exact ⟨rfl, by omega, OwnL.nil _ _ _ _ _, Ext.refl _⟩
        rintro i f' w' ⟨f4, f9, f10, f12, f13, f15, f17, f57, f58, f59, hile, hown, hEx⟩
        simp only [VS, VD, SV, SL, T, Nat.reduceEqDiff, Nat.reduceAdd, Nat.reduceSub, Nat.reduceMul, Nat.reduceLeDiff, Nat.reduceLT, reduceIte, f58, f59]
        refine cnd_d (fun hlt => ?_) (fun hlt => ?_)
        · have hi : i < Ks.length := by omega
          obtain ⟨bk, off, cs, e, fz, rfl, _, hbk, hck⟩ := (hints.ext hEx).get (i := i) (x := Ks[i]) (by simp [hi])
          have hst : lst M (Ks.take (i + 1)) = lst M (Ks.take i) ++ [(Ks[i], (ageU M Ks[i]).1)] := by
            unfold lst; rw [List.take_succ_eq_append_getElem hi, List.map_append]; rfl
          have hll1 : (lst M (Ks.take i)).length ≤ i := by simp [lst]; omega
          generalize Ks[i] = k at *
          simp only [VS, VD, SV, SL, T, Nat.reduceEqDiff, Nat.reduceAdd, Nat.reduceSub, Nat.reduceMul, Nat.reduceLeDiff, Nat.reduceLT, reduceIte, f57, f59, hbk, Int.toNat_natCast, hck, f9, muV]
          refine ⟨by omega, ?_⟩
          refine (Age_spec _ _ _ hv _ _ k _ (hx.ext hEx)).mono ?_
          rintro _ w9 ⟨rfl, hE9⟩
          replace hown := hown.ext hE9
          replace hEx := hEx.trans hE9
          obtain ⟨v10, g10⟩ : ∃ v, f' 16 = v := ⟨_, rfl⟩
          rw [g10] at hown
          simp only [VS, VD, SV, SL, T, Nat.reduceEqDiff, Nat.reduceAdd, Nat.reduceSub, Nat.reduceMul, Nat.reduceLeDiff, Nat.reduceLT, reduceIte, g10]
          refine app_line hown (by omega) hEx.size k _ ?_
          intro v' w10 ho9 hE10
          rw [← hst] at ho9
          simp only [VS, VD, SV, SL, T, Nat.reduceEqDiff, Nat.reduceAdd, Nat.reduceSub, Nat.reduceMul, Nat.reduceLeDiff, Nat.reduceLT, reduceIte, f59]
          exact ⟨by omega, i + 1, ⟨f4, by rw [f9]; rfl, f10, f12, f13, f15, f17, f57, f58, by simp, by omega, ho9, hE10 w8 hEx (Nat.le_refl _)⟩, by omega⟩
        · rw [List.take_of_length_le (by omega)] at hown
          simp only [VS, VD, SV, SL, T, Nat.reduceEqDiff, Nat.reduceAdd, Nat.reduceSub, Nat.reduceMul, Nat.reduceLeDiff, Nat.reduceLT, reduceIte]
          exact ⟨f4, f9, f10, f12, f13, f15, f17, hown.sl fun _ => rfl, hEx⟩
      rintro f0 w9 ⟨f4, f9, f10, f12, f13, f15, f17, hl16, hE9⟩
      clear hints
      replace hx := hx.ext hE9
      replace hy := hy.ext hE9
      replace hz := hz.ext hE9
      replace hj := hj.ext hE9
      replace hE := hE.trans hE9
      obtain ⟨a16, c16, f16⟩ := lnAt_form hl16
      rw [f16] at hl16
      simp only [VS, VD, SV, SL, T, Nat.reduceEqDiff, Nat.reduceAdd, Nat.reduceSub, Nat.reduceMul, Nat.reduceLeDiff, Nat.reduceLT, reduceIte, f10, muV]
      refine (Lines_spec s y l hv N Js hKB _ _ hy).mono ?_
      rintro v10 w10 ⟨hE10, ho⟩
      obtain ⟨aj, cjs, rfl⟩ := ho.ints.form
      have hints := ho.ints
      replace hx := hx.ext hE10
      replace hy := hy.ext hE10
      replace hz := hz.ext hE10
      replace hj := hj.ext hE10
      replace hl16 := hl16.ext hE10
      replace hE := hE.trans hE10
      simp only [VS, VD, SV, SL, T, Nat.reduceEqDiff, Nat.reduceAdd, Nat.reduceSub, Nat.reduceMul, Nat.reduceLeDiff, Nat.reduceLT, reduceIte]
      refine loop_cB (fun f' w' => live (f' 4) = true ∧ f' 9 = muV s1 y1 l1 (.slice sa na ca) ∧ f' 10 = muV s2 y2 l2 (.slice sb nb cb) ∧ f' 12 = muV s3 y3 l3 (.slice sc nc cc) ∧ live (f' 13) = true ∧ f' 15 = muV s y l (.slice (some ⟨bj, oj, none⟩) s.toNat cj) ∧ f' 16 = .slice a16 (lst M Ks).length c16 ∧ LnAt w' (f' 17) (lst N Js) ∧ Ext w10 w') ?_ ?_
      · refine LoopP_intro (α := Nat) (fun i f' w' => live (f' 4) = true ∧ f' 9 = muV s1 y1 l1 (.slice sa na ca) ∧ f' 10 = muV s2 y2 l2 (.slice sb nb cb) ∧ f' 12 = muV s3 y3 l3 (.slice sc nc cc) ∧ live (f' 13) = true ∧ f' 15 = muV s y l (.slice (some ⟨bj, oj, none⟩) s.toNat cj) ∧ f' 16 = .slice a16 (lst M Ks).length c16 ∧ f' 77 = .slice aj Js.length cjs ∧ f' 78 = .int .i64 Js.length ∧ f' 79 = .int .i64 i ∧ i ≤ Js.length ∧ LnO w10.heap.size w' (f' 17) (lst N (Js.take i)) ∧ Ext w10 w') (fun i => Js.length - i) 0 ?_ ?_
        · simp only [VS, VD, SV, SL, T, Nat.reduceEqDiff, Nat.reduceAdd, Nat.reduceSub, Nat.reduceMul, Nat.reduceLeDiff, Nat.reduceLT, reduceIte, f4, f9, f10, f12, f13, f15, f16, f17, muV]
          exact ⟨rfl, by omega, OwnL.nil _ _ _ _ _, Ext.refl _⟩
        clear f4 f9 f10 f12 f13 f15 f16 f17
        rintro i f' w' ⟨f4, f9, f10, f12, f13, f15, f16, f77, f78, f79, hile, hown, hEx⟩
        simp only [VS, VD, SV, SL, T, Nat.reduceEqDiff, Nat.reduceAdd, Nat.reduceSub, Nat.reduceMul, Nat.reduceLeDiff, Nat.reduceLT, reduceIte, f78, f79]
        refine cnd_d (fun hlt => ?_) (fun hlt => ?_)
        · have hi : i < Js.length := by omega
          obtain ⟨bk, off, cs, e, fz, rfl, _, hbk, hck⟩ := (hints.ext hEx).get (i := i) (x := Js[i]) (by simp [hi])
          have hst : lst N (Js.take (i + 1)) = lst N (Js.take i) ++ [(Js[i], (ageU N Js[i]).1)] := by
            unfold lst; rw [List.take_succ_eq_append_getElem hi, List.map_append]; rfl
          have hll1 : (lst N (Js.take i)).length ≤ i := by simp [lst]; omega
          generalize Js[i] = k at *
          simp only [VS, VD, SV, SL, T, Nat.reduceEqDiff, Nat.reduceAdd, Nat.reduceSub, Nat.reduceMul, Nat.reduceLeDiff, Nat.reduceLT, reduceIte, f77, f79, hbk, Int.toNat_natCast, hck, f10, muV]
          refine ⟨by omega, ?_⟩
          refine (Age_spec _ _ _ hv _ _ k _ (hy.ext hEx)).mono ?_
          rintro _ w11 ⟨rfl, hE11⟩
          replace hown := hown.ext hE11
          replace hEx := hEx.trans hE11
          obtain ⟨v10, g10⟩ : ∃ v, f' 17 = v := ⟨_, rfl⟩
          rw [g10] at hown
          simp only [VS, VD, SV, SL, T, Nat.reduceEqDiff, Nat.reduceAdd, Nat.reduceSub, Nat.reduceMul, Nat.reduceLeDiff, Nat.reduceLT, reduceIte, g10]
          refine app_line hown (by omega) hEx.size k _ ?_
          intro v' w12 ho9 hE12
          rw [← hst] at ho9
          simp only [VS, VD, SV, SL, T, Nat.reduceEqDiff, Nat.reduceAdd, Nat.reduceSub, Nat.reduceMul, Nat.reduceLeDiff, Nat.reduceLT, reduceIte, f79]
          exact ⟨by omega, i + 1, ⟨f4, f9, by rw [f10]; rfl, f12, f13, f15, f16, f77, f78, by simp, by omega, ho9, hE12 w10 hEx (Nat.le_refl _)⟩, by omega⟩
        · rw [List.take_of_length_le (by omega)] at hown
          simp only [VS, VD, SV, SL, T, Nat.reduceEqDiff, Nat.reduceAdd, Nat.reduceSub, Nat.reduceMul, Nat.reduceLeDiff, Nat.reduceLT, reduceIte]
          exact ⟨f4, f9, f10, f12, f13, f15, f16, hown.sl fun _ => rfl, hEx⟩
      clear f4 f9 f10 f12 f13 f15 f16 f17
      rintro f1 w11 ⟨f4, f9, f10, f12, f13, f15, f16, hl17, hE11⟩
      clear hints
      replace hx := hx.ext hE11
      replace hy := hy.ext hE11
      replace hz := hz.ext hE11
      replace hj := hj.ext hE11
      replace hl16 := hl16.ext hE11
      replace hE := hE.trans hE11
      obtain ⟨a17, c17, f17⟩ := lnAt_form hl17
      rw [f17] at hl17
      have hlP : (lst M Ks).length ≤ 100000 := by simp [lst]; have := hks; omega
      have hlR : (lst N Js).length ≤ 100000 := by simp [lst]; have := hjs; omega
      have habsJ := habs.join habsB bB
      have lJ : Lim (joinU M N) := lA.join
      have bJ := bA.join bB
      generalize lst M Ks = P at *
      generalize lst N Js = R at *
      simp only [VS, VD, SV, SL, T, Nat.reduceEqDiff, Nat.reduceAdd, Nat.reduceSub, Nat.reduceMul, Nat.reduceLeDiff, Nat.reduceLT, reduceIte, f15, f16, f17, muV]
      refine DW_intro (fun n _ v w' => match n with | 3 => LnAt w' v (rJn P R) | 10 => MuK w' v s y l (joinU M N) | 17 => MuK w' v s y l M | 25 => MuK w' v s y l (joinU (joinU M N) O) | 29 => MuK w' v s y l (joinU N O) | _ => v = .bool true) ?_
      simp only [VS, VD, SV, SL, T, Nat.reduceEqDiff, Nat.reduceAdd, Nat.reduceSub, Nat.reduceMul, Nat.reduceLeDiff, Nat.reduceLT, reduceIte, f15, f16, f17, muV]
      refine rY_ph rfl rfl (fun _ _ _ h hE => SlAt.ext h hE) (fun w' hE' _ => ?_) ?_
      · simp only [VS, VD, SV, SL, T, Nat.reduceEqDiff, Nat.reduceAdd, Nat.reduceSub, Nat.reduceMul, Nat.reduceLeDiff, Nat.reduceLT, reduceIte]
        refine (rJoin_spec P R hlP hlR _ _ w' (hl16.ext hE') (hl17.ext hE')).mono ?_
        rintro v w13 ⟨hq, hE13⟩
        exact ⟨hE13, hq⟩
      rintro v3 ⟨_, _, _, h3⟩
      have hlJ : (rJn P R).length ≤ 100000 := by rw [rJn_eq]; exact Nat.le_trans (List.length_filterMap_le _ _) hlP
      obtain ⟨a6, c6, rfl⟩ := lnAt_form (show LnAt _ v3 (rJn P R) from h3)
      simp only [VS, VD, SV, SL, T, Nat.reduceEqDiff, Nat.reduceAdd, Nat.reduceSub, Nat.reduceMul, Nat.reduceLeDiff, Nat.reduceLT, reduceIte]
      refine rY_ph rfl rfl (fun _ _ _ h _ => h) (fun w' hE' hFD => ?_) ?_
      · have h3' : LnAt w' (.slice a6 (rJn P R).length c6) (rJn P R) := hFD 3 (by simp)
        simp only [VS, VD, SV, SL, T, Nat.reduceEqDiff, Nat.reduceAdd, Nat.reduceSub, Nat.reduceMul, Nat.reduceLeDiff, Nat.reduceLT, reduceIte]
        refine (same_spec s y l hv _ bJ lJ (rJn P R) habsJ (by omega) _ _ w' (hj.ext hE') h3').mono ?_
        rintro _ w13 ⟨rfl, hE13⟩
        exact ⟨hE13, rfl⟩
      rintro v4 ⟨_, _, _, h4⟩
      obtain rfl : v4 = .bool true := h4
      simp only [VS, VD, SV, SL, T, Nat.reduceEqDiff, Nat.reduceAdd, Nat.reduceSub, Nat.reduceMul, Nat.reduceLeDiff, Nat.reduceLT, reduceIte, Bool.not_true, f9, f10, f15, muV]
      refine rY_ph rfl rfl (fun _ _ _ h hE => MuK.ext h hE) (fun w' hE' _ => ?_) ?_
      · simp only [VS, VD, SV, SL, T, Nat.reduceEqDiff, Nat.reduceAdd, Nat.reduceSub, Nat.reduceMul, Nat.reduceLeDiff, Nat.reduceLT, reduceIte]
        refine (Join_spec s y l hv N M _ _ w' (hy.ext hE') (hx.ext hE')).mono ?_
        rintro v w13 ⟨hq, hE13⟩
        rw [joinU_comm N M] at hq
        exact ⟨hE13, hq⟩
      rintro v10 ⟨_, _, _, h10⟩
      obtain ⟨b7, o7, c7, rfl⟩ := MuK.form h10
      simp only [VS, VD, SV, SL, T, Nat.reduceEqDiff, Nat.reduceAdd, Nat.reduceSub, Nat.reduceMul, Nat.reduceLeDiff, Nat.reduceLT, reduceIte, muV]
      refine rY_ph rfl rfl (fun _ _ _ h _ => h) (fun w' hE' hFD => ?_) ?_
      · have h10' : MuK w' (muV s y l (.slice (some ⟨b7, o7, none⟩) s.toNat c7)) s y l (joinU M N) := hFD 10 (by simp)
        simp only [VS, VD, SV, SL, T, Nat.reduceEqDiff, Nat.reduceAdd, Nat.reduceSub, Nat.reduceMul, Nat.reduceLeDiff, Nat.reduceLT, reduceIte]
        refine (Equal_spec s y l hv _ _ bJ bJ _ _ w' (hj.ext hE') h10').mono ?_
        rintro _ w13 ⟨⟨r, rfl, hr⟩, hE13⟩
        exact ⟨hE13, by rw [hr.2 rfl]⟩
      rintro v11 ⟨_, _, _, h11⟩
      obtain rfl : v11 = .bool true := h11
      simp only [VS, VD, SV, SL, T, Nat.reduceEqDiff, Nat.reduceAdd, Nat.reduceSub, Nat.reduceMul, Nat.reduceLeDiff, Nat.reduceLT, reduceIte, Bool.not_true, f9, muV]
      refine rY_ph rfl rfl (fun _ _ _ h hE => MuK.ext h hE) (fun w' hE' _ => ?_) ?_
      · simp only [VS, VD, SV, SL, T, Nat.reduceEqDiff, Nat.reduceAdd, Nat.reduceSub, Nat.reduceMul, Nat.reduceLeDiff, Nat.reduceLT, reduceIte]
        refine (Join_spec s y l hv M M _ _ w' (hx.ext hE') (hx.ext hE')).mono ?_
        rintro v w13 ⟨hq, hE13⟩
        rw [joinU_idem M] at hq
        exact ⟨hE13, hq⟩
      rintro v17 ⟨_, _, _, h17⟩
      obtain ⟨b8, o8, c8, rfl⟩ := MuK.form h17
      simp only [VS, VD, SV, SL, T, Nat.reduceEqDiff, Nat.reduceAdd, Nat.reduceSub, Nat.reduceMul, Nat.reduceLeDiff, Nat.reduceLT, reduceIte, f9, muV]
      refine rY_ph rfl rfl (fun _ _ _ h _ => h) (fun w' hE' hFD => ?_) ?_
      · have h17' : MuK w' (muV s y l (.slice (some ⟨b8, o8, none⟩) s.toNat c8)) s y l M := hFD 17 (by simp)
        simp only [VS, VD, SV, SL, T, Nat.reduceEqDiff, Nat.reduceAdd, Nat.reduceSub, Nat.reduceMul, Nat.reduceLeDiff, Nat.reduceLT, reduceIte]
        refine (Equal_spec s y l hv _ _ bA bA _ _ w' h17' (hx.ext hE')).mono ?_
        rintro _ w13 ⟨⟨r, rfl, hr⟩, hE13⟩
        exact ⟨hE13, by rw [hr.2 rfl]⟩
      rintro v19 ⟨_, _, _, h19⟩
      obtain rfl : v19 = .bool true := h19
      simp only [VS, VD, SV, SL, T, Nat.reduceEqDiff, Nat.reduceAdd, Nat.reduceSub, Nat.reduceMul, Nat.reduceLeDiff, Nat.reduceLT, reduceIte, Bool.not_true, f12, f15, muV]
      refine rY_ph rfl rfl (fun _ _ _ h hE => MuK.ext h hE) (fun w' hE' _ => ?_) ?_
      · simp only [VS, VD, SV, SL, T, Nat.reduceEqDiff, Nat.reduceAdd, Nat.reduceSub, Nat.reduceMul, Nat.reduceLeDiff, Nat.reduceLT, reduceIte]
        refine (Join_spec s y l hv (joinU M N) O _ _ w' (hj.ext hE') (hz.ext hE')).mono ?_
        rintro v w13 ⟨hq, hE13⟩
        exact ⟨hE13, hq⟩
      rintro v25 ⟨_, _, _, h25⟩
      obtain ⟨b9, o9, c9, rfl⟩ := MuK.form h25
      simp only [VS, VD, SV, SL, T, Nat.reduceEqDiff, Nat.reduceAdd, Nat.reduceSub, Nat.reduceMul, Nat.reduceLeDiff, Nat.reduceLT, reduceIte, f9, f10, f12, muV]
      refine rY_ph rfl rfl (fun _ _ _ h hE => MuK.ext h hE) (fun w' hE' _ => ?_) ?_
      · simp only [VS, VD, SV, SL, T, Nat.reduceEqDiff, Nat.reduceAdd, Nat.reduceSub, Nat.reduceMul, Nat.reduceLeDiff, Nat.reduceLT, reduceIte]
        refine (Join_spec s y l hv N O _ _ w' (hy.ext hE') (hz.ext hE')).mono ?_
        rintro v w13 ⟨hq, hE13⟩
        exact ⟨hE13, hq⟩
      rintro v29 ⟨_, _, _, h29⟩
      obtain ⟨b6, o6, c6', rfl⟩ := MuK.form h29
      simp only [VS, VD, SV, SL, T, Nat.reduceEqDiff, Nat.reduceAdd, Nat.reduceSub, Nat.reduceMul, Nat.reduceLeDiff, Nat.reduceLT, reduceIte, f9, muV]
      intro w12 hE12 hF12
      have h29' : MuK w12 (muV s y l (.slice (some ⟨b6, o6, none⟩) s.toNat c6')) s y l (joinU N O) := FA_head hF12
      have h25' : MuK w12 (muV s y l (.slice (some ⟨b9, o9, none⟩) s.toNat c9)) s y l (joinU (joinU M N) O) := hF12 25
      simp only [VS, VD, SV, SL, T, Nat.reduceEqDiff, Nat.reduceAdd, Nat.reduceSub, Nat.reduceMul, Nat.reduceLeDiff, Nat.reduceLT, reduceIte]
      refine (Join_spec s y l hv M (joinU N O) _ _ w12 (hx.ext hE12) h29').mono ?_
      rintro _ w13 ⟨hq, hE13⟩
      obtain ⟨b5, o5, c5, rfl⟩ := hq.form
      simp only [VS, VD, SV, SL, T, Nat.reduceEqDiff, Nat.reduceAdd, Nat.reduceSub, Nat.reduceMul, Nat.reduceLeDiff, Nat.reduceLT, reduceIte, muV]
      refine (Equal_spec s y l hv _ _ (bJ.join bD) (bA.join (bB.join bD)) _ _ w13 (h25'.ext hE13) hq).mono ?_
      rintro _ w14 ⟨⟨r, rfl, hr⟩, hE14⟩
      rw [hr.2 (joinU_assoc M N O)]
      have hE1114 := (hE12.trans hE13).trans hE14
      replace hx := hx.ext hE1114
      replace hy := hy.ext hE1114
      replace hl16 := hl16.ext hE1114
      replace hl17 := hl17.ext hE1114
      replace hE := hE.trans hE1114
      clear hj hz
      simp only [VS, VD, SV, SL, T, Nat.reduceEqDiff, Nat.reduceAdd, Nat.reduceSub, Nat.reduceMul, Nat.reduceLeDiff, Nat.reduceLT, reduceIte, Bool.not_true, f16, f17]
      have hsame : (P.length = R.length ∧ ∀ x ∈ P, rFind R x.1 = x.2) ↔ M = N := by
        refine ⟨fun h => eq_test bA bB habs habsB h.1 h.2, fun h => ?_⟩
        subst h
        refine ⟨by rw [← abs_len habs hK, ← abs_len habsB hK], fun x hx => ?_⟩
        rw [habsB.find, (habs.mem x.1 x.2).1 hx]; rfl
      have hs1 : 1 ≤ s1 := by
        obtain ⟨_, _, _, e0⟩ := hx.form
        simp only [muV, Value.agg.injEq] at e0
        simp only [Array.mk.injEq, List.cons.injEq, Value.int.injEq, true_and, and_true, Value.slice.injEq] at e0
        omega
      refine loop_cB (fun f' w' => live (f' 4) = true ∧ f' 9 = muV s1 y1 l1 (.slice sa na ca) ∧ f' 10 = muV s2 y2 l2 (.slice sb nb cb) ∧ live (f' 12) = true ∧ live (f' 13) = true ∧ live (f' 15) = true ∧ (∃ r : Bool, f' 26 = .bool r ∧ (r = true ↔ M = N)) ∧ Ext w14 w') ?_ ?_
      · refine LoopP_intro (α := Nat) (fun i f' w' => live (f' 4) = true ∧ f' 9 = muV s1 y1 l1 (.slice sa na ca) ∧ f' 10 = muV s2 y2 l2 (.slice sb nb cb) ∧ live (f' 12) = true ∧ live (f' 13) = true ∧ live (f' 15) = true ∧ f' 17 = .slice a17 R.length c17 ∧ f' 135 = .slice a16 P.length c16 ∧ f' 136 = .int .i64 P.length ∧ f' 137 = .int .i64 i ∧ i ≤ P.length ∧ (∃ r : Bool, f' 26 = .bool r ∧ (r = true ↔ P.length = R.length ∧ ∀ (j : Nat) x, j < i → P[j]? = some x → rFind R x.1 = x.2)) ∧ Ext w14 w') (fun i => P.length - i) 0 ?_ ?_
        · simp only [VS, VD, SV, SL, T, Nat.reduceEqDiff, Nat.reduceAdd, Nat.reduceSub, Nat.reduceMul, Nat.reduceLeDiff, Nat.reduceLT, reduceIte, f4, f9, f10, f12, f13, f15, f17, muV]
          exact ⟨rfl, Nat.zero_le _, ⟨_, rfl, by simp only [decide_eq_true_eq]; exact ⟨fun h => ⟨by omega, fun j x h => by omega⟩, fun h => by omega⟩⟩, Ext.refl _⟩
        clear f4 f9 f10 f12 f13 f15 f16 f17
        rintro i f' w' ⟨f4, f9, f10, f12, f13, f15, f17, f135, f136, f137, hi, ⟨r, f26, hr⟩, hEx⟩
        simp only [VS, VD, SV, SL, T, Nat.reduceEqDiff, Nat.reduceAdd, Nat.reduceSub, Nat.reduceMul, Nat.reduceLeDiff, Nat.reduceLT, reduceIte, f136, f137]
        refine cnd_d (fun hlt => ?_) (fun hlt => ?_)
        · have hi' : i < P.length := by omega
          obtain ⟨b, off, cs, e, fz, rfl, hbk, hle, hext, hc0, hc1⟩ := lnAt_get (hl16.ext hEx) hi'
          have hPi : P[i]? = some P[i] := List.getElem?_eq_getElem hi'
          generalize P[i] = x at *
          simp only [VS, VD, SV, SL, T, Nat.reduceEqDiff, Nat.reduceAdd, Nat.reduceSub, Nat.reduceMul, Nat.reduceLeDiff, Nat.reduceLT, reduceIte, f135, f137, Int.toNat_natCast, hbk, hle, hext]
          refine ⟨by omega, ?_⟩
          replace hEx := hEx.alloc tomb
          generalize w'.alloc tomb = wa at *
          refine DW_intro (fun n _ v w' => v = .int .i64 (rFind R x.1)) ?_
          cases r with
          | true =>
            have hr' := hr.1 rfl
            simp only [VS, VD, SV, SL, T, Nat.reduceEqDiff, Nat.reduceAdd, Nat.reduceSub, Nat.reduceMul, Nat.reduceLeDiff, Nat.reduceLT, reduceIte, f26, f17]
            refine rY_ph rfl rfl (fun _ _ _ h _ => h) (fun w' hE' _ => ?_) ?_
            · simp only [VS, VD, SV, SL, T, Nat.reduceEqDiff, Nat.reduceAdd, Nat.reduceSub, Nat.reduceMul, Nat.reduceLeDiff, Nat.reduceLT, reduceIte]
              refine (rFind_spec R (by omega) _ x.1 _ ((hl17.ext hEx).ext hE')).mono ?_
              rintro _ w15 ⟨rfl, hE15⟩
              exact ⟨hE15, rfl⟩
            rintro v5 ⟨_, _, _, h5⟩
            obtain rfl : v5 = .int .i64 (rFind R x.1) := h5
            simp only [VS, VD, SV, SL, T, Nat.reduceEqDiff, Nat.reduceAdd, Nat.reduceSub, Nat.reduceMul, Nat.reduceLeDiff, Nat.reduceLT, reduceIte]
            intro w15 hE15 _
            simp only [VS, VD, SV, SL, T, Nat.reduceEqDiff, Nat.reduceAdd, Nat.reduceSub, Nat.reduceMul, Nat.reduceLeDiff, Nat.reduceLT, reduceIte, f137]
            refine ⟨by omega, i + 1, ⟨f4, f9, f10, f12, f13, f15, f17, f135, f136, by simp, by omega, ⟨_, rfl, ?_⟩, hEx.trans hE15⟩, by omega⟩
            simp only [decide_eq_true_eq]
            refine ⟨fun h => ⟨hr'.1, fun j z hj hz => ?_⟩, fun h => h.2 i x (by omega) hPi⟩
            by_cases hji : j < i
            · exact hr'.2 j z hji hz
            · obtain rfl : j = i := by omega
              rw [hPi] at hz
              simp only [Option.some.injEq] at hz
              subst hz
              exact h
          | false =>
            simp only [VS, VD, SV, SL, T, Nat.reduceEqDiff, Nat.reduceAdd, Nat.reduceSub, Nat.reduceMul, Nat.reduceLeDiff, Nat.reduceLT, reduceIte, f26]
            intro w15 hE15 _
            simp only [VS, VD, SV, SL, T, Nat.reduceEqDiff, Nat.reduceAdd, Nat.reduceSub, Nat.reduceMul, Nat.reduceLeDiff, Nat.reduceLT, reduceIte, f137]
            refine ⟨by omega, i + 1, ⟨f4, f9, f10, f12, f13, f15, f17, f135, f136, by simp, by omega, ⟨false, rfl, fun h => (by cases h), fun h => ?_⟩, hEx.trans hE15⟩, by omega⟩
            exact hr.2 ⟨h.1, fun j z hj hz => h.2 j z (by omega) hz⟩
        · simp only [VS, VD, SV, SL, T, Nat.reduceEqDiff, Nat.reduceAdd, Nat.reduceSub, Nat.reduceMul, Nat.reduceLeDiff, Nat.reduceLT, reduceIte]
          refine ⟨f4, f9, f10, f12, f13, f15, ⟨r, f26, ?_⟩, hEx⟩
          rw [hr, ← hsame]
          refine and_congr_right fun _ => ⟨fun h x hx => ?_, fun h j x hj hx => h x (List.mem_of_getElem? hx)⟩
          obtain ⟨j, hj, rfl⟩ := List.getElem_of_mem hx
          exact h j _ (by omega) (List.getElem?_eq_getElem hj)
      clear f4 f9 f10 f12 f13 f15 f16 f17
      rintro f2 w15 ⟨f4, f9, f10, f12, f13, f15, ⟨r, f26, hr⟩, hE15⟩
      replace hx := hx.ext hE15
      replace hy := hy.ext hE15
      replace hE := hE.trans hE15
      simp only [VS, VD, SV, SL, T, Nat.reduceEqDiff, Nat.reduceAdd, Nat.reduceSub, Nat.reduceMul, Nat.reduceLeDiff, Nat.reduceLT, reduceIte, f9, muV]
      refine (Join_zero s1 y1 l1 hs1 _ _ _ _).mono ?_
      rintro _ w16 ⟨rfl, hE16⟩
      simp only [VS, VD, SV, SL, T, Nat.reduceEqDiff, Nat.reduceAdd, Nat.reduceSub, Nat.reduceMul, Nat.reduceLeDiff, Nat.reduceLT, reduceIte, f9, f10, muV]
      have hE17 := hE16.alloc tomb
      replace hx := hx.ext hE17
      replace hy := hy.ext hE17
      replace hE := hE.trans hE17
      generalize w16.alloc tomb = w17 at *
      refine (Equal_spec s y l hv M N bA bB _ _ _ hx hy).mono ?_
      rintro _ w18 ⟨⟨r2, rfl, hr2⟩, hE18⟩
      replace hE := hE.trans hE18
      have he : r2 = r := by
        cases r2 <;> cases r <;> simp_all
      subst he
      have hbb : (r2 == r2) = true := by simp
      simp only [VS, VD, SV, SL, T, Nat.reduceEqDiff, Nat.reduceAdd, Nat.reduceSub, Nat.reduceMul, Nat.reduceLeDiff, Nat.reduceLT, reduceIte, f26, hbb, muV]
      refine (Equal_zz _).mono ?_
      rintro _ w19 ⟨rfl, hE19⟩
      simp only [VS, VD, SV, SL, T, Nat.reduceEqDiff, Nat.reduceAdd, Nat.reduceSub, Nat.reduceMul, Nat.reduceLeDiff, Nat.reduceLT, reduceIte, f9, muV]
      refine (Equal_zero s1 y1 l1 hs1 _ _ _ _).mono ?_
      rintro _ w20 ⟨rfl, hE20⟩
      simp only [VS, VD, SV, SL, T, Nat.reduceEqDiff, Nat.reduceAdd, Nat.reduceSub, Nat.reduceMul, Nat.reduceLeDiff, Nat.reduceLT, reduceIte, Bool.not_false]
      exact hΨ _ _ ⟨rfl, (hE.trans hE19).trans hE20⟩
end Go.Proofs.Ytehmbpkcbmnfnaa

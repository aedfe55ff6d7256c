/-
  MayUnknown.
-/
import Derived.Test.YtndkadphpbnpeaaZCN4
set_option linter.unusedSimpArgs false
set_option linter.unusedVariables false
namespace Go.Proofs.Ytndkadphpbnpeaa
open Go.W Go.RowKit
/-- the lines of a state, as Lines hands them back -/
theorem mLines_any (s y l : Int) (hv : Geo s y l = true) (M : Option (Int → Option Int)) (hK : ∀ m, M = some m → ∃ Ks, KeysOf m Ks) (st : Value) (w : World) (h : MayAt w st s y l M) :
    VRet Try.prog 27 #[st] w fun v w' => Ext w w' ∧ ∃ a n c, v = .tuple #[.slice a n c, .bool M.isSome] := by
  cases M with
  | none =>
    refine (mLines_none s y l _ _ h).mono ?_
    rintro _ w1 ⟨rfl, hE1⟩
    exact ⟨hE1, _, _, _, rfl⟩
  | some m =>
    obtain ⟨Ks, hKs⟩ := hK m rfl
    refine (mLines_spec s y l hv m Ks hKs _ _ h).mono ?_
    rintro _ w1 ⟨hE1, u, rfl, ho⟩
    obtain ⟨al, cl, rfl⟩ := own_form ho
    exact ⟨hE1, _, _, _, rfl⟩
theorem stepS_none (s y lo hi : Int) : stepS s y none lo hi = none := by
  unfold stepS accS rngS
  split <;> rfl
theorem joinS_none (M : Option (Int → Option Int)) : joinS M none = none := by cases M <;> rfl
set_option maxHeartbeats 1000000 in
set_option maxRecDepth 100000 in
theorem MayUnknown_spec (s y l : Int) (lv : Value) (L : List Stp) (lo : Int) (w : World) (h : StpsAt w lv L) (hlo : 0 ≤ lo ∧ lo ≤ 65535) :
    VRet Try.prog 8 #[cfgV s y l, lv, .int .u16 lo] w fun v w' => v = .bool true ∧ Ext w w' := by
  obtain ⟨la, lc, rfl⟩ := h.form
  refine VRet_start T.mo ok8 rfl fun Ψ hΨ => ?_; simp only [vc8, rs8]
  simp only [VS, VD, SV, SL, T, Nat.reduceEqDiff, Nat.reduceAdd, Nat.reduceSub, Nat.reduceMul, Nat.reduceLeDiff, Nat.reduceLT, reduceIte, cfgV]
  refine (awake_spec _).mono ?_
  rintro _ w1 ⟨rfl, hE⟩
  replace hE := ((Ext.refl w).alloc tomb).trans hE
  simp only [VS, VD, SV, SL, T, Nat.reduceEqDiff, Nat.reduceAdd, Nat.reduceSub, Nat.reduceMul, Nat.reduceLeDiff, Nat.reduceLT, reduceIte]
  refine (small_spec s y l _ L _ (h.ext hE)).mono ?_
  rintro _ w2 ⟨⟨r, rfl, hr⟩, hE2⟩
  replace hE := hE.trans hE2
  cases r with
  | false =>
    simp only [VS, VD, SV, SL, T, Nat.reduceEqDiff, Nat.reduceAdd, Nat.reduceSub, Nat.reduceMul, Nat.reduceLeDiff, Nat.reduceLT, reduceIte]
    refine (awake_spec _).mono ?_
    rintro _ w3 ⟨rfl, hE3⟩
    simp only [VS, VD, SV, SL, T, Nat.reduceEqDiff, Nat.reduceAdd, Nat.reduceSub, Nat.reduceMul, Nat.reduceLeDiff, Nat.reduceLT, reduceIte]
    exact hΨ _ _ ⟨rfl, hE.trans hE3⟩
  | true =>
    have hsm := hr.1 rfl
    have hv := hsm.1
    have hp := Geo_spec hv
    simp only [VS, VD, SV, SL, T, Nat.reduceEqDiff, Nat.reduceAdd, Nat.reduceSub, Nat.reduceMul, Nat.reduceLeDiff, Nat.reduceLT, reduceIte]
    refine (Unknown_spec s y l hv _).mono ?_
    rintro _ w3 ⟨rfl, hE3⟩
    replace hE := hE.trans hE3
    simp only [VS, VD, SV, SL, T, Nat.reduceEqDiff, Nat.reduceAdd, Nat.reduceSub, Nat.reduceMul, Nat.reduceLeDiff, Nat.reduceLT, reduceIte, stV]
    replace hE := hE.alloc tomb
    generalize w3.alloc tomb = w4 at *
    refine (after_spec s y l _ L hsm _ (h.ext hE)).mono ?_
    rintro _ w5 ⟨⟨x, xr, rfl, hx, hxr⟩, hE5⟩
    replace hE := (hE.trans hE5)
    obtain ⟨u1, a1, n1, c1, rfl⟩ := hx.form
    obtain ⟨a2, c2, rfl⟩ := hxr.form
    simp only [VS, VD, SV, SL, T, Nat.reduceEqDiff, Nat.reduceAdd, Nat.reduceSub, Nat.reduceMul, Nat.reduceLeDiff, Nat.reduceLT, reduceIte, stV]
    have hE6 := ((Ext.refl w5).alloc tomb).alloc tomb
    replace hE := hE.trans hE6
    replace hx := hx.ext hE6
    clear hxr
    generalize (w5.alloc tomb).alloc tomb = w6 at *
    obtain ⟨hsame, hbd, hlim, hlen⟩ := run_all hsm
    generalize runS s y L = M at *
    generalize (runR s y L).1 = u2 at *
    generalize (runR s y L).2 = L2 at *
    refine ⟨by omega, by omega, by omega, ?_⟩
    refine (AccessRange_spec s y l hv M hbd _ lo (lo + 64) (by omega) (by omega) w6 hx).mono ?_
    rintro v1 w7 ⟨hw1, hE7⟩
    have e1 : rngS s y M lo (lo + 64) = none := by
      cases M with
      | none => rfl
      | some m =>
        simp only [rngS, Option.bind_some]
        rw [if_neg (by omega), if_neg (by omega), if_pos (by omega)]
    rw [e1] at hw1
    obtain rfl : v1 = stV s y l true (.slice none 0 0) := hw1
    replace hE := (hE.trans hE7).alloc tomb
    replace hx := (hx.ext hE7).ext ((Ext.refl _).alloc tomb)
    simp only [VS, VD, SV, SL, T, Nat.reduceEqDiff, Nat.reduceAdd, Nat.reduceSub, Nat.reduceMul, Nat.reduceLeDiff, Nat.reduceLT, reduceIte, stV]
    generalize w7.alloc tomb = w8 at *
    refine ⟨by omega, by omega, by omega, by omega, ?_⟩
    refine (AccessRange_spec s y l hv M hbd _ lo (lo + 64 - 1) (by omega) (by omega) w8 hx).mono ?_
    rintro v2 w9 ⟨hw2, hE9⟩
    replace hE := (hE.trans hE9).alloc tomb
    replace hx := (hx.ext hE9).ext ((Ext.refl _).alloc tomb)
    replace hw2 := hw2.ext ((Ext.refl _).alloc tomb)
    obtain ⟨u3, a3, n3, c3, rfl⟩ := hw2.form
    simp only [VS, VD, SV, SL, T, Nat.reduceEqDiff, Nat.reduceAdd, Nat.reduceSub, Nat.reduceMul, Nat.reduceLeDiff, Nat.reduceLT, reduceIte, stV]
    generalize w9.alloc tomb = w10 at *
    have hsome : (rngS s y M lo (lo + 64 - 1)).isSome = M.isSome := by
      cases M with
      | none => rfl
      | some m =>
        simp only [rngS, Option.bind_some]
        rw [if_neg (by omega), if_neg (by omega), if_neg (by omega)]
        rfl
    have hK2 : ∀ m, rngS s y M lo (lo + 64 - 1) = some m → ∃ Ks, KeysOf m Ks := by
      intro m hm
      cases M with
      | none => cases hm
      | some m0 =>
        simp only [rngS, Option.bind_some] at hm
        rw [if_neg (by omega), if_neg (by omega), if_neg (by omega)] at hm
        simp only [Option.some.injEq] at hm
        obtain ⟨_, hA⟩ : u2 = false ∧ AbsL L2 m0 := hsame
        have hb2 := (hbd m0 rfl).range (lo := max lo 0) (n := (64 : Nat)) hp.2.2.1 (by omega)
        have hA2 := hA.puts (max lo 0) 64
        have := rPuts_len L2 (max lo 0) 64
        have e : lo + 64 - 1 - max lo 0 + 1 = ((64 : Nat) : Int) := by omega
        rw [e] at hm
        subst hm
        exact ⟨_, hA2.keys hb2 (by omega)⟩
    have hK1 : ∀ m, M = some m → ∃ Ks, KeysOf m Ks := by
      rintro m rfl
      obtain ⟨_, hA⟩ : u2 = false ∧ AbsL L2 m := hsame
      exact ⟨_, hA.keys (hbd m rfl) (by omega)⟩
    refine (mLines_any s y l hv _ hK2 _ w10 hw2).mono ?_
    rintro _ w11 ⟨hE11, a4, n4, c4, rfl⟩
    rw [hsome]
    replace hx := hx.ext hE11
    simp only [VS, VD, SV, SL, T, Nat.reduceEqDiff, Nat.reduceAdd, Nat.reduceSub, Nat.reduceMul, Nat.reduceLeDiff, Nat.reduceLT, reduceIte, stV]
    refine (mLines_any s y l hv M hK1 _ w11 hx).mono ?_
    rintro _ w12 ⟨hE12, a5, n5, c5, rfl⟩
    replace hx := hx.ext hE12
    replace hE := (hE.trans hE11).trans hE12
    generalize hMs : M.isSome = ms
    have hun : ∀ w', MayAt w' (.agg #[.int .i64 s, .int .i64 y, .int .i64 l, .bool true, .slice none 0 0]) s y l none := fun w' => rfl
    simp only [VS, VD, SV, SL, T, Nat.reduceEqDiff, Nat.reduceAdd, Nat.reduceSub, Nat.reduceMul, Nat.reduceLeDiff, Nat.reduceLT, reduceIte, stV]
    refine DW_intro (fun n _ v w' => match n with | 16 => v = stV s y l true (.slice none 0 0) | 24 => v = stV s y l true (.slice none 0 0) | _ => v = .bool true) ?_
    simp only [VS, VD, SV, SL, T, Nat.reduceEqDiff, Nat.reduceAdd, Nat.reduceSub, Nat.reduceMul, Nat.reduceLeDiff, Nat.reduceLT, reduceIte, stV, ne_eq, not_true_eq_false, decide_false]
    refine rY_ph rfl rfl (fun _ _ _ h _ => h) (fun w' hE' _ => ?_) ?_
    · simp only [VS, VD, SV, SL, T, Nat.reduceEqDiff, Nat.reduceAdd, Nat.reduceSub, Nat.reduceMul, Nat.reduceLeDiff, Nat.reduceLT, reduceIte]
      refine (Equal_spec s y l hv none _ _ w' (hun _) (hun _)).mono ?_
      rintro _ w13 ⟨rfl, hE13⟩
      exact ⟨hE13, rfl⟩
    rintro v5 ⟨_, _, _, h5⟩
    obtain rfl : v5 = .bool true := h5
    simp only [VS, VD, SV, SL, T, Nat.reduceEqDiff, Nat.reduceAdd, Nat.reduceSub, Nat.reduceMul, Nat.reduceLeDiff, Nat.reduceLT, reduceIte, Bool.not_true, beq_self_eq_true, stV]
    refine rY_ph rfl rfl (fun _ _ _ h _ => h) (fun w' hE' _ => ?_) ?_
    · simp only [VS, VD, SV, SL, T, Nat.reduceEqDiff, Nat.reduceAdd, Nat.reduceSub, Nat.reduceMul, Nat.reduceLeDiff, Nat.reduceLT, reduceIte]
      refine (Join_spec s y l hv M none (fun m h => by cases h) _ _ w' (hx.ext hE') (hun _)).mono ?_
      rintro v w13 ⟨hj, hE13⟩
      rw [joinS_none] at hj
      exact ⟨hE13, hj⟩
    rintro v16 ⟨_, _, _, h16⟩
    obtain rfl : v16 = stV s y l true (.slice none 0 0) := h16
    simp only [VS, VD, SV, SL, T, Nat.reduceEqDiff, Nat.reduceAdd, Nat.reduceSub, Nat.reduceMul, Nat.reduceLeDiff, Nat.reduceLT, reduceIte, stV]
    refine rY_ph rfl rfl (fun _ _ _ h _ => h) (fun w' hE' _ => ?_) ?_
    · simp only [VS, VD, SV, SL, T, Nat.reduceEqDiff, Nat.reduceAdd, Nat.reduceSub, Nat.reduceMul, Nat.reduceLeDiff, Nat.reduceLT, reduceIte]
      refine (Equal_spec s y l hv none _ _ w' (hun _) (hun _)).mono ?_
      rintro _ w13 ⟨rfl, hE13⟩
      exact ⟨hE13, rfl⟩
    rintro v18 ⟨_, _, _, h18⟩
    obtain rfl : v18 = .bool true := h18
    simp only [VS, VD, SV, SL, T, Nat.reduceEqDiff, Nat.reduceAdd, Nat.reduceSub, Nat.reduceMul, Nat.reduceLeDiff, Nat.reduceLT, reduceIte, Bool.not_true, stV]
    refine rY_ph rfl rfl (fun _ _ _ h _ => h) (fun w' hE' _ => ?_) ?_
    · simp only [VS, VD, SV, SL, T, Nat.reduceEqDiff, Nat.reduceAdd, Nat.reduceSub, Nat.reduceMul, Nat.reduceLeDiff, Nat.reduceLT, reduceIte]
      refine (Join_spec s y l hv none M hbd _ _ w' (hun _) (hx.ext hE')).mono ?_
      rintro v w13 ⟨hj, hE13⟩
      exact ⟨hE13, hj⟩
    rintro v24 ⟨_, _, _, h24⟩
    obtain rfl : v24 = stV s y l true (.slice none 0 0) := h24
    simp only [VS, VD, SV, SL, T, Nat.reduceEqDiff, Nat.reduceAdd, Nat.reduceSub, Nat.reduceMul, Nat.reduceLeDiff, Nat.reduceLT, reduceIte, stV]
    intro w13 hE13 _
    simp only [VS, VD, SV, SL, T, Nat.reduceEqDiff, Nat.reduceAdd, Nat.reduceSub, Nat.reduceMul, Nat.reduceLeDiff, Nat.reduceLT, reduceIte]
    refine (Equal_spec s y l hv none _ _ w13 (hun _) (hun _)).mono ?_
    rintro _ w14 ⟨rfl, hE14⟩
    simp only [VS, VD, SV, SL, T, Nat.reduceEqDiff, Nat.reduceAdd, Nat.reduceSub, Nat.reduceMul, Nat.reduceLeDiff, Nat.reduceLT, reduceIte, Bool.not_true]
    have hE' := (hE.trans hE13).trans hE14
    refine LoopP_intro (α := Nat) (fun i f' w' => f' 2 = .int .u16 lo ∧ f' 7 = .agg #[.int .i64 s, .int .i64 y, .int .i64 l, .bool true, .slice none 0 0] ∧ f' 97 = .slice la L.length lc ∧ f' 98 = .int .i64 L.length ∧ f' 99 = .int .i64 i ∧ i ≤ L.length ∧ Ext w w') (fun i => L.length - i) 0 ?_ ?_
    · simp only [VS, VD, SV, SL, T, Nat.reduceEqDiff, Nat.reduceAdd, Nat.reduceSub, Nat.reduceMul, Nat.reduceLeDiff, Nat.reduceLT, reduceIte, stV]
      exact ⟨rfl, Nat.zero_le _, hE'⟩
    · rintro i f' wo ⟨f2, f7, f97, f98, f99, hi, hEx⟩
      simp only [VS, VD, SV, SL, T, Nat.reduceEqDiff, Nat.reduceAdd, Nat.reduceSub, Nat.reduceMul, Nat.reduceLeDiff, Nat.reduceLT, reduceIte, f99, f98]
      refine cnd_d (fun hlt => ?_) (fun hlt => ?_)
      · have hi' : i < L.length := by omega
        obtain ⟨b, off, cs, e, fz, rfl, hb, hle2, hext⟩ := (h.ext hEx).get hi'
        have hnr := hsm.2.2.2 _ (List.getElem_mem hi')
        unfold near at hnr
        have hl40 := hsm.2.2.1
        generalize L[i] = q at *
        simp only [VS, VD, SV, SL, T, Nat.reduceEqDiff, Nat.reduceAdd, Nat.reduceSub, Nat.reduceMul, Nat.reduceLeDiff, Nat.reduceLT, reduceIte, f97, f99, Int.toNat_natCast, hb, hle2, hext, f7, stV]
        refine ⟨by omega, ?_⟩
        refine (step_spec s y l hv none (fun m h => by cases h) _ q.lo q.hi q.pick (by omega) (by omega) _ (hun _)).mono ?_
        rintro v1 w15 ⟨hm1, hE15⟩
        rw [stepS_none] at hm1
        obtain rfl : v1 = stV s y l true (.slice none 0 0) := hm1
        simp only [VS, VD, SV, SL, T, Nat.reduceEqDiff, Nat.reduceAdd, Nat.reduceSub, Nat.reduceMul, Nat.reduceLeDiff, Nat.reduceLT, reduceIte, f7, f99, stV]
        exact ⟨by omega, i + 1, ⟨f2, f97, f98, by simp, by omega, (hEx.alloc tomb).trans hE15⟩, by omega⟩
      · simp only [VS, VD, SV, SL, T, Nat.reduceEqDiff, Nat.reduceAdd, Nat.reduceSub, Nat.reduceMul, Nat.reduceLeDiff, Nat.reduceLT, reduceIte, f7]
        refine (mLines_none s y l _ _ (hun _)).mono ?_
        rintro _ w15 ⟨rfl, hE15⟩
        simp only [VS, VD, SV, SL, T, Nat.reduceEqDiff, Nat.reduceAdd, Nat.reduceSub, Nat.reduceMul, Nat.reduceLeDiff, Nat.reduceLT, reduceIte, f7, f2]
        refine ⟨by omega, ?_⟩
        refine (Age_spec s y l hv none _ lo w15 (hun _)).mono ?_
        rintro _ w16 ⟨rfl, hE16⟩
        have e0 : decide (((0 : Nat) : Int) = 0) = true := rfl
        have e2 : ageM none lo = (0, true) := by simp only [ageM]; rw [if_neg (by omega)]
        simp only [VS, VD, SV, SL, T, Nat.reduceEqDiff, Nat.reduceAdd, Nat.reduceSub, Nat.reduceMul, Nat.reduceLeDiff, Nat.reduceLT, reduceIte, e0, e2, Bool.not_false, decide_true]
        exact hΨ _ _ ⟨rfl, (hEx.trans hE15).trans hE16⟩
end Go.Proofs.Ytndkadphpbnpeaa

/-
  The statements of may: MayMonotone.
-/
import Derived.Test.YtndkadphpbnpeaaCL1
import Derived.Test.YtndkadphpbnpeaaCP2
set_option linter.unusedSimpArgs false
set_option linter.unusedVariables false
namespace Go.Proofs.Ytndkadphpbnpeaa
open Go.W
set_option maxHeartbeats 1000000 in
set_option maxRecDepth 10000 in
theorem MayMonotone_spec (s y l : Int) (av : Value) (A : List Stp) (bv : Value) (B : List Stp) (lv : Value) (L : List Stp) (w : World) (ha : StpsAt w av A) (hb : StpsAt w bv B) (h : StpsAt w lv L) :
    VRet Try.prog 4 #[cfgV s y l, av, bv, lv] w fun v w' => v = .bool true ∧ Ext w w' := by
  obtain ⟨aa, ac, rfl⟩ := ha.form
  obtain ⟨ba, bc, rfl⟩ := hb.form
  obtain ⟨la, lc, rfl⟩ := h.form
  refine VRet_start T.mo ok4 rfl fun Ψ hΨ => ?_; simp only [vc4, rs4]
  simp only [VS, VD, SV, SL, T, Nat.reduceEqDiff, Nat.reduceAdd, Nat.reduceSub, Nat.reduceMul, Nat.reduceLeDiff, Nat.reduceLT, reduceIte, cfgV]
  refine (awake_spec _).mono ?_
  rintro _ w1 ⟨rfl, hE⟩
  replace hE := ((Ext.refl w).alloc tomb).trans hE
  simp only [VS, VD, SV, SL, T, Nat.reduceEqDiff, Nat.reduceAdd, Nat.reduceSub, Nat.reduceMul, Nat.reduceLeDiff, Nat.reduceLT, reduceIte]
  refine (small_spec s y l _ A _ (ha.ext hE)).mono ?_
  rintro _ w2 ⟨⟨r, rfl, hr⟩, hE2⟩
  replace hE := hE.trans hE2
  cases r with
  | false =>
    simp only [VS, VD, SV, SL, T, Nat.reduceEqDiff, Nat.reduceAdd, Nat.reduceSub, Nat.reduceMul, Nat.reduceLeDiff, Nat.reduceLT, reduceIte]
    refine (awake_spec _).mono ?_
    rintro _ w3 ⟨rfl, hE3⟩
    simp only [VS, VD, SV, SL, T, Nat.reduceEqDiff, Nat.reduceAdd, Nat.reduceSub, Nat.reduceMul, Nat.reduceLeDiff, Nat.reduceLT, reduceIte]
    exact hΨ _ _ ⟨rfl, hE.trans hE3⟩
  | true =>
    have hsa := hr.1 rfl
    simp only [VS, VD, SV, SL, T, Nat.reduceEqDiff, Nat.reduceAdd, Nat.reduceSub, Nat.reduceMul, Nat.reduceLeDiff, Nat.reduceLT, reduceIte]
    refine (small_spec s y l _ B _ (hb.ext hE)).mono ?_
    rintro _ w3 ⟨⟨r, rfl, hr⟩, hE3⟩
    replace hE := hE.trans hE3
    cases r with
    | false =>
      simp only [VS, VD, SV, SL, T, Nat.reduceEqDiff, Nat.reduceAdd, Nat.reduceSub, Nat.reduceMul, Nat.reduceLeDiff, Nat.reduceLT, reduceIte]
      refine (awake_spec _).mono ?_
      rintro _ w3 ⟨rfl, hE3⟩
      simp only [VS, VD, SV, SL, T, Nat.reduceEqDiff, Nat.reduceAdd, Nat.reduceSub, Nat.reduceMul, Nat.reduceLeDiff, Nat.reduceLT, reduceIte]
      exact hΨ _ _ ⟨rfl, hE.trans hE3⟩
    | true =>
      have hsb := hr.1 rfl
      simp only [VS, VD, SV, SL, T, Nat.reduceEqDiff, Nat.reduceAdd, Nat.reduceSub, Nat.reduceMul, Nat.reduceLeDiff, Nat.reduceLT, reduceIte]
      refine (small_spec s y l _ L _ (h.ext hE)).mono ?_
      rintro _ w4 ⟨⟨r, rfl, hr⟩, hE4⟩
      replace hE := hE.trans hE4
      cases r with
      | false =>
        simp only [VS, VD, SV, SL, T, Nat.reduceEqDiff, Nat.reduceAdd, Nat.reduceSub, Nat.reduceMul, Nat.reduceLeDiff, Nat.reduceLT, reduceIte]
        refine (awake_spec _).mono ?_
        rintro _ w3 ⟨rfl, hE3⟩
        simp only [VS, VD, SV, SL, T, Nat.reduceEqDiff, Nat.reduceAdd, Nat.reduceSub, Nat.reduceMul, Nat.reduceLeDiff, Nat.reduceLT, reduceIte]
        exact hΨ _ _ ⟨rfl, hE.trans hE3⟩
      | true =>
        have hsl := hr.1 rfl
        have hv := hsa.1
        have hp := Geo_spec hv
        simp only [VS, VD, SV, SL, T, Nat.reduceEqDiff, Nat.reduceAdd, Nat.reduceSub, Nat.reduceMul, Nat.reduceLeDiff, Nat.reduceLT, reduceIte]
        refine (after_spec s y l _ A hsa _ (ha.ext hE)).mono ?_
        rintro _ w5 ⟨⟨x, xr, rfl, hx, hxr⟩, hE5⟩
        replace hE := (hE.trans hE5)
        obtain ⟨u1, a1, n1, c1, rfl⟩ := hx.form
        obtain ⟨a2, c2, rfl⟩ := hxr.form
        simp only [VS, VD, SV, SL, T, Nat.reduceEqDiff, Nat.reduceAdd, Nat.reduceSub, Nat.reduceMul, Nat.reduceLeDiff, Nat.reduceLT, reduceIte, stV]
        replace hE := (hE.alloc tomb).alloc tomb
        replace hx := hx.ext (((Ext.refl _).alloc tomb).alloc tomb)
        clear hxr
        generalize (w5.alloc tomb).alloc tomb = w5' at *
        refine (after_spec s y l _ B hsb _ (hb.ext hE)).mono ?_
        rintro _ w6 ⟨⟨x, xr, rfl, hy, hyr⟩, hE6⟩
        replace hE := (hE.trans hE6)
        replace hx := hx.ext hE6
        obtain ⟨u3, a3, n3, c3, rfl⟩ := hy.form
        obtain ⟨a4, c4, rfl⟩ := hyr.form
        simp only [VS, VD, SV, SL, T, Nat.reduceEqDiff, Nat.reduceAdd, Nat.reduceSub, Nat.reduceMul, Nat.reduceLeDiff, Nat.reduceLT, reduceIte, stV]
        replace hE := (hE.alloc tomb).alloc tomb
        replace hx := hx.ext (((Ext.refl _).alloc tomb).alloc tomb)
        replace hy := hy.ext (((Ext.refl _).alloc tomb).alloc tomb)
        clear hyr
        generalize (w6.alloc tomb).alloc tomb = w6' at *
        have hbX := runS_bd (s := s) hp.2.2.1 A
        have hbY := runS_bd (s := s) hp.2.2.1 B
        have hle := LeS_join (runS s y A) (runS s y B)
        have hbZ := BdS_join hbX hbY
        refine (Join_spec s y l hv _ _ hbY _ _ _ hx hy).mono ?_
        rintro _ w7 ⟨hz, hE7⟩
        replace hE := hE.trans hE7
        replace hx := hx.ext hE7
        obtain ⟨u5, a5, n5, c5, rfl⟩ := hz.form
        simp only [VS, VD, SV, SL, T, Nat.reduceEqDiff, Nat.reduceAdd, Nat.reduceSub, Nat.reduceMul, Nat.reduceLeDiff, Nat.reduceLT, reduceIte, stV]
        replace hE := hE.alloc tomb
        replace hx := hx.ext ((Ext.refl _).alloc tomb)
        replace hz := hz.ext ((Ext.refl _).alloc tomb)
        generalize w7.alloc tomb = w7' at *
        generalize runS s y A = X at *
        generalize joinS X (runS s y B) = Z at *
        refine LoopP_intro (α := Nat × Option (Int → Option Int) × Option (Int → Option Int)) (fun i f' w' => MayAt w' (f' 9) s y l i.2.1 ∧ MayAt w' (f' 13) s y l i.2.2 ∧ LeS i.2.1 i.2.2 ∧ BdS y i.2.1 ∧ BdS y i.2.2 ∧
          f' 52 = .slice la L.length lc ∧ f' 53 = .int .i64 L.length ∧ f' 54 = .int .i64 i.1 ∧ i.1 ≤ L.length ∧ Ext w w') (fun i => L.length - i.1) (0, X, Z) ?_ ?_
        · simp only [VS, VD, SV, SL, T, Nat.reduceEqDiff, Nat.reduceAdd, Nat.reduceSub, Nat.reduceMul, Nat.reduceLeDiff, Nat.reduceLT, reduceIte]
          exact ⟨hx, hz, hle, hbX, hbZ, rfl, by omega, hE⟩
        · clear hx hz hle hbX hbZ hE
          rintro ⟨i, X, Z⟩ f' w' ⟨hx, hz, hle, hbX, hbZ, f52, f53, f54, hile, hE⟩
          simp only [] at hx hz hle hbX hbZ f54 hile
          simp only [VS, VD, SV, SL, T, Nat.reduceEqDiff, Nat.reduceAdd, Nat.reduceSub, Nat.reduceMul, Nat.reduceLeDiff, Nat.reduceLT, reduceIte, f53, f54]
          refine cnd_d (fun hlt => ?_) (fun hlt => ?_)
          · have hi : i < L.length := by omega
            obtain ⟨b, off, cs, e, fz, rfl, hb, hle2, hext⟩ := (h.ext hE).get hi
            have hnr := hsl.2.2.2 _ (List.getElem_mem hi)
            have hl40 := hsl.2.2.1
            unfold near at hnr
            generalize L[i] = q at *
            obtain ⟨u9, a9, n9, c9, f9⟩ := hx.form
            obtain ⟨u13, a13, n13, c13, f13⟩ := hz.form
            rw [f9] at hx
            rw [f13] at hz
            simp only [VS, VD, SV, SL, T, Nat.reduceEqDiff, Nat.reduceAdd, Nat.reduceSub, Nat.reduceMul, Nat.reduceLeDiff, Nat.reduceLT, reduceIte, f52, f54, Int.toNat_natCast, hb, hle2, hext]
            refine ⟨by omega, ?_⟩
            replace hE := hE.alloc tomb
            replace hx := hx.ext ((Ext.refl _).alloc tomb)
            replace hz := hz.ext ((Ext.refl _).alloc tomb)
            generalize w'.alloc tomb = wA at *
            refine DW_c (fun f w5 => MayAt w5 (f 9) s y l (stepS s y X q.lo q.hi) ∧ MayAt w5 (f 13) s y l (stepS s y Z q.lo q.hi) ∧ f 52 = .slice (some ⟨b, off, none⟩) L.length lc ∧ f 53 = .int .i64 L.length ∧ f 54 = .int .i64 i ∧ Ext w w5) ?_ ?_
            · refine DW_intro (fun n _ v w => MayAt w v s y l (stepS s y (if n = 2 then X else Z) q.lo q.hi)) ?_
              simp only [VS, VD, SV, SL, T, Nat.reduceEqDiff, Nat.reduceAdd, Nat.reduceSub, Nat.reduceMul, Nat.reduceLeDiff, Nat.reduceLT, reduceIte, f9, stV]
              refine rY_ph rfl rfl (fun _ _ _ h1 h2 => h1.ext h2) (fun w8 hE8 _ => ?_) ?_
              · simp only [VS, VD, SV, SL, T, Nat.reduceEqDiff, Nat.reduceAdd, Nat.reduceSub, Nat.reduceMul, Nat.reduceLeDiff, Nat.reduceLT, reduceIte]
                refine (step_spec s y l hv X hbX _ q.lo q.hi q.pick (by omega) (by omega) _ (hx.ext hE8)).mono ?_
                rintro v w9 ⟨hm, hE9⟩
                exact ⟨hE9, hm⟩
              rintro v1 ⟨_, _, _, hm1⟩
              obtain ⟨u1, a1, n1, c1, rfl⟩ := MayAt.form hm1
              simp only [VS, VD, SV, SL, T, Nat.reduceEqDiff, Nat.reduceAdd, Nat.reduceSub, Nat.reduceMul, Nat.reduceLeDiff, Nat.reduceLT, reduceIte, f13, stV]
              intro w8 hE8 hF
              have k1 : MayAt w8 _ s y l (stepS s y X q.lo q.hi) := FA_head hF
              simp only [VS, VD, SV, SL, T, Nat.reduceEqDiff, Nat.reduceAdd, Nat.reduceSub, Nat.reduceMul, Nat.reduceLeDiff, Nat.reduceLT, reduceIte]
              refine (step_spec s y l hv Z hbZ _ q.lo q.hi q.pick (by omega) (by omega) _ (hz.ext hE8)).mono ?_
              rintro v2 w9 ⟨hm2, hE9⟩
              obtain ⟨u2, a2, n2, c2, rfl⟩ := hm2.form
              simp only [VS, VD, SV, SL, T, Nat.reduceEqDiff, Nat.reduceAdd, Nat.reduceSub, Nat.reduceMul, Nat.reduceLeDiff, Nat.reduceLT, reduceIte, f9, f13, stV, f52, f53, f54]
              exact ⟨k1.ext hE9, hm2, (hE.trans hE8).trans hE9⟩
            · clear hx hz
              rintro f w5 ⟨hx, hz, f52, f53, f54, hE5⟩
              have hle' := hle.step (s := s) (lo := q.lo) (hi := q.hi) hbX hbZ
              have hbX' := hbX.step (s := s) (lo := q.lo) (hi := q.hi) hp.2.2.1
              have hbZ' := hbZ.step (s := s) (lo := q.lo) (hi := q.hi) hp.2.2.1
              clear hle hbX hbZ hE
              generalize stepS s y X q.lo q.hi = X' at *
              generalize stepS s y Z q.lo q.hi = Z' at *
              obtain ⟨u9, a9, n9, c9, f9⟩ := hx.form
              obtain ⟨u13, a13, n13, c13, f13⟩ := hz.form
              rw [f9] at hx
              rw [f13] at hz
              simp only [VS, VD, SV, SL, T, Nat.reduceEqDiff, Nat.reduceAdd, Nat.reduceSub, Nat.reduceMul, Nat.reduceLeDiff, Nat.reduceLT, reduceIte]
              refine DW_intro (fun n _ v w => MayAt w v s y l Z') ?_
              simp only [VS, VD, SV, SL, T, Nat.reduceEqDiff, Nat.reduceAdd, Nat.reduceSub, Nat.reduceMul, Nat.reduceLeDiff, Nat.reduceLT, reduceIte, f9, f13, stV]
              refine rY_ph rfl rfl (fun _ _ _ h1 h2 => h1.ext h2) (fun w8 hE8 _ => ?_) ?_
              · simp only [VS, VD, SV, SL, T, Nat.reduceEqDiff, Nat.reduceAdd, Nat.reduceSub, Nat.reduceMul, Nat.reduceLeDiff, Nat.reduceLT, reduceIte]
                refine (Join_spec s y l hv X' Z' hbZ' _ _ _ (hx.ext hE8) (hz.ext hE8)).mono ?_
                rintro v w9 ⟨hm, hE9⟩
                rw [show joinS X' Z' = Z' from hle'] at hm
                exact ⟨hE9, hm⟩
              rintro v1 _
              simp only [VS, VD, SV, SL, T, Nat.reduceEqDiff, Nat.reduceAdd, Nat.reduceSub, Nat.reduceMul, Nat.reduceLeDiff, Nat.reduceLT, reduceIte, f13, stV]
              intro w8 hE8 hF
              have k1 := FA_head hF
              simp only [VS, VD, SV, SL, T, Nat.reduceEqDiff, Nat.reduceAdd, Nat.reduceSub, Nat.reduceMul, Nat.reduceLeDiff, Nat.reduceLT, reduceIte]
              refine (Equal_spec s y l hv Z' _ _ _ k1 (hz.ext hE8)).mono ?_
              rintro _ w9 ⟨rfl, hE9⟩
              replace hE9 := hE8.trans hE9
              simp only [VS, VD, SV, SL, T, Nat.reduceEqDiff, Nat.reduceAdd, Nat.reduceSub, Nat.reduceMul, Nat.reduceLeDiff, Nat.reduceLT, reduceIte, f54]
              exact ⟨by omega, (i + 1, X', Z'), ⟨by rw [f9]; exact hx.ext hE9, by rw [f13]; exact hz.ext hE9, hle', hbX', hbZ', f52, f53, by simp, by simp only []; omega, hE5.trans hE9⟩, by simp only []; omega⟩
          · simp only [VS, VD, SV, SL, T, Nat.reduceEqDiff, Nat.reduceAdd, Nat.reduceSub, Nat.reduceMul, Nat.reduceLeDiff, Nat.reduceLT, reduceIte]
            exact hΨ _ _ ⟨rfl, hE⟩
end Go.Proofs.Ytndkadphpbnpeaa

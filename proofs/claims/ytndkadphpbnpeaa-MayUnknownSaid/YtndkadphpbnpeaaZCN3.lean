/-
  MayValues.
-/
import Derived.Test.YtndkadphpbnpeaaZCN2
import Derived.Test.YtndkadphpbnpeaaZCP2
set_option linter.unusedSimpArgs false
set_option linter.unusedVariables false
namespace Go.Proofs.Ytndkadphpbnpeaa
open Go.W Go.RowKit
theorem run_all {s y l : Int} {L : List Stp} (h : smP s y l L) : Same (runS s y L) ((runR s y L).1, (runR s y L).2) ∧ BdS y (runS s y L) ∧ Lim (runS s y L) ∧ (runR s y L).2.length ≤ 2560 := by
  have hp := Geo_spec h.1
  refine ⟨run_same hp.2.2.1 L, runS_bd hp.2.2.1 L, runS_lim L _ h.2.2.2 Lim_empty, ?_⟩
  have := runR_len s y L
  have := h.2.2.1
  omega
set_option maxHeartbeats 1000000 in
set_option maxRecDepth 100000 in
theorem MayValues_spec (s y l : Int) (lv : Value) (L : List Stp) (mv : Value) (Q : List Stp) (w : World) (h : StpsAt w lv L) (hq : StpsAt w mv Q) :
    VRet Try.prog 6 #[cfgV s y l, lv, mv] w fun v w' => v = .bool true ∧ Ext w w' := by
  obtain ⟨la, lc, rfl⟩ := h.form
  obtain ⟨qa, qc, rfl⟩ := hq.form
  refine VRet_start T.mo ok6 rfl fun Ψ hΨ => ?_; simp only [vc6, rs6]
  simp only [VS, VD, SV, SL, T, Nat.reduceEqDiff, Nat.reduceAdd, Nat.reduceSub, Nat.reduceMul, Nat.reduceLeDiff, Nat.reduceLT, reduceIte, cfgV]
  refine (awake_spec _).mono ?_
  rintro _ w1 ⟨rfl, hE⟩
  replace hE := ((Ext.refl w).alloc tomb).trans hE
  simp only [VS, VD, SV, SL, T, Nat.reduceEqDiff, Nat.reduceAdd, Nat.reduceSub, Nat.reduceMul, Nat.reduceLeDiff, Nat.reduceLT, reduceIte]
  refine (small_spec s y l _ L _ (h.ext hE)).mono ?_
  rintro _ w2 ⟨⟨r, rfl, hr⟩, hE2⟩
  replace hE := hE.trans hE2
  cases r with
  | false =>
    simp only [VS, VD, SV, SL, T, Nat.reduceEqDiff, Nat.reduceAdd, Nat.reduceSub, Nat.reduceMul, Nat.reduceLeDiff, Nat.reduceLT, reduceIte]
    refine (awake_spec _).mono ?_
    rintro _ w3 ⟨rfl, hE3⟩
    simp only [VS, VD, SV, SL, T, Nat.reduceEqDiff, Nat.reduceAdd, Nat.reduceSub, Nat.reduceMul, Nat.reduceLeDiff, Nat.reduceLT, reduceIte]
    exact hΨ _ _ ⟨rfl, hE.trans hE3⟩
  | true =>
    have hsm := hr.1 rfl
    simp only [VS, VD, SV, SL, T, Nat.reduceEqDiff, Nat.reduceAdd, Nat.reduceSub, Nat.reduceMul, Nat.reduceLeDiff, Nat.reduceLT, reduceIte]
    refine (small_spec s y l _ Q _ (hq.ext hE)).mono ?_
    rintro _ w3 ⟨⟨r, rfl, hr⟩, hE3⟩
    replace hE := hE.trans hE3
    cases r with
    | false =>
      simp only [VS, VD, SV, SL, T, Nat.reduceEqDiff, Nat.reduceAdd, Nat.reduceSub, Nat.reduceMul, Nat.reduceLeDiff, Nat.reduceLT, reduceIte]
      refine (awake_spec _).mono ?_
      rintro _ w3 ⟨rfl, hE3⟩
      simp only [VS, VD, SV, SL, T, Nat.reduceEqDiff, Nat.reduceAdd, Nat.reduceSub, Nat.reduceMul, Nat.reduceLeDiff, Nat.reduceLT, reduceIte]
      exact hΨ _ _ ⟨rfl, hE.trans hE3⟩
    | true =>
      have hsq := hr.1 rfl
      have hv := hsm.1
      have hp := Geo_spec hv
      simp only [VS, VD, SV, SL, T, Nat.reduceEqDiff, Nat.reduceAdd, Nat.reduceSub, Nat.reduceMul, Nat.reduceLeDiff, Nat.reduceLT, reduceIte]
      refine (after_spec s y l _ L hsm _ (h.ext hE)).mono ?_
      rintro _ w5 ⟨⟨x, xr, rfl, hx, hxr⟩, hE5⟩
      replace hE := (hE.trans hE5)
      obtain ⟨u1, a1, n1, c1, rfl⟩ := hx.form
      obtain ⟨a2, c2, rfl⟩ := hxr.form
      simp only [VS, VD, SV, SL, T, Nat.reduceEqDiff, Nat.reduceAdd, Nat.reduceSub, Nat.reduceMul, Nat.reduceLeDiff, Nat.reduceLT, reduceIte, stV]
      have hE6 := (((Ext.refl w5).alloc tomb).alloc tomb).alloc tomb
      replace hE := hE.trans hE6
      replace hx := hx.ext hE6
      replace hxr := hxr.ext hE6
      generalize ((w5.alloc tomb).alloc tomb).alloc tomb = w6 at *
      obtain ⟨hsame, hbd, hlim, hlen⟩ := run_all hsm
      generalize runS s y L = M at *
      generalize hR1 : (runR s y L).1 = u2 at *
      generalize hR2 : (runR s y L).2 = L2 at *
      refine LoopP_intro (α := Nat) (fun i f' w' => f' 7 = stV s y l u1 (.slice a1 n1 c1) ∧ f' 8 = stV s y l u2 (.slice a2 L2.length c2) ∧ f' 37 = .slice qa Q.length qc ∧ f' 38 = .int .i64 Q.length ∧ f' 39 = .int .i64 i ∧ i ≤ Q.length ∧ Ext w6 w' ∧
        ∃ N, MayAt w' (f' 9) s y l N ∧ BdS y N) (fun i => Q.length - i) 0 ?_ ?_
      · simp only [VS, VD, SV, SL, T, Nat.reduceEqDiff, Nat.reduceAdd, Nat.reduceSub, Nat.reduceMul, Nat.reduceLeDiff, Nat.reduceLT, reduceIte, stV]
        exact ⟨rfl, Nat.zero_le _, Ext.refl _, M, hx, hbd⟩
      · rintro i f' wo ⟨f7, f8, f37, f38, f39, hi, hEx, N, hN, hbN⟩
        simp only [VS, VD, SV, SL, T, Nat.reduceEqDiff, Nat.reduceAdd, Nat.reduceSub, Nat.reduceMul, Nat.reduceLeDiff, Nat.reduceLT, reduceIte, f39, f38]
        refine cnd_d (fun hlt => ?_) (fun hlt => ?_)
        · have hi' : i < Q.length := by omega
          obtain ⟨b, off, cs, e, fz, rfl, hb, hle2, hext⟩ := (hq.ext (hE.trans hEx)).get hi'
          have hnr := hsq.2.2.2 _ (List.getElem_mem hi')
          have hl40 := hsq.2.2.1
          unfold near at hnr
          generalize Q[i] = q at *
          obtain ⟨u9, a9, n9, c9, f9⟩ := hN.form
          rw [f9] at hN
          simp only [VS, VD, SV, SL, T, Nat.reduceEqDiff, Nat.reduceAdd, Nat.reduceSub, Nat.reduceMul, Nat.reduceLeDiff, Nat.reduceLT, reduceIte, f37, f39, Int.toNat_natCast, hb, hle2, hext, f9, stV]
          refine ⟨by omega, ?_⟩
          have hEa := (Ext.refl wo).alloc tomb
          refine (step_spec s y l hv N hbN _ q.lo q.hi q.pick (by omega) (by omega) _ (hN.ext hEa)).mono ?_
          rintro v1 w7 ⟨hm1, hE7⟩
          obtain ⟨u3, a3, n3, c3, rfl⟩ := hm1.form
          have hE8 := hEx.trans (hEa.trans hE7)
          have hbN' := hbN.step (s := s) (lo := q.lo) (hi := q.hi) hp.2.2.1
          simp only [VS, VD, SV, SL, T, Nat.reduceEqDiff, Nat.reduceAdd, Nat.reduceSub, Nat.reduceMul, Nat.reduceLeDiff, Nat.reduceLT, reduceIte, f7, f9, stV]
          refine (Join_spec s y l hv _ M hbd _ _ _ hm1 (hx.ext hE8)).mono ?_
          rintro v2 w8 ⟨hm2, hE9⟩
          obtain ⟨u4, a4, n4, c4, rfl⟩ := hm2.form
          simp only [VS, VD, SV, SL, T, Nat.reduceEqDiff, Nat.reduceAdd, Nat.reduceSub, Nat.reduceMul, Nat.reduceLeDiff, Nat.reduceLT, reduceIte, f39, stV]
          exact ⟨by omega, i + 1, ⟨f7, f8, f37, f38, by simp, by omega, hE8.trans hE9, _, hm2, BdS_join hbN' hbd⟩, by omega⟩
        · have hx' := hx.ext hEx
          have hxr' := hxr.ext hEx
          simp only [VS, VD, SV, SL, T, Nat.reduceEqDiff, Nat.reduceAdd, Nat.reduceSub, Nat.reduceMul, Nat.reduceLeDiff, Nat.reduceLT, reduceIte, f7, stV]
          cases M with
          | none =>
            refine (mLines_none s y l _ _ hx').mono ?_
            rintro _ w7 ⟨rfl, hE7⟩
            simp only [VS, VD, SV, SL, T, Nat.reduceEqDiff, Nat.reduceAdd, Nat.reduceSub, Nat.reduceMul, Nat.reduceLeDiff, Nat.reduceLT, reduceIte, f7, f8, stV]
            refine (same_spec s y l hv none hbd hlim u2 L2 hsame (by omega) _ _ w7 (hx'.ext hE7) (hxr'.ext hE7)).mono ?_
            rintro _ w8 ⟨rfl, hE8⟩
            simp only [VS, VD, SV, SL, T, Nat.reduceEqDiff, Nat.reduceAdd, Nat.reduceSub, Nat.reduceMul, Nat.reduceLeDiff, Nat.reduceLT, reduceIte]
            exact hΨ _ _ ⟨rfl, ((hE.trans hEx).trans hE7).trans hE8⟩
          | some m =>
            obtain ⟨hu, hA⟩ : u2 = false ∧ AbsL L2 m := hsame
            have hKs := hA.keys (hbd m rfl) (by omega)
            refine (mLines_spec s y l hv m _ hKs _ wo hx').mono ?_
            rintro _ w7 ⟨hE7, uu, rfl, ho⟩
            obtain ⟨al, cl, rfl⟩ := own_form ho
            rw [List.length_map] at ho ⊢
            simp only [VS, VD, SV, SL, T, Nat.reduceEqDiff, Nat.reduceAdd, Nat.reduceSub, Nat.reduceMul, Nat.reduceLeDiff, Nat.reduceLT, reduceIte]
            refine loop_cB (fun g w' => g 7 = stV s y l u1 (.slice a1 n1 c1) ∧ g 8 = stV s y l u2 (.slice a2 L2.length c2) ∧ Ext wo w') ?_ ?_
            · refine LoopP_intro (α := Nat) (fun j g w' => g 7 = stV s y l u1 (.slice a1 n1 c1) ∧ g 8 = stV s y l u2 (.slice a2 L2.length c2) ∧ g 12 = .slice al L2.length cl ∧ g 57 = .int .i64 L2.length ∧ g 58 = .int .i64 j ∧ j ≤ L2.length ∧ Ext wo w' ∧
                (L2 = [] ∨ ∃ b cur, al = some ⟨b, 0, none⟩ ∧ wo.heap.size ≤ b ∧ w'.heap[b]? = some (.cells cur 3 (0, 0)) ∧ L2.length ≤ cur.size)) (fun j => L2.length - j) 0 ?_ ?_
              · simp only [VS, VD, SV, SL, T, Nat.reduceEqDiff, Nat.reduceAdd, Nat.reduceSub, Nat.reduceMul, Nat.reduceLeDiff, Nat.reduceLT, reduceIte, f7, f8, stV]
                refine ⟨rfl, Nat.zero_le _, hE7, ?_⟩
                obtain ⟨h1, h2⟩ := ho
                rcases h2 with ⟨h2, hn⟩ | ⟨g, cap, cur, h2, q1, q2, q3, q4, q5, q6⟩
                · exact .inl (by simpa using hn)
                · simp only [Value.slice.injEq] at h2
                  exact .inr ⟨g, cur, h2.1, q1, q2, by omega⟩
              · rintro j g w8 ⟨g7, g8, g12, g57, g58, hj, hE8, hrow⟩
                simp only [VS, VD, SV, SL, T, Nat.reduceEqDiff, Nat.reduceAdd, Nat.reduceSub, Nat.reduceMul, Nat.reduceLeDiff, Nat.reduceLT, reduceIte, g58, g57]
                refine cnd_d (fun hlt2 => ?_) (fun hlt2 => ?_)
                · have hj' : j < L2.length := by omega
                  rcases hrow with rfl | ⟨b, cur, rfl, hbw, hcur, hsz⟩
                  · simp at hj'
                  · simp only [VS, VD, SV, SL, T, Nat.reduceEqDiff, Nat.reduceAdd, Nat.reduceSub, Nat.reduceMul, Nat.reduceLeDiff, Nat.reduceLT, reduceIte, g58, g12, hcur, Int.toNat_natCast]
                    refine ⟨by omega, by omega, by omega, j + 1, ⟨g7, g8, g57, by simp, by omega, hE8.putb hbw _, .inr ⟨b, _, rfl, hbw, by rw [if_pos rfl, if_pos (get_lt hcur)], by simpa using hsz⟩⟩, by omega⟩
                · simp only [VS, VD, SV, SL, T, Nat.reduceEqDiff, Nat.reduceAdd, Nat.reduceSub, Nat.reduceMul, Nat.reduceLeDiff, Nat.reduceLT, reduceIte]
                  exact ⟨g7, g8, hE8⟩
            · rintro g w8 ⟨g7, g8, hE8⟩
              simp only [VS, VD, SV, SL, T, Nat.reduceEqDiff, Nat.reduceAdd, Nat.reduceSub, Nat.reduceMul, Nat.reduceLeDiff, Nat.reduceLT, reduceIte, g7, g8, stV]
              refine (same_spec s y l hv (some m) hbd hlim u2 L2 ⟨hu, hA⟩ (by omega) _ _ w8 (hx'.ext hE8) (hxr'.ext hE8)).mono ?_
              rintro _ w9 ⟨rfl, hE9⟩
              simp only [VS, VD, SV, SL, T, Nat.reduceEqDiff, Nat.reduceAdd, Nat.reduceSub, Nat.reduceMul, Nat.reduceLeDiff, Nat.reduceLT, reduceIte]
              exact hΨ _ _ ⟨rfl, ((hE.trans hEx).trans hE8).trans hE9⟩
end Go.Proofs.Ytndkadphpbnpeaa

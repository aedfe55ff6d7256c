/-
  LoopsFind: the walk.
-/
import Derived.Test.YtlhlbiaibgmapaaZLD3
import Derived.Test.YtlhlbiaibgmapaaZLC2
set_option linter.unusedSimpArgs false
set_option linter.unusedVariables false
namespace Go.Proofs.Ytlhlbiaibgmapaa
open Go.W Go.RowKit
theorem fnd_lens {N : List (List Int)} (hnd : ∀ l ∈ N, l.Nodup) (hN2 : ∀ l ∈ N, l.length ≤ 2) (hn : N.length ≤ 2000000) {x : Lp} (hx : x ∈ fnd N) : x.2.1.length ≤ 100000000 ∧ x.2.2.1.length ≤ 100000000 := by
  unfold fnd lstF at hx
  obtain ⟨j, _, rfl⟩ := List.mem_map.1 hx
  have h1 := ascL_len N.length (bdS N ((hsL N).getD j 0).toNat (lat N ((hsL N).getD j 0)))
  have h2 := latL_len N (edg 0 N) ((hsL N).getD j 0)
  have h3 := edg_len N 0 hN2
  refine ⟨?_, ?_⟩
  · show (ascL N.length (bdS N ((hsL N).getD j 0).toNat (lat N ((hsL N).getD j 0)))).length ≤ _
    omega
  · show (latL N (edg 0 N) ((hsL N).getD j 0)).length ≤ _
    omega
set_option maxHeartbeats 1000000 in
set_option maxRecDepth 10000 in
theorem LoopsFind_spec (gv : Value) (B : List Blk) (PV : List (List Int)) (w : World) (h : GrAt w gv B PV) (hB : B.length ≤ 2000000) : VRet Try.prog 3 #[gv] w fun v w' => v = .bool true ∧ Ext w w' := by
  obtain ⟨bs, pv, rfl, hb0, hp0⟩ := h
  obtain ⟨ba, bc, rfl⟩ := hb0.form
  obtain ⟨pa, pc, rfl⟩ := hp0.form'
  refine VRet_start T.mo ok3 rfl fun Ψ hΨ => ?_; simp only [vc3, rs3]
  simp only [VS, VD, SV, SL, T, Nat.reduceEqDiff, Nat.reduceAdd, Nat.reduceSub, Nat.reduceMul, Nat.reduceLeDiff, Nat.reduceLT, reduceIte]
  refine (awake_spec _).mono ?_
  rintro _ w1 ⟨rfl, hE1⟩
  replace hE1 := ((Ext.refl w).alloc tomb).trans hE1
  simp only [VS, VD, SV, SL, T, Nat.reduceEqDiff, Nat.reduceAdd, Nat.reduceSub, Nat.reduceMul, Nat.reduceLeDiff, Nat.reduceLT, reduceIte, Bool.not_true]
  refine (Find_spec _ B PV hB w1 ⟨_, _, rfl, hb0.ext hE1, hp0.ext hE1⟩).mono ?_
  rintro v w2 ⟨⟨hQ1, hQ2⟩, hE2⟩
  replace hE2 := hE1.trans hE2
  have hnx := fun w' (hE : Ext w2 w') => next_spec (.agg #[.slice ba B.length bc, .slice pa PV.length pc]) B PV (by omega) w' ⟨_, _, rfl, hb0.ext (hE2.trans hE), hp0.ext (hE2.trans hE)⟩
  cases hV : VG B PV with
  | false =>
    obtain rfl := hQ1 hV
    simp only [VS, VD, SV, SL, T, Nat.reduceEqDiff, Nat.reduceAdd, Nat.reduceSub, Nat.reduceMul, Nat.reduceLeDiff, Nat.reduceLT, reduceIte]
    refine (hnx w2 (Ext.refl _)).mono ?_
    rintro _ w3 ⟨hE3, hc⟩
    obtain rfl : _ = Value.tuple #[.slice none 0 0, .bool false] := hc.elim (fun h => h.2) fun h => by rw [hV] at h; cases h.2.1
    simp only [VS, VD, SV, SL, T, Nat.reduceEqDiff, Nat.reduceAdd, Nat.reduceSub, Nat.reduceMul, Nat.reduceLeDiff, Nat.reduceLT, reduceIte, Bool.not_false]
    by_cases h14 : (B.length : Int) > 14
    · have d1 : decide ((B.length : Int) > 14) = true := decide_eq_true h14
      simp only [VS, VD, SV, SL, T, Nat.reduceEqDiff, Nat.reduceAdd, Nat.reduceSub, Nat.reduceMul, Nat.reduceLeDiff, Nat.reduceLT, reduceIte, d1]
      exact hΨ _ _ ⟨rfl, hE2.trans hE3⟩
    · have d1 : decide ((B.length : Int) > 14) = false := decide_eq_false h14
      simp only [VS, VD, SV, SL, T, Nat.reduceEqDiff, Nat.reduceAdd, Nat.reduceSub, Nat.reduceMul, Nat.reduceLeDiff, Nat.reduceLT, reduceIte, d1]
      exact hΨ _ _ ⟨rfl, hE2.trans hE3⟩
  | true =>
    obtain ⟨hB0, hN, hN2, hnd, _⟩ := VG_spec hV
    have hNl : (nx B).length = B.length := by unfold nx; rw [List.length_map]
    have hN0 : 0 < (nx B).length := by omega
    replace hQ2 := hQ2 hV
    obtain ⟨hQa, hQb⟩ := hQ2
    cases hf : (edg 0 (nx B)).find? (badE (nx B)) with
    | some e =>
      obtain rfl := hQa e hf
      simp only [VS, VD, SV, SL, T, Nat.reduceEqDiff, Nat.reduceAdd, Nat.reduceSub, Nat.reduceMul, Nat.reduceLeDiff, Nat.reduceLT, reduceIte]
      refine (hnx w2 (Ext.refl _)).mono ?_
      rintro _ w3 ⟨hE3, hc⟩
      rcases hc with ⟨hno, rfl⟩ | ⟨h14, _, nv, rfl, hNv⟩
      · have d1 : decide ((B.length : Int) > 14) = true := decide_eq_true (by have : ¬ B.length ≤ 14 := fun h => hno ⟨h, hV⟩; omega)
        simp only [VS, VD, SV, SL, T, Nat.reduceEqDiff, Nat.reduceAdd, Nat.reduceSub, Nat.reduceMul, Nat.reduceLeDiff, Nat.reduceLT, reduceIte, Bool.not_false, d1]
        exact hΨ _ _ ⟨rfl, hE2.trans hE3⟩
      obtain ⟨na, nc, rfl⟩ := hNv.form'
      simp only [VS, VD, SV, SL, T, Nat.reduceEqDiff, Nat.reduceAdd, Nat.reduceSub, Nat.reduceMul, Nat.reduceLeDiff, Nat.reduceLT, reduceIte, Bool.not_true]
      refine (Wrong_spec hN hN0 (by omega) hN2 _ w3 hNv).mono ?_
      rintro _ w4 ⟨rfl, hE4⟩
      have hw : wrg (nx B) = e.2 := by unfold wrg; rw [hf]
      obtain ⟨a, b, he, _, _, _⟩ := edg_rng hN (List.mem_of_find?_eq_some hf)
      subst he
      have d1 : decide (((b : Nat) : Int) ≥ 0) = true := decide_eq_true (by omega)
      rw [hw]
      simp only []
      simp only [VS, VD, SV, SL, T, Nat.reduceEqDiff, Nat.reduceAdd, Nat.reduceSub, Nat.reduceMul, Nat.reduceLeDiff, Nat.reduceLT, reduceIte, d1, dEq]
      exact hΨ _ _ ⟨rfl, (hE2.trans hE3).trans hE4⟩
    | none =>
      obtain ⟨lv, rfl, hL⟩ := hQb hf
      obtain ⟨la, lc, rfl⟩ := hL.form
      simp only [VS, VD, SV, SL, T, Nat.reduceEqDiff, Nat.reduceAdd, Nat.reduceSub, Nat.reduceMul, Nat.reduceLeDiff, Nat.reduceLT, reduceIte]
      refine (hnx w2 (Ext.refl _)).mono ?_
      rintro _ w3 ⟨hE3, hc⟩
      rcases hc with ⟨hno, rfl⟩ | ⟨h14, _, nv, rfl, hNv⟩
      · have d1 : decide ((B.length : Int) > 14) = true := decide_eq_true (by have : ¬ B.length ≤ 14 := fun h => hno ⟨h, hV⟩; omega)
        simp only [VS, VD, SV, SL, T, Nat.reduceEqDiff, Nat.reduceAdd, Nat.reduceSub, Nat.reduceMul, Nat.reduceLeDiff, Nat.reduceLT, reduceIte, Bool.not_false, d1]
        exact hΨ _ _ ⟨rfl, hE2.trans hE3⟩
      obtain ⟨na, nc, rfl⟩ := hNv.form'
      simp only [VS, VD, SV, SL, T, Nat.reduceEqDiff, Nat.reduceAdd, Nat.reduceSub, Nat.reduceMul, Nat.reduceLeDiff, Nat.reduceLT, reduceIte, Bool.not_true]
      refine (Wrong_spec hN hN0 (by omega) hN2 _ w3 hNv).mono ?_
      rintro _ w4 ⟨rfl, hE4⟩
      have hw : wrg (nx B) = -1 := by unfold wrg; rw [hf]
      rw [hw]
      have d0 : decide ((-1 : Int) ≥ 0) = false := rfl
      simp only [VS, VD, SV, SL, T, Nat.reduceEqDiff, Nat.reduceAdd, Nat.reduceSub, Nat.reduceMul, Nat.reduceLeDiff, Nat.reduceLT, reduceIte, d0]
      refine (rFind_spec hN hN0 (by omega) hN2 hnd (good_of hf) _ w4 (hNv.ext hE4)).mono ?_
      rintro rv w5 ⟨hR, hE5⟩
      have hLl := fnd_len (nx B)
      have hlens := fun {x : Lp} => fnd_lens hnd hN2 (by omega) (x := x)
      replace hE5 := hE4.trans hE5
      replace hL := hL.ext (hE3.trans hE5)
      replace hE5 := (hE2.trans hE3).trans hE5
      clear hE2 hE3 hE4 hQa hQb hnx hw hNv
      generalize fnd (nx B) = L at *
      obtain ⟨ra, rc, rfl⟩ := hR.form
      simp only [VS, VD, SV, SL, T, Nat.reduceEqDiff, Nat.reduceAdd, Nat.reduceSub, Nat.reduceMul, Nat.reduceLeDiff, Nat.reduceLT, reduceIte, dEq]
      refine LoopP_intro (α := Nat) (fun i g w' => g 9 = .slice ra L.length rc ∧ g 76 = .slice la L.length lc ∧ g 77 = .int .i64 L.length ∧ g 78 = .int .i64 i ∧ i ≤ L.length ∧ Ext w5 w') (fun i => L.length - i) 0 ?_ ?_
      · simp only [VS, VD, SV, SL, T, Nat.reduceEqDiff, Nat.reduceAdd, Nat.reduceSub, Nat.reduceMul, Nat.reduceLeDiff, Nat.reduceLT, reduceIte]
        exact ⟨rfl, Nat.zero_le _, Ext.refl _⟩
      rintro i g w6 ⟨g9, g76, g77, g78, hi, hE⟩
      simp only [VS, VD, SV, SL, T, Nat.reduceEqDiff, Nat.reduceAdd, Nat.reduceSub, Nat.reduceMul, Nat.reduceLeDiff, Nat.reduceLT, reduceIte, g77, g78]
      by_cases hlt : (i : Int) < L.length
      · rw [decide_eq_true hlt]
        have hi' : i < L.length := by omega
        obtain ⟨lb, lo, lcs, le, lfz, u, u', rfl, hlb, hls, hlv, hlx, hu, hu'⟩ := (hL.ext hE).get hi'
        obtain ⟨sb, so, scs, se, sfz, v, v', rfl, hsb, hss, hsv, hsx, hv, hv'⟩ := (hR.ext hE).get hi'
        obtain ⟨hl1, hl2⟩ := hlens (List.getElem_mem hi')
        generalize L[i] = x at *
        obtain ⟨xh, xl, xt, xp⟩ := x
        simp only [] at hlv hsv hu hu' hv hv' hl1 hl2
        obtain ⟨ua, uc, rfl⟩ := hu.form
        obtain ⟨ua', uc', rfl⟩ := hu'.form
        obtain ⟨va, vc, rfl⟩ := hv.form
        obtain ⟨va', vc', rfl⟩ := hv'.form
        clear hlx hsx
        have hEt := (Ext.refl w6).alloc tomb
        have hsb' := hEt.obj hsb
        simp only [VS, VD, SV, SL, T, Nat.reduceEqDiff, Nat.reduceAdd, Nat.reduceSub, Nat.reduceMul, Nat.reduceLeDiff, Nat.reduceLT, reduceIte, g9, g76, g78, hlb, hls, hlv, hsb', hsb, hss, hsv, Int.toNat_natCast]
        have hE2' := ((Ext.refl w6).alloc tomb).alloc tomb
        refine ⟨by omega, by omega, ?_⟩
        refine (Ints_spec _ _ xl xl hl1 _ ((hu.ext hE2')) (hv.ext hE2')).mono ?_
        rintro _ w7 ⟨rfl, hE7⟩
        replace hE7 := hE2'.trans hE7
        simp only [VS, VD, SV, SL, T, Nat.reduceEqDiff, Nat.reduceAdd, Nat.reduceSub, Nat.reduceMul, Nat.reduceLeDiff, Nat.reduceLT, reduceIte, dEq, Bool.not_true]
        refine (Ints_spec _ _ xt xt hl2 _ ((hu'.ext hE7)) (hv'.ext hE7)).mono ?_
        rintro _ w8 ⟨rfl, hE8⟩
        simp only [VS, VD, SV, SL, T, Nat.reduceEqDiff, Nat.reduceAdd, Nat.reduceSub, Nat.reduceMul, Nat.reduceLeDiff, Nat.reduceLT, reduceIte, dEq, Bool.not_true, g9, g76, g77, g78]
        exact ⟨by omega, i + 1, ⟨by simp, by omega, (hE.trans hE7).trans hE8⟩, by omega⟩
      · rw [decide_eq_false hlt]
        simp only [VS, VD, SV, SL, T, Nat.reduceEqDiff, Nat.reduceAdd, Nat.reduceSub, Nat.reduceMul, Nat.reduceLeDiff, Nat.reduceLT, reduceIte]
        exact hΨ _ _ ⟨rfl, hE5.trans hE⟩
end Go.Proofs.Ytlhlbiaibgmapaa

/-
  Frontier, Dominates: the walks of the statements.
-/
import Derived.Test.YtjilblndcbphgaaZGD1
set_option linter.unusedSimpArgs false
set_option linter.unusedVariables false
namespace Go.Proofs.Ytjilblndcbphgaa
open Go.W Go.RowKit
theorem rfr_len (N : List (List Int)) (k a : Nat) : (rfr N k a).length ≤ k := by
  unfold rfr
  split
  · rw [List.length_map]
    have := List.length_filter_le (rin N a) (List.range k)
    rwa [List.length_range] at this
  · simp
set_option maxRecDepth 10000 in
theorem DominatorFrontier_spec (gv : Value) (B : List Blk) (PV : List (List Int)) (w : World) (h : GrAt w gv B PV) (hl : B.length ≤ maxLen) : VRet Try.prog 6 #[gv] w fun v w' => v = .bool true ∧ Ext w w' := by
  have hml : B.length ≤ 9223372036854775807 := by unfold maxLen at hl; omega
  obtain ⟨bs, pv, rfl, hb0, hp0⟩ := h
  obtain ⟨ba, bc, rfl⟩ := hb0.form
  obtain ⟨pa, pc, rfl⟩ := hp0.form'
  refine VRet_start T.mo ok6 rfl fun Ψ hΨ => ?_; simp only [vc6, rs6]
  simp only [VS, VD, SV, SL, T, Nat.reduceEqDiff, Nat.reduceAdd, Nat.reduceSub, Nat.reduceMul, Nat.reduceLeDiff, Nat.reduceLT, reduceIte]
  refine (awake_spec _).mono ?_
  rintro _ w1 ⟨rfl, hE1⟩
  replace hE1 := ((Ext.refl w).alloc tomb).trans hE1
  simp only [VS, VD, SV, SL, T, Nat.reduceEqDiff, Nat.reduceAdd, Nat.reduceSub, Nat.reduceMul, Nat.reduceLeDiff, Nat.reduceLT, reduceIte, Bool.not_true]
  refine (next_spec _ B PV hml w1 ⟨_, _, rfl, hb0.ext hE1, hp0.ext hE1⟩).mono ?_
  rintro _ w2 ⟨hE2, hc⟩
  replace hE2 := hE1.trans hE2
  have hG : GrAt w2 (.agg #[.slice ba B.length bc, .slice pa PV.length pc]) B PV := ⟨_, _, rfl, hb0.ext hE2, hp0.ext hE2⟩
  rcases hc with ⟨hbad, rfl⟩ | ⟨h14, hV, nv, rfl, hN⟩
  · simp only [VS, VD, SV, SL, T, Nat.reduceEqDiff, Nat.reduceAdd, Nat.reduceSub, Nat.reduceMul, Nat.reduceLeDiff, Nat.reduceLT, reduceIte, Bool.not_false]
    exact hΨ _ _ ⟨rfl, hE2⟩
  · simp only [VS, VD, SV, SL, T, Nat.reduceEqDiff, Nat.reduceAdd, Nat.reduceSub, Nat.reduceMul, Nat.reduceLeDiff, Nat.reduceLT, reduceIte, Bool.not_true]
    have hNV := VG_nv hV
    have hNl : (nx B).length = B.length := by unfold nx; rw [List.length_map]
    refine (Frontier_spec _ B PV (by omega) w2 hG).mono ?_
    rintro v3 w3 ⟨hE3, _, h3⟩
    obtain ⟨q, rfl, hI⟩ := h3 hV
    simp only [VS, VD, SV, SL, T, Nat.reduceEqDiff, Nat.reduceAdd, Nat.reduceSub, Nat.reduceMul, Nat.reduceLeDiff, Nat.reduceLT, reduceIte]
    refine (rFrontier_spec hNV.ok hNV.pos (by omega) hNV.two _ w3 (hN.ext hE3)).mono ?_
    rintro v4 w4 ⟨⟨q2, rfl, hI2⟩, hE4⟩
    rw [hNl] at hI2
    replace hI := hI.ext hE4
    replace hE4 := (hE2.trans hE3).trans hE4
    have dd : decide (¬ ((B.length : Nat) : Int) = B.length) = false := by simp
    simp only [VS, VD, SV, SL, T, Nat.reduceEqDiff, Nat.reduceAdd, Nat.reduceSub, Nat.reduceMul, Nat.reduceLeDiff, Nat.reduceLT, reduceIte, hNl, dd]
    refine LoopP_intro (α := Nat) (fun i g w' => g 5 = .slice (some ⟨q, 0, none⟩) B.length B.length ∧ g 6 = .slice (some ⟨q2, 0, none⟩) B.length B.length ∧ g 7 = .int .i64 i ∧ i ≤ B.length ∧ Ext w4 w') (fun i => B.length - i) 0 ?_ ?_
    · simp only [VS, VD, SV, SL, T, Nat.reduceEqDiff, Nat.reduceAdd, Nat.reduceSub, Nat.reduceMul, Nat.reduceLeDiff, Nat.reduceLT, reduceIte]
      exact ⟨rfl, Nat.zero_le _, Ext.refl _⟩
    · rintro i g w' ⟨g5, g6, g7, hi, hE⟩
      simp only [VS, VD, SV, SL, T, Nat.reduceEqDiff, Nat.reduceAdd, Nat.reduceSub, Nat.reduceMul, Nat.reduceLeDiff, Nat.reduceLT, reduceIte, g5, g7]
      by_cases hlt : (i : Int) < B.length
      · rw [decide_eq_true hlt]
        have hi' : i < ((List.range B.length).map (rfr (nx B) B.length)).length := by simp; omega
        have hIe := hI.ext hE
        have hIe2 := hI2.ext hE
        obtain ⟨b1, o1, cs1, e1, fz1, u1, q1, hb1, hc1, hu1⟩ := IntssAt.get' (a := some ⟨q, 0, none⟩) (n := B.length) (c := B.length) hIe hi'
        obtain ⟨b2, o2, cs2, e2, fz2, u2, q3, hb2, hc2, hu2⟩ := IntssAt.get' (a := some ⟨q2, 0, none⟩) (n := B.length) (c := B.length) hIe2 hi'
        simp only [Option.some.injEq, Addr.mk.injEq, and_true] at q1 q3
        obtain ⟨rfl, rfl⟩ := q1
        obtain ⟨rfl, rfl⟩ := q3
        rw [Nat.zero_add] at hc1 hc2
        obtain ⟨a1, c1, rfl⟩ := hu1.form
        obtain ⟨a2, c2, rfl⟩ := hu2.form
        simp only [VS, VD, SV, SL, T, Nat.reduceEqDiff, Nat.reduceAdd, Nat.reduceSub, Nat.reduceMul, Nat.reduceLeDiff, Nat.reduceLT, reduceIte, g5, g6, g7]
        refine DW_intro (fun _ _ _ _ => True) ?_
        simp only [VS, VD, SV, SL, T, Nat.reduceEqDiff, Nat.reduceAdd, Nat.reduceSub, Nat.reduceMul, Nat.reduceLeDiff, Nat.reduceLT, reduceIte, g5, g6, g7, hb1, hc1, hb2, hc2, Int.toNat_natCast]
        refine ⟨by omega, by omega, ?_⟩
        intro w5 hE5 _
        simp only [VS, VD, SV, SL, T, Nat.reduceEqDiff, Nat.reduceAdd, Nat.reduceSub, Nat.reduceMul, Nat.reduceLeDiff, Nat.reduceLT, reduceIte]
        refine (Ints_spec _ _ _ _ (by rw [List.getElem_map]; have := rfr_len (nx B) B.length ((List.range B.length)[i]'(by simpa using hi')); omega) w5 (hu1.ext hE5) (hu2.ext hE5)).mono ?_
        rintro _ w6 ⟨rfl, hE6⟩
        simp only [VS, VD, SV, SL, T, Nat.reduceEqDiff, Nat.reduceAdd, Nat.reduceSub, Nat.reduceMul, Nat.reduceLeDiff, Nat.reduceLT, reduceIte, dEq, Bool.not_true, g5, g6, g7]
        exact ⟨by omega, i + 1, ⟨by simp, by omega, (hE.trans hE5).trans hE6⟩, by omega⟩
      · rw [decide_eq_false hlt]
        simp only [VS, VD, SV, SL, T, Nat.reduceEqDiff, Nat.reduceAdd, Nat.reduceSub, Nat.reduceMul, Nat.reduceLeDiff, Nat.reduceLT, reduceIte]
        exact hΨ _ _ ⟨rfl, hE4.trans hE⟩
set_option maxRecDepth 10000 in
theorem DominatorDominates_spec (gv : Value) (B : List Blk) (PV : List (List Int)) (a b : Int) (w : World) (h : GrAt w gv B PV) (hl : B.length ≤ maxLen) {p1 p2 : Prop} (_ : p1) (_ : p2) : VRet Try.prog 8 #[gv, .int .i64 a, .int .i64 b] w fun v w' => v = .bool true ∧ Ext w w' := by
  have hml : B.length ≤ 9223372036854775807 := by unfold maxLen at hl; omega
  obtain ⟨bs, pv, rfl, hb0, hp0⟩ := h
  obtain ⟨ba, bc, rfl⟩ := hb0.form
  obtain ⟨pa, pc, rfl⟩ := hp0.form'
  refine VRet_start T.mo ok8 rfl fun Ψ hΨ => ?_; simp only [vc8, rs8]
  simp only [VS, VD, SV, SL, T, Nat.reduceEqDiff, Nat.reduceAdd, Nat.reduceSub, Nat.reduceMul, Nat.reduceLeDiff, Nat.reduceLT, reduceIte]
  refine (awake_spec _).mono ?_
  rintro _ w1 ⟨rfl, hE1⟩
  replace hE1 := ((Ext.refl w).alloc tomb).trans hE1
  simp only [VS, VD, SV, SL, T, Nat.reduceEqDiff, Nat.reduceAdd, Nat.reduceSub, Nat.reduceMul, Nat.reduceLeDiff, Nat.reduceLT, reduceIte, Bool.not_true]
  refine (next_spec _ B PV hml w1 ⟨_, _, rfl, hb0.ext hE1, hp0.ext hE1⟩).mono ?_
  rintro _ w2 ⟨hE2, hc⟩
  replace hE2 := hE1.trans hE2
  have hG : GrAt w2 (.agg #[.slice ba B.length bc, .slice pa PV.length pc]) B PV := ⟨_, _, rfl, hb0.ext hE2, hp0.ext hE2⟩
  rcases hc with ⟨hbad, rfl⟩ | ⟨h14, hV, nv, rfl, hN⟩
  · simp only [VS, VD, SV, SL, T, Nat.reduceEqDiff, Nat.reduceAdd, Nat.reduceSub, Nat.reduceMul, Nat.reduceLeDiff, Nat.reduceLT, reduceIte, Bool.not_false]
    exact hΨ _ _ ⟨rfl, hE2⟩
  · simp only [VS, VD, SV, SL, T, Nat.reduceEqDiff, Nat.reduceAdd, Nat.reduceSub, Nat.reduceMul, Nat.reduceLeDiff, Nat.reduceLT, reduceIte, Bool.not_true]
    have hNV := VG_nv hV
    have hNl : (nx B).length = B.length := by unfold nx; rw [List.length_map]
    refine (Tree_spec _ B PV (by omega) w2 hG).mono ?_
    rintro v3 w3 ⟨hE3, _, h3⟩
    obtain ⟨F, g, cap, rfl, _, hI, hT⟩ := h3 hV
    have hN3 := hN.ext hE3
    replace hE3 := hE2.trans hE3
    simp only [VS, VD, SV, SL, T, Nat.reduceEqDiff, Nat.reduceAdd, Nat.reduceSub, Nat.reduceMul, Nat.reduceLeDiff, Nat.reduceLT, reduceIte]
    have hI3 : IntsAt w3 (.slice (some ⟨g, 0, none⟩) B.length cap) (tl B.length F) := hI
    refine (Dominates_spec _ _ (by simp; omega) a b w3 hI3).mono ?_
    rintro _ w4 ⟨rfl, hE4⟩
    have hN4 := hN3.ext hE4
    replace hE4 := hE3.trans hE4
    obtain ⟨na, nc, rfl⟩ := hN4.form'
    have hlt : (tl B.length F).length = B.length := tl_len _ _
    simp only [VS, VD, SV, SL, T, Nat.reduceEqDiff, Nat.reduceAdd, Nat.reduceSub, Nat.reduceMul, Nat.reduceLeDiff, Nat.reduceLT, reduceIte]
    have hout : (a < 0 ∨ (B.length : Int) ≤ a) ∨ (b < 0 ∨ (B.length : Int) ≤ b) → domI (tl B.length F) a b = false := fun h => by
      cases hd : domI (tl B.length F) a b with
      | false => rfl
      | true =>
        have := domI_rng hd
        rw [hlt] at this
        omega
    generalize hgot : domI (tl B.length F) a b = got at *
    refine YG_c (fun g2 w5 => g2 1 = .int .i64 a ∧ g2 2 = .int .i64 b ∧ g2 7 = .slice na (nx B).length nc ∧ g2 10 = .bool got ∧ g2 43 = .bool (decide ((a < 0 ∨ (B.length : Int) ≤ a) ∨ (b < 0 ∨ (B.length : Int) ≤ b))) ∧ w5 = w4) ?_ ?_
    · by_cases c1 : a < 0
      · rw [decide_eq_true c1]
        simp only [VS, VD, SV, SL, T, Nat.reduceEqDiff, Nat.reduceAdd, Nat.reduceSub, Nat.reduceMul, Nat.reduceLeDiff, Nat.reduceLT, reduceIte]
        simp [c1]
      rw [decide_eq_false c1]
      by_cases c2 : (B.length : Int) ≤ a
      · have d2 : decide ((B.length : Int) ≤ a) = true := decide_eq_true c2
        simp only [VS, VD, SV, SL, T, Nat.reduceEqDiff, Nat.reduceAdd, Nat.reduceSub, Nat.reduceMul, Nat.reduceLeDiff, Nat.reduceLT, reduceIte, hNl, d2]
        simp [c2]
      have d2 : decide ((B.length : Int) ≤ a) = false := decide_eq_false c2
      by_cases c3 : b < 0
      · have d3 : decide (b < 0) = true := decide_eq_true c3
        simp only [VS, VD, SV, SL, T, Nat.reduceEqDiff, Nat.reduceAdd, Nat.reduceSub, Nat.reduceMul, Nat.reduceLeDiff, Nat.reduceLT, reduceIte, hNl, d2, d3]
        simp [c3]
      have d3 : decide (b < 0) = false := decide_eq_false c3
      simp only [VS, VD, SV, SL, T, Nat.reduceEqDiff, Nat.reduceAdd, Nat.reduceSub, Nat.reduceMul, Nat.reduceLeDiff, Nat.reduceLT, reduceIte, hNl, d2, d3]
      simp only [c1, c2, c3, false_or]
    · rintro g2 w5 ⟨k1, k2, k7, k10, k43, rfl⟩
      by_cases hc : (a < 0 ∨ (B.length : Int) ≤ a) ∨ (b < 0 ∨ (B.length : Int) ≤ b)
      · rw [decide_eq_true hc] at k43
        have hg := hout hc
        subst hg
        simp only [VS, VD, SV, SL, T, Nat.reduceEqDiff, Nat.reduceAdd, Nat.reduceSub, Nat.reduceMul, Nat.reduceLeDiff, Nat.reduceLT, reduceIte, k43, k10, Bool.not_false]
        exact hΨ _ _ ⟨rfl, hE4⟩
      · rw [decide_eq_false hc] at k43
        obtain ⟨x, rfl⟩ := Int.eq_ofNat_of_zero_le (show 0 ≤ a by omega)
        obtain ⟨y, rfl⟩ := Int.eq_ofNat_of_zero_le (show 0 ≤ b by omega)
        have hx : x < (nx B).length := by omega
        have hy : y < (nx B).length := by omega
        have hda := domI_an hNV.ok hNV.pos hT hx hy
        rw [hNl, hgot] at hda
        simp only [VS, VD, SV, SL, T, Nat.reduceEqDiff, Nat.reduceAdd, Nat.reduceSub, Nat.reduceMul, Nat.reduceLeDiff, Nat.reduceLT, reduceIte, k43, k7]
        refine (Reach_spec hNV.ok hNV.pos (by omega) hNV.two _ (-1) w5 hN4).mono ?_
        rintro _ w6 ⟨⟨q, rfl, cs, hq, hqs, hqv⟩, hE6⟩
        have hqy := hqv y hy
        cases hr : rch (nx B) (-1) y with
        | false =>
          rw [hr] at hqy
          simp only [VS, VD, SV, SL, T, Nat.reduceEqDiff, Nat.reduceAdd, Nat.reduceSub, Nat.reduceMul, Nat.reduceLeDiff, Nat.reduceLT, reduceIte, k1, k2, k10, hq, hqy, Bool.not_false, Int.toNat_natCast]
          refine ⟨by omega, hΨ _ _ ⟨?_, hE4.trans hE6⟩⟩
          have hnr : ¬ RE (nx B) y := fun k => by rw [(rch_re hNV.ok hNV.pos).2 k] at hr; cases hr
          have : got = decide ((x : Int) = y) := by
            by_cases e : x = y
            · subst e
              rw [hda.2 (.self _)]
              simp
            · have : got = false := by
                cases hg : got with
                | false => rfl
                | true =>
                  rcases (hda.1 hg).cases' with k | ⟨_, p, k1, _⟩
                  · exact (e k).elim
                  · rw [hT.wf.un y hnr] at k1; omega
              rw [this, decide_eq_false (show ¬ (x : Int) = y by omega)]
          rw [this]
          simp
        | true =>
          rw [hr] at hqy
          simp only [VS, VD, SV, SL, T, Nat.reduceEqDiff, Nat.reduceAdd, Nat.reduceSub, Nat.reduceMul, Nat.reduceLeDiff, Nat.reduceLT, reduceIte, k1, k2, k7, k10, hq, hqy, Bool.not_true, Int.toNat_natCast]
          refine ⟨by omega, ?_⟩
          refine (rDominates_spec hNV.ok hNV.pos (by omega) hNV.two _ x y hx hy w6 (hN4.ext hE6)).mono ?_
          rintro _ w7 ⟨rfl, hE7⟩
          simp only [VS, VD, SV, SL, T, Nat.reduceEqDiff, Nat.reduceAdd, Nat.reduceSub, Nat.reduceMul, Nat.reduceLeDiff, Nat.reduceLT, reduceIte, k10]
          refine hΨ _ _ ⟨?_, (hE4.trans hE6).trans hE7⟩
          have hR := (rch_re hNV.ok hNV.pos).1 hr
          have : got = rdom (nx B) x y := by
            have h2 := rdom_an hNV.ok hNV.pos hT (a := x) hR
            rw [← hda] at h2
            cases h3 : got <;> cases h4 : rdom (nx B) x y <;> simp_all
          rw [this]
          simp
end Go.Proofs.Ytjilblndcbphgaa

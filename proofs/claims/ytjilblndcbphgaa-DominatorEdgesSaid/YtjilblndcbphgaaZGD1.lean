/-
  Tree, Order, Chains: the walks of the statements.
-/
import Derived.Test.YtjilblndcbphgaaZGC2
import Derived.Test.YtjilblndcbphgaaZGB2
set_option linter.unusedSimpArgs false
set_option linter.unusedVariables false
namespace Go.Proofs.Ytjilblndcbphgaa
open Go.W Go.RowKit
theorem dEq {α : Type} [DecidableEq α] (l : α) : decide (l = l) = true := decide_eq_true rfl
set_option maxRecDepth 10000 in
theorem DominatorTree_spec (gv : Value) (B : List Blk) (PV : List (List Int)) (w : World) (h : GrAt w gv B PV) (hl : B.length ≤ maxLen) : VRet Try.prog 3 #[gv] w fun v w' => v = .bool true ∧ Ext w w' := by
  have hml : B.length ≤ 9223372036854775807 := by unfold maxLen at hl; omega
  obtain ⟨bs, pv, rfl, hb0, hp0⟩ := h
  obtain ⟨ba, bc, rfl⟩ := hb0.form
  obtain ⟨pa, pc, rfl⟩ := hp0.form'
  refine VRet_start T.mo ok3 rfl fun Ψ hΨ => ?_; simp only [vc3, rs3]
  simp only [VS, VD, SV, SL, T, Nat.reduceEqDiff, Nat.reduceAdd, Nat.reduceSub, Nat.reduceMul, Nat.reduceLeDiff, Nat.reduceLT, reduceIte]
  refine (awake_spec _).mono ?_
  rintro _ w1 ⟨rfl, hE1⟩
  replace hE1 := ((Ext.refl w).alloc tomb).trans hE1
  simp only [VS, VD, SV, SL, T, Nat.reduceEqDiff, Nat.reduceAdd, Nat.reduceSub, Nat.reduceMul, Nat.reduceLeDiff, Nat.reduceLT, reduceIte, Bool.not_true]
  refine (next_spec _ B PV hml w1 ⟨_, _, rfl, hb0.ext hE1, hp0.ext hE1⟩).mono ?_
  rintro _ w2 ⟨hE2, hc⟩
  replace hE2 := hE1.trans hE2
  have hG : GrAt w2 (.agg #[.slice ba B.length bc, .slice pa PV.length pc]) B PV := ⟨_, _, rfl, hb0.ext hE2, hp0.ext hE2⟩
  rcases hc with ⟨hbad, rfl⟩ | ⟨h14, hV, nv, rfl, hN⟩
  · simp only [VS, VD, SV, SL, T, Nat.reduceEqDiff, Nat.reduceAdd, Nat.reduceSub, Nat.reduceMul, Nat.reduceLeDiff, Nat.reduceLT, reduceIte, Bool.not_false]
    by_cases hgt : 14 < (B.length : Int)
    · rw [decide_eq_true hgt]
      simp only [VS, VD, SV, SL, T, Nat.reduceEqDiff, Nat.reduceAdd, Nat.reduceSub, Nat.reduceMul, Nat.reduceLeDiff, Nat.reduceLT, reduceIte]
      exact hΨ _ _ ⟨rfl, hE2⟩
    · rw [decide_eq_false hgt]
      have hV : VG B PV = false := by
        cases hV : VG B PV with
        | false => rfl
        | true => exact (hbad ⟨by omega, hV⟩).elim
      have d0 : decide (((0 : Nat) : Int) = 0) = true := by decide
      simp only [VS, VD, SV, SL, T, Nat.reduceEqDiff, Nat.reduceAdd, Nat.reduceSub, Nat.reduceMul, Nat.reduceLeDiff, Nat.reduceLT, reduceIte]
      refine (Tree_spec _ B PV (by omega) w2 hG).mono ?_
      rintro v3 w3 ⟨hE3, h3, _⟩
      obtain rfl := h3 hV
      simp only [VS, VD, SV, SL, T, Nat.reduceEqDiff, Nat.reduceAdd, Nat.reduceSub, Nat.reduceMul, Nat.reduceLeDiff, Nat.reduceLT, reduceIte, d0]
      refine (Order_spec _ B PV (by omega) w3 (hG.ext hE3)).mono ?_
      rintro v4 w4 ⟨hE4, h4, _⟩
      obtain rfl := h4 hV
      replace hE4 := hE3.trans hE4
      simp only [VS, VD, SV, SL, T, Nat.reduceEqDiff, Nat.reduceAdd, Nat.reduceSub, Nat.reduceMul, Nat.reduceLeDiff, Nat.reduceLT, reduceIte, d0]
      refine (Frontier_spec _ B PV (by omega) w4 (hG.ext hE4)).mono ?_
      rintro v5 w5 ⟨hE5, h5, _⟩
      obtain rfl := h5 hV
      simp only [VS, VD, SV, SL, T, Nat.reduceEqDiff, Nat.reduceAdd, Nat.reduceSub, Nat.reduceMul, Nat.reduceLeDiff, Nat.reduceLT, reduceIte, d0]
      exact hΨ _ _ ⟨rfl, (hE2.trans hE4).trans hE5⟩
  · simp only [VS, VD, SV, SL, T, Nat.reduceEqDiff, Nat.reduceAdd, Nat.reduceSub, Nat.reduceMul, Nat.reduceLeDiff, Nat.reduceLT, reduceIte, Bool.not_true]
    have hNV := VG_nv hV
    have hNl : (nx B).length = B.length := by unfold nx; rw [List.length_map]
    refine (Tree_spec _ B PV (by omega) w2 hG).mono ?_
    rintro v3 w3 ⟨hE3, _, h3⟩
    obtain ⟨F, g, cap, rfl, _, hI, hT⟩ := h3 hV
    simp only [VS, VD, SV, SL, T, Nat.reduceEqDiff, Nat.reduceAdd, Nat.reduceSub, Nat.reduceMul, Nat.reduceLeDiff, Nat.reduceLT, reduceIte]
    refine (rTree_spec hNV.ok hNV.pos (by omega) hNV.two _ w3 (hN.ext hE3)).mono ?_
    rintro v4 w4 ⟨hI4, hE4⟩
    have eT := tl_rtr hNV hT
    rw [hNl] at eT hI4
    rw [eT] at hI
    simp only [VS, VD, SV, SL, T, Nat.reduceEqDiff, Nat.reduceAdd, Nat.reduceSub, Nat.reduceMul, Nat.reduceLeDiff, Nat.reduceLT, reduceIte]
    refine (Ints_spec _ _ _ _ (by simp; omega) w4 (hI.ext hE4) hI4).mono ?_
    rintro _ w5 ⟨rfl, hE5⟩
    simp only [VS, VD, SV, SL, T, Nat.reduceEqDiff, Nat.reduceAdd, Nat.reduceSub, Nat.reduceMul, Nat.reduceLeDiff, Nat.reduceLT, reduceIte]
    exact hΨ _ _ ⟨by simp, ((hE2.trans hE3).trans hE4).trans hE5⟩
set_option maxRecDepth 10000 in
theorem DominatorOrder_spec (gv : Value) (B : List Blk) (PV : List (List Int)) (w : World) (h : GrAt w gv B PV) (hl : B.length ≤ maxLen) : VRet Try.prog 4 #[gv] w fun v w' => v = .bool true ∧ Ext w w' := by
  have hml : B.length ≤ 9223372036854775807 := by unfold maxLen at hl; omega
  obtain ⟨bs, pv, rfl, hb0, hp0⟩ := h
  obtain ⟨ba, bc, rfl⟩ := hb0.form
  obtain ⟨pa, pc, rfl⟩ := hp0.form'
  refine VRet_start T.mo ok4 rfl fun Ψ hΨ => ?_; simp only [vc4, rs4]
  simp only [VS, VD, SV, SL, T, Nat.reduceEqDiff, Nat.reduceAdd, Nat.reduceSub, Nat.reduceMul, Nat.reduceLeDiff, Nat.reduceLT, reduceIte]
  refine (awake_spec _).mono ?_
  rintro _ w1 ⟨rfl, hE1⟩
  replace hE1 := ((Ext.refl w).alloc tomb).trans hE1
  simp only [VS, VD, SV, SL, T, Nat.reduceEqDiff, Nat.reduceAdd, Nat.reduceSub, Nat.reduceMul, Nat.reduceLeDiff, Nat.reduceLT, reduceIte, Bool.not_true]
  refine (next_spec _ B PV hml w1 ⟨_, _, rfl, hb0.ext hE1, hp0.ext hE1⟩).mono ?_
  rintro _ w2 ⟨hE2, hc⟩
  replace hE2 := hE1.trans hE2
  have hG : GrAt w2 (.agg #[.slice ba B.length bc, .slice pa PV.length pc]) B PV := ⟨_, _, rfl, hb0.ext hE2, hp0.ext hE2⟩
  rcases hc with ⟨hbad, rfl⟩ | ⟨h14, hV, nv, rfl, hN⟩
  · simp only [VS, VD, SV, SL, T, Nat.reduceEqDiff, Nat.reduceAdd, Nat.reduceSub, Nat.reduceMul, Nat.reduceLeDiff, Nat.reduceLT, reduceIte, Bool.not_false]
    exact hΨ _ _ ⟨rfl, hE2⟩
  · simp only [VS, VD, SV, SL, T, Nat.reduceEqDiff, Nat.reduceAdd, Nat.reduceSub, Nat.reduceMul, Nat.reduceLeDiff, Nat.reduceLT, reduceIte, Bool.not_true]
    have hNV := VG_nv hV
    have hNl : (nx B).length = B.length := by unfold nx; rw [List.length_map]
    refine (Order_spec _ B PV (by omega) w2 hG).mono ?_
    rintro v3 w3 ⟨hE3, _, h3⟩
    obtain ⟨g, cap, rfl, _, _, hI⟩ := h3 hV
    simp only [VS, VD, SV, SL, T, Nat.reduceEqDiff, Nat.reduceAdd, Nat.reduceSub, Nat.reduceMul, Nat.reduceLeDiff, Nat.reduceLT, reduceIte]
    refine (rOrder_spec hNV.ok hNV.pos (by omega) hNV.two _ w3 (hN.ext hE3)).mono ?_
    rintro v4 w4 ⟨hI4, hE4⟩
    have hol := ord_le hNV.ok hNV.pos
    simp only [VS, VD, SV, SL, T, Nat.reduceEqDiff, Nat.reduceAdd, Nat.reduceSub, Nat.reduceMul, Nat.reduceLeDiff, Nat.reduceLT, reduceIte]
    refine (Ints_spec _ _ _ _ (by omega) w4 (hI.ext hE4) hI4).mono ?_
    rintro _ w5 ⟨rfl, hE5⟩
    simp only [VS, VD, SV, SL, T, Nat.reduceEqDiff, Nat.reduceAdd, Nat.reduceSub, Nat.reduceMul, Nat.reduceLeDiff, Nat.reduceLT, reduceIte]
    exact hΨ _ _ ⟨by simp, ((hE2.trans hE3).trans hE4).trans hE5⟩
set_option maxRecDepth 10000 in
theorem DominatorChains_spec (lv : Value) (l : List Int) (a b : Int) (w : World) (h : IntsAt w lv l) {p1 p2 p3 : Prop} (_ : p1) (_ : p2) (_ : p3) : VRet Try.prog 9 #[lv, .int .i64 a, .int .i64 b] w fun v w' => v = .bool true ∧ Ext w w' := by
  obtain ⟨la, lc, rfl⟩ := h.form
  refine VRet_start T.mo ok9 rfl fun Ψ hΨ => ?_; simp only [vc9, rs9]
  simp only [VS, VD, SV, SL, T, Nat.reduceEqDiff, Nat.reduceAdd, Nat.reduceSub, Nat.reduceMul, Nat.reduceLeDiff, Nat.reduceLT, reduceIte]
  refine (awake_spec _).mono ?_
  rintro _ w1 ⟨rfl, hE1⟩
  simp only [VS, VD, SV, SL, T, Nat.reduceEqDiff, Nat.reduceAdd, Nat.reduceSub, Nat.reduceMul, Nat.reduceLeDiff, Nat.reduceLT, reduceIte, Bool.not_true]
  by_cases hgt : 30 < (l.length : Int)
  · rw [decide_eq_true hgt]
    simp only [VS, VD, SV, SL, T, Nat.reduceEqDiff, Nat.reduceAdd, Nat.reduceSub, Nat.reduceMul, Nat.reduceLeDiff, Nat.reduceLT, reduceIte]
    exact hΨ _ _ ⟨rfl, hE1⟩
  · rw [decide_eq_false hgt]
    simp only [VS, VD, SV, SL, T, Nat.reduceEqDiff, Nat.reduceAdd, Nat.reduceSub, Nat.reduceMul, Nat.reduceLeDiff, Nat.reduceLT, reduceIte]
    refine (Dominates_spec _ l (by omega) a b w1 (h.ext hE1)).mono ?_
    rintro _ w2 ⟨rfl, hE2⟩
    simp only [VS, VD, SV, SL, T, Nat.reduceEqDiff, Nat.reduceAdd, Nat.reduceSub, Nat.reduceMul, Nat.reduceLeDiff, Nat.reduceLT, reduceIte]
    refine (Chain_spec _ l (by omega) a b w2 (h.ext (hE1.trans hE2))).mono ?_
    rintro _ w3 ⟨rfl, hE3⟩
    simp only [VS, VD, SV, SL, T, Nat.reduceEqDiff, Nat.reduceAdd, Nat.reduceSub, Nat.reduceMul, Nat.reduceLeDiff, Nat.reduceLT, reduceIte, dEq]
    exact hΨ _ _ ⟨by simp, (hE1.trans hE2).trans hE3⟩
end Go.Proofs.Ytjilblndcbphgaa

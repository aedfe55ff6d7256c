/-
  The laws' next.
-/
import Derived.Test.YtjilblndcbphgaaZGA4
set_option linter.unusedSimpArgs false
set_option linter.unusedVariables false
namespace Go.Proofs.Ytjilblndcbphgaa
open Go.W Go.RowKit
abbrev rowV (u : Value) : List Value := [u]
theorem intss_of {w : World} {base : Nat} {v : Value} {us : List Value} {L : List (List Int)} (ho : OwnL rowV base 29 1 w v us) (hl : us.length = L.length) (h : ∀ (j : Nat) u l, us[j]? = some u → L[j]? = some l → IntsAt w u l) : IntssAt w v L := by
  have hs := ho.sl (fun _ => rfl)
  rcases hs with ⟨h1, h2⟩ | ⟨b, off, cap, h1, h2⟩
  · left
    refine ⟨h1, ?_⟩
    have : us = [] := by simpa using h2
    rw [this] at hl
    exact List.length_eq_zero_iff.1 hl.symm
  · refine .inr ⟨b, off, cap, by rw [h1, List.length_map, hl], fun i l hi => ?_⟩
    have hil := (List.getElem?_eq_some_iff.1 hi).1
    have hu : us[i]? = some (us[i]'(by omega)) := by simp
    have h3 := h2 i [us[i]'(by omega)] (by rw [List.getElem?_map, hu]; rfl)
    rw [Nat.mul_one] at h3
    obtain ⟨cs, e, fz, h4, h5, h6⟩ := rd_obj h3
    refine ⟨us[i]'(by omega), ?_, h i _ l hu hi⟩
    rw [cell_mk, h4]
    have h7 := congrArg (fun a : Array Value => a[0]?) h6
    simp only [Array.getElem?_extract] at h7
    rw [if_pos (by omega)] at h7
    simpa using h7
set_option maxRecDepth 10000 in
theorem next_spec (gv : Value) (B : List Blk) (PV : List (List Int)) (hB : B.length ≤ 9223372036854775807) (w : World) (h : GrAt w gv B PV) : VRet Try.prog 13 #[gv] w fun v w' => Ext w w' ∧ ((¬ (B.length ≤ 14 ∧ VG B PV = true) ∧ v = .tuple #[.slice none 0 0, .bool false]) ∨ (B.length ≤ 14 ∧ VG B PV = true ∧ ∃ nv, v = .tuple #[nv, .bool true] ∧ IntssAt w' nv (nx B))) := by
  obtain ⟨bs, pv, rfl, hb0, hp0⟩ := h
  obtain ⟨ba, bc, rfl⟩ := hb0.form
  obtain ⟨pa, pc, rfl⟩ := hp0.form'
  refine VRet_start T.mo ok13 rfl fun Ψ hΨ => ?_; simp only [vc13, rs13]
  simp only [VS, VD, SV, SL, T, Nat.reduceEqDiff, Nat.reduceAdd, Nat.reduceSub, Nat.reduceMul, Nat.reduceLeDiff, Nat.reduceLT, reduceIte]
  have hE1 := (Ext.refl w).alloc tomb
  by_cases h14 : 14 < (B.length : Int)
  · rw [decide_eq_true h14]
    simp only [VS, VD, SV, SL, T, Nat.reduceEqDiff, Nat.reduceAdd, Nat.reduceSub, Nat.reduceMul, Nat.reduceLeDiff, Nat.reduceLT, reduceIte]
    exact hΨ _ _ ⟨hE1, .inl ⟨by omega, rfl⟩⟩
  rw [decide_eq_false h14]
  simp only [VS, VD, SV, SL, T, Nat.reduceEqDiff, Nat.reduceAdd, Nat.reduceSub, Nat.reduceMul, Nat.reduceLeDiff, Nat.reduceLT, reduceIte]
  refine (Valid_spec _ B PV (by omega) _ ⟨_, _, rfl, hb0.ext hE1, hp0.ext hE1⟩).mono ?_
  rintro _ w2 ⟨rfl, hE2⟩
  replace hE2 := hE1.trans hE2
  cases hV : VG B PV with
  | false =>
    simp only [VS, VD, SV, SL, T, Nat.reduceEqDiff, Nat.reduceAdd, Nat.reduceSub, Nat.reduceMul, Nat.reduceLeDiff, Nat.reduceLT, reduceIte, Bool.not_false]
    exact hΨ _ _ ⟨hE2, .inl ⟨by simp [hV], rfl⟩⟩
  | true =>
    simp only [VS, VD, SV, SL, T, Nat.reduceEqDiff, Nat.reduceAdd, Nat.reduceSub, Nat.reduceMul, Nat.reduceLeDiff, Nat.reduceLT, reduceIte, Bool.not_true]
    refine LoopP_intro (α := Nat) (fun i g w' => g 1 = .agg #[.slice ba B.length bc, .slice pa PV.length pc] ∧ g 5 = .int .i64 i ∧ i ≤ B.length ∧ Ext w2 w' ∧ ∃ us, OwnL rowV w2.heap.size 29 1 w' (g 4) us ∧ us.length = i ∧ ∀ (j : Nat) u l, us[j]? = some u → (nx B)[j]? = some l → IntsAt w u l) (fun i => B.length - i) 0 ?_ ?_
    · simp only [VS, VD, SV, SL, T, Nat.reduceEqDiff, Nat.reduceAdd, Nat.reduceSub, Nat.reduceMul, Nat.reduceLeDiff, Nat.reduceLT, reduceIte]
      exact ⟨rfl, Nat.zero_le _, Ext.refl _, [], OwnL.nil _ _ _ _ _, rfl, fun j u l hu => by simp at hu⟩
    · rintro i g w' ⟨g1, g5, hi, hE, us, ho, hul, hus⟩
      simp only [VS, VD, SV, SL, T, Nat.reduceEqDiff, Nat.reduceAdd, Nat.reduceSub, Nat.reduceMul, Nat.reduceLeDiff, Nat.reduceLT, reduceIte, g1, g5]
      by_cases hlt : (i : Int) < B.length
      · rw [decide_eq_true hlt]
        have hi' : i < B.length := by omega
        obtain ⟨b, off, cs, et, fz, u, rfl, hb, hsz, hcs, hcu, hu⟩ := hb0.get hi'
        replace hb := (hE2.trans hE).obj hb
        have hone : Go.W.one u = true := by obtain ⟨ua, uc, rfl⟩ := hu.form; rfl
        obtain ⟨ua, uc, rfl⟩ := hu.form
        simp only [VS, VD, SV, SL, T, Nat.reduceEqDiff, Nat.reduceAdd, Nat.reduceSub, Nat.reduceMul, Nat.reduceLeDiff, Nat.reduceLT, reduceIte, g1, g5, hb, hcu, Int.toNat_natCast]
        refine ⟨by omega, ?_⟩
        refine OwnL.app1 (R := rowV) (base := w2.heap.size) (w := w') T.el23 T.sz29 T.by29 T.zr29 rfl (by omega) ho (.slice ua B[i].2.2.length uc) rfl rfl (by omega) (by omega) hE.size ?_
        intro v' w3 ho3 hx3 hg3
        simp only [VS, VD, SV, SL, T, Nat.reduceEqDiff, Nat.reduceAdd, Nat.reduceSub, Nat.reduceMul, Nat.reduceLeDiff, Nat.reduceLT, reduceIte, g1, g5]
        refine ⟨by omega, i + 1, ⟨by simp, by omega, hx3 w2 hE (Nat.le_refl _), _, ho3, by simp [hul], fun j u' l hj hl => ?_⟩, by omega⟩
        rw [List.getElem?_append] at hj
        split at hj
        · exact hus j u' l hj hl
        · rename_i hjl
          have hji : j = i := by
            have := (List.getElem?_eq_some_iff.1 hj).1
            simp at this
            omega
          subst hji
          rw [hul] at hj
          simp at hj
          subst hj
          unfold nx at hl
          rw [List.getElem?_map, List.getElem?_eq_getElem hi'] at hl
          simp at hl
          subst hl
          exact hu
      · rw [decide_eq_false hlt]
        have hEw := hE2.trans hE
        simp only [VS, VD, SV, SL, T, Nat.reduceEqDiff, Nat.reduceAdd, Nat.reduceSub, Nat.reduceMul, Nat.reduceLeDiff, Nat.reduceLT, reduceIte]
        refine hΨ _ _ ⟨hEw, .inr ⟨by omega, hV, _, rfl, intss_of ho (by unfold nx; rw [List.length_map]; omega) fun j u l hj hl => (hus j u l hj hl).ext hEw⟩⟩
end Go.Proofs.Ytjilblndcbphgaa

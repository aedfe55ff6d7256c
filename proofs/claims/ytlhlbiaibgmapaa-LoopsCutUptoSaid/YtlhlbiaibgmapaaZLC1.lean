/-
  The laws' next, found; the examples of the chapter, plain.
-/
import Derived.Test.YtlhlbiaibgmapaaZLB
import Derived.Test.YtlhlbiaibgmapaaZGB8
import Derived.Test.YtlhlbiaibgmapaaZGB5
set_option linter.unusedSimpArgs false
set_option linter.unusedVariables false
namespace Go.Proofs.Ytlhlbiaibgmapaa
open Go.W Go.RowKit
def exA : List (List Int) := [[1], [2], [1, 3], []]
def exB : List (List Int) := [[1, 2], [2], [1]]
theorem exA_fnd : fnd exA = [(1, [1, 2], [2], -1)] := by decide +kernel
theorem exA_bad : (edg 0 exA).find? (badE exA) = none := by decide +kernel
theorem exB_bad : (edg 0 exB).find? (badE exB) = some (2, 1) := by decide +kernel
theorem exA_ent : (edg 0 exA).filter (entB (1, [1, 2], [2], -1)) = [(0, 1)] := by decide +kernel
theorem exA_exi : (edg 0 exA).filter (exiB (1, [1, 2], [2], -1)) = [(2, 3)] := by decide +kernel
theorem exA_nv : NV exA := ⟨by unfold NOk exA; decide, by decide, by unfold exA; decide, by unfold exA; decide⟩
theorem exB_nv : NV exB := ⟨by unfold NOk exB; decide, by decide, by unfold exB; decide, by unfold exB; decide⟩
set_option maxRecDepth 10000 in
theorem next_spec (gv : Value) (B : List Blk) (PV : List (List Int)) (hB : B.length ≤ 9223372036854775807) (w : World) (h : GrAt w gv B PV) : VRet Try.prog 13 #[gv] w fun v w' => Ext w w' ∧ ((¬ (B.length ≤ 14 ∧ VG B PV = true) ∧ v = .tuple #[.slice none 0 0, .bool false]) ∨ (B.length ≤ 14 ∧ VG B PV = true ∧ ∃ nv, v = .tuple #[nv, .bool true] ∧ IntssAt w' nv (nx B))) := by
  obtain ⟨bs, pv, rfl, hb0, hp0⟩ := h
  obtain ⟨ba, bc, rfl⟩ := hb0.form
  obtain ⟨pa, pc, rfl⟩ := hp0.form'
  refine VRet_start T.mo ok13 rfl fun Ψ hΨ => ?_; simp only [vc13, rs13]
  simp only [VS, VD, SV, SL, T, Nat.reduceEqDiff, Nat.reduceAdd, Nat.reduceSub, Nat.reduceMul, Nat.reduceLeDiff, Nat.reduceLT, reduceIte]
  have hE1 := (Ext.refl w).alloc tomb
  by_cases h14 : 14 < (B.length : Int)
  · rw [decide_eq_true h14]
    simp only [VS, VD, SV, SL, T, Nat.reduceEqDiff, Nat.reduceAdd, Nat.reduceSub, Nat.reduceMul, Nat.reduceLeDiff, Nat.reduceLT, reduceIte]
    exact hΨ _ _ ⟨hE1, .inl ⟨by omega, rfl⟩⟩
  rw [decide_eq_false h14]
  simp only [VS, VD, SV, SL, T, Nat.reduceEqDiff, Nat.reduceAdd, Nat.reduceSub, Nat.reduceMul, Nat.reduceLeDiff, Nat.reduceLT, reduceIte]
  refine (Valid_spec _ B PV (by omega) _ ⟨_, _, rfl, hb0.ext hE1, hp0.ext hE1⟩).mono ?_
  rintro _ w2 ⟨rfl, hE2⟩
  replace hE2 := hE1.trans hE2
  cases hV : VG B PV with
  | false =>
    simp only [VS, VD, SV, SL, T, Nat.reduceEqDiff, Nat.reduceAdd, Nat.reduceSub, Nat.reduceMul, Nat.reduceLeDiff, Nat.reduceLT, reduceIte, Bool.not_false]
    exact hΨ _ _ ⟨hE2, .inl ⟨by simp [hV], rfl⟩⟩
  | true =>
    simp only [VS, VD, SV, SL, T, Nat.reduceEqDiff, Nat.reduceAdd, Nat.reduceSub, Nat.reduceMul, Nat.reduceLeDiff, Nat.reduceLT, reduceIte, Bool.not_true]
    refine LoopP_intro (α := Nat) (fun i g w' => g 1 = .agg #[.slice ba B.length bc, .slice pa PV.length pc] ∧ g 17 = .int .i64 B.length ∧ g 18 = .int .i64 i ∧ i ≤ B.length ∧ Ext w2 w' ∧ ∃ us, OwnL rowV w2.heap.size 36 1 w' (g 4) us ∧ us.length = i ∧ ∀ (j : Nat) u l, us[j]? = some u → (nx B)[j]? = some l → IntsAt w u l) (fun i => B.length - i) 0 ?_ ?_
    · simp only [VS, VD, SV, SL, T, Nat.reduceEqDiff, Nat.reduceAdd, Nat.reduceSub, Nat.reduceMul, Nat.reduceLeDiff, Nat.reduceLT, reduceIte]
      exact ⟨rfl, Nat.zero_le _, Ext.refl _, [], OwnL.nil _ _ _ _ _, rfl, fun j u l hu => by simp at hu⟩
    · rintro i g w' ⟨g1, g17, g18, hi, hE, us, ho, hul, hus⟩
      simp only [VS, VD, SV, SL, T, Nat.reduceEqDiff, Nat.reduceAdd, Nat.reduceSub, Nat.reduceMul, Nat.reduceLeDiff, Nat.reduceLT, reduceIte, g17, g18]
      by_cases hlt : (i : Int) < B.length
      · rw [decide_eq_true hlt]
        have hi' : i < B.length := by omega
        obtain ⟨b, off, cs, et, fz, u, rfl, hb, hsz, hcs, hcu, hu⟩ := hb0.get hi'
        replace hb := (hE2.trans hE).obj hb
        have hone : Go.W.one u = true := by obtain ⟨ua, uc, rfl⟩ := hu.form; rfl
        obtain ⟨ua, uc, rfl⟩ := hu.form
        simp only [VS, VD, SV, SL, T, Nat.reduceEqDiff, Nat.reduceAdd, Nat.reduceSub, Nat.reduceMul, Nat.reduceLeDiff, Nat.reduceLT, reduceIte, g1, g18, hb, hcu, Int.toNat_natCast]
        refine ⟨by omega, ?_⟩
        refine OwnL.app1 (R := rowV) (base := w2.heap.size) (w := w') T.el23 T.sz36 T.by36 T.zr36 rfl (by omega) ho (.slice ua B[i].2.2.length uc) rfl rfl (by omega) (by omega) hE.size ?_
        intro v' w3 ho3 hx3 hg3
        simp only [VS, VD, SV, SL, T, Nat.reduceEqDiff, Nat.reduceAdd, Nat.reduceSub, Nat.reduceMul, Nat.reduceLeDiff, Nat.reduceLT, reduceIte, g1, g17, g18]
        refine ⟨by omega, i + 1, ⟨by simp, by omega, hx3 w2 hE (Nat.le_refl _), _, ho3, by simp [hul], fun j u' l hj hl => ?_⟩, by omega⟩
        rw [List.getElem?_append] at hj
        split at hj
        · exact hus j u' l hj hl
        · rename_i hjl
          have hji : j = i := by
            have := (List.getElem?_eq_some_iff.1 hj).1
            simp at this
            omega
          subst hji
          rw [hul] at hj
          simp at hj
          subst hj
          unfold nx at hl
          rw [List.getElem?_map, List.getElem?_eq_getElem hi'] at hl
          simp at hl
          subst hl
          exact hu
      · rw [decide_eq_false hlt]
        have hEw := hE2.trans hE
        simp only [VS, VD, SV, SL, T, Nat.reduceEqDiff, Nat.reduceAdd, Nat.reduceSub, Nat.reduceMul, Nat.reduceLeDiff, Nat.reduceLT, reduceIte]
        refine hΨ _ _ ⟨hEw, .inr ⟨by omega, hV, _, rfl, intss_of ho (by unfold nx; rw [List.length_map]; omega) fun j u l hj hl => (hus j u l hj hl).ext hEw⟩⟩
set_option maxRecDepth 10000 in
theorem found_spec (gv : Value) (B : List Blk) (PV : List (List Int)) (hB : B.length ≤ 2000000) (w : World) (h : GrAt w gv B PV) : VRet Try.prog 17 #[gv] w fun v w' => Ext w w' ∧ ((∃ a n c a' n' c', v = .tuple #[.slice a n c, .slice a' n' c', .bool false]) ∨ (B.length ≤ 14 ∧ VG B PV = true ∧ (edg 0 (nx B)).find? (badE (nx B)) = none ∧ ∃ nv lv, v = .tuple #[nv, lv, .bool true] ∧ IntssAt w' nv (nx B) ∧ LpsAt w' lv (fnd (nx B)))) := by
  obtain ⟨bs, pv, rfl, hb0, hp0⟩ := h
  obtain ⟨ba, bc, rfl⟩ := hb0.form
  obtain ⟨pa, pc, rfl⟩ := hp0.form'
  refine VRet_start T.mo ok17 rfl fun Ψ hΨ => ?_; simp only [vc17, rs17]
  simp only [VS, VD, SV, SL, T, Nat.reduceEqDiff, Nat.reduceAdd, Nat.reduceSub, Nat.reduceMul, Nat.reduceLeDiff, Nat.reduceLT, reduceIte]
  have hE1 := (Ext.refl w).alloc tomb
  generalize w.alloc tomb = w1 at *
  refine (next_spec _ B PV (by omega) w1 ⟨_, _, rfl, hb0.ext hE1, hp0.ext hE1⟩).mono ?_
  rintro _ w2 ⟨hE2, hc⟩
  replace hE2 := hE1.trans hE2
  have hF := Find_spec (.agg #[.slice ba B.length bc, .slice pa PV.length pc]) B PV hB w2 ⟨_, _, rfl, hb0.ext hE2, hp0.ext hE2⟩
  have fin : ∀ (v : Value) (w3 : World), FindQ B PV v w3 → ∃ a n c x y, v = .tuple #[.slice a n c, .int .i64 x, .int .i64 y] ∧ (y = 0 → VG B PV = true ∧ (edg 0 (nx B)).find? (badE (nx B)) = none ∧ LpsAt w3 (.slice a n c) (fnd (nx B))) := fun v w3 hQ => by
    obtain ⟨q1, q2⟩ := hQ
    cases hV : VG B PV with
    | false => exact ⟨_, _, _, _, _, q1 hV, by simp⟩
    | true =>
      obtain ⟨q2, q3⟩ := q2 hV
      cases hf : (edg 0 (nx B)).find? (badE (nx B)) with
      | some e => exact ⟨_, _, _, _, _, q2 e hf, by simp⟩
      | none =>
        obtain ⟨lv, rfl, hL⟩ := q3 hf
        obtain ⟨a, c, rfl⟩ := hL.form
        exact ⟨_, _, _, _, _, rfl, fun _ => ⟨rfl, rfl, hL⟩⟩
  rcases hc with ⟨hbad, rfl⟩ | ⟨h14, hV, nv, rfl, hN⟩
  · simp only [VS, VD, SV, SL, T, Nat.reduceEqDiff, Nat.reduceAdd, Nat.reduceSub, Nat.reduceMul, Nat.reduceLeDiff, Nat.reduceLT, reduceIte]
    refine hF.mono ?_
    rintro _ w3 ⟨hQ, hE3⟩
    obtain ⟨a, n, c, x, y, rfl, _⟩ := fin _ _ hQ
    simp only [VS, VD, SV, SL, T, Nat.reduceEqDiff, Nat.reduceAdd, Nat.reduceSub, Nat.reduceMul, Nat.reduceLeDiff, Nat.reduceLT, reduceIte]
    exact hΨ _ _ ⟨hE2.trans hE3, .inl ⟨_, _, _, _, _, _, rfl⟩⟩
  · obtain ⟨na, nc, rfl⟩ := hN.form'
    simp only [VS, VD, SV, SL, T, Nat.reduceEqDiff, Nat.reduceAdd, Nat.reduceSub, Nat.reduceMul, Nat.reduceLeDiff, Nat.reduceLT, reduceIte]
    refine hF.mono ?_
    rintro _ w3 ⟨hQ, hE3⟩
    obtain ⟨a, n, c, x, y, rfl, hy⟩ := fin _ _ hQ
    simp only [VS, VD, SV, SL, T, Nat.reduceEqDiff, Nat.reduceAdd, Nat.reduceSub, Nat.reduceMul, Nat.reduceLeDiff, Nat.reduceLT, reduceIte]
    by_cases hy0 : y = 0
    · obtain ⟨_, y2, y3⟩ := hy hy0
      rw [decide_eq_true hy0]
      exact hΨ _ _ ⟨hE2.trans hE3, .inr ⟨h14, hV, y2, _, _, rfl, hN.ext hE3, y3⟩⟩
    · rw [decide_eq_false hy0]
      exact hΨ _ _ ⟨hE2.trans hE3, .inl ⟨_, _, _, _, _, _, rfl⟩⟩
end Go.Proofs.Ytlhlbiaibgmapaa

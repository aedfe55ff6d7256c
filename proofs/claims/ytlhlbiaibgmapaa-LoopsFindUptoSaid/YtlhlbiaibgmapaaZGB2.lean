/-
  The reference's Order, In.
-/
import Derived.Test.YtlhlbiaibgmapaaZGB1
set_option linter.unusedSimpArgs false
set_option linter.unusedVariables false
namespace Go.Proofs.Ytlhlbiaibgmapaa
open Go.W Go.RowKit
set_option maxRecDepth 10000 in
theorem rOrder_spec {N : List (List Int)} (hN : NOk N) (h0 : 0 < N.length) (hn : N.length ≤ 2000000) (hd2 : ∀ l ∈ N, l.length ≤ 2) (nv : Value) (w : World) (hNv : IntssAt w nv N) :
    VRet Try.prog 35 #[nv] w fun v w' => IntsAt w' v (ord N) ∧ Ext w w' := by
  obtain ⟨na, nc, rfl⟩ := hNv.form'
  have z0 : #[Value.bool false][0]! = Value.bool false := rfl
  have hlvl := lv_len hN h0
  have hol : (ord N).length = (lv N).length := by unfold ord; rw [List.length_reverse]
  refine VRet_start T.mo ok35 rfl fun Ψ hΨ => ?_; simp only [vc35, rs35]
  simp only [VS, VD, SV, SL, T, Nat.reduceEqDiff, Nat.reduceAdd, Nat.reduceSub, Nat.reduceMul, Nat.reduceLeDiff, Nat.reduceLT, reduceIte, z0, Int.toNat_natCast]
  refine ⟨by omega, ?_⟩
  have hE1 := (Ext.refl w).alloc (.cells (Array.replicate N.length (.bool false)) 4)
  have hBB : BB (w.alloc (.cells (Array.replicate N.length (.bool false)) 4)) w.heap.size N.length (fun _ => false) := ⟨_, alloc_get_new _ _, by simp, fun i hi => by simp [hi]⟩
  have hsz : w.heap.size + 1 ≤ (w.alloc (.cells (Array.replicate N.length (.bool false)) 4)).heap.size := by rw [alloc_size]; omega
  generalize w.alloc (.cells (Array.replicate N.length (.bool false)) 4) = w1 at *
  refine (leave_spec hN hn hd2 (w0 := w) (q := w.heap.size) (base := w.heap.size + 1) (Nat.le_refl _) (by omega) hNv N.length (fun _ => false) [] 0 h0 (by rw [uns_none]; omega) (by rw [uns_none]; simp) (.slice none 0 0) w1 hE1 hsz hBB (World.ownsRow_nil _ _ _ _)).mono ?_
  rintro v2 w2 ⟨hE2, hb2, _, hO2⟩
  have hO2' : IntO (w.heap.size + 1) w2 v2 (lv N) := hO2
  have hI2 := hO2'.ints
  obtain ⟨la, lc, rfl⟩ := hI2.form
  simp only [VS, VD, SV, SL, T, Nat.reduceEqDiff, Nat.reduceAdd, Nat.reduceSub, Nat.reduceMul, Nat.reduceLeDiff, Nat.reduceLT, reduceIte]
  refine ⟨by omega, ?_⟩
  refine LoopP_intro (α := Nat) (fun j g w' => g 3 = .slice la (lv N).length lc ∧ g 5 = .int .i64 (((lv N).length : Int) - 1 - j) ∧ j ≤ (lv N).length ∧ Ext w2 w' ∧ IntO w2.heap.size w' (g 4) ((ord N).take j)) (fun j => (lv N).length - j) 0 ?_ ?_
  · simp only [VS, VD, SV, SL, T, Nat.reduceEqDiff, Nat.reduceAdd, Nat.reduceSub, Nat.reduceMul, Nat.reduceLeDiff, Nat.reduceLT, reduceIte]
    exact ⟨by simp, Nat.zero_le _, Ext.refl _, World.ownsRow_nil _ _ _ _⟩
  · rintro j g w' ⟨g3, g5, hj, hE, hO⟩
    simp only [VS, VD, SV, SL, T, Nat.reduceEqDiff, Nat.reduceAdd, Nat.reduceSub, Nat.reduceMul, Nat.reduceLeDiff, Nat.reduceLT, reduceIte, g5]
    by_cases hlt : 0 ≤ ((lv N).length : Int) - 1 - j
    · rw [decide_eq_true hlt]
      obtain ⟨q, hq⟩ := Int.eq_ofNat_of_zero_le hlt
      have hql : q < (lv N).length := by omega
      obtain ⟨bb, bo, bcs, be, bfz, rfl, _, hbb, hbc⟩ := (hI2.ext hE).get (i := q) (x := (lv N)[q]) (by simp)
      have htk : (ord N).take (j + 1) = (ord N).take j ++ [(lv N)[q]] := by
        rw [List.take_succ_eq_append_getElem (by omega)]
        congr 2
        unfold ord
        rw [List.getElem_reverse]
        congr 1
        omega
      have htl : ((ord N).take j).length = j := by rw [List.length_take]; omega
      rw [hq] at g5
      simp only [VS, VD, SV, SL, T, Nat.reduceEqDiff, Nat.reduceAdd, Nat.reduceSub, Nat.reduceMul, Nat.reduceLeDiff, Nat.reduceLT, reduceIte, g3, g5, hbb, hbc, Int.toNat_natCast]
      refine ⟨by omega, ?_⟩
      refine app_int hO (by omega) hE.size _ ?_
      intro v' w3 ho3 hg3 hnew
      simp only [VS, VD, SV, SL, T, Nat.reduceEqDiff, Nat.reduceAdd, Nat.reduceSub, Nat.reduceMul, Nat.reduceLeDiff, Nat.reduceLT, reduceIte, g3, g5]
      exact ⟨by omega, j + 1, ⟨by simp; omega, by omega, hE.grownO hO (Nat.le_refl _) hg3, by rw [htk]; exact ho3⟩, by omega⟩
    · rw [decide_eq_false hlt]
      rw [List.take_of_length_le (by omega)] at hO
      simp only [VS, VD, SV, SL, T, Nat.reduceEqDiff, Nat.reduceAdd, Nat.reduceSub, Nat.reduceMul, Nat.reduceLeDiff, Nat.reduceLT, reduceIte]
      exact hΨ _ _ ⟨hO.ints, hE2.trans hE⟩

end Go.Proofs.Ytlhlbiaibgmapaa

/-
  The reference's Reach.
-/
import Derived.Test.YtlhlbiaibgmapaaZGP9
import Derived.Test.YtlhlbiaibgmapaaZGA4
set_option linter.unusedSimpArgs false
set_option linter.unusedVariables false
namespace Go.Proofs.Ytlhlbiaibgmapaa
open Go.W Go.RowKit
set_option maxRecDepth 10000 in
theorem Reach_spec {N : List (List Int)} (hN : NOk N) (h0 : 0 < N.length) (hn : N.length ≤ 2000000) (hd2 : ∀ l ∈ N, l.length ≤ 2) (nv : Value) (skip : Int) (w : World) (hNv : IntssAt w nv N) :
    VRet Try.prog 22 #[nv, .int .i64 skip] w fun v w' => (∃ q, v = .slice (some ⟨q, 0, none⟩) N.length N.length ∧ BB w' q N.length (rch N skip)) ∧ Ext w w' := by
  obtain ⟨na, nc, rfl⟩ := hNv.form'
  have z0 : #[Value.bool false][0]! = Value.bool false := rfl
  have t0 : (0 : Int).toNat = 0 := rfl
  have d0 : decide ((N.length : Int) = 0) = false := decide_eq_false (by omega)
  refine VRet_start T.mo ok22 rfl fun Ψ hΨ => ?_; simp only [vc22, rs22]
  simp only [VS, VD, SV, SL, T, Nat.reduceEqDiff, Nat.reduceAdd, Nat.reduceSub, Nat.reduceMul, Nat.reduceLeDiff, Nat.reduceLT, reduceIte, z0, Int.toNat_natCast, d0]
  refine ⟨by omega, ?_⟩
  have hE1 := (Ext.refl w).alloc (.cells (Array.replicate N.length (.bool false)) 4)
  have hq1 : (w.alloc (.cells (Array.replicate N.length (.bool false)) 4)).heap[w.heap.size]? = some (.cells (Array.replicate N.length (.bool false)) 4 (0, 0)) := alloc_get_new _ _
  generalize w.alloc (.cells (Array.replicate N.length (.bool false)) 4) = w1 at *
  have hql := get_lt hq1
  by_cases hs : skip = 0
  · rw [decide_eq_true hs]
    simp only [VS, VD, SV, SL, T, Nat.reduceEqDiff, Nat.reduceAdd, Nat.reduceSub, Nat.reduceMul, Nat.reduceLeDiff, Nat.reduceLT, reduceIte]
    exact hΨ _ _ ⟨⟨_, rfl, _, hq1, by simp, fun i hi => by simp [hi, rch, hs]⟩, hE1⟩
  · rw [decide_eq_false hs]
    have hBB := BB.set (w := w1) (S := fun _ => false) hql (n := N.length) (cs := Array.replicate N.length (.bool false)) (by simp) (fun i hi => by simp [hi]) 0
    have hE2 := hE1.putb (Nat.le_refl _) (.cells ((Array.replicate N.length (.bool false)).setIfInBounds 0 (.bool true)) 4 (0, 0))
    simp only [VS, VD, SV, SL, T, Nat.reduceEqDiff, Nat.reduceAdd, Nat.reduceSub, Nat.reduceMul, Nat.reduceLeDiff, Nat.reduceLT, reduceIte, hq1, t0]
    refine ⟨by omega, by simp; omega, ?_⟩
    generalize w1.putb w.heap.size (.cells ((Array.replicate N.length (.bool false)).setIfInBounds 0 (.bool true)) 4 (0, 0)) = w2 at *
    refine LoopP_intro (α := Nat) (fun r g w' => g 0 = .slice na N.length nc ∧ g 1 = .int .i64 skip ∧ g 5 = .slice (some ⟨w.heap.size, 0, none⟩) N.length N.length ∧ g 6 = .int .i64 r ∧ r ≤ N.length ∧ Ext w w' ∧ BB w' w.heap.size N.length (rnds N skip (setS (fun _ => false) 0) r)) (fun r => N.length - r) 0 ?_ ?_
    · simp only [VS, VD, SV, SL, T, Nat.reduceEqDiff, Nat.reduceAdd, Nat.reduceSub, Nat.reduceMul, Nat.reduceLeDiff, Nat.reduceLT, reduceIte]
      exact ⟨rfl, Nat.zero_le _, hE2, hBB⟩
    · rintro r g w' ⟨g0, g1, g5, g6, hr, hE, hB⟩
      simp only [VS, VD, SV, SL, T, Nat.reduceEqDiff, Nat.reduceAdd, Nat.reduceSub, Nat.reduceMul, Nat.reduceLeDiff, Nat.reduceLT, reduceIte, g0, g6]
      by_cases hlt : (r : Int) < N.length
      · rw [decide_eq_true hlt]
        simp only [VS, VD, SV, SL, T, Nat.reduceEqDiff, Nat.reduceAdd, Nat.reduceSub, Nat.reduceMul, Nat.reduceLeDiff, Nat.reduceLT, reduceIte]
        refine LoopP_intro (α := Nat) (fun i g w' => g 0 = .slice na N.length nc ∧ g 1 = .int .i64 skip ∧ g 5 = .slice (some ⟨w.heap.size, 0, none⟩) N.length N.length ∧ g 6 = .int .i64 r ∧ g 7 = .int .i64 i ∧ i ≤ N.length ∧ Ext w w' ∧ BB w' w.heap.size N.length (rnd N skip (rnds N skip (setS (fun _ => false) 0) r) i)) (fun i => N.length - i) 0 ?_ ?_
        · simp only [VS, VD, SV, SL, T, Nat.reduceEqDiff, Nat.reduceAdd, Nat.reduceSub, Nat.reduceMul, Nat.reduceLeDiff, Nat.reduceLT, reduceIte, g0, g1, g5, g6]
          exact ⟨rfl, Nat.zero_le _, hE, hB⟩
        · clear g0 g1 g5 g6 hE hB g w'
          rintro i g w' ⟨g0, g1, g5, g6, g7, hi, hE, hB⟩
          simp only [VS, VD, SV, SL, T, Nat.reduceEqDiff, Nat.reduceAdd, Nat.reduceSub, Nat.reduceMul, Nat.reduceLeDiff, Nat.reduceLT, reduceIte, g0, g7]
          by_cases hil : (i : Int) < N.length
          · rw [decide_eq_true hil]
            have hi' : i < N.length := by omega
            obtain ⟨nb, no, ncs, ne, nfz, u, rfl, hnb, hncu, hu0⟩ := hNv.get' hi'
            have hsc : N[i] = sc N i := by unfold sc; rw [List.getD_eq_getElem?_getD, List.getElem?_eq_getElem hi']; rfl
            rw [hsc] at hu0
            have hscl : (sc N i).length ≤ 2 := by rw [← hsc]; exact hd2 _ (List.getElem_mem hi')
            obtain ⟨ua, uc, rfl⟩ := hu0.form
            generalize hR : rnd N skip (rnds N skip (setS (fun _ => false) 0) r) i = S at *
            have hR1 : rnd N skip (rnds N skip (setS (fun _ => false) 0) r) (i + 1) = rowR skip i S (sc N i) := by rw [rnd, hR]
            simp only [VS, VD, SV, SL, T, Nat.reduceEqDiff, Nat.reduceAdd, Nat.reduceSub, Nat.reduceMul, Nat.reduceLeDiff, Nat.reduceLT, reduceIte]
            refine LoopP_intro (α := Nat) (fun k g w' => g 0 = .slice (some ⟨nb, no, none⟩) N.length nc ∧ g 1 = .int .i64 skip ∧ g 5 = .slice (some ⟨w.heap.size, 0, none⟩) N.length N.length ∧ g 6 = .int .i64 r ∧ g 7 = .int .i64 i ∧ g 8 = .int .i64 k ∧ k ≤ (sc N i).length ∧ Ext w w' ∧ BB w' w.heap.size N.length (rowR skip i S ((sc N i).take k))) (fun k => (sc N i).length - k) 0 ?_ ?_
            · simp only [VS, VD, SV, SL, T, Nat.reduceEqDiff, Nat.reduceAdd, Nat.reduceSub, Nat.reduceMul, Nat.reduceLeDiff, Nat.reduceLT, reduceIte, g0, g1, g5, g6, g7]
              exact ⟨rfl, Nat.zero_le _, hE, hB⟩
            · clear g0 g1 g5 g6 g7 hE hB g w'
              rintro k g w' ⟨g0, g1, g5, g6, g7, g8, hk, hE, hB⟩
              have hnb' := hE.obj hnb
              simp only [VS, VD, SV, SL, T, Nat.reduceEqDiff, Nat.reduceAdd, Nat.reduceSub, Nat.reduceMul, Nat.reduceLeDiff, Nat.reduceLT, reduceIte, g0, g7, g8, hnb', hncu, Int.toNat_natCast]
              refine ⟨by omega, ?_⟩
              by_cases hkl : (k : Int) < (sc N i).length
              · rw [decide_eq_true hkl]
                have hk' : k < (sc N i).length := by omega
                obtain ⟨ub, uo, ucs, ue, ufz, rfl, _, hub, hucv⟩ := (hu0.ext hE).get (i := k) (x := (sc N i)[k]) (by simp)
                have htk : (sc N i).take (k + 1) = (sc N i).take k ++ [(sc N i)[k]] := List.take_succ_eq_append_getElem hk'
                have hsn := rowR_snoc skip i S ((sc N i).take k) (sc N i)[k]
                rw [← htk] at hsn
                obtain ⟨hx0, hx1⟩ := hN.sc (List.getElem_mem hk')
                generalize (sc N i)[k] = x at *
                obtain ⟨m, rfl⟩ := Int.eq_ofNat_of_zero_le hx0
                simp only [Int.toNat_natCast] at hx1 hsn
                obtain ⟨cs, hq, hqs, hqv⟩ := hB
                have hqi := hqv i hi'
                have hql' := get_lt hq
                cases hSi : rowR skip i S ((sc N i).take k) i with
                | false =>
                  rw [hSi] at hqi
                  rw [if_neg (by simp [hSi])] at hsn
                  simp only [VS, VD, SV, SL, T, Nat.reduceEqDiff, Nat.reduceAdd, Nat.reduceSub, Nat.reduceMul, Nat.reduceLeDiff, Nat.reduceLT, reduceIte, g0, g1, g5, g6, g7, g8, hq, hqi, Int.toNat_natCast]
                  exact ⟨by omega, by omega, k + 1, ⟨by simp, by omega, hE, by rw [hsn]; exact ⟨cs, hq, hqs, hqv⟩⟩, by omega⟩
                | true =>
                  rw [hSi] at hqi
                  by_cases hms : (m : Int) = skip
                  · rw [if_neg (fun q => q.2 hms)] at hsn
                    have d3 : decide (¬ (m : Int) = skip) = false := decide_eq_false (fun q => q hms)
                    simp only [VS, VD, SV, SL, T, Nat.reduceEqDiff, Nat.reduceAdd, Nat.reduceSub, Nat.reduceMul, Nat.reduceLeDiff, Nat.reduceLT, reduceIte, g0, g1, g5, g6, g7, g8, hq, hqi, hnb', hncu, hub, hucv, Int.toNat_natCast, d3]
                    exact ⟨by omega, by omega, by omega, by omega, k + 1, ⟨by simp, by omega, hE, by rw [hsn]; exact ⟨cs, hq, hqs, hqv⟩⟩, by omega⟩
                  · rw [if_pos ⟨hSi, hms⟩] at hsn
                    have d3 : decide (¬ (m : Int) = skip) = true := decide_eq_true hms
                    have hB2 := BB.set (w := w') hql' hqs hqv m
                    simp only [VS, VD, SV, SL, T, Nat.reduceEqDiff, Nat.reduceAdd, Nat.reduceSub, Nat.reduceMul, Nat.reduceLeDiff, Nat.reduceLT, reduceIte, g0, g1, g5, g6, g7, g8, hq, hqi, hnb', hncu, hub, hucv, Int.toNat_natCast, d3]
                    refine ⟨by omega, by omega, by omega, by omega, by omega, by omega, by omega, by omega, k + 1, ⟨by simp, by omega, hE.putb (Nat.le_refl _) _, by rw [hsn]; exact hB2⟩, by omega⟩
              · rw [decide_eq_false hkl]
                rw [List.take_of_length_le (by omega)] at hB
                simp only [VS, VD, SV, SL, T, Nat.reduceEqDiff, Nat.reduceAdd, Nat.reduceSub, Nat.reduceMul, Nat.reduceLeDiff, Nat.reduceLT, reduceIte, g0, g1, g5, g6, g7]
                exact ⟨by omega, i + 1, ⟨by simp, by omega, hE, by rw [hR1]; exact hB⟩, by omega⟩
          · rw [decide_eq_false hil]
            obtain rfl : i = N.length := by omega
            simp only [VS, VD, SV, SL, T, Nat.reduceEqDiff, Nat.reduceAdd, Nat.reduceSub, Nat.reduceMul, Nat.reduceLeDiff, Nat.reduceLT, reduceIte, g0, g1, g5, g6]
            exact ⟨by omega, r + 1, ⟨by simp, by omega, hE, hB⟩, by omega⟩
      · rw [decide_eq_false hlt]
        obtain rfl : r = N.length := by omega
        simp only [VS, VD, SV, SL, T, Nat.reduceEqDiff, Nat.reduceAdd, Nat.reduceSub, Nat.reduceMul, Nat.reduceLeDiff, Nat.reduceLT, reduceIte, g5]
        refine hΨ _ _ ⟨⟨_, rfl, ?_⟩, hE⟩
        unfold rch
        rw [if_neg hs]
        exact hB
end Go.Proofs.Ytlhlbiaibgmapaa

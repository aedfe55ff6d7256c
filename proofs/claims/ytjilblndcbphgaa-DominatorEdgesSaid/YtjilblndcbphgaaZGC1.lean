/-
  The reference's Frontier.
-/
import Derived.Test.YtjilblndcbphgaaZGB6
set_option linter.unusedSimpArgs false
set_option linter.unusedVariables false
namespace Go.Proofs.Ytjilblndcbphgaa
open Go.W Go.RowKit
theorem rrow_snoc (N : List (List Int)) (a b p : Nat) (l : List Int) (x : Int) : rrow N a b p (l ++ [x]) = (rrow N a b p l || (rch N (-1) p && (decide (x = (b : Int)) && rdom N a p))) := by simp [rrow]
theorem rfd_succ (N : List (List Int)) (a b k : Nat) : rfd N a b (k + 1) = (rfd N a b k || rrow N a b k (sc N k)) := by simp [rfd, List.range_succ]
/-- the frontiers of the blocks ahead of i whole, that of i as far as k -/
def rpart (N : List (List Int)) (i k a : Nat) : List Int := if a < i then rfr N N.length a else if a = i then rfr N k a else []
set_option maxRecDepth 10000 in
theorem rFrontier_spec {N : List (List Int)} (hN : NOk N) (h0 : 0 < N.length) (hn : N.length ≤ 2000000) (hd2 : ∀ l ∈ N, l.length ≤ 2) (nv : Value) (w : World) (hNv : IntssAt w nv N) :
    VRet Try.prog 21 #[nv] w fun v w' => (∃ q, v = .slice (some ⟨q, 0, none⟩) N.length N.length ∧ IntssAt w' v ((List.range N.length).map (rfr N N.length))) ∧ Ext w w' := by
  obtain ⟨na, nc, rfl⟩ := hNv.form'
  have z1 : #[Value.slice none 0 0][0]! = Value.slice none 0 0 := rfl
  refine VRet_start T.mo ok21 rfl fun Ψ hΨ => ?_; simp only [vc21, rs21]
  simp only [VS, VD, SV, SL, T, Nat.reduceEqDiff, Nat.reduceAdd, Nat.reduceSub, Nat.reduceMul, Nat.reduceLeDiff, Nat.reduceLT, reduceIte]
  refine (Reach_spec hN h0 hn hd2 _ (-1) w hNv).mono ?_
  rintro _ w1 ⟨⟨q, rfl, hBB⟩, hE1⟩
  simp only [VS, VD, SV, SL, T, Nat.reduceEqDiff, Nat.reduceAdd, Nat.reduceSub, Nat.reduceMul, Nat.reduceLeDiff, Nat.reduceLT, reduceIte, z1, Int.toNat_natCast]
  refine ⟨by omega, ?_⟩
  have hRo := RowsO.new (w := w1) N.length
  have hEn := (Ext.refl w1).alloc (.cells (Array.replicate N.length (.slice none 0 0)) 29)
  have hz : ∀ a, rfr N 0 a = [] := fun a => by unfold rfr; split <;> rfl
  have hR0 : RowsO w1.heap.size (w1.alloc (.cells (Array.replicate N.length (.slice none 0 0)) 29)) w1.heap.size ((List.range N.length).map (rpart N 0 0)) := by
    have : (List.range N.length).map (rpart N 0 0) = List.replicate N.length [] := by
      apply List.ext_getElem?
      intro i
      by_cases hi : i < N.length
      · simp only [List.getElem?_map, List.getElem?_range hi, Option.map_some, List.getElem?_replicate, hi, if_true]
        simp [rpart, hz]
      · simp [hi]
    rw [this]
    exact hRo
  generalize w1.alloc (.cells (Array.replicate N.length (.slice none 0 0)) 29) = w2 at *
  refine LoopP_intro (α := Nat) (fun i g w' => g 0 = .slice na N.length nc ∧ g 3 = .slice (some ⟨q, 0, none⟩) N.length N.length ∧ g 4 = .slice (some ⟨w1.heap.size, 0, none⟩) N.length N.length ∧ g 5 = .int .i64 i ∧ i ≤ N.length ∧ Ext w1 w' ∧ RowsO w1.heap.size w' w1.heap.size ((List.range N.length).map (rpart N i 0))) (fun i => N.length - i) 0 ?_ ?_
  · simp only [VS, VD, SV, SL, T, Nat.reduceEqDiff, Nat.reduceAdd, Nat.reduceSub, Nat.reduceMul, Nat.reduceLeDiff, Nat.reduceLT, reduceIte]
    exact ⟨rfl, Nat.zero_le _, hEn, hR0⟩
  · clear hR0 hEn hRo w2
    rintro i g w2 ⟨g0, g3, g4, g5, hi, hE, hR⟩
    simp only [VS, VD, SV, SL, T, Nat.reduceEqDiff, Nat.reduceAdd, Nat.reduceSub, Nat.reduceMul, Nat.reduceLeDiff, Nat.reduceLT, reduceIte, g0, g5]
    by_cases hlt : (i : Int) < N.length
    · rw [decide_eq_true hlt]
      have hi' : i < N.length := by omega
      simp only [VS, VD, SV, SL, T, Nat.reduceEqDiff, Nat.reduceAdd, Nat.reduceSub, Nat.reduceMul, Nat.reduceLeDiff, Nat.reduceLT, reduceIte]
      refine LoopP_intro (α := Nat) (fun b g w' => g 0 = .slice na N.length nc ∧ g 3 = .slice (some ⟨q, 0, none⟩) N.length N.length ∧ g 4 = .slice (some ⟨w1.heap.size, 0, none⟩) N.length N.length ∧ g 5 = .int .i64 i ∧ g 6 = .int .i64 b ∧ b ≤ N.length ∧ (b = 0 ∨ rch N (-1) i = true) ∧ Ext w1 w' ∧ RowsO w1.heap.size w' w1.heap.size ((List.range N.length).map (rpart N i b))) (fun b => N.length - b) 0 ?_ ?_
      · simp only [VS, VD, SV, SL, T, Nat.reduceEqDiff, Nat.reduceAdd, Nat.reduceSub, Nat.reduceMul, Nat.reduceLeDiff, Nat.reduceLT, reduceIte, g0, g3, g4, g5]
        exact ⟨rfl, Nat.zero_le _, .inl trivial, hE, hR⟩
      · clear g0 g3 g4 g5 hE hR g w2
        rintro b g w2 ⟨g0, g3, g4, g5, g6, hb, hz0, hE, hR⟩
        obtain ⟨cs, hq, hqs, hqv⟩ := hBB.ext hE
        have hqi := hqv i hi'
        simp only [VS, VD, SV, SL, T, Nat.reduceEqDiff, Nat.reduceAdd, Nat.reduceSub, Nat.reduceMul, Nat.reduceLeDiff, Nat.reduceLT, reduceIte, g0, g6]
        refine YG_c (fun g2 w3 => g2 0 = .slice na N.length nc ∧ g2 3 = .slice (some ⟨q, 0, none⟩) N.length N.length ∧ g2 4 = .slice (some ⟨w1.heap.size, 0, none⟩) N.length N.length ∧ g2 5 = .int .i64 i ∧ g2 6 = .int .i64 b ∧ g2 30 = .bool (decide (b < N.length) && rch N (-1) i) ∧ w3 = w2) ?_ ?_
        · by_cases hbl : (b : Int) < N.length
          · rw [decide_eq_true hbl]
            simp only [VS, VD, SV, SL, T, Nat.reduceEqDiff, Nat.reduceAdd, Nat.reduceSub, Nat.reduceMul, Nat.reduceLeDiff, Nat.reduceLT, reduceIte, g0, g3, g4, g5, g6, hq, hqi, Int.toNat_natCast]
            refine ⟨by omega, ?_⟩
            rw [decide_eq_true (show b < N.length by omega)]
            simp
          · rw [decide_eq_false hbl]
            simp only [VS, VD, SV, SL, T, Nat.reduceEqDiff, Nat.reduceAdd, Nat.reduceSub, Nat.reduceMul, Nat.reduceLeDiff, Nat.reduceLT, reduceIte, g0, g3, g4, g5, g6]
            rw [decide_eq_false (show ¬ b < N.length by omega)]
            simp
        · rintro g2 w3 ⟨k0, k3, k4, k5, k6, k30, rfl⟩
          by_cases hc : b < N.length ∧ rch N (-1) i = true
          · obtain ⟨hbl, hri⟩ := hc
            have : (decide (b < N.length) && rch N (-1) i) = true := by simp [hbl, hri]
            rw [this] at k30
            simp only [VS, VD, SV, SL, T, Nat.reduceEqDiff, Nat.reduceAdd, Nat.reduceSub, Nat.reduceMul, Nat.reduceLeDiff, Nat.reduceLT, reduceIte, k30]
            refine loop_cB (fun g3 w4 => g3 0 = .slice na N.length nc ∧ g3 3 = .slice (some ⟨q, 0, none⟩) N.length N.length ∧ g3 4 = .slice (some ⟨w1.heap.size, 0, none⟩) N.length N.length ∧ g3 5 = .int .i64 i ∧ g3 6 = .int .i64 b ∧ g3 7 = .bool (rfd N i b N.length) ∧ Ext w3 w4) ?_ ?_
            · refine LoopP_intro (α := Nat) (fun p g3 w4 => g3 0 = .slice na N.length nc ∧ g3 3 = .slice (some ⟨q, 0, none⟩) N.length N.length ∧ g3 4 = .slice (some ⟨w1.heap.size, 0, none⟩) N.length N.length ∧ g3 5 = .int .i64 i ∧ g3 6 = .int .i64 b ∧ g3 7 = .bool (rfd N i b p) ∧ g3 8 = .int .i64 p ∧ p ≤ N.length ∧ Ext w3 w4) (fun p => N.length - p) 0 ?_ ?_
              · simp only [VS, VD, SV, SL, T, Nat.reduceEqDiff, Nat.reduceAdd, Nat.reduceSub, Nat.reduceMul, Nat.reduceLeDiff, Nat.reduceLT, reduceIte, k0, k3, k4, k5, k6]
                exact ⟨rfl, rfl, Nat.zero_le _, Ext.refl _⟩
              · rintro p g3 w4 ⟨m0, m3, m4, m5, m6, m7, m8, hp, hE4⟩
                simp only [VS, VD, SV, SL, T, Nat.reduceEqDiff, Nat.reduceAdd, Nat.reduceSub, Nat.reduceMul, Nat.reduceLeDiff, Nat.reduceLT, reduceIte, m0, m8]
                by_cases hpl : (p : Int) < N.length
                · rw [decide_eq_true hpl]
                  have hp' : p < N.length := by omega
                  simp only [VS, VD, SV, SL, T, Nat.reduceEqDiff, Nat.reduceAdd, Nat.reduceSub, Nat.reduceMul, Nat.reduceLeDiff, Nat.reduceLT, reduceIte]
                  refine LoopP_intro (α := Nat) (fun k g3 w4 => g3 0 = .slice na N.length nc ∧ g3 3 = .slice (some ⟨q, 0, none⟩) N.length N.length ∧ g3 4 = .slice (some ⟨w1.heap.size, 0, none⟩) N.length N.length ∧ g3 5 = .int .i64 i ∧ g3 6 = .int .i64 b ∧ g3 7 = .bool (rfd N i b p || rrow N i b p ((sc N p).take k)) ∧ g3 8 = .int .i64 p ∧ g3 9 = .int .i64 k ∧ k ≤ (sc N p).length ∧ Ext w3 w4) (fun k => (sc N p).length - k) 0 ?_ ?_
                  · simp only [VS, VD, SV, SL, T, Nat.reduceEqDiff, Nat.reduceAdd, Nat.reduceSub, Nat.reduceMul, Nat.reduceLeDiff, Nat.reduceLT, reduceIte, m0, m3, m4, m5, m6, m7, m8]
                    exact ⟨by simp [rrow], rfl, Nat.zero_le _, hE4⟩
                  · clear m0 m3 m4 m5 m6 m7 m8 hE4 g3 w4
                    rintro k g3 w4 ⟨m0, m3, m4, m5, m6, m7, m8, m9, hk, hE4⟩
                    have hNw := hNv.ext (hE1.trans (hE.trans hE4))
                    obtain ⟨cs, hq, hqs, hqv⟩ := hBB.ext (hE.trans hE4)
                    have hqp := hqv p hp'
                    obtain ⟨nb, no, ncs, ne, nfz, u, e1, hnb, hncu, hu0⟩ := hNw.get' hp'
                    subst e1
                    have hsc : N[p] = sc N p := by unfold sc; rw [List.getD_eq_getElem?_getD, List.getElem?_eq_getElem hp']; rfl
                    rw [hsc] at hu0
                    have hscl : (sc N p).length ≤ 2 := by rw [← hsc]; exact hd2 _ (List.getElem_mem hp')
                    obtain ⟨ua, uc, rfl⟩ := hu0.form
                    simp only [VS, VD, SV, SL, T, Nat.reduceEqDiff, Nat.reduceAdd, Nat.reduceSub, Nat.reduceMul, Nat.reduceLeDiff, Nat.reduceLT, reduceIte, m0, m8, m9, hnb, hncu, Int.toNat_natCast]
                    refine ⟨by omega, ?_⟩
                    by_cases hkl : (k : Int) < (sc N p).length
                    · rw [decide_eq_true hkl]
                      have hk' : k < (sc N p).length := by omega
                      obtain ⟨ub, uo, ucs, ue, ufz, rfl, _, hub, hucv⟩ := hu0.get (i := k) (x := (sc N p)[k]) (by simp)
                      have htk : (sc N p).take (k + 1) = (sc N p).take k ++ [(sc N p)[k]] := List.take_succ_eq_append_getElem hk'
                      have hsn := rrow_snoc N i b p ((sc N p).take k) (sc N p)[k]
                      rw [← htk] at hsn
                      generalize (sc N p)[k] = x at *
                      simp only [VS, VD, SV, SL, T, Nat.reduceEqDiff, Nat.reduceAdd, Nat.reduceSub, Nat.reduceMul, Nat.reduceLeDiff, Nat.reduceLT, reduceIte, m7]
                      refine YG_c (fun g4 w5 => g4 0 = .slice (some ⟨nb, no, none⟩) N.length nc ∧ g4 3 = .slice (some ⟨q, 0, none⟩) N.length N.length ∧ g4 4 = .slice (some ⟨w1.heap.size, 0, none⟩) N.length N.length ∧ g4 5 = .int .i64 i ∧ g4 6 = .int .i64 b ∧ g4 8 = .int .i64 p ∧ g4 9 = .int .i64 k ∧ g4 7 = .bool (rfd N i b p || rrow N i b p ((sc N p).take (k + 1))) ∧ Ext w3 w5) ?_ ?_
                      · cases hB : (rfd N i b p || rrow N i b p ((sc N p).take k)) with
                        | true =>
                          simp only [VS, VD, SV, SL, T, Nat.reduceEqDiff, Nat.reduceAdd, Nat.reduceSub, Nat.reduceMul, Nat.reduceLeDiff, Nat.reduceLT, reduceIte, m0, m3, m4, m5, m6, m8, m9]
                          refine ⟨?_, hE4⟩
                          rw [hsn, ← Bool.or_assoc, hB]
                          rfl
                        | false =>
                          have hfin : (rfd N i b p || rrow N i b p ((sc N p).take (k + 1))) = (rch N (-1) p && (decide (x = (b : Int)) && rdom N i p)) := by rw [hsn, ← Bool.or_assoc, hB]; rfl
                          rw [hfin]
                          cases hrp : rch N (-1) p with
                          | false =>
                            rw [hrp] at hqp
                            simp only [VS, VD, SV, SL, T, Nat.reduceEqDiff, Nat.reduceAdd, Nat.reduceSub, Nat.reduceMul, Nat.reduceLeDiff, Nat.reduceLT, reduceIte, m0, m3, m4, m5, m6, m8, m9, hq, hqp, Int.toNat_natCast]
                            exact ⟨by omega, hE4⟩
                          | true =>
                            rw [hrp] at hqp
                            by_cases hxb : x = (b : Int)
                            · have d1 : decide (x = (b : Int)) = true := decide_eq_true hxb
                              simp only [VS, VD, SV, SL, T, Nat.reduceEqDiff, Nat.reduceAdd, Nat.reduceSub, Nat.reduceMul, Nat.reduceLeDiff, Nat.reduceLT, reduceIte, m0, m3, m4, m5, m6, m8, m9, hq, hqp, hnb, hncu, hub, hucv, d1, Int.toNat_natCast]
                              refine ⟨by omega, by omega, by omega, ?_⟩
                              refine (rDominates_spec hN h0 hn hd2 _ i p hi' hp' w4 hNw).mono ?_
                              rintro _ w5 ⟨rfl, hE5⟩
                              simp only [VS, VD, SV, SL, T, Nat.reduceEqDiff, Nat.reduceAdd, Nat.reduceSub, Nat.reduceMul, Nat.reduceLeDiff, Nat.reduceLT, reduceIte, m0, m3, m4, m5, m6, m8, m9]
                              exact hE4.trans hE5
                            · have d1 : decide (x = (b : Int)) = false := decide_eq_false hxb
                              simp only [VS, VD, SV, SL, T, Nat.reduceEqDiff, Nat.reduceAdd, Nat.reduceSub, Nat.reduceMul, Nat.reduceLeDiff, Nat.reduceLT, reduceIte, m0, m3, m4, m5, m6, m8, m9, hq, hqp, hnb, hncu, hub, hucv, d1, Int.toNat_natCast]
                              exact ⟨by omega, by omega, by omega, hE4⟩
                      · rintro g4 w5 ⟨l0, l3, l4, l5, l6, l8, l9, l7, hE5⟩
                        simp only [VS, VD, SV, SL, T, Nat.reduceEqDiff, Nat.reduceAdd, Nat.reduceSub, Nat.reduceMul, Nat.reduceLeDiff, Nat.reduceLT, reduceIte, l0, l3, l4, l5, l6, l8, l9]
                        exact ⟨by omega, k + 1, ⟨l7, by simp, by omega, hE5⟩, by omega⟩
                    · rw [decide_eq_false hkl]
                      rw [List.take_of_length_le (by omega), ← rfd_succ] at m7
                      simp only [VS, VD, SV, SL, T, Nat.reduceEqDiff, Nat.reduceAdd, Nat.reduceSub, Nat.reduceMul, Nat.reduceLeDiff, Nat.reduceLT, reduceIte, m0, m3, m4, m5, m6, m7, m8]
                      exact ⟨by omega, p + 1, ⟨rfl, by simp, by omega, hE4⟩, by omega⟩
                · rw [decide_eq_false hpl]
                  obtain rfl : p = N.length := by omega
                  simp only [VS, VD, SV, SL, T, Nat.reduceEqDiff, Nat.reduceAdd, Nat.reduceSub, Nat.reduceMul, Nat.reduceLeDiff, Nat.reduceLT, reduceIte, m0, m3, m4, m5, m6, m7]
                  exact hE4
            · rintro g3 w4 ⟨m0, m3, m4, m5, m6, m7, hE4⟩
              have hNw := hNv.ext (hE1.trans (hE.trans hE4))
              have hEE := hE.trans hE4
              have hR4 := hR.ext hE4
              simp only [VS, VD, SV, SL, T, Nat.reduceEqDiff, Nat.reduceAdd, Nat.reduceSub, Nat.reduceMul, Nat.reduceLeDiff, Nat.reduceLT, reduceIte, m7]
              refine YG_c (fun g4 w5 => g4 0 = .slice na N.length nc ∧ g4 3 = .slice (some ⟨q, 0, none⟩) N.length N.length ∧ g4 4 = .slice (some ⟨w1.heap.size, 0, none⟩) N.length N.length ∧ g4 5 = .int .i64 i ∧ g4 6 = .int .i64 b ∧ g4 84 = .bool (rin N i b) ∧ Ext w4 w5) ?_ ?_
              · have hrin : rin N i b = (rfd N i b N.length && (decide (i = b) || !rdom N i b)) := rfl
                cases hf : rfd N i b N.length with
                | false =>
                  rw [hf] at hrin
                  simp only [VS, VD, SV, SL, T, Nat.reduceEqDiff, Nat.reduceAdd, Nat.reduceSub, Nat.reduceMul, Nat.reduceLeDiff, Nat.reduceLT, reduceIte, m0, m3, m4, m5, m6]
                  exact ⟨by rw [hrin]; rfl, Ext.refl _⟩
                | true =>
                  rw [hf] at hrin
                  by_cases hib : (i : Int) = b
                  · have d1 : decide ((i : Int) = b) = true := decide_eq_true hib
                    simp only [VS, VD, SV, SL, T, Nat.reduceEqDiff, Nat.reduceAdd, Nat.reduceSub, Nat.reduceMul, Nat.reduceLeDiff, Nat.reduceLT, reduceIte, m0, m3, m4, m5, m6, d1]
                    refine ⟨?_, Ext.refl _⟩
                    rw [hrin, decide_eq_true (show i = b by omega)]
                    rfl
                  · have d1 : decide ((i : Int) = b) = false := decide_eq_false hib
                    simp only [VS, VD, SV, SL, T, Nat.reduceEqDiff, Nat.reduceAdd, Nat.reduceSub, Nat.reduceMul, Nat.reduceLeDiff, Nat.reduceLT, reduceIte, m0, m3, m4, m5, m6, d1]
                    refine (rDominates_spec hN h0 hn hd2 _ i b hi' hbl w4 hNw).mono ?_
                    rintro _ w5 ⟨rfl, hE5⟩
                    simp only [VS, VD, SV, SL, T, Nat.reduceEqDiff, Nat.reduceAdd, Nat.reduceSub, Nat.reduceMul, Nat.reduceLeDiff, Nat.reduceLT, reduceIte, m0, m3, m4, m5, m6]
                    refine ⟨?_, hE5⟩
                    rw [hrin, decide_eq_false (show ¬ i = b by omega)]
                    simp
              · rintro g4 w5 ⟨l0, l3, l4, l5, l6, l84, hE5⟩
                have hR5 := hR4.ext hE5
                replace hEE := hEE.trans hE5
                have hs := rfr_succ N b i hri
                cases hin : rin N i b with
                | false =>
                  rw [hin] at l84 hs
                  simp only [VS, VD, SV, SL, T, Nat.reduceEqDiff, Nat.reduceAdd, Nat.reduceSub, Nat.reduceMul, Nat.reduceLeDiff, Nat.reduceLT, reduceIte, l84, l0, l3, l4, l5, l6]
                  refine ⟨by omega, b + 1, ⟨by simp, by omega, .inr hri, hEE, hR5.congr fun a ha => ?_⟩, by omega⟩
                  unfold rpart
                  split
                  · rfl
                  · split
                    · rename_i e; subst e; rw [hs]; simp
                    · rfl
                | true =>
                  rw [hin] at l84 hs
                  have hml : i < ((List.range N.length).map (rpart N i b)).length := by simp [hi']
                  obtain ⟨us, v0, hq5, hus, hv0, hI0⟩ := hR5.at hml
                  have hus2 : us.size = N.length := by rw [hus]; simp
                  have hrow : ((List.range N.length).map (rpart N i b))[i] = rfr N b i := by rw [map_get _ hi', rpart, if_neg (by omega), if_pos rfl]
                  have hrl : (rfr N b i).length ≤ b := by
                    unfold rfr
                    rw [if_pos hri, List.length_map]
                    have := List.length_filter_le (rin N i) (List.range b)
                    rwa [List.length_range] at this
                  simp only [VS, VD, SV, SL, T, Nat.reduceEqDiff, Nat.reduceAdd, Nat.reduceSub, Nat.reduceMul, Nat.reduceLeDiff, Nat.reduceLT, reduceIte, l84, l0, l3, l4, l5, l6, hq5, hv0, Int.toNat_natCast]
                  refine ⟨by omega, ?_⟩
                  refine app_int hI0 (by rw [hrow]; omega) (by have := hR5.lt; omega) b ?_
                  intro v' w7 ho7 hg7 hnew
                  obtain ⟨va', vcp, rfl⟩ := own_form ho7
                  obtain ⟨hq7, hR7⟩ := hR5.app hml hq5 hv0 ho7 hg7 hnew
                  rw [hrow, map_set _ _ hi'] at hR7
                  have hE7 := hEE.grownO hI0 (by omega) hg7
                  simp only [VS, VD, SV, SL, T, Nat.reduceEqDiff, Nat.reduceAdd, Nat.reduceSub, Nat.reduceMul, Nat.reduceLeDiff, Nat.reduceLT, reduceIte, l0, l3, l4, l5, l6, hq7, Int.toNat_natCast]
                  rw [hrow]
                  refine ⟨by omega, by omega, by omega, b + 1, ⟨by simp, by omega, .inr hri, hE7.putb (Nat.le_refl _) _, ?_⟩, by omega⟩
                  refine hR7.congr fun a ha => ?_
                  unfold rpart
                  by_cases e : a = i
                  · subst e
                    rw [if_pos rfl, if_neg (by omega), if_pos rfl, hs]
                    simp
                  · rw [if_neg e]
                    split
                    · rfl
                    · first | rfl | rw [if_neg e, if_neg e]
          · have : (decide (b < N.length) && rch N (-1) i) = false := by
              cases h : (decide (b < N.length) && rch N (-1) i) with
              | false => rfl
              | true => simp at h; exact (hc h).elim
            rw [this] at k30
            simp only [VS, VD, SV, SL, T, Nat.reduceEqDiff, Nat.reduceAdd, Nat.reduceSub, Nat.reduceMul, Nat.reduceLeDiff, Nat.reduceLT, reduceIte, k30, k0, k3, k4, k5]
            refine ⟨by omega, i + 1, ⟨by simp, by omega, hE, hR.congr fun a ha => ?_⟩, by omega⟩
            unfold rpart
            by_cases hri : rch N (-1) i = true
            · obtain rfl : b = N.length := by
                apply Classical.byContradiction
                intro hne
                exact hc ⟨by omega, hri⟩
              by_cases e1 : a < i
              · rw [if_pos e1, if_pos (by omega)]
              · rw [if_neg e1]
                by_cases e2 : a = i
                · rw [if_pos e2, if_pos (by omega)]
                · rw [if_neg e2, if_neg (by omega)]
                  split
                  · rename_i e3; subst e3; rw [hz]
                  · rfl
            · obtain rfl := hz0.resolve_right hri
              by_cases e1 : a < i
              · rw [if_pos e1, if_pos (by omega)]
              · rw [if_neg e1]
                by_cases e2 : a = i
                · subst e2
                  rw [if_pos rfl, if_pos (by omega), hz]
                  unfold rfr
                  rw [if_neg hri]
                · rw [if_neg e2, if_neg (by omega)]
                  split
                  · rename_i e3; subst e3; rw [hz]
                  · rfl
    · rw [decide_eq_false hlt]
      obtain rfl : i = N.length := by omega
      simp only [VS, VD, SV, SL, T, Nat.reduceEqDiff, Nat.reduceAdd, Nat.reduceSub, Nat.reduceMul, Nat.reduceLeDiff, Nat.reduceLT, reduceIte, g4]
      refine hΨ _ _ ⟨⟨_, rfl, ?_⟩, hE1.trans hE⟩
      have := (hR.congr (L' := rfr N N.length) fun a ha => by rw [rpart, if_pos ha]).intss (c := N.length)
      rwa [List.length_map, List.length_range] at this
end Go.Proofs.Ytjilblndcbphgaa

/-
  The reference's Tree.
-/
import Derived.Test.YtjilblndcbphgaaZGQ2
set_option linter.unusedSimpArgs false
set_option linter.unusedVariables false
namespace Go.Proofs.Ytjilblndcbphgaa
open Go.W Go.RowKit
def rbad (N : List (List Int)) (a b c : Nat) : Bool := !decide (c = b) && (!decide (c = a) && (rch N (-1) c && (rdom N c b && !rdom N c a)))
set_option maxRecDepth 10000 in
theorem rTree_spec {N : List (List Int)} (hN : NOk N) (h0 : 0 < N.length) (hn : N.length ≤ 2000000) (hd2 : ∀ l ∈ N, l.length ≤ 2) (nv : Value) (w : World) (hNv : IntssAt w nv N) :
    VRet Try.prog 18 #[nv] w fun v w' => IntsAt w' v ((List.range N.length).map (rtr N)) ∧ Ext w w' := by
  obtain ⟨na, nc, rfl⟩ := hNv.form'
  refine VRet_start T.mo ok18 rfl fun Ψ hΨ => ?_; simp only [vc18, rs18]
  simp only [VS, VD, SV, SL, T, Nat.reduceEqDiff, Nat.reduceAdd, Nat.reduceSub, Nat.reduceMul, Nat.reduceLeDiff, Nat.reduceLT, reduceIte]
  refine (Reach_spec hN h0 hn hd2 _ (-1) w hNv).mono ?_
  rintro _ w1 ⟨⟨q, rfl, hBB⟩, hE1⟩
  simp only [VS, VD, SV, SL, T, Nat.reduceEqDiff, Nat.reduceAdd, Nat.reduceSub, Nat.reduceMul, Nat.reduceLeDiff, Nat.reduceLT, reduceIte]
  refine LoopP_intro (α := Nat) (fun i g w' => g 0 = .slice na N.length nc ∧ g 4 = .slice (some ⟨q, 0, none⟩) N.length N.length ∧ g 5 = .int .i64 i ∧ i ≤ N.length ∧ Ext w1 w' ∧ IntO w1.heap.size w' (g 3) ((List.range i).map (rtr N))) (fun i => N.length - i) 0 ?_ ?_
  · simp only [VS, VD, SV, SL, T, Nat.reduceEqDiff, Nat.reduceAdd, Nat.reduceSub, Nat.reduceMul, Nat.reduceLeDiff, Nat.reduceLT, reduceIte]
    exact ⟨rfl, Nat.zero_le _, Ext.refl _, World.ownsRow_nil _ _ _ _⟩
  · rintro i g w' ⟨g0, g4, g5, hi, hE, hO⟩
    simp only [VS, VD, SV, SL, T, Nat.reduceEqDiff, Nat.reduceAdd, Nat.reduceSub, Nat.reduceMul, Nat.reduceLeDiff, Nat.reduceLT, reduceIte, g0, g5]
    by_cases hlt : (i : Int) < N.length
    · rw [decide_eq_true hlt]
      have hi' : i < N.length := by omega
      obtain ⟨oa, oc, ho3⟩ := own_form hO
      simp only [VS, VD, SV, SL, T, Nat.reduceEqDiff, Nat.reduceAdd, Nat.reduceSub, Nat.reduceMul, Nat.reduceLeDiff, Nat.reduceLT, reduceIte]
      refine loop_cB (fun g' w2 => g' 0 = .slice na N.length nc ∧ g' 3 = g 3 ∧ g' 4 = .slice (some ⟨q, 0, none⟩) N.length N.length ∧ g' 5 = .int .i64 i ∧ g' 6 = .int .i64 (rtr N i) ∧ Ext w' w2) ?_ ?_
      · refine LoopP_intro (α := Nat) (fun a g' w2 => g' 0 = .slice na N.length nc ∧ g' 3 = g 3 ∧ g' 4 = .slice (some ⟨q, 0, none⟩) N.length N.length ∧ g' 5 = .int .i64 i ∧ g' 6 = .int .i64 (rfnd N i a) ∧ g' 7 = .int .i64 a ∧ a ≤ N.length ∧ Ext w' w2 ∧ (a = 0 ∨ (0 < i ∧ rch N (-1) i = true))) (fun a => N.length - a) 0 ?_ ?_
        · simp only [VS, VD, SV, SL, T, Nat.reduceEqDiff, Nat.reduceAdd, Nat.reduceSub, Nat.reduceMul, Nat.reduceLeDiff, Nat.reduceLT, reduceIte, g0, g4, g5]
          exact ⟨rfl, rfl, Nat.zero_le _, Ext.refl _, .inl trivial⟩
        · rintro a g' w2 ⟨k0, k3, k4, k5, k6, k7, ha, hE2, hz⟩
          obtain ⟨cs, hq, hqs, hqv⟩ := hBB.ext (hE.trans hE2)
          have hqi := hqv i hi'
          simp only [VS, VD, SV, SL, T, Nat.reduceEqDiff, Nat.reduceAdd, Nat.reduceSub, Nat.reduceMul, Nat.reduceLeDiff, Nat.reduceLT, reduceIte, k0, k7]
          refine YG_c (fun g2 w3 => g2 0 = .slice na N.length nc ∧ g2 3 = g 3 ∧ g2 4 = .slice (some ⟨q, 0, none⟩) N.length N.length ∧ g2 5 = .int .i64 i ∧ g2 6 = .int .i64 (rfnd N i a) ∧ g2 7 = .int .i64 a ∧ g2 31 = .bool (decide (a < N.length) && (decide (0 < i) && rch N (-1) i)) ∧ w3 = w2) ?_ ?_
          · by_cases hal : (a : Int) < N.length
            · rw [decide_eq_true hal]
              by_cases hi0 : (0 : Int) < i
              · have d0 : decide ((0 : Int) < i) = true := decide_eq_true hi0
                simp only [VS, VD, SV, SL, T, Nat.reduceEqDiff, Nat.reduceAdd, Nat.reduceSub, Nat.reduceMul, Nat.reduceLeDiff, Nat.reduceLT, reduceIte, k0, k3, k4, k5, k6, k7, d0, hq, hqi, Int.toNat_natCast]
                refine ⟨by omega, ?_⟩
                rw [decide_eq_true (show a < N.length by omega), decide_eq_true (show 0 < i by omega)]
                simp
              · have d0 : decide ((0 : Int) < i) = false := decide_eq_false hi0
                simp only [VS, VD, SV, SL, T, Nat.reduceEqDiff, Nat.reduceAdd, Nat.reduceSub, Nat.reduceMul, Nat.reduceLeDiff, Nat.reduceLT, reduceIte, k0, k3, k4, k5, k6, k7, d0]
                rw [decide_eq_true (show a < N.length by omega), decide_eq_false (show ¬ 0 < i by omega)]
                simp
            · rw [decide_eq_false hal]
              simp only [VS, VD, SV, SL, T, Nat.reduceEqDiff, Nat.reduceAdd, Nat.reduceSub, Nat.reduceMul, Nat.reduceLeDiff, Nat.reduceLT, reduceIte, k0, k3, k4, k5, k6, k7]
              rw [decide_eq_false (show ¬ a < N.length by omega)]
              simp
          · rintro g2 w3 ⟨m0, m3, m4, m5, m6, m7, m31, rfl⟩
            by_cases hc : a < N.length ∧ 0 < i ∧ rch N (-1) i = true
            · obtain ⟨hal, hi0, hri⟩ := hc
              have : (decide (a < N.length) && (decide (0 < i) && rch N (-1) i)) = true := by simp [hal, hi0, hri]
              rw [this] at m31
              have hqa := hqv a hal
              have hNw := hNv.ext (hE1.trans (hE.trans hE2))
              simp only [VS, VD, SV, SL, T, Nat.reduceEqDiff, Nat.reduceAdd, Nat.reduceSub, Nat.reduceMul, Nat.reduceLeDiff, Nat.reduceLT, reduceIte, m31, m5, m7]
              refine YG_c (fun g3 w4 => g3 0 = .slice na N.length nc ∧ g3 3 = g 3 ∧ g3 4 = .slice (some ⟨q, 0, none⟩) N.length N.length ∧ g3 5 = .int .i64 i ∧ g3 6 = .int .i64 (rfnd N i a) ∧ g3 7 = .int .i64 a ∧ g3 50 = .bool (!rcan N a i) ∧ Ext w' w4) ?_ ?_
              · by_cases hai : (a : Int) = i
                · rw [decide_eq_true hai]
                  simp only [VS, VD, SV, SL, T, Nat.reduceEqDiff, Nat.reduceAdd, Nat.reduceSub, Nat.reduceMul, Nat.reduceLeDiff, Nat.reduceLT, reduceIte, m0, m3, m4, m5, m6, m7]
                  refine ⟨?_, hE2⟩
                  have : a = i := by omega
                  simp [rcan, this]
                · rw [decide_eq_false hai]
                  have hai' : ¬ a = i := by omega
                  cases hra : rch N (-1) a with
                  | false =>
                    rw [hra] at hqa
                    simp only [VS, VD, SV, SL, T, Nat.reduceEqDiff, Nat.reduceAdd, Nat.reduceSub, Nat.reduceMul, Nat.reduceLeDiff, Nat.reduceLT, reduceIte, m0, m3, m4, m5, m6, m7, hq, hqa, Int.toNat_natCast, Bool.not_false]
                    exact ⟨by omega, by simp [rcan, hra], hE2⟩
                  | true =>
                    rw [hra] at hqa
                    simp only [VS, VD, SV, SL, T, Nat.reduceEqDiff, Nat.reduceAdd, Nat.reduceSub, Nat.reduceMul, Nat.reduceLeDiff, Nat.reduceLT, reduceIte, m0, m3, m4, m5, m6, m7, hq, hqa, Int.toNat_natCast, Bool.not_true]
                    refine ⟨by omega, ?_⟩
                    refine (rDominates_spec hN h0 hn hd2 _ a i hal hi' w3 hNw).mono ?_
                    rintro _ w4 ⟨rfl, hE4⟩
                    simp only [VS, VD, SV, SL, T, Nat.reduceEqDiff, Nat.reduceAdd, Nat.reduceSub, Nat.reduceMul, Nat.reduceLeDiff, Nat.reduceLT, reduceIte, m0, m3, m4, m5, m6, m7]
                    refine ⟨?_, hE2.trans hE4⟩
                    simp [rcan, hra, hai']
              · rintro g3 w4 ⟨p0, p3, p4, p5, p6, p7, p50, hE4⟩
                have hrs : rfnd N i (a + 1) = if rcan N a i = true ∧ rall N a i N.length = true then (a : Int) else rfnd N i a := rfl
                cases hrc : rcan N a i with
                | false =>
                  rw [hrc] at p50
                  have hrs' : rfnd N i (a + 1) = rfnd N i a := by rw [hrs, if_neg (by simp [hrc])]
                  simp only [VS, VD, SV, SL, T, Nat.reduceEqDiff, Nat.reduceAdd, Nat.reduceSub, Nat.reduceMul, Nat.reduceLeDiff, Nat.reduceLT, reduceIte, p50, Bool.not_false, p0, p3, p4, p5, p6, p7]
                  exact ⟨by omega, a + 1, ⟨by rw [hrs'], by simp, by omega, hE4, .inr ⟨hi0, hri⟩⟩, by omega⟩
                | true =>
                  rw [hrc] at p50
                  simp only [VS, VD, SV, SL, T, Nat.reduceEqDiff, Nat.reduceAdd, Nat.reduceSub, Nat.reduceMul, Nat.reduceLeDiff, Nat.reduceLT, reduceIte, p50, Bool.not_true, p0]
                  refine LoopP_intro (α := Nat) (fun c g3 w5 => g3 0 = .slice na N.length nc ∧ g3 3 = g 3 ∧ g3 4 = .slice (some ⟨q, 0, none⟩) N.length N.length ∧ g3 5 = .int .i64 i ∧ g3 6 = .int .i64 (rfnd N i a) ∧ g3 7 = .int .i64 a ∧ g3 8 = .bool (rall N a i c) ∧ g3 9 = .int .i64 c ∧ c ≤ N.length ∧ Ext w' w5) (fun c => N.length - c) 0 ?_ ?_
                  · simp only [VS, VD, SV, SL, T, Nat.reduceEqDiff, Nat.reduceAdd, Nat.reduceSub, Nat.reduceMul, Nat.reduceLeDiff, Nat.reduceLT, reduceIte, p3, p4, p5, p6, p7]
                    exact ⟨p0, rfl, rfl, Nat.zero_le _, hE4⟩
                  · clear p0 p3 p4 p5 p6 p7 p50 hE4 g3 w4
                    rintro c g3 w4 ⟨p0, p3, p4, p5, p6, p7, p8, p9, hc, hE4⟩
                    simp only [VS, VD, SV, SL, T, Nat.reduceEqDiff, Nat.reduceAdd, Nat.reduceSub, Nat.reduceMul, Nat.reduceLeDiff, Nat.reduceLT, reduceIte, p0, p9]
                    by_cases hcl : (c : Int) < N.length
                    · rw [decide_eq_true hcl]
                      have hc' : c < N.length := by omega
                      obtain ⟨cs, hq, hqs, hqv⟩ := hBB.ext (hE.trans hE4)
                      have hqc := hqv c hc'
                      have hNw := hNv.ext (hE1.trans (hE.trans hE4))
                      simp only [VS, VD, SV, SL, T, Nat.reduceEqDiff, Nat.reduceAdd, Nat.reduceSub, Nat.reduceMul, Nat.reduceLeDiff, Nat.reduceLT, reduceIte, p5, p9]
                      refine YG_c (fun g4 w5 => g4 0 = .slice na N.length nc ∧ g4 3 = g 3 ∧ g4 4 = .slice (some ⟨q, 0, none⟩) N.length N.length ∧ g4 5 = .int .i64 i ∧ g4 6 = .int .i64 (rfnd N i a) ∧ g4 7 = .int .i64 a ∧ g4 8 = .bool (rall N a i c) ∧ g4 9 = .int .i64 c ∧ g4 83 = .bool (rbad N a i c) ∧ Ext w' w5) ?_ ?_
                      · by_cases c1 : (c : Int) = i
                        · have d1 : decide (¬ (c : Int) = i) = false := decide_eq_false (fun k => k c1)
                          rw [d1]
                          simp only [VS, VD, SV, SL, T, Nat.reduceEqDiff, Nat.reduceAdd, Nat.reduceSub, Nat.reduceMul, Nat.reduceLeDiff, Nat.reduceLT, reduceIte, p0, p3, p4, p5, p6, p7, p8, p9]
                          refine ⟨?_, hE4⟩
                          have : c = i := by omega
                          simp [rbad, this]
                        · have c1' : ¬ c = i := by omega
                          rw [decide_eq_true c1]
                          by_cases c2 : (c : Int) = a
                          · have d2 : decide (¬ (c : Int) = a) = false := decide_eq_false (fun k => k c2)
                            simp only [VS, VD, SV, SL, T, Nat.reduceEqDiff, Nat.reduceAdd, Nat.reduceSub, Nat.reduceMul, Nat.reduceLeDiff, Nat.reduceLT, reduceIte, p0, p3, p4, p5, p6, p7, p8, p9, d2]
                            refine ⟨?_, hE4⟩
                            have : c = a := by omega
                            simp [rbad, this]
                          · have c2' : ¬ c = a := by omega
                            have d2 : decide (¬ (c : Int) = a) = true := decide_eq_true c2
                            cases hrcc : rch N (-1) c with
                            | false =>
                              rw [hrcc] at hqc
                              simp only [VS, VD, SV, SL, T, Nat.reduceEqDiff, Nat.reduceAdd, Nat.reduceSub, Nat.reduceMul, Nat.reduceLeDiff, Nat.reduceLT, reduceIte, p0, p3, p4, p5, p6, p7, p8, p9, d2, hq, hqc, Int.toNat_natCast]
                              refine ⟨by omega, ?_, hE4⟩
                              simp [rbad, hrcc]
                            | true =>
                              rw [hrcc] at hqc
                              simp only [VS, VD, SV, SL, T, Nat.reduceEqDiff, Nat.reduceAdd, Nat.reduceSub, Nat.reduceMul, Nat.reduceLeDiff, Nat.reduceLT, reduceIte, p0, p3, p4, p5, p6, p7, p8, p9, d2, hq, hqc, Int.toNat_natCast]
                              refine ⟨by omega, ?_⟩
                              refine (rDominates_spec hN h0 hn hd2 _ c i hc' hi' w4 hNw).mono ?_
                              rintro _ w5 ⟨rfl, hE5⟩
                              cases hd : rdom N c i with
                              | false =>
                                simp only [VS, VD, SV, SL, T, Nat.reduceEqDiff, Nat.reduceAdd, Nat.reduceSub, Nat.reduceMul, Nat.reduceLeDiff, Nat.reduceLT, reduceIte, p0, p3, p4, p5, p6, p7, p8, p9]
                                refine ⟨?_, hE4.trans hE5⟩
                                simp [rbad, hd]
                              | true =>
                                simp only [VS, VD, SV, SL, T, Nat.reduceEqDiff, Nat.reduceAdd, Nat.reduceSub, Nat.reduceMul, Nat.reduceLeDiff, Nat.reduceLT, reduceIte, p0, p3, p4, p5, p6, p7, p8, p9]
                                refine (rDominates_spec hN h0 hn hd2 _ c a hc' hal w5 (hNw.ext hE5)).mono ?_
                                rintro _ w6 ⟨rfl, hE6⟩
                                simp only [VS, VD, SV, SL, T, Nat.reduceEqDiff, Nat.reduceAdd, Nat.reduceSub, Nat.reduceMul, Nat.reduceLeDiff, Nat.reduceLT, reduceIte, p0, p3, p4, p5, p6, p7, p8, p9]
                                refine ⟨?_, (hE4.trans hE5).trans hE6⟩
                                simp [rbad, hd, hrcc, c1', c2']
                      · rintro g4 w5 ⟨m0, m3, m4, m5, m6, m7, m8, m9, m83, hE5⟩
                        have hrl : rall N a i (c + 1) = (rall N a i c && !rbad N a i c) := rall_succ N a i c
                        cases hb : rbad N a i c with
                        | false =>
                          rw [hb] at m83 hrl
                          simp only [VS, VD, SV, SL, T, Nat.reduceEqDiff, Nat.reduceAdd, Nat.reduceSub, Nat.reduceMul, Nat.reduceLeDiff, Nat.reduceLT, reduceIte, m83, m0, m3, m4, m5, m6, m7, m8, m9]
                          exact ⟨by omega, c + 1, ⟨by rw [hrl]; simp, by simp, by omega, hE5⟩, by omega⟩
                        | true =>
                          rw [hb] at m83 hrl
                          simp only [VS, VD, SV, SL, T, Nat.reduceEqDiff, Nat.reduceAdd, Nat.reduceSub, Nat.reduceMul, Nat.reduceLeDiff, Nat.reduceLT, reduceIte, m83, m0, m3, m4, m5, m6, m7, m9]
                          exact ⟨by omega, c + 1, ⟨by rw [hrl]; simp, by simp, by omega, hE5⟩, by omega⟩
                    · rw [decide_eq_false hcl]
                      obtain rfl : c = N.length := by omega
                      cases hra : rall N a i N.length with
                      | false =>
                        rw [hra] at p8
                        have hrs' : rfnd N i (a + 1) = rfnd N i a := by rw [hrs, if_neg (by simp [hra])]
                        simp only [VS, VD, SV, SL, T, Nat.reduceEqDiff, Nat.reduceAdd, Nat.reduceSub, Nat.reduceMul, Nat.reduceLeDiff, Nat.reduceLT, reduceIte, p8, p0, p3, p4, p5, p6, p7]
                        exact ⟨by omega, a + 1, ⟨by rw [hrs'], by simp, by omega, hE4, .inr ⟨hi0, hri⟩⟩, by omega⟩
                      | true =>
                        rw [hra] at p8
                        have hrs' : rfnd N i (a + 1) = a := by rw [hrs, if_pos (by simp [hra, hrc])]
                        simp only [VS, VD, SV, SL, T, Nat.reduceEqDiff, Nat.reduceAdd, Nat.reduceSub, Nat.reduceMul, Nat.reduceLeDiff, Nat.reduceLT, reduceIte, p8, p0, p3, p4, p5, p7]
                        exact ⟨by omega, a + 1, ⟨by rw [hrs'], by simp, by omega, hE4, .inr ⟨hi0, hri⟩⟩, by omega⟩
            · have : (decide (a < N.length) && (decide (0 < i) && rch N (-1) i)) = false := by
                cases h : (decide (a < N.length) && (decide (0 < i) && rch N (-1) i)) with
                | false => rfl
                | true => simp at h; exact (hc ⟨h.1, h.2.1, h.2.2⟩).elim
              rw [this] at m31
              simp only [VS, VD, SV, SL, T, Nat.reduceEqDiff, Nat.reduceAdd, Nat.reduceSub, Nat.reduceMul, Nat.reduceLeDiff, Nat.reduceLT, reduceIte, m31, m0, m3, m4, m5]
              refine ⟨?_, hE2⟩
              rw [m6]
              congr 1
              unfold rtr
              by_cases hb : 0 < i ∧ rch N (-1) i = true
              · rw [if_pos hb]
                have : a = N.length := by
                  apply Classical.byContradiction
                  intro hne
                  exact hc ⟨by omega, hb⟩
                rw [this]
              · rw [if_neg hb, hz.resolve_right hb]; rfl
      · rintro g' w2 ⟨k0, k3, k4, k5, k6, hE2⟩
        rw [ho3] at k3
        have hO2 : IntO w1.heap.size w2 (.slice oa ((List.range i).map (rtr N)).length oc) ((List.range i).map (rtr N)) := by rw [← ho3]; exact own_ext hO hE2
        have hEE := hE.trans hE2
        simp only [VS, VD, SV, SL, T, Nat.reduceEqDiff, Nat.reduceAdd, Nat.reduceSub, Nat.reduceMul, Nat.reduceLeDiff, Nat.reduceLT, reduceIte, k3, k6]
        refine app_int hO2 (by simp; omega) hEE.size (rtr N i) ?_
        intro v' w3 ho4 hg4 hnew
        simp only [VS, VD, SV, SL, T, Nat.reduceEqDiff, Nat.reduceAdd, Nat.reduceSub, Nat.reduceMul, Nat.reduceLeDiff, Nat.reduceLT, reduceIte, k0, k4, k5]
        refine ⟨by omega, i + 1, ⟨by simp, by omega, hEE.grownO hO2 (Nat.le_refl _) hg4, ?_⟩, by omega⟩
        rw [List.range_succ, List.map_append]
        exact ho4
    · rw [decide_eq_false hlt]
      obtain rfl : i = N.length := by omega
      simp only [VS, VD, SV, SL, T, Nat.reduceEqDiff, Nat.reduceAdd, Nat.reduceSub, Nat.reduceMul, Nat.reduceLeDiff, Nat.reduceLT, reduceIte]
      exact hΨ _ _ ⟨hO.ints, hE1.trans hE⟩
end Go.Proofs.Ytjilblndcbphgaa

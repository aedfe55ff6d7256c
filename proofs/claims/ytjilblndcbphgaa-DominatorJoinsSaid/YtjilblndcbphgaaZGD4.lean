/-
  Joins: the walk of the statement.
-/
import Derived.Test.YtjilblndcbphgaaZGD2
set_option linter.unusedSimpArgs false
set_option linter.unusedVariables false
namespace Go.Proofs.Ytjilblndcbphgaa
open Go.W Go.RowKit
set_option maxRecDepth 10000 in
theorem DominatorJoins_spec (gv : Value) (B : List Blk) (PV : List (List Int)) (w : World) (h : GrAt w gv B PV) (hl : B.length ≤ maxLen) : VRet Try.prog 7 #[gv] w fun v w' => v = .bool true ∧ Ext w w' := by
  have hml : B.length ≤ 9223372036854775807 := by unfold maxLen at hl; omega
  obtain ⟨bs, pv, rfl, hb0, hp0⟩ := h
  obtain ⟨ba, bc, rfl⟩ := hb0.form
  obtain ⟨pa, pc, rfl⟩ := hp0.form'
  refine VRet_start T.mo ok7 rfl fun Ψ hΨ => ?_; simp only [vc7, rs7]
  simp only [VS, VD, SV, SL, T, Nat.reduceEqDiff, Nat.reduceAdd, Nat.reduceSub, Nat.reduceMul, Nat.reduceLeDiff, Nat.reduceLT, reduceIte]
  refine (awake_spec _).mono ?_
  rintro _ w1 ⟨rfl, hE1⟩
  replace hE1 := ((Ext.refl w).alloc tomb).trans hE1
  simp only [VS, VD, SV, SL, T, Nat.reduceEqDiff, Nat.reduceAdd, Nat.reduceSub, Nat.reduceMul, Nat.reduceLeDiff, Nat.reduceLT, reduceIte, Bool.not_true]
  refine (next_spec _ B PV hml w1 ⟨_, _, rfl, hb0.ext hE1, hp0.ext hE1⟩).mono ?_
  rintro _ w2 ⟨hE2, hc⟩
  replace hE2 := hE1.trans hE2
  have hG : GrAt w2 (.agg #[.slice ba B.length bc, .slice pa PV.length pc]) B PV := ⟨_, _, rfl, hb0.ext hE2, hp0.ext hE2⟩
  rcases hc with ⟨hbad, rfl⟩ | ⟨h14, hV, nv, rfl, hNv⟩
  · simp only [VS, VD, SV, SL, T, Nat.reduceEqDiff, Nat.reduceAdd, Nat.reduceSub, Nat.reduceMul, Nat.reduceLeDiff, Nat.reduceLT, reduceIte, Bool.not_false]
    exact hΨ _ _ ⟨rfl, hE2⟩
  · have hNV := VG_nv hV
    have hNl : (nx B).length = B.length := by unfold nx; rw [List.length_map]
    have hN := hNV.ok
    have hN0 := hNV.pos
    obtain ⟨t, hg⟩ := gg_of hN hN0
    obtain ⟨na, nc, rfl⟩ := hNv.form'
    simp only [VS, VD, SV, SL, T, Nat.reduceEqDiff, Nat.reduceAdd, Nat.reduceSub, Nat.reduceMul, Nat.reduceLeDiff, Nat.reduceLT, reduceIte, Bool.not_true]
    refine DW_intro (fun n _ v w' => match n with | 1 => ∃ g, v = .slice (some ⟨g, 0, none⟩) B.length B.length ∧ IntssAt w' v ((List.range B.length).map (rfr (nx B) B.length)) | 3 => ∃ F g cap, v = .slice (some ⟨g, 0, none⟩) B.length cap ∧ IntsAt w' v (tl B.length F) ∧ TreeOk (nx B) F | _ => True) ?_
    simp only [VS, VD, SV, SL, T, Nat.reduceEqDiff, Nat.reduceAdd, Nat.reduceSub, Nat.reduceMul, Nat.reduceLeDiff, Nat.reduceLT, reduceIte]
    refine rY_ph rfl rfl (fun _ _ _ ⟨g, k1, k2⟩ hE => ⟨g, k1, k2.ext hE⟩) (fun w3 hE3 _ => ?_) ?_
    · simp only [VS, VD, SV, SL, T, Nat.reduceEqDiff, Nat.reduceAdd, Nat.reduceSub, Nat.reduceMul, Nat.reduceLeDiff, Nat.reduceLT, reduceIte]
      refine (Frontier_spec _ B PV (by omega) w3 (hG.ext hE3)).mono ?_
      rintro v w4 ⟨hE4, _, h3⟩
      obtain ⟨g, rfl, hI⟩ := h3 hV
      exact ⟨hE4, g, rfl, hI⟩
    rintro v1 ⟨_, _, _, fg, rfl, _⟩
    simp only [VS, VD, SV, SL, T, Nat.reduceEqDiff, Nat.reduceAdd, Nat.reduceSub, Nat.reduceMul, Nat.reduceLeDiff, Nat.reduceLT, reduceIte]
    refine rY_ph rfl rfl (fun _ _ _ ⟨F, g, c, k1, k2, k3⟩ hE => ⟨F, g, c, k1, k2.ext hE, k3⟩) (fun w3 hE3 _ => ?_) ?_
    · simp only [VS, VD, SV, SL, T, Nat.reduceEqDiff, Nat.reduceAdd, Nat.reduceSub, Nat.reduceMul, Nat.reduceLeDiff, Nat.reduceLT, reduceIte]
      refine (Tree_spec _ B PV (by omega) w3 (hG.ext hE3)).mono ?_
      rintro v w4 ⟨hE4, _, h3⟩
      obtain ⟨F, g, cap, rfl, _, hI, hT⟩ := h3 hV
      exact ⟨hE4, F, g, cap, rfl, hI, hT⟩
    rintro v3 ⟨_, _, _, _, ig, ic, rfl, _⟩
    simp only [VS, VD, SV, SL, T, Nat.reduceEqDiff, Nat.reduceAdd, Nat.reduceSub, Nat.reduceMul, Nat.reduceLeDiff, Nat.reduceLT, reduceIte]
    intro w3 hE3 hF
    have h1 := hF 1
    have h3 := hF 3
    simp only [updF] at h1 h3
    obtain ⟨_, e1, hO⟩ := h1
    obtain ⟨F, _, _, e3, hI, hT⟩ := h3
    simp only [VS, VD, SV, SL, T, Nat.reduceEqDiff, Nat.reduceAdd, Nat.reduceSub, Nat.reduceMul, Nat.reduceLeDiff, Nat.reduceLT, reduceIte]
    refine (Reach_spec hN hN0 (by omega) hNV.two _ (-1) w3 (hNv.ext hE3)).mono ?_
    rintro _ w4 ⟨⟨q, rfl, hBB⟩, hE4⟩
    replace hO := hO.ext hE4
    replace hI := hI.ext hE4
    have hNv4 := hNv.ext (hE3.trans hE4)
    replace hE4 := (hE2.trans hE3).trans hE4
    have hd2 := hNV.two
    generalize hNN : nx B = N at *
    rw [hNl] at hNv4
    have d3 : decide (¬ ((B.length : Nat) : Int) = B.length) = false := by simp
    simp only [VS, VD, SV, SL, T, Nat.reduceEqDiff, Nat.reduceAdd, Nat.reduceSub, Nat.reduceMul, Nat.reduceLeDiff, Nat.reduceLT, reduceIte, hNl, d3]
    refine LoopP_intro (α := Nat) (fun p g w' => g 3 = .slice na B.length nc ∧ g 5 = .slice (some ⟨fg, 0, none⟩) B.length B.length ∧ g 6 = .slice (some ⟨ig, 0, none⟩) B.length ic ∧ g 7 = .slice (some ⟨q, 0, none⟩) B.length B.length ∧ g 8 = .int .i64 p ∧ p ≤ B.length ∧ Ext w4 w') (fun p => B.length - p) 0 ?_ ?_
    · simp only [VS, VD, SV, SL, T, Nat.reduceEqDiff, Nat.reduceAdd, Nat.reduceSub, Nat.reduceMul, Nat.reduceLeDiff, Nat.reduceLT, reduceIte]
      exact ⟨rfl, Nat.zero_le _, Ext.refl _⟩
    · rintro p g w' ⟨g3, g5, g6, g7, g8, hp, hE⟩
      simp only [VS, VD, SV, SL, T, Nat.reduceEqDiff, Nat.reduceAdd, Nat.reduceSub, Nat.reduceMul, Nat.reduceLeDiff, Nat.reduceLT, reduceIte, g3, g8]
      by_cases hlt : (p : Int) < B.length
      · rw [decide_eq_true hlt]
        have hp' : p < N.length := by omega
        simp only [VS, VD, SV, SL, T, Nat.reduceEqDiff, Nat.reduceAdd, Nat.reduceSub, Nat.reduceMul, Nat.reduceLeDiff, Nat.reduceLT, reduceIte]
        refine LoopP_intro (α := Nat) (fun k g w' => g 3 = .slice na B.length nc ∧ g 5 = .slice (some ⟨fg, 0, none⟩) B.length B.length ∧ g 6 = .slice (some ⟨ig, 0, none⟩) B.length ic ∧ g 7 = .slice (some ⟨q, 0, none⟩) B.length B.length ∧ g 8 = .int .i64 p ∧ g 9 = .int .i64 k ∧ k ≤ (sc N p).length ∧ Ext w4 w') (fun k => (sc N p).length - k) 0 ?_ ?_
        · simp only [VS, VD, SV, SL, T, Nat.reduceEqDiff, Nat.reduceAdd, Nat.reduceSub, Nat.reduceMul, Nat.reduceLeDiff, Nat.reduceLT, reduceIte, g3, g5, g6, g7, g8]
          exact ⟨rfl, Nat.zero_le _, hE⟩
        · clear g3 g5 g6 g7 g8 hE g w'
          rintro k g w' ⟨g3, g5, g6, g7, g8, g9, hk, hE⟩
          obtain ⟨nb, no, ncs, ne, nfz, u, e1, hnb, hncu, hu0⟩ := IntssAt.get' (n := B.length) (by rw [← hNl]; rw [← hNl] at hNv4; exact hNv4.ext hE) hp'
          subst e1
          have hsc : N[p] = sc N p := by unfold sc; rw [List.getD_eq_getElem?_getD, List.getElem?_eq_getElem hp']; rfl
          rw [hsc] at hu0
          have hscl : (sc N p).length ≤ 2 := by rw [← hsc]; exact hd2 _ (List.getElem_mem hp')
          obtain ⟨ua, uc, rfl⟩ := hu0.form
          obtain ⟨cs, hq, hqs, hqv⟩ := hBB.ext hE
          have hqp := hqv p (by omega)
          simp only [VS, VD, SV, SL, T, Nat.reduceEqDiff, Nat.reduceAdd, Nat.reduceSub, Nat.reduceMul, Nat.reduceLeDiff, Nat.reduceLT, reduceIte, g3, g8, g9, hnb, hncu, Int.toNat_natCast]
          refine ⟨by omega, ?_⟩
          refine YG_c (fun g2 w5 => g2 3 = .slice (some ⟨nb, no, none⟩) B.length nc ∧ g2 5 = .slice (some ⟨fg, 0, none⟩) B.length B.length ∧ g2 6 = .slice (some ⟨ig, 0, none⟩) B.length ic ∧ g2 7 = .slice (some ⟨q, 0, none⟩) B.length B.length ∧ g2 8 = .int .i64 p ∧ g2 9 = .int .i64 k ∧ g2 58 = .bool (decide (k < (sc N p).length) && rch N (-1) p) ∧ w5 = w') ?_ ?_
          · by_cases hkl : (k : Int) < (sc N p).length
            · rw [decide_eq_true hkl]
              simp only [VS, VD, SV, SL, T, Nat.reduceEqDiff, Nat.reduceAdd, Nat.reduceSub, Nat.reduceMul, Nat.reduceLeDiff, Nat.reduceLT, reduceIte, g3, g5, g6, g7, g8, g9, hq, hqp, Int.toNat_natCast]
              refine ⟨by omega, ?_⟩
              rw [decide_eq_true (show k < (sc N p).length by omega)]
              simp
            · rw [decide_eq_false hkl]
              simp only [VS, VD, SV, SL, T, Nat.reduceEqDiff, Nat.reduceAdd, Nat.reduceSub, Nat.reduceMul, Nat.reduceLeDiff, Nat.reduceLT, reduceIte, g3, g5, g6, g7, g8, g9]
              rw [decide_eq_false (show ¬ k < (sc N p).length by omega)]
              simp
          · rintro g2 w5 ⟨k3, k5, k6, k7, k8, k9, k58, rfl⟩
            by_cases hc : k < (sc N p).length ∧ rch N (-1) p = true
            · obtain ⟨hk', hrp⟩ := hc
              have hRp := (rch_re hN hN0).1 hrp
              have : (decide (k < (sc N p).length) && rch N (-1) p) = true := by simp [hk', hrp]
              rw [this] at k58
              obtain ⟨ub, uo, ucs, ue, ufz, rfl, _, hub, hucv⟩ := hu0.get (i := k) (x := (sc N p)[k]) (by simp)
              have hmem : (sc N p)[k] ∈ sc N p := List.getElem_mem hk'
              obtain ⟨hx0, hx1⟩ := hN.sc hmem
              generalize (sc N p)[k] = x at *
              obtain ⟨b, rfl⟩ := Int.eq_ofNat_of_zero_le hx0
              simp only [Int.toNat_natCast] at hx1
              have hpE : ED N p b := hmem
              have hRb := hg.clo p b hRp hpE
              simp only [VS, VD, SV, SL, T, Nat.reduceEqDiff, Nat.reduceAdd, Nat.reduceSub, Nat.reduceMul, Nat.reduceLeDiff, Nat.reduceLT, reduceIte, k58, k3, k8, k9, hnb, hncu, hub, hucv, Int.toNat_natCast]
              refine ⟨by omega, by omega, ?_⟩
              refine LoopP_intro (α := Nat × Int × (Nat → Bool)) (fun s g3 w6 => g3 3 = .slice (some ⟨nb, no, none⟩) B.length nc ∧ g3 5 = .slice (some ⟨fg, 0, none⟩) B.length B.length ∧ g3 6 = .slice (some ⟨ig, 0, none⟩) B.length ic ∧ g3 7 = .slice (some ⟨q, 0, none⟩) B.length B.length ∧ g3 8 = .int .i64 p ∧ g3 9 = .int .i64 k ∧ g3 10 = .int .i64 b ∧ g3 11 = .int .i64 s.2.1 ∧ g3 12 = .int .i64 s.1 ∧ s.1 ≤ B.length ∧ Ext w4 w6 ∧ Wy N F b p (fun _ => false) s.2.2 s.2.1) (fun s => B.length - s.1) (0, (p : Int), fun _ => false) ?_ ?_
              · simp only [VS, VD, SV, SL, T, Nat.reduceEqDiff, Nat.reduceAdd, Nat.reduceSub, Nat.reduceMul, Nat.reduceLeDiff, Nat.reduceLT, reduceIte, k3, k5, k6, k7, k8, k9]
                exact ⟨rfl, Nat.zero_le _, hE, Wy.start hN hN0 hT hRb hRp hp' hpE _⟩
              · clear k3 k5 k6 k7 k8 k9 k58 hE
                rintro ⟨s, c, M⟩ g3 w6 ⟨k3, k5, k6, k7, k8, k9, k10, k11, k12, hs, hE, hW⟩
                simp only [] at k11 k12 hs hW
                obtain ⟨ib, io, ics, ie, ifz, q1, _, hib, hic⟩ := (hI.ext hE).get (i := b) (x := F b) (by simp [show b < B.length by omega])
                simp only [Option.some.injEq, Addr.mk.injEq, and_true] at q1
                obtain ⟨rfl, rfl⟩ := q1
                rw [Nat.zero_add] at hic
                simp only [VS, VD, SV, SL, T, Nat.reduceEqDiff, Nat.reduceAdd, Nat.reduceSub, Nat.reduceMul, Nat.reduceLeDiff, Nat.reduceLT, reduceIte, k3, k12]
                refine YG_c (fun g4 w7 => g4 3 = .slice (some ⟨nb, no, none⟩) B.length nc ∧ g4 5 = .slice (some ⟨fg, 0, none⟩) B.length B.length ∧ g4 6 = .slice (some ⟨ig, 0, none⟩) B.length ic ∧ g4 7 = .slice (some ⟨q, 0, none⟩) B.length B.length ∧ g4 8 = .int .i64 p ∧ g4 9 = .int .i64 k ∧ g4 10 = .int .i64 b ∧ g4 11 = .int .i64 c ∧ g4 12 = .int .i64 s ∧ w7 = w6 ∧ ((g4 94 = .bool true ∧ s < B.length ∧ 0 ≤ c ∧ c ≠ F b) ∨ g4 94 = .bool false)) ?_ ?_
                · by_cases c1 : (s : Int) < B.length
                  case neg =>
                    rw [decide_eq_false c1]
                    simp only [VS, VD, SV, SL, T, Nat.reduceEqDiff, Nat.reduceAdd, Nat.reduceSub, Nat.reduceMul, Nat.reduceLeDiff, Nat.reduceLT, reduceIte, k3, k5, k6, k7, k8, k9, k10, k11, k12]
                    exact .inr trivial
                  rw [decide_eq_true c1]
                  by_cases c2 : 0 ≤ c
                  case neg =>
                    have d2 : decide (0 ≤ c) = false := decide_eq_false c2
                    simp only [VS, VD, SV, SL, T, Nat.reduceEqDiff, Nat.reduceAdd, Nat.reduceSub, Nat.reduceMul, Nat.reduceLeDiff, Nat.reduceLT, reduceIte, k3, k5, k6, k7, k8, k9, k10, k11, k12, d2]
                    exact .inr trivial
                  have d2 : decide (0 ≤ c) = true := decide_eq_true c2
                  by_cases c3 : c < B.length
                  case neg =>
                    have d3 : decide (c < (B.length : Int)) = false := decide_eq_false c3
                    simp only [VS, VD, SV, SL, T, Nat.reduceEqDiff, Nat.reduceAdd, Nat.reduceSub, Nat.reduceMul, Nat.reduceLeDiff, Nat.reduceLT, reduceIte, k3, k5, k6, k7, k8, k9, k10, k11, k12, d2, d3]
                    exact .inr trivial
                  have d3 : decide (c < (B.length : Int)) = true := decide_eq_true c3
                  by_cases c4 : (b : Int) = 0
                  · have d4 : decide ((b : Int) = 0) = true := decide_eq_true c4
                    simp only [VS, VD, SV, SL, T, Nat.reduceEqDiff, Nat.reduceAdd, Nat.reduceSub, Nat.reduceMul, Nat.reduceLeDiff, Nat.reduceLT, reduceIte, k3, k5, k6, k7, k8, k9, k10, k11, k12, d2, d3, d4]
                    refine .inl ⟨by omega, c2, ?_⟩
                    obtain rfl : b = 0 := by omega
                    rw [hT.wf.z]
                    omega
                  · have d4 : decide ((b : Int) = 0) = false := decide_eq_false c4
                    by_cases c5 : c = F b
                    · have d5 : decide (¬ c = F b) = false := decide_eq_false (fun h => h c5)
                      simp only [VS, VD, SV, SL, T, Nat.reduceEqDiff, Nat.reduceAdd, Nat.reduceSub, Nat.reduceMul, Nat.reduceLeDiff, Nat.reduceLT, reduceIte, k3, k5, k6, k7, k8, k9, k10, k11, k12, d2, d3, d4, hib, hic, d5, Int.toNat_natCast]
                      exact ⟨by omega, .inr trivial⟩
                    · have d5 : decide (¬ c = F b) = true := decide_eq_true c5
                      simp only [VS, VD, SV, SL, T, Nat.reduceEqDiff, Nat.reduceAdd, Nat.reduceSub, Nat.reduceMul, Nat.reduceLeDiff, Nat.reduceLT, reduceIte, k3, k5, k6, k7, k8, k9, k10, k11, k12, d2, d3, d4, hib, hic, d5, Int.toNat_natCast]
                      exact ⟨by omega, .inl ⟨by omega, c2, c5⟩⟩
                · rintro g4 w7 ⟨k3, k5, k6, k7, k8, k9, k10, k11, k12, rfl, hcase⟩
                  rcases hcase with ⟨k94, hsl, hc0, hcne⟩ | k94
                  · obtain ⟨m, rfl⟩ := Int.eq_ofNat_of_zero_le hc0
                    obtain ⟨hRm, hmn, hW2, _⟩ := hW.step hN hN0 hT hRb hcne
                    have hfr : frB N F m b = true := by
                      have h3 := (hW2.iff m).1 (.inl (by simp [setS]))
                      rcases h3 with h3 | ⟨h3, h4⟩
                      · cases h3
                      · exact frB_iff.2 ⟨hRb, p, hRp, hpE, h3, h4⟩
                    have hmB : m < B.length := by omega
                    obtain ⟨b1, o1, cs1, e1, fz1, u1, q1, hb1, hc1, hu1⟩ := IntssAt.get' (a := some ⟨fg, 0, none⟩) (n := B.length) (c := B.length) (hO.ext hE) (i := m) (by simp; omega)
                    simp only [Option.some.injEq, Addr.mk.injEq, and_true] at q1
                    obtain ⟨rfl, rfl⟩ := q1
                    rw [Nat.zero_add] at hc1
                    rw [List.getElem_map, List.getElem_range] at hu1
                    obtain ⟨a1, c1, rfl⟩ := hu1.form
                    simp only [VS, VD, SV, SL, T, Nat.reduceEqDiff, Nat.reduceAdd, Nat.reduceSub, Nat.reduceMul, Nat.reduceLeDiff, Nat.reduceLT, reduceIte, k94, k5, k10, k11, hb1, hc1, Int.toNat_natCast]
                    refine ⟨by omega, ?_⟩
                    refine (In_spec _ _ (by have := rfr_len N B.length m; omega) b w7 hu1).mono ?_
                    rintro _ w8 ⟨rfl, hE8⟩
                    have hin : decide ((b : Int) ∈ rfr N B.length m) = true := by
                      apply decide_eq_true
                      rw [rfr_eq hN hN0 hT]
                      exact frl_mem.2 ⟨b, rfl, by omega, frB_iff.1 hfr⟩
                    obtain ⟨ib, io, ics, ie, ifz, q1, _, hib, hic⟩ := (hI.ext (hE.trans hE8)).get (i := m) (x := F m) (by simp [hmB])
                    simp only [Option.some.injEq, Addr.mk.injEq, and_true] at q1
                    obtain ⟨rfl, rfl⟩ := q1
                    rw [Nat.zero_add] at hic
                    simp only [VS, VD, SV, SL, T, Nat.reduceEqDiff, Nat.reduceAdd, Nat.reduceSub, Nat.reduceMul, Nat.reduceLeDiff, Nat.reduceLT, reduceIte, hin, Bool.not_true, k3, k5, k6, k7, k8, k9, k10, k11, k12, hib, hic, Int.toNat_natCast]
                    exact ⟨by omega, by omega, (s + 1, F m, setS M m), ⟨rfl, by simp, by simp only []; omega, hE.trans hE8, hW2⟩, by simp only []; omega⟩
                  · simp only [VS, VD, SV, SL, T, Nat.reduceEqDiff, Nat.reduceAdd, Nat.reduceSub, Nat.reduceMul, Nat.reduceLeDiff, Nat.reduceLT, reduceIte, k94, k3, k5, k6, k7, k8, k9]
                    exact ⟨by omega, k + 1, ⟨by simp, by omega, hE⟩, by omega⟩
            · have : (decide (k < (sc N p).length) && rch N (-1) p) = false := by
                cases h : (decide (k < (sc N p).length) && rch N (-1) p) with
                | false => rfl
                | true => simp at h; exact (hc h).elim
              rw [this] at k58
              simp only [VS, VD, SV, SL, T, Nat.reduceEqDiff, Nat.reduceAdd, Nat.reduceSub, Nat.reduceMul, Nat.reduceLeDiff, Nat.reduceLT, reduceIte, k58, k3, k5, k6, k7, k8]
              exact ⟨by omega, p + 1, ⟨by simp, by omega, hE⟩, by omega⟩
      · rw [decide_eq_false hlt]
        simp only [VS, VD, SV, SL, T, Nat.reduceEqDiff, Nat.reduceAdd, Nat.reduceSub, Nat.reduceMul, Nat.reduceLeDiff, Nat.reduceLT, reduceIte]
        exact hΨ _ _ ⟨rfl, hE4.trans hE⟩
end Go.Proofs.Ytjilblndcbphgaa

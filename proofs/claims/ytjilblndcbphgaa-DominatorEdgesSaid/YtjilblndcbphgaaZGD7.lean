/-
  Edges: the walk of the statement.
-/
import Derived.Test.YtjilblndcbphgaaZGD6
set_option linter.unusedSimpArgs false
set_option linter.unusedVariables false
namespace Go.Proofs.Ytjilblndcbphgaa
open Go.W Go.RowKit
/-- one more successor -/
def addE (N : List (List Int)) (a b : Nat) : List (List Int) := N.set a (sc N a ++ [(b : Int)])
theorem addE_len (N : List (List Int)) (a b : Nat) : (addE N a b).length = N.length := by simp [addE]
theorem addE_sc {N : List (List Int)} {a b : Nat} (ha : a < N.length) (x : Nat) : sc (addE N a b) x = if x = a then sc N a ++ [(b : Int)] else sc N x := by
  by_cases e : x = a
  · subst e
    rw [if_pos rfl]
    unfold addE
    show (N.set x _).getD x [] = _
    rw [List.getD_eq_getElem?_getD, List.getElem?_set]
    simp [ha]
  · rw [if_neg e]
    unfold addE
    show (N.set a _).getD x [] = N.getD x []
    rw [List.getD_eq_getElem?_getD, List.getElem?_set, if_neg (fun q => e q.symm), List.getD_eq_getElem?_getD]
theorem addE_ed {N : List (List Int)} {a b : Nat} (ha : a < N.length) (p c : Nat) : ED (addE N a b) p c ↔ ED N p c ∨ (p = a ∧ c = b) := by
  show (c : Int) ∈ sc (addE N a b) p ↔ (c : Int) ∈ sc N p ∨ _
  rw [addE_sc ha]
  by_cases e : p = a
  · subst e
    rw [if_pos rfl, List.mem_append, List.mem_singleton]
    constructor
    · rintro (h | h)
      · exact .inl h
      · exact .inr ⟨rfl, by omega⟩
    · rintro (h | ⟨_, rfl⟩)
      · exact .inl h
      · exact .inr rfl
  · rw [if_neg e]
    constructor
    · exact .inl
    · rintro (h | ⟨h, _⟩)
      · exact h
      · exact (e h).elim
theorem addE_nv {N : List (List Int)} (h : NV N) {a b : Nat} (ha : a < N.length) (hb : b < N.length) (hl : (sc N a).length ≤ 1) (hm : (b : Int) ∉ sc N a) : NV (addE N a b) := by
  have key : ∀ l ∈ addE N a b, l ∈ N ∨ l = sc N a ++ [(b : Int)] := fun l hl' => List.mem_or_eq_of_mem_set hl'
  have hma := NV.mem ha
  refine ⟨fun l hl' m hm' => ?_, by rw [addE_len]; exact h.pos, fun l hl' => ?_, fun l hl' => ?_⟩
  · rw [addE_len]
    rcases key l hl' with h1 | rfl
    · exact h.ok l h1 m hm'
    · rcases List.mem_append.1 hm' with h1 | h1
      · exact h.ok _ hma m h1
      · simp only [List.mem_singleton] at h1
        omega
  · rcases key l hl' with h1 | rfl
    · exact h.two l h1
    · rw [List.length_append, List.length_singleton]; omega
  · rcases key l hl' with h1 | rfl
    · exact h.nd l h1
    · rw [List.nodup_append]
      refine ⟨h.nd _ hma, by simp, fun x hx y hy => ?_⟩
      simp only [List.mem_singleton] at hy
      rintro rfl
      rw [hy] at hx
      exact hm hx
set_option maxHeartbeats 1600000 in
set_option maxRecDepth 10000 in
theorem DominatorEdges_spec (gv : Value) (B : List Blk) (PV : List (List Int)) (w : World) (h : GrAt w gv B PV) (hl : B.length ≤ maxLen) : VRet Try.prog 11 #[gv] w fun v w' => v = .bool true ∧ Ext w w' := by
  have hml : B.length ≤ 9223372036854775807 := by unfold maxLen at hl; omega
  obtain ⟨bs, pv, rfl, hb0, hp0⟩ := h
  obtain ⟨ba, bc, rfl⟩ := hb0.form
  obtain ⟨pa, pc, rfl⟩ := hp0.form'
  refine VRet_start T.mo ok11 rfl fun Ψ hΨ => ?_; simp only [vc11, rs11]
  simp only [VS, VD, SV, SL, T, Nat.reduceEqDiff, Nat.reduceAdd, Nat.reduceSub, Nat.reduceMul, Nat.reduceLeDiff, Nat.reduceLT, reduceIte]
  refine (awake_spec _).mono ?_
  rintro _ w1 ⟨rfl, hE1⟩
  replace hE1 := ((Ext.refl w).alloc tomb).trans hE1
  simp only [VS, VD, SV, SL, T, Nat.reduceEqDiff, Nat.reduceAdd, Nat.reduceSub, Nat.reduceMul, Nat.reduceLeDiff, Nat.reduceLT, reduceIte, Bool.not_true]
  refine (next_spec _ B PV hml w1 ⟨_, _, rfl, hb0.ext hE1, hp0.ext hE1⟩).mono ?_
  rintro _ w2 ⟨hE2, hc⟩
  replace hE2 := hE1.trans hE2
  have hG : GrAt w2 (.agg #[.slice ba B.length bc, .slice pa PV.length pc]) B PV := ⟨_, _, rfl, hb0.ext hE2, hp0.ext hE2⟩
  rcases hc with ⟨hbad, rfl⟩ | ⟨h14, hV, nv, rfl, hNv⟩
  · simp only [VS, VD, SV, SL, T, Nat.reduceEqDiff, Nat.reduceAdd, Nat.reduceSub, Nat.reduceMul, Nat.reduceLeDiff, Nat.reduceLT, reduceIte, Bool.not_false]
    exact hΨ _ _ ⟨rfl, hE2⟩
  · have hNV := VG_nv hV
    have hNl : (nx B).length = B.length := by unfold nx; rw [List.length_map]
    have hN := hNV.ok
    have hN0 := hNV.pos
    have hd2 := hNV.two
    obtain ⟨t, hg⟩ := gg_of hN hN0
    obtain ⟨na, nc, rfl⟩ := hNv.form'
    simp only [VS, VD, SV, SL, T, Nat.reduceEqDiff, Nat.reduceAdd, Nat.reduceSub, Nat.reduceMul, Nat.reduceLeDiff, Nat.reduceLT, reduceIte, Bool.not_true]
    refine (Tree_spec _ B PV (by omega) w2 hG).mono ?_
    rintro v3 w3 ⟨hE3, _, h3⟩
    obtain ⟨F, ig, ic, rfl, _, hI, hT⟩ := h3 hV
    have hNv3 := hNv.ext hE3
    replace hE3 := hE2.trans hE3
    simp only [VS, VD, SV, SL, T, Nat.reduceEqDiff, Nat.reduceAdd, Nat.reduceSub, Nat.reduceMul, Nat.reduceLeDiff, Nat.reduceLT, reduceIte]
    refine (Reach_spec hN hN0 (by omega) hNV.two _ (-1) w3 hNv3).mono ?_
    rintro _ w4 ⟨⟨q, rfl, hBB⟩, hE4⟩
    replace hI := hI.ext hE4
    have hNv4 := hNv3.ext hE4
    replace hE4 := hE3.trans hE4
    generalize hNN : nx B = N at *
    rw [hNl] at hNv4 hBB
    rw [hNl]
    have hlen : (tl B.length F).length = B.length := tl_len _ _
    have d3 : decide (¬ ((B.length : Nat) : Int) = B.length) = false := by simp
    simp only [VS, VD, SV, SL, T, Nat.reduceEqDiff, Nat.reduceAdd, Nat.reduceSub, Nat.reduceMul, Nat.reduceLeDiff, Nat.reduceLT, reduceIte, d3]
    refine loop_cB (fun g w' => g 3 = .slice na B.length nc ∧ g 5 = .slice (some ⟨ig, 0, none⟩) B.length ic ∧ Ext w4 w') ?_ ?_
    · refine LoopP_intro (α := Nat) (fun p g w' => g 3 = .slice na B.length nc ∧ g 5 = .slice (some ⟨ig, 0, none⟩) B.length ic ∧ g 6 = .slice (some ⟨q, 0, none⟩) B.length B.length ∧ g 7 = .int .i64 p ∧ p ≤ B.length ∧ Ext w4 w') (fun p => B.length - p) 0 ?_ ?_
      · simp only [VS, VD, SV, SL, T, Nat.reduceEqDiff, Nat.reduceAdd, Nat.reduceSub, Nat.reduceMul, Nat.reduceLeDiff, Nat.reduceLT, reduceIte]
        exact ⟨rfl, Nat.zero_le _, Ext.refl _⟩
      · rintro p g w' ⟨g3, g5, g6, g7, hp, hE⟩
        simp only [VS, VD, SV, SL, T, Nat.reduceEqDiff, Nat.reduceAdd, Nat.reduceSub, Nat.reduceMul, Nat.reduceLeDiff, Nat.reduceLT, reduceIte, g3, g7]
        by_cases hlt : (p : Int) < B.length
        · rw [decide_eq_true hlt]
          have hp' : p < N.length := by omega
          simp only [VS, VD, SV, SL, T, Nat.reduceEqDiff, Nat.reduceAdd, Nat.reduceSub, Nat.reduceMul, Nat.reduceLeDiff, Nat.reduceLT, reduceIte]
          refine LoopP_intro (α := Nat) (fun k g w' => g 3 = .slice na B.length nc ∧ g 5 = .slice (some ⟨ig, 0, none⟩) B.length ic ∧ g 6 = .slice (some ⟨q, 0, none⟩) B.length B.length ∧ g 7 = .int .i64 p ∧ g 8 = .int .i64 k ∧ k ≤ (sc N p).length ∧ Ext w4 w') (fun k => (sc N p).length - k) 0 ?_ ?_
          · simp only [VS, VD, SV, SL, T, Nat.reduceEqDiff, Nat.reduceAdd, Nat.reduceSub, Nat.reduceMul, Nat.reduceLeDiff, Nat.reduceLT, reduceIte, g3, g5, g6, g7]
            exact ⟨rfl, Nat.zero_le _, hE⟩
          · clear g3 g5 g6 g7 hE g w'
            rintro k g w' ⟨g3, g5, g6, g7, g8, hk, hE⟩
            obtain ⟨nb, no, ncs, ne, nfz, u, e1, hnb, hncu, hu0⟩ := IntssAt.get' (n := B.length) (hNv4.ext hE) hp'
            subst e1
            have hsc : N[p] = sc N p := by unfold sc; rw [List.getD_eq_getElem?_getD, List.getElem?_eq_getElem hp']; rfl
            rw [hsc] at hu0
            have hscl : (sc N p).length ≤ 2 := by rw [← hsc]; exact hd2 _ (List.getElem_mem hp')
            obtain ⟨ua, uc, rfl⟩ := hu0.form
            obtain ⟨cs, hq, hqs, hqv⟩ := hBB.ext hE
            have hqp := hqv p (by omega)
            simp only [VS, VD, SV, SL, T, Nat.reduceEqDiff, Nat.reduceAdd, Nat.reduceSub, Nat.reduceMul, Nat.reduceLeDiff, Nat.reduceLT, reduceIte, g3, g7, g8, hnb, hncu, Int.toNat_natCast]
            refine ⟨by omega, ?_⟩
            refine YG_c (fun g2 w5 => g2 3 = .slice (some ⟨nb, no, none⟩) B.length nc ∧ g2 5 = .slice (some ⟨ig, 0, none⟩) B.length ic ∧ g2 6 = .slice (some ⟨q, 0, none⟩) B.length B.length ∧ g2 7 = .int .i64 p ∧ g2 8 = .int .i64 k ∧ g2 49 = .bool (decide (k < (sc N p).length) && rch N (-1) p) ∧ w5 = w') ?_ ?_
            · by_cases hkl : (k : Int) < (sc N p).length
              · rw [decide_eq_true hkl]
                simp only [VS, VD, SV, SL, T, Nat.reduceEqDiff, Nat.reduceAdd, Nat.reduceSub, Nat.reduceMul, Nat.reduceLeDiff, Nat.reduceLT, reduceIte, g3, g5, g6, g7, g8, hq, hqp, Int.toNat_natCast]
                refine ⟨by omega, ?_⟩
                rw [decide_eq_true (show k < (sc N p).length by omega)]
                simp
              · rw [decide_eq_false hkl]
                simp only [VS, VD, SV, SL, T, Nat.reduceEqDiff, Nat.reduceAdd, Nat.reduceSub, Nat.reduceMul, Nat.reduceLeDiff, Nat.reduceLT, reduceIte, g3, g5, g6, g7, g8]
                rw [decide_eq_false (show ¬ k < (sc N p).length by omega)]
                simp
            · rintro g2 w5 ⟨k3, k5, k6, k7, k8, k49, rfl⟩
              by_cases hc : k < (sc N p).length ∧ rch N (-1) p = true
              · obtain ⟨hk', hrp⟩ := hc
                have hRp := (rch_re hN hN0).1 hrp
                have : (decide (k < (sc N p).length) && rch N (-1) p) = true := by simp [hk', hrp]
                rw [this] at k49
                obtain ⟨ub, uo, ucs, ue, ufz, rfl, _, hub, hucv⟩ := hu0.get (i := k) (x := (sc N p)[k]) (by simp)
                have hmem : (sc N p)[k] ∈ sc N p := List.getElem_mem hk'
                obtain ⟨hx0, hx1⟩ := hN.sc hmem
                generalize (sc N p)[k] = x at *
                obtain ⟨b, rfl⟩ := Int.eq_ofNat_of_zero_le hx0
                simp only [Int.toNat_natCast] at hx1
                have hpE : ED N p b := hmem
                have hRb := hg.clo p b hRp hpE
                by_cases hb0 : (0 : Int) < b
                · have d0 : decide ((0 : Int) < b) = true := decide_eq_true hb0
                  obtain ⟨z, ez, hRz, hzl, _⟩ := hT.wf.lt b (hT.all b hRb (by omega))
                  have hzn := RE.lt hN hN0 hRz
                  obtain ⟨ib, io, ics, ie, ifz, q1, _, hib, hic⟩ := (hI.ext hE).get (i := b) (x := F b) (by simp [show b < B.length by omega])
                  simp only [Option.some.injEq, Addr.mk.injEq, and_true] at q1
                  obtain ⟨rfl, rfl⟩ := q1
                  rw [Nat.zero_add, ez] at hic
                  have hdom : domI (tl B.length F) z p = true := by
                    rw [← hNl]
                    exact (domI_an hN hN0 hT hzn hp').2 (hT.pred hN hN0 hRb hRp hpE ez)
                  simp only [VS, VD, SV, SL, T, Nat.reduceEqDiff, Nat.reduceAdd, Nat.reduceSub, Nat.reduceMul, Nat.reduceLeDiff, Nat.reduceLT, reduceIte, k49, k3, k5, k7, k8, hnb, hncu, hub, hucv, d0, hib, hic, Int.toNat_natCast]
                  refine ⟨by omega, by omega, by omega, ?_⟩
                  refine (Dominates_spec _ _ (by omega) z p w5 (hI.ext hE)).mono ?_
                  rintro _ w6 ⟨rfl, hE6⟩
                  simp only [VS, VD, SV, SL, T, Nat.reduceEqDiff, Nat.reduceAdd, Nat.reduceSub, Nat.reduceMul, Nat.reduceLeDiff, Nat.reduceLT, reduceIte, hdom, Bool.not_true, k3, k5, k6, k7, k8]
                  exact ⟨by omega, k + 1, ⟨by simp, by omega, hE.trans hE6⟩, by omega⟩
                · have d0 : decide ((0 : Int) < b) = false := decide_eq_false hb0
                  simp only [VS, VD, SV, SL, T, Nat.reduceEqDiff, Nat.reduceAdd, Nat.reduceSub, Nat.reduceMul, Nat.reduceLeDiff, Nat.reduceLT, reduceIte, k49, k3, k5, k6, k7, k8, hnb, hncu, hub, hucv, d0, Int.toNat_natCast]
                  exact ⟨by omega, by omega, by omega, k + 1, ⟨by simp, by omega, hE⟩, by omega⟩
              · have : (decide (k < (sc N p).length) && rch N (-1) p) = false := by
                  cases h : (decide (k < (sc N p).length) && rch N (-1) p) with
                  | false => rfl
                  | true => simp at h; exact (hc h).elim
                rw [this] at k49
                simp only [VS, VD, SV, SL, T, Nat.reduceEqDiff, Nat.reduceAdd, Nat.reduceSub, Nat.reduceMul, Nat.reduceLeDiff, Nat.reduceLT, reduceIte, k49, k3, k5, k6, k7]
                exact ⟨by omega, p + 1, ⟨by simp, by omega, hE⟩, by omega⟩
        · rw [decide_eq_false hlt]
          simp only [VS, VD, SV, SL, T, Nat.reduceEqDiff, Nat.reduceAdd, Nat.reduceSub, Nat.reduceMul, Nat.reduceLeDiff, Nat.reduceLT, reduceIte, g3, g5]
          exact hE
    · rintro g w5 ⟨g3, g5, hE5⟩
      simp only [VS, VD, SV, SL, T, Nat.reduceEqDiff, Nat.reduceAdd, Nat.reduceSub, Nat.reduceMul, Nat.reduceLeDiff, Nat.reduceLT, reduceIte]
      replace hE4 := hE4.trans hE5
      replace hI := hI.ext hE5
      replace hNv4 := hNv4.ext hE5
      clear hE5
      refine LoopP_intro (α := Nat) (fun b g w' => g 3 = .slice na B.length nc ∧ g 5 = .slice (some ⟨ig, 0, none⟩) B.length ic ∧ g 10 = .int .i64 b ∧ 1 ≤ b ∧ b ≤ B.length ∧ Ext w5 w') (fun b => B.length - b) 1 ?_ ?_
      · simp only [VS, VD, SV, SL, T, Nat.reduceEqDiff, Nat.reduceAdd, Nat.reduceSub, Nat.reduceMul, Nat.reduceLeDiff, Nat.reduceLT, reduceIte, g3, g5]
        exact ⟨rfl, by omega, Ext.refl _⟩
      · clear g3 g5 g
        rintro b g w' ⟨g3, g5, g10, hb1, hb, hE⟩
        simp only [VS, VD, SV, SL, T, Nat.reduceEqDiff, Nat.reduceAdd, Nat.reduceSub, Nat.reduceMul, Nat.reduceLeDiff, Nat.reduceLT, reduceIte, g3, g10]
        by_cases hlt : (b : Int) < B.length
        · rw [decide_eq_true hlt]
          have hb' : b < N.length := by omega
          obtain ⟨ib, io, ics, ie, ifz, q1, _, hib, hic⟩ := (hI.ext hE).get (i := b) (x := F b) (by simp [show b < B.length by omega])
          simp only [Option.some.injEq, Addr.mk.injEq, and_true] at q1
          obtain ⟨rfl, rfl⟩ := q1
          rw [Nat.zero_add] at hic
          simp only [VS, VD, SV, SL, T, Nat.reduceEqDiff, Nat.reduceAdd, Nat.reduceSub, Nat.reduceMul, Nat.reduceLeDiff, Nat.reduceLT, reduceIte, g3, g5, g10, hib, hic, Int.toNat_natCast]
          refine ⟨by omega, ?_⟩
          refine YG_c (fun g2 w6 => g2 3 = .slice na B.length nc ∧ g2 5 = .slice (some ⟨ig, 0, none⟩) B.length ic ∧ g2 10 = .int .i64 b ∧ Ext w' w6 ∧ (g2 104 = .bool true ∨ (g2 104 = .bool false ∧ ∃ a : Nat, F b = a ∧ g2 11 = .int .i64 a ∧ RE N a ∧ (sc N a).length ≤ 1 ∧ (b : Int) ∉ sc N a))) ?_ ?_
          · by_cases c1 : F b < 0
            · rw [decide_eq_true c1]
              simp only [VS, VD, SV, SL, T, Nat.reduceEqDiff, Nat.reduceAdd, Nat.reduceSub, Nat.reduceMul, Nat.reduceLeDiff, Nat.reduceLT, reduceIte, g3, g5, g10]
              exact ⟨Ext.refl _, .inl trivial⟩
            · rw [decide_eq_false c1]
              obtain ⟨a, ea, hRa, _, _⟩ := hT.wf.lt b (by omega)
              have han := RE.lt hN hN0 hRa
              have c2 : decide ((B.length : Int) ≤ a) = false := decide_eq_false (by omega)
              obtain ⟨nb, no, ncs, ne, nfz, u, e1, hnb, hncu, hu0⟩ := IntssAt.get' (n := B.length) (hNv4.ext hE) han
              subst e1
              have hsc : N[a] = sc N a := by unfold sc; rw [List.getD_eq_getElem?_getD, List.getElem?_eq_getElem han]; rfl
              rw [hsc] at hu0
              have hscl : (sc N a).length ≤ 2 := by rw [← hsc]; exact hd2 _ (List.getElem_mem han)
              obtain ⟨ua, uc, rfl⟩ := hu0.form
              rw [ea] at *
              by_cases c3 : 1 < ((sc N a).length : Int)
              · have d3 : decide (1 < ((sc N a).length : Int)) = true := decide_eq_true c3
                simp only [VS, VD, SV, SL, T, Nat.reduceEqDiff, Nat.reduceAdd, Nat.reduceSub, Nat.reduceMul, Nat.reduceLeDiff, Nat.reduceLT, reduceIte, g3, g5, g10, c2, hnb, hncu, d3, Int.toNat_natCast]
                exact ⟨by omega, Ext.refl _, .inl trivial⟩
              · have d3 : decide (1 < ((sc N a).length : Int)) = false := decide_eq_false c3
                simp only [VS, VD, SV, SL, T, Nat.reduceEqDiff, Nat.reduceAdd, Nat.reduceSub, Nat.reduceMul, Nat.reduceLeDiff, Nat.reduceLT, reduceIte, g3, g5, g10, c2, hnb, hncu, d3, Int.toNat_natCast]
                refine ⟨by omega, by omega, ?_⟩
                refine (In_spec _ _ (by omega) b w' hu0).mono ?_
                rintro _ w6 ⟨rfl, hE6⟩
                by_cases c4 : (b : Int) ∈ sc N a
                · rw [decide_eq_true c4]
                  simp only [VS, VD, SV, SL, T, Nat.reduceEqDiff, Nat.reduceAdd, Nat.reduceSub, Nat.reduceMul, Nat.reduceLeDiff, Nat.reduceLT, reduceIte, g3, g5, g10]
                  exact ⟨hE6, .inl trivial⟩
                · rw [decide_eq_false c4]
                  simp only [VS, VD, SV, SL, T, Nat.reduceEqDiff, Nat.reduceAdd, Nat.reduceSub, Nat.reduceMul, Nat.reduceLeDiff, Nat.reduceLT, reduceIte, g3, g5, g10]
                  exact ⟨hE6, .inr ⟨a, by omega, rfl, hRa, by omega, c4⟩⟩
          · rintro g2 w6 ⟨k3, k5, k10, hE6, hcase⟩
            replace hE6 := hE.trans hE6
            rcases hcase with k104 | ⟨k104, a, ea, k11, hRa, hsl, hnm⟩
            · simp only [VS, VD, SV, SL, T, Nat.reduceEqDiff, Nat.reduceAdd, Nat.reduceSub, Nat.reduceMul, Nat.reduceLeDiff, Nat.reduceLT, reduceIte, k104, k3, k5, k10]
              exact ⟨by omega, b + 1, ⟨by simp, by omega, by omega, hE6⟩, by omega⟩
            · have han := RE.lt hN hN0 hRa
              have hRb : RE N b := hT.wf.re (by omega)
              have hNV2 := addE_nv hNV han hb' hsl hnm
              have hN6 := hNv4.ext hE6
              simp only [VS, VD, SV, SL, T, Nat.reduceEqDiff, Nat.reduceAdd, Nat.reduceSub, Nat.reduceMul, Nat.reduceLeDiff, Nat.reduceLT, reduceIte, k104, k3, k5, k10, k11]
              refine app_intss (empty_own w6 29) hN6 ((Ext.refl w6).alloc _) hN0 (by omega) (by rw [alloc_size]; omega) ?_
              rintro v7 w7 ⟨mg, mcap, mcs, rfl, hmg, hmb, hms, hmn, hmv⟩ hg7
              have hE67 : Ext w6 w7 := ((Ext.refl w6).alloc _).grownO (empty_own w6 29) (Nat.le_refl _) hg7
              obtain ⟨nb, no, ncs, ne, nfz, u, e1, hnb, hncu, hu0⟩ := IntssAt.get' (n := B.length) (hN6.ext hE67) han
              subst e1
              have hsc : N[a] = sc N a := by unfold sc; rw [List.getD_eq_getElem?_getD, List.getElem?_eq_getElem han]; rfl
              rw [hsc] at hu0
              obtain ⟨ua, uc, rfl⟩ := hu0.form
              have hmgl := get_lt hmb
              have hnl := get_lt hnb
              have hnbne : ¬ nb = w7.heap.size := by omega
              simp only [VS, VD, SV, SL, T, Nat.reduceEqDiff, Nat.reduceAdd, Nat.reduceSub, Nat.reduceMul, Nat.reduceLeDiff, Nat.reduceLT, reduceIte, k3, k10, k11, hnb, hncu, hnbne, Int.toNat_natCast]
              refine ⟨by omega, ?_⟩
              have ho7 : IntO w7.heap.size (w7.alloc (.cells #[] 3)) (.slice (some ⟨w7.heap.size, 0, none⟩) 0 0) [] := empty_own w7 3
              refine app_ints ho7 (hu0.ext ((Ext.refl w7).alloc _)) (by simp; omega) (by rw [alloc_size]; omega) ?_
              intro v8 w8 ho8 hg8 hn8
              have hE8 : Ext w7 w8 := ((Ext.refl w7).alloc _).grownO ho7 (Nat.le_refl _) hg8
              rw [List.nil_append] at ho8
              simp only [VS, VD, SV, SL, T, Nat.reduceEqDiff, Nat.reduceAdd, Nat.reduceSub, Nat.reduceMul, Nat.reduceLeDiff, Nat.reduceLT, reduceIte, k10]
              refine app_int ho8 (by omega) hE8.size b ?_
              intro v9 w9 ho9 hg9 hn9
              have hE9 : Ext w7 w9 := hE8.grownO ho8 (Nat.le_refl _) hg9
              have hmb9 := hE9.obj hmb
              obtain ⟨va, vc, rfl⟩ := own_form ho9
              simp only [VS, VD, SV, SL, T, Nat.reduceEqDiff, Nat.reduceAdd, Nat.reduceSub, Nat.reduceMul, Nat.reduceLeDiff, Nat.reduceLT, reduceIte, k11, hmb9, Int.toNat_natCast]
              refine ⟨by omega, by omega, ?_⟩
              have hE10 : Ext w6 (w9.putb mg (.cells (mcs.setIfInBounds a (.slice va (sc N a ++ [(b : Int)]).length vc)) 29 (0, 0))) := (hE67.trans hE9).putb hmg _
              have hmore : IntssAt (w9.putb mg (.cells (mcs.setIfInBounds a (.slice va (sc N a ++ [(b : Int)]).length vc)) 29 (0, 0))) (.slice (some ⟨mg, 0, none⟩) B.length mcap) (addE N a b) := by
                refine .inr ⟨mg, 0, mcap, by rw [addE_len, hNl], fun i l hl => ?_⟩
                have hmg9 := get_lt hmb9
                rw [cell_mk, get_putb _ _ _ _ hmg9, if_pos rfl, Nat.zero_add]
                simp only []
                rw [Array.getElem?_setIfInBounds]
                unfold addE at hl
                rw [List.getElem?_set] at hl
                by_cases e : a = i
                · subst e
                  rw [if_pos rfl, if_pos han] at hl
                  rw [if_pos rfl, if_pos (by omega)]
                  refine ⟨_, rfl, ?_⟩
                  rw [← Option.some.inj hl]
                  refine IntO.ints (base := w7.heap.size) (own_at ho9 fun x hx => ?_)
                  have := (ho9.lt x hx).1
                  rw [putb_get_ne (by omega)]
                · rw [if_neg e] at hl ⊢
                  obtain ⟨x, hx, hxI⟩ := hmv i l hl
                  exact ⟨x, hx, hxI.ext hE10⟩
              generalize w9.putb mg (.cells (mcs.setIfInBounds a (.slice va (sc N a ++ [(b : Int)]).length vc)) 29 (0, 0)) = w10 at *
              rw [hNl]
              refine (Graph_spec hNV2.ok hNV2.two (by rw [addE_len]; omega) _ w10 hmore).mono ?_
              rintro gv2 w11 ⟨hE11, hG11⟩
              have hVG2 := VG_blks hNV2
              have hnx2 := nx_blks (addE N a b)
              obtain ⟨bs2, pv2, rfl, hb2, hp2⟩ := id hG11
              obtain ⟨ba2, bc2, rfl⟩ := hb2.form
              obtain ⟨pa2, pc2, rfl⟩ := hp2.form'
              have hbl2 : (blks (addE N a b) (addE N a b).length).length = B.length := by rw [blks_len, addE_len, hNl]
              simp only [VS, VD, SV, SL, T, Nat.reduceEqDiff, Nat.reduceAdd, Nat.reduceSub, Nat.reduceMul, Nat.reduceLeDiff, Nat.reduceLT, reduceIte]
              refine (Tree_spec _ (blks (addE N a b) (addE N a b).length) _ (by omega) w11 hG11).mono ?_
              rintro v12 w12 ⟨hE12, _, h12⟩
              obtain ⟨F2, g2', c2', rfl, _, hI12, hT2⟩ := h12 hVG2
              rw [hnx2] at hT2
              have hsame := (tree_more hN hN0 hNV2.ok (addE_len N a b) hT hT2 hRb hRa (fun d hd => by
                rcases hd.cases' with k | ⟨_, y, k1, k2⟩
                · exact .inl k
                · obtain rfl : a = y := Int.ofNat.inj (ea.symm.trans k1)
                  exact .inr k2) (addE_ed han)).2
              have hF : F2 = F := funext hsame
              rw [hbl2, hF] at hI12
              rw [hbl2]
              have hEw := hE6.trans (hE10.trans (hE11.trans hE12))
              simp only [VS, VD, SV, SL, T, Nat.reduceEqDiff, Nat.reduceAdd, Nat.reduceSub, Nat.reduceMul, Nat.reduceLeDiff, Nat.reduceLT, reduceIte, k5]
              refine (Ints_spec _ _ _ _ (by omega) w12 hI12 (hI.ext hEw)).mono ?_
              rintro _ w13 ⟨rfl, hE13⟩
              simp only [VS, VD, SV, SL, T, Nat.reduceEqDiff, Nat.reduceAdd, Nat.reduceSub, Nat.reduceMul, Nat.reduceLeDiff, Nat.reduceLT, reduceIte, dEq, Bool.not_true]
              exact hΨ _ _ ⟨rfl, hE4.trans (hEw.trans hE13)⟩
        · rw [decide_eq_false hlt]
          simp only [VS, VD, SV, SL, T, Nat.reduceEqDiff, Nat.reduceAdd, Nat.reduceSub, Nat.reduceMul, Nat.reduceLeDiff, Nat.reduceLT, reduceIte]
          exact hΨ _ _ ⟨rfl, hE4.trans hE⟩
end Go.Proofs.Ytjilblndcbphgaa

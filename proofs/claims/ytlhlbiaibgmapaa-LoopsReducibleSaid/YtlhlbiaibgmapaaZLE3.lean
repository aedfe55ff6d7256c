/-
  LoopsReducible: the walk.
-/
import Derived.Test.YtlhlbiaibgmapaaZLPR
import Derived.Test.YtlhlbiaibgmapaaZLRN
set_option linter.unusedSimpArgs false
set_option linter.unusedVariables false
namespace Go.Proofs.Ytlhlbiaibgmapaa
open Go.W Go.RowKit
theorem BB.clr {w : World} {b n : Nat} {S : Nat → Bool} {cs : Array Value} (h1 : b < w.heap.size) (h2 : cs.size = n) (h3 : ∀ i, i < n → cs[i]? = some (.bool (S i))) (i : Nat) :
    BB (w.putb b (.cells (cs.setIfInBounds i (.bool false)) 4 (0, 0))) b n (clrS S i) := by
  refine ⟨_, by rw [get_putb _ _ _ _ h1, if_pos rfl], ?_, ?_⟩
  · simp [h2]
  · intro j hj
    rw [Array.getElem?_setIfInBounds]
    unfold clrS
    by_cases e : j = i
    · subst e; simp [h2, hj]
    · rw [if_neg (fun q => e q.symm), h3 j hj, if_neg e]
theorem cntR_succ (a : Nat) (R : Nat → Bool) : cntR (a + 1) R = cntR a R + if R a = true then 1 else 0 := by
  unfold cntR
  rw [List.range_succ, List.filter_append, List.length_append]
  congr 1
  by_cases h : R a = true
  · rw [if_pos h, List.filter_cons_of_pos h]; rfl
  · rw [if_neg h, List.filter_cons_of_neg h]; rfl
theorem S0_skip {N : List (List Int)} {a : Nat} (ha : a < N.length) (hr : rch N (-1) a = false) : S0 N (edK N (a + 1) 0) = S0 N (edK N a 0) := by
  rw [← edK_next ha]
  unfold edK
  rw [List.take_zero, List.map_nil, List.append_nil]
  funext p
  unfold S0
  rw [List.any_append]
  have : ((List.map (fun n => ((a : Int), n)) (List.take (sc N a).length (sc N a))).any fun e => decide (e = p) && (rch N (-1) e.1.toNat && decide (e.1 ≠ e.2))) = false := by
    rw [List.any_eq_false]
    intro e he
    obtain ⟨n, _, rfl⟩ := List.mem_map.1 he
    simp [hr]
  rw [this, Bool.or_false]
theorem good_iff {N : List (List Int)} : (edg 0 N).find? (badE N) = none ↔ Good N := by
  constructor
  · exact good_of
  · intro hg
    exact List.find?_eq_none.2 fun e he => by rw [hg e he]; decide
set_option maxHeartbeats 1000000 in
set_option maxRecDepth 10000 in
theorem LoopsReducible_spec (gv : Value) (B : List Blk) (PV : List (List Int)) (w : World) (h : GrAt w gv B PV) (hl : B.length ≤ maxLen) : VRet Try.prog 6 #[gv] w fun v w' => v = .bool true ∧ Ext w w' := by
  have hml : B.length ≤ 9223372036854775807 := by unfold maxLen at hl; omega
  obtain ⟨bs, pv, rfl, hb0, hp0⟩ := h
  obtain ⟨ba, bc, rfl⟩ := hb0.form
  obtain ⟨pa, pc, rfl⟩ := hp0.form'
  refine VRet_start T.mo ok6 rfl fun Ψ hΨ => ?_; simp only [vc6, rs6]
  simp only [VS, VD, SV, SL, T, Nat.reduceEqDiff, Nat.reduceAdd, Nat.reduceSub, Nat.reduceMul, Nat.reduceLeDiff, Nat.reduceLT, reduceIte]
  refine (awake_spec _).mono ?_
  rintro _ w1 ⟨rfl, hE1⟩
  replace hE1 := ((Ext.refl w).alloc tomb).trans hE1
  simp only [VS, VD, SV, SL, T, Nat.reduceEqDiff, Nat.reduceAdd, Nat.reduceSub, Nat.reduceMul, Nat.reduceLeDiff, Nat.reduceLT, reduceIte, Bool.not_true]
  refine (next_spec _ B PV hml w1 ⟨_, _, rfl, hb0.ext hE1, hp0.ext hE1⟩).mono ?_
  rintro _ w2 ⟨hE2, hc⟩
  replace hE2 := hE1.trans hE2
  rcases hc with ⟨_, rfl⟩ | ⟨h14, hV, nv, rfl, hNv⟩
  · simp only [VS, VD, SV, SL, T, Nat.reduceEqDiff, Nat.reduceAdd, Nat.reduceSub, Nat.reduceMul, Nat.reduceLeDiff, Nat.reduceLT, reduceIte, Bool.not_false]
    exact hΨ _ _ ⟨rfl, hE2⟩
  obtain ⟨na, nc, rfl⟩ := hNv.form'
  simp only [VS, VD, SV, SL, T, Nat.reduceEqDiff, Nat.reduceAdd, Nat.reduceSub, Nat.reduceMul, Nat.reduceLeDiff, Nat.reduceLT, reduceIte, Bool.not_true]
  refine (Find_spec _ B PV (by omega) w2 ⟨_, _, rfl, hb0.ext hE2, hp0.ext hE2⟩).mono ?_
  rintro v w3 ⟨⟨_, hQ2⟩, hE3⟩
  obtain ⟨hB0, hN, hN2, hnd, _⟩ := VG_spec hV
  have hNl : (nx B).length = B.length := by unfold nx; rw [List.length_map]
  have hN0 : 0 < (nx B).length := by omega
  obtain ⟨hQa, hQb⟩ := hQ2 hV
  have hv : ∃ fa fn fc ft e, v = .tuple #[.slice fa fn fc, .int .i64 ft, .int .i64 e] ∧ (e = 0 ↔ Good (nx B)) := by
    cases hf : (edg 0 (nx B)).find? (badE (nx B)) with
    | some e =>
      refine ⟨_, _, _, _, _, hQa e hf, ?_⟩
      rw [← good_iff, hf]
      simp
    | none =>
      obtain ⟨lv, h1, h2⟩ := hQb hf
      obtain ⟨a, c, rfl⟩ := h2.form
      exact ⟨_, _, _, _, _, h1, by rw [← good_iff, hf]; simp⟩
  obtain ⟨fa, fn, fc, ft, e, rfl, he⟩ := hv
  replace hNv := hNv.ext hE3
  replace hE3 := hE2.trans hE3
  clear hQ2 hQa hQb hE1 hE2 hnd
  have hns : (nx B).length ≤ 14 := by omega
  generalize nx B = N at *
  have hri := rs0_inv hN hN0
  have hrall := fun k => rlls_inv hri k
  have hrrn := fun k b hb => (rrnd_inv (hrall k) b hb).1
  have hend := rlls_end hri
  simp only [VS, VD, SV, SL, T, Nat.reduceEqDiff, Nat.reduceAdd, Nat.reduceSub, Nat.reduceMul, Nat.reduceLeDiff, Nat.reduceLT, reduceIte]
  refine (Reach_new hN hN0 (by omega) hN2 _ (-1) w3 hNv).mono ?_
  rintro _ w4 ⟨⟨rfl, hq⟩, hE4⟩
  have hsz := hE4.size
  have hqlt := hq.lt
  generalize hqe : w3.heap.size = q at *
  simp only [VS, VD, SV, SL, T, Nat.reduceEqDiff, Nat.reduceAdd, Nat.reduceSub, Nat.reduceMul, Nat.reduceLeDiff, Nat.reduceLT, reduceIte]
  have hS0 := SetP.new w4
  replace hq := hq.ext ((Ext.refl w4).alloc (.map #[] 0))
  replace hE4 := hE4.alloc (.map #[] 0)
  generalize hre : w4.heap.size = r at *
  generalize w4.alloc (.map #[] 0) = w5 at *
  have hqr : q ≠ r := by omega
  have hqb : w3.heap.size ≤ q := by omega
  have hrb : w3.heap.size ≤ r := by omega
  clear hsz hqlt hre hqe
  refine loop_cB (fun g w' => g 3 = .slice na N.length nc ∧ g 7 = .int .i64 e ∧ g 8 = .slice (some ⟨q, 0, none⟩) N.length N.length ∧ g 10 = .map (some r) ∧ g 9 = .int .i64 (cntR N.length (rch N (-1))) ∧ Ext w3 w' ∧ BB w' q N.length (rch N (-1)) ∧ SetP w' r (S0 N (edg 0 N))) ?_ ?_
  · refine LoopP_intro (α := Nat) (fun a g w' => g 3 = .slice na N.length nc ∧ g 7 = .int .i64 e ∧ g 8 = .slice (some ⟨q, 0, none⟩) N.length N.length ∧ g 10 = .map (some r) ∧ g 9 = .int .i64 (cntR a (rch N (-1))) ∧ g 38 = .int .i64 N.length ∧ g 39 = .int .i64 a ∧ a ≤ N.length ∧ Ext w3 w' ∧ BB w' q N.length (rch N (-1)) ∧ SetP w' r (S0 N (edK N a 0))) (fun a => N.length - a) 0 ?_ ?_
    · simp only [VS, VD, SV, SL, T, Nat.reduceEqDiff, Nat.reduceAdd, Nat.reduceSub, Nat.reduceMul, Nat.reduceLeDiff, Nat.reduceLT, reduceIte]
      exact ⟨rfl, rfl, Nat.zero_le _, hE4, hq, hS0⟩
    rintro a g w6 ⟨g3, g7, g8, g10, g9, g38, g39, ha, hE6, hB6, hS6⟩
    have hcl := cntR_le a (rch N (-1))
    simp only [VS, VD, SV, SL, T, Nat.reduceEqDiff, Nat.reduceAdd, Nat.reduceSub, Nat.reduceMul, Nat.reduceLeDiff, Nat.reduceLT, reduceIte, g38, g39]
    by_cases hla : (a : Int) < N.length
    · rw [decide_eq_true hla]
      have ha' : a < N.length := by omega
      obtain ⟨qs, hqb6, hqz, hqv⟩ := id hB6
      have hqa := hqv a ha'
      simp only [VS, VD, SV, SL, T, Nat.reduceEqDiff, Nat.reduceAdd, Nat.reduceSub, Nat.reduceMul, Nat.reduceLeDiff, Nat.reduceLT, reduceIte, g8, g39, hqb6, hqa, Int.toNat_natCast]
      refine ⟨by omega, ?_⟩
      cases hra : rch N (-1) a with
      | false =>
        simp only [VS, VD, SV, SL, T, Nat.reduceEqDiff, Nat.reduceAdd, Nat.reduceSub, Nat.reduceMul, Nat.reduceLeDiff, Nat.reduceLT, reduceIte, Bool.not_false, g3, g7, g8, g9, g10, g38, g39]
        refine ⟨by omega, a + 1, ⟨?_, by simp, by omega, hE6, hB6, by rw [S0_skip ha' hra]; exact hS6⟩, by omega⟩
        rw [cntR_succ, hra]
        simp
      | true =>
        have hsx : N[a]'ha' = sc N a := by unfold sc; rw [List.getD_eq_getElem?_getD, List.getElem?_eq_getElem ha']; rfl
        have hrl : (sc N a).length ≤ 2 := by rw [← hsx]; exact hN2 _ (List.getElem_mem ha')
        have hrng : ∀ m ∈ sc N a, 0 ≤ m ∧ m.toNat < N.length := fun m hm => hN.sc hm
        have hsn := fun (k : Nat) (hk : k < (sc N a).length) => edK_snoc hk
        have hnx := edK_next ha'
        obtain ⟨rb, ro, rcs, re, rfz, ur, rfl, hrb3, hrc, hru⟩ := hNv.get' (i := a) ha'
        have hrb' := hE6.obj hrb3
        rw [hsx] at hru
        generalize sc N a = row at *
        obtain ⟨ra, rc, rfl⟩ := hru.form
        simp only [VS, VD, SV, SL, T, Nat.reduceEqDiff, Nat.reduceAdd, Nat.reduceSub, Nat.reduceMul, Nat.reduceLeDiff, Nat.reduceLT, reduceIte, Bool.not_true, g3, g9, hrb', hrc, Int.toNat_natCast]
        refine ⟨by omega, by omega, ?_⟩
        have hcs : (cntR (a + 1) (rch N (-1)) : Int) = (cntR a (rch N (-1)) : Int) + 1 := by rw [cntR_succ, hra]; simp
        refine LoopP_intro (α := Nat) (fun k g w' => g 3 = .slice (some ⟨rb, ro, none⟩) N.length nc ∧ g 7 = .int .i64 e ∧ g 8 = .slice (some ⟨q, 0, none⟩) N.length N.length ∧ g 10 = .map (some r) ∧ g 9 = .int .i64 (cntR (a + 1) (rch N (-1))) ∧ g 38 = .int .i64 N.length ∧ g 39 = .int .i64 a ∧ g 11 = .int .i64 a ∧ g 52 = .slice ra row.length rc ∧ g 53 = .int .i64 row.length ∧ g 54 = .int .i64 k ∧ k ≤ row.length ∧ Ext w3 w' ∧ BB w' q N.length (rch N (-1)) ∧ SetP w' r (S0 N (edK N a k))) (fun k => row.length - k) 0 ?_ ?_
        · simp only [VS, VD, SV, SL, T, Nat.reduceEqDiff, Nat.reduceAdd, Nat.reduceSub, Nat.reduceMul, Nat.reduceLeDiff, Nat.reduceLT, reduceIte, g3, g7, g8, g9, g10, g38, g39]
          exact ⟨by rw [hcs], rfl, Nat.zero_le _, hE6, hB6, hS6⟩
        clear g3 g7 g8 g9 g10 g38 g39 hqb6 hrb' hB6 hS6
        rintro k g w7 ⟨g3, g7, g8, g10, g9, g38, g39, g11, g52, g53, g54, hk, hE7, hB7, hS7⟩
        simp only [VS, VD, SV, SL, T, Nat.reduceEqDiff, Nat.reduceAdd, Nat.reduceSub, Nat.reduceMul, Nat.reduceLeDiff, Nat.reduceLT, reduceIte, g53, g54]
        by_cases hlk : (k : Int) < row.length
        · rw [decide_eq_true hlk]
          have hk' : k < row.length := by omega
          obtain ⟨bu, ou, cu, eu, fu, rfl, _, hbu, hcu⟩ := (hru.ext hE7).get (i := k) (x := row[k]) (by simp [hk'])
          obtain ⟨hy0, hy1⟩ := hrng _ (List.getElem_mem hk')
          have hsk := hsn k hk'
          generalize row[k] = y at *
          obtain ⟨b, rfl⟩ := Int.eq_ofNat_of_zero_le hy0
          have hS := S0_snoc N (edK N a k) (a : Int) (b : Int)
          rw [← hsk, Int.toNat_natCast, hra, Bool.true_and] at hS
          simp only [VS, VD, SV, SL, T, Nat.reduceEqDiff, Nat.reduceAdd, Nat.reduceSub, Nat.reduceMul, Nat.reduceLeDiff, Nat.reduceLT, reduceIte, g11, g52, g54, hbu, hcu, Int.toNat_natCast]
          refine ⟨by omega, ?_⟩
          by_cases hab : (a : Int) = b
          · have d1 : decide (¬ (a : Int) = b) = false := decide_eq_false fun q => q hab
            rw [show decide ((a : Int) ≠ b) = false from d1, if_neg (by decide)] at hS
            simp only [VS, VD, SV, SL, T, Nat.reduceEqDiff, Nat.reduceAdd, Nat.reduceSub, Nat.reduceMul, Nat.reduceLeDiff, Nat.reduceLT, reduceIte, g3, g7, g8, g9, g10, g11, g38, g39, g52, g53, g54, d1]
            exact ⟨by omega, k + 1, ⟨by simp, by omega, hE7, hB7, by rw [hS]; exact hS7⟩, by omega⟩
          · have d1 : decide (¬ (a : Int) = b) = true := decide_eq_true hab
            rw [show decide ((a : Int) ≠ b) = true from d1, if_pos rfl] at hS
            simp only [VS, VD, SV, SL, T, Nat.reduceEqDiff, Nat.reduceAdd, Nat.reduceSub, Nat.reduceMul, Nat.reduceLeDiff, Nat.reduceLT, reduceIte, g10, g11, d1]
            refine hS7.put (a : Int) (b : Int) ?_
            rintro w8 ⟨o, rfl⟩ hS8
            simp only [VS, VD, SV, SL, T, Nat.reduceEqDiff, Nat.reduceAdd, Nat.reduceSub, Nat.reduceMul, Nat.reduceLeDiff, Nat.reduceLT, reduceIte, g3, g7, g8, g9, g10, g11, g38, g39, g52, g53, g54]
            exact ⟨by omega, k + 1, ⟨by simp, by omega, hE7.putb hrb o, hB7.heap (putb_get_ne hqr _), by rw [hS]; exact hS8⟩, by omega⟩
        · rw [decide_eq_false hlk]
          obtain rfl : k = row.length := by omega
          simp only [VS, VD, SV, SL, T, Nat.reduceEqDiff, Nat.reduceAdd, Nat.reduceSub, Nat.reduceMul, Nat.reduceLeDiff, Nat.reduceLT, reduceIte, g3, g7, g8, g9, g10, g38, g39]
          exact ⟨by omega, a + 1, ⟨rfl, by simp, by omega, hE7, hB7, by rw [← hnx]; exact hS7⟩, by omega⟩
    · rw [decide_eq_false hla]
      obtain rfl : a = N.length := by omega
      rw [edK_end] at hS6
      simp only [VS, VD, SV, SL, T, Nat.reduceEqDiff, Nat.reduceAdd, Nat.reduceSub, Nat.reduceMul, Nat.reduceLeDiff, Nat.reduceLT, reduceIte, g3, g7, g8, g9, g10]
      exact ⟨hE6, hB6, hS6⟩
  rintro g w6 ⟨g3, g7, g8, g10, g9, hE6, hB6, hS6⟩
  clear hq hS0 hE4
  simp only [VS, VD, SV, SL, T, Nat.reduceEqDiff, Nat.reduceAdd, Nat.reduceSub, Nat.reduceMul, Nat.reduceLeDiff, Nat.reduceLT, reduceIte, g3]
  refine LoopP_intro (α := Nat) (fun k g w' => g 3 = .slice na N.length nc ∧ g 7 = .int .i64 e ∧ g 8 = .slice (some ⟨q, 0, none⟩) N.length N.length ∧ g 10 = .map (some r) ∧ g 9 = .int .i64 (rlls N.length (rs0 N) k).al ∧ g 68 = .int .i64 N.length ∧ g 69 = .int .i64 k ∧ k ≤ N.length ∧ Ext w3 w' ∧ BB w' q N.length ((rlls N.length (rs0 N) k).R) ∧ SetP w' r ((rlls N.length (rs0 N) k).S)) (fun k => N.length - k) 0 ?_ ?_
  · simp only [VS, VD, SV, SL, T, Nat.reduceEqDiff, Nat.reduceAdd, Nat.reduceSub, Nat.reduceMul, Nat.reduceLeDiff, Nat.reduceLT, reduceIte, g3, g7, g8, g9, g10]
    exact ⟨rfl, rfl, Nat.zero_le _, hE6, hB6, hS6⟩
  clear g3 g7 g8 g9 g10 hE6 hB6 hS6
  rintro k g w6 ⟨g3, g7, g8, g10, g9, g68, g69, hk, hE6, hB6, hS6⟩
  simp only [VS, VD, SV, SL, T, Nat.reduceEqDiff, Nat.reduceAdd, Nat.reduceSub, Nat.reduceMul, Nat.reduceLeDiff, Nat.reduceLT, reduceIte, g68, g69]
  by_cases hlk : (k : Int) < N.length
  · rw [decide_eq_true hlk]
    have hk' : k < N.length := by omega
    have hrk := hrrn k
    have hnext : rlls N.length (rs0 N) (k + 1) = rrnd N.length (rlls N.length (rs0 N) k) N.length := rfl
    generalize rlls N.length (rs0 N) k = s at *
    simp only [VS, VD, SV, SL, T, Nat.reduceEqDiff, Nat.reduceAdd, Nat.reduceSub, Nat.reduceMul, Nat.reduceLeDiff, Nat.reduceLT, reduceIte]
    refine LoopP_intro (α := Nat) (fun b g w' => g 3 = .slice na N.length nc ∧ g 7 = .int .i64 e ∧ g 8 = .slice (some ⟨q, 0, none⟩) N.length N.length ∧ g 10 = .map (some r) ∧ g 9 = .int .i64 (rrnd N.length s b).al ∧ g 68 = .int .i64 N.length ∧ g 69 = .int .i64 k ∧ g 14 = .int .i64 b ∧ 1 ≤ b ∧ b ≤ N.length ∧ Ext w3 w' ∧ BB w' q N.length ((rrnd N.length s b).R) ∧ SetP w' r ((rrnd N.length s b).S)) (fun b => N.length - b) 1 ?_ ?_
    · simp only [VS, VD, SV, SL, T, Nat.reduceEqDiff, Nat.reduceAdd, Nat.reduceSub, Nat.reduceMul, Nat.reduceLeDiff, Nat.reduceLT, reduceIte, g3, g7, g8, g9, g10, g68, g69]
      exact ⟨rfl, rfl, hN0, hE6, hB6, hS6⟩
    clear g3 g7 g8 g9 g10 g68 g69 hE6 hB6 hS6
    rintro b g w6 ⟨g3, g7, g8, g10, g9, g68, g69, g14, hb1, hb, hE6, hB6, hS6⟩
    simp only [VS, VD, SV, SL, T, Nat.reduceEqDiff, Nat.reduceAdd, Nat.reduceSub, Nat.reduceMul, Nat.reduceLeDiff, Nat.reduceLT, reduceIte, g3, g14]
    by_cases hlb : (b : Int) < N.length
    · rw [decide_eq_true hlb]
      have hb' : b < N.length := by omega
      have hsb : rrnd N.length s (b + 1) = rstp N.length (rrnd N.length s b) b := by rw [rrnd, if_neg (by omega)]
      have hinv := hrk b hb
      generalize rrnd N.length s b = z at *
      have hzal := hinv.al
      have hzc := cntR_le N.length z.R
      simp only [VS, VD, SV, SL, T, Nat.reduceEqDiff, Nat.reduceAdd, Nat.reduceSub, Nat.reduceMul, Nat.reduceLeDiff, Nat.reduceLT, reduceIte, g3]
      refine loop_cB (fun g w' => g 3 = .slice na N.length nc ∧ g 7 = .int .i64 e ∧ g 8 = .slice (some ⟨q, 0, none⟩) N.length N.length ∧ g 10 = .map (some r) ∧ g 9 = .int .i64 z.al ∧ g 68 = .int .i64 N.length ∧ g 69 = .int .i64 k ∧ g 14 = .int .i64 b ∧ g 15 = .int .i64 (frm z.S b N.length).1 ∧ g 16 = .int .i64 (frm z.S b N.length).2 ∧ w' = w6) ?_ ?_
      · refine LoopP_intro (α := Nat) (fun a g w' => g 3 = .slice na N.length nc ∧ g 7 = .int .i64 e ∧ g 8 = .slice (some ⟨q, 0, none⟩) N.length N.length ∧ g 10 = .map (some r) ∧ g 9 = .int .i64 z.al ∧ g 68 = .int .i64 N.length ∧ g 69 = .int .i64 k ∧ g 14 = .int .i64 b ∧ g 15 = .int .i64 (frm z.S b a).1 ∧ g 16 = .int .i64 (frm z.S b a).2 ∧ g 78 = .int .i64 N.length ∧ g 79 = .int .i64 a ∧ a ≤ N.length ∧ w' = w6) (fun a => N.length - a) 0 ?_ ?_
        · simp only [VS, VD, SV, SL, T, Nat.reduceEqDiff, Nat.reduceAdd, Nat.reduceSub, Nat.reduceMul, Nat.reduceLeDiff, Nat.reduceLT, reduceIte, g3, g7, g8, g9, g10, g14, g68, g69]
          exact ⟨rfl, rfl, rfl, Nat.zero_le _⟩
        clear g3 g7 g8 g9 g10 g14 g68 g69
        rintro a g w7 ⟨g3, g7, g8, g10, g9, g68, g69, g14, g15, g16, g78, g79, ha, rfl⟩
        have hfr := frm_rng z.S b a
        have hfs : frm z.S b (a + 1) = if z.S ((a : Int), (b : Int)) = true then ((a : Int), (frm z.S b a).2 + 1) else frm z.S b a := rfl
        simp only [VS, VD, SV, SL, T, Nat.reduceEqDiff, Nat.reduceAdd, Nat.reduceSub, Nat.reduceMul, Nat.reduceLeDiff, Nat.reduceLT, reduceIte, g78, g79]
        by_cases hla : (a : Int) < N.length
        · rw [decide_eq_true hla]
          simp only [VS, VD, SV, SL, T, Nat.reduceEqDiff, Nat.reduceAdd, Nat.reduceSub, Nat.reduceMul, Nat.reduceLeDiff, Nat.reduceLT, reduceIte, g10, g14, g79]
          refine hS6.look (a : Int) (b : Int) ?_
          cases hs : z.S ((a : Int), (b : Int)) with
          | true =>
            rw [hs, if_pos rfl] at hfs
            simp only [VS, VD, SV, SL, T, Nat.reduceEqDiff, Nat.reduceAdd, Nat.reduceSub, Nat.reduceMul, Nat.reduceLeDiff, Nat.reduceLT, reduceIte, g3, g7, g8, g9, g10, g14, g16, g68, g69, g78, g79]
            exact ⟨by omega, by omega, a + 1, ⟨by rw [hfs], by rw [hfs], by simp, by omega⟩, by omega⟩
          | false =>
            rw [hs, if_neg (by decide)] at hfs
            simp only [VS, VD, SV, SL, T, Nat.reduceEqDiff, Nat.reduceAdd, Nat.reduceSub, Nat.reduceMul, Nat.reduceLeDiff, Nat.reduceLT, reduceIte, g3, g7, g8, g9, g10, g14, g15, g16, g68, g69, g78, g79]
            exact ⟨by omega, a + 1, ⟨by rw [hfs], by rw [hfs], by simp, by omega⟩, by omega⟩
        · rw [decide_eq_false hla]
          obtain rfl : a = N.length := by omega
          simp only [VS, VD, SV, SL, T, Nat.reduceEqDiff, Nat.reduceAdd, Nat.reduceSub, Nat.reduceMul, Nat.reduceLeDiff, Nat.reduceLT, reduceIte, g3, g7, g8, g9, g10, g14, g15, g16, g68, g69]
      clear g3 g7 g8 g9 g10 g14 g68 g69
      rintro g w7 ⟨g3, g7, g8, g10, g9, g68, g69, g14, g15, g16, rfl⟩
      obtain ⟨qs, hqb6, hqz, hqv⟩ := id hB6
      have hqa := hqv b hb'
      have hql := get_lt hqb6
      by_cases hcn : (frm z.S b N.length).2 = 1
      · have d1 : decide (¬ (frm z.S b N.length).2 = 1) = false := decide_eq_false fun h => h hcn
        simp only [VS, VD, SV, SL, T, Nat.reduceEqDiff, Nat.reduceAdd, Nat.reduceSub, Nat.reduceMul, Nat.reduceLeDiff, Nat.reduceLT, reduceIte, g8, g14, g16, d1, hqb6, hqa, Int.toNat_natCast]
        refine ⟨by omega, ?_⟩
        cases hzr : z.R b with
        | false =>
          have hst : rstp N.length z b = z := by unfold rstp; rw [if_neg fun h => by rw [hzr] at h; cases h.2]
          simp only [VS, VD, SV, SL, T, Nat.reduceEqDiff, Nat.reduceAdd, Nat.reduceSub, Nat.reduceMul, Nat.reduceLeDiff, Nat.reduceLT, reduceIte, Bool.not_false, g3, g7, g8, g9, g10, g14, g68, g69]
          exact ⟨by omega, b + 1, ⟨by rw [hsb, hst], by simp, by omega, by omega, hE6, by rw [hsb, hst]; exact hB6, by rw [hsb, hst]; exact hS6⟩, by omega⟩
        | true =>
          have hst : rstp N.length z b = ⟨mgC z.S (frm z.S b N.length).1.toNat b N.length, clrS z.R b, z.al - 1⟩ := by unfold rstp; rw [if_pos ⟨hcn, hzr⟩]
          obtain ⟨f, hf1, hf2, hf3, _⟩ := frm_one z.S b N.length hcn
          rw [hf1] at g15 hst
          rw [Int.toNat_natCast] at hst
          simp only [VS, VD, SV, SL, T, Nat.reduceEqDiff, Nat.reduceAdd, Nat.reduceSub, Nat.reduceMul, Nat.reduceLeDiff, Nat.reduceLT, reduceIte, Bool.not_true, g10, g14, g15]
          refine hS6.del (f : Int) (b : Int) ?_
          rintro w8 ⟨o, rfl⟩ hS8
          have hE8 := hE6.putb hrb o
          have hB8 := hB6.heap (putb_get_ne hqr o)
          generalize w7.putb r o = w8 at *
          simp only [VS, VD, SV, SL, T, Nat.reduceEqDiff, Nat.reduceAdd, Nat.reduceSub, Nat.reduceMul, Nat.reduceLeDiff, Nat.reduceLT, reduceIte, g3]
          refine loop_cB (fun g w' => g 3 = .slice na N.length nc ∧ g 7 = .int .i64 e ∧ g 8 = .slice (some ⟨q, 0, none⟩) N.length N.length ∧ g 10 = .map (some r) ∧ g 9 = .int .i64 z.al ∧ g 68 = .int .i64 N.length ∧ g 69 = .int .i64 k ∧ g 14 = .int .i64 b ∧ Ext w3 w' ∧ BB w' q N.length (z.R) ∧ SetP w' r (mgC z.S f b N.length)) ?_ ?_
          · refine LoopP_intro (α := Nat) (fun c g w' => g 3 = .slice na N.length nc ∧ g 7 = .int .i64 e ∧ g 8 = .slice (some ⟨q, 0, none⟩) N.length N.length ∧ g 10 = .map (some r) ∧ g 9 = .int .i64 z.al ∧ g 68 = .int .i64 N.length ∧ g 69 = .int .i64 k ∧ g 14 = .int .i64 b ∧ g 15 = .int .i64 f ∧ g 105 = .int .i64 N.length ∧ g 106 = .int .i64 c ∧ c ≤ N.length ∧ Ext w3 w' ∧ BB w' q N.length (z.R) ∧ SetP w' r (mgC z.S f b c)) (fun c => N.length - c) 0 ?_ ?_
            · simp only [VS, VD, SV, SL, T, Nat.reduceEqDiff, Nat.reduceAdd, Nat.reduceSub, Nat.reduceMul, Nat.reduceLeDiff, Nat.reduceLT, reduceIte, g3, g7, g8, g9, g10, g14, g15, g68, g69]
              exact ⟨rfl, Nat.zero_le _, hE8, hB8, hS8⟩
            clear g3 g7 g8 g9 g10 g14 g15 g68 g69
            rintro c g w9 ⟨g3, g7, g8, g10, g9, g68, g69, g14, g15, g105, g106, hc, hE9, hB9, hS9⟩
            simp only [VS, VD, SV, SL, T, Nat.reduceEqDiff, Nat.reduceAdd, Nat.reduceSub, Nat.reduceMul, Nat.reduceLeDiff, Nat.reduceLT, reduceIte, g105, g106]
            by_cases hlc : (c : Int) < N.length
            · rw [decide_eq_true hlc]
              have hms : mgC z.S f b (c + 1) = if mgC z.S f b c ((b : Int), (c : Int)) = true then (if c ≠ f then updP (updP (mgC z.S f b c) ((b : Int), (c : Int)) false) ((f : Int), (c : Int)) true else updP (mgC z.S f b c) ((b : Int), (c : Int)) false) else mgC z.S f b c := rfl
              simp only [VS, VD, SV, SL, T, Nat.reduceEqDiff, Nat.reduceAdd, Nat.reduceSub, Nat.reduceMul, Nat.reduceLeDiff, Nat.reduceLT, reduceIte, g10, g14, g106]
              refine hS9.look (b : Int) (c : Int) ?_
              cases hs : mgC z.S f b c ((b : Int), (c : Int)) with
              | false =>
                rw [hs, if_neg (by decide)] at hms
                simp only [VS, VD, SV, SL, T, Nat.reduceEqDiff, Nat.reduceAdd, Nat.reduceSub, Nat.reduceMul, Nat.reduceLeDiff, Nat.reduceLT, reduceIte, g3, g7, g8, g9, g10, g14, g15, g68, g69, g105, g106]
                exact ⟨by omega, c + 1, ⟨by simp, by omega, hE9, hB9, by rw [hms]; exact hS9⟩, by omega⟩
              | true =>
                rw [hs, if_pos rfl] at hms
                simp only [VS, VD, SV, SL, T, Nat.reduceEqDiff, Nat.reduceAdd, Nat.reduceSub, Nat.reduceMul, Nat.reduceLeDiff, Nat.reduceLT, reduceIte, g10, g14]
                refine hS9.del (b : Int) (c : Int) ?_
                rintro w10 ⟨o2, rfl⟩ hS10
                have hE10 := hE9.putb hrb o2
                have hB10 := hB9.heap (putb_get_ne hqr o2)
                generalize w9.putb r o2 = w10 at *
                by_cases hcf : (c : Int) = f
                · have d2 : decide (¬ (c : Int) = f) = false := decide_eq_false fun h => h hcf
                  rw [if_neg (by omega)] at hms
                  simp only [VS, VD, SV, SL, T, Nat.reduceEqDiff, Nat.reduceAdd, Nat.reduceSub, Nat.reduceMul, Nat.reduceLeDiff, Nat.reduceLT, reduceIte, g3, g7, g8, g9, g10, g14, g15, g68, g69, g105, g106, d2]
                  exact ⟨by omega, c + 1, ⟨by simp, by omega, hE10, hB10, by rw [hms]; exact hS10⟩, by omega⟩
                · have d2 : decide (¬ (c : Int) = f) = true := decide_eq_true hcf
                  rw [if_pos (by omega)] at hms
                  simp only [VS, VD, SV, SL, T, Nat.reduceEqDiff, Nat.reduceAdd, Nat.reduceSub, Nat.reduceMul, Nat.reduceLeDiff, Nat.reduceLT, reduceIte, g10, g15, d2]
                  refine hS10.put (f : Int) (c : Int) ?_
                  rintro w11 ⟨o3, rfl⟩ hS11
                  simp only [VS, VD, SV, SL, T, Nat.reduceEqDiff, Nat.reduceAdd, Nat.reduceSub, Nat.reduceMul, Nat.reduceLeDiff, Nat.reduceLT, reduceIte, g3, g7, g8, g9, g10, g14, g15, g68, g69, g105, g106]
                  exact ⟨by omega, c + 1, ⟨by simp, by omega, hE10.putb hrb o3, hB10.heap (putb_get_ne hqr o3), by rw [hms]; exact hS11⟩, by omega⟩
            · rw [decide_eq_false hlc]
              obtain rfl : c = N.length := by omega
              simp only [VS, VD, SV, SL, T, Nat.reduceEqDiff, Nat.reduceAdd, Nat.reduceSub, Nat.reduceMul, Nat.reduceLeDiff, Nat.reduceLT, reduceIte, g3, g7, g8, g9, g10, g14, g68, g69]
              exact ⟨hE9, hB9, hS9⟩
          clear g3 g7 g8 g9 g10 g14 g15 g68 g69
          rintro g w9 ⟨g3, g7, g8, g10, g9, g68, g69, g14, hE9, hB9, hS9⟩
          obtain ⟨ps, hpb, hpz, hpv⟩ := hB9
          have hBc := BB.clr (get_lt hpb) hpz hpv b
          simp only [VS, VD, SV, SL, T, Nat.reduceEqDiff, Nat.reduceAdd, Nat.reduceSub, Nat.reduceMul, Nat.reduceLeDiff, Nat.reduceLT, reduceIte, g3, g7, g8, g9, g10, g14, g68, g69, hpb, Int.toNat_natCast]
          refine ⟨by omega, by omega, by omega, by omega, b + 1, ⟨by rw [hsb, hst], by simp, by omega, by omega, hE9.putb hqb _, by rw [hsb, hst]; exact hBc, by rw [hsb, hst]; exact hS9.heap (putb_get_ne (fun e => hqr e.symm) _)⟩, by omega⟩
      · have d1 : decide (¬ (frm z.S b N.length).2 = 1) = true := decide_eq_true hcn
        have hst : rstp N.length z b = z := by unfold rstp; rw [if_neg fun h => hcn h.1]
        simp only [VS, VD, SV, SL, T, Nat.reduceEqDiff, Nat.reduceAdd, Nat.reduceSub, Nat.reduceMul, Nat.reduceLeDiff, Nat.reduceLT, reduceIte, g3, g7, g8, g9, g10, g14, g16, g68, g69, d1]
        exact ⟨by omega, b + 1, ⟨by rw [hsb, hst], by simp, by omega, by omega, hE6, by rw [hsb, hst]; exact hB6, by rw [hsb, hst]; exact hS6⟩, by omega⟩
    · rw [decide_eq_false hlb]
      obtain rfl : b = N.length := by omega
      simp only [VS, VD, SV, SL, T, Nat.reduceEqDiff, Nat.reduceAdd, Nat.reduceSub, Nat.reduceMul, Nat.reduceLeDiff, Nat.reduceLT, reduceIte, g3, g7, g8, g9, g10, g68, g69]
      exact ⟨by omega, k + 1, ⟨by rw [hnext], by simp, by omega, hE6, by rw [hnext]; exact hB6, by rw [hnext]; exact hS6⟩, by omega⟩
  · rw [decide_eq_false hlk]
    obtain rfl : k = N.length := by omega
    have hfin : decide (e = 0) = decide ((rlls N.length (rs0 N) N.length).al ≤ 1) := decide_eq_decide.2 (by rw [he, hend])
    simp only [VS, VD, SV, SL, T, Nat.reduceEqDiff, Nat.reduceAdd, Nat.reduceSub, Nat.reduceMul, Nat.reduceLeDiff, Nat.reduceLT, reduceIte, g7, g9]
    refine hΨ _ _ ⟨?_, hE3.trans hE6⟩
    rw [hfin]
    simp
end Go.Proofs.Ytlhlbiaibgmapaa

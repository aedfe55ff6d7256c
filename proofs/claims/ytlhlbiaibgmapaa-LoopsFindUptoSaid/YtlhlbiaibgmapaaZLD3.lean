/-
  The reference's Find: the walk.
-/
import Derived.Test.YtlhlbiaibgmapaaZLD2
import Derived.Test.YtlhlbiaibgmapaaZLRO
set_option linter.unusedSimpArgs false
set_option linter.unusedVariables false
namespace Go.Proofs.Ytlhlbiaibgmapaa
open Go.W Go.RowKit
theorem ascL_succ (n : Nat) (p : Nat → Bool) : ascL (n + 1) p = ascL n p ++ if p n = true then [(n : Int)] else [] := by
  unfold ascL
  rw [List.range_succ, List.filter_append, List.map_append]
  congr 1
  by_cases h : p n = true
  · rw [if_pos h, List.filter_cons_of_pos h]; rfl
  · rw [if_neg h, List.filter_cons_of_neg h]; rfl
theorem ascL_zero (p : Nat → Bool) : ascL 0 p = [] := rfl
theorem ascL_congr {n : Nat} {p q : Nat → Bool} (h : ∀ b, b < n → p b = q b) : ascL n p = ascL n q := by
  unfold ascL
  congr 1
  exact List.filter_congr fun b hb => h b (List.mem_range.1 hb)
/-- the loops of the headers below h -/
def lstU (N : List (List Int)) (h : Nat) : List Lp := (ascL h fun b => decide (lat N b ≠ [])).map fun k => rowF N k (-1)
theorem lstU_skip {N : List (List Int)} {h : Nat} (hl : lat N h = []) : lstU N (h + 1) = lstU N h := by
  unfold lstU
  rw [ascL_succ, if_neg (by simp [hl]), List.append_nil]
theorem lstU_snoc {N : List (List Int)} {h : Nat} (hl : lat N h ≠ []) : lstU N (h + 1) = lstU N h ++ [rowF N (h : Int) (-1)] := by
  unfold lstU
  rw [ascL_succ, if_pos (by simp [hl]), List.map_append]
  rfl
theorem lstU_end (N : List (List Int)) : lstU N N.length = lstF N 0 := (lstF_zero N).symm
theorem lstU_len (N : List (List Int)) (h : Nat) : (lstU N h).length ≤ h := by
  unfold lstU
  rw [List.length_map]
  exact ascL_len _ _
/-- the reference's test of row k for row i -/
def parT (N : List (List Int)) (i k : Nat) : Bool :=
  decide (k ≠ i) && (rcnt (rowF N ((hsL N).getD k 0) 0) (rowF N ((hsL N).getD i 0) 0) && (decide (parK N i k < 0) || decide ((blF N k).length < (blF N (parK N i k).toNat).length)))
theorem parT_step {N : List (List Int)} {i k : Nat} (hi : i < (hsL N).length) (hk : k < (hsL N).length) : parK N i (k + 1) = if parT N i k = true then (k : Int) else parK N i k := by
  rw [parK_succ hi hk]
  have e : (k ≠ i ∧ ((∀ b ∈ blF N i, b ∈ blF N k) ∧ (hsL N).getD k 0 ≠ (hsL N).getD i 0) ∧ (parK N i k < 0 ∨ (blF N k).length < (blF N (parK N i k).toNat).length)) ↔ parT N i k = true := by
    unfold parT rcnt
    simp only [Bool.and_eq_true, Bool.or_eq_true, decide_eq_true_eq, Bool.not_eq_true', decide_eq_false_iff_not]
    exact Iff.rfl
  by_cases h : parT N i k = true
  · rw [if_pos h, if_pos (e.2 h)]
  · rw [if_neg h, if_neg fun q => h (e.1 q)]
set_option maxRecDepth 10000 in
theorem rFind_spec {N : List (List Int)} (hN : NOk N) (h0 : 0 < N.length) (hn : N.length ≤ 2000000) (hN2 : ∀ l ∈ N, l.length ≤ 2) (hnd : ∀ l ∈ N, l.Nodup) (hg : Good N) (nv : Value) (w0 : World) (hNv : IntssAt w0 nv N) :
    VRet Try.prog 15 #[nv] w0 fun v w' => LpsAt w' v (fnd N) ∧ Ext w0 w' := by
  obtain ⟨na, nc, rfl⟩ := hNv.form'
  have z0 : (Value.slice none 0 0) = Value.slice none 0 0 := rfl
  refine VRet_start T.mo ok15 rfl fun Ψ hΨ => ?_; simp only [vc15, rs15]
  simp only [VS, VD, SV, SL, T, Nat.reduceEqDiff, Nat.reduceAdd, Nat.reduceSub, Nat.reduceMul, Nat.reduceLeDiff, Nat.reduceLT, reduceIte]
  refine (Reach_spec hN h0 hn hN2 _ (-1) w0 hNv).mono ?_
  rintro _ w1 ⟨⟨q, rfl, hq⟩, hE1⟩
  replace hNv := hNv.ext hE1
  simp only [VS, VD, SV, SL, T, Nat.reduceEqDiff, Nat.reduceAdd, Nat.reduceSub, Nat.reduceMul, Nat.reduceLeDiff, Nat.reduceLT, reduceIte]
  refine loop_cB (fun f' w' => Ext w1 w' ∧ LrO w1.heap.size w' (f' 4) (lstU N N.length)) ?_ ?_
  · refine LoopP_intro (α := Nat) (fun h g w' => g 0 = .slice na N.length nc ∧ g 3 = .slice (some ⟨q, 0, none⟩) N.length N.length ∧ g 5 = .int .i64 h ∧ h ≤ N.length ∧ Ext w1 w' ∧ LrO w1.heap.size w' (g 4) (lstU N h)) (fun h => N.length - h) 0 ?_ ?_
    · simp only [VS, VD, SV, SL, T, Nat.reduceEqDiff, Nat.reduceAdd, Nat.reduceSub, Nat.reduceMul, Nat.reduceLeDiff, Nat.reduceLT, reduceIte]
      exact ⟨rfl, Nat.zero_le _, Ext.refl _, LrO.nil _ _⟩
    rintro h g w2 ⟨g0, g3, g5, hh, hE2, hL⟩
    obtain ⟨oa, oc, g4⟩ := hL.form
    rw [g4] at hL
    have hLn := lstU_len N h
    simp only [VS, VD, SV, SL, T, Nat.reduceEqDiff, Nat.reduceAdd, Nat.reduceSub, Nat.reduceMul, Nat.reduceLeDiff, Nat.reduceLT, reduceIte, g0, g5]
    by_cases hlt : (h : Int) < N.length
    · rw [decide_eq_true hlt]
      have hh' : h < N.length := by omega
      obtain ⟨qs, hqb, hqz, hqv⟩ := hq.ext hE2
      have hqh := hqv h hh'
      simp only [VS, VD, SV, SL, T, Nat.reduceEqDiff, Nat.reduceAdd, Nat.reduceSub, Nat.reduceMul, Nat.reduceLeDiff, Nat.reduceLT, reduceIte, g3, g5, hqb, hqh, Int.toNat_natCast]
      refine ⟨by omega, ?_⟩
      cases hr : rch N (-1) h with
      | false =>
        have hl := rlS_none hr hN h0 hg
        simp only [VS, VD, SV, SL, T, Nat.reduceEqDiff, Nat.reduceAdd, Nat.reduceSub, Nat.reduceMul, Nat.reduceLeDiff, Nat.reduceLT, reduceIte, Bool.not_false, g0, g3, g5]
        exact ⟨by omega, h + 1, ⟨by simp, by omega, hE2, by rw [g4, lstU_skip hl]; exact hL⟩, by omega⟩
      | true =>
        simp only [VS, VD, SV, SL, T, Nat.reduceEqDiff, Nat.reduceAdd, Nat.reduceSub, Nat.reduceMul, Nat.reduceLeDiff, Nat.reduceLT, reduceIte, Bool.not_true, g5]
        clear hqb hqz hqv hqh
        have hq2 := (hq.ext hE2).ext ((Ext.refl w2).alloc tomb)
        have hNv2 := (hNv.ext hE2).ext ((Ext.refl w2).alloc tomb)
        replace hL := hL.ext ((Ext.refl w2).alloc tomb)
        replace hE2 := hE2.trans ((Ext.refl w2).alloc tomb)
        have hsz2 := hE2.size
        generalize w2.alloc tomb = w3 at *
        refine loop_cB (fun f' w' => f' 0 = .slice na N.length nc ∧ f' 3 = .slice (some ⟨q, 0, none⟩) N.length N.length ∧ f' 4 = .slice oa (lstU N h).length oc ∧ f' 5 = .int .i64 h ∧ Ext w3 w' ∧ ∃ lv, f' 6 = .agg #[.int .i64 h, .slice none 0 0, lv, .int .i64 (-1)] ∧ IntO w3.heap.size w' lv (lat N h)) ?_ ?_
        · refine LoopP_intro (α := Nat) (fun a g w' => g 0 = .slice na N.length nc ∧ g 3 = .slice (some ⟨q, 0, none⟩) N.length N.length ∧ g 4 = .slice oa (lstU N h).length oc ∧ g 5 = .int .i64 h ∧ g 7 = .int .i64 a ∧ a ≤ N.length ∧ Ext w3 w' ∧ ∃ lv, g 6 = .agg #[.int .i64 h, .slice none 0 0, lv, .int .i64 (-1)] ∧ IntO w3.heap.size w' lv (ascL a (rlS N h))) (fun a => N.length - a) 0 ?_ ?_
          · simp only [VS, VD, SV, SL, T, Nat.reduceEqDiff, Nat.reduceAdd, Nat.reduceSub, Nat.reduceMul, Nat.reduceLeDiff, Nat.reduceLT, reduceIte, g0, g3, g4, g5]
            exact ⟨rfl, Nat.zero_le _, Ext.refl _, _, rfl, OwnL.nil (fun x : Int => [Value.int .i64 x]) _ _ _ _⟩
          clear g0 g3 g4 g5
          rintro a g w4 ⟨g0, g3, g4, g5, g7, ha, hE4, lv, g6, hO⟩
          obtain ⟨la, lc, rfl⟩ := own_form hO
          have hOl := ascL_len a (rlS N h)
          simp only [VS, VD, SV, SL, T, Nat.reduceEqDiff, Nat.reduceAdd, Nat.reduceSub, Nat.reduceMul, Nat.reduceLeDiff, Nat.reduceLT, reduceIte, g0, g7]
          by_cases hla : (a : Int) < N.length
          · rw [decide_eq_true hla]
            have ha' : a < N.length := by omega
            obtain ⟨qs, hqb, hqz, hqv⟩ := hq2.ext hE4
            have hqa := hqv a ha'
            have hsx : N[a]'ha' = sc N a := by unfold sc; rw [List.getD_eq_getElem?_getD, List.getElem?_eq_getElem ha']; rfl
            have hrl : (sc N a).length ≤ 2 := by rw [← hsx]; exact hN2 _ (List.getElem_mem ha')
            have hskip : rlS N h a = false → ascL (a + 1) (rlS N h) = ascL a (rlS N h) := fun e => by rw [ascL_succ, e]; simp
            obtain ⟨rb, ro, rcs, re, rfz, ur, rfl, hrb, hrc, hru⟩ := (hNv2.ext hE4).get' (i := a) ha'
            rw [hsx] at hru
            have hrS : rlS N h a = (rch N (-1) a && decide ((h : Int) ∈ sc N a) && rdom N h a) := rfl
            generalize sc N a = row at *
            obtain ⟨ra, rc, rfl⟩ := hru.form
            simp only [VS, VD, SV, SL, T, Nat.reduceEqDiff, Nat.reduceAdd, Nat.reduceSub, Nat.reduceMul, Nat.reduceLeDiff, Nat.reduceLT, reduceIte, g3, g7, hqb, hqa, Int.toNat_natCast]
            refine ⟨by omega, ?_⟩
            cases hra : rch N (-1) a with
            | false =>
              rw [hra, Bool.false_and, Bool.false_and] at hrS
              simp only [VS, VD, SV, SL, T, Nat.reduceEqDiff, Nat.reduceAdd, Nat.reduceSub, Nat.reduceMul, Nat.reduceLeDiff, Nat.reduceLT, reduceIte, g0, g3, g4, g5, g6, g7]
              exact ⟨by omega, a + 1, ⟨by simp, by omega, hE4, _, rfl, by rw [hskip hrS]; exact hO⟩, by omega⟩
            | true =>
              rw [hra, Bool.true_and] at hrS
              simp only [VS, VD, SV, SL, T, Nat.reduceEqDiff, Nat.reduceAdd, Nat.reduceSub, Nat.reduceMul, Nat.reduceLeDiff, Nat.reduceLT, reduceIte, g0, g5, g7, hrb, hrc, Int.toNat_natCast]
              refine ⟨by omega, ?_⟩
              refine (position_spec _ row (by omega) (h : Int) w4 hru).mono ?_
              rintro _ w5 ⟨rfl, hE5⟩
              have hE45 := hE4.trans hE5
              by_cases hm : (h : Int) ∈ row
              · have d1 : decide (psn row (h : Int) ≥ 0) = true := decide_eq_true (Int.not_lt.1 fun hh => psn_neg.1 hh hm)
                rw [decide_eq_true hm, Bool.true_and] at hrS
                simp only [VS, VD, SV, SL, T, Nat.reduceEqDiff, Nat.reduceAdd, Nat.reduceSub, Nat.reduceMul, Nat.reduceLeDiff, Nat.reduceLT, reduceIte, d1, g0, g5, g7]
                refine (rDominates_spec hN h0 hn hN2 _ h a hh' ha' w5 (hNv2.ext hE45)).mono ?_
                rintro _ w6 ⟨rfl, hE6⟩
                have hO6 := own_ext (own_ext hO hE5) hE6
                replace hE6 := hE45.trans hE6
                cases hD : rdom N h a with
                | false =>
                  rw [hD] at hrS
                  simp only [VS, VD, SV, SL, T, Nat.reduceEqDiff, Nat.reduceAdd, Nat.reduceSub, Nat.reduceMul, Nat.reduceLeDiff, Nat.reduceLT, reduceIte, g0, g3, g4, g5, g6, g7]
                  exact ⟨by omega, a + 1, ⟨by simp, by omega, hE6, _, rfl, by rw [hskip hrS]; exact hO6⟩, by omega⟩
                | true =>
                  rw [hD] at hrS
                  simp only [VS, VD, SV, SL, T, Nat.reduceEqDiff, Nat.reduceAdd, Nat.reduceSub, Nat.reduceMul, Nat.reduceLeDiff, Nat.reduceLT, reduceIte, g6, g7]
                  refine app_int hO6 (by omega) hE6.size (a : Int) ?_
                  intro v' w7 ho7 hg7 _
                  have hE7 := Ext.grownO hE6 hO6 (Nat.le_refl _) hg7
                  obtain ⟨va, vc, rfl⟩ := own_form ho7
                  simp only [VS, VD, SV, SL, T, Nat.reduceEqDiff, Nat.reduceAdd, Nat.reduceSub, Nat.reduceMul, Nat.reduceLeDiff, Nat.reduceLT, reduceIte, g0, g3, g4, g5, g6, g7]
                  exact ⟨by omega, a + 1, ⟨by simp, by omega, hE7, _, rfl, by rw [ascL_succ, hrS]; exact ho7⟩, by omega⟩
              · have d1 : decide (psn row (h : Int) ≥ 0) = false := decide_eq_false fun hh => by have := psn_neg.2 hm; omega
                rw [decide_eq_false hm, Bool.false_and] at hrS
                simp only [VS, VD, SV, SL, T, Nat.reduceEqDiff, Nat.reduceAdd, Nat.reduceSub, Nat.reduceMul, Nat.reduceLeDiff, Nat.reduceLT, reduceIte, d1, g0, g3, g4, g5, g6, g7]
                exact ⟨by omega, a + 1, ⟨by simp, by omega, hE45, _, rfl, by rw [hskip hrS]; exact own_ext hO hE5⟩, by omega⟩
          · rw [decide_eq_false hla]
            obtain rfl : a = N.length := by omega
            simp only [VS, VD, SV, SL, T, Nat.reduceEqDiff, Nat.reduceAdd, Nat.reduceSub, Nat.reduceMul, Nat.reduceLeDiff, Nat.reduceLT, reduceIte, g0, g3, g4, g5, g6]
            exact ⟨hE4, _, rfl, by rw [← rlS_lat hN h0 hnd hg h]; exact hO⟩
        clear g0 g3 g4 g5
        rintro g w4 ⟨g0, g3, g4, g5, hE4, lv, g6, hO⟩
        obtain ⟨la, lc, rfl⟩ := own_form hO
        have hll : (lat N h).length ≤ 100000000 := by
          rw [← rlS_lat hN h0 hnd hg h]
          have := ascL_len N.length (rlS N h)
          omega
        by_cases hl : lat N h = []
        · have d1 : decide (((lat N h).length : Int) = 0) = true := decide_eq_true (by rw [hl]; rfl)
          simp only [VS, VD, SV, SL, T, Nat.reduceEqDiff, Nat.reduceAdd, Nat.reduceSub, Nat.reduceMul, Nat.reduceLeDiff, Nat.reduceLT, reduceIte, g0, g3, g4, g5, g6, d1]
          exact ⟨by omega, h + 1, ⟨by simp, by omega, hE2.trans hE4, by rw [lstU_skip hl]; exact hL.ext hE4⟩, by omega⟩
        have hlp := List.length_pos_iff.2 hl
        have d1 : decide (((lat N h).length : Int) = 0) = false := decide_eq_false (by omega)
        have hbody := fun {b : Nat} (hb : b < N.length) => rbS_body hN h0 hg hl hb
        have hlr : ∀ l ∈ lat N h, 0 ≤ l ∧ l.toNat < N.length := fun l hm => (lat_rng hN hm).1
        have hrow : ∀ p : Int, rowF N (h : Int) p = ((h : Int), ascL N.length (bdS N h (lat N h)), lat N h, p) := fun p => rfl
        have hsn := lstU_snoc (N := N) (h := h) hl
        replace hE2 := hE2.trans hE4
        replace hL := hL.ext hE4
        replace hq2 := hq2.ext hE4
        replace hNv2 := hNv2.ext hE4
        have hb4 : w1.heap.size ≤ w4.heap.size := hE2.size
        replace hO := own_base hO (Nat.zero_le _)
        clear hE4 hl
        generalize lat N h = lt at *
        simp only [VS, VD, SV, SL, T, Nat.reduceEqDiff, Nat.reduceAdd, Nat.reduceSub, Nat.reduceMul, Nat.reduceLeDiff, Nat.reduceLT, reduceIte, g6, d1]
        refine loop_cB (fun f' w' => f' 0 = .slice na N.length nc ∧ f' 3 = .slice (some ⟨q, 0, none⟩) N.length N.length ∧ f' 4 = .slice oa (lstU N h).length oc ∧ f' 5 = .int .i64 h ∧ Ext w4 w' ∧ ∃ bv, f' 6 = .agg #[.int .i64 h, bv, .slice la lt.length lc, .int .i64 (-1)] ∧ IntO w4.heap.size w' bv (ascL N.length (bdS N h lt))) ?_ ?_
        · refine LoopP_intro (α := Nat) (fun b g w' => g 0 = .slice na N.length nc ∧ g 3 = .slice (some ⟨q, 0, none⟩) N.length N.length ∧ g 4 = .slice oa (lstU N h).length oc ∧ g 5 = .int .i64 h ∧ g 8 = .int .i64 b ∧ b ≤ N.length ∧ Ext w4 w' ∧ ∃ bv, g 6 = .agg #[.int .i64 h, bv, .slice la lt.length lc, .int .i64 (-1)] ∧ IntO w4.heap.size w' bv (ascL b (bdS N h lt))) (fun b => N.length - b) 0 ?_ ?_
          · simp only [VS, VD, SV, SL, T, Nat.reduceEqDiff, Nat.reduceAdd, Nat.reduceSub, Nat.reduceMul, Nat.reduceLeDiff, Nat.reduceLT, reduceIte, g0, g3, g4, g5, g6]
            exact ⟨rfl, Nat.zero_le _, Ext.refl _, _, rfl, OwnL.nil (fun x : Int => [Value.int .i64 x]) _ _ _ _⟩
          clear g0 g3 g4 g5 g6
          rintro b g w5 ⟨g0, g3, g4, g5, g8, hb, hE5, bv, g6, hO5⟩
          obtain ⟨ba, bc, rfl⟩ := own_form hO5
          have hOl := ascL_len b (bdS N h lt)
          simp only [VS, VD, SV, SL, T, Nat.reduceEqDiff, Nat.reduceAdd, Nat.reduceSub, Nat.reduceMul, Nat.reduceLeDiff, Nat.reduceLT, reduceIte, g0, g8]
          by_cases hlb : (b : Int) < N.length
          · rw [decide_eq_true hlb]
            have hb' : b < N.length := by omega
            have hbb := hbody hb'
            simp only [VS, VD, SV, SL, T, Nat.reduceEqDiff, Nat.reduceAdd, Nat.reduceSub, Nat.reduceMul, Nat.reduceLeDiff, Nat.reduceLT, reduceIte, g5, g8]
            refine loop_cB (fun f' w' => f' 0 = .slice na N.length nc ∧ f' 3 = .slice (some ⟨q, 0, none⟩) N.length N.length ∧ f' 4 = .slice oa (lstU N h).length oc ∧ f' 5 = .int .i64 h ∧ f' 6 = .agg #[.int .i64 h, .slice ba (ascL b (bdS N h lt)).length bc, .slice la lt.length lc, .int .i64 (-1)] ∧ f' 8 = .int .i64 b ∧ Ext w5 w' ∧ ∃ X : Bool, f' 9 = .bool X ∧ (rch N (-1) b && X) = bdS N h lt b) ?_ ?_
            · refine LoopP_intro (α := Nat) (fun k g w' => g 0 = .slice na N.length nc ∧ g 3 = .slice (some ⟨q, 0, none⟩) N.length N.length ∧ g 4 = .slice oa (lstU N h).length oc ∧ g 5 = .int .i64 h ∧ g 6 = .agg #[.int .i64 h, .slice ba (ascL b (bdS N h lt)).length bc, .slice la lt.length lc, .int .i64 (-1)] ∧ g 8 = .int .i64 b ∧ g 9 = .bool (decide (b = h) || (lt.take k).any fun l => rrs N l.toNat h N.length b) ∧ g 10 = .int .i64 k ∧ k ≤ lt.length ∧ Ext w5 w') (fun k => lt.length - k) 0 ?_ ?_
              · simp only [VS, VD, SV, SL, T, Nat.reduceEqDiff, Nat.reduceAdd, Nat.reduceSub, Nat.reduceMul, Nat.reduceLeDiff, Nat.reduceLT, reduceIte, g0, g3, g4, g5, g6, g8]
                refine ⟨?_, rfl, Nat.zero_le _, Ext.refl _⟩
                rw [List.take_zero, List.any_nil, Bool.or_false]
                congr 1
                exact decide_eq_decide.2 (by omega)
              clear g0 g3 g4 g5 g6 g8
              rintro k g w6 ⟨g0, g3, g4, g5, g6, g8, g9, g10, hk, hE6⟩
              obtain ⟨qs, hqb, hqz, hqv⟩ := hq2.ext (hE5.trans hE6)
              have hqh := hqv b hb'
              by_cases hlk : (k : Int) < lt.length
              · have d2 : decide ((k : Int) < lt.length) = true := decide_eq_true hlk
                have hk' : k < lt.length := by omega
                simp only [VS, VD, SV, SL, T, Nat.reduceEqDiff, Nat.reduceAdd, Nat.reduceSub, Nat.reduceMul, Nat.reduceLeDiff, Nat.reduceLT, reduceIte, g3, g6, g8, g10, d2, hqb, hqh, Int.toNat_natCast]
                refine ⟨by omega, ?_⟩
                cases hrb : rch N (-1) b with
                | false =>
                  rw [hrb, Bool.false_and] at hbb
                  simp only [VS, VD, SV, SL, T, Nat.reduceEqDiff, Nat.reduceAdd, Nat.reduceSub, Nat.reduceMul, Nat.reduceLeDiff, Nat.reduceLT, reduceIte, g0, g3, g4, g5, g6, g8]
                  exact ⟨hE6, _, g9, hbb⟩
                | true =>
                  obtain ⟨hl0, hl1⟩ := hlr _ (List.getElem_mem hk')
                  obtain ⟨bu, ou, cu, eu, fu, e1, _, hbu, hcu⟩ := (IntO.ints (own_ext (own_ext hO hE5) hE6)).get (i := k) (x := lt[k]) (by simp [hk'])
                  have htk : ((lt.take (k + 1)).any fun l => rrs N l.toNat h N.length b) = (((lt.take k).any fun l => rrs N l.toNat h N.length b) || rrs N lt[k].toNat h N.length b) := by
                    rw [List.take_succ_eq_append_getElem hk', List.any_append]
                    simp
                  generalize lt[k] = l at *
                  obtain ⟨l', rfl⟩ := Int.eq_ofNat_of_zero_le hl0
                  simp only [Int.toNat_natCast] at hl1 htk
                  cases hX : (decide (b = h) || (lt.take k).any fun l => rrs N l.toNat h N.length b) with
                  | true =>
                    rw [hX] at g9
                    simp only [VS, VD, SV, SL, T, Nat.reduceEqDiff, Nat.reduceAdd, Nat.reduceSub, Nat.reduceMul, Nat.reduceLeDiff, Nat.reduceLT, reduceIte, g0, g3, g4, g5, g6, g8, g9, g10]
                    refine ⟨by omega, k + 1, ⟨?_, by simp, by omega, hE6⟩, by omega⟩
                    rw [htk, ← Bool.or_assoc, hX, Bool.true_or]
                  | false =>
                    rw [hX] at g9
                    have e1' := e1
                    simp only [VS, VD, SV, SL, T, Nat.reduceEqDiff, Nat.reduceAdd, Nat.reduceSub, Nat.reduceMul, Nat.reduceLeDiff, Nat.reduceLT, reduceIte, g0, g3, g4, g5, g6, g8, g9, g10, e1, hbu, hcu, Int.toNat_natCast]
                    refine ⟨by omega, ?_⟩
                    refine (reaches_spec hN hn hN2 (hNv2.ext (hE5.trans hE6)) l' h N.length hn b hb' w6 (Ext.refl _)).mono ?_
                    rintro _ w7 ⟨rfl, hE7⟩
                    simp only [VS, VD, SV, SL, T, Nat.reduceEqDiff, Nat.reduceAdd, Nat.reduceSub, Nat.reduceMul, Nat.reduceLeDiff, Nat.reduceLT, reduceIte, g0, g3, g4, g5, g6, g8, g10]
                    refine ⟨by omega, k + 1, ⟨by rw [e1], ?_, by simp, by omega, hE6.trans hE7⟩, by omega⟩
                    rw [htk, ← Bool.or_assoc, hX, Bool.false_or]
              · have d2 : decide ((k : Int) < lt.length) = false := decide_eq_false hlk
                rw [List.take_of_length_le (by omega)] at g9
                simp only [VS, VD, SV, SL, T, Nat.reduceEqDiff, Nat.reduceAdd, Nat.reduceSub, Nat.reduceMul, Nat.reduceLeDiff, Nat.reduceLT, reduceIte, g0, g3, g4, g5, g6, g8, g10, d2]
                exact ⟨hE6, _, g9, hbb⟩
            · clear g0 g3 g4 g5 g6 g8
              rintro g w6 ⟨g0, g3, g4, g5, g6, g8, hE6, X, g9, hX⟩
              obtain ⟨qs, hqb, hqz, hqv⟩ := hq2.ext (hE5.trans hE6)
              have hqh := hqv b hb'
              have hE56 := hE5.trans hE6
              have hO6 := own_ext hO5 hE6
              cases X with
              | false =>
                rw [Bool.and_false] at hX
                simp only [VS, VD, SV, SL, T, Nat.reduceEqDiff, Nat.reduceAdd, Nat.reduceSub, Nat.reduceMul, Nat.reduceLeDiff, Nat.reduceLT, reduceIte, g0, g3, g4, g5, g6, g8, g9]
                refine ⟨by omega, b + 1, ⟨by simp, by omega, hE56, _, rfl, ?_⟩, by omega⟩
                rw [ascL_succ, ← hX, if_neg (by decide), List.append_nil]
                exact hO6
              | true =>
                rw [Bool.and_true] at hX
                simp only [VS, VD, SV, SL, T, Nat.reduceEqDiff, Nat.reduceAdd, Nat.reduceSub, Nat.reduceMul, Nat.reduceLeDiff, Nat.reduceLT, reduceIte, g3, g8, g9, hqb, hqh, Int.toNat_natCast]
                refine ⟨by omega, ?_⟩
                cases hrb : rch N (-1) b with
                | false =>
                  rw [hrb] at hX
                  simp only [VS, VD, SV, SL, T, Nat.reduceEqDiff, Nat.reduceAdd, Nat.reduceSub, Nat.reduceMul, Nat.reduceLeDiff, Nat.reduceLT, reduceIte, g0, g3, g4, g5, g6, g8, g9]
                  refine ⟨by omega, b + 1, ⟨by simp, by omega, hE56, _, rfl, ?_⟩, by omega⟩
                  rw [ascL_succ, ← hX, if_neg (by decide), List.append_nil]
                  exact hO6
                | true =>
                  rw [hrb] at hX
                  simp only [VS, VD, SV, SL, T, Nat.reduceEqDiff, Nat.reduceAdd, Nat.reduceSub, Nat.reduceMul, Nat.reduceLeDiff, Nat.reduceLT, reduceIte, g6, g8]
                  refine app_int hO6 (by omega) hE56.size (b : Int) ?_
                  intro v' w7 ho7 hg7 _
                  have hE7 := Ext.grownO hE56 hO6 (Nat.le_refl _) hg7
                  obtain ⟨va, vc, rfl⟩ := own_form ho7
                  simp only [VS, VD, SV, SL, T, Nat.reduceEqDiff, Nat.reduceAdd, Nat.reduceSub, Nat.reduceMul, Nat.reduceLeDiff, Nat.reduceLT, reduceIte, g0, g3, g4, g5, g6, g8]
                  exact ⟨by omega, b + 1, ⟨by simp, by omega, hE7, _, rfl, by rw [ascL_succ, ← hX]; exact ho7⟩, by omega⟩
          · rw [decide_eq_false hlb]
            obtain rfl : b = N.length := by omega
            simp only [VS, VD, SV, SL, T, Nat.reduceEqDiff, Nat.reduceAdd, Nat.reduceSub, Nat.reduceMul, Nat.reduceLeDiff, Nat.reduceLT, reduceIte, g0, g3, g4, g5, g6]
            exact ⟨hE5, _, rfl, hO5⟩
        clear g0 g3 g4 g5 g6
        rintro g w5 ⟨g0, g3, g4, g5, hE5, bv, g6, hO5⟩
        obtain ⟨ba, bc, rfl⟩ := own_form hO5
        simp only [VS, VD, SV, SL, T, Nat.reduceEqDiff, Nat.reduceAdd, Nat.reduceSub, Nat.reduceMul, Nat.reduceLeDiff, Nat.reduceLT, reduceIte, g4, g6]
        refine LrO.app (hL.ext hE5) (by omega) (Nat.le_trans hb4 hE5.size) ((h : Int), ascL N.length (bdS N h lt), lt, -1) (own_base hO5 (Nat.zero_le _)) (own_ext hO hE5) ?_
        intro v' w6 hL6 hx6
        simp only [VS, VD, SV, SL, T, Nat.reduceEqDiff, Nat.reduceAdd, Nat.reduceSub, Nat.reduceMul, Nat.reduceLeDiff, Nat.reduceLT, reduceIte, g0, g3, g4, g5]
        refine ⟨by omega, h + 1, ⟨by simp, by omega, hx6 w1 (hE2.trans hE5) (Nat.le_refl _), ?_⟩, by omega⟩
        rw [hsn, hrow]
        exact hL6
    · rw [decide_eq_false hlt]
      obtain rfl : h = N.length := by omega
      simp only [VS, VD, SV, SL, T, Nat.reduceEqDiff, Nat.reduceAdd, Nat.reduceSub, Nat.reduceMul, Nat.reduceLeDiff, Nat.reduceLT, reduceIte, g4]
      exact ⟨hE2, hL⟩
  · rintro f3 w3 ⟨hE3, hL3⟩
    obtain ⟨oa, oc, g4⟩ := hL3.form
    rw [g4] at hL3
    rw [lstU_end] at hL3 g4
    have hm0 : (lstF N 0).length = (hsL N).length := lstF_len N 0
    have hhl := hsL_len N
    have hblk : (hsL N).length = 0 ∨ ∃ g, oa = some ⟨g, 0, none⟩ ∧ w1.heap.size ≤ g ∧ LrB w3 g (lstF N 0) := by
      by_cases hz : (hsL N).length = 0
      · exact .inl hz
      · exact .inr (hL3.blk fun h => hz (by rw [← hm0, h]; rfl))
    rw [hm0] at g4
    clear hL3
    have hat : ∀ i w', ((hsL N).length = 0 ∨ ∃ g, oa = some ⟨g, 0, none⟩ ∧ w1.heap.size ≤ g ∧ LrB w' g (lstF N i)) → LpsAt w' (.slice oa (hsL N).length oc) (lstF N i) := fun i w' h => by
      rcases h with h | ⟨g, rfl, _, h⟩
      · refine .inl ⟨⟨oa, oc, by rw [h]⟩, ?_⟩
        apply List.eq_nil_of_length_eq_zero
        rw [lstF_len, h]
      · have := h.at (c := oc)
        rw [lstF_len] at this
        exact this
    have hbl : ∀ j, (blF N j).length ≤ 100000000 := fun j => by have := ascL_len N.length (bdS N ((hsL N).getD j 0).toNat (lat N ((hsL N).getD j 0))); unfold blF; omega
    simp only [VS, VD, SV, SL, T, Nat.reduceEqDiff, Nat.reduceAdd, Nat.reduceSub, Nat.reduceMul, Nat.reduceLeDiff, Nat.reduceLT, reduceIte, g4]
    refine LoopP_intro (α := Nat) (fun i g w' => g 4 = .slice oa (hsL N).length oc ∧ g 11 = .int .i64 i ∧ i ≤ (hsL N).length ∧ Ext w1 w' ∧ ((hsL N).length = 0 ∨ ∃ g, oa = some ⟨g, 0, none⟩ ∧ w1.heap.size ≤ g ∧ LrB w' g (lstF N i))) (fun i => (hsL N).length - i) 0 ?_ ?_
    · simp only [VS, VD, SV, SL, T, Nat.reduceEqDiff, Nat.reduceAdd, Nat.reduceSub, Nat.reduceMul, Nat.reduceLeDiff, Nat.reduceLT, reduceIte, g4]
      exact ⟨rfl, Nat.zero_le _, hE3, hblk⟩
    clear hblk hE3 g4
    rintro i g w4 ⟨g4, g11, hi, hE4, hb⟩
    simp only [VS, VD, SV, SL, T, Nat.reduceEqDiff, Nat.reduceAdd, Nat.reduceSub, Nat.reduceMul, Nat.reduceLeDiff, Nat.reduceLT, reduceIte, g4, g11]
    by_cases hlt : (i : Int) < (hsL N).length
    · rw [decide_eq_true hlt]
      have hi' : i < (hsL N).length := by omega
      rcases hb with hb | ⟨gb, rfl, hgb, hB⟩
      · omega
      rw [← lstG_start, ← show parK N i 0 = -1 from rfl] at hB
      simp only [VS, VD, SV, SL, T, Nat.reduceEqDiff, Nat.reduceAdd, Nat.reduceSub, Nat.reduceMul, Nat.reduceLeDiff, Nat.reduceLT, reduceIte]
      refine LoopP_intro (α := Nat) (fun k g w' => g 4 = .slice (some ⟨gb, 0, none⟩) (hsL N).length oc ∧ g 11 = .int .i64 i ∧ g 12 = .int .i64 k ∧ k ≤ (hsL N).length ∧ Ext w1 w' ∧ LrB w' gb (lstG N i (parK N i k))) (fun k => (hsL N).length - k) 0 ?_ ?_
      · simp only [VS, VD, SV, SL, T, Nat.reduceEqDiff, Nat.reduceAdd, Nat.reduceSub, Nat.reduceMul, Nat.reduceLeDiff, Nat.reduceLT, reduceIte, g4, g11]
        exact ⟨rfl, Nat.zero_le _, hE4, hB⟩
      clear g4 g11 hB hE4
      rintro k g w5 ⟨g4, g11, g12, hk, hE5, hB⟩
      simp only [VS, VD, SV, SL, T, Nat.reduceEqDiff, Nat.reduceAdd, Nat.reduceSub, Nat.reduceMul, Nat.reduceLeDiff, Nat.reduceLT, reduceIte, g4, g12]
      by_cases hlk : (k : Int) < (hsL N).length
      · rw [decide_eq_true hlk]
        have hk' : k < (hsL N).length := by omega
        have hprng := parK_rng N i k
        have hst := parT_step hi' hk'
        have hGl := lstG_len N i (parK N i k)
        simp only [VS, VD, SV, SL, T, Nat.reduceEqDiff, Nat.reduceAdd, Nat.reduceSub, Nat.reduceMul, Nat.reduceLeDiff, Nat.reduceLT, reduceIte]
        refine DW_c (fun g' w6 => g' 4 = .slice (some ⟨gb, 0, none⟩) (hsL N).length oc ∧ g' 11 = .int .i64 i ∧ g' 12 = .int .i64 k ∧ g' 168 = .bool (parT N i k) ∧ Ext w5 w6) ?_ ?_
        · obtain ⟨cs, hcs, hsz, _⟩ := id hB
          have hrw : ∀ j, j < (hsL N).length → ∃ u u' pj, cs.extract (j * 4) (j * 4 + 4) = #[.int .i64 ((hsL N).getD j 0), u, u', .int .i64 pj] ∧ j * 4 + 4 ≤ cs.size ∧ cs[j * 4 + 1]? = some u ∧ cs[j * 4 + 3]? = some (.int .i64 pj) ∧ IntsAt w5 u (blF N j) ∧ (j = i → pj = parK N i k) := fun j hj => by
            obtain ⟨lb, lo, lcs, le, lfz, u, u', q1, hlb, hls, hlx, ⟨_, q2, _, q4⟩, hu, _⟩ := (hB.at (c := oc)).get (i := j) (by rw [hGl]; exact hj)
            simp only [Option.some.injEq, Addr.mk.injEq, and_true] at q1
            obtain ⟨rfl, rfl⟩ := q1
            rw [hcs] at hlb
            simp only [Option.some.injEq, Obj.cells.injEq] at hlb
            obtain ⟨rfl, _⟩ := hlb
            have hg1 := lstG_at (N := N) (i := i) (q := parK N i k) (j := j) (by rw [hGl]; exact hj)
            rw [hg1] at hlx hu q4
            simp only [Nat.zero_add] at hls hlx q2 q4
            refine ⟨u, u', _, hlx, hls, q2, q4, hu, fun e => ?_⟩
            subst e
            show (if j < j then parN N j else if j = j then parK N j k else -1) = _
            rw [if_neg (by omega), if_pos rfl]
          have hrc : ∀ pk pi : Int, rcnt ((hsL N).getD k 0, blF N k, [], pk) ((hsL N).getD i 0, blF N i, [], pi) = rcnt (rowF N ((hsL N).getD k 0) 0) (rowF N ((hsL N).getD i 0) 0) := fun _ _ => rfl
          obtain ⟨uk, uk', pk, xk, sk, ck, _, Ik, _⟩ := hrw k hk'
          obtain ⟨ui, ui', pi, xi, si, _, pi3, Ii, epi⟩ := hrw i hi'
          rw [epi rfl] at xi pi3
          have hTd : parT N i k = (decide (k ≠ i) && (rcnt (rowF N ((hsL N).getD k 0) 0) (rowF N ((hsL N).getD i 0) 0) && (decide (parK N i k < 0) || decide ((blF N k).length < (blF N (parK N i k).toNat).length)))) := rfl
          generalize parT N i k = tt at *
          have hrk := fun j => hbl j
          by_cases e : k = i
          · have d1 : decide (¬ (k : Int) = i) = false := decide_eq_false (by omega)
            rw [decide_eq_false (by omega), Bool.false_and] at hTd
            subst hTd
            refine DW_intro (fun _ _ _ _ => True) ?_
            simp only [VS, VD, SV, SL, T, Nat.reduceEqDiff, Nat.reduceAdd, Nat.reduceSub, Nat.reduceMul, Nat.reduceLeDiff, Nat.reduceLT, reduceIte, g4, g11, g12, d1]
            intro w6 hE6 _
            simp only [VS, VD, SV, SL, T, Nat.reduceEqDiff, Nat.reduceAdd, Nat.reduceSub, Nat.reduceMul, Nat.reduceLeDiff, Nat.reduceLT, reduceIte, g4, g11, g12]
            exact hE6
          have d1 : decide (¬ (k : Int) = i) = true := decide_eq_true (by omega)
          rw [decide_eq_true e, Bool.true_and] at hTd
          have hbest : ¬ parK N i k < 0 → ∃ u, cs[(parK N i k).toNat * 4 + 1]? = some u ∧ IntsAt w5 u (blF N (parK N i k).toNat) := fun h => by
            obtain ⟨u, u', _, _, _, q, _, h2, _⟩ := hrw (parK N i k).toNat (by omega)
            exact ⟨u, q, h2⟩
          generalize parK N i k = pp at *
          have hCn := fun w (hE : Ext w5 w) => rContains_spec ((hsL N).getD k 0, blF N k, [], pk) ((hsL N).getD i 0, blF N i, [], pp) uk uk' ui ui' (hbl k) (hbl i) w (Ik.ext hE) (Ii.ext hE)
          simp only [hrc] at hCn
          obtain ⟨uka, ukc, rfl⟩ := Ik.form
          obtain ⟨uia, uic, rfl⟩ := Ii.form
          refine DW_intro (fun n _ v w => n = 12 → v = .bool (rcnt (rowF N ((hsL N).getD k 0) 0) (rowF N ((hsL N).getD i 0) 0))) ?_
          simp only [VS, VD, SV, SL, T, Nat.reduceEqDiff, Nat.reduceAdd, Nat.reduceSub, Nat.reduceMul, Nat.reduceLeDiff, Nat.reduceLT, reduceIte, g4, g11, g12, d1, hcs, xk, xi, sk, si, Int.toNat_natCast]
          refine ⟨by omega, by omega, ?_⟩
          refine rY_ph rfl rfl (fun _ _ _ h _ => h) (fun w6 hE6 _ => ?_) ?_
          · simp only [VS, VD, SV, SL, T, Nat.reduceEqDiff, Nat.reduceAdd, Nat.reduceSub, Nat.reduceMul, Nat.reduceLeDiff, Nat.reduceLT, reduceIte]
            refine (hCn w6 hE6).mono ?_
            rintro _ w7 ⟨rfl, hE7⟩
            exact ⟨hE7, fun _ => rfl⟩
          rintro v ⟨_, _, _, hv⟩
          obtain rfl := hv rfl
          clear hCn hrw
          cases hR : rcnt (rowF N ((hsL N).getD k 0) 0) (rowF N ((hsL N).getD i 0) 0) with
          | false =>
            rw [hR, Bool.false_and] at hTd
            subst hTd
            simp only [VS, VD, SV, SL, T, Nat.reduceEqDiff, Nat.reduceAdd, Nat.reduceSub, Nat.reduceMul, Nat.reduceLeDiff, Nat.reduceLT, reduceIte, g4, g11, g12]
            intro w6 hE6 _
            simp only [VS, VD, SV, SL, T, Nat.reduceEqDiff, Nat.reduceAdd, Nat.reduceSub, Nat.reduceMul, Nat.reduceLeDiff, Nat.reduceLT, reduceIte, g4, g11, g12]
            exact hE6
          | true =>
            rw [hR, Bool.true_and] at hTd
            by_cases hp : pp < 0
            · have d2 : decide (pp < 0) = true := decide_eq_true hp
              rw [d2, Bool.true_or] at hTd
              subst hTd
              simp only [VS, VD, SV, SL, T, Nat.reduceEqDiff, Nat.reduceAdd, Nat.reduceSub, Nat.reduceMul, Nat.reduceLeDiff, Nat.reduceLT, reduceIte, g4, g11, g12, hcs, pi3, d2, Int.toNat_natCast]
              refine ⟨by omega, ?_⟩
              intro w6 hE6 _
              simp only [VS, VD, SV, SL, T, Nat.reduceEqDiff, Nat.reduceAdd, Nat.reduceSub, Nat.reduceMul, Nat.reduceLeDiff, Nat.reduceLT, reduceIte, g4, g11, g12]
              exact hE6
            · have d2 : decide (pp < 0) = false := decide_eq_false hp
              rw [d2, Bool.false_or] at hTd
              obtain ⟨up, cp, Ip⟩ := hbest hp
              obtain ⟨upa, upc, rfl⟩ := Ip.form
              simp only [VS, VD, SV, SL, T, Nat.reduceEqDiff, Nat.reduceAdd, Nat.reduceSub, Nat.reduceMul, Nat.reduceLeDiff, Nat.reduceLT, reduceIte, g4, g11, g12, hcs, pi3, ck, cp, d2, Int.toNat_natCast]
              refine ⟨by omega, by omega, by omega, by omega, ?_⟩
              intro w6 hE6 _
              simp only [VS, VD, SV, SL, T, Nat.reduceEqDiff, Nat.reduceAdd, Nat.reduceSub, Nat.reduceMul, Nat.reduceLeDiff, Nat.reduceLT, reduceIte, g4, g11, g12]
              refine ⟨?_, hE6⟩
              rw [hTd]
              congr 1
              exact decide_eq_decide.2 (by omega)
        · clear g4 g11 g12
          rintro g w6 ⟨g4, g11, g12, g168, hE6⟩
          replace hB := hB.ext hE6
          cases hT : parT N i k with
          | false =>
            rw [hT] at g168 hst
            simp only [VS, VD, SV, SL, T, Nat.reduceEqDiff, Nat.reduceAdd, Nat.reduceSub, Nat.reduceMul, Nat.reduceLeDiff, Nat.reduceLT, reduceIte, g4, g11, g12, g168]
            exact ⟨by omega, k + 1, ⟨by simp, by omega, hE5.trans hE6, by rw [hst]; exact hB⟩, by omega⟩
          | true =>
            rw [hT] at g168 hst
            obtain ⟨cs, hcs, hsz, hc⟩ := id hB
            rw [hGl] at hsz
            simp only [VS, VD, SV, SL, T, Nat.reduceEqDiff, Nat.reduceAdd, Nat.reduceSub, Nat.reduceMul, Nat.reduceLeDiff, Nat.reduceLT, reduceIte, g4, g11, g12, g168, hcs, Int.toNat_natCast]
            refine ⟨by omega, by omega, by omega, k + 1, ⟨by simp, by omega, (hE5.trans hE6).putb hgb _, ?_⟩, by omega⟩
            rw [hst]
            refine hB.put hcs (by rw [hGl]; exact hi') (by rw [lstG_len, lstG_len]) fun j x x' hx hx' => ?_
            have hj := (List.getElem?_eq_some_iff.1 hx).1
            rw [hGl] at hj
            rw [lstG_get hj] at hx hx'
            rw [← Option.some.inj hx, ← Option.some.inj hx']
            refine ⟨rfl, rfl, rfl, ?_⟩
            show (if j < i then parN N j else if j = i then (k : Int) else -1) = if j = i then (k : Int) else (if j < i then parN N j else if j = i then parK N i k else -1)
            by_cases e : j = i
            · subst e
              rw [if_neg (by omega), if_pos rfl, if_pos rfl]
            · rw [if_neg e, if_neg e]
              by_cases e2 : j < i
              · rw [if_pos e2, if_pos e2]
              · rw [if_neg e2, if_neg e2, if_neg e]
      · rw [decide_eq_false hlk]
        obtain rfl : k = (hsL N).length := by omega
        rw [parK_end, lstG_stop] at hB
        simp only [VS, VD, SV, SL, T, Nat.reduceEqDiff, Nat.reduceAdd, Nat.reduceSub, Nat.reduceMul, Nat.reduceLeDiff, Nat.reduceLT, reduceIte, g4, g11]
        exact ⟨by omega, i + 1, ⟨by simp, by omega, hE5, .inr ⟨gb, rfl, hgb, hB⟩⟩, by omega⟩
    · rw [decide_eq_false hlt]
      obtain rfl : i = (hsL N).length := by omega
      simp only [VS, VD, SV, SL, T, Nat.reduceEqDiff, Nat.reduceAdd, Nat.reduceSub, Nat.reduceMul, Nat.reduceLeDiff, Nat.reduceLT, reduceIte, g4]
      exact hΨ _ _ ⟨hat _ _ hb, hE1.trans hE4⟩
end Go.Proofs.Ytlhlbiaibgmapaa

/-
  LoopsQueries: the walk.
-/
import Derived.Test.YtlhlbiaibgmapaaZLC2
set_option linter.unusedSimpArgs false
set_option linter.unusedVariables false
namespace Go.Proofs.Ytlhlbiaibgmapaa
open Go.W Go.RowKit
theorem pr_at {base : Nat} {w w' : World} {v : Value} {L : List (Int × Int)} (h : PrO base w v L) (hF : ∀ b, v.ownBlock = some b → w'.heap[b]? = w.heap[b]?) : PrO base w' v L := own_at h hF
/-- the other of two lists that grow -/
theorem pr_other {base b2 : Nat} {w w' : World} {u v : Value} {L M : List (Int × Int)} (hu : PrO base w u L) (hv : PrO b2 w v M) (hd : ∀ b, u.ownBlock = some b → v.ownBlock ≠ some b) (hg : w.grownBy w' v.ownBlock) : PrO base w' u L :=
  own_at hu fun b hb => hg.block b (hu.lt b hb).2 fun e => hd b hb e.symm
theorem dep_take {L : List Lp} {i : Nat} (hi : i < L.length) (b : Int) : dep (L.take (i + 1)) b = dep (L.take i) b + if b ∈ L[i].2.1 then 1 else 0 := by
  unfold dep
  rw [List.take_succ_eq_append_getElem hi, filter_snoc, List.length_append]
  by_cases h : b ∈ L[i].2.1 <;> simp [h]
set_option maxHeartbeats 1000000 in
set_option maxRecDepth 10000 in
theorem LoopsQueries_spec (gv : Value) (B : List Blk) (PV : List (List Int)) (lv : Value) (L : List Lp) (x0 : Int) (w : World) (h : GrAt w gv B PV) (hEd : (edg 0 (nx B)).length ≤ 2000000) (hB : B.length ≤ 2000000) (hL : LpsAt w lv L) (hLm : L.length ≤ maxLen) {p : Prop} (_ : p) : VRet Try.prog 9 #[gv, lv, .int .i64 x0] w fun v w' => v = .bool true ∧ Ext w w' := by
  have hml : L.length ≤ 9223372036854775807 := by unfold maxLen at hLm; omega
  have hG0 := h
  obtain ⟨bs, pv, rfl, hb0, hp0⟩ := h
  obtain ⟨ba, bc, rfl⟩ := hb0.form
  obtain ⟨pa, pc, rfl⟩ := hp0.form'
  obtain ⟨la, lc, rfl⟩ := hL.form
  have hrw : ∀ l ∈ nx B, l.length ≤ 50000000 := fun l hl => by
    have : l.length ≤ (edg 0 (nx B)).length := by
      have key : ∀ (N : List (List Int)) (k : Nat), ∀ l ∈ N, l.length ≤ (edg k N).length := fun N => by
        induction N with
        | nil => intro k l hl; cases hl
        | cons m N ih =>
          intro k l hl
          rw [edg, List.length_append, List.length_map]
          rcases List.mem_cons.1 hl with rfl | hl
          · omega
          · have := ih (k + 1) l hl
            omega
      exact key _ 0 l hl
    omega
  have hEs := fun w' hG => Edges_spec (.agg #[.slice ba B.length bc, .slice pa PV.length pc]) B PV hB (by omega) hrw w' hG
  have hEn := fun lv x hx w' hG hL => Entries_spec (.agg #[.slice ba B.length bc, .slice pa PV.length pc]) B PV hB (by omega) hrw lv x hx w' hG hL
  have hEx := fun lv x hx w' hG hL => Exits_spec (.agg #[.slice ba B.length bc, .slice pa PV.length pc]) B PV hB (by omega) hrw lv x hx w' hG hL
  generalize edg 0 (nx B) = Es at *
  refine VRet_start T.mo ok9 rfl fun Ψ hΨ => ?_; simp only [vc9, rs9]
  simp only [VS, VD, SV, SL, T, Nat.reduceEqDiff, Nat.reduceAdd, Nat.reduceSub, Nat.reduceMul, Nat.reduceLeDiff, Nat.reduceLT, reduceIte]
  refine (awake_spec _).mono ?_
  rintro _ w1 ⟨rfl, hE1⟩
  replace hE1 := ((Ext.refl w).alloc tomb).trans hE1
  simp only [VS, VD, SV, SL, T, Nat.reduceEqDiff, Nat.reduceAdd, Nat.reduceSub, Nat.reduceMul, Nat.reduceLeDiff, Nat.reduceLT, reduceIte, Bool.not_true]
  by_cases h14 : 14 < (B.length : Int)
  · rw [decide_eq_true h14]
    simp only [VS, VD, SV, SL, T, Nat.reduceEqDiff, Nat.reduceAdd, Nat.reduceSub, Nat.reduceMul, Nat.reduceLeDiff, Nat.reduceLT, reduceIte]
    exact hΨ _ _ ⟨rfl, hE1⟩
  rw [decide_eq_false h14]
  simp only [VS, VD, SV, SL, T, Nat.reduceEqDiff, Nat.reduceAdd, Nat.reduceSub, Nat.reduceMul, Nat.reduceLeDiff, Nat.reduceLT, reduceIte]
  by_cases h10 : 10 < (L.length : Int)
  · rw [decide_eq_true h10]
    simp only [VS, VD, SV, SL, T, Nat.reduceEqDiff, Nat.reduceAdd, Nat.reduceSub, Nat.reduceMul, Nat.reduceLeDiff, Nat.reduceLT, reduceIte]
    exact hΨ _ _ ⟨rfl, hE1⟩
  rw [decide_eq_false h10]
  replace hG0 := hG0.ext hE1
  replace hL := hL.ext hE1
  simp only [VS, VD, SV, SL, T, Nat.reduceEqDiff, Nat.reduceAdd, Nat.reduceSub, Nat.reduceMul, Nat.reduceLeDiff, Nat.reduceLT, reduceIte]
  refine loop_cB (fun g w' => g 3 = .agg #[.slice ba B.length bc, .slice pa PV.length pc] ∧ g 1 = .slice la L.length lc ∧ g 2 = .int .i64 x0 ∧ g 7 = .int .i64 (dep L x0) ∧ g 8 = .int .i64 (inm L x0 L.length) ∧ Ext w1 w' ∧ ∀ x ∈ L, x.2.1.length ≤ 20) ?_ ?_
  · refine LoopP_intro (α := Nat) (fun i g w' => g 3 = .agg #[.slice ba B.length bc, .slice pa PV.length pc] ∧ g 1 = .slice la L.length lc ∧ g 2 = .int .i64 x0 ∧ g 28 = .slice la L.length lc ∧ g 29 = .int .i64 L.length ∧ g 30 = .int .i64 i ∧ g 7 = .int .i64 (dep (L.take i) x0) ∧ g 8 = .int .i64 (inm L x0 i) ∧ i ≤ L.length ∧ Ext w1 w' ∧ ∀ x ∈ L.take i, x.2.1.length ≤ 20) (fun i => L.length - i) 0 ?_ ?_
    · simp only [VS, VD, SV, SL, T, Nat.reduceEqDiff, Nat.reduceAdd, Nat.reduceSub, Nat.reduceMul, Nat.reduceLeDiff, Nat.reduceLT, reduceIte]
      exact ⟨rfl, rfl, rfl, Nat.zero_le _, Ext.refl _, by simp⟩
    rintro i g w' ⟨g3, g1, g2, g28, g29, g30, g7, g8, hi, hE, hsm⟩
    simp only [VS, VD, SV, SL, T, Nat.reduceEqDiff, Nat.reduceAdd, Nat.reduceSub, Nat.reduceMul, Nat.reduceLeDiff, Nat.reduceLT, reduceIte, g29, g30]
    by_cases hlt : (i : Int) < L.length
    · rw [decide_eq_true hlt]
      have hi' : i < L.length := by omega
      obtain ⟨lb, lo, lcs, le, lfz, u, u', rfl, hlb, hls, hlv, hlx, hu, hu'⟩ := (hL.ext hE).get hi'
      have hdt := dep_take hi' x0
      have hit : inm L x0 (i + 1) = if x0 ∈ L[i].2.1 ∧ (inm L x0 i < 0 ∨ L[i].2.1.length < bln L (inm L x0 i)) then (i : Int) else inm L x0 i := by rw [inm, getD_at hi']
      have hst : ∀ x ∈ L.take (i + 1), x.2.1.length ≤ 20 ∨ ¬ L[i].2.1.length ≤ 20 := fun x hx => by
        rw [List.take_succ_eq_append_getElem hi'] at hx
        rcases List.mem_append.1 hx with hx | hx
        · exact .inl (hsm x hx)
        · rw [List.mem_singleton.1 hx]; omega
      have hrg := inm_rng L x0 i
      have hdl : dep (L.take i) x0 ≤ i := by
        have := List.length_filter_le (fun x : Lp => decide (x0 ∈ x.2.1)) (L.take i)
        rw [List.length_take] at this
        unfold dep
        omega
      have hbest : 0 ≤ inm L x0 i → ∃ (q : Nat) (hq : q < L.length), inm L x0 i = q ∧ bln L (inm L x0 i) = L[q].2.1.length := fun h0 => by
        refine ⟨(inm L x0 i).toNat, by omega, by omega, ?_⟩
        unfold bln
        rw [getD_at]
      generalize hq0 : inm L x0 i = q0 at *
      generalize hxx : L[i] = x at *
      obtain ⟨hd, bl, lt, pr⟩ := x
      simp only [] at hlv hlx hu hu' hdt hit hst
      obtain ⟨ua, uc, rfl⟩ := hu.form
      obtain ⟨ua', uc', rfl⟩ := hu'.form
      simp only [VS, VD, SV, SL, T, Nat.reduceEqDiff, Nat.reduceAdd, Nat.reduceSub, Nat.reduceMul, Nat.reduceLeDiff, Nat.reduceLT, reduceIte, g28, g30, hlb, hls, hlv, Int.toNat_natCast]
      refine ⟨by omega, ?_⟩
      by_cases h20 : 20 < (bl.length : Int)
      · rw [decide_eq_true h20]
        simp only [VS, VD, SV, SL, T, Nat.reduceEqDiff, Nat.reduceAdd, Nat.reduceSub, Nat.reduceMul, Nat.reduceLeDiff, Nat.reduceLT, reduceIte]
        exact hΨ _ _ ⟨rfl, (hE1.trans hE).alloc _⟩
      rw [decide_eq_false h20]
      simp only [VS, VD, SV, SL, T, Nat.reduceEqDiff, Nat.reduceAdd, Nat.reduceSub, Nat.reduceMul, Nat.reduceLeDiff, Nat.reduceLT, reduceIte, g2]
      have hEt := (Ext.refl w').alloc tomb
      refine (in_spec _ bl (by omega) x0 _ (hu.ext hEt)).mono ?_
      rintro _ w2 ⟨rfl, hE2⟩
      replace hE2 := hEt.trans hE2
      replace hlb := hE2.obj hlb
      have hEw := hE.trans hE2
      by_cases hin : x0 ∈ bl
      · rw [decide_eq_true hin]
        rw [if_pos hin] at hdt
        simp only [VS, VD, SV, SL, T, Nat.reduceEqDiff, Nat.reduceAdd, Nat.reduceSub, Nat.reduceMul, Nat.reduceLeDiff, Nat.reduceLT, reduceIte, g7]
        refine ⟨by omega, ?_⟩
        refine DW_c (fun g' w3 => g' 3 = .agg #[.slice ba B.length bc, .slice pa PV.length pc] ∧ g' 1 = .slice (some ⟨lb, lo, none⟩) L.length lc ∧ g' 2 = .int .i64 x0 ∧ g' 28 = .slice (some ⟨lb, lo, none⟩) L.length lc ∧ g' 29 = .int .i64 L.length ∧ g' 30 = .int .i64 i ∧ g' 7 = .int .i64 (dep (L.take (i + 1)) x0) ∧ g' 8 = .int .i64 q0 ∧ g' 9 = .int .i64 i ∧ g' 58 = .bool (decide (q0 < 0 ∨ bl.length < bln L q0)) ∧ Ext w2 w3) ?_ ?_
        · refine DW_intro (fun _ _ _ _ => True) ?_
          by_cases hq : q0 < 0
          · have d1 : decide (q0 < 0) = true := decide_eq_true hq
            simp only [VS, VD, SV, SL, T, Nat.reduceEqDiff, Nat.reduceAdd, Nat.reduceSub, Nat.reduceMul, Nat.reduceLeDiff, Nat.reduceLT, reduceIte, g8, d1]
            intro w3 hE3 _
            simp only [VS, VD, SV, SL, T, Nat.reduceEqDiff, Nat.reduceAdd, Nat.reduceSub, Nat.reduceMul, Nat.reduceLeDiff, Nat.reduceLT, reduceIte, g3, g1, g2, g28, g29, g30, g8]
            refine ⟨by rw [hdt]; simp, ?_, hE3⟩
            simp [hq]
          · have d1 : decide (q0 < 0) = false := decide_eq_false hq
            obtain ⟨q, hql, hqe, hqb⟩ := hbest (by omega)
            obtain ⟨lb2, lo2, lcs2, le2, lfz2, u2, u2', q1, hlb2, hls2, _, hlx2, hu2, _⟩ := (hL.ext hEw).get hql
            simp only [Option.some.injEq, Addr.mk.injEq, and_true] at q1
            obtain ⟨rfl, rfl⟩ := q1
            obtain ⟨ua2, uc2, rfl⟩ := hu2.form
            rw [hqe] at d1 g8
            simp only [VS, VD, SV, SL, T, Nat.reduceEqDiff, Nat.reduceAdd, Nat.reduceSub, Nat.reduceMul, Nat.reduceLeDiff, Nat.reduceLT, reduceIte, g1, g8, d1, hlb2, hls2, hlx2, Int.toNat_natCast]
            refine ⟨by omega, ?_⟩
            intro w3 hE3 _
            simp only [VS, VD, SV, SL, T, Nat.reduceEqDiff, Nat.reduceAdd, Nat.reduceSub, Nat.reduceMul, Nat.reduceLeDiff, Nat.reduceLT, reduceIte, g3, g1, g2, g28, g29, g30, g8]
            refine ⟨by rw [hdt]; simp, by rw [hqe], ?_, hE3⟩
            rw [hqb]
            refine congrArg Value.bool (decide_eq_decide.2 ?_)
            omega
        clear g3 g1 g2 g28 g29 g30 g7 g8
        rintro g w3 ⟨g3, g1, g2, g28, g29, g30, g7, g8, g9, g58, hE3⟩
        by_cases hb : q0 < 0 ∨ bl.length < bln L q0
        · rw [decide_eq_true hb] at g58
          rw [if_pos ⟨hin, hb⟩] at hit
          simp only [VS, VD, SV, SL, T, Nat.reduceEqDiff, Nat.reduceAdd, Nat.reduceSub, Nat.reduceMul, Nat.reduceLeDiff, Nat.reduceLT, reduceIte, g58, g9, g7, g3, g1, g2, g28, g29, g30]
          exact ⟨by omega, i + 1, ⟨by simp, rfl, by rw [hit], by omega, hEw.trans hE3, fun x hx => (hst x hx).resolve_right (by omega)⟩, by omega⟩
        · rw [decide_eq_false hb] at g58
          rw [if_neg fun h => hb h.2] at hit
          simp only [VS, VD, SV, SL, T, Nat.reduceEqDiff, Nat.reduceAdd, Nat.reduceSub, Nat.reduceMul, Nat.reduceLeDiff, Nat.reduceLT, reduceIte, g58, g8, g7, g3, g1, g2, g28, g29, g30]
          exact ⟨by omega, i + 1, ⟨by simp, rfl, by rw [hit], by omega, hEw.trans hE3, fun x hx => (hst x hx).resolve_right (by omega)⟩, by omega⟩
      · rw [decide_eq_false hin]
        rw [if_neg hin] at hdt
        rw [if_neg fun h => hin h.1] at hit
        simp only [VS, VD, SV, SL, T, Nat.reduceEqDiff, Nat.reduceAdd, Nat.reduceSub, Nat.reduceMul, Nat.reduceLeDiff, Nat.reduceLT, reduceIte, g7, g8, g3, g1, g2, g28, g29, g30]
        exact ⟨by omega, i + 1, ⟨by simp, by rw [hdt]; rfl, by rw [hit], by omega, hEw, fun x hx => (hst x hx).resolve_right (by omega)⟩, by omega⟩
    · rw [decide_eq_false hlt]
      obtain rfl : i = L.length := by omega
      rw [List.take_length] at hsm g7
      simp only [VS, VD, SV, SL, T, Nat.reduceEqDiff, Nat.reduceAdd, Nat.reduceSub, Nat.reduceMul, Nat.reduceLeDiff, Nat.reduceLT, reduceIte, g3, g1, g2, g7, g8]
      exact ⟨hE, hsm⟩
  rintro g w2 ⟨g3, g1, g2, g7, g8, hE2, hsm⟩
  have hsm' : ∀ x ∈ L, x.2.1.length ≤ 100000000 := fun x hx => by have := hsm x hx; omega
  simp only [VS, VD, SV, SL, T, Nat.reduceEqDiff, Nat.reduceAdd, Nat.reduceSub, Nat.reduceMul, Nat.reduceLeDiff, Nat.reduceLT, reduceIte, g1, g2]
  refine (Depth_spec _ L (by omega) hsm' x0 w2 (hL.ext hE2)).mono ?_
  rintro _ w3 ⟨rfl, hE3⟩
  replace hE3 := hE2.trans hE3
  have d1 : ∀ n : Int, decide (¬ n = n) = false := fun n => decide_eq_false (fun h => h rfl)
  simp only [VS, VD, SV, SL, T, Nat.reduceEqDiff, Nat.reduceAdd, Nat.reduceSub, Nat.reduceMul, Nat.reduceLeDiff, Nat.reduceLT, reduceIte, g7, d1, g1, g2]
  refine (Innermost_spec _ L (by omega) hsm' x0 w3 (hL.ext hE3)).mono ?_
  rintro _ w4 ⟨rfl, hE4⟩
  replace hE4 := hE3.trans hE4
  simp only [VS, VD, SV, SL, T, Nat.reduceEqDiff, Nat.reduceAdd, Nat.reduceSub, Nat.reduceMul, Nat.reduceLeDiff, Nat.reduceLT, reduceIte, g8, d1, g1]
  refine LoopP_intro (α := Nat) (fun i g w' => g 3 = .agg #[.slice ba B.length bc, .slice pa PV.length pc] ∧ g 1 = .slice la L.length lc ∧ g 2 = .int .i64 x0 ∧ g 73 = .slice la L.length lc ∧ g 74 = .int .i64 L.length ∧ g 75 = .int .i64 i ∧ i ≤ L.length ∧ Ext w4 w') (fun i => L.length - i) 0 ?_ ?_
  · simp only [VS, VD, SV, SL, T, Nat.reduceEqDiff, Nat.reduceAdd, Nat.reduceSub, Nat.reduceMul, Nat.reduceLeDiff, Nat.reduceLT, reduceIte, g3, g1, g2]
    exact ⟨rfl, Nat.zero_le _, Ext.refl _⟩
  clear g3 g1 g2 g7 g8
  rintro i g w' ⟨g3, g1, g2, g73, g74, g75, hi, hE⟩
  simp only [VS, VD, SV, SL, T, Nat.reduceEqDiff, Nat.reduceAdd, Nat.reduceSub, Nat.reduceMul, Nat.reduceLeDiff, Nat.reduceLT, reduceIte, g74, g75]
  by_cases hlt : (i : Int) < L.length
  · rw [decide_eq_true hlt]
    have hi' : i < L.length := by omega
    obtain ⟨lb, lo, lcs, le, lfz, u, u', rfl, hlb, hls, hlv, hlx, hu, hu'⟩ := (hL.ext (hE4.trans hE)).get hi'
    have h20 := hsm _ (List.getElem_mem hi')
    generalize hxx : L[i] = x at *
    obtain ⟨hd, bl, lt, pr⟩ := x
    simp only [] at hlv hlx hu hu' h20
    obtain ⟨ua, uc, rfl⟩ := hu.form
    obtain ⟨ua', uc', rfl⟩ := hu'.form
    simp only [VS, VD, SV, SL, T, Nat.reduceEqDiff, Nat.reduceAdd, Nat.reduceSub, Nat.reduceMul, Nat.reduceLeDiff, Nat.reduceLT, reduceIte, g3, g73, g75, hlb, hls, hlv, Int.toNat_natCast]
    refine ⟨by omega, ?_⟩
    have hEt := (Ext.refl w').alloc tomb
    replace hEt := hE.trans hEt
    have hut := hu.ext ((Ext.refl w').alloc tomb)
    have hut' := hu'.ext ((Ext.refl w').alloc tomb)
    generalize w'.alloc tomb = w5 at *
    refine (hEs w5 (hG0.ext (hE4.trans hEt))).mono ?_
    rintro v6 w6 ⟨hO6, hE6⟩
    have hP6 := hO6.at
    obtain ⟨ea, ec, rfl⟩ := hO6.form
    replace hut := hut.ext hE6
    replace hut' := hut'.ext hE6
    replace hE6 := hEt.trans hE6
    have hLpv : ∀ w', Ext w6 w' → LpV w' (.agg #[.int .i64 hd, .slice ua bl.length uc, .slice ua' lt.length uc', .int .i64 pr]) (hd, bl, lt, pr) := fun w' hE => ⟨_, _, rfl, hut.ext hE, hut'.ext hE⟩
    simp only [VS, VD, SV, SL, T, Nat.reduceEqDiff, Nat.reduceAdd, Nat.reduceSub, Nat.reduceMul, Nat.reduceLeDiff, Nat.reduceLT, reduceIte]
    refine loop_cB (fun g w' => g 3 = .agg #[.slice ba B.length bc, .slice pa PV.length pc] ∧ g 1 = .slice (some ⟨lb, lo, none⟩) L.length lc ∧ g 2 = .int .i64 x0 ∧ g 73 = .slice (some ⟨lb, lo, none⟩) L.length lc ∧ g 74 = .int .i64 L.length ∧ g 75 = .int .i64 i ∧ g 12 = .agg #[.int .i64 hd, .slice ua bl.length uc, .slice ua' lt.length uc', .int .i64 pr] ∧ Ext w6 w' ∧ PrO w6.heap.size w' (g 13) (Es.filter (entB (hd, bl, lt, pr))) ∧ PrO w6.heap.size w' (g 14) (Es.filter (exiB (hd, bl, lt, pr)))) ?_ ?_
    · refine LoopP_intro (α := Nat) (fun j g w' => g 3 = .agg #[.slice ba B.length bc, .slice pa PV.length pc] ∧ g 1 = .slice (some ⟨lb, lo, none⟩) L.length lc ∧ g 2 = .int .i64 x0 ∧ g 73 = .slice (some ⟨lb, lo, none⟩) L.length lc ∧ g 74 = .int .i64 L.length ∧ g 75 = .int .i64 i ∧ g 12 = .agg #[.int .i64 hd, .slice ua bl.length uc, .slice ua' lt.length uc', .int .i64 pr] ∧ g 80 = .slice ea Es.length ec ∧ g 81 = .int .i64 Es.length ∧ g 82 = .int .i64 j ∧ j ≤ Es.length ∧ Ext w6 w' ∧ w6.heap.size ≤ w'.heap.size ∧ PrO w6.heap.size w' (g 13) ((Es.take j).filter (entB (hd, bl, lt, pr))) ∧ PrO w6.heap.size w' (g 14) ((Es.take j).filter (exiB (hd, bl, lt, pr))) ∧ (∀ b, (g 13).ownBlock = some b → (g 14).ownBlock ≠ some b)) (fun j => Es.length - j) 0 ?_ ?_
      · simp only [VS, VD, SV, SL, T, Nat.reduceEqDiff, Nat.reduceAdd, Nat.reduceSub, Nat.reduceMul, Nat.reduceLeDiff, Nat.reduceLT, reduceIte, g3, g1, g2, g73, g74, g75]
        exact ⟨rfl, Nat.zero_le _, Ext.refl _, Nat.le_refl _, OwnL.nil _ _ _ _ _, OwnL.nil _ _ _ _ _, fun b hb => by cases hb⟩
      clear g3 g1 g2 g73 g74 g75
      rintro j g w7 ⟨g3, g1, g2, g73, g74, g75, g12, g80, g81, g82, hj, hE7, hs7, hA, hC, hd7⟩
      simp only [VS, VD, SV, SL, T, Nat.reduceEqDiff, Nat.reduceAdd, Nat.reduceSub, Nat.reduceMul, Nat.reduceLeDiff, Nat.reduceLT, reduceIte, g81, g82]
      by_cases hjl : (j : Int) < Es.length
      · rw [decide_eq_true hjl]
        have hj' : j < Es.length := by omega
        have htk : Es.take (j + 1) = Es.take j ++ [Es[j]] := List.take_succ_eq_append_getElem hj'
        have hfa := filter_snoc (entB (hd, bl, lt, pr)) (Es.take j) Es[j]
        have hfc := filter_snoc (exiB (hd, bl, lt, pr)) (Es.take j) Es[j]
        rw [← htk] at hfa hfc
        have hla : ((Es.take j).filter (entB (hd, bl, lt, pr))).length ≤ j := by
          have := List.length_filter_le (entB (hd, bl, lt, pr)) (Es.take j)
          rw [List.length_take] at this
          omega
        have hlc : ((Es.take j).filter (exiB (hd, bl, lt, pr))).length ≤ j := by
          have := List.length_filter_le (exiB (hd, bl, lt, pr)) (Es.take j)
          rw [List.length_take] at this
          omega
        obtain ⟨eb, eo, ecs, ee, efz, rfl, heb, hes, hex⟩ := (hP6.ext hE7).get hj'
        generalize Es[j] = e at *
        obtain ⟨e1, e2⟩ := e
        simp only [] at hex
        simp only [VS, VD, SV, SL, T, Nat.reduceEqDiff, Nat.reduceAdd, Nat.reduceSub, Nat.reduceMul, Nat.reduceLeDiff, Nat.reduceLT, reduceIte, g80, g82, g12, heb, hes, hex, AX, Int.toNat_natCast]
        refine ⟨by omega, ?_⟩
        have hE8 := hE7.alloc (.cells #[.int .i64 e1, .int .i64 e2] 48)
        have hA8 : PrO w6.heap.size (w7.alloc (.cells #[.int .i64 e1, .int .i64 e2] 48)) (g 13) _ := hA.alloc _
        have hC8 : PrO w6.heap.size (w7.alloc (.cells #[.int .i64 e1, .int .i64 e2] 48)) (g 14) _ := hC.alloc _
        have hcell : (w7.alloc (.cells #[.int .i64 e1, .int .i64 e2] 48)).heap[w7.heap.size]? = some (.cells #[.int .i64 e1, .int .i64 e2] 48 (0, 0)) := alloc_get_new _ _
        have hs8 : w6.heap.size ≤ (w7.alloc (.cells #[.int .i64 e1, .int .i64 e2] 48)).heap.size := hE8.size
        have hnA : ∀ b, (g 13).ownBlock = some b → b ≠ w7.heap.size := fun b hb => by have := (hA.lt b hb).2; omega
        have hnC : ∀ b, (g 14).ownBlock = some b → b ≠ w7.heap.size := fun b hb => by have := (hC.lt b hb).2; omega
        generalize w7.alloc (.cells #[.int .i64 e1, .int .i64 e2] 48) = w8 at *
        generalize w7.heap.size = cb at *
        clear hA hC heb hes hex
        have h13 : g 13 = g 13 := rfl
        generalize hv13 : g 13 = v13 at hA8 hnA hd7
        generalize hv14 : g 14 = v14 at hC8 hnC hd7
        obtain ⟨oa13, oc13, ho13⟩ := hA8.form
        obtain ⟨oa14, oc14, ho14⟩ := hC8.form
        have hutn := fun w' (hE : Ext w6 w') => hut.ext hE
        refine YG_c (fun g' w9 => g' 3 = .agg #[.slice ba B.length bc, .slice pa PV.length pc] ∧ g' 1 = .slice (some ⟨lb, lo, none⟩) L.length lc ∧ g' 2 = .int .i64 x0 ∧ g' 73 = .slice (some ⟨lb, lo, none⟩) L.length lc ∧ g' 74 = .int .i64 L.length ∧ g' 75 = .int .i64 i ∧ g' 12 = .agg #[.int .i64 hd, .slice ua bl.length uc, .slice ua' lt.length uc', .int .i64 pr] ∧ g' 80 = .slice (some ⟨eb, eo, none⟩) Es.length ec ∧ g' 81 = .int .i64 Es.length ∧ g' 82 = .int .i64 j ∧ g' 13 = v13 ∧ g' 14 = v14 ∧ g' 16 = .pointer (some ⟨cb, 0, none⟩) ∧ g' 98 = .bool (entB (hd, bl, lt, pr) (e1, e2)) ∧ Ext w8 w9) ?_ ?_
        · by_cases he : e2 = hd
          · rw [decide_eq_true he]
            simp only [VS, VD, SV, SL, T, Nat.reduceEqDiff, Nat.reduceAdd, Nat.reduceSub, Nat.reduceMul, Nat.reduceLeDiff, Nat.reduceLT, reduceIte, g12, hcell, AX]
            refine (in_spec _ bl (by omega) e1 w8 (hutn w8 hE8)).mono ?_
            rintro _ w9 ⟨rfl, hE9⟩
            simp only [VS, VD, SV, SL, T, Nat.reduceEqDiff, Nat.reduceAdd, Nat.reduceSub, Nat.reduceMul, Nat.reduceLeDiff, Nat.reduceLT, reduceIte, g3, g1, g2, g73, g74, g75, g12, g80, g81, g82, hv13, hv14]
            exact ⟨by simp [entB, he], hE9⟩
          · rw [decide_eq_false he]
            simp only [VS, VD, SV, SL, T, Nat.reduceEqDiff, Nat.reduceAdd, Nat.reduceSub, Nat.reduceMul, Nat.reduceLeDiff, Nat.reduceLT, reduceIte, g3, g1, g2, g73, g74, g75, g12, g80, g81, g82, hv13, hv14]
            exact ⟨by simp [entB, he], Ext.refl _⟩
        clear g3 g1 g2 g73 g74 g75 g12 g80 g81 g82 hv13 hv14 h13
        rintro g w9 ⟨g3, g1, g2, g73, g74, g75, g12, g80, g81, g82, g13, g14, g16, g98, hE9⟩
        have hA9 := hA8.ext hE9
        have hC9 := hC8.ext hE9
        have hcell9 := hE9.obj hcell
        have hs9 := Nat.le_trans hs8 hE9.size
        replace hE9 := hE8.trans hE9
        clear hA8 hC8 hcell hE8 hs8
        simp only [VS, VD, SV, SL, T, Nat.reduceEqDiff, Nat.reduceAdd, Nat.reduceSub, Nat.reduceMul, Nat.reduceLeDiff, Nat.reduceLT, reduceIte, g98]
        refine cnd_c (fun g' w10 => g' 3 = .agg #[.slice ba B.length bc, .slice pa PV.length pc] ∧ g' 1 = .slice (some ⟨lb, lo, none⟩) L.length lc ∧ g' 2 = .int .i64 x0 ∧ g' 73 = .slice (some ⟨lb, lo, none⟩) L.length lc ∧ g' 74 = .int .i64 L.length ∧ g' 75 = .int .i64 i ∧ g' 12 = .agg #[.int .i64 hd, .slice ua bl.length uc, .slice ua' lt.length uc', .int .i64 pr] ∧ g' 80 = .slice (some ⟨eb, eo, none⟩) Es.length ec ∧ g' 81 = .int .i64 Es.length ∧ g' 82 = .int .i64 j ∧ g' 14 = v14 ∧ g' 16 = .pointer (some ⟨cb, 0, none⟩) ∧ Ext w6 w10 ∧ w6.heap.size ≤ w10.heap.size ∧ PrO w6.heap.size w10 (g' 13) ((Es.take (j + 1)).filter (entB (hd, bl, lt, pr))) ∧ PrO w6.heap.size w10 v14 ((Es.take j).filter (exiB (hd, bl, lt, pr))) ∧ (∀ b, (g' 13).ownBlock = some b → (v14).ownBlock ≠ some b) ∧ w10.heap[cb]? = some (.cells #[.int .i64 e1, .int .i64 e2] 48 (0, 0))) ?_ ?_
        · refine cnd_b (fun hen => ?_) (fun hen => ?_)
          · rw [hen, if_pos rfl] at hfa
            simp only [VS, VD, SV, SL, T, Nat.reduceEqDiff, Nat.reduceAdd, Nat.reduceSub, Nat.reduceMul, Nat.reduceLeDiff, Nat.reduceLT, reduceIte, g13, g16, hcell9, AX]
            rw [ho13]
            rw [ho13] at hA9 hnA hd7
            refine app_pair hA9 (by omega) hs9 e1 e2 ?_
            intro v' w10 ho10 hx10 hg10 hn10
            simp only [VS, VD, SV, SL, T, Nat.reduceEqDiff, Nat.reduceAdd, Nat.reduceSub, Nat.reduceMul, Nat.reduceLeDiff, Nat.reduceLT, reduceIte, g3, g1, g2, g73, g74, g75, g12, g80, g81, g82, g14, g16]
            refine ⟨hx10 w6 hE9 (Nat.le_refl _), Nat.le_trans hs9 hg10.size, by rw [hfa]; exact ho10, pr_other hC9 hA9 (fun b hb h2 => hd7 b h2 hb) hg10, fun b hb h2 => ?_, by rw [hg10.block cb (get_lt hcell9) (fun e => hnA cb e.symm rfl)]; exact hcell9⟩
            rcases hn10 b hb with h3 | h3
            · exact hd7 b h3 h2
            · have := (hC9.lt b h2).2; omega
          · rw [hen] at hfa
            simp only [VS, VD, SV, SL, T, Nat.reduceEqDiff, Nat.reduceAdd, Nat.reduceSub, Nat.reduceMul, Nat.reduceLeDiff, Nat.reduceLT, reduceIte, g3, g1, g2, g73, g74, g75, g12, g80, g81, g82, g13, g14, g16]
            refine ⟨hE9, hs9, by rw [hfa]; simpa using hA9, hC9, hd7, hcell9⟩
        clear g3 g1 g2 g73 g74 g75 g12 g80 g81 g82 g13 g14 g16 g98 hA9 hC9 hcell9 hs9 hd7 hE9 ho13
        rintro g w10 ⟨g3, g1, g2, g73, g74, g75, g12, g80, g81, g82, g14, g16, hE10, hs10, hA10, hC10, hd10, hcell10⟩
        obtain ⟨oa13, oc13, ho13⟩ := hA10.form
        simp only [VS, VD, SV, SL, T, Nat.reduceEqDiff, Nat.reduceAdd, Nat.reduceSub, Nat.reduceMul, Nat.reduceLeDiff, Nat.reduceLT, reduceIte, g12, g16, hcell10, AX]
        refine (in_spec _ bl (by omega) e1 w10 (hutn w10 hE10)).mono ?_
        rintro _ w11 ⟨rfl, hE11⟩
        replace hcell10 := hE11.obj hcell10
        replace hA10 := hA10.ext hE11
        replace hC10 := hC10.ext hE11
        have hs11 := Nat.le_trans hs10 hE11.size
        replace hE11 := hE10.trans hE11
        simp only [VS, VD, SV, SL, T, Nat.reduceEqDiff, Nat.reduceAdd, Nat.reduceSub, Nat.reduceMul, Nat.reduceLeDiff, Nat.reduceLT, reduceIte]
        generalize hv13 : g 13 = v13' at *
        refine YG_c (fun g' w12 => g' 3 = .agg #[.slice ba B.length bc, .slice pa PV.length pc] ∧ g' 1 = .slice (some ⟨lb, lo, none⟩) L.length lc ∧ g' 2 = .int .i64 x0 ∧ g' 73 = .slice (some ⟨lb, lo, none⟩) L.length lc ∧ g' 74 = .int .i64 L.length ∧ g' 75 = .int .i64 i ∧ g' 12 = .agg #[.int .i64 hd, .slice ua bl.length uc, .slice ua' lt.length uc', .int .i64 pr] ∧ g' 80 = .slice (some ⟨eb, eo, none⟩) Es.length ec ∧ g' 81 = .int .i64 Es.length ∧ g' 82 = .int .i64 j ∧ g' 13 = v13' ∧ g' 14 = v14 ∧ g' 16 = .pointer (some ⟨cb, 0, none⟩) ∧ g' 115 = .bool (exiB (hd, bl, lt, pr) (e1, e2)) ∧ Ext w11 w12) ?_ ?_
        · by_cases he : e1 ∈ bl
          · rw [decide_eq_true he]
            simp only [VS, VD, SV, SL, T, Nat.reduceEqDiff, Nat.reduceAdd, Nat.reduceSub, Nat.reduceMul, Nat.reduceLeDiff, Nat.reduceLT, reduceIte, g12, g16, hcell10, AX]
            refine (in_spec _ bl (by omega) e2 w11 (hutn w11 hE11)).mono ?_
            rintro _ w12 ⟨rfl, hE12⟩
            simp only [VS, VD, SV, SL, T, Nat.reduceEqDiff, Nat.reduceAdd, Nat.reduceSub, Nat.reduceMul, Nat.reduceLeDiff, Nat.reduceLT, reduceIte, g3, g1, g2, g73, g74, g75, g12, g80, g81, g82, hv13, g14, g16]
            exact ⟨by simp [exiB, he], hE12⟩
          · rw [decide_eq_false he]
            simp only [VS, VD, SV, SL, T, Nat.reduceEqDiff, Nat.reduceAdd, Nat.reduceSub, Nat.reduceMul, Nat.reduceLeDiff, Nat.reduceLT, reduceIte, g3, g1, g2, g73, g74, g75, g12, g80, g81, g82, hv13, g14, g16]
            exact ⟨by simp [exiB, he], Ext.refl _⟩
        clear g3 g1 g2 g73 g74 g75 g12 g80 g81 g82 g14 g16 hv13
        rintro g w12 ⟨g3, g1, g2, g73, g74, g75, g12, g80, g81, g82, g13, g14, g16, g115, hE12⟩
        replace hcell10 := hE12.obj hcell10
        replace hA10 := hA10.ext hE12
        replace hC10 := hC10.ext hE12
        have hs12 := Nat.le_trans hs11 hE12.size
        replace hE12 := hE11.trans hE12
        simp only [VS, VD, SV, SL, T, Nat.reduceEqDiff, Nat.reduceAdd, Nat.reduceSub, Nat.reduceMul, Nat.reduceLeDiff, Nat.reduceLT, reduceIte, g115]
        refine cnd_b (fun hen => ?_) (fun hen => ?_)
        · rw [hen, if_pos rfl] at hfc
          simp only [VS, VD, SV, SL, T, Nat.reduceEqDiff, Nat.reduceAdd, Nat.reduceSub, Nat.reduceMul, Nat.reduceLeDiff, Nat.reduceLT, reduceIte, g14, g16, hcell10, AX]
          rw [ho14]
          rw [ho14] at hC10 hnC hd10
          refine app_pair hC10 (by omega) hs12 e1 e2 ?_
          intro v' w13 ho13' hx13 hg13 hn13
          simp only [VS, VD, SV, SL, T, Nat.reduceEqDiff, Nat.reduceAdd, Nat.reduceSub, Nat.reduceMul, Nat.reduceLeDiff, Nat.reduceLT, reduceIte, g3, g1, g2, g73, g74, g75, g12, g80, g81, g82, g13]
          refine ⟨by omega, j + 1, ⟨by simp, by omega, hx13 w6 hE12 (Nat.le_refl _), Nat.le_trans hs12 hg13.size, pr_other hA10 hC10 hd10 hg13, by rw [hfc]; exact ho13', fun b hb h2 => ?_⟩, by omega⟩
          rcases hn13 b h2 with h3 | h3
          · exact hd10 b hb h3
          · have := (hA10.lt b hb).2; omega
        · rw [hen] at hfc
          simp only [VS, VD, SV, SL, T, Nat.reduceEqDiff, Nat.reduceAdd, Nat.reduceSub, Nat.reduceMul, Nat.reduceLeDiff, Nat.reduceLT, reduceIte, g3, g1, g2, g73, g74, g75, g12, g80, g81, g82, g13, g14]
          exact ⟨by omega, j + 1, ⟨by simp, by omega, hE12, hs12, hA10, by rw [hfc]; simpa using hC10, hd10⟩, by omega⟩
      · rw [decide_eq_false hjl]
        rw [List.take_of_length_le (by omega)] at hA hC
        simp only [VS, VD, SV, SL, T, Nat.reduceEqDiff, Nat.reduceAdd, Nat.reduceSub, Nat.reduceMul, Nat.reduceLeDiff, Nat.reduceLT, reduceIte, g3, g1, g2, g73, g74, g75, g12]
        exact ⟨hE7, hA, hC⟩
    clear g3 g1 g2 g73 g74 g75
    rintro g w7 ⟨g3, g1, g2, g73, g74, g75, g12, hE7, hA, hC⟩
    have hA' := hA.at
    have hC' := hC.at
    simp only [VS, VD, SV, SL, T, Nat.reduceEqDiff, Nat.reduceAdd, Nat.reduceSub, Nat.reduceMul, Nat.reduceLeDiff, Nat.reduceLT, reduceIte, g3, g12]
    refine (hEn _ (hd, bl, lt, pr) (by simp only []; omega) w7 (hG0.ext ((hE4.trans hE6).trans hE7)) (hLpv w7 hE7)).mono ?_
    rintro v8 w8 ⟨hP8, hE8⟩
    obtain ⟨xa, xc, rfl⟩ := hP8.form
    simp only [VS, VD, SV, SL, T, Nat.reduceEqDiff, Nat.reduceAdd, Nat.reduceSub, Nat.reduceMul, Nat.reduceLeDiff, Nat.reduceLT, reduceIte]
    have hlf : (Es.filter (entB (hd, bl, lt, pr))).length ≤ Es.length := List.length_filter_le _ _
    have hlf2 : (Es.filter (exiB (hd, bl, lt, pr))).length ≤ Es.length := List.length_filter_le _ _
    refine (same_spec _ _ _ _ (by omega) w8 hP8 (hA'.ext hE8)).mono ?_
    rintro _ w9 ⟨rfl, hE9⟩
    replace hE9 := hE8.trans hE9
    simp only [VS, VD, SV, SL, T, Nat.reduceEqDiff, Nat.reduceAdd, Nat.reduceSub, Nat.reduceMul, Nat.reduceLeDiff, Nat.reduceLT, reduceIte, dEq, Bool.not_true, g3, g12]
    refine (hEx _ (hd, bl, lt, pr) (by simp only []; omega) w9 (hG0.ext (((hE4.trans hE6).trans hE7).trans hE9)) (hLpv w9 (hE7.trans hE9))).mono ?_
    rintro v10 w10 ⟨hP10, hE10⟩
    obtain ⟨xa2, xc2, rfl⟩ := hP10.form
    simp only [VS, VD, SV, SL, T, Nat.reduceEqDiff, Nat.reduceAdd, Nat.reduceSub, Nat.reduceMul, Nat.reduceLeDiff, Nat.reduceLT, reduceIte]
    refine (same_spec _ _ _ _ (by omega) w10 hP10 ((hC'.ext hE9).ext hE10)).mono ?_
    rintro _ w11 ⟨rfl, hE11⟩
    simp only [VS, VD, SV, SL, T, Nat.reduceEqDiff, Nat.reduceAdd, Nat.reduceSub, Nat.reduceMul, Nat.reduceLeDiff, Nat.reduceLT, reduceIte, dEq, Bool.not_true, g3, g1, g2, g73, g74, g75]
    exact ⟨by omega, i + 1, ⟨by simp, by omega, (((hE6.trans hE7).trans hE9).trans hE10).trans hE11⟩, by omega⟩
  · rw [decide_eq_false hlt]
    simp only [VS, VD, SV, SL, T, Nat.reduceEqDiff, Nat.reduceAdd, Nat.reduceSub, Nat.reduceMul, Nat.reduceLeDiff, Nat.reduceLT, reduceIte]
    exact hΨ _ _ ⟨rfl, (hE1.trans hE4).trans hE⟩
end Go.Proofs.Ytlhlbiaibgmapaa

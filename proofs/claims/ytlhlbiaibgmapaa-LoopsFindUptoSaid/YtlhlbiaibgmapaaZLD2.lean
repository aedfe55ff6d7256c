/-
  The reference's Wrong and Contains: the walks.
-/
import Derived.Test.YtlhlbiaibgmapaaZLD1
import Derived.Test.YtlhlbiaibgmapaaZLPA
import Derived.Test.YtlhlbiaibgmapaaZGB2
set_option linter.unusedSimpArgs false
set_option linter.unusedVariables false
namespace Go.Proofs.Ytlhlbiaibgmapaa
open Go.W Go.RowKit
/-- what Wrong gives -/
def wrg (N : List (List Int)) : Int := match (edg 0 N).find? (badE N) with | some e => e.2 | none => -1
theorem wrg_at {N : List (List Int)} {a k : Nat} (ha : a < N.length) (hk : k < (sc N a).length) (hg : ∀ e ∈ edK N a k, badE N e = false) (hb : badE N ((a : Int), (sc N a)[k]) = true) : wrg N = (sc N a)[k] := by
  obtain ⟨R, hR⟩ := edK_pre (k := k + 1) ha
  rw [edK_snoc hk] at hR
  have h1 : (edK N a k).find? (badE N) = none := List.find?_eq_none.2 fun e he => by rw [hg e he]; decide
  unfold wrg
  rw [hR, List.append_assoc, List.find?_append, h1, Option.none_or, List.singleton_append, List.find?_cons_of_pos hb]
theorem wrg_none {N : List (List Int)} (hg : ∀ e ∈ edK N N.length 0, badE N e = false) : wrg N = -1 := by
  rw [edK_end] at hg
  unfold wrg
  rw [List.find?_eq_none.2 fun e he => by rw [hg e he]; decide]
theorem edg_skip {N : List (List Int)} {a k : Nat} (hr : rch N (-1) a = false) (hg : ∀ e ∈ edK N a 0, badE N e = false) : ∀ e ∈ edK N a k, badE N e = false := fun e he => by
  unfold edK at he hg
  rcases List.mem_append.1 he with he | he
  · exact hg e (List.mem_append.2 (.inl he))
  · obtain ⟨n, _, rfl⟩ := List.mem_map.1 he
    unfold badE isR
    simp only [Int.toNat_natCast, hr, Bool.false_and]
set_option maxRecDepth 10000 in
theorem Wrong_spec {N : List (List Int)} (hN : NOk N) (h0 : 0 < N.length) (hn : N.length ≤ 2000000) (hN2 : ∀ l ∈ N, l.length ≤ 2) (nv : Value) (w0 : World) (hNv : IntssAt w0 nv N) :
    VRet Try.prog 14 #[nv] w0 fun v w' => v = .int .i64 (wrg N) ∧ Ext w0 w' := by
  obtain ⟨na, nc, rfl⟩ := hNv.form'
  have hpo := psn_ord hN h0
  have hol := ord_le hN h0
  refine VRet_start T.mo ok14 rfl fun Ψ hΨ => ?_; simp only [vc14, rs14]
  simp only [VS, VD, SV, SL, T, Nat.reduceEqDiff, Nat.reduceAdd, Nat.reduceSub, Nat.reduceMul, Nat.reduceLeDiff, Nat.reduceLT, reduceIte]
  refine (rOrder_spec hN h0 hn hN2 _ w0 hNv).mono ?_
  rintro ov w1 ⟨hO, hE1⟩
  obtain ⟨oa, oc, rfl⟩ := hO.form
  have hpos := fun (x : Nat) (w : World) (hE : Ext w1 w) => position_spec (.slice oa (ord N).length oc) (ord N) (by omega) (x : Int) w (hO.ext hE)
  generalize hord : ord N = od at *
  simp only [VS, VD, SV, SL, T, Nat.reduceEqDiff, Nat.reduceAdd, Nat.reduceSub, Nat.reduceMul, Nat.reduceLeDiff, Nat.reduceLT, reduceIte]
  refine LoopP_intro (α := Nat) (fun a g w' => g 0 = .slice na N.length nc ∧ g 3 = .slice oa od.length oc ∧ g 4 = .int .i64 a ∧ a ≤ N.length ∧ Ext w1 w' ∧ ∀ e ∈ edK N a 0, badE N e = false) (fun a => N.length - a) 0 ?_ ?_
  · simp only [VS, VD, SV, SL, T, Nat.reduceEqDiff, Nat.reduceAdd, Nat.reduceSub, Nat.reduceMul, Nat.reduceLeDiff, Nat.reduceLT, reduceIte]
    exact ⟨rfl, Nat.zero_le _, Ext.refl _, fun e he => by simp [edK, edg] at he⟩
  rintro a g w' ⟨g0, g3, g4, ha, hE, hg⟩
  simp only [VS, VD, SV, SL, T, Nat.reduceEqDiff, Nat.reduceAdd, Nat.reduceSub, Nat.reduceMul, Nat.reduceLeDiff, Nat.reduceLT, reduceIte, g0, g4]
  by_cases hlt : (a : Int) < N.length
  · rw [decide_eq_true hlt]
    have ha' : a < N.length := by omega
    simp only [VS, VD, SV, SL, T, Nat.reduceEqDiff, Nat.reduceAdd, Nat.reduceSub, Nat.reduceMul, Nat.reduceLeDiff, Nat.reduceLT, reduceIte, g3, g4]
    refine (hpos a w' hE).mono ?_
    rintro _ w2 ⟨rfl, hE2⟩
    replace hE2 := hE.trans hE2
    cases hr : rch N (-1) a with
    | false =>
      have d1 : decide (psn od (a : Int) < 0) = true := by rw [hpo, hr]; rfl
      simp only [VS, VD, SV, SL, T, Nat.reduceEqDiff, Nat.reduceAdd, Nat.reduceSub, Nat.reduceMul, Nat.reduceLeDiff, Nat.reduceLT, reduceIte, d1, g0, g3, g4]
      refine ⟨by omega, a + 1, ⟨by simp, by omega, hE2, ?_⟩, by omega⟩
      rw [← edK_next ha']
      exact edg_skip hr hg
    | true =>
      have d1 : decide (psn od (a : Int) < 0) = false := by rw [hpo, hr, if_pos rfl]; exact decide_eq_false (by omega)
      simp only [VS, VD, SV, SL, T, Nat.reduceEqDiff, Nat.reduceAdd, Nat.reduceSub, Nat.reduceMul, Nat.reduceLeDiff, Nat.reduceLT, reduceIte, d1]
      have hsx : N[a]'ha' = sc N a := by unfold sc; rw [List.getD_eq_getElem?_getD, List.getElem?_eq_getElem ha']; rfl
      have hrl : (sc N a).length ≤ 2 := by rw [← hsx]; exact hN2 _ (List.getElem_mem ha')
      have hrng : ∀ m ∈ sc N a, 0 ≤ m ∧ m.toNat < N.length := fun m hm => hN.sc hm
      have hED : ∀ b : Nat, (b : Int) ∈ sc N a → ED N a b := fun b hb => hb
      obtain ⟨rb, ro, rcs, re, rfz, ur, rfl, hrb, hrc, hru⟩ := (hNv.ext (hE1.trans hE2)).get' (i := a) ha'
      rw [hsx] at hru
      have hre : RE N a := (re_iff hN h0 a).2 ((rch_iff hN h0 _ _).1 hr)
      have hsn := fun (k : Nat) (hk : k < (sc N a).length) => edK_snoc hk
      have hwr := fun (k : Nat) (hk : k < (sc N a).length) => wrg_at ha' hk
      have hnx := edK_next ha'
      generalize sc N a = row at *
      obtain ⟨ra, rc, rfl⟩ := hru.form
      refine LoopP_intro (α := Nat) (fun k g w' => g 0 = .slice (some ⟨rb, ro, none⟩) N.length nc ∧ g 3 = .slice oa od.length oc ∧ g 4 = .int .i64 a ∧ g 5 = .int .i64 k ∧ k ≤ row.length ∧ Ext w2 w' ∧ ∀ e ∈ edK N a k, badE N e = false) (fun k => row.length - k) 0 ?_ ?_
      · simp only [VS, VD, SV, SL, T, Nat.reduceEqDiff, Nat.reduceAdd, Nat.reduceSub, Nat.reduceMul, Nat.reduceLeDiff, Nat.reduceLT, reduceIte, g0, g3, g4]
        exact ⟨rfl, Nat.zero_le _, Ext.refl _, hg⟩
      clear g0 g3 g4
      rintro k g w' ⟨g0, g3, g4, g5, hk, hE3, hg3⟩
      have hrb' := hE3.obj hrb
      simp only [VS, VD, SV, SL, T, Nat.reduceEqDiff, Nat.reduceAdd, Nat.reduceSub, Nat.reduceMul, Nat.reduceLeDiff, Nat.reduceLT, reduceIte, g0, g4, g5, hrb', hrc, Int.toNat_natCast]
      refine ⟨by omega, ?_⟩
      by_cases hlk : (k : Int) < row.length
      · rw [decide_eq_true hlk]
        have hk' : k < row.length := by omega
        obtain ⟨bu, ou, cu, eu, fu, rfl, _, hbu, hcu⟩ := (hru.ext hE3).get (i := k) (x := row[k]) (by simp [hk'])
        have hmem := List.getElem_mem hk'
        obtain ⟨hy0, hy1⟩ := hrng _ hmem
        have hsk := hsn k hk'
        have hwk := hwr k hk' hg3
        generalize row[k] = y at *
        obtain ⟨b, rfl⟩ := Int.eq_ofNat_of_zero_le hy0
        simp only [Int.toNat_natCast] at hy1
        have hrb2 : rch N (-1) b = true := (rch_iff hN h0 _ _).2 (((re_iff hN h0 a).1 hre).step (hED b hmem) (by omega))
        have hbad : badE N ((a : Int), (b : Int)) = (decide (PO N b ≤ PO N a) && !rdom N b a) := by
          unfold badE isR
          simp only [Int.toNat_natCast, hr, Bool.true_and]
        simp only [VS, VD, SV, SL, T, Nat.reduceEqDiff, Nat.reduceAdd, Nat.reduceSub, Nat.reduceMul, Nat.reduceLeDiff, Nat.reduceLT, reduceIte, g0, g3, g4, g5, hrb', hrc, hbu, hcu, Int.toNat_natCast]
        refine ⟨by omega, by omega, ?_⟩
        refine (hpos b w' (hE2.trans hE3)).mono ?_
        rintro _ w3 ⟨rfl, hE4⟩
        simp only [VS, VD, SV, SL, T, Nat.reduceEqDiff, Nat.reduceAdd, Nat.reduceSub, Nat.reduceMul, Nat.reduceLeDiff, Nat.reduceLT, reduceIte, g3, g4]
        refine (hpos a w3 (hE2.trans (hE3.trans hE4))).mono ?_
        rintro _ w4 ⟨rfl, hE5⟩
        replace hE5 := hE3.trans (hE4.trans hE5)
        clear hE4
        have hle : (psn od (b : Int) ≤ psn od (a : Int)) ↔ PO N b ≤ PO N a := by
          rw [hpo, hpo, if_pos hrb2, if_pos hr]
          omega
        by_cases hP : PO N b ≤ PO N a
        · have d2 : decide (psn od (b : Int) ≤ psn od (a : Int)) = true := decide_eq_true (hle.2 hP)
          rw [decide_eq_true hP, Bool.true_and] at hbad
          simp only [VS, VD, SV, SL, T, Nat.reduceEqDiff, Nat.reduceAdd, Nat.reduceSub, Nat.reduceMul, Nat.reduceLeDiff, Nat.reduceLT, reduceIte, d2, g0, g4]
          refine (rDominates_spec hN h0 hn hN2 _ b a hy1 ha' w4 (hNv.ext (hE1.trans (hE2.trans hE5)))).mono ?_
          rintro _ w5 ⟨rfl, hE6⟩
          cases hD : rdom N b a with
          | false =>
            rw [hD, Bool.not_false] at hbad
            simp only [VS, VD, SV, SL, T, Nat.reduceEqDiff, Nat.reduceAdd, Nat.reduceSub, Nat.reduceMul, Nat.reduceLeDiff, Nat.reduceLT, reduceIte, Bool.not_false]
            refine hΨ _ _ ⟨?_, hE1.trans (hE2.trans (hE5.trans hE6))⟩
            rw [hwk hbad]
          | true =>
            rw [hD, Bool.not_true] at hbad
            simp only [VS, VD, SV, SL, T, Nat.reduceEqDiff, Nat.reduceAdd, Nat.reduceSub, Nat.reduceMul, Nat.reduceLeDiff, Nat.reduceLT, reduceIte, Bool.not_true, g0, g3, g4, g5]
            refine ⟨by omega, k + 1, ⟨by simp, by omega, hE5.trans hE6, ?_⟩, by omega⟩
            rw [hsk]
            intro e he
            rcases List.mem_append.1 he with he | he
            · exact hg3 e he
            · rw [List.mem_singleton.1 he]
              exact hbad
        · have d2 : decide (psn od (b : Int) ≤ psn od (a : Int)) = false := decide_eq_false fun h => hP (hle.1 h)
          rw [decide_eq_false hP, Bool.false_and] at hbad
          simp only [VS, VD, SV, SL, T, Nat.reduceEqDiff, Nat.reduceAdd, Nat.reduceSub, Nat.reduceMul, Nat.reduceLeDiff, Nat.reduceLT, reduceIte, d2, g0, g3, g4, g5]
          refine ⟨by omega, k + 1, ⟨by simp, by omega, hE5, ?_⟩, by omega⟩
          rw [hsk]
          intro e he
          rcases List.mem_append.1 he with he | he
          · exact hg3 e he
          · rw [List.mem_singleton.1 he]
            exact hbad
      · rw [decide_eq_false hlk]
        obtain rfl : k = row.length := by omega
        simp only [VS, VD, SV, SL, T, Nat.reduceEqDiff, Nat.reduceAdd, Nat.reduceSub, Nat.reduceMul, Nat.reduceLeDiff, Nat.reduceLT, reduceIte, g0, g3, g4]
        exact ⟨by omega, a + 1, ⟨by simp, by omega, hE2.trans hE3, by rw [← hnx]; exact hg3⟩, by omega⟩
  · rw [decide_eq_false hlt]
    obtain rfl : a = N.length := by omega
    simp only [VS, VD, SV, SL, T, Nat.reduceEqDiff, Nat.reduceAdd, Nat.reduceSub, Nat.reduceMul, Nat.reduceLeDiff, Nat.reduceLT, reduceIte]
    exact hΨ _ _ ⟨by rw [wrg_none hg], hE1.trans hE⟩
/-- the reference's Contains -/
def rcnt (x o : Lp) : Bool := decide (∀ b ∈ o.2.1, b ∈ x.2.1) && !decide (x.1 = o.1)
set_option maxRecDepth 10000 in
theorem rContains_spec (x o : Lp) (u u' v v' : Value) (hx : x.2.1.length ≤ 100000000) (ho : o.2.1.length ≤ 100000000) (w0 : World) (hu : IntsAt w0 u x.2.1) (hv : IntsAt w0 v o.2.1) :
    VRet Try.prog 39 #[.agg #[.int .i64 x.1, u, u', .int .i64 x.2.2.2], .agg #[.int .i64 o.1, v, v', .int .i64 o.2.2.2]] w0 fun r w' => r = .bool (rcnt x o) ∧ Ext w0 w' := by
  obtain ⟨xh, xl, xt, xp⟩ := x
  obtain ⟨oh, ol, ot, op⟩ := o
  simp only [] at hu hv hx ho ⊢
  obtain ⟨ua, uc, rfl⟩ := hu.form
  obtain ⟨va, vc, rfl⟩ := hv.form
  refine VRet_start T.mo ok39 rfl fun Ψ hΨ => ?_; simp only [vc39, rs39]
  simp only [VS, VD, SV, SL, T, Nat.reduceEqDiff, Nat.reduceAdd, Nat.reduceSub, Nat.reduceMul, Nat.reduceLeDiff, Nat.reduceLT, reduceIte]
  generalize hwt : (w0.alloc tomb).alloc tomb = w1 at *
  have hE1 : Ext w0 w1 := hwt ▸ ((Ext.refl w0).alloc tomb).alloc tomb
  refine LoopP_intro (α := Nat) (fun i g w' => g 2 = .agg #[.int .i64 xh, .slice ua xl.length uc, u', .int .i64 xp] ∧ g 3 = .agg #[.int .i64 oh, .slice va ol.length vc, v', .int .i64 op] ∧ g 5 = .int .i64 i ∧ i ≤ ol.length ∧ Ext w1 w' ∧ ∀ b ∈ ol.take i, b ∈ xl) (fun i => ol.length - i) 0 ?_ ?_
  · simp only [VS, VD, SV, SL, T, Nat.reduceEqDiff, Nat.reduceAdd, Nat.reduceSub, Nat.reduceMul, Nat.reduceLeDiff, Nat.reduceLT, reduceIte]
    exact ⟨rfl, Nat.zero_le _, Ext.refl _, fun b hb => by simp at hb⟩
  rintro i g w' ⟨g2, g3, g5, hi, hE, hall⟩
  simp only [VS, VD, SV, SL, T, Nat.reduceEqDiff, Nat.reduceAdd, Nat.reduceSub, Nat.reduceMul, Nat.reduceLeDiff, Nat.reduceLT, reduceIte, g3, g5]
  by_cases hlt : (i : Int) < ol.length
  · rw [decide_eq_true hlt]
    have hi' : i < ol.length := by omega
    obtain ⟨bb, bo, bcs, be, bfz, rfl, _, hbb, hbc⟩ := (hv.ext (hE1.trans hE)).get (i := i) (x := ol[i]) (by simp)
    simp only [VS, VD, SV, SL, T, Nat.reduceEqDiff, Nat.reduceAdd, Nat.reduceSub, Nat.reduceMul, Nat.reduceLeDiff, Nat.reduceLT, reduceIte]
    refine DW_intro (fun _ _ _ _ => True) ?_
    simp only [VS, VD, SV, SL, T, Nat.reduceEqDiff, Nat.reduceAdd, Nat.reduceSub, Nat.reduceMul, Nat.reduceLeDiff, Nat.reduceLT, reduceIte, g2, g3, g5, hbb, hbc, Int.toNat_natCast]
    refine ⟨by omega, ?_⟩
    intro w2 hE2 hF
    simp only [VS, VD, SV, SL, T, Nat.reduceEqDiff, Nat.reduceAdd, Nat.reduceSub, Nat.reduceMul, Nat.reduceLeDiff, Nat.reduceLT, reduceIte]
    refine (position_spec _ xl hx ol[i] w2 (hu.ext ((hE1.trans hE).trans hE2))).mono ?_
    rintro _ w3 ⟨rfl, hE3⟩
    by_cases hm : ol[i] ∈ xl
    · have d1 : decide (psn xl ol[i] < 0) = false := decide_eq_false fun h => psn_neg.1 h hm
      simp only [VS, VD, SV, SL, T, Nat.reduceEqDiff, Nat.reduceAdd, Nat.reduceSub, Nat.reduceMul, Nat.reduceLeDiff, Nat.reduceLT, reduceIte, d1, g2, g3, g5]
      refine ⟨by omega, i + 1, ⟨by simp, by omega, (hE.trans hE2).trans hE3, ?_⟩, by omega⟩
      rw [List.take_succ_eq_append_getElem hi']
      intro b hb
      rcases List.mem_append.1 hb with hb | hb
      · exact hall b hb
      · rw [List.mem_singleton.1 hb]
        exact hm
    · have d1 : decide (psn xl ol[i] < 0) = true := decide_eq_true (psn_neg.2 hm)
      simp only [VS, VD, SV, SL, T, Nat.reduceEqDiff, Nat.reduceAdd, Nat.reduceSub, Nat.reduceMul, Nat.reduceLeDiff, Nat.reduceLT, reduceIte, d1]
      refine hΨ _ _ ⟨?_, hE1.trans ((hE.trans hE2).trans hE3)⟩
      unfold rcnt
      simp only []
      rw [decide_eq_false fun h => hm (h _ (List.getElem_mem hi')), Bool.false_and]
  · rw [decide_eq_false hlt]
    rw [List.take_of_length_le (by omega)] at hall
    simp only [VS, VD, SV, SL, T, Nat.reduceEqDiff, Nat.reduceAdd, Nat.reduceSub, Nat.reduceMul, Nat.reduceLeDiff, Nat.reduceLT, reduceIte, g2, g3]
    refine hΨ _ _ ⟨?_, hE1.trans hE⟩
    unfold rcnt
    simp only []
    rw [decide_eq_true hall, Bool.true_and]
    by_cases e : xh = oh
    · rw [decide_eq_true e]
      simp [e]
    · rw [decide_eq_false e]
      simp [e]
end Go.Proofs.Ytlhlbiaibgmapaa

/-
  MustMerges.
-/
import Derived.Test.YtehmbpkcbmnfnaaZCV5
set_option linter.unusedSimpArgs false
set_option linter.unusedVariables false
namespace Go.Proofs.Ytehmbpkcbmnfnaa
open Go.W Go.RowKit
open C (dst stS addH hitS ptr CacheAt Mv)
/-- two caches that lie apart, above a block number -/
structure Two (n : Nat) (w : World) (F G : Nat → Prop) (p q : Nat) (s y l : Int) (H K : Nat → List Int) : Prop where
  cx : CacheAt w F p s y l (stS s y H)
  cy : CacheAt w G q s y l (stS s y K)
  apart : ∀ b, G b → ¬ F b
  fx : ∀ b, F b → n ≤ b
  fy : ∀ b, G b → n ≤ b
abbrev U2 (F G : Nat → Prop) : Nat → Prop := fun b => F b ∨ G b
theorem Two.ext {n : Nat} {w w' : World} {F G : Nat → Prop} {p q : Nat} {s y l : Int} {H K : Nat → List Int} (h : Two n w F G p q s y l H K) (hE : Ext w w') : Two n w' F G p q s y l H K := ⟨h.cx.ext hE, h.cy.ext hE, h.apart, h.fx, h.fy⟩
theorem Two.lt {n : Nat} {w : World} {F G : Nat → Prop} {p q : Nat} {s y l : Int} {H K : Nat → List Int} (h : Two n w F G p q s y l H K) : ∀ b, U2 F G b → b < w.heap.size := fun b hb => hb.elim (h.cx.lt b) (h.cy.lt b)
theorem mv_left {F F' G : Nat → Prop} {w w' : World} (h : Mv F w F' w') : Mv (U2 F G) w (U2 F' G) w' :=
  ⟨⟨h.1.os, h.1.tape, h.1.output, h.1.size, fun b hb hn => h.1.get b hb fun hf => hn (.inl hf)⟩, fun b hb => hb.elim (fun hf => (h.2 b hf).elim (fun h => .inl (.inl h)) .inr) fun hg => .inl (.inr hg)⟩
theorem mv_right {F G G' : Nat → Prop} {w w' : World} (h : Mv G w G' w') : Mv (U2 F G) w (U2 F G') w' :=
  ⟨⟨h.1.os, h.1.tape, h.1.output, h.1.size, fun b hb hn => h.1.get b hb fun hf => hn (.inr hf)⟩, fun b hb => hb.elim (fun hf => .inl (.inl hf)) fun hg => (h.2 b hg).elim (fun h => .inl (.inr h)) .inr⟩
theorem two_x {w0 w : World} {F G : Nat → Prop} {p q : Nat} {s y l : Int} {H K : Nat → List Int} (hg : Geo s y l = true) (hE : Ext w0 w) (h : Two w0.heap.size w F G p q s y l H K) (a : Int) (ha : a ≤ 9223372036854775807) :
    VRet Try.prog 32 #[ptr p, .int .i64 a] w fun v w' => (∃ r : Bool, v = .bool r) ∧ ∃ F', Two w0.heap.size w' F' G p q s y l (addH s l H a) K ∧ Per (hid (U2 F G) w) (hid (U2 F' G) w') ∧ Ext w0 w' := by
  refine (C.Access_mv hg h.cx a ha).mono ?_
  rintro v w' ⟨rfl, F', hC, hm⟩
  obtain ⟨h1, h2⟩ := hm.other h.cy h.apart
  exact ⟨⟨_, rfl⟩, F', ⟨hC, h1, h2, hm.above hE.size h.fx, h.fy⟩, mv_hid (mv_left hm), hm.ext hE h.fx⟩
theorem two_y {w0 w : World} {F G : Nat → Prop} {p q : Nat} {s y l : Int} {H K : Nat → List Int} (hg : Geo s y l = true) (hE : Ext w0 w) (h : Two w0.heap.size w F G p q s y l H K) (a : Int) (ha : a ≤ 9223372036854775807) :
    VRet Try.prog 32 #[ptr q, .int .i64 a] w fun v w' => (∃ r : Bool, v = .bool r) ∧ ∃ G', Two w0.heap.size w' F G' p q s y l H (addH s l K a) ∧ Per (hid (U2 F G) w) (hid (U2 F G') w') ∧ Ext w0 w' := by
  refine (C.Access_mv hg h.cy a ha).mono ?_
  rintro v w' ⟨rfl, G', hC, hm⟩
  obtain ⟨h1, h2⟩ := hm.other h.cx (fun b hf hg => h.apart b hg hf)
  exact ⟨⟨_, rfl⟩, G', ⟨h1, hC, fun b hg hf => h2 b hf hg, h.fx, hm.above hE.size h.fy⟩, mv_hid (mv_right hm), hm.ext hE h.fy⟩
set_option maxHeartbeats 2000000 in
set_option maxRecDepth 100000 in
theorem MustMerges_spec (s y l : Int) (av : Value) (A : List Op) (bv : Value) (B : List Op) (lv : Value) (Q : List Op) (w : World) (ha : OpsAt w av A) (hAM : OpsOk A) (hb : OpsAt w bv B) (hBM : OpsOk B) (h : OpsAt w lv Q) (hQM : OpsOk Q) :
    VRet Try.prog 10 #[cfgV s y l, av, bv, lv] w fun v w' => v = .bool true ∧ Ext w w' := by
  obtain ⟨aa, ac, rfl⟩ := ha.form
  obtain ⟨ba, bc, rfl⟩ := hb.form
  obtain ⟨la, lc, rfl⟩ := h.form
  refine VRet_start T.mo ok10 rfl fun Ψ hΨ => ?_; simp only [vc10, rs10]
  simp only [VS, VD, SV, SL, T, Nat.reduceEqDiff, Nat.reduceAdd, Nat.reduceSub, Nat.reduceMul, Nat.reduceLeDiff, Nat.reduceLT, reduceIte, cfgV]
  refine (awake_spec _).mono ?_
  rintro _ w1 ⟨rfl, hE⟩
  replace hE := ((Ext.refl w).alloc tomb).trans hE
  simp only [VS, VD, SV, SL, T, Nat.reduceEqDiff, Nat.reduceAdd, Nat.reduceSub, Nat.reduceMul, Nat.reduceLeDiff, Nat.reduceLT, reduceIte]
  refine (states_spec s y l _ _ A B hAM.1 hBM.1 _ (ha.ext hE) (hb.ext hE)).mono ?_
  rintro _ w2 ⟨⟨va, vb, r, rfl, ⟨sa, na, ca, s1, y1, l1, rfl⟩, ⟨sb, nb, cb, s2, y2, l2, rfl⟩, hr, hm⟩, hE2⟩
  replace hE := hE.trans hE2
  simp only [VS, VD, SV, SL, T, Nat.reduceEqDiff, Nat.reduceAdd, Nat.reduceSub, Nat.reduceMul, Nat.reduceLeDiff, Nat.reduceLT, reduceIte, muV]
  replace hE := (hE.alloc tomb).alloc tomb
  cases r with
  | false =>
    simp only [VS, VD, SV, SL, T, Nat.reduceEqDiff, Nat.reduceAdd, Nat.reduceSub, Nat.reduceMul, Nat.reduceLeDiff, Nat.reduceLT, reduceIte]
    exact hΨ _ _ ⟨rfl, hE⟩
  | true =>
    obtain ⟨hv, hAL, hBL⟩ := hr.1 rfl
    have hmn := hm rfl
    clear hm
    obtain ⟨hm, hn⟩ := hmn
    have hp := Geo_spec hv
    replace hm := hm.ext (((Ext.refl w2).alloc tomb).alloc tomb)
    replace hn := hn.ext (((Ext.refl w2).alloc tomb).alloc tomb)
    generalize (w2.alloc tomb).alloc tomb = w3 at *
    obtain ⟨b0, o0, c0, e0⟩ := hm.form
    simp only [muV, Value.agg.injEq] at e0
    simp only [Array.mk.injEq, List.cons.injEq, Value.int.injEq, true_and, and_true, Value.slice.injEq] at e0
    obtain ⟨rfl, rfl, rfl, rfl, rfl, rfl⟩ := e0
    obtain ⟨b0', o0', c0', e0⟩ := hn.form
    simp only [muV, Value.agg.injEq] at e0
    simp only [Array.mk.injEq, List.cons.injEq, Value.int.injEq, true_and, and_true, Value.slice.injEq] at e0
    obtain ⟨rfl, rfl, rfl, rfl, rfl, rfl⟩ := e0
    simp only [VS, VD, SV, SL, T, Nat.reduceEqDiff, Nat.reduceAdd, Nat.reduceSub, Nat.reduceMul, Nat.reduceLeDiff, Nat.reduceLT, reduceIte]
    refine (great_spec _ Q hQM.1 _ (h.ext hE)).mono ?_
    rintro _ w4 ⟨⟨r, rfl, hr⟩, hE4⟩
    replace hE := hE.trans hE4
    replace hm := hm.ext hE4
    replace hn := hn.ext hE4
    cases r with
    | true =>
      simp only [VS, VD, SV, SL, T, Nat.reduceEqDiff, Nat.reduceAdd, Nat.reduceSub, Nat.reduceMul, Nat.reduceLeDiff, Nat.reduceLT, reduceIte]
      exact hΨ _ _ ⟨rfl, hE⟩
    | false =>
      have hQL := hr.1 rfl
      simp only [VS, VD, SV, SL, T, Nat.reduceEqDiff, Nat.reduceAdd, Nat.reduceSub, Nat.reduceMul, Nat.reduceLeDiff, Nat.reduceLT, reduceIte]
      refine (C.New_spec s2 y2 l2 _).mono ?_
      rintro v5 w5 (⟨hg, _⟩ | ⟨_, p, rfl, hC, hE5⟩)
      · rw [hv] at hg; cases hg
      simp only [VS, VD, SV, SL, T, Nat.reduceEqDiff, Nat.reduceAdd, Nat.reduceSub, Nat.reduceMul, Nat.reduceLeDiff, Nat.reduceLT, reduceIte]
      refine (C.New_spec s2 y2 l2 _).mono ?_
      rintro v6 w6 (⟨hg, _⟩ | ⟨_, q, rfl, hD, hE6⟩)
      · rw [hv] at hg; cases hg
      rw [show List.replicate s2.toNat [] = stS s2 y2 fun _ => [] from C.emp_stS s2 y2] at hC hD
      have hT : Two w.heap.size w6 (fun b => w4.heap.size ≤ b ∧ b < w5.heap.size) (fun b => w5.heap.size ≤ b ∧ b < w6.heap.size) p q s2 y2 l2 (fun _ => []) (fun _ => []) :=
        ⟨hC.ext hE6, hD, fun b hb hf => by omega, fun b hb => Nat.le_trans hE.size hb.1, fun b hb => Nat.le_trans (hE.trans hE5).size hb.1⟩
      have hE56 := hE5.trans hE6
      have hpn := hid_new (F := U2 (fun b => w4.heap.size ≤ b ∧ b < w5.heap.size) (fun b => w5.heap.size ≤ b ∧ b < w6.heap.size)) hE56 (fun b hb => hb.elim (fun h => h.1) (fun h => Nat.le_trans hE5.size h.1))
      replace hm := hm.per hpn
      replace hn := hn.per hpn
      replace hE := hE.trans hE56
      clear hC hD hpn
      have hlA := hAL.1
      have hlB := hBL.1
      have hlQ := hQL.1
      simp only [VS, VD, SV, SL, T, Nat.reduceEqDiff, Nat.reduceAdd, Nat.reduceSub, Nat.reduceMul, Nat.reduceLeDiff, Nat.reduceLT, reduceIte, muV]
      refine loop_cB (fun f' w' => f' 2 = .slice ba B.length bc ∧ f' 3 = .slice la Q.length lc ∧ f' 4 = .agg #[.int .i64 s2, .int .i64 y2, .int .i64 l2] ∧ f' 9 = muV s2 y2 l2 (.slice (some ⟨b0, o0, none⟩) s2.toNat ca) ∧ f' 10 = muV s2 y2 l2 (.slice (some ⟨b0', o0', none⟩) s2.toNat cb) ∧ f' 12 = ptr p ∧ f' 14 = ptr q ∧ Ext w w' ∧
        ∃ F G H, Two w.heap.size w' F G p q s2 y2 l2 H (fun _ => []) ∧ MuK (hid (U2 F G) w') (muV s2 y2 l2 (.slice (some ⟨b0, o0, none⟩) s2.toNat ca)) s2 y2 l2 (runU s2 y2 emU A) ∧ MuK (hid (U2 F G) w') (muV s2 y2 l2 (.slice (some ⟨b0', o0', none⟩) s2.toNat cb)) s2 y2 l2 (runU s2 y2 emU B) ∧ Hok s2 H ∧ DesU s2 (runU s2 y2 emU A) H) ?_ ?_
      · refine LoopP_intro (α := Nat) (fun i f' w' => f' 2 = .slice ba B.length bc ∧ f' 3 = .slice la Q.length lc ∧ f' 4 = .agg #[.int .i64 s2, .int .i64 y2, .int .i64 l2] ∧ f' 9 = muV s2 y2 l2 (.slice (some ⟨b0, o0, none⟩) s2.toNat ca) ∧ f' 10 = muV s2 y2 l2 (.slice (some ⟨b0', o0', none⟩) s2.toNat cb) ∧ f' 12 = ptr p ∧ f' 14 = ptr q ∧ f' 52 = .slice aa A.length ac ∧ f' 53 = .int .i64 A.length ∧ f' 54 = .int .i64 i ∧ i ≤ A.length ∧ Ext w w' ∧
          ∃ F G H, Two w.heap.size w' F G p q s2 y2 l2 H (fun _ => []) ∧ MuK (hid (U2 F G) w') (muV s2 y2 l2 (.slice (some ⟨b0, o0, none⟩) s2.toNat ca)) s2 y2 l2 (runU s2 y2 emU A) ∧ MuK (hid (U2 F G) w') (muV s2 y2 l2 (.slice (some ⟨b0', o0', none⟩) s2.toNat cb)) s2 y2 l2 (runU s2 y2 emU B) ∧ Hok s2 H ∧ DesU s2 (runU s2 y2 emU (A.take i)) H) (fun i => A.length - i) 0 ?_ ?_
        · simp only [VS, VD, SV, SL, T, Nat.reduceEqDiff, Nat.reduceAdd, Nat.reduceSub, Nat.reduceMul, Nat.reduceLeDiff, Nat.reduceLT, reduceIte, muV]
          exact ⟨rfl, Nat.zero_le _, hE, _, _, _, hT, hm, hn, fun i k hk => by simp at hk, DesU_em _ _⟩
        · clear hm hn hT hE
          rintro i f' wo ⟨f2, f3, f4, f9, f10, f12, f14, f52, f53, f54, hi, hEx, F, G, H, hT, hm, hn, hH, hD⟩
          simp only [VS, VD, SV, SL, T, Nat.reduceEqDiff, Nat.reduceAdd, Nat.reduceSub, Nat.reduceMul, Nat.reduceLeDiff, Nat.reduceLT, reduceIte, f54, f53]
          refine cnd_d (fun hlt => ?_) (fun hlt => ?_)
          · have hi' : i < A.length := by omega
            obtain ⟨b, off, cs, e, fz, rfl, hbk, hle2, hext⟩ := (ha.ext hEx).get hi'
            have hop := hAL.2 _ (List.getElem_mem hi')
            have hok := hAM.2 _ (List.getElem_mem hi')
            have hS := runU_snoc s2 y2 emU (A.take i) A[i]
            rw [← List.take_succ_eq_append_getElem hi'] at hS
            have hbd := runU_bd (s := s2) hp.2.2.1 (A.take i) (Bd_em y2)
            unfold OpL at hop
            unfold OpOk at hok
            generalize A[i] = x at *
            have hD' := hD.do hv hbd (lo := x.lo) (hi := x.hi) (p := x.pick) (by omega)
            rw [← hS] at hD'
            have hH' := Hok.accH hv hH (lineM x.lo x.hi x.pick)
            have hln : ∀ n, lineM x.lo x.hi x.pick = some n → 0 ≤ n ∧ n ≤ 1000 := fun n hn => by have := lineM_in (by omega) hn; omega
            simp only [VS, VD, SV, SL, T, Nat.reduceEqDiff, Nat.reduceAdd, Nat.reduceSub, Nat.reduceMul, Nat.reduceLeDiff, Nat.reduceLT, reduceIte, f52, f54, Int.toNat_natCast, hbk, hle2, hext]
            refine ⟨by omega, ?_⟩
            refine (line_spec x.lo x.hi x.pick (by omega) (by omega) _).mono ?_
            rintro _ w9 ⟨rfl, hE9⟩
            replace hE9 := ((Ext.refl wo).alloc tomb).trans hE9
            replace hT := hT.ext hE9
            replace hm := hm.per (hid_ext (F := U2 F G) hE9)
            replace hn := hn.per (hid_ext (F := U2 F G) hE9)
            replace hEx := hEx.trans hE9
            cases hq : lineM x.lo x.hi x.pick with
            | none =>
              rw [hq] at hD' hH'
              have z : decide (0 ≤ (-1 : Int)) = false := rfl
              simp only [VS, VD, SV, SL, T, Nat.reduceEqDiff, Nat.reduceAdd, Nat.reduceSub, Nat.reduceMul, Nat.reduceLeDiff, Nat.reduceLT, reduceIte, Option.getD_none, z, f54]
              exact ⟨by omega, i + 1, ⟨f2, f3, f4, f9, f10, f12, f14, f52, f53, by simp, by omega, hEx, F, G, H, hT, hm, hn, hH', hD'⟩, by omega⟩
            | some n =>
              rw [hq] at hD' hH'
              have hnn := hln n hq
              have hnl : 0 ≤ n * l2 ∧ n * l2 ≤ 1600000 := ⟨Int.mul_nonneg hnn.1 (by omega), Int.mul_le_mul (show n ≤ 100000 by omega) (show l2 ≤ 16 by omega) (by omega) (by omega)⟩
              have z : decide (0 ≤ n) = true := decide_eq_true hnn.1
              simp only [VS, VD, SV, SL, T, Nat.reduceEqDiff, Nat.reduceAdd, Nat.reduceSub, Nat.reduceMul, Nat.reduceLeDiff, Nat.reduceLT, reduceIte, Option.getD_some, z, f12, f4]
              refine ⟨by omega, ?_⟩
              refine (two_x hv hEx hT (n * l2) (by omega)).mono ?_
              rintro _ w10 ⟨⟨r, rfl⟩, F', hT', hpe, hE'⟩
              simp only [VS, VD, SV, SL, T, Nat.reduceEqDiff, Nat.reduceAdd, Nat.reduceSub, Nat.reduceMul, Nat.reduceLeDiff, Nat.reduceLT, reduceIte, f54]
              exact ⟨by omega, i + 1, ⟨f2, f3, by rw [f4], f9, f10, f12, f14, f52, f53, by simp, by omega, hE', F', G, _, hT', hm.per hpe, hn.per hpe, hH', hD'⟩, by omega⟩
          · rw [List.take_of_length_le (by omega)] at hD
            simp only [VS, VD, SV, SL, T, Nat.reduceEqDiff, Nat.reduceAdd, Nat.reduceSub, Nat.reduceMul, Nat.reduceLeDiff, Nat.reduceLT, reduceIte]
            exact ⟨f2, f3, f4, f9, f10, f12, f14, hEx, F, G, H, hT, hm, hn, hH, hD⟩
      clear hm hn hT hE hE56 hE5 hE6
      rintro f0 w7 ⟨f2, f3, f4, f9, f10, f12, f14, hE, F, G, H, hT, hm, hn, hH, hD⟩
      simp only [VS, VD, SV, SL, T, Nat.reduceEqDiff, Nat.reduceAdd, Nat.reduceSub, Nat.reduceMul, Nat.reduceLeDiff, Nat.reduceLT, reduceIte, f2]
      refine loop_cB (fun f' w' => f' 3 = .slice la Q.length lc ∧ f' 4 = .agg #[.int .i64 s2, .int .i64 y2, .int .i64 l2] ∧ f' 9 = muV s2 y2 l2 (.slice (some ⟨b0, o0, none⟩) s2.toNat ca) ∧ f' 10 = muV s2 y2 l2 (.slice (some ⟨b0', o0', none⟩) s2.toNat cb) ∧ f' 12 = ptr p ∧ f' 14 = ptr q ∧ Ext w w' ∧
        ∃ G K, Two w.heap.size w' F G p q s2 y2 l2 H K ∧ MuK (hid (U2 F G) w') (muV s2 y2 l2 (.slice (some ⟨b0, o0, none⟩) s2.toNat ca)) s2 y2 l2 (runU s2 y2 emU A) ∧ MuK (hid (U2 F G) w') (muV s2 y2 l2 (.slice (some ⟨b0', o0', none⟩) s2.toNat cb)) s2 y2 l2 (runU s2 y2 emU B) ∧ Hok s2 K ∧ DesU s2 (runU s2 y2 emU B) K) ?_ ?_
      · refine LoopP_intro (α := Nat) (fun i f' w' => f' 3 = .slice la Q.length lc ∧ f' 4 = .agg #[.int .i64 s2, .int .i64 y2, .int .i64 l2] ∧ f' 9 = muV s2 y2 l2 (.slice (some ⟨b0, o0, none⟩) s2.toNat ca) ∧ f' 10 = muV s2 y2 l2 (.slice (some ⟨b0', o0', none⟩) s2.toNat cb) ∧ f' 12 = ptr p ∧ f' 14 = ptr q ∧ f' 69 = .slice ba B.length bc ∧ f' 70 = .int .i64 B.length ∧ f' 71 = .int .i64 i ∧ i ≤ B.length ∧ Ext w w' ∧
          ∃ G K, Two w.heap.size w' F G p q s2 y2 l2 H K ∧ MuK (hid (U2 F G) w') (muV s2 y2 l2 (.slice (some ⟨b0, o0, none⟩) s2.toNat ca)) s2 y2 l2 (runU s2 y2 emU A) ∧ MuK (hid (U2 F G) w') (muV s2 y2 l2 (.slice (some ⟨b0', o0', none⟩) s2.toNat cb)) s2 y2 l2 (runU s2 y2 emU B) ∧ Hok s2 K ∧ DesU s2 (runU s2 y2 emU (B.take i)) K) (fun i => B.length - i) 0 ?_ ?_
        · simp only [VS, VD, SV, SL, T, Nat.reduceEqDiff, Nat.reduceAdd, Nat.reduceSub, Nat.reduceMul, Nat.reduceLeDiff, Nat.reduceLT, reduceIte, f3, f4, f9, f10, f12, f14]
          exact ⟨rfl, Nat.zero_le _, hE, _, _, hT, hm, hn, fun i k hk => by simp at hk, DesU_em _ _⟩
        · clear hm hn hT hE f2 f3 f4 f9 f10 f12 f14
          rintro i f' wo ⟨f3, f4, f9, f10, f12, f14, f69, f70, f71, hi, hEx, G, K, hT, hm, hn, hK, hDK⟩
          simp only [VS, VD, SV, SL, T, Nat.reduceEqDiff, Nat.reduceAdd, Nat.reduceSub, Nat.reduceMul, Nat.reduceLeDiff, Nat.reduceLT, reduceIte, f71, f70]
          refine cnd_d (fun hlt => ?_) (fun hlt => ?_)
          · have hi' : i < B.length := by omega
            obtain ⟨b, off, cs, e, fz, rfl, hbk, hle2, hext⟩ := (hb.ext hEx).get hi'
            have hop := hBL.2 _ (List.getElem_mem hi')
            have hok := hBM.2 _ (List.getElem_mem hi')
            have hS := runU_snoc s2 y2 emU (B.take i) B[i]
            rw [← List.take_succ_eq_append_getElem hi'] at hS
            have hbd := runU_bd (s := s2) hp.2.2.1 (B.take i) (Bd_em y2)
            unfold OpL at hop
            unfold OpOk at hok
            generalize B[i] = x at *
            have hD' := hDK.do hv hbd (lo := x.lo) (hi := x.hi) (p := x.pick) (by omega)
            rw [← hS] at hD'
            have hH' := Hok.accH hv hK (lineM x.lo x.hi x.pick)
            have hln : ∀ n, lineM x.lo x.hi x.pick = some n → 0 ≤ n ∧ n ≤ 1000 := fun n hn => by have := lineM_in (by omega) hn; omega
            simp only [VS, VD, SV, SL, T, Nat.reduceEqDiff, Nat.reduceAdd, Nat.reduceSub, Nat.reduceMul, Nat.reduceLeDiff, Nat.reduceLT, reduceIte, f69, f71, Int.toNat_natCast, hbk, hle2, hext]
            refine ⟨by omega, ?_⟩
            refine (line_spec x.lo x.hi x.pick (by omega) (by omega) _).mono ?_
            rintro _ w9 ⟨rfl, hE9⟩
            replace hE9 := ((Ext.refl wo).alloc tomb).trans hE9
            replace hT := hT.ext hE9
            replace hm := hm.per (hid_ext (F := U2 F G) hE9)
            replace hn := hn.per (hid_ext (F := U2 F G) hE9)
            replace hEx := hEx.trans hE9
            cases hq : lineM x.lo x.hi x.pick with
            | none =>
              rw [hq] at hD' hH'
              have z : decide (0 ≤ (-1 : Int)) = false := rfl
              simp only [VS, VD, SV, SL, T, Nat.reduceEqDiff, Nat.reduceAdd, Nat.reduceSub, Nat.reduceMul, Nat.reduceLeDiff, Nat.reduceLT, reduceIte, Option.getD_none, z, f71]
              exact ⟨by omega, i + 1, ⟨f3, f4, f9, f10, f12, f14, f69, f70, by simp, by omega, hEx, G, K, hT, hm, hn, hH', hD'⟩, by omega⟩
            | some n =>
              rw [hq] at hD' hH'
              have hnn := hln n hq
              have hnl : 0 ≤ n * l2 ∧ n * l2 ≤ 1600000 := ⟨Int.mul_nonneg hnn.1 (by omega), Int.mul_le_mul (show n ≤ 100000 by omega) (show l2 ≤ 16 by omega) (by omega) (by omega)⟩
              have z : decide (0 ≤ n) = true := decide_eq_true hnn.1
              simp only [VS, VD, SV, SL, T, Nat.reduceEqDiff, Nat.reduceAdd, Nat.reduceSub, Nat.reduceMul, Nat.reduceLeDiff, Nat.reduceLT, reduceIte, Option.getD_some, z, f14, f4]
              refine ⟨by omega, ?_⟩
              refine (two_y hv hEx hT (n * l2) (by omega)).mono ?_
              rintro _ w10 ⟨⟨r, rfl⟩, G', hT', hpe, hE'⟩
              simp only [VS, VD, SV, SL, T, Nat.reduceEqDiff, Nat.reduceAdd, Nat.reduceSub, Nat.reduceMul, Nat.reduceLeDiff, Nat.reduceLT, reduceIte, f71]
              exact ⟨by omega, i + 1, ⟨f3, by rw [f4], f9, f10, f12, f14, f69, f70, by simp, by omega, hE', G', _, hT', hm.per hpe, hn.per hpe, hH', hD'⟩, by omega⟩
          · rw [List.take_of_length_le (by omega)] at hDK
            simp only [VS, VD, SV, SL, T, Nat.reduceEqDiff, Nat.reduceAdd, Nat.reduceSub, Nat.reduceMul, Nat.reduceLeDiff, Nat.reduceLT, reduceIte]
            exact ⟨f3, f4, f9, f10, f12, f14, hEx, G, K, hT, hm, hn, hK, hDK⟩
      clear hm hn hT hE f2 f3 f4 f9 f10 f12 f14
      rintro f1 w8 ⟨f3, f4, f9, f10, f12, f14, hE, G, K, hT, hm, hn, hK, hDK⟩
      have hbA := runU_bd (s := s2) hp.2.2.1 A (Bd_em y2)
      have hbB := runU_bd (s := s2) hp.2.2.1 B (Bd_em y2)
      simp only [VS, VD, SV, SL, T, Nat.reduceEqDiff, Nat.reduceAdd, Nat.reduceSub, Nat.reduceMul, Nat.reduceLeDiff, Nat.reduceLT, reduceIte, f9, f10, muV]
      refine (VRet.hid hT.lt (Join_spec s2 y2 l2 hv _ _ _ _ _ hm hn)).mono ?_
      rintro v9 w9 ⟨w1h, ⟨hj, hEh⟩, hper, _, _, hEE⟩
      have hE9 := hEE hEh
      replace hj := hj.per hper
      replace hT := hT.ext hE9
      replace hE := hE.trans hE9
      obtain ⟨bj, oj, cj, rfl⟩ := hj.form
      have hDx : DesU s2 (joinU (runU s2 y2 emU A) (runU s2 y2 emU B)) H := DesU.join (.inl hD)
      have hDy : DesU s2 (joinU (runU s2 y2 emU A) (runU s2 y2 emU B)) K := DesU.join (.inr hDK)
      have hbJ := hbA.join hbB
      clear hm hn hD hDK hbA hbB
      generalize joinU (runU s2 y2 emU A) (runU s2 y2 emU B) = J at *
      simp only [VS, VD, SV, SL, T, Nat.reduceEqDiff, Nat.reduceAdd, Nat.reduceSub, Nat.reduceMul, Nat.reduceLeDiff, Nat.reduceLT, reduceIte, f3, muV]
      have hE10 := (Ext.refl w9).alloc tomb
      replace hj := hj.per (hid_ext (F := U2 F G) hE10)
      replace hT := hT.ext hE10
      replace hE := hE.trans hE10
      generalize w9.alloc tomb = w10 at *
      refine LoopP_intro (α := Nat) (fun i f' w' => f' 4 = .agg #[.int .i64 s2, .int .i64 y2, .int .i64 l2] ∧ f' 12 = ptr p ∧ f' 14 = ptr q ∧ f' 89 = .slice la Q.length lc ∧ f' 90 = .int .i64 Q.length ∧ f' 91 = .int .i64 i ∧ i ≤ Q.length ∧ Ext w w' ∧
        ∃ J F G H K, Two w.heap.size w' F G p q s2 y2 l2 H K ∧ MuK (hid (U2 F G) w') (f' 22) s2 y2 l2 J ∧ Bd y2 J ∧ Hok s2 H ∧ Hok s2 K ∧ DesU s2 J H ∧ DesU s2 J K) (fun i => Q.length - i) 0 ?_ ?_
      · simp only [VS, VD, SV, SL, T, Nat.reduceEqDiff, Nat.reduceAdd, Nat.reduceSub, Nat.reduceMul, Nat.reduceLeDiff, Nat.reduceLT, reduceIte, f4, f12, f14, muV]
        exact ⟨rfl, Nat.zero_le _, hE, J, F, G, H, K, hT, hj, hbJ, hH, hK, hDx, hDy⟩
      clear hj hT hE hE10 hE9 hEE f3 f4 f9 f10 f12 f14 hDx hDy hbJ hH hK
      rintro i f' wo ⟨f4, f12, f14, f89, f90, f91, hi, hEx, J, F, G, H, K, hT, hj, hbJ, hH, hK, hDx, hDy⟩
      obtain ⟨bj, oj, cj, f22⟩ := hj.form
      rw [f22] at hj
      simp only [VS, VD, SV, SL, T, Nat.reduceEqDiff, Nat.reduceAdd, Nat.reduceSub, Nat.reduceMul, Nat.reduceLeDiff, Nat.reduceLT, reduceIte, f91, f90]
      refine cnd_d (fun hlt => ?_) (fun hlt => ?_)
      · have hi' : i < Q.length := by omega
        obtain ⟨b, off, cs, e, fz, rfl, hbk, hle2, hext⟩ := (h.ext hEx).get hi'
        have hop := hQL.2 _ (List.getElem_mem hi')
        have hok := hQM.2 _ (List.getElem_mem hi')
        unfold OpL at hop
        unfold OpOk at hok
        generalize Q[i] = x at *
        have hDx' := hDx.do hv hbJ (lo := x.lo) (hi := x.hi) (p := x.pick) (by omega)
        have hDy' := hDy.do hv hbJ (lo := x.lo) (hi := x.hi) (p := x.pick) (by omega)
        have hH' := Hok.accH hv hH (lineM x.lo x.hi x.pick)
        have hK' := Hok.accH hv hK (lineM x.lo x.hi x.pick)
        have hbJ' := hbJ.do (s := s2) (lo := x.lo) (hi := x.hi) hp.2.2.1
        have hln : ∀ n, lineM x.lo x.hi x.pick = some n → 0 ≤ n ∧ n ≤ 1000 := fun n hn => by have := lineM_in (by omega) hn; omega
        simp only [VS, VD, SV, SL, T, Nat.reduceEqDiff, Nat.reduceAdd, Nat.reduceSub, Nat.reduceMul, Nat.reduceLeDiff, Nat.reduceLT, reduceIte, f89, f91, Int.toNat_natCast, hbk, hle2, hext]
        refine ⟨by omega, ?_⟩
        have hEb := (Ext.refl wo).alloc tomb
        replace hT := hT.ext hEb
        replace hj := hj.per (hid_ext (F := U2 F G) hEb)
        replace hEx := hEx.trans hEb
        generalize wo.alloc tomb = wa at *
        have hjo := hj.per (hid_per (U2 F G) wa)
        refine DW_intro (fun n _ v w' => match n with | 2 => IntssAt w' v (stS s2 y2 H) | 8 => IntssAt w' v (stS s2 y2 K) | _ => v = .bool true) ?_
        simp only [VS, VD, SV, SL, T, Nat.reduceEqDiff, Nat.reduceAdd, Nat.reduceSub, Nat.reduceMul, Nat.reduceLeDiff, Nat.reduceLT, reduceIte, f22, f12, muV]
        refine rY_ph rfl rfl (fun _ _ _ h hE => IntssAt.ext h hE) (fun w' hE' _ => ?_) ?_
        · simp only [VS, VD, SV, SL, T, Nat.reduceEqDiff, Nat.reduceAdd, Nat.reduceSub, Nat.reduceMul, Nat.reduceLeDiff, Nat.reduceLT, reduceIte]
          refine (C.Lines_spec (hT.cx.ext hE')).mono ?_
          rintro v12 w13 ⟨hL13, hE13⟩
          exact ⟨hE13, hL13⟩
        rintro v2 _
        simp only [VS, VD, SV, SL, T, Nat.reduceEqDiff, Nat.reduceAdd, Nat.reduceSub, Nat.reduceMul, Nat.reduceLeDiff, Nat.reduceLT, reduceIte]
        refine rY_ph rfl rfl (fun _ _ _ h _ => h) (fun w' hE' hFD => ?_) ?_
        · have h2' : IntssAt w' v2 (stS s2 y2 H) := hFD 2 (by simp)
          simp only [VS, VD, SV, SL, T, Nat.reduceEqDiff, Nat.reduceAdd, Nat.reduceSub, Nat.reduceMul, Nat.reduceLeDiff, Nat.reduceLT, reduceIte]
          refine (Describes_spec s2 y2 l2 hv J hbJ _ _ _ (lines_small hv H) w' (hjo.ext hE') h2').mono ?_
          rintro _ w13 ⟨⟨r, rfl, hr⟩, hE13⟩
          exact ⟨hE13, by rw [hr.2 (desQ_of hv hbJ hDx)]⟩
        rintro v3 ⟨_, _, _, h3⟩
        obtain rfl : v3 = .bool true := h3
        simp only [VS, VD, SV, SL, T, Nat.reduceEqDiff, Nat.reduceAdd, Nat.reduceSub, Nat.reduceMul, Nat.reduceLeDiff, Nat.reduceLT, reduceIte, f22, f14, muV, Bool.not_true]
        refine rY_ph rfl rfl (fun _ _ _ h hE => IntssAt.ext h hE) (fun w' hE' _ => ?_) ?_
        · simp only [VS, VD, SV, SL, T, Nat.reduceEqDiff, Nat.reduceAdd, Nat.reduceSub, Nat.reduceMul, Nat.reduceLeDiff, Nat.reduceLT, reduceIte]
          refine (C.Lines_spec (hT.cy.ext hE')).mono ?_
          rintro v12 w13 ⟨hL13, hE13⟩
          exact ⟨hE13, hL13⟩
        rintro v8 _
        simp only [VS, VD, SV, SL, T, Nat.reduceEqDiff, Nat.reduceAdd, Nat.reduceSub, Nat.reduceMul, Nat.reduceLeDiff, Nat.reduceLT, reduceIte]
        intro w11 hE11 hF11
        have h8 : IntssAt w11 v8 (stS s2 y2 K) := FA_head hF11
        simp only [VS, VD, SV, SL, T, Nat.reduceEqDiff, Nat.reduceAdd, Nat.reduceSub, Nat.reduceMul, Nat.reduceLeDiff, Nat.reduceLT, reduceIte]
        refine (Describes_spec s2 y2 l2 hv J hbJ _ _ _ (lines_small hv K) w11 (hjo.ext hE11) h8).mono ?_
        rintro _ w12 ⟨⟨r, rfl, hr⟩, hE12⟩
        obtain rfl : r = true := hr.2 (desQ_of hv hbJ hDy)
        have hE1112 := hE11.trans hE12
        replace hT := hT.ext hE1112
        replace hj := hj.per (hid_ext (F := U2 F G) hE1112)
        replace hEx := hEx.trans hE1112
        simp only [VS, VD, SV, SL, T, Nat.reduceEqDiff, Nat.reduceAdd, Nat.reduceSub, Nat.reduceMul, Nat.reduceLeDiff, Nat.reduceLT, reduceIte, Bool.not_true, f22, muV]
        refine (VRet.hid hT.lt (do_spec s2 y2 l2 hv J hbJ _ x.lo x.hi x.pick (by omega) _ hj)).mono ?_
        rintro v13 w13 ⟨w1h, ⟨hj', hEh⟩, hper, _, _, hEE⟩
        have hE13 := hEE hEh
        replace hj' := hj'.per hper
        replace hT := hT.ext hE13
        replace hEx := hEx.trans hE13
        obtain ⟨b1, o1, c1, rfl⟩ := hj'.form
        clear hj hjo hDx hDy hbJ
        generalize doU s2 y2 J x.lo x.hi = J' at *
        simp only [VS, VD, SV, SL, T, Nat.reduceEqDiff, Nat.reduceAdd, Nat.reduceSub, Nat.reduceMul, Nat.reduceLeDiff, Nat.reduceLT, reduceIte, muV, f22]
        refine (line_spec x.lo x.hi x.pick (by omega) (by omega) _).mono ?_
        rintro _ w14 ⟨rfl, hE14⟩
        replace hT := hT.ext hE14
        replace hj' := hj'.per (hid_ext (F := U2 F G) hE14)
        replace hEx := hEx.trans hE14
        cases hq : lineM x.lo x.hi x.pick with
        | none =>
          rw [hq] at hDx' hDy' hH' hK'
          have z : decide (0 ≤ (-1 : Int)) = false := rfl
          simp only [VS, VD, SV, SL, T, Nat.reduceEqDiff, Nat.reduceAdd, Nat.reduceSub, Nat.reduceMul, Nat.reduceLeDiff, Nat.reduceLT, reduceIte, Option.getD_none, z, f91]
          exact ⟨by omega, i + 1, ⟨f4, f12, f14, f89, f90, by simp, by omega, hEx, J', F, G, H, K, hT, hj', hbJ', hH', hK', hDx', hDy'⟩, by omega⟩
        | some n =>
          rw [hq] at hDx' hDy' hH' hK'
          have hnn := hln n hq
          have hnl : 0 ≤ n * l2 ∧ n * l2 ≤ 1600000 := ⟨Int.mul_nonneg hnn.1 (by omega), Int.mul_le_mul (show n ≤ 100000 by omega) (show l2 ≤ 16 by omega) (by omega) (by omega)⟩
          have z : decide (0 ≤ n) = true := decide_eq_true hnn.1
          simp only [VS, VD, SV, SL, T, Nat.reduceEqDiff, Nat.reduceAdd, Nat.reduceSub, Nat.reduceMul, Nat.reduceLeDiff, Nat.reduceLT, reduceIte, Option.getD_some, z, f12, f4]
          refine ⟨by omega, ?_⟩
          refine (two_x hv hEx hT (n * l2) (by omega)).mono ?_
          rintro _ w15 ⟨⟨r, rfl⟩, F', hT', hpe, hE'⟩
          simp only [VS, VD, SV, SL, T, Nat.reduceEqDiff, Nat.reduceAdd, Nat.reduceSub, Nat.reduceMul, Nat.reduceLeDiff, Nat.reduceLT, reduceIte, f14, f4]
          refine ⟨by omega, ?_⟩
          refine (two_y hv hE' hT' (n * l2) (by omega)).mono ?_
          rintro _ w16 ⟨⟨r2, rfl⟩, G', hT'', hpe2, hE''⟩
          simp only [VS, VD, SV, SL, T, Nat.reduceEqDiff, Nat.reduceAdd, Nat.reduceSub, Nat.reduceMul, Nat.reduceLeDiff, Nat.reduceLT, reduceIte, f91]
          exact ⟨by omega, i + 1, ⟨by rw [f4], f12, f14, f89, f90, by simp, by omega, hE'', J', F', G', _, _, hT'', (hj'.per hpe).per hpe2, hbJ', hH', hK', hDx', hDy'⟩, by omega⟩
      · have hjo := hj.per (hid_per (U2 F G) wo)
        simp only [VS, VD, SV, SL, T, Nat.reduceEqDiff, Nat.reduceAdd, Nat.reduceSub, Nat.reduceMul, Nat.reduceLeDiff, Nat.reduceLT, reduceIte, f22, muV]
        refine DW_intro (fun n _ v w' => match n with | 2 => IntssAt w' v (stS s2 y2 H) | 7 => IntssAt w' v (stS s2 y2 K) | _ => v = .bool true) ?_
        simp only [VS, VD, SV, SL, T, Nat.reduceEqDiff, Nat.reduceAdd, Nat.reduceSub, Nat.reduceMul, Nat.reduceLeDiff, Nat.reduceLT, reduceIte, f22, f12, muV]
        refine rY_ph rfl rfl (fun _ _ _ h hE => IntssAt.ext h hE) (fun w' hE' _ => ?_) ?_
        · simp only [VS, VD, SV, SL, T, Nat.reduceEqDiff, Nat.reduceAdd, Nat.reduceSub, Nat.reduceMul, Nat.reduceLeDiff, Nat.reduceLT, reduceIte]
          refine (C.Lines_spec (hT.cx.ext hE')).mono ?_
          rintro v12 w13 ⟨hL13, hE13⟩
          exact ⟨hE13, hL13⟩
        rintro v2 _
        simp only [VS, VD, SV, SL, T, Nat.reduceEqDiff, Nat.reduceAdd, Nat.reduceSub, Nat.reduceMul, Nat.reduceLeDiff, Nat.reduceLT, reduceIte]
        refine rY_ph rfl rfl (fun _ _ _ h _ => h) (fun w' hE' hFD => ?_) ?_
        · have h2' : IntssAt w' v2 (stS s2 y2 H) := hFD 2 (by simp)
          simp only [VS, VD, SV, SL, T, Nat.reduceEqDiff, Nat.reduceAdd, Nat.reduceSub, Nat.reduceMul, Nat.reduceLeDiff, Nat.reduceLT, reduceIte]
          refine (Describes_spec s2 y2 l2 hv J hbJ _ _ _ (lines_small hv H) w' (hjo.ext hE') h2').mono ?_
          rintro _ w13 ⟨⟨r, rfl, hr⟩, hE13⟩
          exact ⟨hE13, by rw [hr.2 (desQ_of hv hbJ hDx)]⟩
        rintro v3 ⟨_, _, _, h3⟩
        obtain rfl : v3 = .bool true := h3
        simp only [VS, VD, SV, SL, T, Nat.reduceEqDiff, Nat.reduceAdd, Nat.reduceSub, Nat.reduceMul, Nat.reduceLeDiff, Nat.reduceLT, reduceIte, f22, f14, muV]
        refine rY_ph rfl rfl (fun _ _ _ h hE => IntssAt.ext h hE) (fun w' hE' _ => ?_) ?_
        · simp only [VS, VD, SV, SL, T, Nat.reduceEqDiff, Nat.reduceAdd, Nat.reduceSub, Nat.reduceMul, Nat.reduceLeDiff, Nat.reduceLT, reduceIte]
          refine (C.Lines_spec (hT.cy.ext hE')).mono ?_
          rintro v12 w13 ⟨hL13, hE13⟩
          exact ⟨hE13, hL13⟩
        rintro v8 _
        simp only [VS, VD, SV, SL, T, Nat.reduceEqDiff, Nat.reduceAdd, Nat.reduceSub, Nat.reduceMul, Nat.reduceLeDiff, Nat.reduceLT, reduceIte]
        intro w11 hE11 hF11
        have h8 : IntssAt w11 v8 (stS s2 y2 K) := FA_head hF11
        simp only [VS, VD, SV, SL, T, Nat.reduceEqDiff, Nat.reduceAdd, Nat.reduceSub, Nat.reduceMul, Nat.reduceLeDiff, Nat.reduceLT, reduceIte]
        refine (Describes_spec s2 y2 l2 hv J hbJ _ _ _ (lines_small hv K) w11 (hjo.ext hE11) h8).mono ?_
        rintro _ w12 ⟨⟨r, rfl, hr⟩, hE12⟩
        obtain rfl : r = true := hr.2 (desQ_of hv hbJ hDy)
        simp only [VS, VD, SV, SL, T, Nat.reduceEqDiff, Nat.reduceAdd, Nat.reduceSub, Nat.reduceMul, Nat.reduceLeDiff, Nat.reduceLT, reduceIte]
        exact hΨ _ _ ⟨rfl, (hEx.trans hE11).trans hE12⟩
end Go.Proofs.Ytehmbpkcbmnfnaa

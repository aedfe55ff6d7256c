/-
  The examples of the chapter.
-/
import Derived.Test.YtlhlbiaibgmapaaZLC1
set_option linter.unusedSimpArgs false
set_option linter.unusedVariables false
namespace Go.Proofs.Ytlhlbiaibgmapaa
open Go.W Go.RowKit
theorem ints_new {w : World} {g : Nat} {l : List Int} {n c : Nat} {e : TypeId} (hn : n = l.length) (h : w.heap[g]? = some (.cells (l.map (Value.int .i64)).toArray e (0, 0))) : IntsAt w (.slice (some ⟨g, 0, none⟩) n c) l := by
  subst hn
  refine .inr ⟨g, 0, c, rfl, fun i x hx => ?_⟩
  rw [cell_mk, h]
  have hi := (List.getElem?_eq_some_iff.1 hx).1
  simp [hx]
theorem dEq {α : Type} [DecidableEq α] (l : α) : decide (l = l) = true := decide_eq_true rfl
set_option maxRecDepth 10000 in
set_option maxHeartbeats 400000 in
theorem awake_spec (w : World) : VRet Try.prog 11 #[] w fun v w' => v = .bool true ∧ Ext w w' := by
  refine VRet_start T.mo ok11 rfl fun Ψ hΨ => ?_; simp only [vc11, rs11]
  simp only [VS, VD, SV, SL, T, Nat.reduceEqDiff, Nat.reduceAdd, Nat.reduceSub, Nat.reduceMul, Nat.reduceLeDiff, Nat.reduceLT, reduceIte]
  refine (Graph_spec (N := exA) exA_nv.ok exA_nv.two (by decide) _ _ ?_).mono ?_
  · refine .inr ⟨_, 0, _, rfl, fun i l hl => ?_⟩
    rw [cell_mk]
    match i, hl with
    | 0, hl =>
      obtain rfl : [1] = l := by simpa [exA] using hl
      exact ⟨.slice (some ⟨w.heap.size, 0, none⟩) 1 1, by simp only [VS, VD, SV, SL, T, Nat.reduceEqDiff, Nat.reduceAdd, Nat.reduceSub, Nat.reduceMul, Nat.reduceLeDiff, Nat.reduceLT, reduceIte], ints_new rfl (by simp only [VS, VD, SV, SL, T, Nat.reduceEqDiff, Nat.reduceAdd, Nat.reduceSub, Nat.reduceMul, Nat.reduceLeDiff, Nat.reduceLT, reduceIte]; rfl)⟩
    | 1, hl =>
      obtain rfl : [2] = l := by simpa [exA] using hl
      exact ⟨.slice (some ⟨w.heap.size + 1, 0, none⟩) 1 1, by simp only [VS, VD, SV, SL, T, Nat.reduceEqDiff, Nat.reduceAdd, Nat.reduceSub, Nat.reduceMul, Nat.reduceLeDiff, Nat.reduceLT, reduceIte], ints_new rfl (by simp only [VS, VD, SV, SL, T, Nat.reduceEqDiff, Nat.reduceAdd, Nat.reduceSub, Nat.reduceMul, Nat.reduceLeDiff, Nat.reduceLT, reduceIte]; rfl)⟩
    | 2, hl =>
      obtain rfl : [1, 3] = l := by simpa [exA] using hl
      exact ⟨.slice (some ⟨w.heap.size + 2, 0, none⟩) 2 2, by simp only [VS, VD, SV, SL, T, Nat.reduceEqDiff, Nat.reduceAdd, Nat.reduceSub, Nat.reduceMul, Nat.reduceLeDiff, Nat.reduceLT, reduceIte], ints_new rfl (by simp only [VS, VD, SV, SL, T, Nat.reduceEqDiff, Nat.reduceAdd, Nat.reduceSub, Nat.reduceMul, Nat.reduceLeDiff, Nat.reduceLT, reduceIte]; rfl)⟩
    | 3, hl =>
      obtain rfl : [] = l := by simpa [exA] using hl
      exact ⟨.slice none 0 0, by simp only [VS, VD, SV, SL, T, Nat.reduceEqDiff, Nat.reduceAdd, Nat.reduceSub, Nat.reduceMul, Nat.reduceLeDiff, Nat.reduceLT, reduceIte], .inl ⟨⟨_, _, rfl⟩, rfl⟩⟩
    | i + 4, hl => simp [exA] at hl
  · rintro gv w5 ⟨hE5, hG⟩
    replace hE5 := ((((((Ext.refl w).alloc _).alloc _).alloc _).alloc _).trans hE5)
    have hVG := VG_blks exA_nv
    have hnx := nx_blks exA
    have hbl : (blks exA exA.length).length = 4 := rfl
    have hG' := hG
    obtain ⟨bs, pv, rfl, hb1, hp1⟩ := hG'
    obtain ⟨ba, bc, rfl⟩ := hb1.form
    obtain ⟨pa, pc, rfl⟩ := hp1.form'
    rw [hbl] at *
    have hed : (edg 0 (nx (blks exA 4))).length ≤ 50000000 := by
      have e1 : nx (blks exA 4) = exA := hnx
      rw [e1]; decide
    have hrw : ∀ l ∈ nx (blks exA 4), l.length ≤ 50000000 := by
      have e1 : nx (blks exA 4) = exA := hnx
      rw [e1]; unfold exA; decide
    simp only [VS, VD, SV, SL, T, Nat.reduceEqDiff, Nat.reduceAdd, Nat.reduceSub, Nat.reduceMul, Nat.reduceLeDiff, Nat.reduceLT, reduceIte]
    refine (Find_spec _ (blks exA 4) (prevOf exA) (by rw [blks_len]; omega) _ (hG.ext ((Ext.refl _).alloc tomb))).mono ?_
    rintro v6 w6 ⟨⟨_, hF⟩, hE6⟩
    obtain ⟨_, hF⟩ := hF hVG
    have e1 : nx (blks exA 4) = exA := hnx
    rw [e1] at hF
    obtain ⟨lv, rfl, hL⟩ := hF exA_bad
    rw [exA_fnd] at hL
    obtain ⟨la, lc, rfl⟩ := hL.form
    replace hG := hG.ext (((Ext.refl _).alloc tomb).trans hE6)
    replace hE6 := (hE5.alloc tomb).trans hE6
    obtain ⟨lb, lo, lcs, le, lfz, u, u', rfl, hlb, hls, hlv, hlx, hu, hu'⟩ := hL.get (i := 0) (by simp)
    simp only [List.getElem_cons_zero] at hlv hlx hu hu'
    obtain ⟨ua, uc, rfl⟩ := hu.form
    obtain ⟨ua', uc', rfl⟩ := hu'.form
    have d1 : decide (¬ ((1 : Nat) : Int) = 1) = false := rfl
    have d2 : decide (¬ (1 : Int) = 1) = false := rfl
    have d3 : decide (¬ (0 : Int) = 0) = false := rfl
    have d4 : decide (¬ (-1 : Int) = -1) = false := rfl
    have r1 : (0 : Int) ≤ 0 ∧ (0 : Int) < ((1 : Nat) : Int) := by decide
    rw [List.length_singleton]
    simp only [Nat.zero_mul, Nat.add_zero, Nat.zero_add] at hlx hlv hls
    simp only [VS, VD, SV, SL, T, Nat.reduceEqDiff, Nat.reduceAdd, Nat.reduceSub, Nat.reduceMul, Nat.reduceLeDiff, Nat.reduceLT, reduceIte, hlb, hls, hlx, d1, d2, d3, d4, AX, r1]
    refine (Ints_spec _ _ [1, 2] [1, 2] (by simp) _ (hu.ext ((Ext.refl _).alloc _)) (ints_new rfl (by simp only [VS, VD, SV, SL, T, Nat.reduceEqDiff, Nat.reduceAdd, Nat.reduceSub, Nat.reduceMul, Nat.reduceLeDiff, Nat.reduceLT, reduceIte]; rfl))).mono ?_
    rintro _ w7 ⟨rfl, hE7⟩
    replace hE7 := ((Ext.refl w6).alloc _).trans hE7
    replace hlb := hE7.obj hlb
    replace hu := hu.ext hE7
    replace hu' := hu'.ext hE7
    replace hG := hG.ext hE7
    replace hL := hL.ext hE7
    replace hE7 := hE6.trans hE7
    simp only [VS, VD, SV, SL, T, Nat.reduceEqDiff, Nat.reduceAdd, Nat.reduceSub, Nat.reduceMul, Nat.reduceLeDiff, Nat.reduceLT, reduceIte, dEq, hlb, hls, hlx, d1, d2, d3, d4, AX, r1]
    refine (Ints_spec _ _ [2] [2] (by simp) _ (hu'.ext ((Ext.refl _).alloc _)) (ints_new rfl (by simp only [VS, VD, SV, SL, T, Nat.reduceEqDiff, Nat.reduceAdd, Nat.reduceSub, Nat.reduceMul, Nat.reduceLeDiff, Nat.reduceLT, reduceIte]; rfl))).mono ?_
    rintro _ w8 ⟨rfl, hE8⟩
    replace hE8 := ((Ext.refl w7).alloc _).trans hE8
    replace hlb := hE8.obj hlb
    replace hG := hG.ext hE8
    have hu8 := hu.ext hE8
    have hu'8 := hu'.ext hE8
    replace hE8 := hE7.trans hE8
    simp only [VS, VD, SV, SL, T, Nat.reduceEqDiff, Nat.reduceAdd, Nat.reduceSub, Nat.reduceMul, Nat.reduceLeDiff, Nat.reduceLT, reduceIte, dEq, hlb, hls, hlx, d1, d2, d3, d4, AX, r1, Int.toNat_natCast]
    have hlpv : ∀ w', Ext w8 w' → LpV w' (.agg #[.int .i64 1, .slice ua ([1, 2] : List Int).length uc, .slice ua' ([2] : List Int).length uc', .int .i64 (-1)]) ((1, [1, 2], [2], -1) : Lp) := fun w' hE => ⟨_, _, rfl, hu8.ext hE, hu'8.ext hE⟩
    refine DW_intro (fun n _ v w' => PrAt w' v [(0, 1)]) ?_
    simp only [VS, VD, SV, SL, T, Nat.reduceEqDiff, Nat.reduceAdd, Nat.reduceSub, Nat.reduceMul, Nat.reduceLeDiff, Nat.reduceLT, reduceIte, hlb, hls, hlv, hlx, AX, r1]
    refine rY_ph rfl rfl (fun _ _ _ k1 hE => k1.ext hE) (fun w9 hE9 _ => ?_) ?_
    · simp only [VS, VD, SV, SL, T, Nat.reduceEqDiff, Nat.reduceAdd, Nat.reduceSub, Nat.reduceMul, Nat.reduceLeDiff, Nat.reduceLT, reduceIte]
      refine (Entries_spec _ (blks exA 4) (prevOf exA) (by rw [blks_len]; omega) hed hrw _ (1, [1, 2], [2], -1) (by simp) w9 (hG.ext hE9) (hlpv w9 hE9)).mono ?_
      rintro v w10 ⟨hP, hE10⟩
      rw [e1, exA_ent] at hP
      exact ⟨hE10, hP⟩
    rintro v9 ⟨_, _, _, hP9⟩
    obtain ⟨ea, ec, rfl⟩ := hP9.form
    simp only [VS, VD, SV, SL, T, Nat.reduceEqDiff, Nat.reduceAdd, Nat.reduceSub, Nat.reduceMul, Nat.reduceLeDiff, Nat.reduceLT, reduceIte, hlb, hls, hlv, hlx, AX, r1]
    intro w10 hE10 hF
    have h4 := hF 4
    simp only [updF] at h4
    replace h4 : PrAt w10 (.slice ea 1 ec) [(0, 1)] := h4
    simp only [VS, VD, SV, SL, T, Nat.reduceEqDiff, Nat.reduceAdd, Nat.reduceSub, Nat.reduceMul, Nat.reduceLeDiff, Nat.reduceLT, reduceIte]
    refine (Exits_spec _ (blks exA 4) (prevOf exA) (by rw [blks_len]; omega) hed hrw _ (1, [1, 2], [2], -1) (by simp) w10 (hG.ext hE10) (hlpv w10 hE10)).mono ?_
    rintro v11 w11 ⟨hP, hE11⟩
    rw [e1, exA_exi] at hP
    obtain ⟨xa, xc, rfl⟩ := hP.form
    replace h4 := h4.ext hE11
    replace hE11 := (hE8.trans hE10).trans hE11
    rw [List.length_singleton]
    rw [List.length_singleton] at hP
    clear hlpv hG hed hrw hu8 hu'8 hlb hls hlv hlx hF hE10 hP9 hE8 hE7 hE6 hE5 hL hu hu' hb1 hp1
    simp only [VS, VD, SV, SL, T, Nat.reduceEqDiff, Nat.reduceAdd, Nat.reduceSub, Nat.reduceMul, Nat.reduceLeDiff, Nat.reduceLT, reduceIte]
    refine (Graph_spec (N := exB) exB_nv.ok exB_nv.two (by decide) _ _ ?_).mono ?_
    · refine .inr ⟨_, 0, _, rfl, fun i l hl => ?_⟩
      rw [cell_mk]
      match i, hl with
      | 0, hl =>
        obtain rfl : [1, 2] = l := by simpa [exB] using hl
        exact ⟨.slice (some ⟨w11.heap.size, 0, none⟩) 2 2, by simp only [VS, VD, SV, SL, T, Nat.reduceEqDiff, Nat.reduceAdd, Nat.reduceSub, Nat.reduceMul, Nat.reduceLeDiff, Nat.reduceLT, reduceIte], ints_new rfl (by simp only [VS, VD, SV, SL, T, Nat.reduceEqDiff, Nat.reduceAdd, Nat.reduceSub, Nat.reduceMul, Nat.reduceLeDiff, Nat.reduceLT, reduceIte]; rfl)⟩
      | 1, hl =>
        obtain rfl : [2] = l := by simpa [exB] using hl
        exact ⟨.slice (some ⟨w11.heap.size + 1, 0, none⟩) 1 1, by simp only [VS, VD, SV, SL, T, Nat.reduceEqDiff, Nat.reduceAdd, Nat.reduceSub, Nat.reduceMul, Nat.reduceLeDiff, Nat.reduceLT, reduceIte], ints_new rfl (by simp only [VS, VD, SV, SL, T, Nat.reduceEqDiff, Nat.reduceAdd, Nat.reduceSub, Nat.reduceMul, Nat.reduceLeDiff, Nat.reduceLT, reduceIte]; rfl)⟩
      | 2, hl =>
        obtain rfl : [1] = l := by simpa [exB] using hl
        exact ⟨.slice (some ⟨w11.heap.size + 2, 0, none⟩) 1 1, by simp only [VS, VD, SV, SL, T, Nat.reduceEqDiff, Nat.reduceAdd, Nat.reduceSub, Nat.reduceMul, Nat.reduceLeDiff, Nat.reduceLT, reduceIte], ints_new rfl (by simp only [VS, VD, SV, SL, T, Nat.reduceEqDiff, Nat.reduceAdd, Nat.reduceSub, Nat.reduceMul, Nat.reduceLeDiff, Nat.reduceLT, reduceIte]; rfl)⟩
      | i + 3, hl => simp [exB] at hl
    · rintro gv2 w12 ⟨hE12, hG⟩
      replace hE12 := (((((Ext.refl w11).alloc _).alloc _).alloc _).alloc _).trans hE12
      replace h4 := h4.ext hE12
      replace hP := hP.ext hE12
      replace hE12 := hE11.trans hE12
      have hVG := VG_blks exB_nv
      have hnx := nx_blks exB
      simp only [VS, VD, SV, SL, T, Nat.reduceEqDiff, Nat.reduceAdd, Nat.reduceSub, Nat.reduceMul, Nat.reduceLeDiff, Nat.reduceLT, reduceIte]
      refine (Find_spec _ (blks exB exB.length) (prevOf exB) (by rw [blks_len]; decide) _ hG).mono ?_
      rintro v13 w13 ⟨⟨_, hF⟩, hE13⟩
      obtain ⟨hF, _⟩ := hF hVG
      rw [hnx] at hF
      obtain rfl := hF _ exB_bad
      replace h4 := h4.ext hE13
      replace hP := hP.ext hE13
      replace hE13 := hE12.trans hE13
      obtain ⟨eb, eo, ecs, ee, efz, rfl, heb, hes, hex⟩ := h4.get (i := 0) (by simp)
      obtain ⟨xb, xo, xcs, xe, xfz, rfl, hxb, hxs, hxx⟩ := hP.get (i := 0) (by simp)
      simp only [List.getElem_cons_zero] at hex hxx
      have q1 : decide (((1 : Nat) : Int) = 1) = true := rfl
      have q2 : decide ((0 : Int) = 0) = true := rfl
      have q3 : decide ((1 : Int) = 1) = true := rfl
      have q4 : decide ((2 : Int) = 2) = true := rfl
      have q5 : decide ((3 : Int) = 3) = true := rfl
      have q6 : decide ((16 : Int) = 16) = true := rfl
      have q7 : decide ((0 : Int) ≤ 1) = true := rfl
      simp only [Nat.zero_mul, Nat.add_zero, Nat.zero_add] at hex hxx hes hxs
      simp only [VS, VD, SV, SL, T, Nat.reduceEqDiff, Nat.reduceAdd, Nat.reduceSub, Nat.reduceMul, Nat.reduceLeDiff, Nat.reduceLT, reduceIte, heb, hes, hex, hxb, hxs, hxx, AX, r1, List.length_singleton, q1, q2, q3, q4, q5, q6, q7]
      exact hΨ _ _ ⟨rfl, hE13⟩
end Go.Proofs.Ytlhlbiaibgmapaa

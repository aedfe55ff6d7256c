/-
  Transitive: the walk of the statement.
-/
import Derived.Test.YtjilblndcbphgaaZGD1
set_option linter.unusedSimpArgs false
set_option linter.unusedVariables false
namespace Go.Proofs.Ytjilblndcbphgaa
open Go.W Go.RowKit
theorem ints_keep {w w' : World} {g n c : Nat} {l : List Int} (h : IntsAt w (.slice (some ⟨g, 0, none⟩) n c) l) (e : w'.heap[g]? = w.heap[g]?) : IntsAt w' (.slice (some ⟨g, 0, none⟩) n c) l := by
  rcases h with h | ⟨b, off, cap, h1, h2⟩
  · exact .inl h
  · refine .inr ⟨b, off, cap, h1, fun i x hx => ?_⟩
    have := h2 i x hx
    simp only [Value.slice.injEq, Option.some.injEq, Addr.mk.injEq, and_true] at h1
    obtain ⟨⟨rfl, rfl⟩, _⟩ := h1
    rw [cell_mk] at this ⊢
    rwa [e]
set_option maxRecDepth 10000 in
theorem dclo_spec (a b : Int) (z : Nat) (g : Nat) (l : List Int) (n c : Nat) (hl : l.length ≤ 1000) (w : World) (hz : w.heap[z]? = some (.cells #[.slice (some ⟨g, 0, none⟩) n c] 29 (0, 0))) (hI : IntsAt w (.slice (some ⟨g, 0, none⟩) n c) l) :
    VRet Try.prog 26 #[.int .i64 a, .int .i64 b, .pointer (some ⟨z, 0, none⟩)] w fun v w' => v = .bool (domI l a b) ∧ Ext w w' := by
  refine VRet_start T.mo ok26 rfl fun Ψ hΨ => ?_; simp only [vc26, rs26]
  simp only [VS, VD, SV, SL, T, Nat.reduceEqDiff, Nat.reduceAdd, Nat.reduceSub, Nat.reduceMul, Nat.reduceLeDiff, Nat.reduceLT, reduceIte, hz]
  refine (Dominates_spec _ _ (by omega) a b w hI).mono ?_
  rintro _ w1 ⟨rfl, hE1⟩
  simp only [VS, VD, SV, SL, T, Nat.reduceEqDiff, Nat.reduceAdd, Nat.reduceSub, Nat.reduceMul, Nat.reduceLeDiff, Nat.reduceLT, reduceIte]
  exact hΨ _ _ ⟨rfl, hE1⟩
set_option maxHeartbeats 1600000 in
set_option maxRecDepth 10000 in
theorem DominatorTransitive_spec (gv : Value) (B : List Blk) (PV : List (List Int)) (a b c : Int) (w : World) (h : GrAt w gv B PV) (hl : B.length ≤ maxLen) (ha : 0 ≤ a ∧ a ≤ 255) (hb : 0 ≤ b ∧ b ≤ 255) (hc : 0 ≤ c ∧ c ≤ 255) : VRet Try.prog 10 #[gv, .int .u8 a, .int .u8 b, .int .u8 c] w fun v w' => v = .bool true ∧ Ext w w' := by
  have hml : B.length ≤ 9223372036854775807 := by unfold maxLen at hl; omega
  obtain ⟨bs, pv, rfl, hb0, hp0⟩ := h
  obtain ⟨ba, bc, rfl⟩ := hb0.form
  obtain ⟨pa, pc, rfl⟩ := hp0.form'
  refine VRet_start T.mo ok10 rfl fun Ψ hΨ => ?_; simp only [vc10, rs10]
  simp only [VS, VD, SV, SL, T, Nat.reduceEqDiff, Nat.reduceAdd, Nat.reduceSub, Nat.reduceMul, Nat.reduceLeDiff, Nat.reduceLT, reduceIte]
  refine (awake_spec _).mono ?_
  rintro _ w1 ⟨rfl, hE1⟩
  replace hE1 := ((Ext.refl w).alloc tomb).trans hE1
  simp only [VS, VD, SV, SL, T, Nat.reduceEqDiff, Nat.reduceAdd, Nat.reduceSub, Nat.reduceMul, Nat.reduceLeDiff, Nat.reduceLT, reduceIte, Bool.not_true]
  refine (next_spec _ B PV hml w1 ⟨_, _, rfl, hb0.ext hE1, hp0.ext hE1⟩).mono ?_
  rintro _ w2 ⟨hE2, hc⟩
  replace hE2 := hE1.trans hE2
  have hG : GrAt w2 (.agg #[.slice ba B.length bc, .slice pa PV.length pc]) B PV := ⟨_, _, rfl, hb0.ext hE2, hp0.ext hE2⟩
  rcases hc with ⟨hbad, rfl⟩ | ⟨h14, hV, nv, rfl, hNv⟩
  · simp only [VS, VD, SV, SL, T, Nat.reduceEqDiff, Nat.reduceAdd, Nat.reduceSub, Nat.reduceMul, Nat.reduceLeDiff, Nat.reduceLT, reduceIte, Bool.not_false]
    exact hΨ _ _ ⟨rfl, hE2⟩
  · have hNV := VG_nv hV
    have hNl : (nx B).length = B.length := by unfold nx; rw [List.length_map]
    have hN := hNV.ok
    have hN0 := hNV.pos
    obtain ⟨na, nc, rfl⟩ := hNv.form'
    simp only [VS, VD, SV, SL, T, Nat.reduceEqDiff, Nat.reduceAdd, Nat.reduceSub, Nat.reduceMul, Nat.reduceLeDiff, Nat.reduceLT, reduceIte, Bool.not_true]
    refine DW_intro (fun _ _ _ _ => True) ?_
    simp only [VS, VD, SV, SL, T, Nat.reduceEqDiff, Nat.reduceAdd, Nat.reduceSub, Nat.reduceMul, Nat.reduceLeDiff, Nat.reduceLT, reduceIte, hNl]
    refine ⟨by omega, by omega, by omega, by omega, by omega, by omega, ?_⟩
    intro w3 hE3 _
    simp only [VS, VD, SV, SL, T, Nat.reduceEqDiff, Nat.reduceAdd, Nat.reduceSub, Nat.reduceMul, Nat.reduceLeDiff, Nat.reduceLT, reduceIte]
    have hn0 : 0 < (B.length : Int) := by omega
    obtain ⟨x, hx⟩ := Int.eq_ofNat_of_zero_le (Int.emod_nonneg a (show (B.length : Int) ≠ 0 by omega))
    obtain ⟨y, hy⟩ := Int.eq_ofNat_of_zero_le (Int.emod_nonneg b (show (B.length : Int) ≠ 0 by omega))
    obtain ⟨z, hz⟩ := Int.eq_ofNat_of_zero_le (Int.emod_nonneg c (show (B.length : Int) ≠ 0 by omega))
    have hxl := Int.emod_lt_of_pos a hn0
    have hyl := Int.emod_lt_of_pos b hn0
    have hzl := Int.emod_lt_of_pos c hn0
    rw [hx] at hxl
    rw [hy] at hyl
    rw [hz] at hzl
    replace hG := hG.ext hE3
    have hNv3 := hNv.ext hE3
    rw [hNl] at hNv3
    replace hE3 := hE2.trans hE3
    refine DW_intro (fun n _ v w' => match n with | 1 => ∃ q, v = .slice (some ⟨q, 0, none⟩) (nx B).length (nx B).length ∧ BB w' q (nx B).length (rch (nx B) (-1)) | 3 => ∃ F g cap, v = .slice (some ⟨g, 0, none⟩) B.length cap ∧ IntsAt w' v (tl B.length F) ∧ TreeOk (nx B) F | 4 => ∃ q, v = .pointer (some ⟨q, 0, none⟩) ∧ w3.heap.size ≤ q ∧ w'.heap[q]? = some (.cells #[.slice none 0 0] 29 (0, 0)) | _ => True) ?_
    simp only [VS, VD, SV, SL, T, Nat.reduceEqDiff, Nat.reduceAdd, Nat.reduceSub, Nat.reduceMul, Nat.reduceLeDiff, Nat.reduceLT, reduceIte]
    refine rY_ph rfl rfl (fun _ _ _ ⟨q, k1, k2⟩ hE => ⟨q, k1, k2.ext hE⟩) (fun w4 hE4 _ => ?_) ?_
    · simp only [VS, VD, SV, SL, T, Nat.reduceEqDiff, Nat.reduceAdd, Nat.reduceSub, Nat.reduceMul, Nat.reduceLeDiff, Nat.reduceLT, reduceIte]
      refine (Reach_spec hN hN0 (by omega) hNV.two _ (-1) w4 (hNv3.ext hE4)).mono ?_
      rintro _ w5 ⟨⟨q, rfl, hBB⟩, hE5⟩
      exact ⟨hE5, q, rfl, hBB⟩
    rintro v1 ⟨_, _, _, q, rfl, _⟩
    simp only [VS, VD, SV, SL, T, Nat.reduceEqDiff, Nat.reduceAdd, Nat.reduceSub, Nat.reduceMul, Nat.reduceLeDiff, Nat.reduceLT, reduceIte]
    refine rY_ph rfl rfl (fun _ _ _ ⟨F, g, c, k1, k2, k3⟩ hE => ⟨F, g, c, k1, k2.ext hE, k3⟩) (fun w4 hE4 _ => ?_) ?_
    · simp only [VS, VD, SV, SL, T, Nat.reduceEqDiff, Nat.reduceAdd, Nat.reduceSub, Nat.reduceMul, Nat.reduceLeDiff, Nat.reduceLT, reduceIte]
      refine (Tree_spec _ B PV (by omega) w4 (hG.ext hE4)).mono ?_
      rintro v w5 ⟨hE5, _, h3⟩
      obtain ⟨F, g, cap, rfl, _, hI, hT⟩ := h3 hV
      exact ⟨hE5, F, g, cap, rfl, hI, hT⟩
    rintro v3 ⟨_, _, _, _, ig, ic, rfl, _⟩
    simp only [VS, VD, SV, SL, T, Nat.reduceEqDiff, Nat.reduceAdd, Nat.reduceSub, Nat.reduceMul, Nat.reduceLeDiff, Nat.reduceLT, reduceIte]
    refine rY_ph rfl rfl (fun _ _ _ ⟨q, k1, k2, k3⟩ hE => ⟨q, k1, k2, hE.obj k3⟩) (fun w4 hE4 _ => ?_) ?_
    · simp only [VS, VD, SV, SL, T, Nat.reduceEqDiff, Nat.reduceAdd, Nat.reduceSub, Nat.reduceMul, Nat.reduceLeDiff, Nat.reduceLT, reduceIte]
      refine ⟨(Ext.refl w4).alloc _, _, rfl, hE4.size, by rw [if_pos rfl]⟩
    rintro v4 ⟨_, _, _, zc, rfl, hzc, _⟩
    simp only [VS, VD, SV, SL, T, Nat.reduceEqDiff, Nat.reduceAdd, Nat.reduceSub, Nat.reduceMul, Nat.reduceLeDiff, Nat.reduceLT, reduceIte]
    intro w4 hE4 hF
    have h1 := hF 1
    have h3 := hF 3
    have h4 := hF 4
    simp only [updF] at h1 h3 h4
    obtain ⟨_, e1, hBB⟩ := h1
    obtain ⟨F, _, _, e3, hI, hT⟩ := h3
    obtain ⟨_, e4, _, hzb⟩ := h4
    simp only [Value.pointer.injEq, Value.slice.injEq, Option.some.injEq, Addr.mk.injEq, and_true] at e4 e1
    subst e4
    obtain ⟨rfl, _⟩ := e1
    have hzl4 := get_lt hzb
    have hlen : (tl B.length F).length = B.length := tl_len _ _
    have hBz : ¬ q = zc := by
      obtain ⟨cs, hq, _⟩ := hBB
      rintro rfl
      rw [hzb] at hq
      simp at hq
    have hIz : ¬ ig = zc := by
      obtain ⟨ib, io, ics, ie, ifz, q1, _, hib, hic⟩ := hI.get (i := 0) (x := F 0) (by simp [show 0 < B.length by omega])
      simp only [Option.some.injEq, Addr.mk.injEq, and_true] at q1
      obtain ⟨rfl, rfl⟩ := q1
      rintro rfl
      rw [hzb] at hib
      simp only [Option.some.injEq, Obj.cells.injEq] at hib
      rw [← hib.1] at hic
      simp at hic
    have hE5 := (hE3.trans hE4).putb (b := zc) (by have := hE3.size; omega) (.cells #[.slice (some ⟨ig, 0, none⟩) B.length ic] 29 (0, 0))
    have hz5 : (w4.putb zc (.cells #[.slice (some ⟨ig, 0, none⟩) B.length ic] 29 (0, 0))).heap[zc]? = some (.cells #[.slice (some ⟨ig, 0, none⟩) B.length ic] 29 (0, 0)) := by rw [get_putb _ _ _ _ hzl4, if_pos rfl]
    have hI5 : IntsAt (w4.putb zc (.cells #[.slice (some ⟨ig, 0, none⟩) B.length ic] 29 (0, 0))) (.slice (some ⟨ig, 0, none⟩) B.length ic) (tl B.length F) := ints_keep hI (by rw [putb_get_ne hIz])
    have hB5 : BB (w4.putb zc (.cells #[.slice (some ⟨ig, 0, none⟩) B.length ic] 29 (0, 0))) q (nx B).length (rch (nx B) (-1)) := hBB.heap (by rw [putb_get_ne hBz])
    simp only [VS, VD, SV, SL, T, Nat.reduceEqDiff, Nat.reduceAdd, Nat.reduceSub, Nat.reduceMul, Nat.reduceLeDiff, Nat.reduceLT, reduceIte, hzb]
    refine oV_mkf (caps := [.tmp 16]) ?_
    simp only [VS, VD, SV, SL, T, Nat.reduceEqDiff, Nat.reduceAdd, Nat.reduceSub, Nat.reduceMul, Nat.reduceLeDiff, Nat.reduceLT, reduceIte]
    generalize w4.putb zc (.cells #[.slice (some ⟨ig, 0, none⟩) B.length ic] 29 (0, 0)) = w5 at *
    generalize hD : domI (tl B.length F) = D at *
    have call : ∀ (w' : World), Ext w5 w' → ∀ (u v : Int), VRet Try.prog 26 #[.int .i64 u, .int .i64 v, .pointer (some ⟨zc, 0, none⟩)] w' fun r w'' => r = .bool (D u v) ∧ Ext w' w'' := fun w' hE u v => by
      have := dclo_spec u v zc ig (tl B.length F) B.length ic (by omega) w' (hE.obj hz5) (hI5.ext hE)
      rwa [hD] at this
    have key : ∀ u v : Nat, u < B.length → v < B.length → (D u v = true ↔ An F v u) := fun u v hu hv => by
      have := domI_an hN hN0 hT (a := u) (b := v) (by omega) (by omega)
      rw [hNl, hD] at this
      exact this
    rw [hx, hy, hz]
    have hxB : x < B.length := by omega
    have hyB : y < B.length := by omega
    have hzB : z < B.length := by omega
    have dxx : D x x = true := (key x x hxB hxB).2 (.self _)
    have tra : D x y = true → D y z = true → D x z = true := fun h1 h2 => (key _ _ hxB hzB).2 (((key _ _ hyB hzB).1 h2).trans ((key _ _ hxB hyB).1 h1))
    have anti : D x y = true → D y x = true → (x : Int) = y := fun h1 h2 => by
      have := hT.antisymm ((key _ _ hxB hyB).1 h1) ((key _ _ hyB hxB).1 h2)
      omega
    have d0 : rch (nx B) (-1) z = true → D (0 : Int) z = true := fun h => (key 0 z (by omega) hzB).2 (hT.root _ z (Nat.le_refl _) ((rch_re hN hN0).1 h))
    refine oV_clo (xs := [.tmp 47, .tmp 48]) (g := 26) (caps := #[.pointer (some ⟨zc, 0, none⟩)]) (by simp only [VS, VD, SV, SL, T, Nat.reduceEqDiff, Nat.reduceAdd, Nat.reduceSub, Nat.reduceMul, Nat.reduceLeDiff, Nat.reduceLT, reduceIte]) T.en26 ?_
    simp only [VS, VD, SV, SL, T, Nat.reduceEqDiff, Nat.reduceAdd, Nat.reduceSub, Nat.reduceMul, Nat.reduceLeDiff, Nat.reduceLT, reduceIte]
    refine (call w5 (Ext.refl _) _ _).mono ?_
    rintro _ w6 ⟨rfl, hE6⟩
    simp only [VS, VD, SV, SL, T, Nat.reduceEqDiff, Nat.reduceAdd, Nat.reduceSub, Nat.reduceMul, Nat.reduceLeDiff, Nat.reduceLT, reduceIte, dxx, Bool.not_true]
    refine oV_clo (xs := [.tmp 53, .tmp 54]) (g := 26) (caps := #[.pointer (some ⟨zc, 0, none⟩)]) (by simp only [VS, VD, SV, SL, T, Nat.reduceEqDiff, Nat.reduceAdd, Nat.reduceSub, Nat.reduceMul, Nat.reduceLeDiff, Nat.reduceLT, reduceIte]) T.en26 ?_
    simp only [VS, VD, SV, SL, T, Nat.reduceEqDiff, Nat.reduceAdd, Nat.reduceSub, Nat.reduceMul, Nat.reduceLeDiff, Nat.reduceLT, reduceIte]
    refine (call w6 hE6 _ _).mono ?_
    rintro _ w7 ⟨rfl, hE7⟩
    replace hE7 := hE6.trans hE7
    simp only [VS, VD, SV, SL, T, Nat.reduceEqDiff, Nat.reduceAdd, Nat.reduceSub, Nat.reduceMul, Nat.reduceLeDiff, Nat.reduceLT, reduceIte]
    refine YG_c (fun g2 w8 => g2 12 = .int .i64 x ∧ g2 13 = .int .i64 y ∧ g2 14 = .int .i64 z ∧ g2 15 = .slice (some ⟨q, 0, none⟩) (nx B).length (nx B).length ∧ g2 17 = .func (.func 26) #[] #[.pointer (some ⟨zc, 0, none⟩)] ∧ g2 98 = .bool false ∧ Ext w5 w8) ?_ ?_
    · cases hxy : D x y with
      | false =>
        simp only [VS, VD, SV, SL, T, Nat.reduceEqDiff, Nat.reduceAdd, Nat.reduceSub, Nat.reduceMul, Nat.reduceLeDiff, Nat.reduceLT, reduceIte]
        refine oV_clo (xs := [.tmp 72, .tmp 73]) (g := 26) (caps := #[.pointer (some ⟨zc, 0, none⟩)]) (by simp only [VS, VD, SV, SL, T, Nat.reduceEqDiff, Nat.reduceAdd, Nat.reduceSub, Nat.reduceMul, Nat.reduceLeDiff, Nat.reduceLT, reduceIte]) T.en26 ?_
        simp only [VS, VD, SV, SL, T, Nat.reduceEqDiff, Nat.reduceAdd, Nat.reduceSub, Nat.reduceMul, Nat.reduceLeDiff, Nat.reduceLT, reduceIte]
        refine (call w7 hE7 _ _).mono ?_
        rintro _ wa ⟨rfl, hEa⟩
        replace hEa := hE7.trans hEa
        simp only [VS, VD, SV, SL, T, Nat.reduceEqDiff, Nat.reduceAdd, Nat.reduceSub, Nat.reduceMul, Nat.reduceLeDiff, Nat.reduceLT, reduceIte, hxy]
        obtain ⟨cs, hq, hqs, hqv⟩ := hB5.ext hEa
        have hqz := hqv z (by omega)
        cases hr : rch (nx B) (-1) z with
        | false =>
          rw [hr] at hqz
          simp only [VS, VD, SV, SL, T, Nat.reduceEqDiff, Nat.reduceAdd, Nat.reduceSub, Nat.reduceMul, Nat.reduceLeDiff, Nat.reduceLT, reduceIte, hq, hqz, Int.toNat_natCast]
          exact ⟨by omega, hEa⟩
        | true =>
          rw [hr] at hqz
          simp only [VS, VD, SV, SL, T, Nat.reduceEqDiff, Nat.reduceAdd, Nat.reduceSub, Nat.reduceMul, Nat.reduceLeDiff, Nat.reduceLT, reduceIte, hq, hqz, Int.toNat_natCast]
          refine ⟨by omega, ?_⟩
          have d0z := d0 hr
          refine oV_clo (xs := [.const (.int .i64 0), .tmp 94]) (g := 26) (caps := #[.pointer (some ⟨zc, 0, none⟩)]) (by simp only [VS, VD, SV, SL, T, Nat.reduceEqDiff, Nat.reduceAdd, Nat.reduceSub, Nat.reduceMul, Nat.reduceLeDiff, Nat.reduceLT, reduceIte]) T.en26 ?_
          simp only [VS, VD, SV, SL, T, Nat.reduceEqDiff, Nat.reduceAdd, Nat.reduceSub, Nat.reduceMul, Nat.reduceLeDiff, Nat.reduceLT, reduceIte]
          refine (call wa hEa _ _).mono ?_
          rintro _ wz ⟨rfl, hEz⟩
          replace hEz := hEa.trans hEz
          simp only [VS, VD, SV, SL, T, Nat.reduceEqDiff, Nat.reduceAdd, Nat.reduceSub, Nat.reduceMul, Nat.reduceLeDiff, Nat.reduceLT, reduceIte, d0z, Bool.not_true]
          exact hEz
      | true =>
        simp only [VS, VD, SV, SL, T, Nat.reduceEqDiff, Nat.reduceAdd, Nat.reduceSub, Nat.reduceMul, Nat.reduceLeDiff, Nat.reduceLT, reduceIte]
        refine oV_clo (xs := [.tmp 58, .tmp 59]) (g := 26) (caps := #[.pointer (some ⟨zc, 0, none⟩)]) (by simp only [VS, VD, SV, SL, T, Nat.reduceEqDiff, Nat.reduceAdd, Nat.reduceSub, Nat.reduceMul, Nat.reduceLeDiff, Nat.reduceLT, reduceIte]) T.en26 ?_
        simp only [VS, VD, SV, SL, T, Nat.reduceEqDiff, Nat.reduceAdd, Nat.reduceSub, Nat.reduceMul, Nat.reduceLeDiff, Nat.reduceLT, reduceIte]
        refine (call w7 hE7 _ _).mono ?_
        rintro _ w9 ⟨rfl, hE9⟩
        replace hE9 := hE7.trans hE9
        simp only [VS, VD, SV, SL, T, Nat.reduceEqDiff, Nat.reduceAdd, Nat.reduceSub, Nat.reduceMul, Nat.reduceLeDiff, Nat.reduceLT, reduceIte]
        cases hyz : D y z with
        | false =>
          simp only [VS, VD, SV, SL, T, Nat.reduceEqDiff, Nat.reduceAdd, Nat.reduceSub, Nat.reduceMul, Nat.reduceLeDiff, Nat.reduceLT, reduceIte]
          refine oV_clo (xs := [.tmp 72, .tmp 73]) (g := 26) (caps := #[.pointer (some ⟨zc, 0, none⟩)]) (by simp only [VS, VD, SV, SL, T, Nat.reduceEqDiff, Nat.reduceAdd, Nat.reduceSub, Nat.reduceMul, Nat.reduceLeDiff, Nat.reduceLT, reduceIte]) T.en26 ?_
          simp only [VS, VD, SV, SL, T, Nat.reduceEqDiff, Nat.reduceAdd, Nat.reduceSub, Nat.reduceMul, Nat.reduceLeDiff, Nat.reduceLT, reduceIte]
          refine (call w9 hE9 _ _).mono ?_
          rintro _ wa ⟨rfl, hEa⟩
          replace hEa := hE9.trans hEa
          simp only [VS, VD, SV, SL, T, Nat.reduceEqDiff, Nat.reduceAdd, Nat.reduceSub, Nat.reduceMul, Nat.reduceLeDiff, Nat.reduceLT, reduceIte, hxy]
          refine oV_clo (xs := [.tmp 77, .tmp 78]) (g := 26) (caps := #[.pointer (some ⟨zc, 0, none⟩)]) (by simp only [VS, VD, SV, SL, T, Nat.reduceEqDiff, Nat.reduceAdd, Nat.reduceSub, Nat.reduceMul, Nat.reduceLeDiff, Nat.reduceLT, reduceIte]) T.en26 ?_
          simp only [VS, VD, SV, SL, T, Nat.reduceEqDiff, Nat.reduceAdd, Nat.reduceSub, Nat.reduceMul, Nat.reduceLeDiff, Nat.reduceLT, reduceIte]
          refine (call wa hEa _ _).mono ?_
          rintro _ wb ⟨rfl, hEb⟩
          replace hEb := hEa.trans hEb
          simp only [VS, VD, SV, SL, T, Nat.reduceEqDiff, Nat.reduceAdd, Nat.reduceSub, Nat.reduceMul, Nat.reduceLeDiff, Nat.reduceLT, reduceIte]
          cases hyx : D y x with
          | false =>
            simp only [VS, VD, SV, SL, T, Nat.reduceEqDiff, Nat.reduceAdd, Nat.reduceSub, Nat.reduceMul, Nat.reduceLeDiff, Nat.reduceLT, reduceIte]
            obtain ⟨cs, hq, hqs, hqv⟩ := hB5.ext hEb
            have hqz := hqv z (by omega)
            cases hr : rch (nx B) (-1) z with
            | false =>
              rw [hr] at hqz
              simp only [VS, VD, SV, SL, T, Nat.reduceEqDiff, Nat.reduceAdd, Nat.reduceSub, Nat.reduceMul, Nat.reduceLeDiff, Nat.reduceLT, reduceIte, hq, hqz, Int.toNat_natCast]
              exact ⟨by omega, hEb⟩
            | true =>
              rw [hr] at hqz
              simp only [VS, VD, SV, SL, T, Nat.reduceEqDiff, Nat.reduceAdd, Nat.reduceSub, Nat.reduceMul, Nat.reduceLeDiff, Nat.reduceLT, reduceIte, hq, hqz, Int.toNat_natCast]
              refine ⟨by omega, ?_⟩
              have d0z := d0 hr
              refine oV_clo (xs := [.const (.int .i64 0), .tmp 94]) (g := 26) (caps := #[.pointer (some ⟨zc, 0, none⟩)]) (by simp only [VS, VD, SV, SL, T, Nat.reduceEqDiff, Nat.reduceAdd, Nat.reduceSub, Nat.reduceMul, Nat.reduceLeDiff, Nat.reduceLT, reduceIte]) T.en26 ?_
              simp only [VS, VD, SV, SL, T, Nat.reduceEqDiff, Nat.reduceAdd, Nat.reduceSub, Nat.reduceMul, Nat.reduceLeDiff, Nat.reduceLT, reduceIte]
              refine (call wb hEb _ _).mono ?_
              rintro _ wz ⟨rfl, hEz⟩
              replace hEz := hEb.trans hEz
              simp only [VS, VD, SV, SL, T, Nat.reduceEqDiff, Nat.reduceAdd, Nat.reduceSub, Nat.reduceMul, Nat.reduceLeDiff, Nat.reduceLT, reduceIte, d0z, Bool.not_true]
              exact hEz
          | true =>
            have exy := anti hxy hyx
            have dne : decide (¬ (x : Int) = y) = false := decide_eq_false (fun h => h exy)
            simp only [VS, VD, SV, SL, T, Nat.reduceEqDiff, Nat.reduceAdd, Nat.reduceSub, Nat.reduceMul, Nat.reduceLeDiff, Nat.reduceLT, reduceIte, dne]
            obtain ⟨cs, hq, hqs, hqv⟩ := hB5.ext hEb
            have hqz := hqv z (by omega)
            cases hr : rch (nx B) (-1) z with
            | false =>
              rw [hr] at hqz
              simp only [VS, VD, SV, SL, T, Nat.reduceEqDiff, Nat.reduceAdd, Nat.reduceSub, Nat.reduceMul, Nat.reduceLeDiff, Nat.reduceLT, reduceIte, hq, hqz, Int.toNat_natCast]
              exact ⟨by omega, hEb⟩
            | true =>
              rw [hr] at hqz
              simp only [VS, VD, SV, SL, T, Nat.reduceEqDiff, Nat.reduceAdd, Nat.reduceSub, Nat.reduceMul, Nat.reduceLeDiff, Nat.reduceLT, reduceIte, hq, hqz, Int.toNat_natCast]
              refine ⟨by omega, ?_⟩
              have d0z := d0 hr
              refine oV_clo (xs := [.const (.int .i64 0), .tmp 94]) (g := 26) (caps := #[.pointer (some ⟨zc, 0, none⟩)]) (by simp only [VS, VD, SV, SL, T, Nat.reduceEqDiff, Nat.reduceAdd, Nat.reduceSub, Nat.reduceMul, Nat.reduceLeDiff, Nat.reduceLT, reduceIte]) T.en26 ?_
              simp only [VS, VD, SV, SL, T, Nat.reduceEqDiff, Nat.reduceAdd, Nat.reduceSub, Nat.reduceMul, Nat.reduceLeDiff, Nat.reduceLT, reduceIte]
              refine (call wb hEb _ _).mono ?_
              rintro _ wz ⟨rfl, hEz⟩
              replace hEz := hEb.trans hEz
              simp only [VS, VD, SV, SL, T, Nat.reduceEqDiff, Nat.reduceAdd, Nat.reduceSub, Nat.reduceMul, Nat.reduceLeDiff, Nat.reduceLT, reduceIte, d0z, Bool.not_true]
              exact hEz
        | true =>
          have hxz := tra hxy hyz
          simp only [VS, VD, SV, SL, T, Nat.reduceEqDiff, Nat.reduceAdd, Nat.reduceSub, Nat.reduceMul, Nat.reduceLeDiff, Nat.reduceLT, reduceIte]
          refine oV_clo (xs := [.tmp 64, .tmp 65]) (g := 26) (caps := #[.pointer (some ⟨zc, 0, none⟩)]) (by simp only [VS, VD, SV, SL, T, Nat.reduceEqDiff, Nat.reduceAdd, Nat.reduceSub, Nat.reduceMul, Nat.reduceLeDiff, Nat.reduceLT, reduceIte]) T.en26 ?_
          simp only [VS, VD, SV, SL, T, Nat.reduceEqDiff, Nat.reduceAdd, Nat.reduceSub, Nat.reduceMul, Nat.reduceLeDiff, Nat.reduceLT, reduceIte]
          refine (call w9 hE9 _ _).mono ?_
          rintro _ w10 ⟨rfl, hE10⟩
          replace hE10 := hE9.trans hE10
          simp only [VS, VD, SV, SL, T, Nat.reduceEqDiff, Nat.reduceAdd, Nat.reduceSub, Nat.reduceMul, Nat.reduceLeDiff, Nat.reduceLT, reduceIte, hxz, Bool.not_true]
          refine oV_clo (xs := [.tmp 72, .tmp 73]) (g := 26) (caps := #[.pointer (some ⟨zc, 0, none⟩)]) (by simp only [VS, VD, SV, SL, T, Nat.reduceEqDiff, Nat.reduceAdd, Nat.reduceSub, Nat.reduceMul, Nat.reduceLeDiff, Nat.reduceLT, reduceIte]) T.en26 ?_
          simp only [VS, VD, SV, SL, T, Nat.reduceEqDiff, Nat.reduceAdd, Nat.reduceSub, Nat.reduceMul, Nat.reduceLeDiff, Nat.reduceLT, reduceIte]
          refine (call w10 hE10 _ _).mono ?_
          rintro _ wa ⟨rfl, hEa⟩
          replace hEa := hE10.trans hEa
          simp only [VS, VD, SV, SL, T, Nat.reduceEqDiff, Nat.reduceAdd, Nat.reduceSub, Nat.reduceMul, Nat.reduceLeDiff, Nat.reduceLT, reduceIte, hxy]
          refine oV_clo (xs := [.tmp 77, .tmp 78]) (g := 26) (caps := #[.pointer (some ⟨zc, 0, none⟩)]) (by simp only [VS, VD, SV, SL, T, Nat.reduceEqDiff, Nat.reduceAdd, Nat.reduceSub, Nat.reduceMul, Nat.reduceLeDiff, Nat.reduceLT, reduceIte]) T.en26 ?_
          simp only [VS, VD, SV, SL, T, Nat.reduceEqDiff, Nat.reduceAdd, Nat.reduceSub, Nat.reduceMul, Nat.reduceLeDiff, Nat.reduceLT, reduceIte]
          refine (call wa hEa _ _).mono ?_
          rintro _ wb ⟨rfl, hEb⟩
          replace hEb := hEa.trans hEb
          simp only [VS, VD, SV, SL, T, Nat.reduceEqDiff, Nat.reduceAdd, Nat.reduceSub, Nat.reduceMul, Nat.reduceLeDiff, Nat.reduceLT, reduceIte]
          cases hyx : D y x with
          | false =>
            simp only [VS, VD, SV, SL, T, Nat.reduceEqDiff, Nat.reduceAdd, Nat.reduceSub, Nat.reduceMul, Nat.reduceLeDiff, Nat.reduceLT, reduceIte]
            obtain ⟨cs, hq, hqs, hqv⟩ := hB5.ext hEb
            have hqz := hqv z (by omega)
            cases hr : rch (nx B) (-1) z with
            | false =>
              rw [hr] at hqz
              simp only [VS, VD, SV, SL, T, Nat.reduceEqDiff, Nat.reduceAdd, Nat.reduceSub, Nat.reduceMul, Nat.reduceLeDiff, Nat.reduceLT, reduceIte, hq, hqz, Int.toNat_natCast]
              exact ⟨by omega, hEb⟩
            | true =>
              rw [hr] at hqz
              simp only [VS, VD, SV, SL, T, Nat.reduceEqDiff, Nat.reduceAdd, Nat.reduceSub, Nat.reduceMul, Nat.reduceLeDiff, Nat.reduceLT, reduceIte, hq, hqz, Int.toNat_natCast]
              refine ⟨by omega, ?_⟩
              have d0z := d0 hr
              refine oV_clo (xs := [.const (.int .i64 0), .tmp 94]) (g := 26) (caps := #[.pointer (some ⟨zc, 0, none⟩)]) (by simp only [VS, VD, SV, SL, T, Nat.reduceEqDiff, Nat.reduceAdd, Nat.reduceSub, Nat.reduceMul, Nat.reduceLeDiff, Nat.reduceLT, reduceIte]) T.en26 ?_
              simp only [VS, VD, SV, SL, T, Nat.reduceEqDiff, Nat.reduceAdd, Nat.reduceSub, Nat.reduceMul, Nat.reduceLeDiff, Nat.reduceLT, reduceIte]
              refine (call wb hEb _ _).mono ?_
              rintro _ wz ⟨rfl, hEz⟩
              replace hEz := hEb.trans hEz
              simp only [VS, VD, SV, SL, T, Nat.reduceEqDiff, Nat.reduceAdd, Nat.reduceSub, Nat.reduceMul, Nat.reduceLeDiff, Nat.reduceLT, reduceIte, d0z, Bool.not_true]
              exact hEz
          | true =>
            have exy := anti hxy hyx
            have dne : decide (¬ (x : Int) = y) = false := decide_eq_false (fun h => h exy)
            simp only [VS, VD, SV, SL, T, Nat.reduceEqDiff, Nat.reduceAdd, Nat.reduceSub, Nat.reduceMul, Nat.reduceLeDiff, Nat.reduceLT, reduceIte, dne]
            obtain ⟨cs, hq, hqs, hqv⟩ := hB5.ext hEb
            have hqz := hqv z (by omega)
            cases hr : rch (nx B) (-1) z with
            | false =>
              rw [hr] at hqz
              simp only [VS, VD, SV, SL, T, Nat.reduceEqDiff, Nat.reduceAdd, Nat.reduceSub, Nat.reduceMul, Nat.reduceLeDiff, Nat.reduceLT, reduceIte, hq, hqz, Int.toNat_natCast]
              exact ⟨by omega, hEb⟩
            | true =>
              rw [hr] at hqz
              simp only [VS, VD, SV, SL, T, Nat.reduceEqDiff, Nat.reduceAdd, Nat.reduceSub, Nat.reduceMul, Nat.reduceLeDiff, Nat.reduceLT, reduceIte, hq, hqz, Int.toNat_natCast]
              refine ⟨by omega, ?_⟩
              have d0z := d0 hr
              refine oV_clo (xs := [.const (.int .i64 0), .tmp 94]) (g := 26) (caps := #[.pointer (some ⟨zc, 0, none⟩)]) (by simp only [VS, VD, SV, SL, T, Nat.reduceEqDiff, Nat.reduceAdd, Nat.reduceSub, Nat.reduceMul, Nat.reduceLeDiff, Nat.reduceLT, reduceIte]) T.en26 ?_
              simp only [VS, VD, SV, SL, T, Nat.reduceEqDiff, Nat.reduceAdd, Nat.reduceSub, Nat.reduceMul, Nat.reduceLeDiff, Nat.reduceLT, reduceIte]
              refine (call wb hEb _ _).mono ?_
              rintro _ wz ⟨rfl, hEz⟩
              replace hEz := hEb.trans hEz
              simp only [VS, VD, SV, SL, T, Nat.reduceEqDiff, Nat.reduceAdd, Nat.reduceSub, Nat.reduceMul, Nat.reduceLeDiff, Nat.reduceLT, reduceIte, d0z, Bool.not_true]
              exact hEz
    · rintro g2 w8 ⟨k12, k13, k14, k15, k17, k98, hE8⟩
      simp only [VS, VD, SV, SL, T, Nat.reduceEqDiff, Nat.reduceAdd, Nat.reduceSub, Nat.reduceMul, Nat.reduceLeDiff, Nat.reduceLT, reduceIte, k98, k12, k13, k14, k17]
      refine oV_clo (xs := [.tmp 100, .tmp 101]) (g := 26) (caps := #[.pointer (some ⟨zc, 0, none⟩)]) (by simp only [VS, VD, SV, SL, T, Nat.reduceEqDiff, Nat.reduceAdd, Nat.reduceSub, Nat.reduceMul, Nat.reduceLeDiff, Nat.reduceLT, reduceIte, k17]) T.en26 ?_
      simp only [VS, VD, SV, SL, T, Nat.reduceEqDiff, Nat.reduceAdd, Nat.reduceSub, Nat.reduceMul, Nat.reduceLeDiff, Nat.reduceLT, reduceIte, k12, k13, k14]
      refine (call w8 hE8 _ _).mono ?_
      rintro _ w9 ⟨rfl, hE9⟩
      replace hE9 := hE8.trans hE9
      simp only [VS, VD, SV, SL, T, Nat.reduceEqDiff, Nat.reduceAdd, Nat.reduceSub, Nat.reduceMul, Nat.reduceLeDiff, Nat.reduceLT, reduceIte, k12, k13, k14, k17]
      cases hxz : D x z with
      | false =>
        simp only [VS, VD, SV, SL, T, Nat.reduceEqDiff, Nat.reduceAdd, Nat.reduceSub, Nat.reduceMul, Nat.reduceLeDiff, Nat.reduceLT, reduceIte, Bool.not_false]
        exact hΨ _ _ ⟨rfl, hE5.trans hE9⟩
      | true =>
        simp only [VS, VD, SV, SL, T, Nat.reduceEqDiff, Nat.reduceAdd, Nat.reduceSub, Nat.reduceMul, Nat.reduceLeDiff, Nat.reduceLT, reduceIte, Bool.not_true]
        refine oV_clo (xs := [.tmp 106, .tmp 107]) (g := 26) (caps := #[.pointer (some ⟨zc, 0, none⟩)]) (by simp only [VS, VD, SV, SL, T, Nat.reduceEqDiff, Nat.reduceAdd, Nat.reduceSub, Nat.reduceMul, Nat.reduceLeDiff, Nat.reduceLT, reduceIte, k17]) T.en26 ?_
        simp only [VS, VD, SV, SL, T, Nat.reduceEqDiff, Nat.reduceAdd, Nat.reduceSub, Nat.reduceMul, Nat.reduceLeDiff, Nat.reduceLT, reduceIte, k12, k13, k14]
        refine (call w9 hE9 _ _).mono ?_
        rintro _ w10 ⟨rfl, hE10⟩
        replace hE10 := hE9.trans hE10
        simp only [VS, VD, SV, SL, T, Nat.reduceEqDiff, Nat.reduceAdd, Nat.reduceSub, Nat.reduceMul, Nat.reduceLeDiff, Nat.reduceLT, reduceIte, k12, k13, k14, k17]
        cases hyz : D y z with
        | false =>
          simp only [VS, VD, SV, SL, T, Nat.reduceEqDiff, Nat.reduceAdd, Nat.reduceSub, Nat.reduceMul, Nat.reduceLeDiff, Nat.reduceLT, reduceIte, Bool.not_false]
          exact hΨ _ _ ⟨rfl, hE5.trans hE10⟩
        | true =>
          simp only [VS, VD, SV, SL, T, Nat.reduceEqDiff, Nat.reduceAdd, Nat.reduceSub, Nat.reduceMul, Nat.reduceLeDiff, Nat.reduceLT, reduceIte, Bool.not_true]
          refine oV_clo (xs := [.tmp 113, .tmp 114]) (g := 26) (caps := #[.pointer (some ⟨zc, 0, none⟩)]) (by simp only [VS, VD, SV, SL, T, Nat.reduceEqDiff, Nat.reduceAdd, Nat.reduceSub, Nat.reduceMul, Nat.reduceLeDiff, Nat.reduceLT, reduceIte, k17]) T.en26 ?_
          simp only [VS, VD, SV, SL, T, Nat.reduceEqDiff, Nat.reduceAdd, Nat.reduceSub, Nat.reduceMul, Nat.reduceLeDiff, Nat.reduceLT, reduceIte, k12, k13, k14]
          refine (call w10 hE10 _ _).mono ?_
          rintro _ w11 ⟨rfl, hE11⟩
          replace hE11 := hE10.trans hE11
          simp only [VS, VD, SV, SL, T, Nat.reduceEqDiff, Nat.reduceAdd, Nat.reduceSub, Nat.reduceMul, Nat.reduceLeDiff, Nat.reduceLT, reduceIte, k12, k13, k14, k17]
          cases hxy : D x y with
          | true =>
            simp only [VS, VD, SV, SL, T, Nat.reduceEqDiff, Nat.reduceAdd, Nat.reduceSub, Nat.reduceMul, Nat.reduceLeDiff, Nat.reduceLT, reduceIte]
            exact hΨ _ _ ⟨rfl, hE5.trans hE11⟩
          | false =>
            simp only [VS, VD, SV, SL, T, Nat.reduceEqDiff, Nat.reduceAdd, Nat.reduceSub, Nat.reduceMul, Nat.reduceLeDiff, Nat.reduceLT, reduceIte]
            refine oV_clo (xs := [.tmp 119, .tmp 120]) (g := 26) (caps := #[.pointer (some ⟨zc, 0, none⟩)]) (by simp only [VS, VD, SV, SL, T, Nat.reduceEqDiff, Nat.reduceAdd, Nat.reduceSub, Nat.reduceMul, Nat.reduceLeDiff, Nat.reduceLT, reduceIte, k17]) T.en26 ?_
            simp only [VS, VD, SV, SL, T, Nat.reduceEqDiff, Nat.reduceAdd, Nat.reduceSub, Nat.reduceMul, Nat.reduceLeDiff, Nat.reduceLT, reduceIte, k12, k13, k14]
            refine (call w11 hE11 _ _).mono ?_
            rintro _ w12 ⟨rfl, hE12⟩
            replace hE12 := hE11.trans hE12
            simp only [VS, VD, SV, SL, T, Nat.reduceEqDiff, Nat.reduceAdd, Nat.reduceSub, Nat.reduceMul, Nat.reduceLeDiff, Nat.reduceLT, reduceIte, k12, k13, k14, k17]
            have hyx : D y x = true := by
              rcases An.chain ((key _ _ hxB hzB).1 hxz) ((key _ _ hyB hzB).1 hyz) with h | h
              · exact (key _ _ hyB hxB).2 h
              · rw [(key _ _ hxB hyB).2 h] at hxy; cases hxy
            simp only [VS, VD, SV, SL, T, Nat.reduceEqDiff, Nat.reduceAdd, Nat.reduceSub, Nat.reduceMul, Nat.reduceLeDiff, Nat.reduceLT, reduceIte, hyx]
            exact hΨ _ _ ⟨rfl, hE5.trans hE12⟩
end Go.Proofs.Ytjilblndcbphgaa

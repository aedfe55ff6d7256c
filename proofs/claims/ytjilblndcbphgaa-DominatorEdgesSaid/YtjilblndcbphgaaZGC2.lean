/-
  The example of chapter 25.
-/
import Derived.Test.YtjilblndcbphgaaZGC1
import Derived.Test.YtjilblndcbphgaaZGB9
import Derived.Test.YtjilblndcbphgaaZGB8
set_option linter.unusedSimpArgs false
set_option linter.unusedVariables false
namespace Go.Proofs.Ytjilblndcbphgaa
open Go.W Go.RowKit
def exN : List (List Int) := [[1, 2], [3], [3], []]
theorem ex_ord : ord exN = [0, 2, 1, 3] := by decide +kernel
theorem ex_tree : (List.range 4).map (rtr exN) = [-1, 0, 0, 0] := by decide +kernel
theorem ex_fr : (List.range 4).map (rfr exN 4) = [[], [3], [3], []] := by decide +kernel
theorem ex_nv : NV exN := ⟨by unfold NOk exN; decide, by decide, by unfold exN; decide, by unfold exN; decide⟩
/-- Tree's list is the reference's -/
theorem tl_rtr {N : List (List Int)} {F : Nat → Int} (h : NV N) (hT : TreeOk N F) : (List.range N.length).map F = (List.range N.length).map (rtr N) := List.map_congr_left fun b _ => (rtr_eq h.ok h.pos hT b).symm
theorem ints_new {w : World} {g : Nat} {l : List Int} {n c : Nat} {e : TypeId} (hn : n = l.length) (h : w.heap[g]? = some (.cells (l.map (Value.int .i64)).toArray e (0, 0))) : IntsAt w (.slice (some ⟨g, 0, none⟩) n c) l := by
  subst hn
  refine .inr ⟨g, 0, c, rfl, fun i x hx => ?_⟩
  rw [cell_mk, h]
  have hi := (List.getElem?_eq_some_iff.1 hx).1
  simp [hx]
set_option maxRecDepth 10000 in
theorem awake_spec (w : World) : VRet Try.prog 12 #[] w fun v w' => v = .bool true ∧ Ext w w' := by
  refine VRet_start T.mo ok12 rfl fun Ψ hΨ => ?_; simp only [vc12, rs12]
  simp only [VS, VD, SV, SL, T, Nat.reduceEqDiff, Nat.reduceAdd, Nat.reduceSub, Nat.reduceMul, Nat.reduceLeDiff, Nat.reduceLT, reduceIte]
  refine (Graph_spec (N := exN) ex_nv.ok ex_nv.two (by decide) _ _ ?_).mono ?_
  · refine .inr ⟨_, 0, _, rfl, fun i l hl => ?_⟩
    rw [cell_mk]
    match i, hl with
    | 0, hl =>
      obtain rfl : [1, 2] = l := by simpa [exN] using hl
      exact ⟨.slice (some ⟨w.heap.size, 0, none⟩) 2 2, by simp only [VS, VD, SV, SL, T, Nat.reduceEqDiff, Nat.reduceAdd, Nat.reduceSub, Nat.reduceMul, Nat.reduceLeDiff, Nat.reduceLT, reduceIte], ints_new rfl (by simp only [VS, VD, SV, SL, T, Nat.reduceEqDiff, Nat.reduceAdd, Nat.reduceSub, Nat.reduceMul, Nat.reduceLeDiff, Nat.reduceLT, reduceIte]; rfl)⟩
    | 1, hl =>
      obtain rfl : [3] = l := by simpa [exN] using hl
      exact ⟨.slice (some ⟨w.heap.size + 1, 0, none⟩) 1 1, by simp only [VS, VD, SV, SL, T, Nat.reduceEqDiff, Nat.reduceAdd, Nat.reduceSub, Nat.reduceMul, Nat.reduceLeDiff, Nat.reduceLT, reduceIte], ints_new rfl (by simp only [VS, VD, SV, SL, T, Nat.reduceEqDiff, Nat.reduceAdd, Nat.reduceSub, Nat.reduceMul, Nat.reduceLeDiff, Nat.reduceLT, reduceIte]; rfl)⟩
    | 2, hl =>
      obtain rfl : [3] = l := by simpa [exN] using hl
      exact ⟨.slice (some ⟨w.heap.size + 2, 0, none⟩) 1 1, by simp only [VS, VD, SV, SL, T, Nat.reduceEqDiff, Nat.reduceAdd, Nat.reduceSub, Nat.reduceMul, Nat.reduceLeDiff, Nat.reduceLT, reduceIte], ints_new rfl (by simp only [VS, VD, SV, SL, T, Nat.reduceEqDiff, Nat.reduceAdd, Nat.reduceSub, Nat.reduceMul, Nat.reduceLeDiff, Nat.reduceLT, reduceIte]; rfl)⟩
    | 3, hl =>
      obtain rfl : [] = l := by simpa [exN] using hl
      exact ⟨.slice none 0 0, by simp only [VS, VD, SV, SL, T, Nat.reduceEqDiff, Nat.reduceAdd, Nat.reduceSub, Nat.reduceMul, Nat.reduceLeDiff, Nat.reduceLT, reduceIte], .inl ⟨⟨_, _, rfl⟩, rfl⟩⟩
    | i + 4, hl => simp [exN] at hl
  · rintro gv w5 ⟨hE5, hG⟩
    replace hE5 := ((((((Ext.refl w).alloc _).alloc _).alloc _).alloc _).trans hE5)
    have hVG := VG_blks ex_nv
    have hnx := nx_blks exN
    have hbl : (blks exN exN.length).length = 4 := rfl
    have hG' := hG
    obtain ⟨bs, pv, rfl, hb1, hp1⟩ := hG'
    obtain ⟨ba, bc, rfl⟩ := hb1.form
    obtain ⟨pa, pc, rfl⟩ := hp1.form'
    rw [hbl] at *
    simp only [VS, VD, SV, SL, T, Nat.reduceEqDiff, Nat.reduceAdd, Nat.reduceSub, Nat.reduceMul, Nat.reduceLeDiff, Nat.reduceLT, reduceIte]
    refine (Frontier_spec _ (blks exN 4) (prevOf exN) (by rw [blks_len]; omega) _ (hG.ext ((Ext.refl _).alloc tomb))).mono ?_
    rintro vf w6 ⟨hE6, _, hF⟩
    obtain ⟨q, rfl, hFr⟩ := hF hVG
    have e1 : nx (blks exN 4) = exN := hnx
    rw [e1, blks_len] at hFr
    rw [ex_fr] at hFr
    replace hG := hG.ext (((Ext.refl _).alloc tomb).trans hE6)
    replace hE6 := (hE5.alloc tomb).trans hE6
    simp only [VS, VD, SV, SL, T, Nat.reduceEqDiff, Nat.reduceAdd, Nat.reduceSub, Nat.reduceMul, Nat.reduceLeDiff, Nat.reduceLT, reduceIte]
    refine (Valid_spec _ (blks exN 4) (prevOf exN) (by rw [blks_len]; omega) _ hG).mono ?_
    rintro _ w7 ⟨rfl, hE7⟩
    replace hG := hG.ext hE7
    replace hFr := hFr.ext hE7
    replace hE7 := hE6.trans hE7
    have hVG4 : VG (blks exN 4) (prevOf exN) = true := hVG
    simp only [VS, VD, SV, SL, T, Nat.reduceEqDiff, Nat.reduceAdd, Nat.reduceSub, Nat.reduceMul, Nat.reduceLeDiff, Nat.reduceLT, reduceIte, hVG4]
    refine (Tree_spec _ (blks exN 4) (prevOf exN) (by rw [blks_len]; omega) _ hG).mono ?_
    rintro _ w8 ⟨hE8, _, hT⟩
    obtain ⟨F, ig, ic, rfl, _, hI, hTk⟩ := hT hVG
    replace hG := hG.ext hE8
    replace hFr := hFr.ext hE8
    replace hE8 := hE7.trans hE8
    rw [e1] at hTk
    have e2 := tl_rtr ex_nv hTk
    have e3 : exN.length = 4 := rfl
    rw [e3, ex_tree] at e2
    rw [blks_len, e2] at hI
    simp only [VS, VD, SV, SL, T, Nat.reduceEqDiff, Nat.reduceAdd, Nat.reduceSub, Nat.reduceMul, Nat.reduceLeDiff, Nat.reduceLT, reduceIte, blks_len]
    refine (Ints_spec _ _ [-1, 0, 0, 0] [-1, 0, 0, 0] (by simp) _ (hI.ext ((Ext.refl _).alloc _)) (ints_new rfl (by simp only [VS, VD, SV, SL, T, Nat.reduceEqDiff, Nat.reduceAdd, Nat.reduceSub, Nat.reduceMul, Nat.reduceLeDiff, Nat.reduceLT, reduceIte]; rfl))).mono ?_
    rintro _ w9 ⟨rfl, hE9⟩
    replace hG := hG.ext (((Ext.refl _).alloc _).trans hE9)
    replace hFr := hFr.ext (((Ext.refl _).alloc _).trans hE9)
    replace hE9 := (hE8.alloc _).trans hE9
    have dT : ∀ l : List Int, decide (l = l) = true := fun l => decide_eq_true rfl
    simp only [VS, VD, SV, SL, T, Nat.reduceEqDiff, Nat.reduceAdd, Nat.reduceSub, Nat.reduceMul, Nat.reduceLeDiff, Nat.reduceLT, reduceIte, dT]
    refine (Order_spec _ (blks exN 4) (prevOf exN) (by rw [blks_len]; omega) _ hG).mono ?_
    rintro _ w10 ⟨hE10, _, hO⟩
    obtain ⟨og, oc, rfl, _, _, hoI⟩ := hO hVG
    rw [e1, ex_ord] at hoI
    replace hFr := hFr.ext hE10
    replace hE10 := hE9.trans hE10
    have fr : ∀ (w' : World), Ext w10 w' → ∀ (i : Nat) (l : List Int), [[], [3], [3], []][i]? = some l → ∃ cs e fz u, w'.heap[q]? = some (.cells cs e fz) ∧ cs[i]? = some u ∧ IntsAt w' u l := by
      intro w' hE i l hl
      have hil := (List.getElem?_eq_some_iff.1 hl)
      obtain ⟨hi, hl'⟩ := hil
      obtain ⟨b, off, cs, e, fz, u, e5, h1, h2, h3⟩ := IntssAt.get' (ll := [[], [3], [3], []]) (hFr.ext hE) hi
      simp only [Option.some.injEq, Addr.mk.injEq, and_true] at e5
      obtain ⟨rfl, rfl⟩ := e5
      rw [Nat.zero_add] at h2
      exact ⟨cs, e, fz, u, h1, h2, hl' ▸ h3⟩
    have t1 : (1 : Int).toNat = 1 := rfl
    have t2 : (2 : Int).toNat = 2 := rfl
    have t0 : (0 : Int).toNat = 0 := rfl
    simp only [VS, VD, SV, SL, T, Nat.reduceEqDiff, Nat.reduceAdd, Nat.reduceSub, Nat.reduceMul, Nat.reduceLeDiff, Nat.reduceLT, reduceIte, e1, ex_ord]
    refine (Ints_spec _ _ [0, 2, 1, 3] [0, 2, 1, 3] (by simp) _ (hoI.ext ((Ext.refl _).alloc _)) (ints_new rfl (by simp only [VS, VD, SV, SL, T, Nat.reduceEqDiff, Nat.reduceAdd, Nat.reduceSub, Nat.reduceMul, Nat.reduceLeDiff, Nat.reduceLT, reduceIte]; rfl))).mono ?_
    rintro _ w11 ⟨rfl, hE11⟩
    replace hE11 := ((Ext.refl w10).alloc _).trans hE11
    obtain ⟨cs1, et1, fz1, u1, hq1, hu1, hI1⟩ := fr w11 hE11 1 [3] rfl
    obtain ⟨a1, c1, rfl⟩ := hI1.form
    have d4 : decide (((4 : Nat) : Int) = 4) = true := by decide
    have d0 : decide (((0 : Nat) : Int) = 0) = true := by decide
    simp only [VS, VD, SV, SL, T, Nat.reduceEqDiff, Nat.reduceAdd, Nat.reduceSub, Nat.reduceMul, Nat.reduceLeDiff, Nat.reduceLT, reduceIte, dT, blks_len, d4, hq1, hu1, t1, List.length_singleton]
    refine ⟨by omega, ?_⟩
    refine (Ints_spec _ _ [3] [3] (by simp) _ (hI1.ext ((Ext.refl _).alloc _)) (ints_new rfl (by simp only [VS, VD, SV, SL, T, Nat.reduceEqDiff, Nat.reduceAdd, Nat.reduceSub, Nat.reduceMul, Nat.reduceLeDiff, Nat.reduceLT, reduceIte]; rfl))).mono ?_
    rintro _ w12 ⟨rfl, hE12⟩
    replace hE12 := (hE11.alloc _).trans hE12
    obtain ⟨cs2, et2, fz2, u2, hq2, hu2, hI2⟩ := fr w12 hE12 2 [3] rfl
    obtain ⟨a2, c2, rfl⟩ := hI2.form
    simp only [VS, VD, SV, SL, T, Nat.reduceEqDiff, Nat.reduceAdd, Nat.reduceSub, Nat.reduceMul, Nat.reduceLeDiff, Nat.reduceLT, reduceIte, dT, hq2, hu2, t2, List.length_singleton]
    refine ⟨by omega, ?_⟩
    refine (Ints_spec _ _ [3] [3] (by simp) _ (hI2.ext ((Ext.refl _).alloc _)) (ints_new rfl (by simp only [VS, VD, SV, SL, T, Nat.reduceEqDiff, Nat.reduceAdd, Nat.reduceSub, Nat.reduceMul, Nat.reduceLeDiff, Nat.reduceLT, reduceIte]; rfl))).mono ?_
    rintro _ w13 ⟨rfl, hE13⟩
    replace hE13 := (hE12.alloc _).trans hE13
    obtain ⟨cs3, et3, fz3, u3, hq3, hu3, hI3⟩ := fr w13 hE13 0 [] rfl
    obtain ⟨a3, c3, rfl⟩ := hI3.form
    simp only [VS, VD, SV, SL, T, Nat.reduceEqDiff, Nat.reduceAdd, Nat.reduceSub, Nat.reduceMul, Nat.reduceLeDiff, Nat.reduceLT, reduceIte, dT, hq3, hu3, t0, d0, List.length_nil]
    exact ⟨by omega, hΨ _ _ ⟨rfl, hE10.trans hE13⟩⟩
end Go.Proofs.Ytjilblndcbphgaa

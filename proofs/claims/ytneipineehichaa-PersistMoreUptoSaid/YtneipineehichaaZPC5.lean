/-
  persist: awake; PersistLines.
-/
import Derived.Test.YtneipineehichaaZPC4
set_option linter.unusedSimpArgs false
set_option linter.unusedVariables false
namespace Go.Proofs.Ytneipineehichaa
open Go.W Go.RowKit
def exL : List (Int × Int) := [(0, 0), (1, 1), (2, 2)]
theorem exL_acd (n : Int) (h : acd exL n = true) : n < 3 := by
  obtain ⟨r, hr, h⟩ := acd_iff.1 h
  simp only [exL, List.mem_cons, List.not_mem_nil, or_false] at hr
  unfold alw at h
  rcases hr with rfl | rfl | rfl <;> simp only [] at h <;> omega
theorem exL_cnt0 : cnt exL 2 0 = 2 := by
  rw [cnt, ← lns_stop (k := 3) exL_acd]; rfl
theorem exL_cnt1 : cnt exL 2 1 = 1 := by
  rw [cnt, ← lns_stop (k := 3) exL_acd]; rfl
theorem exL_conf : confI 2 1 4 exL = [2, 1] := by
  have e : (List.range (2 : Int).toNat) = [0, 1] := rfl
  rw [confI, if_pos (by decide), cnts, e]
  simp only [List.map_cons, List.map_nil, exL_cnt0, exL_cnt1]
  rfl
theorem exL_pers (y : Int) : pers exL 2 y = ([0, 1, 2].filter fun (n : Nat) => acd exL (n : Int) && decide ((cnt exL 2 ((n : Int) % 2).toNat : Int) ≤ y)).map fun (n : Nat) => (n : Int) := by
  rw [← persK_stop (k := 3) exL_acd]; rfl
theorem exL_a (n : Nat) (h : n < 3) : acd exL (n : Int) = true := by
  have : n = 0 ∨ n = 1 ∨ n = 2 := by omega
  rcases this with rfl | rfl | rfl <;> rfl
theorem exL_p1 : persI 2 1 4 exL = [1] := by
  rw [persI, if_pos (by decide), exL_pers]
  simp only [List.filter_cons, List.filter_nil, exL_a 0 (by omega), exL_a 1 (by omega), exL_a 2 (by omega), show (((0 : Nat) : Int) % 2).toNat = 0 from rfl, show (((1 : Nat) : Int) % 2).toNat = 1 from rfl, show (((2 : Nat) : Int) % 2).toNat = 0 from rfl, exL_cnt0, exL_cnt1]
  rfl
theorem exL_p2 : (persI 2 2 4 exL).length = 3 := by
  rw [persI, if_pos (by decide), exL_pers]
  simp only [List.filter_cons, List.filter_nil, exL_a 0 (by omega), exL_a 1 (by omega), exL_a 2 (by omega), show (((0 : Nat) : Int) % 2).toNat = 0 from rfl, show (((1 : Nat) : Int) % 2).toNat = 1 from rfl, show (((2 : Nat) : Int) % 2).toNat = 0 from rfl, exL_cnt0, exL_cnt1]
  rfl
theorem ints_lit (w : World) (b : Nat) (l : List Int) (e : TypeId) (fz : Nat × Nat) (hb : w.heap[b]? = some (.cells (l.map (Value.int .i64)).toArray e fz)) : IntsAt w (.slice (some ⟨b, 0, none⟩) l.length l.length) l := by
  refine .inr ⟨b, 0, _, rfl, fun i x hx => ?_⟩
  rw [cell_mk, hb]
  simp [hx]
set_option maxRecDepth 10000 in
theorem awake_spec (w : World) : VRet Try.prog 11 #[] w fun v w' => v = .bool true ∧ Ext w w' := by
  refine VRet_start T.mo ok11 rfl fun Ψ hΨ => ?_; simp only [vc11, rs11]
  simp only [VS, VD, SV, SL, T, Nat.reduceEqDiff, Nat.reduceAdd, Nat.reduceSub, Nat.reduceMul, Nat.reduceLeDiff, Nat.reduceLT, reduceIte]
  have hE := (((Ext.refl w).alloc (.cells #[.int .i64 0, .int .i64 0, .int .i64 1, .int .i64 1, .int .i64 2, .int .i64 2] 44 (0, 0))).alloc tomb).alloc tomb
  have hR : RefsAt (((w.alloc (.cells #[.int .i64 0, .int .i64 0, .int .i64 1, .int .i64 1, .int .i64 2, .int .i64 2] 44 (0, 0))).alloc tomb).alloc tomb) (.slice (some ⟨w.heap.size, 0, none⟩) 3 3) exL := by
    refine .inr ⟨w.heap.size, 0, 3, rfl, fun i r hr => ?_⟩
    have hi := (List.getElem?_eq_some_iff.1 hr).1
    simp only [exL, List.map_cons, List.map_nil, List.length_cons, List.length_nil] at hi
    have hh : (((w.alloc (.cells #[.int .i64 0, .int .i64 0, .int .i64 1, .int .i64 1, .int .i64 2, .int .i64 2] 44 (0, 0))).alloc tomb).alloc tomb).heap[w.heap.size]? = some (.cells #[.int .i64 0, .int .i64 0, .int .i64 1, .int .i64 1, .int .i64 2, .int .i64 2] 44 (0, 0)) := by simp only [VS, VD, SV, SL, T, Nat.reduceEqDiff, Nat.reduceAdd, Nat.reduceSub, Nat.reduceMul, Nat.reduceLeDiff, Nat.reduceLT, reduceIte]
    rw [rd_mk, hh]
    have : i = 0 ∨ i = 1 ∨ i = 2 := by omega
    rcases this with rfl | rfl | rfl <;> (simp only [exL, List.map_cons, List.map_nil, List.getElem?_cons_zero, List.getElem?_cons_succ, Option.some.injEq] at hr; subst hr; rfl)
  generalize (((w.alloc (.cells #[.int .i64 0, .int .i64 0, .int .i64 1, .int .i64 1, .int .i64 2, .int .i64 2] 44 (0, 0))).alloc tomb).alloc tomb) = w1 at *
  have hl : exL.length ≤ 1000000 := by decide
  refine (Conflicts_spec 2 1 4 _ exL hl w1 hR).mono ?_
  rintro v1 w2 ⟨hI, hE2⟩
  rw [exL_conf] at hI
  obtain ⟨a1, c1, rfl⟩ := hI.form
  simp only [VS, VD, SV, SL, T, Nat.reduceEqDiff, Nat.reduceAdd, Nat.reduceSub, Nat.reduceMul, Nat.reduceLeDiff, Nat.reduceLT, reduceIte]
  have hJ := ints_lit (w2.alloc (.cells #[.int .i64 2, .int .i64 1] 3 (0, 0))) w2.heap.size [2, 1] _ _ (alloc_get_new _ _)
  replace hI := hI.ext ((Ext.refl w2).alloc (.cells #[.int .i64 2, .int .i64 1] 3 (0, 0)))
  replace hE := (hE.trans hE2).alloc (.cells #[.int .i64 2, .int .i64 1] 3 (0, 0))
  replace hR := hR.ext (hE2.trans ((Ext.refl w2).alloc (.cells #[.int .i64 2, .int .i64 1] 3 (0, 0))))
  generalize hwg : w2.alloc (.cells #[.int .i64 2, .int .i64 1] 3 (0, 0)) = w3 at *
  refine (ints_spec _ _ _ _ (by decide) w3 hI hJ).mono ?_
  rintro _ w4 ⟨rfl, hE4⟩
  have d1 : decide (([2, 1] : List Int) = [2, 1]) = true := by decide
  rw [d1]
  simp only [VS, VD, SV, SL, T, Nat.reduceEqDiff, Nat.reduceAdd, Nat.reduceSub, Nat.reduceMul, Nat.reduceLeDiff, Nat.reduceLT, reduceIte]
  refine (Persistent_spec 2 1 4 _ exL hl w4 (hR.ext hE4)).mono ?_
  rintro v2 w5 ⟨hI5, hE5⟩
  rw [exL_p1] at hI5
  obtain ⟨a2, c2, rfl⟩ := hI5.form
  simp only [VS, VD, SV, SL, T, Nat.reduceEqDiff, Nat.reduceAdd, Nat.reduceSub, Nat.reduceMul, Nat.reduceLeDiff, Nat.reduceLT, reduceIte]
  have hJ5 := ints_lit (w5.alloc (.cells #[.int .i64 1] 3 (0, 0))) w5.heap.size [1] _ _ (alloc_get_new _ _)
  replace hI5 := hI5.ext ((Ext.refl w5).alloc (.cells #[.int .i64 1] 3 (0, 0)))
  replace hE := ((hE.trans hE4).trans hE5).alloc (.cells #[.int .i64 1] 3 (0, 0))
  replace hR := hR.ext ((hE4.trans hE5).trans ((Ext.refl w5).alloc (.cells #[.int .i64 1] 3 (0, 0))))
  generalize hwg5 : w5.alloc (.cells #[.int .i64 1] 3 (0, 0)) = w6 at *
  refine (ints_spec _ _ _ _ (by decide) w6 hI5 hJ5).mono ?_
  rintro _ w7 ⟨rfl, hE7⟩
  have d2 : decide (([1] : List Int) = [1]) = true := by decide
  rw [d2]
  simp only [VS, VD, SV, SL, T, Nat.reduceEqDiff, Nat.reduceAdd, Nat.reduceSub, Nat.reduceMul, Nat.reduceLeDiff, Nat.reduceLT, reduceIte]
  refine (Misses_spec 2 1 4 _ exL hl w7 (hR.ext hE7)).mono ?_
  rintro _ w8 ⟨rfl, hE8⟩
  have e1 : ((persI 2 1 4 exL).length : Int) = 1 := by rw [exL_p1]; rfl
  rw [e1]
  simp only [VS, VD, SV, SL, T, Nat.reduceEqDiff, Nat.reduceAdd, Nat.reduceSub, Nat.reduceMul, Nat.reduceLeDiff, Nat.reduceLT, reduceIte]
  refine (Misses_spec 2 2 4 _ exL hl w8 (hR.ext (hE7.trans hE8))).mono ?_
  rintro _ w9 ⟨rfl, hE9⟩
  have e2 : ((persI 2 2 4 exL).length : Int) = 3 := by rw [exL_p2]; rfl
  rw [e2]
  simp only [VS, VD, SV, SL, T, Nat.reduceEqDiff, Nat.reduceAdd, Nat.reduceSub, Nat.reduceMul, Nat.reduceLeDiff, Nat.reduceLT, reduceIte]
  refine (PFlush_spec 2 2 4 w9).mono ?_
  rintro _ w10 ⟨rfl, hE10⟩
  have e3 : flushI 2 2 4 = 4 := by decide
  rw [e3]
  simp only [VS, VD, SV, SL, T, Nat.reduceEqDiff, Nat.reduceAdd, Nat.reduceSub, Nat.reduceMul, Nat.reduceLeDiff, Nat.reduceLT, reduceIte]
  exact hΨ _ _ ⟨rfl, (((hE.trans hE7).trans hE8).trans hE9).trans hE10⟩
set_option maxRecDepth 10000 in
theorem PersistLines_spec (s y l : Int) (lv : Value) (L : List (Int × Int)) (w : World) (h : RefsAt w lv L) :
    VRet Try.prog 3 #[cfgV s y l, lv] w fun v w' => v = .bool true ∧ Ext w w' := by
  obtain ⟨la, lc, rfl⟩ := h.form
  refine VRet_start T.mo ok3 rfl fun Ψ hΨ => ?_; simp only [vc3, rs3]
  simp only [VS, VD, SV, SL, T, Nat.reduceEqDiff, Nat.reduceAdd, Nat.reduceSub, Nat.reduceMul, Nat.reduceLeDiff, Nat.reduceLT, reduceIte, cfgV]
  refine (awake_spec _).mono ?_
  rintro _ w1 ⟨rfl, hE⟩
  replace hE := ((Ext.refl w).alloc tomb).trans hE
  simp only [VS, VD, SV, SL, T, Nat.reduceEqDiff, Nat.reduceAdd, Nat.reduceSub, Nat.reduceMul, Nat.reduceLeDiff, Nat.reduceLT, reduceIte]
  by_cases h12 : 12 < (L.length : Int)
  · rw [decide_eq_true h12]
    simp only [VS, VD, SV, SL, T, Nat.reduceEqDiff, Nat.reduceAdd, Nat.reduceSub, Nat.reduceMul, Nat.reduceLeDiff, Nat.reduceLT, reduceIte]
    exact hΨ _ _ ⟨rfl, hE⟩
  · rw [decide_eq_false h12]
    simp only [VS, VD, SV, SL, T, Nat.reduceEqDiff, Nat.reduceAdd, Nat.reduceSub, Nat.reduceMul, Nat.reduceLeDiff, Nat.reduceLT, reduceIte]
    refine (plain_spec _ L (by omega) _ (h.ext hE)).mono ?_
    rintro v w2 ⟨hR, hE2⟩
    simp only [VS, VD, SV, SL, T, Nat.reduceEqDiff, Nat.reduceAdd, Nat.reduceSub, Nat.reduceMul, Nat.reduceLeDiff, Nat.reduceLT, reduceIte]
    refine (Most_spec _ L (by omega) _ hR).mono ?_
    rintro _ w3 ⟨rfl, hE3⟩
    replace hE := (hE.trans hE2).trans hE3
    simp only [VS, VD, SV, SL, T, Nat.reduceEqDiff, Nat.reduceAdd, Nat.reduceSub, Nat.reduceMul, Nat.reduceLeDiff, Nat.reduceLT, reduceIte]
    have hl : L.length ≤ 1000000 := by omega
    by_cases h3 : 3000 < mst L
    · rw [decide_eq_true h3]
      simp only [VS, VD, SV, SL, T, Nat.reduceEqDiff, Nat.reduceAdd, Nat.reduceSub, Nat.reduceMul, Nat.reduceLeDiff, Nat.reduceLT, reduceIte]
      exact hΨ _ _ ⟨rfl, hE⟩
    · rw [decide_eq_false h3]
      simp only [VS, VD, SV, SL, T, Nat.reduceEqDiff, Nat.reduceAdd, Nat.reduceSub, Nat.reduceMul, Nat.reduceLeDiff, Nat.reduceLT, reduceIte]
      refine DW_intro (fun n _ v w' => if n = 2 then IntsAt w' v (confI s y l L) else IntsAt w' v (persI s y l L)) ?_
      simp only [VS, VD, SV, SL, T, Nat.reduceEqDiff, Nat.reduceAdd, Nat.reduceSub, Nat.reduceMul, Nat.reduceLeDiff, Nat.reduceLT, reduceIte]
      refine rY_ph rfl rfl (fun v w w' h hE => by simp only [if_true] at h ⊢; exact h.ext hE) (fun wx hEx _ => ?_) (fun v hv => ?_)
      · simp only [VS, VD, SV, SL, T, Nat.reduceEqDiff, Nat.reduceAdd, Nat.reduceSub, Nat.reduceMul, Nat.reduceLeDiff, Nat.reduceLT, reduceIte]
        refine (Conflicts_spec s y l _ L hl wx ((h.ext hE).ext hEx)).mono ?_
        rintro v wy ⟨hI, hEy⟩
        exact ⟨hEy, hI⟩
      · obtain ⟨wx, _, _, hI⟩ := hv
        simp only [if_true] at hI
        obtain ⟨a1, c1, rfl⟩ := hI.form
        simp only [VS, VD, SV, SL, T, Nat.reduceEqDiff, Nat.reduceAdd, Nat.reduceSub, Nat.reduceMul, Nat.reduceLeDiff, Nat.reduceLT, reduceIte]
        refine rY_ph rfl rfl (fun v w w' h hE => by simp only [show ¬ (5 = 2) by omega, if_false] at h ⊢; exact h.ext hE) (fun wx hEx _ => ?_) (fun v hv => ?_)
        · simp only [VS, VD, SV, SL, T, Nat.reduceEqDiff, Nat.reduceAdd, Nat.reduceSub, Nat.reduceMul, Nat.reduceLeDiff, Nat.reduceLT, reduceIte]
          refine (Persistent_spec s y l _ L hl wx ((h.ext hE).ext hEx)).mono ?_
          rintro v wy ⟨hI, hEy⟩
          exact ⟨hEy, hI⟩
        · obtain ⟨wx, _, _, hI2⟩ := hv
          simp only [show ¬ (5 = 2) by omega, if_false] at hI2
          obtain ⟨a2, c2, rfl⟩ := hI2.form
          simp only [VS, VD, SV, SL, T, Nat.reduceEqDiff, Nat.reduceAdd, Nat.reduceSub, Nat.reduceMul, Nat.reduceLeDiff, Nat.reduceLT, reduceIte]
          intro w4 hE4 hF
          have k5 := FA_head hF
          have k2 := hF 2
          simp only [updF, show ¬ (2 = 5) by omega, show ¬ (5 = 2) by omega, if_false, if_true] at k2 k5
          replace hE := hE.trans hE4
          simp only [VS, VD, SV, SL, T, Nat.reduceEqDiff, Nat.reduceAdd, Nat.reduceSub, Nat.reduceMul, Nat.reduceLeDiff, Nat.reduceLT, reduceIte]
          refine (Misses_spec s y l _ L hl w4 (h.ext hE)).mono ?_
          rintro _ w5 ⟨rfl, hE5⟩
          replace k2 := k2.ext hE5
          replace k5 := k5.ext hE5
          replace hE := hE.trans hE5
          simp only [VS, VD, SV, SL, T, Nat.reduceEqDiff, Nat.reduceAdd, Nat.reduceSub, Nat.reduceMul, Nat.reduceLeDiff, Nat.reduceLT, reduceIte]
          refine (Valid_spec s y l w5).mono ?_
          rintro _ w6 ⟨rfl, hE6⟩
          replace k2 := k2.ext hE6
          replace k5 := k5.ext hE6
          replace hE := hE.trans hE6
          by_cases hg : Geo s y l = true
          · have hp := Geo_spec hg
            have ec : confI s y l L = cnts L s := by rw [confI, if_pos hg]
            have ep : persI s y l L = pers L s y := by rw [persI, if_pos hg]
            have ef : flushI s y l = s * y := by rw [flushI, if_pos hg]
            rw [ec] at k2
            rw [ep] at k5
            have hln : (cnts L s).length ≤ 1000000 := by rw [cnts, List.length_map, List.length_range]; omega
            have hln2 := pers_len L s y
            simp only [VS, VD, SV, SL, T, Nat.reduceEqDiff, Nat.reduceAdd, Nat.reduceSub, Nat.reduceMul, Nat.reduceLeDiff, Nat.reduceLT, reduceIte, hg, Bool.not_true, ec, ep]
            refine DW_intro (fun _ _ v w' => RefsAt w' v L) ?_
            simp only [VS, VD, SV, SL, T, Nat.reduceEqDiff, Nat.reduceAdd, Nat.reduceSub, Nat.reduceMul, Nat.reduceLeDiff, Nat.reduceLT, reduceIte]
            refine rY_ph rfl rfl (fun v w w' h hE => h.ext hE) (fun wx hEx _ => ?_) (fun v hv => ?_)
            · simp only [VS, VD, SV, SL, T, Nat.reduceEqDiff, Nat.reduceAdd, Nat.reduceSub, Nat.reduceMul, Nat.reduceLeDiff, Nat.reduceLT, reduceIte]
              refine (plain_spec _ L (by omega) wx ((h.ext hE).ext hEx)).mono ?_
              rintro v wy ⟨hI, hEy⟩
              exact ⟨hEy, hI⟩
            · simp only [VS, VD, SV, SL, T, Nat.reduceEqDiff, Nat.reduceAdd, Nat.reduceSub, Nat.reduceMul, Nat.reduceLeDiff, Nat.reduceLT, reduceIte]
              intro w7 hE7 hF
              have hR7 := FA_head hF
              replace hE := hE.trans hE7
              replace k2 := k2.ext hE7
              replace k5 := k5.ext hE7
              simp only [VS, VD, SV, SL, T, Nat.reduceEqDiff, Nat.reduceAdd, Nat.reduceSub, Nat.reduceMul, Nat.reduceLeDiff, Nat.reduceLT, reduceIte]
              refine (rPersistent_spec s y l hg _ L hl w7 hR7).mono ?_
              rintro v8 w8 ⟨k8, hE8⟩
              replace hE := hE.trans hE8
              replace k2 := k2.ext hE8
              replace k5 := k5.ext hE8
              obtain ⟨a8, c8, rfl⟩ := k8.form
              simp only [VS, VD, SV, SL, T, Nat.reduceEqDiff, Nat.reduceAdd, Nat.reduceSub, Nat.reduceMul, Nat.reduceLeDiff, Nat.reduceLT, reduceIte]
              refine DW_intro (fun n _ v w' => match n with | 3 => RefsAt w' v L | 4 => (∃ b, v = .slice (some ⟨b, 0, none⟩) s.toNat s.toNat ∧ IB w' b s.toNat fun i => (cnt L s i : Int)) | 5 => v = .bool true | 9 => v = .bool true | 19 => v = .int .i64 (s * y) | _ => False) ?_
              simp only [VS, VD, SV, SL, T, Nat.reduceEqDiff, Nat.reduceAdd, Nat.reduceSub, Nat.reduceMul, Nat.reduceLeDiff, Nat.reduceLT, reduceIte]
              refine rY_ph rfl rfl (fun v w w' h hE => h.ext hE) (fun wx hEx _ => ?_) (fun v3 hv => ?_)
              · simp only [VS, VD, SV, SL, T, Nat.reduceEqDiff, Nat.reduceAdd, Nat.reduceSub, Nat.reduceMul, Nat.reduceLeDiff, Nat.reduceLT, reduceIte]
                refine (plain_spec _ L (by omega) wx ((h.ext hE).ext hEx)).mono ?_
                rintro v wy ⟨hI, hEy⟩
                exact ⟨hEy, hI⟩
              simp only [VS, VD, SV, SL, T, Nat.reduceEqDiff, Nat.reduceAdd, Nat.reduceSub, Nat.reduceMul, Nat.reduceLeDiff, Nat.reduceLT, reduceIte]
              refine rY_ph rfl rfl (fun v w w' ⟨b, h1, h⟩ hE => ⟨b, h1, h.ext hE⟩) (fun wx hEx hFD => ?_) (fun v4 hv4 => ?_)
              · simp only [VS, VD, SV, SL, T, Nat.reduceEqDiff, Nat.reduceAdd, Nat.reduceSub, Nat.reduceMul, Nat.reduceLeDiff, Nat.reduceLT, reduceIte]
                have hR := hFD 3 (by simp)
                simp only [updF, if_true] at hR
                exact (rConflicts_spec s y l hg _ L hl wx hR).mono fun v w ⟨h1, h2⟩ => ⟨h2, h1⟩
              obtain ⟨_, _, _, b4, rfl, _⟩ := hv4
              simp only [VS, VD, SV, SL, T, Nat.reduceEqDiff, Nat.reduceAdd, Nat.reduceSub, Nat.reduceMul, Nat.reduceLeDiff, Nat.reduceLT, reduceIte]
              refine rY_ph rfl rfl (fun v w w' h hE => h) (fun wx hEx hFD => ?_) (fun v5 hv5 => ?_)
              · simp only [VS, VD, SV, SL, T, Nat.reduceEqDiff, Nat.reduceAdd, Nat.reduceSub, Nat.reduceMul, Nat.reduceLeDiff, Nat.reduceLT, reduceIte]
                have hR := hFD 4 (by simp)
                simp only [updF, if_true] at hR
                obtain ⟨b', e1, hI'⟩ := hR
                simp only [Value.slice.injEq, Option.some.injEq, Addr.mk.injEq, and_true] at e1
                subst e1
                refine (ints_spec _ _ _ _ hln wx (k2.ext hEx) (hI'.ints)).mono ?_
                rintro _ wy ⟨rfl, hEy⟩
                refine ⟨hEy, ?_⟩
                show Value.bool _ = Value.bool true
                rw [decide_eq_true (show cnts L s = List.map (fun i => (cnt L s i : Int)) (List.range s.toNat) from rfl)]
              obtain ⟨_, _, _, hv5⟩ := hv5
              replace hv5 : v5 = .bool true := hv5
              subst hv5
              simp only [VS, VD, SV, SL, T, Nat.reduceEqDiff, Nat.reduceAdd, Nat.reduceSub, Nat.reduceMul, Nat.reduceLeDiff, Nat.reduceLT, reduceIte]
              refine rY_ph rfl rfl (fun v w w' h hE => h) (fun wx hEx hFD => ?_) (fun v9 hv9 => ?_)
              · simp only [VS, VD, SV, SL, T, Nat.reduceEqDiff, Nat.reduceAdd, Nat.reduceSub, Nat.reduceMul, Nat.reduceLeDiff, Nat.reduceLT, reduceIte]
                refine (ints_spec _ _ _ _ (by omega) wx (k5.ext hEx) (k8.ext hEx)).mono ?_
                rintro _ wy ⟨rfl, hEy⟩
                refine ⟨hEy, ?_⟩
                show Value.bool _ = Value.bool true
                rw [decide_eq_true rfl]
              obtain ⟨_, _, _, hv9⟩ := hv9
              replace hv9 : v9 = .bool true := hv9
              subst hv9
              have d1 : decide (((pers L s y).length : Int) = (pers L s y).length) = true := decide_eq_true rfl
              simp only [VS, VD, SV, SL, T, Nat.reduceEqDiff, Nat.reduceAdd, Nat.reduceSub, Nat.reduceMul, Nat.reduceLeDiff, Nat.reduceLT, reduceIte, d1]
              refine rY_ph rfl rfl (fun v w w' h hE => h) (fun wx hEx hFD => ?_) (fun v19 hv19 => ?_)
              · simp only [VS, VD, SV, SL, T, Nat.reduceEqDiff, Nat.reduceAdd, Nat.reduceSub, Nat.reduceMul, Nat.reduceLeDiff, Nat.reduceLT, reduceIte]
                refine (PFlush_spec s y l wx).mono ?_
                rintro _ wy ⟨rfl, hEy⟩
                exact ⟨hEy, by rw [ef]⟩
              obtain ⟨_, _, _, hv19⟩ := hv19
              replace hv19 : v19 = .int .i64 (s * y) := hv19
              subst hv19
              have h1 : 0 ≤ s * y := Int.mul_nonneg (by omega) (by omega)
              have h2 : s * y ≤ 64 * 8 := Int.mul_le_mul hp.2.1 hp.2.2.2.1 (by omega) (by omega)
              simp only [VS, VD, SV, SL, T, Nat.reduceEqDiff, Nat.reduceAdd, Nat.reduceSub, Nat.reduceMul, Nat.reduceLeDiff, Nat.reduceLT, reduceIte]
              refine ⟨by omega, ?_⟩
              intro w10 hE10 _
              have d2 : decide (s * y = s * y) = true := decide_eq_true rfl
              simp only [VS, VD, SV, SL, T, Nat.reduceEqDiff, Nat.reduceAdd, Nat.reduceSub, Nat.reduceMul, Nat.reduceLeDiff, Nat.reduceLT, reduceIte, d2]
              exact hΨ _ _ ⟨rfl, hE.trans hE10⟩
          · have hg' : Geo s y l = false := by simpa using hg
            have ec : confI s y l L = [] := by rw [confI, if_neg hg]
            have ep : persI s y l L = [] := by rw [persI, if_neg hg]
            have ef : flushI s y l = 0 := by rw [flushI, if_neg hg]
            have e0 : decide (((0 : Nat) : Int) = 0) = true := rfl
            simp only [VS, VD, SV, SL, T, Nat.reduceEqDiff, Nat.reduceAdd, Nat.reduceSub, Nat.reduceMul, Nat.reduceLeDiff, Nat.reduceLT, reduceIte, hg', Bool.not_false, ec, ep, List.length_nil, e0]
            refine (PFlush_spec s y l w6).mono ?_
            rintro _ w7 ⟨rfl, hE7⟩
            have e1 : decide ((0 : Int) = 0) = true := rfl
            simp only [VS, VD, SV, SL, T, Nat.reduceEqDiff, Nat.reduceAdd, Nat.reduceSub, Nat.reduceMul, Nat.reduceLeDiff, Nat.reduceLT, reduceIte, ef, e1]
            exact hΨ _ _ ⟨rfl, hE.trans hE7⟩
end Go.Proofs.Ytneipineehichaa

/-
  May: AccessRange.
-/
import Derived.Test.YtndkadphpbnpeaaZCM2
set_option linter.unusedSimpArgs false
set_option linter.unusedVariables false
namespace Go.Proofs.Ytndkadphpbnpeaa
open Go.W
def rangeM (m : Int → Option Int) (lo : Int) (n : Int) : Int → Option Int := fun j => if lo ≤ j ∧ j < lo + n then some 0 else m j
def accS (s y : Int) (M : Option (Int → Option Int)) (k : Int) : Option (Int → Option Int) := M.map fun m => if k < 0 then m else accM s y m k
def rngS (s y : Int) (M : Option (Int → Option Int)) (lo hi : Int) : Option (Int → Option Int) :=
  M.bind fun m => if hi < max lo 0 then some m else if max lo 0 = hi then some (accM s y m hi) else if 64 ≤ hi - max lo 0 then none else some (rangeM m (max lo 0) (hi - max lo 0 + 1))
def BdS (y : Int) (M : Option (Int → Option Int)) : Prop := ∀ m, M = some m → Bd y m
theorem Bd.range {y lo n : Int} {m : Int → Option Int} (h : Bd y m) (hy : 1 ≤ y) (hl : 0 ≤ lo) : Bd y (rangeM m lo n) := by
  intro j b hj
  simp only [rangeM] at hj
  split at hj
  · simp only [Option.some.injEq] at hj; omega
  · exact h j b hj
theorem BdS.acc {s y k : Int} {M : Option (Int → Option Int)} (h : BdS y M) (hy : 1 ≤ y) : BdS y (accS s y M k) := by
  intro m hm
  simp only [accS] at hm
  obtain ⟨m0, h0, rfl⟩ := Option.map_eq_some_iff.1 hm
  split
  · exact h _ h0
  · exact (h _ h0).acc hy (by omega)
theorem BdS.rng {s y lo hi : Int} {M : Option (Int → Option Int)} (h : BdS y M) (hy : 1 ≤ y) : BdS y (rngS s y M lo hi) := by
  intro m hm
  simp only [rngS] at hm
  obtain ⟨m0, h0, h1⟩ := Option.bind_eq_some_iff.1 hm
  split at h1
  · simp only [Option.some.injEq] at h1; subst h1; exact h _ h0
  · split at h1
    · simp only [Option.some.injEq] at h1; subst h1; exact (h _ h0).acc hy (by omega)
    · split at h1
      · simp at h1
      · simp only [Option.some.injEq] at h1; subst h1; exact (h _ h0).range hy (by omega)
theorem Access_spec (s y l : Int) (hv : Geo s y l = true) (M : Option (Int → Option Int)) (hbd : BdS y M) (st : Value) (k : Int) (w : World) (h : MayAt w st s y l M) :
    VRet Try.prog 31 #[st, .int .i64 k] w fun v w' => MayAt w' v s y l (accS s y M k) ∧ Ext w w' := by
  by_cases hk : k < 0 ∨ M = none
  · refine (Access_neg s y l hv M st k hk w h).mono ?_
    rintro v w' ⟨rfl, hE⟩
    refine ⟨?_, hE⟩
    have : accS s y M k = M := by
      rcases hk with hk | rfl
      · simp [accS, hk]
      · rfl
    rw [this]
    exact h.ext hE
  · cases M with
    | none => simp at hk
    | some m =>
      have hk0 : ¬ k < 0 := fun e => hk (.inl e)
      refine (Access_pos s y l hv m (hbd m rfl) st k (by omega) w h).mono ?_
      rintro v w' ⟨h1, hE⟩
      refine ⟨?_, hE⟩
      simp only [accS, Option.map_some, hk0, if_false]
      exact h1
/-- a row of maps of the call's own -/
def RowAt (w : World) (N : Nat) (s : Int) (m : Int → Option Int) (cs : Array Value) (rs : List Nat) : Prop :=
  w.heap[N]? = some (.cells cs 74 (0, 0)) ∧ cs.size = s.toNat ∧ rs.Nodup ∧ ∀ i r, rs[i]? = some r → cs[i]? = some (.map (some r)) ∧ N < r ∧ MapIs w r (restr s i m)
set_option maxHeartbeats 1000000 in
set_option maxRecDepth 10000 in
theorem AccessRange_spec (s y l : Int) (hv : Geo s y l = true) (M : Option (Int → Option Int)) (hbd : BdS y M) (st : Value) (lo hi : Int) (hlo : lo ≤ 1000000) (hhi : -1000000 ≤ hi ∧ hi ≤ 1000000) (w : World) (h : MayAt w st s y l M) :
    VRet Try.prog 30 #[st, .int .i64 lo, .int .i64 hi] w fun v w' => MayAt w' v s y l (rngS s y M lo hi) ∧ Ext w w' := by
  have hp := Geo_spec hv
  have ⟨u, a, n, c, hst⟩ : ∃ u a n c, st = stV s y l u (.slice a n c) ∧ (u = true ↔ M = none) ∧ (u = false → ¬ n = 0) := by
    cases M with
    | none => exact ⟨true, none, 0, 0, h, by simp⟩
    | some m =>
      obtain ⟨b, off, cap, vs, h1, _⟩ := h
      exact ⟨false, _, _, _, h1, by simp, fun _ => by omega⟩
  obtain ⟨rfl, hu, hn⟩ := hst
  refine VRet_start T.mo ok30 rfl fun Ψ hΨ => ?_; simp only [vc30, rs30]
  simp only [VS, VD, SV, SL, T, Nat.reduceEqDiff, Nat.reduceAdd, Nat.reduceSub, Nat.reduceMul, Nat.reduceLeDiff, Nat.reduceLT, reduceIte, stV]
  refine (fixed_spec s y l u a n c _).mono ?_
  rintro _ w1 ⟨rfl, hE⟩
  replace hE := (((Ext.refl w).alloc _).alloc _).trans hE
  cases u with
  | true =>
    obtain rfl := hu.1 rfl
    simp only [VS, VD, SV, SL, T, Nat.reduceEqDiff, Nat.reduceAdd, Nat.reduceSub, Nat.reduceMul, Nat.reduceLeDiff, Nat.reduceLT, reduceIte, Bool.true_or]
    exact hΨ _ _ ⟨h, hE⟩
  | false =>
    have hn0 := hn rfl
    cases M with
    | none => simp at hu
    | some m =>
      clear hu hn
      simp only [VS, VD, SV, SL, T, Nat.reduceEqDiff, Nat.reduceAdd, Nat.reduceSub, Nat.reduceMul, Nat.reduceLeDiff, Nat.reduceLT, reduceIte, Bool.false_or, hn0]
      refine cnd_d (fun hc1 => ?_) (fun hc1 => ?_)
      · simp only [VS, VD, SV, SL, T, Nat.reduceEqDiff, Nat.reduceAdd, Nat.reduceSub, Nat.reduceMul, Nat.reduceLeDiff, Nat.reduceLT, reduceIte]
        refine hΨ _ _ ⟨?_, hE⟩
        simp only [rngS, Option.bind_some, hc1, if_true]
        exact MayAt.ext h hE
      · simp only [VS, VD, SV, SL, T, Nat.reduceEqDiff, Nat.reduceAdd, Nat.reduceSub, Nat.reduceMul, Nat.reduceLeDiff, Nat.reduceLT, reduceIte]
        refine cnd_d (fun hc2 => ?_) (fun hc2 => ?_)
        · simp only [VS, VD, SV, SL, T, Nat.reduceEqDiff, Nat.reduceAdd, Nat.reduceSub, Nat.reduceMul, Nat.reduceLeDiff, Nat.reduceLT, reduceIte]
          have hmx : 0 ≤ max lo 0 := by omega
          rw [hc2]
          refine (Access_spec s y l hv (some m) hbd _ hi _ (MayAt.ext h hE)).mono ?_
          rintro v w2 ⟨hm2, hE2⟩
          obtain ⟨u2, a2, n2, c2, rfl⟩ := hm2.form
          simp only [VS, VD, SV, SL, T, Nat.reduceEqDiff, Nat.reduceAdd, Nat.reduceSub, Nat.reduceMul, Nat.reduceLeDiff, Nat.reduceLT, reduceIte, stV]
          refine hΨ _ _ ⟨?_, hE.trans hE2⟩
          have e1 : rngS s y (some m) lo hi = accS s y (some m) hi := by
            simp only [rngS, accS, Option.bind_some, Option.map_some, hc1, if_false, hc2, if_true]
            rw [if_neg (show ¬ hi < 0 by omega), if_neg (by omega)]
          rw [e1]
          exact hm2
        · simp only [VS, VD, SV, SL, T, Nat.reduceEqDiff, Nat.reduceAdd, Nat.reduceSub, Nat.reduceMul, Nat.reduceLeDiff, Nat.reduceLT, reduceIte]
          refine ⟨by omega, cnd_d (fun hc3 => ?_) (fun hc3 => ?_)⟩
          · simp only [VS, VD, SV, SL, T, Nat.reduceEqDiff, Nat.reduceAdd, Nat.reduceSub, Nat.reduceMul, Nat.reduceLeDiff, Nat.reduceLT, reduceIte]
            refine hΨ _ _ ⟨?_, hE⟩
            simp only [rngS, Option.bind_some, hc1, if_false, hc2, hc3, if_true]
            rfl
          · have hm := h
            obtain ⟨b, off, cap, vs, e1, hl, hc⟩ := hm
            simp only [stV, Value.agg.injEq, Array.mk.injEq, List.cons.injEq, Value.slice.injEq, true_and, and_true] at e1
            obtain ⟨rfl, rfl, rfl⟩ := e1
            simp only [VS, VD, SV, SL, T, Nat.reduceEqDiff, Nat.reduceAdd, Nat.reduceSub, Nat.reduceMul, Nat.reduceLeDiff, Nat.reduceLT, reduceIte, Int.toNat_natCast]
            refine ⟨by omega, ?_⟩
            have er : (#[Value.map none] : Array Value)[0]! = .map none := rfl
            rw [er]
            refine loop_cB (fun f' w' => f' 1 = .int .i64 (max lo 0) ∧ f' 2 = .int .i64 hi ∧ f' 3 = stV s y l false (.slice (some ⟨b, off, none⟩) s.toNat c) ∧ live (f' 6) = true ∧ f' 7 = .slice (some ⟨w1.heap.size, 0, none⟩) s.toNat s.toNat ∧
              Ext w1 w' ∧ ∃ (cs : Array Value) (rs : List Nat), rs.length = s.toNat ∧ RowAt w' w1.heap.size s m cs rs) ?_ ?_
            · refine LoopP_intro (α := List Nat) (fun rs f' w' => f' 1 = .int .i64 (max lo 0) ∧ f' 2 = .int .i64 hi ∧ f' 3 = stV s y l false (.slice (some ⟨b, off, none⟩) s.toNat c) ∧ live (f' 6) = true ∧ f' 7 = .slice (some ⟨w1.heap.size, 0, none⟩) s.toNat s.toNat ∧
                f' 38 = .int .i64 s.toNat ∧ f' 39 = .int .i64 rs.length ∧ Ext w1 w' ∧ rs.length ≤ s.toNat ∧ ∃ cs, RowAt w' w1.heap.size s m cs rs)
                (fun rs => s.toNat - rs.length) [] ?_ ?_
              · simp only [VS, VD, SV, SL, T, Nat.reduceEqDiff, Nat.reduceAdd, Nat.reduceSub, Nat.reduceMul, Nat.reduceLeDiff, Nat.reduceLT, reduceIte, stV]
                exact ⟨rfl, (Ext.refl w1).alloc _, by simp, _, alloc_get_new _ _, by simp, by simp, by simp⟩
              · rintro rs f' w' ⟨g1, g2, g3, g6, g7, g38, g39, hEx, hle, cs, hcs, hsz, hnd, hall⟩
                simp only [VS, VD, SV, SL, T, Nat.reduceEqDiff, Nat.reduceAdd, Nat.reduceSub, Nat.reduceMul, Nat.reduceLeDiff, Nat.reduceLT, reduceIte, g39, g38]
                refine cnd_d (fun hlt2 => ?_) (fun hlt2 => ?_)
                · simp only [VS, VD, SV, SL, T, Nat.reduceEqDiff, Nat.reduceAdd, Nat.reduceSub, Nat.reduceMul, Nat.reduceLeDiff, Nat.reduceLT, reduceIte, g39, g7, g3, stV]
                  refine (set_spec s y l hv m _ rs.length (by omega) _ (MayK.ext h (hE.trans hEx))).mono ?_
                  rintro _ w2 ⟨⟨r, rfl, hr, hmr⟩, hE2⟩
                  have hcs2 := hE2.obj hcs
                  have hlc := get_lt hcs2
                  have hll := get_lt hcs
                  simp only [VS, VD, SV, SL, T, Nat.reduceEqDiff, Nat.reduceAdd, Nat.reduceSub, Nat.reduceMul, Nat.reduceLeDiff, Nat.reduceLT, reduceIte, Int.toNat_natCast, hcs2, hsz, g39]
                  refine ⟨by omega, by omega, by omega, rs ++ [r], ⟨g1, g2, g3, g6, g7, g38, by simp, (hEx.trans hE2).putb (by omega) _, by simp; omega, cs.setIfInBounds rs.length (.map (some r)), putb_get_same hlc _, by simp [hsz], ?_, ?_⟩, by simp; omega⟩
                  · rw [List.nodup_append]
                    refine ⟨hnd, by simp, ?_⟩
                    intro a ha b hb
                    simp only [List.mem_singleton] at hb
                    obtain ⟨j, hj, rfl⟩ := List.getElem_of_mem ha
                    obtain ⟨_, _, _, _, hq, _⟩ := hall j rs[j] (List.getElem?_eq_getElem hj)
                    have := get_lt hq
                    omega
                  · intro i r' hr'
                    by_cases hi : i < rs.length
                    · rw [List.getElem?_append_left hi] at hr'
                      obtain ⟨e1, e2, e3⟩ := hall i r' hr'
                      exact ⟨by rw [Array.getElem?_setIfInBounds_ne (by omega)]; exact e1, e2, (e3.ext hE2).heap (putb_get_ne (by omega) _)⟩
                    · have hi2 : i = rs.length := by
                        have := (List.getElem?_eq_some_iff.1 hr').1
                        simp at this
                        omega
                      subst hi2
                      simp only [List.getElem?_concat_length, Option.some.injEq] at hr'
                      subst hr'
                      exact ⟨by rw [Array.getElem?_setIfInBounds, if_pos rfl, if_pos (by omega)], by omega, hmr.heap (putb_get_ne (by omega) _)⟩
                · simp only [VS, VD, SV, SL, T, Nat.reduceEqDiff, Nat.reduceAdd, Nat.reduceSub, Nat.reduceMul, Nat.reduceLeDiff, Nat.reduceLT, reduceIte]
                  exact ⟨g1, g2, g3, g6, g7, hEx, cs, rs, by omega, hcs, hsz, hnd, hall⟩
            · rintro f' w' ⟨g1, g2, g3, g6, g7, hEx, cs, rs, hrl, hrow⟩
              simp only [VS, VD, SV, SL, T, Nat.reduceEqDiff, Nat.reduceAdd, Nat.reduceSub, Nat.reduceMul, Nat.reduceLeDiff, Nat.reduceLT, reduceIte, g1, g2]
              refine ⟨by omega, by omega, ?_⟩
              refine LoopP_intro (α := Nat) (fun k f' w' => f' 1 = .int .i64 (max lo 0) ∧ f' 3 = stV s y l false (.slice (some ⟨b, off, none⟩) s.toNat c) ∧ live (f' 6) = true ∧ f' 7 = .slice (some ⟨w1.heap.size, 0, none⟩) s.toNat s.toNat ∧
                f' 52 = .int .i64 (hi - max lo 0 + 1) ∧ f' 53 = .int .i64 k ∧ Ext w1 w' ∧ (k : Int) ≤ hi - max lo 0 + 1 ∧ RowAt w' w1.heap.size s (rangeM m (max lo 0) k) cs rs)
                (fun k => (hi - max lo 0 + 1).toNat - k) 0 ?_ ?_
              · simp only [VS, VD, SV, SL, T, Nat.reduceEqDiff, Nat.reduceAdd, Nat.reduceSub, Nat.reduceMul, Nat.reduceLeDiff, Nat.reduceLT, reduceIte, g1, g3, g6, g7]
                refine ⟨rfl, hEx, by omega, ?_⟩
                have : rangeM m (max lo 0) ((0 : Nat) : Int) = m := by
                  funext j; simp only [rangeM]; rw [if_neg (by omega)]
                rw [this]
                exact hrow
              · rintro k f' w' ⟨g1, g3, g6, g7, g52, g53, hEx, hle, hcs, hsz, hnd, hall⟩
                simp only [VS, VD, SV, SL, T, Nat.reduceEqDiff, Nat.reduceAdd, Nat.reduceSub, Nat.reduceMul, Nat.reduceLeDiff, Nat.reduceLT, reduceIte, g52, g53]
                refine cnd_d (fun hlt2 => ?_) (fun hlt2 => ?_)
                · simp only [VS, VD, SV, SL, T, Nat.reduceEqDiff, Nat.reduceAdd, Nat.reduceSub, Nat.reduceMul, Nat.reduceLeDiff, Nat.reduceLT, reduceIte, g53, g7, g3, g1, stV]
                  refine ⟨by omega, ?_⟩
                  have hmx : 0 ≤ max lo 0 + (k : Int) := by omega
                  generalize hkk : max lo 0 + (k : Int) = kk at hmx
                  refine (Set_spec s y l kk _).mono ?_
                  rintro _ w2 ⟨rfl, hE2⟩
                  rw [setOf_eq hv hmx]
                  have hm0 : 0 ≤ kk % s := Int.emod_nonneg _ (by omega)
                  have hm1 : kk % s < s := Int.emod_lt_of_pos _ (by omega)
                  obtain ⟨i, hi⟩ := Int.eq_ofNat_of_zero_le hm0
                  rw [hi]
                  have hir : i < rs.length := by omega
                  obtain ⟨c1, c2, l9, c9, hl9, hwf9, hg9⟩ := hall i rs[i] (List.getElem?_eq_getElem hir)
                  have hcs2 := hE2.obj hcs
                  have hl92 := hE2.obj hl9
                  have hlt9 := get_lt hl92
                  simp only [VS, VD, SV, SL, T, Nat.reduceEqDiff, Nat.reduceAdd, Nat.reduceSub, Nat.reduceMul, Nat.reduceLeDiff, Nat.reduceLT, reduceIte, Int.toNat_natCast, hcs2, c1, g1, g53, hkk]
                  refine ⟨by omega, by omega, rV_update (l := l9) (c := c9) T.me74 hl92 hwf9.keys ?_⟩
                  simp only [VS, VD, SV, SL, T, Nat.reduceEqDiff, Nat.reduceAdd, Nat.reduceSub, Nat.reduceMul, Nat.reduceLeDiff, Nat.reduceLT, reduceIte, g53]
                  refine ⟨by omega, k + 1, ⟨g1, g3, g6, g7, g52, by simp, (hEx.trans hE2).putb (by omega) _, by omega, ?_, hsz, hnd, ?_⟩, by omega⟩
                  · rw [putb_get_ne (by omega)]; exact hcs2
                  · intro j r hr
                    obtain ⟨e1, e2, e3⟩ := hall j r hr
                    refine ⟨e1, e2, ?_⟩
                    have key : ∀ jj : Int, rangeM m (max lo 0) ((k + 1 : Nat) : Int) jj = if jj = kk then some 0 else rangeM m (max lo 0) k jj := by
                      intro jj
                      simp only [rangeM]
                      by_cases hjj : jj = kk
                      · rw [if_pos hjj, if_pos (by omega)]
                      · rw [if_neg hjj]
                        by_cases hr2 : max lo 0 ≤ jj ∧ jj < max lo 0 + (k : Int)
                        · rw [if_pos hr2, if_pos (by omega)]
                        · rw [if_neg hr2, if_neg (by omega)]
                    by_cases hij : i = j
                    · subst hij
                      rw [List.getElem?_eq_getElem hir] at hr
                      simp only [Option.some.injEq] at hr
                      subst hr
                      refine ⟨_, _, putb_get_same hlt9 _, hwf9.set kk (.int .i64 0), fun jj => ?_⟩
                      rw [mget_mset, hg9]
                      simp only [restr, key]
                      by_cases hjj : jj = kk
                      · subst hjj; rw [if_pos rfl, if_pos rfl, if_pos ⟨hmx, hi⟩]; rfl
                      · rw [if_neg hjj, if_neg hjj]
                    · have hne : r ≠ rs[i] := by
                        intro e
                        obtain ⟨hj, hje⟩ := List.getElem?_eq_some_iff.1 hr
                        have h5 := List.pairwise_iff_getElem.1 hnd
                        rcases Nat.lt_or_gt_of_ne hij with h6 | h6
                        · exact h5 i j hir hj h6 (by rw [hje, e])
                        · exact h5 j i hj hir h6 (by rw [hje, e])
                      refine ((e3.ext hE2).heap (putb_get_ne hne _)).congr fun jj => ?_
                      simp only [restr, key]
                      by_cases hc4 : 0 ≤ jj ∧ jj % s = (j : Int)
                      · rw [if_pos hc4, if_pos hc4, if_neg (by intro e; subst e; omega)]
                      · rw [if_neg hc4, if_neg hc4]
                · simp only [VS, VD, SV, SL, T, Nat.reduceEqDiff, Nat.reduceAdd, Nat.reduceSub, Nat.reduceMul, Nat.reduceLeDiff, Nat.reduceLT, reduceIte, g3, g7, g6, stV]
                  refine hΨ _ _ ⟨?_, hE.trans hEx⟩
                  simp only [rngS, Option.bind_some, hc1, if_false, hc2, hc3]
                  have hkk : (k : Int) = hi - max lo 0 + 1 := by omega
                  rw [← hkk]
                  refine ⟨w1.heap.size, 0, s.toNat, rs.map fun r => .map (some r), rfl, by simp [hrl], ?_⟩
                  intro j x hx
                  obtain ⟨r, hr, rfl⟩ := List.mem_map.1 (List.mem_of_getElem? hx)
                  simp only [List.getElem?_map] at hx
                  obtain ⟨r', hr', e5⟩ := Option.map_eq_some_iff.1 hx
                  simp only [Value.map.injEq, Option.some.injEq] at e5
                  subst e5
                  obtain ⟨e1, e2, e3⟩ := hall j r' hr'
                  exact ⟨by rw [cell_mk, hcs]; simpa using e1, e3.at⟩
end Go.Proofs.Ytndkadphpbnpeaa

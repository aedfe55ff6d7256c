/-
  May: Access.
-/
import Derived.Test.YtndkadphpbnpeaaZCM1
set_option linter.unusedSimpArgs false
set_option linter.unusedVariables false
namespace Go.Proofs.Ytndkadphpbnpeaa
open Go.W
/-- the bounds are from 0 to ways - 1, and no line is negative -/
def Bd (y : Int) (m : Int → Option Int) : Prop := ∀ j b, m j = some b → 0 ≤ j ∧ 0 ≤ b ∧ b < y
def ageing (y lim b : Int) : Option Int := if lim < b then some b else if y ≤ b + 1 then none else some (b + 1)
def accM (s y : Int) (m : Int → Option Int) (k : Int) : Int → Option Int := fun j =>
  if j = k then some 0 else if 0 ≤ j ∧ j % s = k % s then (m j).bind (ageing y ((m k).getD y)) else m j
theorem Bd.acc {s y k : Int} {m : Int → Option Int} (h : Bd y m) (hy : 1 ≤ y) (hk : 0 ≤ k) : Bd y (accM s y m k) := by
  intro j b hj
  simp only [accM] at hj
  split at hj
  · simp only [Option.some.injEq] at hj; omega
  · split at hj
    · obtain ⟨b0, h0, h1⟩ := Option.bind_eq_some_iff.1 hj
      have := h j b0 h0
      simp only [ageing] at h1
      split at h1
      · simp only [Option.some.injEq] at h1; omega
      · split at h1
        · simp at h1
        · simp only [Option.some.injEq] at h1; omega
    · exact h j b hj
set_option maxRecDepth 10000 in
theorem Access_neg (s y l : Int) (hv : Geo s y l = true) (M : Option (Int → Option Int)) (st : Value) (k : Int) (hk : k < 0 ∨ M = none) (w : World) (h : MayAt w st s y l M) :
    VRet Try.prog 31 #[st, .int .i64 k] w fun v w' => v = st ∧ Ext w w' := by
  have hp := Geo_spec hv
  have ⟨u, a, n, c, hst⟩ : ∃ u a n c, st = stV s y l u (.slice a n c) ∧ (u = false → ¬ n = 0 ∧ k < 0) := by
    cases M with
    | none => exact ⟨true, none, 0, 0, h, by simp⟩
    | some m =>
      obtain ⟨b, off, cap, vs, h1, _⟩ := h
      exact ⟨false, _, _, _, h1, fun _ => ⟨by omega, by simpa using hk⟩⟩
  obtain ⟨rfl, hu⟩ := hst
  refine VRet_start T.mo ok31 rfl fun Ψ hΨ => ?_; simp only [vc31, rs31]
  simp only [VS, VD, SV, SL, T, Nat.reduceEqDiff, Nat.reduceAdd, Nat.reduceSub, Nat.reduceMul, Nat.reduceLeDiff, Nat.reduceLT, reduceIte, stV]
  refine (fixed_spec s y l u a n c _).mono ?_
  rintro _ w1 ⟨rfl, hE1⟩
  replace hE1 := (((Ext.refl w).alloc _).alloc _).trans hE1
  cases u with
  | true =>
    simp only [VS, VD, SV, SL, T, Nat.reduceEqDiff, Nat.reduceAdd, Nat.reduceSub, Nat.reduceMul, Nat.reduceLeDiff, Nat.reduceLT, reduceIte, Bool.true_or]
    exact hΨ _ _ ⟨rfl, hE1⟩
  | false =>
    obtain ⟨hn, hk0⟩ := hu rfl
    simp only [VS, VD, SV, SL, T, Nat.reduceEqDiff, Nat.reduceAdd, Nat.reduceSub, Nat.reduceMul, Nat.reduceLeDiff, Nat.reduceLT, reduceIte, Bool.false_or, hn, hk0]
    exact hΨ _ _ ⟨rfl, hE1⟩
/-- what a round makes of a bound -/
def ageV (y lim : Int) : Value → Option Value
  | .int _ b => (ageing y lim b).map (.int .i64 ·)
  | _ => none
set_option maxRecDepth 10000 in
theorem Access_pos (s y l : Int) (hv : Geo s y l = true) (m : Int → Option Int) (hbd : Bd y m) (st : Value) (k : Int) (hk : 0 ≤ k) (w : World) (h : MayK w st s y l m) :
    VRet Try.prog 31 #[st, .int .i64 k] w fun v w' => MayK w' v s y l (accM s y m k) ∧ Ext w w' := by
  have hp := Geo_spec hv
  have hst := h
  obtain ⟨b, off, cap, vs, rfl, hl, hc⟩ := hst
  have hm0 : 0 ≤ k % s := Int.emod_nonneg _ (by omega)
  have hm1 : k % s < s := Int.emod_lt_of_pos _ (by omega)
  have hn : ¬ s.toNat = 0 := by omega
  have hkn : ¬ k < 0 := by omega
  refine VRet_start T.mo ok31 rfl fun Ψ hΨ => ?_; simp only [vc31, rs31]
  simp only [VS, VD, SV, SL, T, Nat.reduceEqDiff, Nat.reduceAdd, Nat.reduceSub, Nat.reduceMul, Nat.reduceLeDiff, Nat.reduceLT, reduceIte, stV]
  refine (fixed_spec s y l false _ _ _ _).mono ?_
  rintro _ w1 ⟨rfl, hE1⟩
  replace hE1 := (((Ext.refl w).alloc _).alloc _).trans hE1
  simp only [VS, VD, SV, SL, T, Nat.reduceEqDiff, Nat.reduceAdd, Nat.reduceSub, Nat.reduceMul, Nat.reduceLeDiff, Nat.reduceLT, reduceIte, Bool.false_or, hn, hkn]
  refine (Set_spec s y l k _).mono ?_
  rintro _ w2 ⟨rfl, hE2⟩
  replace hE2 := hE1.trans hE2
  rw [setOf_eq hv hk]
  obtain ⟨i, hi⟩ := Int.eq_ofNat_of_zero_le hm0
  rw [hi]
  simp only [VS, VD, SV, SL, T, Nat.reduceEqDiff, Nat.reduceAdd, Nat.reduceSub, Nat.reduceMul, Nat.reduceLeDiff, Nat.reduceLT, reduceIte]
  refine (set_spec s y l hv m _ i (by omega) _ (h.ext hE2)).mono ?_
  rintro _ w3 ⟨⟨r, rfl, hr, l0, c0, hr0, hwf0, hg0⟩, hE3⟩
  have hrw : w.heap.size ≤ r := Nat.le_trans hE2.size hr
  replace hE3 := hE2.trans hE3
  simp only [VS, VD, SV, SL, T, Nat.reduceEqDiff, Nat.reduceAdd, Nat.reduceSub, Nat.reduceMul, Nat.reduceLeDiff, Nat.reduceLT, reduceIte]
  refine rV_lookup T.me74 T.zr3 hr0 ?_
  simp only [VS, VD, SV, SL, T, Nat.reduceEqDiff, Nat.reduceAdd, Nat.reduceSub, Nat.reduceMul, Nat.reduceLeDiff, Nat.reduceLT, reduceIte]
  have hkr : restr s i m k = m k := by simp only [restr]; rw [if_pos ⟨hk, hi⟩]
  have hgk : mget l0 k = (m k).map (.int .i64 ·) := by rw [hg0, hkr]
  refine cnd_c (fun f' w' => w' = w3 ∧ f' 1 = .int .i64 k ∧ f' 2 = stV s y l false (.slice (some ⟨b, off, none⟩) s.toNat cap) ∧ live (f' 4) = true ∧ f' 5 = .int .i64 i ∧ f' 6 = .map (some r) ∧ f' 7 = .int .i64 ((m k).getD y)) ?_ ?_
  · rw [hgk]
    cases m k with
    | none => simp only [VS, VD, SV, SL, T, Nat.reduceEqDiff, Nat.reduceAdd, Nat.reduceSub, Nat.reduceMul, Nat.reduceLeDiff, Nat.reduceLT, reduceIte, Option.isSome_none, Option.getD_none, Option.map_none, stV]
    | some bb => simp only [VS, VD, SV, SL, T, Nat.reduceEqDiff, Nat.reduceAdd, Nat.reduceSub, Nat.reduceMul, Nat.reduceLeDiff, Nat.reduceLT, reduceIte, Option.isSome_some, Option.getD_some, Option.map_some, stV]
  rintro f w' ⟨rfl, f1, f2, f4, f5, f6, f7⟩
  generalize hlim : (m k).getD y = lim at f7
  simp only [VS, VD, SV, SL, T, Nat.reduceEqDiff, Nat.reduceAdd, Nat.reduceSub, Nat.reduceMul, Nat.reduceLeDiff, Nat.reduceLT, reduceIte, f6, f1]
  refine rV_delete (l := l0) (c := c0) T.me74 hr0 hwf0.keys ?_
  have hrl := get_lt hr0
  simp only [VS, VD, SV, SL, T, Nat.reduceEqDiff, Nat.reduceAdd, Nat.reduceSub, Nat.reduceMul, Nat.reduceLeDiff, Nat.reduceLT, reduceIte, f6]
  have hr1 : (w'.putb r (.map (mk (mdel l0 k)) c0)).heap[r]? = some (.map (mk (mdel l0 k)) c0) := putb_get_same hrl _
  have hE4 : Ext w (w'.putb r (.map (mk (mdel l0 k)) c0)) := hE3.putb hrw _
  generalize w'.putb r (.map (mk (mdel l0 k)) c0) = w4 at *
  have hr4 := get_lt hr1
  refine rV_range (r := r) (es := mk (mdel l0 k)) (c := c0) T.mp74 hr1 ?_
  simp only [VS, VD, SV, SL, T, Nat.reduceEqDiff, Nat.reduceAdd, Nat.reduceSub, Nat.reduceMul, Nat.reduceLeDiff, Nat.reduceLT, reduceIte]
  have n4 : ¬ r = w4.heap.size := by omega
  have n5 : ¬ w4.heap.size = r := by omega
  refine LoopP_intro (α := Array Nat) (fun seen f w'' => f 1 = .int .i64 k ∧ f 2 = stV s y l false (.slice (some ⟨b, off, none⟩) s.toNat cap) ∧ live (f 4) = true ∧ f 5 = .int .i64 i ∧ f 6 = .map (some r) ∧ f 7 = .int .i64 lim ∧
    f 40 = .pointer (some ⟨w4.heap.size, 0, none⟩) ∧ w''.heap[w4.heap.size]? = some (.mapIter (some r) c0 seen c0) ∧ (∃ lc, w''.heap[r]? = some (.map (mk lc) c0) ∧ TR (mdel l0 k) lc seen (ageV y lim) c0) ∧ Ext w w'') (fun seen => (todo (mdel l0 k) seen).length) #[] ?_ ?_
  · simp only [VS, VD, SV, SL, T, Nat.reduceEqDiff, Nat.reduceAdd, Nat.reduceSub, Nat.reduceMul, Nat.reduceLeDiff, Nat.reduceLT, reduceIte, f1, f2, f4, f5, f6, f7, n4, hr1]
    exact ⟨⟨_, rfl, TR.start (hwf0.del k) _⟩, hE4.alloc _⟩
  · rintro seen f w'' ⟨f1, f2, f4, f5, f6, f7, f40, hit, ⟨lc, hlc, htr⟩, hE''⟩
    have hl1 := get_lt hlc
    have hl2 := get_lt hit
    simp only [VS, VD, SV, SL, T, Nat.reduceEqDiff, Nat.reduceAdd, Nat.reduceSub, Nat.reduceMul, Nat.reduceLeDiff, Nat.reduceLT, reduceIte, f40]
    refine rV_next hit hlc htr.wf.lt (fun hall => ?_) (fun p hp hns w2 hw2 => ?_)
    · simp only [VS, VD, SV, SL, T, Nat.reduceEqDiff, Nat.reduceAdd, Nat.reduceSub, Nat.reduceMul, Nat.reduceLeDiff, Nat.reduceLT, reduceIte, f6, f1]
      refine rV_update (l := lc) (c := c0) T.me74 hlc htr.wf.keys ?_
      have hdone := htr.done hall
      have hmap : MapIs (w''.putb r (.map (mk (mset lc c0 k (.int .i64 0)).1) (mset lc c0 k (.int .i64 0)).2)) r (restr s i (accM s y m k)) := by
        refine ⟨_, _, putb_get_same hl1 _, htr.wf.set _ _, fun j => ?_⟩
        rw [mget_mset, hdone, mget_mdel, hg0]
        by_cases hj : j = k
        · subst hj
          rw [if_pos rfl]
          simp only [restr, accM]
          rw [if_pos ⟨hk, hi⟩]
          rfl
        · rw [if_neg hj, if_neg hj]
          simp only [restr, accM, hj, if_false]
          by_cases hc : 0 ≤ j ∧ j % s = (i : Int)
          · rw [if_pos hc, if_pos hc, if_pos ⟨hc.1, by omega⟩, hlim]
            cases m j with
            | none => rfl
            | some bb => simp only [Option.map_some, Option.bind_some, ageV]
          · rw [if_neg hc, if_neg hc]; rfl
      have hE5 : Ext w (w''.putb r (.map (mk (mset lc c0 k (.int .i64 0)).1) (mset lc c0 k (.int .i64 0)).2)) := hE''.putb hrw _
      generalize w''.putb r (.map (mk (mset lc c0 k (.int .i64 0)).1) (mset lc c0 k (.int .i64 0)).2) = w5 at *
      simp only [VS, VD, SV, SL, T, Nat.reduceEqDiff, Nat.reduceAdd, Nat.reduceSub, Nat.reduceMul, Nat.reduceLeDiff, Nat.reduceLT, reduceIte, f2, stV]
      refine (CloneM_spec b off s.toNat cap vs hl (by omega) _ fun j x hx => ⟨hE5.cell (hc j x hx).1, (hc j x hx).2.one⟩).mono ?_
      rintro v w6 ⟨hown, hE6⟩
      obtain ⟨hlen, (⟨_, hz⟩ | ⟨g, cap', cur, rfl, hgb, hgg, hcap, _, hcs, htake⟩)⟩ := hown
      · omega
      have hgl := get_lt hgg
      have hil : i < cur.size := by omega
      simp only [VS, VD, SV, SL, T, Nat.reduceEqDiff, Nat.reduceAdd, Nat.reduceSub, Nat.reduceMul, Nat.reduceLeDiff, Nat.reduceLT, reduceIte, f5, f6, Int.toNat_natCast, hgg, f2, f4, stV]
      refine ⟨by omega, by omega, hΨ _ _ ⟨⟨g, 0, cap', vs.set i (.map (some r)), rfl, by simp [hl], ?_⟩, (hE5.trans hE6).putb (Nat.le_trans hE5.size hgb) _⟩⟩
      have hrg : r < w5.heap.size := by obtain ⟨_, _, hq, _⟩ := hmap; exact get_lt hq
      have hfin : ∀ v' mm, MapAt w5 v' mm → MapAt (w6.putb g (Obj.cells (cur.setIfInBounds i (Value.map (some r))) 74 (0, 0))) v' mm := by
        intro v' mm hv'
        rcases hv' with h | ⟨r', l', c', rfl, h2', h3', h4'⟩
        · exact .inl h
        · have := get_lt h2'
          exact .inr ⟨r', l', c', rfl, by rw [putb_get_ne (by omega)]; exact hE6.obj h2', h3', h4'⟩
      intro j x hx
      have hj : j < s.toNat := by have := (List.getElem?_eq_some_iff.1 hx).1; simp [hl] at this; omega
      refine ⟨by
        rw [cell_mk, putb_get_same hgl, Nat.zero_add]
        simp only []
        rw [Array.getElem?_setIfInBounds]
        by_cases hij : i = j
        · subst hij
          rw [if_pos rfl, if_pos hil]
          rw [List.getElem?_set_self (by omega)] at hx
          exact hx
        · rw [if_neg hij]
          rw [List.getElem?_set_ne hij, ← htake, List.getElem?_take] at hx
          rw [if_pos (by omega)] at hx
          simpa using hx, ?_⟩
      by_cases hij : i = j
      · subst hij
        rw [List.getElem?_set_self (by omega)] at hx
        simp only [Option.some.injEq] at hx
        subst hx
        exact hfin _ _ hmap.at
      · rw [List.getElem?_set_ne hij] at hx
        have h6 := hfin _ _ ((hc j x hx).2.ext hE5)
        have e6 : restr s j m = restr s j (accM s y m k) := by
          funext jj
          simp only [restr, accM]
          by_cases hcc : 0 ≤ jj ∧ jj % s = (j : Int)
          · rw [if_pos hcc, if_pos hcc, if_neg (by intro e; subst e; omega), if_neg (by omega)]
          · rw [if_neg hcc, if_neg hcc]
        rw [e6] at h6
        exact h6
    · have ew2 : w2.heap = w''.heap := by rcases hw2 with rfl | rfl <;> rfl
      have x2 : Ext w w2 := by rcases hw2 with rfl | rfl <;> first | exact hE'' | exact hE''.drew
      have hit4 : w.heap.size ≤ w4.heap.size := hE4.size
      have hp1 := htr.old hp hns
      have hpv : ∃ bb, p.2.1 = .int .i64 bb ∧ 0 ≤ bb ∧ bb < y := by
        have h3 := mget_mem htr.wf1.keys hp1
        rw [mget_mdel] at h3
        split at h3
        · simp at h3
        · rw [hg0] at h3
          obtain ⟨bb, hb1, hb2⟩ := Option.map_eq_some_iff.1 h3
          have : m p.1 = some bb := by
            simp only [restr] at hb1
            split at hb1
            · exact hb1
            · simp at hb1
          exact ⟨bb, hb2.symm, (hbd _ _ this).2⟩
      obtain ⟨bb, hbb, hb0, hby⟩ := hpv
      simp only [VS, VD, SV, SL, T, Nat.reduceEqDiff, Nat.reduceAdd, Nat.reduceSub, Nat.reduceMul, Nat.reduceLeDiff, Nat.reduceLT, reduceIte, f40]
      refine rV_entry (p := p) (seen := seen) (s := c0) (c := c0) (r := r) (l := lc) (by simp only [VS, VD, SV, SL, T, Nat.reduceEqDiff, Nat.reduceAdd, Nat.reduceSub, Nat.reduceMul, Nat.reduceLeDiff, Nat.reduceLT, reduceIte, ew2, hl2]) (by simp only [VS, VD, SV, SL, T, Nat.reduceEqDiff, Nat.reduceAdd, Nat.reduceSub, Nat.reduceMul, Nat.reduceLeDiff, Nat.reduceLT, reduceIte, ew2, hlc, n4]) htr.wf.borns hp ?_
      simp only [VS, VD, SV, SL, T, Nat.reduceEqDiff, Nat.reduceAdd, Nat.reduceSub, Nat.reduceMul, Nat.reduceLeDiff, Nat.reduceLT, reduceIte, hbb, f7]
      have hm : (todo (mdel l0 k) (seen.push p.2.2)).length < (todo (mdel l0 k) seen).length := todo_lt hp1 hns
      refine cnd_d (fun hlt => ?_) (fun hlt => ?_)
      · simp only [VS, VD, SV, SL, T, Nat.reduceEqDiff, Nat.reduceAdd, Nat.reduceSub, Nat.reduceMul, Nat.reduceLeDiff, Nat.reduceLT, reduceIte]
        exact ⟨seen.push p.2.2, ⟨f1, f2, f4, f5, f6, f7, f40, by simp only [VS, VD, SV, SL, T, Nat.reduceEqDiff, Nat.reduceAdd, Nat.reduceSub, Nat.reduceMul, Nat.reduceLeDiff, Nat.reduceLT, reduceIte, ew2, hl2], ⟨lc, by simp only [VS, VD, SV, SL, T, Nat.reduceEqDiff, Nat.reduceAdd, Nat.reduceSub, Nat.reduceMul, Nat.reduceLeDiff, Nat.reduceLT, reduceIte, ew2, n4, hlc], htr.keep hp hns (by simp [hbb, ageV, ageing, hlt])⟩, x2.putb hit4 _⟩, hm⟩
      · simp only [VS, VD, SV, SL, T, Nat.reduceEqDiff, Nat.reduceAdd, Nat.reduceSub, Nat.reduceMul, Nat.reduceLeDiff, Nat.reduceLT, reduceIte, f2, stV]
        refine ⟨by omega, cnd_d (fun hge => ?_) (fun hge => ?_)⟩
        · simp only [VS, VD, SV, SL, T, Nat.reduceEqDiff, Nat.reduceAdd, Nat.reduceSub, Nat.reduceMul, Nat.reduceLeDiff, Nat.reduceLT, reduceIte, f6]
          refine rV_delete (l := lc) (c := c0) T.me74 (by simp only [VS, VD, SV, SL, T, Nat.reduceEqDiff, Nat.reduceAdd, Nat.reduceSub, Nat.reduceMul, Nat.reduceLeDiff, Nat.reduceLT, reduceIte, ew2, n4, hlc]) htr.wf.keys ?_
          simp only [VS, VD, SV, SL, T, Nat.reduceEqDiff, Nat.reduceAdd, Nat.reduceSub, Nat.reduceMul, Nat.reduceLeDiff, Nat.reduceLT, reduceIte]
          exact ⟨seen.push p.2.2, ⟨f1, f2, f4, f5, f6, f7, f40, by simp only [VS, VD, SV, SL, T, Nat.reduceEqDiff, Nat.reduceAdd, Nat.reduceSub, Nat.reduceMul, Nat.reduceLeDiff, Nat.reduceLT, reduceIte, ew2, hl2, hl1, n5], ⟨mdel lc p.1, by simp only [VS, VD, SV, SL, T, Nat.reduceEqDiff, Nat.reduceAdd, Nat.reduceSub, Nat.reduceMul, Nat.reduceLeDiff, Nat.reduceLT, reduceIte, ew2, hl1], htr.del hp hns (by simp [hbb, ageV, ageing, hlt, hge])⟩, (x2.putb hit4 _).putb hrw _⟩, hm⟩
        · simp only [VS, VD, SV, SL, T, Nat.reduceEqDiff, Nat.reduceAdd, Nat.reduceSub, Nat.reduceMul, Nat.reduceLeDiff, Nat.reduceLT, reduceIte, f6, hbb]
          refine ⟨by omega, rV_update (l := lc) (c := c0) T.me74 (by simp only [VS, VD, SV, SL, T, Nat.reduceEqDiff, Nat.reduceAdd, Nat.reduceSub, Nat.reduceMul, Nat.reduceLeDiff, Nat.reduceLT, reduceIte, ew2, n4, hlc]) htr.wf.keys ?_⟩
          rw [mset_old (mget_mem htr.wf.keys hp)]
          simp only [VS, VD, SV, SL, T, Nat.reduceEqDiff, Nat.reduceAdd, Nat.reduceSub, Nat.reduceMul, Nat.reduceLeDiff, Nat.reduceLT, reduceIte]
          exact ⟨seen.push p.2.2, ⟨f1, f2, f4, f5, f6, f7, f40, by simp only [VS, VD, SV, SL, T, Nat.reduceEqDiff, Nat.reduceAdd, Nat.reduceSub, Nat.reduceMul, Nat.reduceLeDiff, Nat.reduceLT, reduceIte, ew2, hl2, hl1, n5], ⟨(mset lc c0 p.1 (.int .i64 (bb + 1))).1, by simp only [VS, VD, SV, SL, T, Nat.reduceEqDiff, Nat.reduceAdd, Nat.reduceSub, Nat.reduceMul, Nat.reduceLeDiff, Nat.reduceLT, reduceIte, ew2, hl1], htr.set hp hns (by simp [hbb, ageV, ageing, hlt, hge])⟩, (x2.putb hit4 _).putb hrw _⟩, hm⟩
end Go.Proofs.Ytndkadphpbnpeaa

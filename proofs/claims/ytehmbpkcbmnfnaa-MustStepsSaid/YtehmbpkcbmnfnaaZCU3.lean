/-
  Must: Access, AccessRange.
-/
import Derived.Test.YtehmbpkcbmnfnaaZCU2
set_option linter.unusedSimpArgs false
set_option linter.unusedVariables false
namespace Go.Proofs.Ytehmbpkcbmnfnaa
open Go.W
theorem MapAt.cellput {w : World} {v : Value} {m : Bnd} (h : MapAt w v m) {g : Nat} {cs : Array Value} {e : TypeId} {fz : Nat × Nat} (hg : w.heap[g]? = some (.cells cs e fz)) (o : Obj) : MapAt (w.putb g o) v m := by
  rcases h with h | ⟨r, l, c, h1, h2, h3⟩
  · exact .inl h
  · refine .inr ⟨r, l, c, h1, ?_, h3⟩
    rw [putb_get_ne (by rintro rfl; rw [hg] at h2; cases h2)]
    exact h2
/-- the entries of a set's map are bounds -/
theorem ents_bd {y : Int} {m : Bnd} (hbd : Bd y m) (hy : y ≤ 8) {s : Int} {i : Nat} {l0 : List Ent} {c0 : Nat} (hwf : MWF l0 c0) (hg : ∀ k, mget l0 k = (restr s i m k).map (.int .i64 ·)) : ∀ p ∈ l0, ∃ b, p.2.1 = .int .i64 b ∧ 0 ≤ b ∧ b < 1000000 := by
  intro p hp
  have h3 := mget_mem hwf.keys hp
  rw [hg] at h3
  obtain ⟨b, h4, h5⟩ := Option.map_eq_some_iff.1 h3
  simp only [restr] at h4
  split at h4
  · have := hbd _ _ h4
    exact ⟨b, h5.symm, by omega, by omega⟩
  · cases h4
/-- a copy of the row of maps, one of them replaced -/
theorem row_set {w : World} {g cap : Nat} {cur : Array Value} {vs : List Value} {s : Int} {n : Bnd} {i r : Nat} (hgg : w.heap[g]? = some (.cells cur 76 (0, 0))) (hcur : cur.toList.take s.toNat = vs) (hl : vs.length = s.toNat) (hi : i < s.toNat)
    (hr : MapAt w (.map (some r)) (restr s i n)) (hall : ∀ j x, j ≠ i → vs[j]? = some x → MapAt w x (restr s j n)) (y l : Int) :
    MuK (w.putb g (Obj.cells (cur.setIfInBounds i (Value.map (some r))) 76 (0, 0))) (muV s y l (.slice (some ⟨g, 0, none⟩) s.toNat cap)) s y l n := by
  have hgl := get_lt hgg
  have hcl : s.toNat ≤ cur.size := by have := congrArg List.length hcur; simp at this; omega
  refine ⟨g, 0, cap, vs.set i (.map (some r)), rfl, by simp [hl], fun j x hx => ?_⟩
  have hj : j < s.toNat := by have := (List.getElem?_eq_some_iff.1 hx).1; simp [hl] at this; omega
  refine ⟨?_, ?_⟩
  · rw [cell_mk, putb_get_same hgl, Nat.zero_add]
    simp only []
    rw [Array.getElem?_setIfInBounds]
    by_cases hij : i = j
    · subst hij
      rw [if_pos rfl, if_pos (by omega)]
      rw [List.getElem?_set_self (by omega)] at hx
      exact hx
    · rw [if_neg hij]
      rw [List.getElem?_set_ne hij, ← hcur, List.getElem?_take_of_lt (by omega)] at hx
      simpa using hx
  · by_cases hij : i = j
    · subst hij
      rw [List.getElem?_set_self (by omega)] at hx
      simp only [Option.some.injEq] at hx
      subst hx
      exact hr.cellput hgg _
    · rw [List.getElem?_set_ne hij] at hx
      exact (hall j x (Ne.symm hij) hx).cellput hgg _
set_option maxRecDepth 10000 in
theorem Access_neg (s y l : Int) (a : Option Addr) (n c : Nat) (k : Int) (hk : n = 0 ∨ k < 0) (w : World) :
    VRet Try.prog 21 #[muV s y l (.slice a n c), .int .i64 k] w fun v w' => v = muV s y l (.slice a n c) ∧ Ext w w' := by
  refine VRet_start T.mo ok21 rfl fun Ψ hΨ => ?_; simp only [vc21, rs21]
  simp only [VS, VD, SV, SL, T, Nat.reduceEqDiff, Nat.reduceAdd, Nat.reduceSub, Nat.reduceMul, Nat.reduceLeDiff, Nat.reduceLT, reduceIte, muV]
  refine (zero_spec s y l a n c _).mono ?_
  rintro _ w1 ⟨rfl, hE1⟩
  replace hE1 := (((Ext.refl w).alloc tomb).alloc tomb).trans hE1
  by_cases hn : (n : Int) = 0
  · rw [decide_eq_true hn]
    simp only [VS, VD, SV, SL, T, Nat.reduceEqDiff, Nat.reduceAdd, Nat.reduceSub, Nat.reduceMul, Nat.reduceLeDiff, Nat.reduceLT, reduceIte]
    exact hΨ _ _ ⟨rfl, hE1⟩
  · rw [decide_eq_false hn]
    have hk' : k < 0 := by omega
    simp only [VS, VD, SV, SL, T, Nat.reduceEqDiff, Nat.reduceAdd, Nat.reduceSub, Nat.reduceMul, Nat.reduceLeDiff, Nat.reduceLT, reduceIte]
    rw [decide_eq_true hk']
    simp only [VS, VD, SV, SL, T, Nat.reduceEqDiff, Nat.reduceAdd, Nat.reduceSub, Nat.reduceMul, Nat.reduceLeDiff, Nat.reduceLT, reduceIte]
    exact hΨ _ _ ⟨rfl, hE1⟩
set_option maxRecDepth 10000 in
theorem Access_pos (s y l : Int) (hv : Geo s y l = true) (m : Bnd) (hbd : Bd y m) (st : Value) (k : Int) (hk : 0 ≤ k) (w : World) (h : MuK w st s y l m) :
    VRet Try.prog 21 #[st, .int .i64 k] w fun v w' => MuK w' v s y l (accU s y m k) ∧ Ext w w' := by
  have hp := Geo_spec hv
  have hst := h
  obtain ⟨b, off, cap, vs, rfl, hl, hc⟩ := hst
  have hm0 : 0 ≤ k % s := Int.emod_nonneg _ (by omega)
  have hm1 : k % s < s := Int.emod_lt_of_pos _ (by omega)
  refine VRet_start T.mo ok21 rfl fun Ψ hΨ => ?_; simp only [vc21, rs21]
  simp only [VS, VD, SV, SL, T, Nat.reduceEqDiff, Nat.reduceAdd, Nat.reduceSub, Nat.reduceMul, Nat.reduceLeDiff, Nat.reduceLT, reduceIte, muV]
  refine (zero_spec s y l _ _ _ _).mono ?_
  rintro _ w1 ⟨rfl, hE1⟩
  replace hE1 := (((Ext.refl w).alloc _).alloc _).trans hE1
  rw [decide_eq_false (show ¬ (s.toNat : Int) = 0 by omega)]
  simp only [VS, VD, SV, SL, T, Nat.reduceEqDiff, Nat.reduceAdd, Nat.reduceSub, Nat.reduceMul, Nat.reduceLeDiff, Nat.reduceLT, reduceIte]
  rw [decide_eq_false (show ¬ k < 0 by omega)]
  simp only [VS, VD, SV, SL, T, Nat.reduceEqDiff, Nat.reduceAdd, Nat.reduceSub, Nat.reduceMul, Nat.reduceLeDiff, Nat.reduceLT, reduceIte]
  refine (Set_spec s y l k _).mono ?_
  rintro _ w2 ⟨rfl, hE2⟩
  replace hE2 := hE1.trans hE2
  rw [setOf_eq hv hk]
  obtain ⟨i, hi⟩ := Int.eq_ofNat_of_zero_le hm0
  rw [hi]
  have his : i < s.toNat := by omega
  simp only [VS, VD, SV, SL, T, Nat.reduceEqDiff, Nat.reduceAdd, Nat.reduceSub, Nat.reduceMul, Nat.reduceLeDiff, Nat.reduceLT, reduceIte]
  refine (set_spec s y l hv m _ i his _ (h.ext hE2)).mono ?_
  rintro _ w3 ⟨⟨r, rfl, hr, l0, c0, hr0, hwf0, hg0⟩, hE3⟩
  have hrw : w.heap.size ≤ r := Nat.le_trans hE2.size hr
  replace hE3 := hE2.trans hE3
  simp only [VS, VD, SV, SL, T, Nat.reduceEqDiff, Nat.reduceAdd, Nat.reduceSub, Nat.reduceMul, Nat.reduceLeDiff, Nat.reduceLT, reduceIte]
  refine rV_lookup T.me76 T.zr3 hr0 ?_
  simp only [VS, VD, SV, SL, T, Nat.reduceEqDiff, Nat.reduceAdd, Nat.reduceSub, Nat.reduceMul, Nat.reduceLeDiff, Nat.reduceLT, reduceIte]
  have hkr : restr s i m k = m k := by simp only [restr]; rw [if_pos ⟨hk, hi⟩]
  have hgk : mget l0 k = (m k).map (.int .i64 ·) := by rw [hg0, hkr]
  refine cnd_c (fun f' w' => w' = w3 ∧ f' 1 = .int .i64 k ∧ f' 2 = muV s y l (.slice (some ⟨b, off, none⟩) s.toNat cap) ∧ live (f' 4) = true ∧ f' 5 = .int .i64 i ∧ f' 6 = .map (some r) ∧ f' 7 = .int .i64 ((m k).getD y)) ?_ ?_
  · rw [hgk]
    cases m k with
    | none => simp only [VS, VD, SV, SL, T, Nat.reduceEqDiff, Nat.reduceAdd, Nat.reduceSub, Nat.reduceMul, Nat.reduceLeDiff, Nat.reduceLT, reduceIte, Option.isSome_none, Option.getD_none, Option.map_none, muV]
    | some bb => simp only [VS, VD, SV, SL, T, Nat.reduceEqDiff, Nat.reduceAdd, Nat.reduceSub, Nat.reduceMul, Nat.reduceLeDiff, Nat.reduceLT, reduceIte, Option.isSome_some, Option.getD_some, Option.map_some, muV]
  rintro f w' ⟨rfl, f1, f2, f4, f5, f6, f7⟩
  generalize hlim : (m k).getD y = lim at f7
  simp only [VS, VD, SV, SL, T, Nat.reduceEqDiff, Nat.reduceAdd, Nat.reduceSub, Nat.reduceMul, Nat.reduceLeDiff, Nat.reduceLT, reduceIte, f6, f7, f2, muV]
  refine (grow_spec y lim r l0 c0 (ents_bd hbd (by omega) hwf0 hg0) w' hr0 hwf0).mono ?_
  rintro _ w4 ⟨hch, lc, hlc, hwfc, hgc⟩
  have hE4 : Ext w w4 := hch.ext hE3 (fun b hb => by subst hb; exact hrw)
  have hl1 := get_lt hlc
  simp only [VS, VD, SV, SL, T, Nat.reduceEqDiff, Nat.reduceAdd, Nat.reduceSub, Nat.reduceMul, Nat.reduceLeDiff, Nat.reduceLT, reduceIte, f6, f1]
  refine rV_update (l := lc) (c := c0) T.me76 hlc hwfc.keys ?_
  have hmap : MapIs (w4.putb r (.map (mk (mset lc c0 k (.int .i64 0)).1) (mset lc c0 k (.int .i64 0)).2)) r (restr s i (accU s y m k)) := by
    refine ⟨_, _, putb_get_same hl1 _, hwfc.set _ _, fun j => ?_⟩
    rw [mget_mset, hgc, hg0]
    by_cases hj : j = k
    · subst hj
      rw [if_pos rfl]
      simp only [restr, accU]
      rw [if_pos ⟨hk, hi⟩]
      rfl
    · rw [if_neg hj]
      simp only [restr, accU, hj, if_false]
      by_cases hc : 0 ≤ j ∧ j % s = (i : Int)
      · rw [if_pos hc, if_pos hc, if_pos ⟨hc.1, by omega⟩, hlim]
        cases m j with
        | none => rfl
        | some bb => simp only [Option.map_some, Option.bind_some, agV]
      · rw [if_neg hc, if_neg hc]; rfl
  have hE5 : Ext w (w4.putb r (.map (mk (mset lc c0 k (.int .i64 0)).1) (mset lc c0 k (.int .i64 0)).2)) := hE4.putb hrw _
  generalize w4.putb r (.map (mk (mset lc c0 k (.int .i64 0)).1) (mset lc c0 k (.int .i64 0)).2) = w5 at *
  simp only [VS, VD, SV, SL, T, Nat.reduceEqDiff, Nat.reduceAdd, Nat.reduceSub, Nat.reduceMul, Nat.reduceLeDiff, Nat.reduceLT, reduceIte, f2, muV]
  refine (CloneM_spec b off s.toNat cap vs hl (by omega) _ fun j x hx => ⟨hE5.cell (hc j x hx).1, (hc j x hx).2.one⟩).mono ?_
  rintro v w6 ⟨hown, hE6⟩
  obtain ⟨hlen, (⟨_, hz⟩ | ⟨g, cap', cur, rfl, hgb, hgg, hcap, _, hcs, htake⟩)⟩ := hown
  · omega
  rw [Nat.mul_one] at htake hcs
  simp only [VS, VD, SV, SL, T, Nat.reduceEqDiff, Nat.reduceAdd, Nat.reduceSub, Nat.reduceMul, Nat.reduceLeDiff, Nat.reduceLT, reduceIte, f5, f6, Int.toNat_natCast, hgg, f2, f4, muV]
  refine ⟨by omega, by omega, hΨ _ _ ⟨?_, (hE5.trans hE6).putb (Nat.le_trans hE5.size hgb) _⟩⟩
  refine row_set hgg htake hl his (hmap.at.ext hE6) (fun j x hji hx => ?_) y l
  have h6 := (hc j x hx).2.ext (hE5.trans hE6)
  have e6 : restr s j m = restr s j (accU s y m k) := by
    funext jj
    simp only [restr, accU]
    by_cases hcc : 0 ≤ jj ∧ jj % s = (j : Int)
    · rw [if_pos hcc, if_pos hcc, if_neg (by intro e; subst e; omega), if_neg (by omega)]
    · rw [if_neg hcc, if_neg hcc]
  rw [e6] at h6
  exact h6
theorem Access_spec (s y l : Int) (hv : Geo s y l = true) (m : Bnd) (hbd : Bd y m) (st : Value) (k : Int) (w : World) (h : MuK w st s y l m) :
    VRet Try.prog 21 #[st, .int .i64 k] w fun v w' => MuK w' v s y l (accX s y m k) ∧ Ext w w' := by
  by_cases hk : k < 0
  · obtain ⟨b, off, cap, rfl⟩ := h.form
    refine (Access_neg s y l _ _ _ k (.inr hk) w).mono ?_
    rintro _ w' ⟨rfl, hE⟩
    refine ⟨?_, hE⟩
    unfold accX; rw [if_pos hk]; exact h.ext hE
  · refine (Access_pos s y l hv m hbd st k (by omega) w h).mono ?_
    rintro v w' ⟨hm, hE⟩
    refine ⟨?_, hE⟩
    unfold accX; rw [if_neg hk]; exact hm
set_option maxRecDepth 10000 in
theorem Range_zero (lo hi : Int) (w : World) : VRet Try.prog 26 #[muZ, .int .i64 lo, .int .i64 hi] w fun v w' => v = muZ ∧ Ext w w' := by
  refine VRet_start T.mo ok26 rfl fun Ψ hΨ => ?_; simp only [vc26, rs26]
  simp only [VS, VD, SV, SL, T, Nat.reduceEqDiff, Nat.reduceAdd, Nat.reduceSub, Nat.reduceMul, Nat.reduceLeDiff, Nat.reduceLT, reduceIte, muV]
  refine (zero_spec 0 0 0 _ _ _ _).mono ?_
  rintro _ w1 ⟨rfl, hE1⟩
  have e0 : decide (((0 : Nat) : Int) = 0) = true := rfl
  rw [e0]
  simp only [VS, VD, SV, SL, T, Nat.reduceEqDiff, Nat.reduceAdd, Nat.reduceSub, Nat.reduceMul, Nat.reduceLeDiff, Nat.reduceLT, reduceIte]
  exact hΨ _ _ ⟨rfl, (((Ext.refl w).alloc tomb).alloc tomb).trans hE1⟩
set_option maxRecDepth 10000 in
theorem AccessRange_spec (s y l : Int) (hv : Geo s y l = true) (m : Bnd) (hbd : Bd y m) (st : Value) (lo hi : Int) (hhi : hi ≤ 9223372036854775807) (w : World) (h : MuK w st s y l m) :
    VRet Try.prog 26 #[st, .int .i64 lo, .int .i64 hi] w fun v w' => MuK w' v s y l (rngX s y m lo hi) ∧ Ext w w' := by
  have hp := Geo_spec hv
  have hst := h
  obtain ⟨b, off, cap, vs, rfl, hl, hc⟩ := hst
  refine VRet_start T.mo ok26 rfl fun Ψ hΨ => ?_; simp only [vc26, rs26]
  simp only [VS, VD, SV, SL, T, Nat.reduceEqDiff, Nat.reduceAdd, Nat.reduceSub, Nat.reduceMul, Nat.reduceLeDiff, Nat.reduceLT, reduceIte, muV]
  refine (zero_spec s y l _ _ _ _).mono ?_
  rintro _ w1 ⟨rfl, hE1⟩
  replace hE1 := (((Ext.refl w).alloc _).alloc _).trans hE1
  rw [decide_eq_false (show ¬ (s.toNat : Int) = 0 by omega)]
  simp only [VS, VD, SV, SL, T, Nat.reduceEqDiff, Nat.reduceAdd, Nat.reduceSub, Nat.reduceMul, Nat.reduceLeDiff, Nat.reduceLT, reduceIte]
  have hlo0 : 0 ≤ max lo 0 := by omega
  by_cases h1 : hi < max lo 0
  · rw [decide_eq_true h1]
    simp only [VS, VD, SV, SL, T, Nat.reduceEqDiff, Nat.reduceAdd, Nat.reduceSub, Nat.reduceMul, Nat.reduceLeDiff, Nat.reduceLT, reduceIte]
    refine hΨ _ _ ⟨?_, hE1⟩
    unfold rngX; rw [if_pos h1]; exact h.ext hE1
  rw [decide_eq_false h1]
  simp only [VS, VD, SV, SL, T, Nat.reduceEqDiff, Nat.reduceAdd, Nat.reduceSub, Nat.reduceMul, Nat.reduceLeDiff, Nat.reduceLT, reduceIte]
  by_cases h2 : max lo 0 = hi
  · rw [decide_eq_true h2]
    simp only [VS, VD, SV, SL, T, Nat.reduceEqDiff, Nat.reduceAdd, Nat.reduceSub, Nat.reduceMul, Nat.reduceLeDiff, Nat.reduceLT, reduceIte, muV]
    refine (Access_pos s y l hv m hbd _ (max lo 0) hlo0 w1 (h.ext hE1)).mono ?_
    rintro v w2 ⟨hm, hE2⟩
    obtain ⟨b2, off2, cap2, rfl⟩ := hm.form
    simp only [VS, VD, SV, SL, T, Nat.reduceEqDiff, Nat.reduceAdd, Nat.reduceSub, Nat.reduceMul, Nat.reduceLeDiff, Nat.reduceLT, reduceIte, muV]
    refine hΨ _ _ ⟨?_, hE1.trans hE2⟩
    unfold rngX; rw [if_neg h1, if_pos h2, ← h2]; exact hm
  rw [decide_eq_false h2]
  have hfin : rngX s y m lo hi = rngU s y m (max lo 0) hi := by unfold rngX; rw [if_neg h1, if_neg h2]
  rw [hfin] at hΨ
  generalize max lo 0 = lo at *
  simp only [VS, VD, SV, SL, T, Nat.reduceEqDiff, Nat.reduceAdd, Nat.reduceSub, Nat.reduceMul, Nat.reduceLeDiff, Nat.reduceLT, reduceIte, muV]
  refine (CloneM_spec b off s.toNat cap vs hl (by omega) _ fun j x hx => ⟨hE1.cell (hc j x hx).1, (hc j x hx).2.one⟩).mono ?_
  rintro v w6 ⟨hown, hE6⟩
  obtain ⟨hlen, (⟨_, hz⟩ | ⟨g, cap', cur, rfl, hgb, hgg, hcap, _, hcs, htake⟩)⟩ := hown
  · omega
  rw [Nat.mul_one] at htake hcs
  have hE16 := hE1.trans hE6
  have hgw : w.heap.size ≤ g := Nat.le_trans hE1.size hgb
  simp only [VS, VD, SV, SL, T, Nat.reduceEqDiff, Nat.reduceAdd, Nat.reduceSub, Nat.reduceMul, Nat.reduceLeDiff, Nat.reduceLT, reduceIte]
  have hm0 : 0 ≤ lo % s := Int.emod_nonneg _ (by omega)
  have hm1 : lo % s < s := Int.emod_lt_of_pos _ (by omega)
  refine LoopP_intro (α := Nat) (fun i f' w' => f' 1 = .int .i64 lo ∧ f' 2 = .int .i64 hi ∧ f' 3 = muV s y l (.slice (some ⟨b, off, none⟩) s.toNat cap) ∧ live (f' 6) = true ∧ f' 7 = .slice (some ⟨g, 0, none⟩) s.toNat cap' ∧ f' 31 = .int .i64 s.toNat ∧ f' 32 = .int .i64 i ∧ i ≤ s.toNat ∧ Ext w w' ∧
    ∃ cs us, w'.heap[g]? = some (.cells cs 76 (0, 0)) ∧ cs.toList.take s.toNat = us ∧ us.length = s.toNat ∧ ∀ j x, us[j]? = some x → MapAt w' x (if j < i then restr s j (rngU s y m lo hi) else restr s j m)) (fun i => s.toNat - i) 0 ?_ ?_
  · simp only [VS, VD, SV, SL, T, Nat.reduceEqDiff, Nat.reduceAdd, Nat.reduceSub, Nat.reduceMul, Nat.reduceLeDiff, Nat.reduceLT, reduceIte, muV]
    refine ⟨rfl, Nat.zero_le _, hE16, cur, vs, hgg, htake, hl, fun j x hx => ?_⟩
    rw [if_neg (by omega)]
    exact (hc j x hx).2.ext hE16
  · rintro i f' wo ⟨f1, f2, f3, f6, f7, f31, f32, hi', hEx, cs, us, hcsg, hus, hul, hall⟩
    simp only [VS, VD, SV, SL, T, Nat.reduceEqDiff, Nat.reduceAdd, Nat.reduceSub, Nat.reduceMul, Nat.reduceLeDiff, Nat.reduceLT, reduceIte, f32, f31]
    refine cnd_d (fun hlt => ?_) (fun hlt => ?_)
    · have hil : i < s.toNat := by omega
      have hcl : s.toNat ≤ cs.size := by have := congrArg List.length hus; simp [hul] at this; omega
      simp only [VS, VD, SV, SL, T, Nat.reduceEqDiff, Nat.reduceAdd, Nat.reduceSub, Nat.reduceMul, Nat.reduceLeDiff, Nat.reduceLT, reduceIte, f32, f3, f1, muV]
      refine (Set_spec s y l lo _).mono ?_
      rintro _ w2 ⟨rfl, hE2⟩
      rw [setOf_eq hv hlo0]
      simp only [VS, VD, SV, SL, T, Nat.reduceEqDiff, Nat.reduceAdd, Nat.reduceSub, Nat.reduceMul, Nat.reduceLeDiff, Nat.reduceLT, reduceIte, f7, f2, f1]
      have hdd : ((i : Int) - lo % s + s.toNat) % s.toNat = ((i : Int) - lo % s + s) % s := by rw [Int.toNat_of_nonneg (by omega)]
      have hd1 := Int.emod_nonneg ((i : Int) - lo % s + s) (show s ≠ 0 by omega)
      have hd2 := Int.emod_lt_of_pos ((i : Int) - lo % s + s) (show 0 < s by omega)
      refine ⟨by omega, by omega, by omega, by omega, ?_⟩
      rw [hdd]
      have hrs : ∀ jj, restr s i (rngU s y m lo hi) jj = if tch s lo hi i then (restr s i m jj).bind (agU y y) else restr s i m jj := by
        intro jj
        simp only [restr, rngU]
        by_cases hcc : 0 ≤ jj ∧ jj % s = (i : Int)
        · rw [if_pos hcc, if_pos hcc]
          by_cases ht : tch s lo hi i
          · rw [if_pos ht, if_pos ⟨hcc.1, by rw [hcc.2]; exact ht⟩]
          · rw [if_neg ht, if_neg (fun h => ht (by rw [← hcc.2]; exact h.2))]
        · rw [if_neg hcc, if_neg hcc]
          split <;> rfl
      refine cnd_d (fun hq => ?_) (fun hq => ?_)
      · have ht : ¬ tch s lo hi i := by unfold tch; omega
        simp only [VS, VD, SV, SL, T, Nat.reduceEqDiff, Nat.reduceAdd, Nat.reduceSub, Nat.reduceMul, Nat.reduceLeDiff, Nat.reduceLT, reduceIte, f32]
        refine ⟨by omega, i + 1, ⟨f1, f2, f3, f6, f7, f31, by simp, by omega, hEx.trans hE2, cs, us, hE2.obj hcsg, hus, hul, fun j x hx => ?_⟩, by omega⟩
        have := (hall j x hx).ext hE2
        by_cases hji : j = i
        · subst hji
          rw [if_neg (by omega)] at this
          rw [if_pos (by omega), show restr s j (rngU s y m lo hi) = restr s j m from funext fun jj => by rw [hrs jj, if_neg ht]]
          exact this
        · by_cases hjl : j < i
          · rw [if_pos hjl] at this; rw [if_pos (by omega)]; exact this
          · rw [if_neg hjl] at this; rw [if_neg (by omega)]; exact this
      · have ht : tch s lo hi i := by unfold tch; omega
        simp only [VS, VD, SV, SL, T, Nat.reduceEqDiff, Nat.reduceAdd, Nat.reduceSub, Nat.reduceMul, Nat.reduceLeDiff, Nat.reduceLT, reduceIte, f3, muV]
        refine (set_spec s y l hv m _ i hil _ ((h.ext hEx).ext hE2)).mono ?_
        rintro _ w3 ⟨⟨r, rfl, hr, l0, c0, hr0, hwf0, hg0⟩, hE3⟩
        have hrwo : wo.heap.size ≤ r := Nat.le_trans hE2.size hr
        have hEo3 := hE2.trans hE3
        simp only [VS, VD, SV, SL, T, Nat.reduceEqDiff, Nat.reduceAdd, Nat.reduceSub, Nat.reduceMul, Nat.reduceLeDiff, Nat.reduceLT, reduceIte, f3, muV]
        refine (grow_spec y y r l0 c0 (ents_bd hbd (by omega) hwf0 hg0) w3 hr0 hwf0).mono ?_
        rintro _ w4 ⟨hch, lc, hlc, hwfc, hgc⟩
        have hEo4 : Ext wo w4 := hch.ext hEo3 (fun b hb => by subst hb; exact hrwo)
        have hgw4 := hEo4.obj hcsg
        simp only [VS, VD, SV, SL, T, Nat.reduceEqDiff, Nat.reduceAdd, Nat.reduceSub, Nat.reduceMul, Nat.reduceLeDiff, Nat.reduceLT, reduceIte, f7, f32, hgw4, Int.toNat_natCast]
        have hmap : MapAt w4 (.map (some r)) (restr s i (rngU s y m lo hi)) := by
          refine .inr ⟨r, lc, c0, rfl, hlc, hwfc, fun jj => ?_⟩
          rw [hgc, hg0, hrs jj, if_pos ht]
          cases restr s i m jj with
          | none => rfl
          | some bb => simp only [Option.map_some, Option.bind_some, agV]
        refine ⟨by omega, by omega, by omega, i + 1, ⟨f1, f2, f3, f6, f31, by simp, by omega, (hEx.trans hEo4).putb hgw _, cs.setIfInBounds i (.map (some r)), us.set i (.map (some r)), by rw [if_pos (get_lt hgw4)], ?_, by simp [hul], fun j x hx => ?_⟩, by omega⟩
        · rw [← hus]
          simp only [Array.toList_setIfInBounds, List.take_set]
        · by_cases hji : i = j
          · subst hji
            rw [List.getElem?_set_self (by omega)] at hx
            simp only [Option.some.injEq] at hx
            subst hx
            rw [if_pos (by omega)]
            exact hmap.cellput hgw4 _
          · rw [List.getElem?_set_ne hji] at hx
            have := ((hall j x hx).ext hEo4).cellput hgw4 (Obj.cells (cs.setIfInBounds i (Value.map (some r))) 76 (0, 0))
            by_cases hjl : j < i
            · rw [if_pos hjl] at this; rw [if_pos (by omega)]; exact this
            · rw [if_neg hjl] at this; rw [if_neg (by omega)]; exact this
    · simp only [VS, VD, SV, SL, T, Nat.reduceEqDiff, Nat.reduceAdd, Nat.reduceSub, Nat.reduceMul, Nat.reduceLeDiff, Nat.reduceLT, reduceIte, f3, f7, f6, muV]
      refine hΨ _ _ ⟨⟨g, 0, cap', us, rfl, hul, fun j x hx => ?_⟩, hEx⟩
      have hj : j < s.toNat := by have := (List.getElem?_eq_some_iff.1 hx).1; omega
      have := hall j x hx
      rw [if_pos (by omega)] at this
      refine ⟨?_, this⟩
      rw [cell_mk, hcsg, Nat.zero_add]
      rw [← hus, List.getElem?_take_of_lt hj] at hx
      simpa using hx
end Go.Proofs.Ytehmbpkcbmnfnaa

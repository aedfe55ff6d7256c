/-
  MustBounds.
-/
import Derived.Test.YtehmbpkcbmnfnaaZCV3
set_option linter.unusedSimpArgs false
set_option linter.unusedVariables false
namespace Go.Proofs.Ytehmbpkcbmnfnaa
open Go.W Go.RowKit
theorem bounds_case {s y : Int} {m : Bnd} (hb : Bd y m) {line k a : Int} (hk : m k = some a) (hl : 0 ≤ line) :
    (k % s ≠ line % s ∧ k ≠ line ∧ ageU (accX s y m line) k = (a, true)) ∨ (k % s = line % s ∧ (ageU (accX s y m line) k = (0, false) ∨ (k = line ∧ ageU (accX s y m line) k = (0, true)) ∨ (k ≠ line ∧ ageU (accX s y m line) k = (a, true)) ∨ (k ≠ line ∧ ageU (accX s y m line) k = (a + 1, true)))) := by
  have h := hb k a hk
  unfold ageU accX accU
  rw [if_neg (show ¬ k < 0 by omega), if_neg (show ¬ line < 0 by omega)]
  by_cases e : k = line
  · subst e
    right
    simp
  · simp only [if_neg e]
    by_cases hs : k % s = line % s
    · right
      refine ⟨hs, ?_⟩
      rw [if_pos ⟨h.1, hs⟩, hk, Option.bind_some]
      by_cases h1 : (m line).getD y ≤ a
      · have : agU y ((m line).getD y) a = some a := by unfold agU; rw [if_pos h1]
        rw [this]
        exact .inr (.inr (.inl ⟨e, rfl⟩))
      · by_cases h2 : y ≤ a + 1
        · have : agU y ((m line).getD y) a = none := by unfold agU; rw [if_neg h1, if_pos h2]
          rw [this]
          exact .inl rfl
        · have : agU y ((m line).getD y) a = some (a + 1) := by unfold agU; rw [if_neg h1, if_neg h2]
          rw [this]
          exact .inr (.inr (.inr ⟨e, rfl⟩))
    · left
      rw [if_neg (fun h => hs h.2), hk]
      exact ⟨hs, e, rfl⟩
theorem ageU_self {s y line : Int} {m : Bnd} (hl : 0 ≤ line) : ageU (accX s y m line) line = (0, true) := by
  unfold ageU accX accU
  rw [if_neg (show ¬ line < 0 by omega)]
  simp only [if_neg (show ¬ line < 0 by omega), if_true]
theorem ageU_some {y k a : Int} {m : Bnd} (hb : Bd y m) (hk : m k = some a) : ageU m k = (a, true) := by
  have h := hb k a hk
  unfold ageU
  rw [if_neg (show ¬ k < 0 by omega), hk]
set_option maxHeartbeats 1000000 in
set_option maxRecDepth 10000 in
theorem MustBounds_spec (s y l : Int) (lv : Value) (L : List Op) (line : Int) (w : World) (h : OpsAt w lv L) (hM : OpsOk L) (hline : i64ok line) :
    VRet Try.prog 4 #[cfgV s y l, lv, .int .i64 line] w fun v w' => v = .bool true ∧ Ext w w' := by
  obtain ⟨la, lc, rfl⟩ := h.form
  refine VRet_start T.mo ok4 rfl fun Ψ hΨ => ?_; simp only [vc4, rs4]
  simp only [VS, VD, SV, SL, T, Nat.reduceEqDiff, Nat.reduceAdd, Nat.reduceSub, Nat.reduceMul, Nat.reduceLeDiff, Nat.reduceLT, reduceIte, cfgV]
  refine (awake_spec _).mono ?_
  rintro _ w1 ⟨rfl, hE⟩
  replace hE := ((Ext.refl w).alloc tomb).trans hE
  simp only [VS, VD, SV, SL, T, Nat.reduceEqDiff, Nat.reduceAdd, Nat.reduceSub, Nat.reduceMul, Nat.reduceLeDiff, Nat.reduceLT, reduceIte]
  refine (states_spec s y l _ (.slice none 0 0) L [] hM.1 (by simp) _ (h.ext hE) (.inl ⟨⟨_, _, rfl⟩, rfl⟩)).mono ?_
  rintro _ w2 ⟨⟨va, vb, r, rfl, ⟨sa, na, ca, s1, y1, l1, rfl⟩, ⟨sb, nb, cb, s2, y2, l2, rfl⟩, hr, hm⟩, hE2⟩
  replace hE := hE.trans hE2
  simp only [VS, VD, SV, SL, T, Nat.reduceEqDiff, Nat.reduceAdd, Nat.reduceSub, Nat.reduceMul, Nat.reduceLeDiff, Nat.reduceLT, reduceIte, muV]
  replace hE := (hE.alloc tomb).alloc tomb
  cases r with
  | false =>
    simp only [VS, VD, SV, SL, T, Nat.reduceEqDiff, Nat.reduceAdd, Nat.reduceSub, Nat.reduceMul, Nat.reduceLeDiff, Nat.reduceLT, reduceIte]
    exact hΨ _ _ ⟨rfl, hE⟩
  | true =>
    obtain ⟨hv, hL, _⟩ := hr.1 rfl
    obtain ⟨hm, hm0⟩ := hm rfl
    have hp := Geo_spec hv
    replace hm := hm.ext (((Ext.refl w2).alloc tomb).alloc tomb)
    replace hm0 := hm0.ext (((Ext.refl w2).alloc tomb).alloc tomb)
    generalize (w2.alloc tomb).alloc tomb = w3 at *
    have hbd := runU_bd (s := s) hp.2.2.1 L (Bd_em y)
    have hlim := runU_lim (s := s) (y := y) L hL.2 Lim_em
    generalize runU s y emU L = M at *
    obtain ⟨b0, o0, c0, e0⟩ := hm.form
    simp only [muV, Value.agg.injEq] at e0
    simp only [Array.mk.injEq, List.cons.injEq, Value.int.injEq, true_and, and_true, Value.slice.injEq] at e0
    obtain ⟨rfl, rfl, rfl, rfl, rfl, rfl⟩ := e0
    simp only [VS, VD, SV, SL, T, Nat.reduceEqDiff, Nat.reduceAdd, Nat.reduceSub, Nat.reduceMul, Nat.reduceLeDiff, Nat.reduceLT, reduceIte]
    refine YG_d (fun q1 => ?_) (fun q1 => ?_)
    · simp only [VS, VD, SV, SL, T, Nat.reduceEqDiff, Nat.reduceAdd, Nat.reduceSub, Nat.reduceMul, Nat.reduceLeDiff, Nat.reduceLT, reduceIte, q1]
      simp only [decide_eq_false_iff_not] at q1
      refine cnd_d (fun q2 => ?_) (fun q2 => ?_)
      · simp only [VS, VD, SV, SL, T, Nat.reduceEqDiff, Nat.reduceAdd, Nat.reduceSub, Nat.reduceMul, Nat.reduceLeDiff, Nat.reduceLT, reduceIte]
        exact hΨ _ _ ⟨rfl, hE⟩
      · simp only [VS, VD, SV, SL, T, Nat.reduceEqDiff, Nat.reduceAdd, Nat.reduceSub, Nat.reduceMul, Nat.reduceLeDiff, Nat.reduceLT, reduceIte, muV]
        have hl0 : 0 ≤ line := by omega
        refine (Access_spec _ _ _ hv M hbd _ line _ hm).mono ?_
        rintro _ w4 ⟨hm4, hE4⟩
        replace hm := hm.ext hE4
        replace hE := hE.trans hE4
        obtain ⟨b4, o4, c4, rfl⟩ := hm4.form
        simp only [VS, VD, SV, SL, T, Nat.reduceEqDiff, Nat.reduceAdd, Nat.reduceSub, Nat.reduceMul, Nat.reduceLeDiff, Nat.reduceLT, reduceIte, muV]
        replace hm := hm.ext ((Ext.refl w4).alloc tomb)
        replace hm4 := hm4.ext ((Ext.refl w4).alloc tomb)
        replace hE := hE.alloc tomb
        generalize w4.alloc tomb = w5 at *
        refine (Age_spec _ _ _ hv _ _ line _ hm4).mono ?_
        rintro _ w6 ⟨rfl, hE6⟩
        rw [ageU_self hl0]
        replace hm := hm.ext hE6
        replace hm4 := hm4.ext hE6
        replace hE := hE.trans hE6
        have z0 : decide (¬ (0 : Int) = 0) = false := rfl
        simp only [VS, VD, SV, SL, T, Nat.reduceEqDiff, Nat.reduceAdd, Nat.reduceSub, Nat.reduceMul, Nat.reduceLeDiff, Nat.reduceLT, reduceIte, muV, z0]
        refine (Lines_spec _ _ _ hv M _ (keysU_of hbd hlim) _ _ hm).mono ?_
        rintro v7 w7 ⟨hE7, ho⟩
        have hK := keysU_of hbd hlim
        generalize keysU M = Ks at *
        obtain ⟨ak, ck, rfl⟩ := ho.ints.form
        have hints := ho.ints
        replace hm := hm.ext hE7
        replace hm4 := hm4.ext hE7
        replace hE := hE.trans hE7
        simp only [VS, VD, SV, SL, T, Nat.reduceEqDiff, Nat.reduceAdd, Nat.reduceSub, Nat.reduceMul, Nat.reduceLeDiff, Nat.reduceLT, reduceIte, muV]
        refine LoopP_intro (α := Nat) (fun i f' w' => f' 2 = .int .i64 line ∧ f' 3 = cfgV s1 y1 l1 ∧ f' 7 = muV s1 y1 l1 (.slice (some ⟨b0, o0, none⟩) s1.toNat ca) ∧ live (f' 8) = true ∧ f' 10 = muV s1 y1 l1 (.slice (some ⟨b4, o4, none⟩) s1.toNat c4) ∧
          f' 54 = .slice ak Ks.length ck ∧ f' 55 = .int .i64 Ks.length ∧ f' 56 = .int .i64 i ∧ i ≤ Ks.length ∧ Ext w7 w') (fun i => Ks.length - i) 0 ?_ ?_
        · simp only [VS, VD, SV, SL, T, Nat.reduceEqDiff, Nat.reduceAdd, Nat.reduceSub, Nat.reduceMul, Nat.reduceLeDiff, Nat.reduceLT, reduceIte, muV, cfgV]
          exact ⟨rfl, by omega, Ext.refl _⟩
        · rintro i f' w' ⟨f2, f3, f7, f8, f10, f54, f55, f56, hile, hEx⟩
          simp only [VS, VD, SV, SL, T, Nat.reduceEqDiff, Nat.reduceAdd, Nat.reduceSub, Nat.reduceMul, Nat.reduceLeDiff, Nat.reduceLT, reduceIte, f55, f56]
          refine cnd_d (fun hlt => ?_) (fun hlt => ?_)
          · have hi : i < Ks.length := by omega
            obtain ⟨bk, off, cs, e, fz, rfl, _, hbk, hck⟩ := (hints.ext hEx).get (i := i) (x := Ks[i]) (by simp [hi])
            have hmem : Ks[i] ∈ Ks := List.getElem_mem hi
            have hlen := hK.len
            obtain ⟨a, hka⟩ : ∃ a, M Ks[i] = some a := by
              have := (hK.mem Ks[i]).2 hmem
              cases hq : M Ks[i] with
              | none => exact (this hq).elim
              | some a => exact ⟨a, rfl⟩
            have hcase := bounds_case (s := s1) hbd hka hl0
            have hage := ageU_some hbd hka
            have hka' := hbd _ _ hka
            generalize Ks[i] = k at *
            simp only [VS, VD, SV, SL, T, Nat.reduceEqDiff, Nat.reduceAdd, Nat.reduceSub, Nat.reduceMul, Nat.reduceLeDiff, Nat.reduceLT, reduceIte, f54, f56, hbk, Int.toNat_natCast, hck, f7, muV]
            refine ⟨by omega, ?_⟩
            refine (Age_spec _ _ _ hv _ _ k _ (hm.ext hEx)).mono ?_
            rintro _ w8 ⟨rfl, hE8⟩
            rw [hage]
            replace hEx := hEx.trans hE8
            simp only [VS, VD, SV, SL, T, Nat.reduceEqDiff, Nat.reduceAdd, Nat.reduceSub, Nat.reduceMul, Nat.reduceLeDiff, Nat.reduceLT, reduceIte, f10, muV]
            refine (Age_spec _ _ _ hv _ _ k _ (hm4.ext hEx)).mono ?_
            rintro _ w9 ⟨rfl, hE9⟩
            replace hEx := hEx.trans hE9
            have d1 : decide (a < 0) = false := decide_eq_false (by omega)
            have d2 : decide (y1 ≤ a) = false := decide_eq_false (by omega)
            generalize hb1 : (ageU (accX s1 y1 M line) k).1 = bb at *
            generalize hb2 : (ageU (accX s1 y1 M line) k).2 = bs at *
            simp only [VS, VD, SV, SL, T, Nat.reduceEqDiff, Nat.reduceAdd, Nat.reduceSub, Nat.reduceMul, Nat.reduceLeDiff, Nat.reduceLT, reduceIte, f3, cfgV]
            refine DW_intro (fun n _ v w' => v = .int .i64 (if n = 11 then k % s1 else line % s1)) ?_
            simp only [VS, VD, SV, SL, T, Nat.reduceEqDiff, Nat.reduceAdd, Nat.reduceSub, Nat.reduceMul, Nat.reduceLeDiff, Nat.reduceLT, reduceIte, f3, cfgV, d1, d2, f2]
            refine rY_ph rfl rfl (fun _ _ _ h _ => h) (fun w' hE' _ => ?_) ?_
            · simp only [VS, VD, SV, SL, T, Nat.reduceEqDiff, Nat.reduceAdd, Nat.reduceSub, Nat.reduceMul, Nat.reduceLeDiff, Nat.reduceLT, reduceIte]
              refine (Set_spec s1 y1 l1 k w').mono ?_
              rintro _ w10 ⟨rfl, hE10⟩
              rw [setOf_eq hv hka'.1]
              exact ⟨hE10, rfl⟩
            rintro v5 ⟨_, _, _, h5⟩
            obtain rfl : v5 = .int .i64 (k % s1) := h5
            simp only [VS, VD, SV, SL, T, Nat.reduceEqDiff, Nat.reduceAdd, Nat.reduceSub, Nat.reduceMul, Nat.reduceLeDiff, Nat.reduceLT, reduceIte, f3, cfgV, f2]
            refine rY_ph rfl rfl (fun _ _ _ h _ => h) (fun w' hE' _ => ?_) ?_
            · simp only [VS, VD, SV, SL, T, Nat.reduceEqDiff, Nat.reduceAdd, Nat.reduceSub, Nat.reduceMul, Nat.reduceLeDiff, Nat.reduceLT, reduceIte]
              refine (Set_spec s1 y1 l1 line w').mono ?_
              rintro _ w10 ⟨rfl, hE10⟩
              rw [setOf_eq hv hl0]
              exact ⟨hE10, rfl⟩
            rintro v6 ⟨_, _, _, h6⟩
            obtain rfl : v6 = .int .i64 (line % s1) := h6
            rcases hcase with ⟨c1, c2, c3⟩ | ⟨c1, c3 | ⟨c2, c3⟩ | ⟨c2, c3⟩ | ⟨c2, c3⟩⟩
            · obtain ⟨rfl, rfl⟩ : bb = a ∧ bs = true := ⟨by rw [← hb1, c3], by rw [← hb2, c3]⟩
              have d3 : decide (¬ k % s1 = line % s1) = true := decide_eq_true c1
              have d4 : decide (¬ k = line) = true := decide_eq_true c2
              simp only [VS, VD, SV, SL, T, Nat.reduceEqDiff, Nat.reduceAdd, Nat.reduceSub, Nat.reduceMul, Nat.reduceLeDiff, Nat.reduceLT, reduceIte, d3, d4, f2, not_true_eq_false, decide_false, Bool.not_true]
              intro w10 hE10 _
              simp only [VS, VD, SV, SL, T, Nat.reduceEqDiff, Nat.reduceAdd, Nat.reduceSub, Nat.reduceMul, Nat.reduceLeDiff, Nat.reduceLT, reduceIte, d3, d4]
              simp only [VS, VD, SV, SL, T, Nat.reduceEqDiff, Nat.reduceAdd, Nat.reduceSub, Nat.reduceMul, Nat.reduceLeDiff, Nat.reduceLT, reduceIte, f56]
              exact ⟨by omega, i + 1, ⟨f2, by rw [f3]; rfl, by rw [f7]; rfl, f8, by rw [f10]; rfl, f54, f55, by simp, by omega, hEx.trans hE10⟩, by omega⟩
            · obtain ⟨rfl, rfl⟩ : bb = 0 ∧ bs = false := ⟨by rw [← hb1, c3], by rw [← hb2, c3]⟩
              have d3 : decide (¬ k % s1 = line % s1) = false := decide_eq_false (fun h => h c1)
              simp only [VS, VD, SV, SL, T, Nat.reduceEqDiff, Nat.reduceAdd, Nat.reduceSub, Nat.reduceMul, Nat.reduceLeDiff, Nat.reduceLT, reduceIte, d3]
              intro w10 hE10 _
              simp only [VS, VD, SV, SL, T, Nat.reduceEqDiff, Nat.reduceAdd, Nat.reduceSub, Nat.reduceMul, Nat.reduceLeDiff, Nat.reduceLT, reduceIte, d3]
              simp only [VS, VD, SV, SL, T, Nat.reduceEqDiff, Nat.reduceAdd, Nat.reduceSub, Nat.reduceMul, Nat.reduceLeDiff, Nat.reduceLT, reduceIte, f56]
              exact ⟨by omega, i + 1, ⟨f2, by rw [f3]; rfl, by rw [f7]; rfl, f8, by rw [f10]; rfl, f54, f55, by simp, by omega, hEx.trans hE10⟩, by omega⟩
            · obtain ⟨rfl, rfl⟩ : bb = 0 ∧ bs = true := ⟨by rw [← hb1, c3], by rw [← hb2, c3]⟩
              have d3 : decide (¬ k % s1 = line % s1) = false := decide_eq_false (fun h => h c1)
              have d4 : decide (¬ k = line) = false := decide_eq_false (fun h => h c2)
              simp only [VS, VD, SV, SL, T, Nat.reduceEqDiff, Nat.reduceAdd, Nat.reduceSub, Nat.reduceMul, Nat.reduceLeDiff, Nat.reduceLT, reduceIte, d3, d4, f2]
              intro w10 hE10 _
              simp only [VS, VD, SV, SL, T, Nat.reduceEqDiff, Nat.reduceAdd, Nat.reduceSub, Nat.reduceMul, Nat.reduceLeDiff, Nat.reduceLT, reduceIte, d3, d4]
              simp only [VS, VD, SV, SL, T, Nat.reduceEqDiff, Nat.reduceAdd, Nat.reduceSub, Nat.reduceMul, Nat.reduceLeDiff, Nat.reduceLT, reduceIte, f56]
              exact ⟨by omega, i + 1, ⟨f2, by rw [f3]; rfl, by rw [f7]; rfl, f8, by rw [f10]; rfl, f54, f55, by simp, by omega, hEx.trans hE10⟩, by omega⟩
            · obtain ⟨rfl, rfl⟩ : bb = a ∧ bs = true := ⟨by rw [← hb1, c3], by rw [← hb2, c3]⟩
              have d3 : decide (¬ k % s1 = line % s1) = false := decide_eq_false (fun h => h c1)
              have d4 : decide (¬ k = line) = true := decide_eq_true c2
              simp only [VS, VD, SV, SL, T, Nat.reduceEqDiff, Nat.reduceAdd, Nat.reduceSub, Nat.reduceMul, Nat.reduceLeDiff, Nat.reduceLT, reduceIte, d3, d4, f2, not_true_eq_false, decide_false, Bool.not_true]
              intro w10 hE10 _
              simp only [VS, VD, SV, SL, T, Nat.reduceEqDiff, Nat.reduceAdd, Nat.reduceSub, Nat.reduceMul, Nat.reduceLeDiff, Nat.reduceLT, reduceIte, d3, d4]
              simp only [VS, VD, SV, SL, T, Nat.reduceEqDiff, Nat.reduceAdd, Nat.reduceSub, Nat.reduceMul, Nat.reduceLeDiff, Nat.reduceLT, reduceIte, f56]
              exact ⟨by omega, i + 1, ⟨f2, by rw [f3]; rfl, by rw [f7]; rfl, f8, by rw [f10]; rfl, f54, f55, by simp, by omega, hEx.trans hE10⟩, by omega⟩
            · obtain ⟨e1, rfl⟩ : bb = a + 1 ∧ bs = true := ⟨by rw [← hb1, c3], by rw [← hb2, c3]⟩
              have d3 : decide (¬ k % s1 = line % s1) = false := decide_eq_false (fun h => h c1)
              have d4 : decide (¬ k = line) = true := decide_eq_true c2
              have d5 : decide (¬ bb = a) = true := decide_eq_true (by omega)
              have d6 : decide (¬ bb = a + 1) = false := decide_eq_false (by omega)
              simp only [VS, VD, SV, SL, T, Nat.reduceEqDiff, Nat.reduceAdd, Nat.reduceSub, Nat.reduceMul, Nat.reduceLeDiff, Nat.reduceLT, reduceIte, d3, d4, d5, d6, f2]
              refine ⟨by omega, ?_⟩
              intro w10 hE10 _
              simp only [VS, VD, SV, SL, T, Nat.reduceEqDiff, Nat.reduceAdd, Nat.reduceSub, Nat.reduceMul, Nat.reduceLeDiff, Nat.reduceLT, reduceIte, d3, d4, d5, d6]
              simp only [VS, VD, SV, SL, T, Nat.reduceEqDiff, Nat.reduceAdd, Nat.reduceSub, Nat.reduceMul, Nat.reduceLeDiff, Nat.reduceLT, reduceIte, f56]
              exact ⟨by omega, i + 1, ⟨f2, by rw [f3]; rfl, by rw [f7]; rfl, f8, by rw [f10]; rfl, f54, f55, by simp, by omega, hEx.trans hE10⟩, by omega⟩
          · refine DW_intro (fun n _ v w' => match n with | 1 => MuK w' v s1 y1 l1 emU | 2 => ∃ a c, v = .slice a 0 c | 7 => MuK w' v s1 y1 l1 M | 13 => MuK w' v s1 y1 l1 M | _ => v = .bool true) ?_
            simp only [VS, VD, SV, SL, T, Nat.reduceEqDiff, Nat.reduceAdd, Nat.reduceSub, Nat.reduceMul, Nat.reduceLeDiff, Nat.reduceLT, reduceIte, f7, muV]
            refine rY_ph rfl rfl (fun _ _ _ h hE => MuK.ext h hE) (fun w' hE' _ => ?_) ?_
            · simp only [VS, VD, SV, SL, T, Nat.reduceEqDiff, Nat.reduceAdd, Nat.reduceSub, Nat.reduceMul, Nat.reduceLeDiff, Nat.reduceLT, reduceIte]
              refine (Forget_spec _ _ _ hv _ _ _ ((hm.ext hEx).ext hE')).mono ?_
              rintro v w10 ⟨hm10, hE10⟩
              exact ⟨hE10, hm10⟩
            rintro v1 ⟨_, _, _, h1⟩
            obtain ⟨b1, o1, c1, rfl⟩ := MuK.form h1
            simp only [VS, VD, SV, SL, T, Nat.reduceEqDiff, Nat.reduceAdd, Nat.reduceSub, Nat.reduceMul, Nat.reduceLeDiff, Nat.reduceLT, reduceIte, muV]
            refine rY_ph rfl rfl (fun _ _ _ h _ => h) (fun w' hE' hFD => ?_) ?_
            · have h1' : MuK w' (muV s1 y1 l1 (.slice (some ⟨b1, o1, none⟩) s1.toNat c1)) s1 y1 l1 emU := hFD 1 (by simp)
              simp only [VS, VD, SV, SL, T, Nat.reduceEqDiff, Nat.reduceAdd, Nat.reduceSub, Nat.reduceMul, Nat.reduceLeDiff, Nat.reduceLT, reduceIte]
              refine (Lines_spec _ _ _ hv emU [] ⟨List.Pairwise.nil, fun k => ⟨fun h => (h rfl).elim, fun h => by simp at h⟩, fun k h => by simp at h, by simp⟩ _ _ h1').mono ?_
              rintro v w10 ⟨hE10, ho10⟩
              obtain ⟨a4, c4, rfl⟩ := ho10.ints.form
              exact ⟨hE10, a4, c4, rfl⟩
            rintro v2 ⟨_, _, _, a2, c2, rfl⟩
            have z1 : decide (((0 : Nat) : Int) = 0) = true := rfl
            simp only [VS, VD, SV, SL, T, Nat.reduceEqDiff, Nat.reduceAdd, Nat.reduceSub, Nat.reduceMul, Nat.reduceLeDiff, Nat.reduceLT, reduceIte, z1, f7, muV]
            refine rY_ph rfl rfl (fun _ _ _ h hE => MuK.ext h hE) (fun w' hE' _ => ?_) ?_
            · simp only [VS, VD, SV, SL, T, Nat.reduceEqDiff, Nat.reduceAdd, Nat.reduceSub, Nat.reduceMul, Nat.reduceLeDiff, Nat.reduceLT, reduceIte]
              refine (AccessRange_spec _ _ _ hv M hbd _ 9 8 (by omega) _ ((hm.ext hEx).ext hE')).mono ?_
              rintro v w10 ⟨hm10, hE10⟩
              have e : rngX s1 y1 M 9 8 = M := by unfold rngX; rw [if_pos (by omega)]
              rw [e] at hm10
              exact ⟨hE10, hm10⟩
            rintro v3 ⟨_, _, _, h3⟩
            obtain ⟨b3, o3, c3, rfl⟩ := MuK.form h3
            simp only [VS, VD, SV, SL, T, Nat.reduceEqDiff, Nat.reduceAdd, Nat.reduceSub, Nat.reduceMul, Nat.reduceLeDiff, Nat.reduceLT, reduceIte, f7, muV]
            refine rY_ph rfl rfl (fun _ _ _ h _ => h) (fun w' hE' hFD => ?_) ?_
            · have h3' : MuK w' (muV s1 y1 l1 (.slice (some ⟨b3, o3, none⟩) s1.toNat c3)) s1 y1 l1 M := hFD 7 (by simp)
              simp only [VS, VD, SV, SL, T, Nat.reduceEqDiff, Nat.reduceAdd, Nat.reduceSub, Nat.reduceMul, Nat.reduceLeDiff, Nat.reduceLT, reduceIte]
              refine (Equal_spec _ _ _ hv M M hbd hbd _ _ w' h3' ((hm.ext hEx).ext hE')).mono ?_
              rintro _ w10 ⟨⟨r, rfl, hr⟩, hE10⟩
              exact ⟨hE10, by rw [hr.2 rfl]⟩
            rintro v4 ⟨_, _, _, h4⟩
            obtain rfl : v4 = .bool true := h4
            simp only [VS, VD, SV, SL, T, Nat.reduceEqDiff, Nat.reduceAdd, Nat.reduceSub, Nat.reduceMul, Nat.reduceLeDiff, Nat.reduceLT, reduceIte, f7, muV]
            refine rY_ph rfl rfl (fun _ _ _ h hE => MuK.ext h hE) (fun w' hE' _ => ?_) ?_
            · simp only [VS, VD, SV, SL, T, Nat.reduceEqDiff, Nat.reduceAdd, Nat.reduceSub, Nat.reduceMul, Nat.reduceLeDiff, Nat.reduceLT, reduceIte]
              refine (Access_spec _ _ _ hv M hbd _ (-5) _ ((hm.ext hEx).ext hE')).mono ?_
              rintro v w10 ⟨hm10, hE10⟩
              have e : accX s1 y1 M (-5) = M := by unfold accX; rw [if_pos (by omega)]
              rw [e] at hm10
              exact ⟨hE10, hm10⟩
            rintro v5 ⟨_, _, _, h5⟩
            obtain ⟨b5, o5, c5, rfl⟩ := MuK.form h5
            simp only [VS, VD, SV, SL, T, Nat.reduceEqDiff, Nat.reduceAdd, Nat.reduceSub, Nat.reduceMul, Nat.reduceLeDiff, Nat.reduceLT, reduceIte, f7, muV]
            intro w11 hE11 hF11
            have h5' : MuK w11 (muV s1 y1 l1 (.slice (some ⟨b5, o5, none⟩) s1.toNat c5)) s1 y1 l1 M := FA_head hF11
            simp only [VS, VD, SV, SL, T, Nat.reduceEqDiff, Nat.reduceAdd, Nat.reduceSub, Nat.reduceMul, Nat.reduceLeDiff, Nat.reduceLT, reduceIte]
            refine (Equal_spec _ _ _ hv M M hbd hbd _ _ w11 h5' ((hm.ext hEx).ext hE11)).mono ?_
            rintro _ w12 ⟨⟨r, rfl, hr⟩, hE12⟩
            rw [hr.2 rfl]
            simp only [VS, VD, SV, SL, T, Nat.reduceEqDiff, Nat.reduceAdd, Nat.reduceSub, Nat.reduceMul, Nat.reduceLeDiff, Nat.reduceLT, reduceIte]
            exact hΨ _ _ ⟨rfl, ((hE.trans hEx).trans hE11).trans hE12⟩
    · simp only [VS, VD, SV, SL, T, Nat.reduceEqDiff, Nat.reduceAdd, Nat.reduceSub, Nat.reduceMul, Nat.reduceLeDiff, Nat.reduceLT, reduceIte, q1]
      exact hΨ _ _ ⟨rfl, hE⟩
end Go.Proofs.Ytehmbpkcbmnfnaa

/-
  must: the laws' helper same; the reference's Join.
-/
import Derived.Test.YtehmbpkcbmnfnaaZCW2
set_option linter.unusedSimpArgs false
set_option linter.unusedVariables false
namespace Go.Proofs.Ytehmbpkcbmnfnaa
open Go.W Go.RowKit
theorem abs_len {L : List (Int × Int)} {m : Bnd} (h : AbsB L m) {Ks : List Int} (hK : KeysOf m Ks) : Ks.length = L.length := by
  have hmem : ∀ k, k ∈ L.map (·.1) ↔ k ∈ Ks := by
    intro k
    rw [← hK.mem, List.mem_map]
    constructor
    · rintro ⟨⟨j, b⟩, hx, rfl⟩
      rw [(h.mem j b).1 hx]; simp
    · intro hne
      obtain ⟨b, hb⟩ := Option.ne_none_iff_exists'.1 hne
      exact ⟨(k, b), (h.mem k b).2 hb, rfl⟩
  have h1 := nodup_len hK.nodup (fun k hk => (hmem k).2 hk)
  have h2 := nodup_len h.nd (fun k hk => (hmem k).1 hk)
  rw [List.length_map] at h1 h2
  omega
set_option maxHeartbeats 1000000 in
set_option maxRecDepth 10000 in
theorem same_spec (s y l : Int) (hv : Geo s y l = true) (m : Bnd) (hb : Bd y m) (hlim : Lim m) (L : List (Int × Int)) (hA : AbsB L m) (hlen : L.length ≤ 500000) (st lv : Value) (w : World) (h : MuK w st s y l m) (hl : LnAt w lv L) :
    VRet Try.prog 16 #[st, lv] w fun v w' => v = .bool true ∧ Ext w w' := by
  obtain ⟨b0, o0, c0, rfl⟩ := h.form
  obtain ⟨al, cl, rfl⟩ := lnAt_form hl
  have hK := keysU_of hb hlim
  generalize keysU m = Ks at *
  have hKL := abs_len hA hK
  refine VRet_start T.mo ok16 rfl fun Ψ hΨ => ?_; simp only [vc16, rs16]
  simp only [VS, VD, SV, SL, T, Nat.reduceEqDiff, Nat.reduceAdd, Nat.reduceSub, Nat.reduceMul, Nat.reduceLeDiff, Nat.reduceLT, reduceIte, muV]
  have hE := (Ext.refl w).alloc tomb
  replace h := h.ext hE
  generalize w.alloc tomb = w1 at *
  refine (Lines_spec s y l hv m Ks hK _ _ h).mono ?_
  rintro v2 w2 ⟨hE2, ho⟩
  obtain ⟨ak, ck, rfl⟩ := ho.ints.form
  have hints := ho.ints
  replace h := h.ext hE2
  replace hE := hE.trans hE2
  replace hl := hl.ext hE
  have d0 : decide (¬ (Ks.length : Int) = L.length) = false := decide_eq_false (fun h => h (by omega))
  simp only [VS, VD, SV, SL, T, Nat.reduceEqDiff, Nat.reduceAdd, Nat.reduceSub, Nat.reduceMul, Nat.reduceLeDiff, Nat.reduceLT, reduceIte, d0]
  refine LoopP_intro (α := Nat) (fun i f' w' => f' 1 = .slice al L.length cl ∧ f' 2 = muV s y l (.slice (some ⟨b0, o0, none⟩) s.toNat c0) ∧ f' 5 = .slice ak Ks.length ck ∧ f' 17 = .slice ak Ks.length ck ∧ f' 18 = .int .i64 Ks.length ∧ f' 19 = .int .i64 i ∧ i ≤ Ks.length ∧ Ext w2 w') (fun i => Ks.length - i) 0 ?_ ?_
  · simp only [VS, VD, SV, SL, T, Nat.reduceEqDiff, Nat.reduceAdd, Nat.reduceSub, Nat.reduceMul, Nat.reduceLeDiff, Nat.reduceLT, reduceIte, muV]
    exact ⟨rfl, by omega, Ext.refl _⟩
  rintro i f' w' ⟨f1, f2, f5, f17, f18, f19, hi, hEx⟩
  simp only [VS, VD, SV, SL, T, Nat.reduceEqDiff, Nat.reduceAdd, Nat.reduceSub, Nat.reduceMul, Nat.reduceLeDiff, Nat.reduceLT, reduceIte, f18, f19]
  refine cnd_d (fun hlt => ?_) (fun hlt => ?_)
  · have hi' : i < Ks.length := by omega
    obtain ⟨bk, off, cs, e, fz, rfl, _, hbk, hck⟩ := (hints.ext hEx).get (i := i) (x := Ks[i]) (by simp [hi'])
    have hprev : 0 < i → ∃ p, cs[off + (i - 1)]? = some (.int .i64 p) ∧ p < Ks[i] := by
      intro h0
      have hi1 : i - 1 < Ks.length := by omega
      obtain ⟨bk1, off1, cs1, e1, fz1, e2, _, hbk1, hck1⟩ := (hints.ext hEx).get (i := i - 1) (x := Ks[i - 1]) (by simp [hi1])
      simp only [Option.some.injEq, Addr.mk.injEq, and_true] at e2
      obtain ⟨rfl, rfl⟩ := e2
      rw [hbk] at hbk1
      simp only [Option.some.injEq, Obj.cells.injEq] at hbk1
      obtain ⟨rfl, _, _⟩ := hbk1
      exact ⟨Ks[i - 1], hck1, List.pairwise_iff_getElem.1 hK.srt (i - 1) i hi1 hi' (by omega)⟩
    obtain ⟨a, hka⟩ : ∃ a, m Ks[i] = some a := by
      have := (hK.mem Ks[i]).2 (List.getElem_mem hi')
      cases hq : m Ks[i] with
      | none => exact (this hq).elim
      | some a => exact ⟨a, rfl⟩
    have hka' := hb _ _ hka
    have hage : ageU m Ks[i] = (a, true) := by unfold ageU; rw [if_neg (by omega), hka]
    have hfind : rFind L Ks[i] = a := by rw [hA.find, hka]; rfl
    generalize Ks[i] = k at *
    simp only [VS, VD, SV, SL, T, Nat.reduceEqDiff, Nat.reduceAdd, Nat.reduceSub, Nat.reduceMul, Nat.reduceLeDiff, Nat.reduceLT, reduceIte, f17, f19, hbk, Int.toNat_natCast, hck, f2, muV]
    refine ⟨by omega, ?_⟩
    refine (Age_spec s y l hv m _ k _ (h.ext hEx)).mono ?_
    rintro _ w3 ⟨rfl, hE3⟩
    rw [hage]
    replace hEx := hEx.trans hE3
    simp only [VS, VD, SV, SL, T, Nat.reduceEqDiff, Nat.reduceAdd, Nat.reduceSub, Nat.reduceMul, Nat.reduceLeDiff, Nat.reduceLT, reduceIte, Bool.not_true, f1]
    refine (rFind_spec L (by omega) _ k _ (hl.ext hEx)).mono ?_
    rintro _ w4 ⟨rfl, hE4⟩
    rw [hfind]
    have hbk4 := (hE3.trans hE4).obj hbk
    replace hEx := hEx.trans hE4
    simp only [VS, VD, SV, SL, T, Nat.reduceEqDiff, Nat.reduceAdd, Nat.reduceSub, Nat.reduceMul, Nat.reduceLeDiff, Nat.reduceLT, reduceIte, not_true_eq_false, decide_false]
    by_cases h0 : 0 < i
    · obtain ⟨p, hp1, hp2⟩ := hprev h0
      have d1 : decide ((0 : Int) < i) = true := decide_eq_true (by omega)
      have d2 : decide (k ≤ p) = false := decide_eq_false (by omega)
      have e1 : ((i : Int) - 1).toNat = i - 1 := by omega
      simp only [VS, VD, SV, SL, T, Nat.reduceEqDiff, Nat.reduceAdd, Nat.reduceSub, Nat.reduceMul, Nat.reduceLeDiff, Nat.reduceLT, reduceIte, d1, f5, hbk4, e1, hp1, d2, f19]
      exact ⟨by omega, by omega, by omega, i + 1, ⟨f1, by rw [f2]; rfl, f17, f18, by simp, by omega, hEx⟩, by omega⟩
    · have d1 : decide ((0 : Int) < i) = false := decide_eq_false (by omega)
      simp only [VS, VD, SV, SL, T, Nat.reduceEqDiff, Nat.reduceAdd, Nat.reduceSub, Nat.reduceMul, Nat.reduceLeDiff, Nat.reduceLT, reduceIte, d1, f19]
      exact ⟨by omega, i + 1, ⟨f1, by rw [f2]; rfl, f5, f17, f18, by simp, by omega, hEx⟩, by omega⟩
  · simp only [VS, VD, SV, SL, T, Nat.reduceEqDiff, Nat.reduceAdd, Nat.reduceSub, Nat.reduceMul, Nat.reduceLeDiff, Nat.reduceLT, reduceIte]
    exact hΨ _ _ ⟨rfl, hE.trans hEx⟩
def jn1 (B : List (Int × Int)) (x : Int × Int) : Option (Int × Int) := if 0 ≤ rFind B x.1 then some (x.1, max x.2 (rFind B x.1)) else none
theorem rJn_eq (A B : List (Int × Int)) : rJn A B = A.filterMap (jn1 B) := rfl
set_option maxHeartbeats 1000000 in
set_option maxRecDepth 10000 in
theorem rJoin_spec (A B : List (Int × Int)) (hA : A.length ≤ 100000) (hB : B.length ≤ 100000) (av bv : Value) (w : World) (ha : LnAt w av A) (hb : LnAt w bv B) :
    VRet Try.prog 30 #[av, bv] w fun v w' => LnAt w' v (rJn A B) ∧ Ext w w' := by
  obtain ⟨aa, ca, rfl⟩ := lnAt_form ha
  obtain ⟨ab, cb, rfl⟩ := lnAt_form hb
  refine VRet_start T.mo ok30 rfl fun Ψ hΨ => ?_; simp only [vc30, rs30]
  simp only [VS, VD, SV, SL, T, Nat.reduceEqDiff, Nat.reduceAdd, Nat.reduceSub, Nat.reduceMul, Nat.reduceLeDiff, Nat.reduceLT, reduceIte]
  refine LoopP_intro (α := Nat) (fun i f' w' => f' 0 = .slice aa A.length ca ∧ f' 1 = .slice ab B.length cb ∧ f' 6 = .int .i64 i ∧ i ≤ A.length ∧ LnO w.heap.size w' (f' 5) ((A.take i).filterMap (jn1 B)) ∧ Ext w w') (fun i => A.length - i) 0 ?_ ?_
  · simp only [VS, VD, SV, SL, T, Nat.reduceEqDiff, Nat.reduceAdd, Nat.reduceSub, Nat.reduceMul, Nat.reduceLeDiff, Nat.reduceLT, reduceIte]
    exact ⟨rfl, by omega, OwnL.nil _ _ _ _ _, Ext.refl _⟩
  rintro i f' w' ⟨f0, f1, f6, hi, hown, hEx⟩
  simp only [VS, VD, SV, SL, T, Nat.reduceEqDiff, Nat.reduceAdd, Nat.reduceSub, Nat.reduceMul, Nat.reduceLeDiff, Nat.reduceLT, reduceIte, f6, f0]
  refine cnd_d (fun hlt => ?_) (fun hlt => ?_)
  · have hi' : i < A.length := by omega
    obtain ⟨b, off, cs, e, fz, rfl, hbk, hle, hext, hc0, hc1⟩ := lnAt_get (ha.ext hEx) hi'
    have hst : (A.take (i + 1)).filterMap (jn1 B) = (A.take i).filterMap (jn1 B) ++ (jn1 B A[i]).toList := by
      rw [List.take_succ_eq_append_getElem hi', List.filterMap_append]; simp only [List.filterMap_cons, List.filterMap_nil]; cases jn1 B A[i] <;> rfl
    have hlen : ((A.take i).filterMap (jn1 B)).length ≤ i := Nat.le_trans (List.length_filterMap_le _ _) (List.length_take_le _ _)
    generalize (A.take i).filterMap (jn1 B) = R at *
    generalize A[i] = x at *
    obtain ⟨v5, f5⟩ : ∃ v, f' 5 = v := ⟨_, rfl⟩
    rw [f5] at hown
    simp only [VS, VD, SV, SL, T, Nat.reduceEqDiff, Nat.reduceAdd, Nat.reduceSub, Nat.reduceMul, Nat.reduceLeDiff, Nat.reduceLT, reduceIte, f6, f0, f1, hbk, Int.toNat_natCast, hc0]
    refine ⟨by omega, ?_⟩
    refine (rFind_spec B (by omega) _ x.1 _ (hb.ext hEx)).mono ?_
    rintro _ w2 ⟨rfl, hE2⟩
    have hbk2 := hE2.obj hbk
    replace hEx := hEx.trans hE2
    replace hown := hown.ext hE2
    simp only [VS, VD, SV, SL, T, Nat.reduceEqDiff, Nat.reduceAdd, Nat.reduceSub, Nat.reduceMul, Nat.reduceLeDiff, Nat.reduceLT, reduceIte]
    refine cnd_d (fun hq => ?_) (fun hq => ?_)
    · have hj : jn1 B x = some (x.1, max x.2 (rFind B x.1)) := by unfold jn1; rw [if_pos hq]
      rw [hj] at hst
      simp only [VS, VD, SV, SL, T, Nat.reduceEqDiff, Nat.reduceAdd, Nat.reduceSub, Nat.reduceMul, Nat.reduceLeDiff, Nat.reduceLT, reduceIte, f5, f6, f0]
      refine DW_intro (fun n _ v w' => ∃ g, v = .slice (some ⟨g, 0, none⟩) 1 1 ∧ w'.heap[g]? = some (.cells #[.int .i64 x.1, .int .i64 (max x.2 (rFind B x.1))] 55 (0, 0))) ?_
      simp only [VS, VD, SV, SL, T, Nat.reduceEqDiff, Nat.reduceAdd, Nat.reduceSub, Nat.reduceMul, Nat.reduceLeDiff, Nat.reduceLT, reduceIte, f5, f6, f0, hbk2, Int.toNat_natCast, hc0, hc1]
      refine ⟨by omega, by omega, ?_⟩
      refine rY_ph rfl rfl (fun _ _ _ ⟨g, h1, h2⟩ hE => ⟨g, h1, hE.obj h2⟩) (fun w3 hE3 _ => ?_) ?_
      · simp only [VS, VD, SV, SL, T, Nat.reduceEqDiff, Nat.reduceAdd, Nat.reduceSub, Nat.reduceMul, Nat.reduceLeDiff, Nat.reduceLT, reduceIte]
        exact ⟨(Ext.refl _).alloc _, _, rfl, if_pos rfl⟩
      rintro v14 ⟨_, _, _, g, rfl, _⟩
      simp only [VS, VD, SV, SL, T, Nat.reduceEqDiff, Nat.reduceAdd, Nat.reduceSub, Nat.reduceMul, Nat.reduceLeDiff, Nat.reduceLT, reduceIte, f5]
      intro w3 hE3 hF3
      obtain ⟨g', e1, hg⟩ : ∃ g', Value.slice (some ⟨g, 0, none⟩) 1 1 = .slice (some ⟨g', 0, none⟩) 1 1 ∧ w3.heap[g']? = some (.cells #[.int .i64 x.1, .int .i64 (max x.2 (rFind B x.1))] 55 (0, 0)) := FA_head hF3
      simp only [Value.slice.injEq, Option.some.injEq, Addr.mk.injEq, and_true] at e1
      subst e1
      replace hown := hown.ext hE3
      replace hEx := hEx.trans hE3
      simp only [VS, VD, SV, SL, T, Nat.reduceEqDiff, Nat.reduceAdd, Nat.reduceSub, Nat.reduceMul, Nat.reduceLeDiff, Nat.reduceLT, reduceIte]
      refine rV_append (ty := 34) T.el34 T.sz55 T.by55 T.zr55 rfl (by omega) hown (news := [.int .i64 x.1, .int .i64 (max x.2 (rFind B x.1))]) (by simp) ?_ ?_ ?_ ?_ hEx.size ?_
      · intro j u hu
        rw [add_mk, cell_mk, hg]
        simpa using hu
      · intro u hu
        simp only [List.mem_cons, List.not_mem_nil, or_false] at hu
        rcases hu with rfl | rfl <;> rfl
      · unfold maxLen; omega
      · omega
      · intro v' w4 ho4 hg4 _
        have hE4 : Ext w w4 := hEx.grownO hown (Nat.le_refl _) hg4
        simp only [VS, VD, SV, SL, T, Nat.reduceEqDiff, Nat.reduceAdd, Nat.reduceSub, Nat.reduceMul, Nat.reduceLeDiff, Nat.reduceLT, reduceIte, f6]
        refine ⟨by omega, i + 1, ⟨f0, f1, by simp, by omega, ?_, hE4⟩, by omega⟩
        rw [hst]
        show w4.ownsRow _ _ 2 v' (R ++ [(x.1, max x.2 (rFind B x.1))]).length ((R ++ [(x.1, max x.2 (rFind B x.1))]).map lnR).flatten
        have e5 : (R ++ [(x.1, max x.2 (rFind B x.1))]).length = R.length + 1 := by simp
        have e6 : ((R ++ [(x.1, max x.2 (rFind B x.1))]).map lnR).flatten = (R.map lnR).flatten ++ [.int .i64 x.1, .int .i64 (max x.2 (rFind B x.1))] := by simp [lnR]
        rw [e5, e6]
        exact ho4
    · have hj : jn1 B x = none := by unfold jn1; rw [if_neg hq]
      rw [hj] at hst
      simp only [VS, VD, SV, SL, T, Nat.reduceEqDiff, Nat.reduceAdd, Nat.reduceSub, Nat.reduceMul, Nat.reduceLeDiff, Nat.reduceLT, reduceIte, f6]
      refine ⟨by omega, i + 1, ⟨f0, f1, by simp, by omega, by rw [hst, f5]; simpa using hown, hEx⟩, by omega⟩
  · rw [List.take_of_length_le (by omega)] at hown
    simp only [VS, VD, SV, SL, T, Nat.reduceEqDiff, Nat.reduceAdd, Nat.reduceSub, Nat.reduceMul, Nat.reduceLeDiff, Nat.reduceLT, reduceIte]
    refine hΨ _ _ ⟨?_, hEx⟩
    rw [rJn_eq]
    exact hown.sl fun _ => rfl
end Go.Proofs.Ytehmbpkcbmnfnaa

/-
  The statements of may: awake; MayDescribes.
-/
import Derived.Test.YtndkadphpbnpeaaZCR3
import Derived.Test.YtndkadphpbnpeaaZG
set_option linter.unusedSimpArgs false
set_option linter.unusedVariables false
namespace Go.Proofs.Ytndkadphpbnpeaa
open Go.W
set_option maxRecDepth 10000 in
theorem awake_spec (w : World) : VRet Try.prog 11 #[] w fun v w' => v = .bool true ∧ Ext w w' := by
  have hv : Geo 1 2 1 = true := by decide
  refine VRet_start T.mo ok11 rfl fun Ψ hΨ => ?_; simp only [vc11, rs11]
  simp only [VS, VD, SV, SL, T, Nat.reduceEqDiff, Nat.reduceAdd, Nat.reduceSub, Nat.reduceMul, Nat.reduceLeDiff, Nat.reduceLT, reduceIte]
  refine (New_spec 1 2 1 hv _).mono ?_
  rintro _ w1 ⟨⟨st, rfl, hm⟩, hE⟩
  obtain ⟨u0, a0, n0, c0, rfl⟩ := hm.form
  simp only [VS, VD, SV, SL, T, Nat.reduceEqDiff, Nat.reduceAdd, Nat.reduceSub, Nat.reduceMul, Nat.reduceLeDiff, Nat.reduceLT, reduceIte, stV]
  refine (Access_spec 1 2 1 hv _ (BdS_empty 2) _ 4 _ (hm.ext ((Ext.refl _).alloc tomb))).mono ?_
  rintro _ w2 ⟨hm2, hE2⟩
  replace hE := (hE.alloc tomb).trans hE2
  have hb2 := (BdS_empty 2).acc (s := 1) (k := 4) (by omega)
  simp only [VS, VD, SV, SL, T, Nat.reduceEqDiff, Nat.reduceAdd, Nat.reduceSub, Nat.reduceMul, Nat.reduceLeDiff, Nat.reduceLT, reduceIte]
  refine (Access_spec 1 2 1 hv _ hb2 _ 7 _ hm2).mono ?_
  rintro _ w3 ⟨hm3, hE3⟩
  replace hE := hE.trans hE3
  have hb3 := hb2.acc (s := 1) (k := 7) (by omega)
  obtain ⟨u3, a3, n3, c3, rfl⟩ := hm3.form
  simp only [VS, VD, SV, SL, T, Nat.reduceEqDiff, Nat.reduceAdd, Nat.reduceSub, Nat.reduceMul, Nat.reduceLeDiff, Nat.reduceLT, reduceIte, stV]
  replace hm3 := hm3.ext ((Ext.refl _).alloc tomb)
  replace hE := hE.alloc tomb
  generalize w3.alloc tomb = w4 at *
  refine (Age_spec 1 2 1 hv _ _ 4 _ hm3).mono ?_
  rintro _ w5 ⟨rfl, hE5⟩
  replace hm3 := hm3.ext hE5
  replace hE := hE.trans hE5
  simp only [VS, VD, SV, SL, T, Nat.reduceEqDiff, Nat.reduceAdd, Nat.reduceSub, Nat.reduceMul, Nat.reduceLeDiff, Nat.reduceLT, reduceIte]
  refine (Age_spec 1 2 1 hv _ _ 7 _ hm3).mono ?_
  rintro _ w6 ⟨rfl, hE6⟩
  replace hm3 := hm3.ext hE6
  replace hE := hE.trans hE6
  simp only [VS, VD, SV, SL, T, Nat.reduceEqDiff, Nat.reduceAdd, Nat.reduceSub, Nat.reduceMul, Nat.reduceLeDiff, Nat.reduceLT, reduceIte]
  refine (Access_spec 1 2 1 hv _ hb3 _ 9 _ hm3).mono ?_
  rintro _ w7 ⟨hm7, hE7⟩
  replace hE := hE.trans hE7
  simp only [VS, VD, SV, SL, T, Nat.reduceEqDiff, Nat.reduceAdd, Nat.reduceSub, Nat.reduceMul, Nat.reduceLeDiff, Nat.reduceLT, reduceIte]
  refine (Age_spec 1 2 1 hv _ _ 4 _ hm7).mono ?_
  rintro _ w8 ⟨rfl, hE8⟩
  have e1 : ageM (accS 1 2 (accS 1 2 (some fun _ => none) 4) 7) 4 = (1, true) := by rfl
  have e2 : ageM (accS 1 2 (accS 1 2 (some fun _ => none) 4) 7) 7 = (0, true) := by rfl
  have e3 : ageM (accS 1 2 (accS 1 2 (accS 1 2 (some fun _ => none) 4) 7) 9) 4 = (0, false) := by rfl
  simp only [VS, VD, SV, SL, T, Nat.reduceEqDiff, Nat.reduceAdd, Nat.reduceSub, Nat.reduceMul, Nat.reduceLeDiff, Nat.reduceLT, reduceIte, e1, e2, e3]
  exact hΨ _ _ ⟨rfl, hE.trans hE8⟩
theorem okL_okR {y : Int} {m : Int → Option Int} {L : List (Int × Int)} (hb : Bd y m) (h : AbsL L m) (l : List Int) (n : Nat) : okL (some m) l n ↔ okR L l n := by
  unfold okL okR
  refine forall_congr' fun j => forall_congr' fun k => ?_
  refine imp_congr_right fun _ => imp_congr_right fun _ => ?_
  rw [h.age]
  have e : ageM (some m) k = if k < 0 then (0, false) else match m k with | some b => (b, true) | none => (0, false) := rfl
  rw [e]
  clear e
  have hbk := hb k
  generalize m k = o at *
  cases o with
  | none => simp only [Option.getD_none]; split <;> simp
  | some b =>
    have := hbk b rfl
    rw [if_neg (by omega)]
    simp only [Option.getD_some, true_and]
    omega
theorem DesP_DesR {y : Int} {M : Option (Int → Option Int)} {r : Bool × List (Int × Int)} {s : Int} {ll : List (List Int)} (hb : BdS y M) (h : Same M r) : DesP M s ll ↔ DesR r.1 r.2 s ll := by
  obtain ⟨u, L⟩ := r
  unfold DesP DesR
  cases M with
  | none => have hu : u = true := h; simp [hu]
  | some m =>
    obtain ⟨hu, ha⟩ := h
    simp only [] at hu ha
    subst hu
    simp only [reduceCtorEq, Bool.false_eq_true, false_or, okL_okR (hb m rfl) ha]
theorem DesP_none {s : Int} {ll : List (List Int)} : DesP none s ll ↔ (ll.length : Int) = s := by simp [DesP]
set_option maxRecDepth 10000 in
theorem MayDescribes_spec (s y l : Int) (lv : Value) (L : List Stp) (llv : Value) (ll : List (List Int)) (w : World) (h : StpsAt w lv L) (hl : IntssAt w llv ll) :
    VRet Try.prog 3 #[cfgV s y l, lv, llv] w fun v w' => v = .bool true ∧ Ext w w' := by
  obtain ⟨la, lc, rfl⟩ := h.form
  obtain ⟨ma, mc, rfl⟩ := hl.form
  refine VRet_start T.mo ok3 rfl fun Ψ hΨ => ?_; simp only [vc3, rs3]
  simp only [VS, VD, SV, SL, T, Nat.reduceEqDiff, Nat.reduceAdd, Nat.reduceSub, Nat.reduceMul, Nat.reduceLeDiff, Nat.reduceLT, reduceIte, cfgV]
  refine (awake_spec _).mono ?_
  rintro _ w1 ⟨rfl, hE⟩
  replace hE := ((Ext.refl w).alloc tomb).trans hE
  simp only [VS, VD, SV, SL, T, Nat.reduceEqDiff, Nat.reduceAdd, Nat.reduceSub, Nat.reduceMul, Nat.reduceLeDiff, Nat.reduceLT, reduceIte]
  refine (small_spec s y l _ L _ (h.ext hE)).mono ?_
  rintro _ w2 ⟨⟨r, rfl, hr⟩, hE2⟩
  replace hE := hE.trans hE2
  cases r with
  | false =>
    simp only [VS, VD, SV, SL, T, Nat.reduceEqDiff, Nat.reduceAdd, Nat.reduceSub, Nat.reduceMul, Nat.reduceLeDiff, Nat.reduceLT, reduceIte]
    refine (awake_spec _).mono ?_
    rintro _ w3 ⟨rfl, hE3⟩
    simp only [VS, VD, SV, SL, T, Nat.reduceEqDiff, Nat.reduceAdd, Nat.reduceSub, Nat.reduceMul, Nat.reduceLeDiff, Nat.reduceLT, reduceIte]
    exact hΨ _ _ ⟨rfl, hE.trans hE3⟩
  | true =>
    have hsm := hr.1 rfl
    simp only [VS, VD, SV, SL, T, Nat.reduceEqDiff, Nat.reduceAdd, Nat.reduceSub, Nat.reduceMul, Nat.reduceLeDiff, Nat.reduceLT, reduceIte]
    refine cnd_d (fun hc => ?_) (fun hc => ?_)
    · simp only [VS, VD, SV, SL, T, Nat.reduceEqDiff, Nat.reduceAdd, Nat.reduceSub, Nat.reduceMul, Nat.reduceLeDiff, Nat.reduceLT, reduceIte]
      refine (awake_spec _).mono ?_
      rintro _ w3 ⟨rfl, hE3⟩
      simp only [VS, VD, SV, SL, T, Nat.reduceEqDiff, Nat.reduceAdd, Nat.reduceSub, Nat.reduceMul, Nat.reduceLeDiff, Nat.reduceLT, reduceIte]
      exact hΨ _ _ ⟨rfl, hE.trans hE3⟩
    · simp only [VS, VD, SV, SL, T, Nat.reduceEqDiff, Nat.reduceAdd, Nat.reduceSub, Nat.reduceMul, Nat.reduceLeDiff, Nat.reduceLT, reduceIte]
      refine loop_cB (fun f' w' => f' 1 = .slice la L.length lc ∧ f' 2 = .slice ma ll.length mc ∧ f' 3 = cfgV s y l ∧ Ext w w' ∧ ∀ l ∈ ll, l.length ≤ 32) ?_ ?_
      · refine LoopP_intro (α := Nat) (fun i f' w' => f' 1 = .slice la L.length lc ∧ f' 2 = .slice ma ll.length mc ∧ f' 3 = cfgV s y l ∧ f' 27 = .slice ma ll.length mc ∧ f' 28 = .int .i64 ll.length ∧ f' 29 = .int .i64 i ∧ i ≤ ll.length ∧ Ext w w' ∧ ∀ (j : Nat) l, j < i → ll[j]? = some l → l.length ≤ 32) (fun i => ll.length - i) 0 ?_ ?_
        · simp only [VS, VD, SV, SL, T, Nat.reduceEqDiff, Nat.reduceAdd, Nat.reduceSub, Nat.reduceMul, Nat.reduceLeDiff, Nat.reduceLT, reduceIte, cfgV]
          exact ⟨rfl, by omega, hE, by simp⟩
        · rintro i f' w' ⟨f1, f2, f3, f27, f28, f29, hile, hEx, hok⟩
          simp only [VS, VD, SV, SL, T, Nat.reduceEqDiff, Nat.reduceAdd, Nat.reduceSub, Nat.reduceMul, Nat.reduceLeDiff, Nat.reduceLT, reduceIte, f28, f29]
          refine cnd_d (fun hlt => ?_) (fun hlt => ?_)
          · have hi : i < ll.length := by omega
            obtain ⟨b, off, cs, e, fz, u1, rfl, _, hb, hcs, hints⟩ := hl.get (List.getElem?_eq_getElem hi)
            obtain ⟨a1, c1, rfl⟩ := hints.form
            simp only [VS, VD, SV, SL, T, Nat.reduceEqDiff, Nat.reduceAdd, Nat.reduceSub, Nat.reduceMul, Nat.reduceLeDiff, Nat.reduceLT, reduceIte, f27, f29, Int.toNat_natCast, hEx.obj hb, hcs]
            refine ⟨by omega, cnd_d (fun hg => ?_) (fun hg => ?_)⟩
            · simp only [VS, VD, SV, SL, T, Nat.reduceEqDiff, Nat.reduceAdd, Nat.reduceSub, Nat.reduceMul, Nat.reduceLeDiff, Nat.reduceLT, reduceIte]
              exact hΨ _ _ ⟨rfl, hEx⟩
            · simp only [VS, VD, SV, SL, T, Nat.reduceEqDiff, Nat.reduceAdd, Nat.reduceSub, Nat.reduceMul, Nat.reduceLeDiff, Nat.reduceLT, reduceIte, f29]
              refine ⟨by omega, i + 1, ⟨f1, f2, f3, f27, f28, by simp, by omega, hEx, ?_⟩, by omega⟩
              intro j l' hj hl'
              by_cases e : j < i
              · exact hok j l' e hl'
              · obtain rfl : j = i := by omega
                rw [List.getElem?_eq_getElem hi] at hl'
                simp only [Option.some.injEq] at hl'
                subst hl'
                omega
          · simp only [VS, VD, SV, SL, T, Nat.reduceEqDiff, Nat.reduceAdd, Nat.reduceSub, Nat.reduceMul, Nat.reduceLeDiff, Nat.reduceLT, reduceIte]
            refine ⟨f1, f2, f3, hEx, fun l' hl' => ?_⟩
            obtain ⟨j, hj, rfl⟩ := List.getElem_of_mem hl'
            exact hok j _ (by omega) (List.getElem?_eq_getElem hj)
      · rintro f w3 ⟨f1, f2, f3, hE3, hll⟩
        obtain ⟨hv, hs16, hL40, hnear⟩ := hsm
        have hp := Geo_spec hv
        have hlls : ll.length ≤ 1000000 ∧ ∀ l ∈ ll, l.length ≤ 1000000 := ⟨by omega, fun l hl => by have := hll l hl; omega⟩
        simp only [VS, VD, SV, SL, T, Nat.reduceEqDiff, Nat.reduceAdd, Nat.reduceSub, Nat.reduceMul, Nat.reduceLeDiff, Nat.reduceLT, reduceIte, f3, cfgV, f1]
        refine (after_spec s y l _ L ⟨hv, hs16, hL40, hnear⟩ _ (h.ext hE3)).mono ?_
        rintro _ w4 ⟨⟨a, b, rfl, hmay, href⟩, hE4⟩
        replace hE4 := hE3.trans hE4
        have hsame := run_same (s := s) hp.2.2.1 L
        have hbd := runS_bd (s := s) hp.2.2.1 L
        have hlen := runR_len s y L
        generalize runS s y L = M at *
        generalize runR s y L = R at *
        obtain ⟨ur, R⟩ := R
        simp only [] at hlen href
        obtain ⟨ua, aa, na, ca, rfl⟩ := hmay.form
        obtain ⟨ab, cb, rfl⟩ := href.form
        simp only [VS, VD, SV, SL, T, Nat.reduceEqDiff, Nat.reduceAdd, Nat.reduceSub, Nat.reduceMul, Nat.reduceLeDiff, Nat.reduceLT, reduceIte, stV, f3, cfgV]
        have hE5 := (hE4.alloc tomb).alloc tomb
        replace hmay := hmay.ext (((Ext.refl _).alloc tomb).alloc tomb)
        replace href := href.ext (((Ext.refl _).alloc tomb).alloc tomb)
        generalize (w4.alloc tomb).alloc tomb = w5 at *
        refine (Unknown_spec s y l hv _).mono ?_
        rintro _ w6 ⟨rfl, hE6⟩
        replace hE5 := hE5.trans hE6
        replace hmay := hmay.ext hE6
        replace href := href.ext hE6
        simp only [VS, VD, SV, SL, T, Nat.reduceEqDiff, Nat.reduceAdd, Nat.reduceSub, Nat.reduceMul, Nat.reduceLeDiff, Nat.reduceLT, reduceIte, stV]
        have hE7 := hE5.alloc tomb
        replace hmay := hmay.ext ((Ext.refl _).alloc tomb)
        replace href := href.ext ((Ext.refl _).alloc tomb)
        generalize w6.alloc tomb = w7 at *
        have hd := DesP_DesR (s := s) (ll := ll) hbd hsame
        refine DW_intro (fun n _ v w => ∃ b : Bool, v = .bool b ∧ (b = true ↔ if n = 14 then (ll.length : Int) = s else DesP M s ll)) ?_
        simp only [VS, VD, SV, SL, T, Nat.reduceEqDiff, Nat.reduceAdd, Nat.reduceSub, Nat.reduceMul, Nat.reduceLeDiff, Nat.reduceLT, reduceIte, f2, f3, cfgV]
        refine rY_ph rfl rfl (fun _ _ _ h _ => h) (fun w8 hE8 _ => ?_) ?_
        · simp only [VS, VD, SV, SL, T, Nat.reduceEqDiff, Nat.reduceAdd, Nat.reduceSub, Nat.reduceMul, Nat.reduceLeDiff, Nat.reduceLT, reduceIte, f2]
          refine (Describes_spec s y l hv M _ _ ll hlls w8 (hmay.ext hE8) (hl.ext (hE7.trans hE8))).mono ?_
          rintro _ w9 ⟨⟨r, rfl, hr⟩, hE9⟩
          exact ⟨hE9, r, rfl, hr⟩
        rintro _ ⟨_, _, _, b1, rfl, hb1⟩
        simp only [VS, VD, SV, SL, T, Nat.reduceEqDiff, Nat.reduceAdd, Nat.reduceSub, Nat.reduceMul, Nat.reduceLeDiff, Nat.reduceLT, reduceIte, f2]
        refine rY_ph rfl rfl (fun _ _ _ h _ => h) (fun w8 hE8 _ => ?_) ?_
        · simp only [VS, VD, SV, SL, T, Nat.reduceEqDiff, Nat.reduceAdd, Nat.reduceSub, Nat.reduceMul, Nat.reduceLeDiff, Nat.reduceLT, reduceIte, f2]
          refine (rDescribes_spec s y l ur R (by omega) _ _ ll hlls w8 (href.ext hE8) (hl.ext (hE7.trans hE8))).mono ?_
          rintro _ w9 ⟨⟨r, rfl, hr⟩, hE9⟩
          exact ⟨hE9, r, rfl, by rw [hr, hd]⟩
        rintro _ ⟨_, _, _, b2, rfl, hb2⟩
        have e12 : b1 = b2 := by
          rw [Bool.eq_iff_iff, hb1, hb2]
          exact Iff.rfl
        subst e12
        simp only [VS, VD, SV, SL, T, Nat.reduceEqDiff, Nat.reduceAdd, Nat.reduceSub, Nat.reduceMul, Nat.reduceLeDiff, Nat.reduceLT, reduceIte, f2, beq_self_eq_true]
        refine rY_ph rfl rfl (fun _ _ _ h _ => h) (fun w8 hE8 _ => ?_) ?_
        · simp only [VS, VD, SV, SL, T, Nat.reduceEqDiff, Nat.reduceAdd, Nat.reduceSub, Nat.reduceMul, Nat.reduceLeDiff, Nat.reduceLT, reduceIte, f2]
          refine (Describes_spec s y l hv none _ _ ll hlls w8 rfl (hl.ext (hE7.trans hE8))).mono ?_
          rintro _ w9 ⟨⟨r, rfl, hr⟩, hE9⟩
          exact ⟨hE9, r, rfl, by rw [hr, DesP_none]⟩
        rintro _ ⟨_, _, _, b3, rfl, hb3⟩
        have e3 : decide ((ll.length : Int) = s) = b3 := by
          rw [Bool.eq_iff_iff, hb3, decide_eq_true_iff]
          exact Iff.rfl
        simp only [VS, VD, SV, SL, T, Nat.reduceEqDiff, Nat.reduceAdd, Nat.reduceSub, Nat.reduceMul, Nat.reduceLeDiff, Nat.reduceLT, reduceIte, f2, f3, cfgV, e3]
        intro w8 hE8 _
        simp only [VS, VD, SV, SL, T, Nat.reduceEqDiff, Nat.reduceAdd, Nat.reduceSub, Nat.reduceMul, Nat.reduceLeDiff, Nat.reduceLT, reduceIte, beq_self_eq_true]
        exact hΨ _ _ ⟨rfl, hE7.trans hE8⟩
end Go.Proofs.Ytndkadphpbnpeaa

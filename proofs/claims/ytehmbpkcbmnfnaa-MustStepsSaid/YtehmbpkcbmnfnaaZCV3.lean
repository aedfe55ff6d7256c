/-
  The statements of must: states.
-/
import Derived.Test.YtehmbpkcbmnfnaaZCV1
set_option linter.unusedSimpArgs false
set_option linter.unusedVariables false
namespace Go.Proofs.Ytehmbpkcbmnfnaa
open Go.W Go.RowKit
def runU (s y : Int) (m : Bnd) (L : List Op) : Bnd := L.foldl (fun m x => doU s y m x.lo x.hi) m
theorem runU_snoc (s y : Int) (m : Bnd) (L : List Op) (x : Op) : runU s y m (L ++ [x]) = doU s y (runU s y m L) x.lo x.hi := by simp [runU]
theorem runU_bd {s y : Int} (hy : 1 ≤ y) : ∀ (L : List Op) {m : Bnd}, Bd y m → Bd y (runU s y m L)
  | [], _, h => h
  | x :: L, _, h => runU_bd hy L (h.do (s := s) (lo := x.lo) (hi := x.hi) hy)
theorem runU_lim {s y : Int} : ∀ (L : List Op), (∀ x ∈ L, OpL x) → ∀ {m : Bnd}, Lim m → Lim (runU s y m L)
  | [], _, _, h => h
  | x :: L, hL, _, h => runU_lim L (fun z hz => hL z (List.mem_cons_of_mem _ hz)) (h.do (s := s) (y := y) (hL x (List.mem_cons_self ..)).1 (hL x (List.mem_cons_self ..)).2)
def K3d (Ψ : Value → World → Prop) (w : World) (x u v : Value) : Prop := Ψ (.tuple #[u, v, x]) w
theorem K3d_app (Ψ : Value → World → Prop) (w : World) (x u v : Value) : K3d Ψ w x u v = Ψ (.tuple #[u, v, x]) w := rfl
def K3c (Ψ : Value → World → Prop) (w : World) (r : Option Value) (x u : Value) : Prop := OB r (K3d Ψ w x u)
theorem K3c_app (Ψ : Value → World → Prop) (w : World) (r : Option Value) (x u : Value) : K3c Ψ w r x u = OB r (K3d Ψ w x u) := rfl
theorem fV_bbt {P : Program} {Ψ : Value → World → Prop} {f : Fr} {w : World} (a n b m c : Nat) (ag bg : Bool) : finV P [.box a n ag, .box b m bg, .tmp c] Ψ .ret f w = OB (sPart (f a) 0 n ag) (K3c Ψ w (sPart (f b) 0 m bg) (f c)) := rfl
set_option maxHeartbeats 1000000 in
set_option maxRecDepth 10000 in
theorem states_spec (s y l : Int) (av bv : Value) (A B : List Op) (hmA : A.length ≤ 9223372036854775807) (hmB : B.length ≤ 9223372036854775807) (w : World) (ha : OpsAt w av A) (hb : OpsAt w bv B) :
    VRet Try.prog 20 #[cfgV s y l, av, bv] w fun v w' => (∃ a b, ∃ r : Bool, v = .tuple #[a, b, .bool r] ∧ (∃ sa na ca, ∃ s' y' l', a = muV s' y' l' (.slice sa na ca)) ∧ (∃ sa na ca, ∃ s' y' l', b = muV s' y' l' (.slice sa na ca)) ∧ (r = true ↔ Geo s y l = true ∧ OpsL A ∧ OpsL B) ∧ (r = true → MuK w' a s y l (runU s y emU A) ∧ MuK w' b s y l (runU s y emU B))) ∧ Ext w w' := by
  obtain ⟨aa, ac, rfl⟩ := ha.form
  obtain ⟨ba, bc, rfl⟩ := hb.form
  refine VRet_start T.mo ok20 rfl fun Ψ hΨ => ?_; simp only [vc20, rs20]
  simp only [VS, VD, SV, SL, T, Nat.reduceEqDiff, Nat.reduceAdd, Nat.reduceSub, Nat.reduceMul, Nat.reduceLeDiff, Nat.reduceLT, reduceIte, cfgV]
  have hE0 := (((Ext.refl w).alloc tomb).alloc tomb).alloc tomb
  cases hv : Geo s y l with
  | false =>
    refine (New_bad s y l hv _).mono ?_
    rintro _ w1 ⟨rfl, hE⟩
    replace hE := hE0.trans hE
    have e1 : decide ((1 : Int) = 0) = false := rfl
    have e2 : decide (¬ (1 : Int) = 0) = true := rfl
    simp only [VS, VD, SV, SL, T, Nat.reduceEqDiff, Nat.reduceAdd, Nat.reduceSub, Nat.reduceMul, Nat.reduceLeDiff, Nat.reduceLT, reduceIte, muV, e1, e2, Bool.not_false, fV_bbt, K3c_app, K3d_app]
    refine hΨ _ _ ⟨⟨_, _, false, rfl, ⟨_, _, _, _, _, _, rfl⟩, ⟨_, _, _, _, _, _, rfl⟩, ⟨fun h => (by cases h), fun h => by have := h.1; rw [hv] at this; cases this⟩, fun h => (by cases h)⟩, hE⟩
  | true =>
    refine (New_spec s y l hv _).mono ?_
    rintro _ w1 ⟨⟨st, rfl, hm⟩, hE⟩
    replace hE := hE0.trans hE
    have hp := Geo_spec hv
    obtain ⟨b0, o0, c0, rfl⟩ := hm.form
    have e2 : decide (¬ (0 : Int) = 0) = false := rfl
    simp only [VS, VD, SV, SL, T, Nat.reduceEqDiff, Nat.reduceAdd, Nat.reduceSub, Nat.reduceMul, Nat.reduceLeDiff, Nat.reduceLT, reduceIte, muV, e2]
    refine (great_spec _ A hmA _ (ha.ext hE)).mono ?_
    rintro _ w2 ⟨⟨ra, rfl, hra⟩, hE2⟩
    replace hE := hE.trans hE2
    replace hm := hm.ext hE2
    cases ra with
    | true =>
      have hno : ¬ OpsL A := fun h => by have := hra.2 h; cases this
      simp only [VS, VD, SV, SL, T, Nat.reduceEqDiff, Nat.reduceAdd, Nat.reduceSub, Nat.reduceMul, Nat.reduceLeDiff, Nat.reduceLT, reduceIte, muV, fV_bbt, K3c_app, K3d_app]
      exact hΨ _ _ ⟨⟨_, _, false, rfl, ⟨_, _, _, _, _, _, rfl⟩, ⟨_, _, _, _, _, _, rfl⟩, ⟨fun h => (by cases h), fun h => (hno h.2.1).elim⟩, fun h => (by cases h)⟩, hE⟩
    | false =>
      have hLA := hra.1 rfl
      simp only [VS, VD, SV, SL, T, Nat.reduceEqDiff, Nat.reduceAdd, Nat.reduceSub, Nat.reduceMul, Nat.reduceLeDiff, Nat.reduceLT, reduceIte, muV]
      refine (great_spec _ B hmB _ (hb.ext hE)).mono ?_
      rintro _ w3 ⟨⟨rb, rfl, hrb⟩, hE3⟩
      replace hE := hE.trans hE3
      replace hm := hm.ext hE3
      cases rb with
      | true =>
        have hno : ¬ OpsL B := fun h => by have := hrb.2 h; cases this
        simp only [VS, VD, SV, SL, T, Nat.reduceEqDiff, Nat.reduceAdd, Nat.reduceSub, Nat.reduceMul, Nat.reduceLeDiff, Nat.reduceLT, reduceIte, muV, fV_bbt, K3c_app, K3d_app]
        exact hΨ _ _ ⟨⟨_, _, false, rfl, ⟨_, _, _, _, _, _, rfl⟩, ⟨_, _, _, _, _, _, rfl⟩, ⟨fun h => (by cases h), fun h => (hno h.2.2).elim⟩, fun h => (by cases h)⟩, hE⟩
      | false =>
        have hLB := hrb.1 rfl
        simp only [VS, VD, SV, SL, T, Nat.reduceEqDiff, Nat.reduceAdd, Nat.reduceSub, Nat.reduceMul, Nat.reduceLeDiff, Nat.reduceLT, reduceIte, muV]
        refine loop_cB (fun f' w' => f' 2 = .slice ba B.length bc ∧ live (f' 3) = true ∧ MuK w' (f' 6) s y l (runU s y emU A) ∧ MuK w' (f' 7) s y l emU ∧ Ext w w') ?_ ?_
        · refine LoopP_intro (α := Nat) (fun i f' w' => f' 2 = .slice ba B.length bc ∧ live (f' 3) = true ∧ MuK w' (f' 6) s y l (runU s y emU (A.take i)) ∧ MuK w' (f' 7) s y l emU ∧
            f' 32 = .slice aa A.length ac ∧ f' 33 = .int .i64 A.length ∧ f' 34 = .int .i64 i ∧ i ≤ A.length ∧ Ext w w') (fun i => A.length - i) 0 ?_ ?_
          · simp only [VS, VD, SV, SL, T, Nat.reduceEqDiff, Nat.reduceAdd, Nat.reduceSub, Nat.reduceMul, Nat.reduceLeDiff, Nat.reduceLT, reduceIte, muV]
            exact ⟨hm, hm, rfl, by omega, hE⟩
          · clear hm
            rintro i f' w' ⟨f2, f3, hm6, hm7, f32, f33, f34, hile, hEx⟩
            obtain ⟨b6, o6, c6, f6⟩ := hm6.form
            obtain ⟨b7, o7, c7, f7⟩ := hm7.form
            rw [f6] at hm6
            rw [f7] at hm7
            simp only [VS, VD, SV, SL, T, Nat.reduceEqDiff, Nat.reduceAdd, Nat.reduceSub, Nat.reduceMul, Nat.reduceLeDiff, Nat.reduceLT, reduceIte, f33, f34]
            refine cnd_d (fun hlt => ?_) (fun hlt => ?_)
            · have hi : i < A.length := by omega
              obtain ⟨b, off, cs, e, fz, rfl, hbk, hle, hext⟩ := (ha.ext hEx).get hi
              have hS := runU_snoc s y emU (A.take i) A[i]
              rw [← List.take_succ_eq_append_getElem hi] at hS
              have hbd := runU_bd (s := s) hp.2.2.1 (A.take i) (Bd_em y)
              have hop := hLA.2 _ (List.getElem_mem hi)
              have hlen := hLA.1
              unfold OpL at hop
              generalize runU s y emU (A.take i) = M at *
              generalize A[i] = x at *
              simp only [VS, VD, SV, SL, T, Nat.reduceEqDiff, Nat.reduceAdd, Nat.reduceSub, Nat.reduceMul, Nat.reduceLeDiff, Nat.reduceLT, reduceIte, f32, f34, Int.toNat_natCast, hbk, hle, hext, f6, muV]
              refine ⟨by omega, ?_⟩
              have hEA := hEx.alloc tomb
              refine (do_spec s y l hv M hbd _ x.lo x.hi x.pick (by omega) _ (hm6.ext ((Ext.refl _).alloc tomb))).mono ?_
              rintro _ w4 ⟨hm4, hE4⟩
              replace hm7 := hm7.ext (((Ext.refl _).alloc tomb).trans hE4)
              replace hE4 := hEA.trans hE4
              obtain ⟨b4, o4, c4, rfl⟩ := hm4.form
              simp only [VS, VD, SV, SL, T, Nat.reduceEqDiff, Nat.reduceAdd, Nat.reduceSub, Nat.reduceMul, Nat.reduceLeDiff, Nat.reduceLT, reduceIte, muV, f6, f34]
              refine ⟨by omega, i + 1, ⟨f2, f3, ?_, by rw [f7]; exact hm7, f32, f33, by simp, by omega, hE4⟩, by omega⟩
              rw [hS]; exact hm4
            · have e : i = A.length := by omega
              subst e
              rw [List.take_length] at hm6
              simp only [VS, VD, SV, SL, T, Nat.reduceEqDiff, Nat.reduceAdd, Nat.reduceSub, Nat.reduceMul, Nat.reduceLeDiff, Nat.reduceLT, reduceIte]
              exact ⟨f2, f3, by rw [f6]; exact hm6, by rw [f7]; exact hm7, hEx⟩
        · rintro f' w' ⟨f2, f3, hm6, hm7, hEx0⟩
          clear hm
          simp only [VS, VD, SV, SL, T, Nat.reduceEqDiff, Nat.reduceAdd, Nat.reduceSub, Nat.reduceMul, Nat.reduceLeDiff, Nat.reduceLT, reduceIte, f2]
          refine LoopP_intro (α := Nat) (fun i f' w' => live (f' 3) = true ∧ MuK w' (f' 6) s y l (runU s y emU A) ∧ MuK w' (f' 7) s y l (runU s y emU (B.take i)) ∧
            f' 42 = .slice ba B.length bc ∧ f' 43 = .int .i64 B.length ∧ f' 44 = .int .i64 i ∧ i ≤ B.length ∧ Ext w w') (fun i => B.length - i) 0 ?_ ?_
          · simp only [VS, VD, SV, SL, T, Nat.reduceEqDiff, Nat.reduceAdd, Nat.reduceSub, Nat.reduceMul, Nat.reduceLeDiff, Nat.reduceLT, reduceIte, f3]
            exact ⟨hm6, hm7, rfl, by omega, hEx0⟩
          · clear hm6 hm7 f2 f3
            rintro i f' w' ⟨f3, hm6, hm7, f42, f43, f44, hile, hEx⟩
            obtain ⟨b6, o6, c6, f6⟩ := hm6.form
            obtain ⟨b7, o7, c7, f7⟩ := hm7.form
            rw [f6] at hm6
            rw [f7] at hm7
            simp only [VS, VD, SV, SL, T, Nat.reduceEqDiff, Nat.reduceAdd, Nat.reduceSub, Nat.reduceMul, Nat.reduceLeDiff, Nat.reduceLT, reduceIte, f43, f44]
            refine cnd_d (fun hlt => ?_) (fun hlt => ?_)
            · have hi : i < B.length := by omega
              obtain ⟨b, off, cs, e, fz, rfl, hbk, hle, hext⟩ := (hb.ext hEx).get hi
              have hS := runU_snoc s y emU (B.take i) B[i]
              rw [← List.take_succ_eq_append_getElem hi] at hS
              have hbd := runU_bd (s := s) hp.2.2.1 (B.take i) (Bd_em y)
              have hop := hLB.2 _ (List.getElem_mem hi)
              have hlen := hLB.1
              unfold OpL at hop
              generalize runU s y emU (B.take i) = M at *
              generalize B[i] = x at *
              simp only [VS, VD, SV, SL, T, Nat.reduceEqDiff, Nat.reduceAdd, Nat.reduceSub, Nat.reduceMul, Nat.reduceLeDiff, Nat.reduceLT, reduceIte, f42, f44, Int.toNat_natCast, hbk, hle, hext, f7, muV]
              refine ⟨by omega, ?_⟩
              have hEA := hEx.alloc tomb
              refine (do_spec s y l hv M hbd _ x.lo x.hi x.pick (by omega) _ (hm7.ext ((Ext.refl _).alloc tomb))).mono ?_
              rintro _ w4 ⟨hm4, hE4⟩
              replace hm6 := hm6.ext (((Ext.refl _).alloc tomb).trans hE4)
              replace hE4 := hEA.trans hE4
              obtain ⟨b4, o4, c4, rfl⟩ := hm4.form
              simp only [VS, VD, SV, SL, T, Nat.reduceEqDiff, Nat.reduceAdd, Nat.reduceSub, Nat.reduceMul, Nat.reduceLeDiff, Nat.reduceLT, reduceIte, muV, f7, f44]
              refine ⟨by omega, i + 1, ⟨f3, by rw [f6]; exact hm6, ?_, f42, f43, by simp, by omega, hE4⟩, by omega⟩
              rw [hS]; exact hm4
            · have e : i = B.length := by omega
              subst e
              rw [List.take_length] at hm7
              simp only [VS, VD, SV, SL, T, Nat.reduceEqDiff, Nat.reduceAdd, Nat.reduceSub, Nat.reduceMul, Nat.reduceLeDiff, Nat.reduceLT, reduceIte, f6, f7, muV]
              refine DW_intro (fun _ _ _ _ => True) ?_
              simp only [VS, VD, SV, SL, T, Nat.reduceEqDiff, Nat.reduceAdd, Nat.reduceSub, Nat.reduceMul, Nat.reduceLeDiff, Nat.reduceLT, reduceIte, f6, f7, muV]
              intro w5 hE5 _
              simp only [VS, VD, SV, SL, T, Nat.reduceEqDiff, Nat.reduceAdd, Nat.reduceSub, Nat.reduceMul, Nat.reduceLeDiff, Nat.reduceLT, reduceIte, f6, f7, muV, fV_bbt, K3c_app, K3d_app]
              exact hΨ _ _ ⟨⟨_, _, true, rfl, ⟨_, _, _, _, _, _, rfl⟩, ⟨_, _, _, _, _, _, rfl⟩, ⟨fun _ => ⟨hv, hLA, hLB⟩, fun _ => rfl⟩, fun _ => ⟨hm6.ext hE5, hm7.ext hE5⟩⟩, hEx.trans hE5⟩
end Go.Proofs.Ytehmbpkcbmnfnaa

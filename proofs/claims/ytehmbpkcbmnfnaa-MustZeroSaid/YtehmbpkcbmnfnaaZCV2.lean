/-
  MustZero.
-/
import Derived.Test.YtehmbpkcbmnfnaaZCV1
set_option linter.unusedSimpArgs false
set_option linter.unusedVariables false
namespace Go.Proofs.Ytehmbpkcbmnfnaa
open Go.W Go.RowKit
set_option maxRecDepth 10000 in
theorem MustZero_spec (line hi : Int) (lv : Value) (ll : List (List Int)) (w : World) (hline : i64ok line) (hhi : i64ok hi) (hl : IntssAt w lv ll) :
    VRet Try.prog 7 #[.int .i64 line, .int .i64 hi, lv] w fun v w' => v = .bool true ∧ Ext w w' := by
  obtain ⟨al, cl, rfl⟩ := hl.form
  refine VRet_start T.mo ok7 rfl fun Ψ hΨ => ?_; simp only [vc7, rs7]
  simp only [VS, VD, SV, SL, T, Nat.reduceEqDiff, Nat.reduceAdd, Nat.reduceSub, Nat.reduceMul, Nat.reduceLeDiff, Nat.reduceLT, reduceIte]
  refine (awake_spec _).mono ?_
  rintro _ w1 ⟨rfl, hE⟩
  simp only [VS, VD, SV, SL, T, Nat.reduceEqDiff, Nat.reduceAdd, Nat.reduceSub, Nat.reduceMul, Nat.reduceLeDiff, Nat.reduceLT, reduceIte]
  replace hE := hE.alloc tomb
  generalize w1.alloc tomb = w2 at *
  refine (Age_zero line w2).mono ?_
  rintro _ w3 ⟨rfl, hE3⟩
  replace hE := hE.trans hE3
  simp only [VS, VD, SV, SL, T, Nat.reduceEqDiff, Nat.reduceAdd, Nat.reduceSub, Nat.reduceMul, Nat.reduceLeDiff, Nat.reduceLT, reduceIte]
  refine DW_intro (fun n _ v w' => match n with | 4 => ∃ a c, v = .slice a 0 c | 11 => v = muZ | 19 => v = muZ | 25 => v = muZ | _ => v = .bool true) ?_
  simp only [VS, VD, SV, SL, T, Nat.reduceEqDiff, Nat.reduceAdd, Nat.reduceSub, Nat.reduceMul, Nat.reduceLeDiff, Nat.reduceLT, reduceIte, muV]
  refine rY_ph rfl rfl (fun _ _ _ h _ => h) (fun w' hE' _ => ?_) ?_
  · simp only [VS, VD, SV, SL, T, Nat.reduceEqDiff, Nat.reduceAdd, Nat.reduceSub, Nat.reduceMul, Nat.reduceLeDiff, Nat.reduceLT, reduceIte]
    refine (Lines_zero w').mono ?_
    rintro v w4 ⟨hE4, ho⟩
    obtain ⟨a4, c4, rfl⟩ := ho.ints.form
    exact ⟨hE4, a4, c4, rfl⟩
  rintro v4 ⟨_, _, _, a4, c4, rfl⟩
  have e0 : decide (((0 : Nat) : Int) = 0) = true := rfl
  simp only [VS, VD, SV, SL, T, Nat.reduceEqDiff, Nat.reduceAdd, Nat.reduceSub, Nat.reduceMul, Nat.reduceLeDiff, Nat.reduceLT, reduceIte, muV, e0]
  refine rY_ph rfl rfl (fun _ _ _ h _ => h) (fun w' hE' _ => ?_) ?_
  · simp only [VS, VD, SV, SL, T, Nat.reduceEqDiff, Nat.reduceAdd, Nat.reduceSub, Nat.reduceMul, Nat.reduceLeDiff, Nat.reduceLT, reduceIte]
    refine (Access_neg 0 0 0 _ 0 0 line (.inl rfl) w').mono ?_
    rintro _ w4 ⟨rfl, hE4⟩
    exact ⟨hE4, rfl⟩
  rintro v5 ⟨_, _, _, h5⟩
  obtain rfl : v5 = muZ := h5
  simp only [VS, VD, SV, SL, T, Nat.reduceEqDiff, Nat.reduceAdd, Nat.reduceSub, Nat.reduceMul, Nat.reduceLeDiff, Nat.reduceLT, reduceIte, muV]
  refine rY_ph rfl rfl (fun _ _ _ h _ => h) (fun w' hE' _ => ?_) ?_
  · simp only [VS, VD, SV, SL, T, Nat.reduceEqDiff, Nat.reduceAdd, Nat.reduceSub, Nat.reduceMul, Nat.reduceLeDiff, Nat.reduceLT, reduceIte]
    refine (Equal_zz w').mono ?_
    rintro _ w4 ⟨rfl, hE4⟩
    exact ⟨hE4, rfl⟩
  rintro v6 ⟨_, _, _, h6⟩
  obtain rfl : v6 = .bool true := h6
  simp only [VS, VD, SV, SL, T, Nat.reduceEqDiff, Nat.reduceAdd, Nat.reduceSub, Nat.reduceMul, Nat.reduceLeDiff, Nat.reduceLT, reduceIte, muV]
  refine rY_ph rfl rfl (fun _ _ _ h _ => h) (fun w' hE' _ => ?_) ?_
  · simp only [VS, VD, SV, SL, T, Nat.reduceEqDiff, Nat.reduceAdd, Nat.reduceSub, Nat.reduceMul, Nat.reduceLeDiff, Nat.reduceLT, reduceIte]
    refine (Range_zero line hi w').mono ?_
    rintro _ w4 ⟨rfl, hE4⟩
    exact ⟨hE4, rfl⟩
  rintro v7 ⟨_, _, _, h7⟩
  obtain rfl : v7 = muZ := h7
  simp only [VS, VD, SV, SL, T, Nat.reduceEqDiff, Nat.reduceAdd, Nat.reduceSub, Nat.reduceMul, Nat.reduceLeDiff, Nat.reduceLT, reduceIte, muV]
  refine rY_ph rfl rfl (fun _ _ _ h _ => h) (fun w' hE' _ => ?_) ?_
  · simp only [VS, VD, SV, SL, T, Nat.reduceEqDiff, Nat.reduceAdd, Nat.reduceSub, Nat.reduceMul, Nat.reduceLeDiff, Nat.reduceLT, reduceIte]
    refine (Equal_zz w').mono ?_
    rintro _ w4 ⟨rfl, hE4⟩
    exact ⟨hE4, rfl⟩
  rintro v8 ⟨_, _, _, h8⟩
  obtain rfl : v8 = .bool true := h8
  simp only [VS, VD, SV, SL, T, Nat.reduceEqDiff, Nat.reduceAdd, Nat.reduceSub, Nat.reduceMul, Nat.reduceLeDiff, Nat.reduceLT, reduceIte, muV]
  refine rY_ph rfl rfl (fun _ _ _ h _ => h) (fun w' hE' _ => ?_) ?_
  · simp only [VS, VD, SV, SL, T, Nat.reduceEqDiff, Nat.reduceAdd, Nat.reduceSub, Nat.reduceMul, Nat.reduceLeDiff, Nat.reduceLT, reduceIte]
    refine (Forget_zero w').mono ?_
    rintro _ w4 ⟨rfl, hE4⟩
    exact ⟨hE4, rfl⟩
  rintro v9 ⟨_, _, _, h9⟩
  obtain rfl : v9 = muZ := h9
  simp only [VS, VD, SV, SL, T, Nat.reduceEqDiff, Nat.reduceAdd, Nat.reduceSub, Nat.reduceMul, Nat.reduceLeDiff, Nat.reduceLT, reduceIte, muV]
  refine rY_ph rfl rfl (fun _ _ _ h _ => h) (fun w' hE' _ => ?_) ?_
  · simp only [VS, VD, SV, SL, T, Nat.reduceEqDiff, Nat.reduceAdd, Nat.reduceSub, Nat.reduceMul, Nat.reduceLeDiff, Nat.reduceLT, reduceIte]
    refine (Equal_zz w').mono ?_
    rintro _ w4 ⟨rfl, hE4⟩
    exact ⟨hE4, rfl⟩
  rintro v10 ⟨_, _, _, h10⟩
  obtain rfl : v10 = .bool true := h10
  simp only [VS, VD, SV, SL, T, Nat.reduceEqDiff, Nat.reduceAdd, Nat.reduceSub, Nat.reduceMul, Nat.reduceLeDiff, Nat.reduceLT, reduceIte, muV]
  intro w5 hE5 _
  simp only [VS, VD, SV, SL, T, Nat.reduceEqDiff, Nat.reduceAdd, Nat.reduceSub, Nat.reduceMul, Nat.reduceLeDiff, Nat.reduceLT, reduceIte]
  refine (Describes_zero _ w5).mono ?_
  rintro _ w6 ⟨rfl, hE6⟩
  simp only [VS, VD, SV, SL, T, Nat.reduceEqDiff, Nat.reduceAdd, Nat.reduceSub, Nat.reduceMul, Nat.reduceLeDiff, Nat.reduceLT, reduceIte]
  exact hΨ _ _ ⟨rfl, (hE.trans hE5).trans hE6⟩
end Go.Proofs.Ytehmbpkcbmnfnaa

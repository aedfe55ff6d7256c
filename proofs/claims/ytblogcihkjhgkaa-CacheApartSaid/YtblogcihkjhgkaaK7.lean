/-
  The example of the chapter; CachePlaces.
-/
import Derived.Test.YtblogcihkjhgkaaK6
set_option linter.unusedSimpArgs false
set_option linter.unusedVariables false
namespace Go.Proofs.Ytblogcihkjhgkaa
open Go.W Go.RowKit
/-- a cache made since w0 -/
def CA (w0 w : World) (p : Nat) (s y l : Int) (L : List (List Int)) : Prop := ∃ F, CacheAt w F p s y l L ∧ (∀ b, F b → w0.heap.size ≤ b) ∧ Ext w0 w
theorem CA.ext {w0 w w' : World} {p : Nat} {s y l : Int} {L : List (List Int)} (h : CA w0 w p s y l L) (hE : Ext w w') : CA w0 w' p s y l L := by
  obtain ⟨F, h1, h2, h3⟩ := h
  exact ⟨F, h1.ext hE, h2, h3.trans hE⟩
theorem Access_own {w0 w : World} {p : Nat} {s y l : Int} {L : List (List Int)} (h : CA w0 w p s y l L) (a : Int) (ha : 0 ≤ a) (ha63 : a ≤ 9223372036854775807) :
    VRet Try.prog 23 #[ptr p, .int .i64 a] w fun v w' => v = .bool (decide (a / l ∈ L.getD ((a / l) % s).toNat [])) ∧
      CA w0 w' p s y l (L.set ((a / l) % s).toNat (accL y (L.getD ((a / l) % s).toNat []) (a / l))) := by
  obtain ⟨F, h1, h2, h3⟩ := h
  refine (Access_spec h1 a ha ha63).mono ?_
  rintro v w' ⟨rfl, hC, hg⟩
  refine ⟨rfl, _, hC, ?_, hg.ext h3 h2⟩
  rintro b (hb | hb)
  · exact h2 b hb
  · have := h3.size; omega
theorem New_own (s y l : Int) (hg : Geo s y l = true) (w : World) : VRet Try.prog 12 #[cfgV s y l] w fun v w' => ∃ p, v = .tuple #[ptr p, .int .i64 0] ∧ CA w w' p s y l (List.replicate s.toNat []) := by
  refine (New_spec s y l w).mono ?_
  rintro v w' (⟨hn, _⟩ | ⟨_, p, rfl, hC, hE⟩)
  · rw [hg] at hn; cases hn
  · exact ⟨p, rfl, _, hC, fun b hb => hb.1, hE⟩
set_option maxRecDepth 100000 in
theorem awake_spec (w : World) : VRet Try.prog 11 #[] w fun v w' => v = .bool true ∧ Ext w w' := by
  refine VRet_start T.mo ok11 rfl fun Ψ hΨ => ?_; simp only [vc11, rs11]
  simp only [VS, VD, SV, SL, T, Nat.reduceEqDiff, Nat.reduceAdd, Nat.reduceSub, Nat.reduceMul, Nat.reduceLeDiff, Nat.reduceLT, reduceIte]
  refine (New_own 1 2 4 rfl w).mono ?_
  rintro _ w1 ⟨p, rfl, hC⟩
  simp only [VS, VD, SV, SL, T, Nat.reduceEqDiff, Nat.reduceAdd, Nat.reduceSub, Nat.reduceMul, Nat.reduceLeDiff, Nat.reduceLT, reduceIte, Option.isNone_some]
  refine (Access_own hC 0 (by omega) (by omega)).mono ?_
  rintro _ w2 ⟨rfl, hC2⟩
  rw [show (List.replicate (1 : Int).toNat ([] : List Int)).set ((0 / 4 : Int) % 1).toNat (accL 2 ((List.replicate (1 : Int).toNat ([] : List Int)).getD ((0 / 4 : Int) % 1).toNat []) (0 / 4)) = [[0]] from by decide] at hC2
  rw [show decide ((0 / 4 : Int) ∈ (List.replicate (1 : Int).toNat ([] : List Int)).getD ((0 / 4 : Int) % 1).toNat []) = false from by decide]
  simp only [VS, VD, SV, SL, T, Nat.reduceEqDiff, Nat.reduceAdd, Nat.reduceSub, Nat.reduceMul, Nat.reduceLeDiff, Nat.reduceLT, reduceIte]
  refine (Access_own hC2 3 (by omega) (by omega)).mono ?_
  rintro _ w3 ⟨rfl, hC3⟩
  rw [show [[(0 : Int)]].set ((3 / 4 : Int) % 1).toNat (accL 2 ([[(0 : Int)]].getD ((3 / 4 : Int) % 1).toNat []) (3 / 4)) = [[0]] from by decide] at hC3
  rw [show decide ((3 / 4 : Int) ∈ [[(0 : Int)]].getD ((3 / 4 : Int) % 1).toNat []) = true from by decide]
  simp only [VS, VD, SV, SL, T, Nat.reduceEqDiff, Nat.reduceAdd, Nat.reduceSub, Nat.reduceMul, Nat.reduceLeDiff, Nat.reduceLT, reduceIte]
  refine (Access_own hC3 4 (by omega) (by omega)).mono ?_
  rintro _ w4 ⟨rfl, hC4⟩
  rw [show [[(0 : Int)]].set ((4 / 4 : Int) % 1).toNat (accL 2 ([[(0 : Int)]].getD ((4 / 4 : Int) % 1).toNat []) (4 / 4)) = [[1, 0]] from by decide] at hC4
  rw [show decide ((4 / 4 : Int) ∈ [[(0 : Int)]].getD ((4 / 4 : Int) % 1).toNat []) = false from by decide]
  simp only [VS, VD, SV, SL, T, Nat.reduceEqDiff, Nat.reduceAdd, Nat.reduceSub, Nat.reduceMul, Nat.reduceLeDiff, Nat.reduceLT, reduceIte]
  refine (Access_own hC4 8 (by omega) (by omega)).mono ?_
  rintro _ w5 ⟨rfl, hC5⟩
  rw [show [[(1 : Int), 0]].set ((8 / 4 : Int) % 1).toNat (accL 2 ([[(1 : Int), 0]].getD ((8 / 4 : Int) % 1).toNat []) (8 / 4)) = [[2, 1]] from by decide] at hC5
  rw [show decide ((8 / 4 : Int) ∈ [[(1 : Int), 0]].getD ((8 / 4 : Int) % 1).toNat []) = false from by decide]
  simp only [VS, VD, SV, SL, T, Nat.reduceEqDiff, Nat.reduceAdd, Nat.reduceSub, Nat.reduceMul, Nat.reduceLeDiff, Nat.reduceLT, reduceIte]
  obtain ⟨F, hF1, hF2, hF3⟩ := hC5
  refine (Lines_spec hF1).mono ?_
  rintro v6 w6 ⟨hI, hE6⟩
  obtain ⟨a, c, rfl⟩ := hI.form
  obtain ⟨b, off, cs, e, fz, u, rfl, _, hb, hu, hui⟩ := hI.get (i := 0) (l := [2, 1]) rfl
  have hl1 : (([[2, 1]] : List (List Int)).length : Int) = 1 := rfl
  have hl2 : ([[2, 1]] : List (List Int)).length = 1 := rfl
  have c1 : ((1 : Nat) : Int) = 1 := rfl
  rw [Nat.add_zero] at hu
  simp only [VS, VD, SV, SL, T, Nat.reduceEqDiff, Nat.reduceAdd, Nat.reduceSub, Nat.reduceMul, Nat.reduceLeDiff, Nat.reduceLT, reduceIte, hl1, hl2, c1, hb, hu, Int.reduceLT, Int.reduceLE, and_self, Int.toNat_zero, Nat.zero_mul, Nat.add_zero]
  have hE7 := (hF3.trans hE6).alloc (Obj.cells #[.int .i64 2, .int .i64 1] 3 (0, 0))
  refine (Ints_spec u _ [2, 1] [2, 1] (by simp) _ (hui.ext ((Ext.refl w6).alloc _)) (.inr ⟨w6.heap.size, 0, 2, rfl, fun i x hx => ?_⟩)).mono ?_
  · rw [cell_mk, alloc_get_new]
    match i, hx with
    | 0, hx => simpa using hx
    | 1, hx => simpa using hx
  · rintro _ w8 ⟨rfl, hE8⟩
    simp only [VS, VD, SV, SL, T, Nat.reduceEqDiff, Nat.reduceAdd, Nat.reduceSub, Nat.reduceMul, Nat.reduceLeDiff, Nat.reduceLT, reduceIte]
    exact hΨ _ _ ⟨by simp, hE7.trans hE8⟩
set_option maxRecDepth 100000 in
theorem CachePlaces_spec (s y l : Int) (a n : Int) (w : World) (ha : -9223372036854775808 ≤ a ∧ a ≤ 9223372036854775807) (hn : -9223372036854775808 ≤ n ∧ n ≤ 9223372036854775807) :
    VRet Try.prog 3 #[cfgV s y l, .int .i64 a, .int .i64 n] w fun v w' => v = .bool true ∧ Ext w w' := by
  refine VRet_start T.mo ok3 rfl fun Ψ hΨ => ?_; simp only [vc3, rs3]
  simp only [VS, VD, SV, SL, T, Nat.reduceEqDiff, Nat.reduceAdd, Nat.reduceSub, Nat.reduceMul, Nat.reduceLeDiff, Nat.reduceLT, reduceIte, cfgV]
  refine (awake_spec _).mono ?_
  rintro _ w1 ⟨rfl, hE1⟩
  replace hE1 := ((Ext.refl w).alloc tomb).trans hE1
  simp only [VS, VD, SV, SL, T, Nat.reduceEqDiff, Nat.reduceAdd, Nat.reduceSub, Nat.reduceMul, Nat.reduceLeDiff, Nat.reduceLT, reduceIte]
  refine (New_spec s y l w1).mono ?_
  rintro v2 w2 h2
  have hE2 : Ext w w2 := by rcases h2 with ⟨_, _, h⟩ | ⟨_, p, _, _, h⟩ <;> exact hE1.trans h
  rcases h2 with ⟨hg, rfl, _⟩ | ⟨hg, p, rfl, _, _⟩
  all_goals
    have b1 : (true == true) = true := rfl
    have b2 : (false == false) = true := rfl
    have b3 : (true == false) = false := rfl
    have b4 : (false == true) = false := rfl
    have i0 : ((1 : Int) = 0) = False := by simp
    have i1 : ((0 : Int) = 1) = False := by simp
    simp only [VS, VD, SV, SL, T, Nat.reduceEqDiff, Nat.reduceAdd, Nat.reduceSub, Nat.reduceMul, Nat.reduceLeDiff, Nat.reduceLT, reduceIte]
    refine (rValid_spec s y l w2).mono ?_
    rintro _ w3 ⟨rfl, hE3⟩
    simp only [VS, VD, SV, SL, T, Nat.reduceEqDiff, Nat.reduceAdd, Nat.reduceSub, Nat.reduceMul, Nat.reduceLeDiff, Nat.reduceLT, reduceIte, hg]
    refine (Valid_spec s y l w3).mono ?_
    rintro _ w4 ⟨rfl, hE4⟩
    have hE := (hE2.trans hE3).trans hE4
    simp only [VS, VD, SV, SL, T, Nat.reduceEqDiff, Nat.reduceAdd, Nat.reduceSub, Nat.reduceMul, Nat.reduceLeDiff, Nat.reduceLT, reduceIte, hg, Option.isNone_some, Option.isNone_none, b1, b2, b3, b4, Bool.not_true, Bool.not_false, decide_true, decide_false, i0, i1]
    refine DW_intro (fun k _ v _ => v = .int .i64 (if k = 2 ∨ k = 5 then lineOf s y l a else setOf s y l n)) ?_
    simp only [VS, VD, SV, SL, T, Nat.reduceEqDiff, Nat.reduceAdd, Nat.reduceSub, Nat.reduceMul, Nat.reduceLeDiff, Nat.reduceLT, reduceIte]
    have j2 : (if 2 = 2 ∨ 2 = 5 then lineOf s y l a else setOf s y l n) = lineOf s y l a := by simp
    have j5 : (if 5 = 2 ∨ 5 = 5 then lineOf s y l a else setOf s y l n) = lineOf s y l a := by simp
    have j10 : (if 10 = 2 ∨ 10 = 5 then lineOf s y l a else setOf s y l n) = setOf s y l n := by simp
    refine rY_ph rfl rfl (fun _ _ _ h _ => h) (fun w8 hE8 _ => ?_) ?_
    · simp only [VS, VD, SV, SL, T, Nat.reduceEqDiff, Nat.reduceAdd, Nat.reduceSub, Nat.reduceMul, Nat.reduceLeDiff, Nat.reduceLT, reduceIte]
      refine (Line_spec s y l a ha.2 _).mono ?_
      rintro _ w9 ⟨rfl, hE9⟩
      exact ⟨hE9, by simp⟩
    rintro _ ⟨_, _, _, rfl⟩
    rw [j2]
    simp only [VS, VD, SV, SL, T, Nat.reduceEqDiff, Nat.reduceAdd, Nat.reduceSub, Nat.reduceMul, Nat.reduceLeDiff, Nat.reduceLT, reduceIte]
    refine rY_ph rfl rfl (fun _ _ _ h _ => h) (fun w8 hE8 _ => ?_) ?_
    · simp only [VS, VD, SV, SL, T, Nat.reduceEqDiff, Nat.reduceAdd, Nat.reduceSub, Nat.reduceMul, Nat.reduceLeDiff, Nat.reduceLT, reduceIte]
      refine (rLine_spec s y l a ha.2 _).mono ?_
      rintro _ w9 ⟨rfl, hE9⟩
      exact ⟨hE9, by simp⟩
    rintro _ ⟨_, _, _, rfl⟩
    rw [j5]
    simp only [VS, VD, SV, SL, T, Nat.reduceEqDiff, Nat.reduceAdd, Nat.reduceSub, Nat.reduceMul, Nat.reduceLeDiff, Nat.reduceLT, reduceIte, decide_true]
    refine rY_ph rfl rfl (fun _ _ _ h _ => h) (fun w8 hE8 _ => ?_) ?_
    · simp only [VS, VD, SV, SL, T, Nat.reduceEqDiff, Nat.reduceAdd, Nat.reduceSub, Nat.reduceMul, Nat.reduceLeDiff, Nat.reduceLT, reduceIte]
      refine (Set_spec s y l n _).mono ?_
      rintro _ w9 ⟨rfl, hE9⟩
      exact ⟨hE9, by simp⟩
    rintro _ ⟨_, _, _, rfl⟩
    rw [j10]
    simp only [VS, VD, SV, SL, T, Nat.reduceEqDiff, Nat.reduceAdd, Nat.reduceSub, Nat.reduceMul, Nat.reduceLeDiff, Nat.reduceLT, reduceIte]
    intro w8 hE8 _
    simp only [VS, VD, SV, SL, T, Nat.reduceEqDiff, Nat.reduceAdd, Nat.reduceSub, Nat.reduceMul, Nat.reduceLeDiff, Nat.reduceLT, reduceIte]
    refine (rSet_spec s y l n _).mono ?_
    rintro _ w9 ⟨rfl, hE9⟩
    simp only [VS, VD, SV, SL, T, Nat.reduceEqDiff, Nat.reduceAdd, Nat.reduceSub, Nat.reduceMul, Nat.reduceLeDiff, Nat.reduceLT, reduceIte, decide_true]
    exact hΨ _ _ ⟨rfl, (hE.trans hE8).trans hE9⟩
end Go.Proofs.Ytblogcihkjhgkaa

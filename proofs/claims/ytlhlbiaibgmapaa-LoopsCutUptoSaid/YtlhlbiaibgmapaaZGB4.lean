/-
  The reference's Dominates.
-/
import Derived.Test.YtlhlbiaibgmapaaZGB3
set_option linter.unusedSimpArgs false
set_option linter.unusedVariables false
namespace Go.Proofs.Ytlhlbiaibgmapaa
open Go.W Go.RowKit
def rdom (N : List (List Int)) (a b : Nat) : Bool := decide (a = b) || (rch N (-1) a && !rch N a b)
set_option maxRecDepth 10000 in
theorem rDominates_spec {N : List (List Int)} (hN : NOk N) (h0 : 0 < N.length) (hn : N.length ≤ 2000000) (hd2 : ∀ l ∈ N, l.length ≤ 2) (nv : Value) (a b : Nat) (ha : a < N.length) (hb : b < N.length) (w : World) (hNv : IntssAt w nv N) :
    VRet Try.prog 37 #[nv, .int .i64 a, .int .i64 b] w fun v w' => v = .bool (rdom N a b) ∧ Ext w w' := by
  refine VRet_start T.mo ok37 rfl fun Ψ hΨ => ?_; simp only [vc37, rs37]
  simp only [VS, VD, SV, SL, T, Nat.reduceEqDiff, Nat.reduceAdd, Nat.reduceSub, Nat.reduceMul, Nat.reduceLeDiff, Nat.reduceLT, reduceIte]
  by_cases hab : (a : Int) = b
  · rw [decide_eq_true hab]
    simp only [VS, VD, SV, SL, T, Nat.reduceEqDiff, Nat.reduceAdd, Nat.reduceSub, Nat.reduceMul, Nat.reduceLeDiff, Nat.reduceLT, reduceIte]
    exact hΨ _ _ ⟨by rw [rdom, decide_eq_true (show a = b by omega)]; rfl, Ext.refl w⟩
  · rw [decide_eq_false hab]
    have hab' : ¬ a = b := by omega
    simp only [VS, VD, SV, SL, T, Nat.reduceEqDiff, Nat.reduceAdd, Nat.reduceSub, Nat.reduceMul, Nat.reduceLeDiff, Nat.reduceLT, reduceIte]
    refine (Reach_spec hN h0 hn hd2 nv (-1) w hNv).mono ?_
    rintro _ w1 ⟨⟨q, rfl, cs, hq, hqs, hqv⟩, hE1⟩
    have hqa := hqv a ha
    cases hra : rch N (-1) a with
    | false =>
      rw [hra] at hqa
      simp only [VS, VD, SV, SL, T, Nat.reduceEqDiff, Nat.reduceAdd, Nat.reduceSub, Nat.reduceMul, Nat.reduceLeDiff, Nat.reduceLT, reduceIte, hq, hqa, Int.toNat_natCast]
      exact ⟨by omega, hΨ _ _ ⟨by simp [rdom, hab', hra], hE1⟩⟩
    | true =>
      rw [hra] at hqa
      simp only [VS, VD, SV, SL, T, Nat.reduceEqDiff, Nat.reduceAdd, Nat.reduceSub, Nat.reduceMul, Nat.reduceLeDiff, Nat.reduceLT, reduceIte, hq, hqa, Int.toNat_natCast]
      refine ⟨by omega, ?_⟩
      refine (Reach_spec hN h0 hn hd2 nv a w1 (hNv.ext hE1)).mono ?_
      rintro _ w2 ⟨⟨q2, rfl, cs2, hq2, hqs2, hqv2⟩, hE2⟩
      have hqb := hqv2 b hb
      simp only [VS, VD, SV, SL, T, Nat.reduceEqDiff, Nat.reduceAdd, Nat.reduceSub, Nat.reduceMul, Nat.reduceLeDiff, Nat.reduceLT, reduceIte, hq2, hqb, Int.toNat_natCast]
      exact ⟨by omega, hΨ _ _ ⟨by simp [rdom, hab', hra], hE1.trans hE2⟩⟩
/-- what it tells of a reached block -/
theorem rdom_iff {N : List (List Int)} (hN : NOk N) (h0 : 0 < N.length) {a b : Nat} (hb : RE N b) : rdom N a b = true ↔ ¬ Rc (ED N) a b := by
  have key : ∀ x : Nat, Rc (ED N) a x → (x : Int) ≠ a := fun x h => by
    cases h with
    | base h => exact h
    | step _ _ h => exact h
  unfold rdom
  simp only [Bool.or_eq_true, decide_eq_true_eq, Bool.and_eq_true, Bool.not_eq_true']
  constructor
  · rintro (rfl | ⟨_, h⟩) hr
    · exact key a hr rfl
    · rw [(rch_iff hN h0 _ _).2 hr] at h
      cases h
  · intro h
    by_cases e : a = b
    · exact .inl e
    · right
      refine ⟨(rch_iff hN h0 _ _).2 ?_, ?_⟩
      · -- a is reached: else b is reached without it
        apply Classical.byContradiction
        intro hn
        apply h
        have : ∀ y, Rc (ED N) (-1) y → Rc (ED N) a y := fun y hy => by
          induction hy with
          | base =>
            refine .base fun e => hn ?_
            have e2 : a = 0 := by omega
            rw [e2]
            exact .base (by omega)
          | @step p c h1 h2 h3 ih =>
            refine .step ih h2 fun e => hn ?_
            have e2 : c = a := Int.ofNat.inj e
            rw [← e2]
            exact .step h1 h2 h3
        exact this b ((re_iff hN h0 b).1 hb)
      · cases hr : rch N a b with
        | false => rfl
        | true => exact (h ((rch_iff hN h0 _ _).1 hr)).elim
end Go.Proofs.Ytlhlbiaibgmapaa

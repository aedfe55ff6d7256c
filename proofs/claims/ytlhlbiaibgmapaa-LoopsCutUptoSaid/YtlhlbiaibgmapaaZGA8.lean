/-
  dominator.Dominates, the reference's Chain.
-/
import Derived.Test.YtlhlbiaibgmapaaZGA7
set_option linter.unusedSimpArgs false
set_option linter.unusedVariables false
namespace Go.Proofs.Ytlhlbiaibgmapaa
open Go.W Go.RowKit
/-- the list is followed for so many steps -/
def chn (l : List Int) (a : Int) : Nat → Int → Bool
  | 0, _ => false
  | k + 1, b => if b < 0 ∨ (l.length : Int) ≤ b then false else if a = b then true else chn l a k (l.getD b.toNat 0)
def domI (l : List Int) (a b : Int) : Bool := if a < 0 ∨ (l.length : Int) ≤ a then false else chn l a l.length b
set_option maxRecDepth 10000 in
theorem Dominates_spec (lv : Value) (l : List Int) (hl : l.length ≤ 100000000) (a b : Int) (w : World) (h : IntsAt w lv l) : VRet Try.prog 21 #[lv, .int .i64 a, .int .i64 b] w fun v w' => v = .bool (domI l a b) ∧ Ext w w' := by
  obtain ⟨la, lc, rfl⟩ := h.form
  refine VRet_start T.mo ok21 rfl fun Ψ hΨ => ?_; simp only [vc21, rs21]
  simp only [VS, VD, SV, SL, T, Nat.reduceEqDiff, Nat.reduceAdd, Nat.reduceSub, Nat.reduceMul, Nat.reduceLeDiff, Nat.reduceLT, reduceIte]
  by_cases h1 : a < 0
  · rw [decide_eq_true h1]
    simp only [VS, VD, SV, SL, T, Nat.reduceEqDiff, Nat.reduceAdd, Nat.reduceSub, Nat.reduceMul, Nat.reduceLeDiff, Nat.reduceLT, reduceIte]
    exact hΨ _ _ ⟨by rw [domI, if_pos (.inl h1)], Ext.refl w⟩
  rw [decide_eq_false h1]
  simp only [VS, VD, SV, SL, T, Nat.reduceEqDiff, Nat.reduceAdd, Nat.reduceSub, Nat.reduceMul, Nat.reduceLeDiff, Nat.reduceLT, reduceIte]
  by_cases h2 : (l.length : Int) ≤ a
  · rw [decide_eq_true h2]
    simp only [VS, VD, SV, SL, T, Nat.reduceEqDiff, Nat.reduceAdd, Nat.reduceSub, Nat.reduceMul, Nat.reduceLeDiff, Nat.reduceLT, reduceIte]
    exact hΨ _ _ ⟨by rw [domI, if_pos (.inr h2)], Ext.refl w⟩
  rw [decide_eq_false h2]
  have hd : domI l a b = chn l a l.length b := by rw [domI, if_neg (by omega)]
  rw [hd] at hΨ
  simp only [VS, VD, SV, SL, T, Nat.reduceEqDiff, Nat.reduceAdd, Nat.reduceSub, Nat.reduceMul, Nat.reduceLeDiff, Nat.reduceLT, reduceIte]
  refine LoopP_intro (α := Nat × Int) (fun s g w' => g 0 = .slice la l.length lc ∧ g 1 = .int .i64 a ∧ g 2 = .int .i64 s.2 ∧ g 16 = .int .i64 l.length ∧ g 17 = .int .i64 s.1 ∧ s.1 ≤ l.length ∧ Ext w w' ∧ chn l a l.length b = chn l a (l.length - s.1) s.2) (fun s => l.length - s.1) (0, b) ?_ ?_
  · simp only [VS, VD, SV, SL, T, Nat.reduceEqDiff, Nat.reduceAdd, Nat.reduceSub, Nat.reduceMul, Nat.reduceLeDiff, Nat.reduceLT, reduceIte]
    exact ⟨rfl, Nat.zero_le _, Ext.refl w, rfl⟩
  · rintro ⟨i, b'⟩ g w' ⟨g0, g1, g2, g16, g17, hi, hE, hch⟩
    simp only [] at g2 g17 hi hch
    simp only [VS, VD, SV, SL, T, Nat.reduceEqDiff, Nat.reduceAdd, Nat.reduceSub, Nat.reduceMul, Nat.reduceLeDiff, Nat.reduceLT, reduceIte, g16, g17]
    by_cases hlt : (i : Int) < l.length
    · rw [decide_eq_true hlt]
      obtain ⟨k, hk⟩ : ∃ k, l.length - i = k + 1 := ⟨l.length - i - 1, by omega⟩
      rw [hk, chn] at hch
      simp only [VS, VD, SV, SL, T, Nat.reduceEqDiff, Nat.reduceAdd, Nat.reduceSub, Nat.reduceMul, Nat.reduceLeDiff, Nat.reduceLT, reduceIte, g2]
      by_cases h3 : b' < 0
      · rw [decide_eq_true h3]
        rw [if_pos (.inl h3)] at hch
        simp only [VS, VD, SV, SL, T, Nat.reduceEqDiff, Nat.reduceAdd, Nat.reduceSub, Nat.reduceMul, Nat.reduceLeDiff, Nat.reduceLT, reduceIte]
        exact hΨ _ _ ⟨by rw [hch], hE⟩
      rw [decide_eq_false h3]
      simp only [VS, VD, SV, SL, T, Nat.reduceEqDiff, Nat.reduceAdd, Nat.reduceSub, Nat.reduceMul, Nat.reduceLeDiff, Nat.reduceLT, reduceIte, g0, g2]
      by_cases h4 : (l.length : Int) ≤ b'
      · rw [decide_eq_true h4]
        rw [if_pos (.inr h4)] at hch
        simp only [VS, VD, SV, SL, T, Nat.reduceEqDiff, Nat.reduceAdd, Nat.reduceSub, Nat.reduceMul, Nat.reduceLeDiff, Nat.reduceLT, reduceIte]
        exact hΨ _ _ ⟨by rw [hch], hE⟩
      rw [decide_eq_false h4]
      rw [if_neg (by omega)] at hch
      simp only [VS, VD, SV, SL, T, Nat.reduceEqDiff, Nat.reduceAdd, Nat.reduceSub, Nat.reduceMul, Nat.reduceLeDiff, Nat.reduceLT, reduceIte, g1, g2]
      by_cases h5 : a = b'
      · rw [decide_eq_true h5]
        rw [if_pos h5] at hch
        simp only [VS, VD, SV, SL, T, Nat.reduceEqDiff, Nat.reduceAdd, Nat.reduceSub, Nat.reduceMul, Nat.reduceLeDiff, Nat.reduceLT, reduceIte]
        exact hΨ _ _ ⟨by rw [hch], hE⟩
      rw [decide_eq_false h5]
      rw [if_neg h5] at hch
      obtain ⟨m, rfl⟩ := Int.eq_ofNat_of_zero_le (show 0 ≤ b' by omega)
      have hm : m < l.length := by omega
      rw [Int.toNat_natCast, List.getD_eq_getElem?_getD, List.getElem?_eq_getElem hm] at hch
      obtain ⟨bb, bo, bcs, be, bfz, rfl, _, hbb, hbc⟩ := (h.ext hE).get (i := m) (x := l[m]) (by simp)
      simp only [VS, VD, SV, SL, T, Nat.reduceEqDiff, Nat.reduceAdd, Nat.reduceSub, Nat.reduceMul, Nat.reduceLeDiff, Nat.reduceLT, reduceIte, g0, g1, g2, g16, g17, hbb, hbc, Int.toNat_natCast]
      exact ⟨by omega, by omega, (i + 1, l[m]), ⟨rfl, by simp, by simp only []; omega, hE, by rw [hch]; simp only [Option.getD_some]; congr 1; omega⟩, by simp only []; omega⟩
    · rw [decide_eq_false hlt]
      have : l.length - i = 0 := by omega
      rw [this, chn] at hch
      simp only [VS, VD, SV, SL, T, Nat.reduceEqDiff, Nat.reduceAdd, Nat.reduceSub, Nat.reduceMul, Nat.reduceLeDiff, Nat.reduceLT, reduceIte]
      exact hΨ _ _ ⟨by rw [hch], hE⟩
end Go.Proofs.Ytlhlbiaibgmapaa

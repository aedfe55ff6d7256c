/-
  The reference's reaches: the walk.
-/
import Derived.Test.YtlhlbiaibgmapaaZLC2
import Derived.Test.YtlhlbiaibgmapaaZLP9
set_option linter.unusedSimpArgs false
set_option linter.unusedVariables false
namespace Go.Proofs.Ytlhlbiaibgmapaa
open Go.W Go.RowKit
set_option maxRecDepth 10000 in
theorem reaches_spec {N : List (List Int)} (hN : NOk N) (hn : N.length ≤ 2000000) (hN2 : ∀ l ∈ N, l.length ≤ 2) {na : Option Addr} {nc : Nat} {w0 : World} (hNv : IntssAt w0 (.slice na N.length nc) N) (to wo : Nat) :
    ∀ (k : Nat), k ≤ 2000000 → ∀ (x : Nat), x < N.length → ∀ w, Ext w0 w → VRet Try.prog 38 #[.slice na N.length nc, .int .i64 x, .int .i64 to, .int .i64 wo, .int .i64 k] w fun v w' => v = .bool (rrs N to wo k x) ∧ Ext w w' := by
  intro k
  induction k with
  | zero =>
    intro _ x hx w hE
    refine VRet_start T.mo ok38 rfl fun Ψ hΨ => ?_; simp only [vc38, rs38]
    simp only [VS, VD, SV, SL, T, Nat.reduceEqDiff, Nat.reduceAdd, Nat.reduceSub, Nat.reduceMul, Nat.reduceLeDiff, Nat.reduceLT, reduceIte]
    by_cases h1 : x = to
    · have d1 : decide ((x : Int) = to) = true := decide_eq_true (by omega)
      simp only [VS, VD, SV, SL, T, Nat.reduceEqDiff, Nat.reduceAdd, Nat.reduceSub, Nat.reduceMul, Nat.reduceLeDiff, Nat.reduceLT, reduceIte, d1]
      exact hΨ _ _ ⟨by simp [rrs, h1], Ext.refl _⟩
    · have d1 : decide ((x : Int) = to) = false := decide_eq_false (by omega)
      have d2 : decide (((0 : Nat) : Int) = 0) = true := rfl
      by_cases h2 : x = wo
      · have d3 : decide ((x : Int) = wo) = true := decide_eq_true (by omega)
        simp only [VS, VD, SV, SL, T, Nat.reduceEqDiff, Nat.reduceAdd, Nat.reduceSub, Nat.reduceMul, Nat.reduceLeDiff, Nat.reduceLT, reduceIte, d1, d3]
        exact hΨ _ _ ⟨by simp [rrs, h1], Ext.refl _⟩
      · have d3 : decide ((x : Int) = wo) = false := decide_eq_false (by omega)
        simp only [VS, VD, SV, SL, T, Nat.reduceEqDiff, Nat.reduceAdd, Nat.reduceSub, Nat.reduceMul, Nat.reduceLeDiff, Nat.reduceLT, reduceIte, d1, d3, d2]
        exact hΨ _ _ ⟨by simp [rrs, h1], Ext.refl _⟩
  | succ k ih =>
    intro hk x hx w hE
    have hsx : N[x]'hx = sc N x := by unfold sc; rw [List.getD_eq_getElem?_getD, List.getElem?_eq_getElem hx]; rfl
    have hrl : (sc N x).length ≤ 2 := by rw [← hsx]; exact hN2 _ (List.getElem_mem hx)
    have hrr := rrs_succ N to wo k x
    have hrng : ∀ m ∈ sc N x, 0 ≤ m ∧ m.toNat < N.length := fun m hm => hN.sc hm
    obtain ⟨rb, ro, rcs, re, rfz, ur, rfl, hrb, hrc, hru⟩ := hNv.get' (i := x) hx
    rw [hsx] at hru
    generalize sc N x = row at *
    obtain ⟨ra, rc, rfl⟩ := hru.form
    refine VRet_start T.mo ok38 rfl fun Ψ hΨ => ?_; simp only [vc38, rs38]
    simp only [VS, VD, SV, SL, T, Nat.reduceEqDiff, Nat.reduceAdd, Nat.reduceSub, Nat.reduceMul, Nat.reduceLeDiff, Nat.reduceLT, reduceIte]
    by_cases h1 : x = to
    · have d1 : decide ((x : Int) = to) = true := decide_eq_true (by omega)
      simp only [VS, VD, SV, SL, T, Nat.reduceEqDiff, Nat.reduceAdd, Nat.reduceSub, Nat.reduceMul, Nat.reduceLeDiff, Nat.reduceLT, reduceIte, d1]
      exact hΨ _ _ ⟨by rw [hrr]; simp [h1], Ext.refl _⟩
    have d1 : decide ((x : Int) = to) = false := decide_eq_false (by omega)
    by_cases h2 : x = wo
    · have d3 : decide ((x : Int) = wo) = true := decide_eq_true (by omega)
      simp only [VS, VD, SV, SL, T, Nat.reduceEqDiff, Nat.reduceAdd, Nat.reduceSub, Nat.reduceMul, Nat.reduceLeDiff, Nat.reduceLT, reduceIte, d1, d3]
      exact hΨ _ _ ⟨by rw [hrr, decide_eq_false h1, decide_eq_true h2]; rfl, Ext.refl _⟩
    have d3 : decide ((x : Int) = wo) = false := decide_eq_false (by omega)
    have d4 : decide (((k + 1 : Nat) : Int) = 0) = false := decide_eq_false (by omega)
    simp only [VS, VD, SV, SL, T, Nat.reduceEqDiff, Nat.reduceAdd, Nat.reduceSub, Nat.reduceMul, Nat.reduceLeDiff, Nat.reduceLT, reduceIte, d1, d3, d4]
    have hrr' : rrs N to wo (k + 1) x = row.any fun y => !decide (y = (wo : Int)) && rrs N to wo k y.toNat := by rw [hrr]; simp [h1, h2]
    refine LoopP_intro (α := Nat) (fun i g w' => g 0 = .slice (some ⟨rb, ro, none⟩) N.length nc ∧ g 1 = .int .i64 x ∧ g 2 = .int .i64 to ∧ g 3 = .int .i64 wo ∧ g 4 = .int .i64 (k + 1 : Nat) ∧ g 11 = .int .i64 i ∧ i ≤ row.length ∧ Ext w w' ∧ ((row.take i).any fun y => !decide (y = (wo : Int)) && rrs N to wo k y.toNat) = false) (fun i => row.length - i) 0 ?_ ?_
    · simp only [VS, VD, SV, SL, T, Nat.reduceEqDiff, Nat.reduceAdd, Nat.reduceSub, Nat.reduceMul, Nat.reduceLeDiff, Nat.reduceLT, reduceIte]
      exact ⟨rfl, Nat.zero_le _, Ext.refl _, rfl⟩
    rintro i g w' ⟨g0, g1, g2, g3, g4, g11, hi, hE', hany⟩
    have hrb' := (hE.trans hE').obj hrb
    have hro := hru.ext (hE.trans hE')
    simp only [VS, VD, SV, SL, T, Nat.reduceEqDiff, Nat.reduceAdd, Nat.reduceSub, Nat.reduceMul, Nat.reduceLeDiff, Nat.reduceLT, reduceIte, g0, g1, g11, hrb', hrc, Int.toNat_natCast]
    refine ⟨by omega, ?_⟩
    by_cases hlt : (i : Int) < row.length
    · rw [decide_eq_true hlt]
      have hi' : i < row.length := by omega
      have htk : row.take (i + 1) = row.take i ++ [row[i]] := List.take_succ_eq_append_getElem hi'
      obtain ⟨bu, ou, cu, eu, fu, rfl, _, hbu, hcu⟩ := hro.get (i := i) (x := row[i]) (by simp [hi'])
      have hmem := List.getElem_mem hi'
      obtain ⟨hy0, hy1⟩ := hrng _ hmem
      generalize row[i] = y at *
      obtain ⟨y', rfl⟩ := Int.eq_ofNat_of_zero_le hy0
      simp only [Int.toNat_natCast] at hy1
      have hsn : ((row.take (i + 1)).any fun y => !decide (y = (wo : Int)) && rrs N to wo k y.toNat) = (!decide ((y' : Int) = (wo : Int)) && rrs N to wo k y') := by
        rw [htk, List.any_append, hany]
        simp
      by_cases hyw : (y' : Int) = (wo : Int)
      · have d5 : decide (¬ (y' : Int) = (wo : Int)) = false := decide_eq_false fun q => q hyw
        simp only [VS, VD, SV, SL, T, Nat.reduceEqDiff, Nat.reduceAdd, Nat.reduceSub, Nat.reduceMul, Nat.reduceLeDiff, Nat.reduceLT, reduceIte, g0, g1, g2, g3, g4, g11, hrb', hrc, hbu, hcu, d5, Int.toNat_natCast]
        exact ⟨by omega, by omega, by omega, i + 1, ⟨by simp, by omega, hE', by rw [hsn, decide_eq_true hyw]; rfl⟩, by omega⟩
      · have d5 : decide (¬ (y' : Int) = (wo : Int)) = true := decide_eq_true hyw
        simp only [VS, VD, SV, SL, T, Nat.reduceEqDiff, Nat.reduceAdd, Nat.reduceSub, Nat.reduceMul, Nat.reduceLeDiff, Nat.reduceLT, reduceIte, g0, g1, g2, g3, g4, g11, hrb', hrc, hbu, hcu, d5, Int.toNat_natCast]
        refine ⟨by omega, by omega, by omega, by omega, by omega, ?_⟩
        have e1 : (((k + 1 : Nat) : Int) - 1) = (k : Int) := by omega
        rw [e1]
        refine (ih (by omega) y' hy1 w' (hE.trans hE')).mono ?_
        rintro _ w2 ⟨rfl, hE2⟩
        cases hr : rrs N to wo k y' with
        | true =>
          simp only [VS, VD, SV, SL, T, Nat.reduceEqDiff, Nat.reduceAdd, Nat.reduceSub, Nat.reduceMul, Nat.reduceLeDiff, Nat.reduceLT, reduceIte]
          refine hΨ _ _ ⟨?_, hE'.trans hE2⟩
          rw [hrr', List.any_eq_true.2 ⟨(y' : Int), hmem, by simp [hyw, hr]⟩]
        | false =>
          simp only [VS, VD, SV, SL, T, Nat.reduceEqDiff, Nat.reduceAdd, Nat.reduceSub, Nat.reduceMul, Nat.reduceLeDiff, Nat.reduceLT, reduceIte, g0, g1, g2, g3, g4, g11]
          exact ⟨by omega, i + 1, ⟨by simp, by omega, hE'.trans hE2, by rw [hsn, hr]; simp⟩, by omega⟩
    · rw [decide_eq_false hlt]
      rw [List.take_of_length_le (by omega)] at hany
      simp only [VS, VD, SV, SL, T, Nat.reduceEqDiff, Nat.reduceAdd, Nat.reduceSub, Nat.reduceMul, Nat.reduceLeDiff, Nat.reduceLT, reduceIte]
      exact hΨ _ _ ⟨by rw [hrr', hany], hE'⟩
end Go.Proofs.Ytlhlbiaibgmapaa

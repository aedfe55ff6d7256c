/-
  The reference for may: Access, AccessRange.
-/
import Derived.Test.YtndkadphpbnpeaaZCR1
set_option linter.unusedSimpArgs false
set_option linter.unusedVariables false
namespace Go.Proofs.Ytndkadphpbnpeaa
open Go.W
/-- the reference's lists: no negative line, bounds from 0 to ways - 1 -/
def BdL (y : Int) (L : List (Int × Int)) : Prop := ∀ x ∈ L, 0 ≤ x.1 ∧ 0 ≤ x.2 ∧ x.2 < y
def hOf (y : Int) (L : List (Int × Int)) (k : Int) : Int := if rAge L k < 0 then y else rAge L k
def aged (s y : Int) (h k : Int) (x : Int × Int) : Int × Int := if x.1 ≠ k ∧ x.1 % s = k % s ∧ x.2 ≤ h then (x.1, x.2 + 1) else x
def agedL (s y : Int) (h k : Int) (L : List (Int × Int)) : List (Int × Int) := (L.map (aged s y h k)).filter (fun x => decide (x.2 < y))
theorem hOf_bd {y : Int} (hy : 1 ≤ y) {L : List (Int × Int)} (h : BdL y L) (k : Int) : 0 ≤ hOf y L k ∧ hOf y L k ≤ y := by
  have hr : rAge L k = -1 ∨ (0 ≤ rAge L k ∧ rAge L k < y) := by
    unfold rAge
    split
    · rename_i p e
      have := h p (List.mem_of_find?_eq_some e)
      omega
    · omega
  unfold hOf
  split <;> omega
theorem agedL_snoc (s y h k : Int) (L : List (Int × Int)) (x : Int × Int) : agedL s y h k (L ++ [x]) = if (aged s y h k x).2 < y then agedL s y h k L ++ [aged s y h k x] else agedL s y h k L := by
  simp only [agedL, List.map_append, List.filter_append, List.map_cons, List.map_nil, List.filter_cons, List.filter_nil, decide_eq_true_eq]
  split <;> simp
theorem agedL_len (s y h k : Int) (L : List (Int × Int)) : (agedL s y h k L).length ≤ L.length := by
  refine Nat.le_trans (List.length_filter_le _ _) (by simp)
def rAcc (s y : Int) (L : List (Int × Int)) (k : Int) : List (Int × Int) := putF (agedL s y (hOf y L k) k L) k 0
set_option maxRecDepth 10000 in
theorem rAccess_spec (s y l : Int) (hv : Geo s y l = true) (u : Bool) (L : List (Int × Int)) (hL : L.length ≤ 100000) (hbd : u = false → BdL y L) (v : Value) (k : Int) (w : World) (h : RefAt w v s y l u L) :
    VRet Try.prog 33 #[v, .int .i64 k] w fun v w' => RefAt w' v s y l u (if u = true ∨ k < 0 then L else rAcc s y L k) ∧ Ext w w' := by
  have hp := Geo_spec hv
  have h' := h
  obtain ⟨sl, rfl, hsl⟩ := h
  obtain ⟨sa, sc, rfl⟩ := lnAt_form hsl
  refine VRet_start T.mo ok33 rfl fun Ψ hΨ => ?_; simp only [vc33, rs33]
  simp only [VS, VD, SV, SL, T, Nat.reduceEqDiff, Nat.reduceAdd, Nat.reduceSub, Nat.reduceMul, Nat.reduceLeDiff, Nat.reduceLT, reduceIte, stV]
  have hE := ((Ext.refl w).alloc tomb).alloc tomb
  generalize (w.alloc tomb).alloc tomb = wA at *
  cases u with
  | true =>
    simp only [VS, VD, SV, SL, T, Nat.reduceEqDiff, Nat.reduceAdd, Nat.reduceSub, Nat.reduceMul, Nat.reduceLeDiff, Nat.reduceLT, reduceIte]
    exact hΨ _ _ ⟨h'.ext hE, hE⟩
  | false =>
    replace hbd := hbd rfl
    simp only [VS, VD, SV, SL, T, Nat.reduceEqDiff, Nat.reduceAdd, Nat.reduceSub, Nat.reduceMul, Nat.reduceLeDiff, Nat.reduceLT, reduceIte]
    refine cnd_d (fun hk => ?_) (fun hk => ?_)
    · simp only [VS, VD, SV, SL, T, Nat.reduceEqDiff, Nat.reduceAdd, Nat.reduceSub, Nat.reduceMul, Nat.reduceLeDiff, Nat.reduceLT, reduceIte]
      refine hΨ _ _ ⟨?_, hE⟩
      simp only [hk, or_true, if_true]
      exact h'.ext hE
    · simp only [hk, Bool.false_eq_true, or_self, if_false] at hΨ
      simp only [VS, VD, SV, SL, T, Nat.reduceEqDiff, Nat.reduceAdd, Nat.reduceSub, Nat.reduceMul, Nat.reduceLeDiff, Nat.reduceLT, reduceIte]
      refine (rAge_spec s y l false L (by omega) _ k wA (h'.ext hE)).mono ?_
      rintro _ w1 ⟨rfl, hE1⟩
      replace hE := hE.trans hE1
      simp only [VS, VD, SV, SL, T, Nat.reduceEqDiff, Nat.reduceAdd, Nat.reduceSub, Nat.reduceMul, Nat.reduceLeDiff, Nat.reduceLT, reduceIte]
      refine cnd_c (fun f w2 => w2 = w1 ∧ f 1 = .int .i64 k ∧ f 2 = stV s y l false (.slice sa L.length sc) ∧ live (f 4) = true ∧ f 5 = .int .i64 (hOf y L k)) ?_ ?_
      · refine cnd_d (fun hr => ?_) (fun hr => ?_)
        · simp only [VS, VD, SV, SL, T, Nat.reduceEqDiff, Nat.reduceAdd, Nat.reduceSub, Nat.reduceMul, Nat.reduceLeDiff, Nat.reduceLT, reduceIte, hOf, hr, stV]
        · simp only [VS, VD, SV, SL, T, Nat.reduceEqDiff, Nat.reduceAdd, Nat.reduceSub, Nat.reduceMul, Nat.reduceLeDiff, Nat.reduceLT, reduceIte, hOf, hr, stV]
      rintro f w2 ⟨rfl, f1, f2, f4, f5⟩
      simp only [VS, VD, SV, SL, T, Nat.reduceEqDiff, Nat.reduceAdd, Nat.reduceSub, Nat.reduceMul, Nat.reduceLeDiff, Nat.reduceLT, reduceIte, f2, stV]
      generalize hh : hOf y L k = h at *
      have hh0 : 0 ≤ h ∧ h ≤ y := by rw [← hh]; exact hOf_bd (by omega) hbd k
      refine loop_cB (fun f' w' => f' 1 = .int .i64 k ∧ live (f' 4) = true ∧ Ext w w' ∧ ∃ v, f' 6 = stV s y l false v ∧ LnO w.heap.size w' v (agedL s y h k L)) ?_ ?_
      · refine LoopP_intro (α := Nat) (fun i f' w' => f' 1 = .int .i64 k ∧ f' 2 = stV s y l false (.slice sa L.length sc) ∧ live (f' 4) = true ∧ f' 5 = .int .i64 h ∧
          f' 7 = .int .i64 i ∧ i ≤ L.length ∧ Ext w w' ∧ ∃ v, f' 6 = stV s y l false v ∧ LnO w.heap.size w' v (agedL s y h k (L.take i))) (fun i => L.length - i) 0 ?_ ?_
        · simp only [VS, VD, SV, SL, T, Nat.reduceEqDiff, Nat.reduceAdd, Nat.reduceSub, Nat.reduceMul, Nat.reduceLeDiff, Nat.reduceLT, reduceIte, f1, f2, f4, f5, stV]
          exact ⟨rfl, by omega, hE.alloc _, .slice none 0 0, rfl, OwnL.nil _ _ _ _ _⟩
        · rintro i f' w' ⟨f1, f2, f4, f5, f7, hile, hEx, v0, f6, hown⟩
          simp only [VS, VD, SV, SL, T, Nat.reduceEqDiff, Nat.reduceAdd, Nat.reduceSub, Nat.reduceMul, Nat.reduceLeDiff, Nat.reduceLT, reduceIte, f7, f2, stV]
          refine cnd_d (fun hlt => ?_) (fun hlt => ?_)
          · have hi : i < L.length := by omega
            obtain ⟨b, off, cs, e, fz, rfl, hb, hle, hext, hc0, hc1⟩ := lnAt_get (hsl.ext hEx) hi
            have hx0 := hbd _ (List.getElem_mem hi)
            have hfold := agedL_snoc s y h k (L.take i) L[i]
            rw [← List.take_succ_eq_append_getElem hi] at hfold
            have hlen : (agedL s y h k (L.take i)).length ≤ 100000 := Nat.le_trans (agedL_len _ _ _ _ _) (by simp only [List.length_take]; omega)
            generalize agedL s y h k (L.take i) = out at *
            generalize hx : L[i] = x at *
            simp only [VS, VD, SV, SL, T, Nat.reduceEqDiff, Nat.reduceAdd, Nat.reduceSub, Nat.reduceMul, Nat.reduceLeDiff, Nat.reduceLT, reduceIte, f7, f2, stV, Int.toNat_natCast, hb, hle, hext]
            refine ⟨by omega, ?_⟩
            have hEA := hEx.alloc tomb
            replace hown := hown.alloc tomb
            generalize w'.alloc tomb = wB at *
            refine DW_c (fun f w3 => Ext wB w3 ∧ f 1 = .int .i64 k ∧ f 2 = stV s y l false (.slice (some ⟨b, off, none⟩) L.length sc) ∧ live (f 4) = true ∧ f 5 = .int .i64 h ∧ f 6 = stV s y l false v0 ∧
              f 7 = .int .i64 i ∧ f 8 = .agg #[.int .i64 x.1, .int .i64 x.2] ∧ f 62 = .bool (decide (x.1 ≠ k ∧ x.1 % s = k % s ∧ x.2 ≤ h))) ?_ ?_
            · refine DW_intro (fun _ _ _ _ => True) ?_
              have hs0 : ¬ s = 0 := by omega
              simp only [VS, VD, SV, SL, T, Nat.reduceEqDiff, Nat.reduceAdd, Nat.reduceSub, Nat.reduceMul, Nat.reduceLeDiff, Nat.reduceLT, reduceIte, f1]
              refine GY_d (fun hd => ?_) (fun hd => ?_)
              · have hd1 : ¬ x.1 = k := by simpa using hd
                simp only [VS, VD, SV, SL, T, Nat.reduceEqDiff, Nat.reduceAdd, Nat.reduceSub, Nat.reduceMul, Nat.reduceLeDiff, Nat.reduceLT, reduceIte, hd, f1, f2, hs0, stV]
                refine ⟨by omega, by omega, GY_d (fun hd2 => ?_) (fun hd2 => ?_)⟩
                · have hd3 : x.1 % s = k % s := by simpa using hd2
                  simp only [VS, VD, SV, SL, T, Nat.reduceEqDiff, Nat.reduceAdd, Nat.reduceSub, Nat.reduceMul, Nat.reduceLeDiff, Nat.reduceLT, reduceIte, hd2, f5]
                  intro w3 hE3 _
                  simp only [VS, VD, SV, SL, T, Nat.reduceEqDiff, Nat.reduceAdd, Nat.reduceSub, Nat.reduceMul, Nat.reduceLeDiff, Nat.reduceLT, reduceIte, f1, f2, f4, f5, f6, f7, hd1, hd3, not_false_eq_true, true_and, stV]
                  exact hE3
                · have hd3 : ¬ x.1 % s = k % s := by simpa using hd2
                  simp only [VS, VD, SV, SL, T, Nat.reduceEqDiff, Nat.reduceAdd, Nat.reduceSub, Nat.reduceMul, Nat.reduceLeDiff, Nat.reduceLT, reduceIte, hd2]
                  intro w3 hE3 _
                  simp only [VS, VD, SV, SL, T, Nat.reduceEqDiff, Nat.reduceAdd, Nat.reduceSub, Nat.reduceMul, Nat.reduceLeDiff, Nat.reduceLT, reduceIte, f1, f2, f4, f5, f6, f7, hd1, hd3, and_false, false_and, stV]
                  exact hE3
              · have hd1 : x.1 = k := by simpa using hd
                simp only [VS, VD, SV, SL, T, Nat.reduceEqDiff, Nat.reduceAdd, Nat.reduceSub, Nat.reduceMul, Nat.reduceLeDiff, Nat.reduceLT, reduceIte, hd, hd1]
                intro w3 hE3 _
                simp only [VS, VD, SV, SL, T, Nat.reduceEqDiff, Nat.reduceAdd, Nat.reduceSub, Nat.reduceMul, Nat.reduceLeDiff, Nat.reduceLT, reduceIte, f1, f2, f4, f5, f6, f7, not_true_eq_false, and_false, false_and, stV]
                exact hE3
            · rintro f w3 ⟨hE3, f1, f2, f4, f5, f6, f7, f8, f62⟩
              replace hown := hown.ext hE3
              replace hEA := hEA.trans hE3
              simp only [VS, VD, SV, SL, T, Nat.reduceEqDiff, Nat.reduceAdd, Nat.reduceSub, Nat.reduceMul, Nat.reduceLeDiff, Nat.reduceLT, reduceIte, f62]
              refine cnd_c (fun f w4 => w4 = w3 ∧ f 1 = .int .i64 k ∧ f 2 = stV s y l false (.slice (some ⟨b, off, none⟩) L.length sc) ∧ live (f 4) = true ∧ f 5 = .int .i64 h ∧ f 6 = stV s y l false v0 ∧
                f 7 = .int .i64 i ∧ f 8 = .agg #[.int .i64 (aged s y h k x).1, .int .i64 (aged s y h k x).2]) ?_ ?_
              · refine cnd_d (fun hc => ?_) (fun hc => ?_)
                · simp only [aged, if_pos hc]
                  simp only [VS, VD, SV, SL, T, Nat.reduceEqDiff, Nat.reduceAdd, Nat.reduceSub, Nat.reduceMul, Nat.reduceLeDiff, Nat.reduceLT, reduceIte, f8]
                  exact ⟨by omega, f1, f2, f4, f5, f6, f7⟩
                · simp only [aged, if_neg hc]
                  simp only [VS, VD, SV, SL, T, Nat.reduceEqDiff, Nat.reduceAdd, Nat.reduceSub, Nat.reduceMul, Nat.reduceLeDiff, Nat.reduceLT, reduceIte]
                  exact ⟨f1, f2, f4, f5, f6, f7, f8⟩
              · generalize hx2 : aged s y h k x = x2 at *
                rintro f w4 ⟨rfl, f1, f2, f4, f5, f6, f7, f8⟩
                simp only [VS, VD, SV, SL, T, Nat.reduceEqDiff, Nat.reduceAdd, Nat.reduceSub, Nat.reduceMul, Nat.reduceLeDiff, Nat.reduceLT, reduceIte, f8, f2, stV]
                refine cnd_d (fun hc => ?_) (fun hc => ?_)
                · rw [if_pos hc] at hfold
                  simp only [VS, VD, SV, SL, T, Nat.reduceEqDiff, Nat.reduceAdd, Nat.reduceSub, Nat.reduceMul, Nat.reduceLeDiff, Nat.reduceLT, reduceIte, f8, f6, stV]
                  refine app_line hown (by omega) hEA.size x2.1 x2.2 ?_
                  intro v' w5 ho5 hE5
                  obtain ⟨va, vc, rfl⟩ := ho5.form
                  simp only [VS, VD, SV, SL, T, Nat.reduceEqDiff, Nat.reduceAdd, Nat.reduceSub, Nat.reduceMul, Nat.reduceLeDiff, Nat.reduceLT, reduceIte, f6, f7, stV]
                  refine ⟨by omega, i + 1, ⟨f1, f2, f4, f5, by simp, by omega, hE5 w hEA (Nat.le_refl _), _, rfl, ?_⟩, by omega⟩
                  rw [hfold]
                  exact ho5
                · rw [if_neg hc] at hfold
                  simp only [VS, VD, SV, SL, T, Nat.reduceEqDiff, Nat.reduceAdd, Nat.reduceSub, Nat.reduceMul, Nat.reduceLeDiff, Nat.reduceLT, reduceIte, f7]
                  refine ⟨by omega, i + 1, ⟨f1, f2, f4, f5, by simp, by omega, hEA, v0, f6, ?_⟩, by omega⟩
                  rw [hfold]
                  exact hown
          · simp only [VS, VD, SV, SL, T, Nat.reduceEqDiff, Nat.reduceAdd, Nat.reduceSub, Nat.reduceMul, Nat.reduceLeDiff, Nat.reduceLT, reduceIte]
            have e1 : L.take i = L := List.take_of_length_le (by omega)
            rw [e1] at hown
            exact ⟨f1, f4, hEx, _, f6, hown⟩
      · rintro f w3 ⟨f1, f4, hE3, v0, f6, hown⟩
        have hlen := agedL_len s y h k L
        obtain ⟨va, vc, rfl⟩ := hown.form
        simp only [VS, VD, SV, SL, T, Nat.reduceEqDiff, Nat.reduceAdd, Nat.reduceSub, Nat.reduceMul, Nat.reduceLeDiff, Nat.reduceLT, reduceIte, f6, f1, stV]
        refine (Put_spec s y l false (agedL s y h k L) (by omega) _ k 0 w3 (hown.ref s y l false)).mono ?_
        rintro v w4 ⟨h4, hE4⟩
        obtain ⟨a4, c4, rfl⟩ := h4.form
        simp only [VS, VD, SV, SL, T, Nat.reduceEqDiff, Nat.reduceAdd, Nat.reduceSub, Nat.reduceMul, Nat.reduceLeDiff, Nat.reduceLT, reduceIte, stV, f4]
        subst hh
        exact hΨ _ _ ⟨h4, hE3.trans hE4⟩
def rPuts (L : List (Int × Int)) (lo : Int) : Nat → List (Int × Int)
  | 0 => L
  | n + 1 => putF (rPuts L lo n) (lo + n) 0
theorem pfold_len (k a : Int) : ∀ (L : List (Int × Int)) (st : List (Int × Int) × Bool), (L.foldl (pstep k a) st).1.length + (if (L.foldl (pstep k a) st).2 then 0 else 1) ≤ L.length + (st.1.length + (if st.2 then 0 else 1)) := by
  intro L
  induction L with
  | nil => intro st; simp; exact Nat.le_refl _
  | cons x L ih =>
    intro st
    rw [List.foldl_cons]
    refine Nat.le_trans (ih _) ?_
    obtain ⟨out, dn⟩ := st
    have h1 : (pstep k a (out, dn) x).1.length + (if (pstep k a (out, dn) x).2 then 0 else 1) ≤ 1 + (out.length + (if dn then 0 else 1)) := by
      cases dn
      · by_cases h2 : k ≤ x.1 <;> by_cases h3 : x.1 = k <;> simp [pstep, h2, h3] <;> omega
      · by_cases h3 : x.1 = k <;> simp [pstep, h3] <;> omega
    simp only [List.length_cons] at h1 ⊢
    omega
theorem putF_len (L : List (Int × Int)) (k a : Int) : (putF L k a).length ≤ L.length + 1 := by
  have h := pfold_len k a L ([], false)
  unfold putF
  simp only [] at h ⊢
  cases e : (L.foldl (pstep k a) ([], false)).2 <;> simp [e] at h ⊢ <;> omega
theorem rPuts_len (L : List (Int × Int)) (lo : Int) : ∀ n, (rPuts L lo n).length ≤ L.length + n := by
  intro n
  induction n with
  | zero => simp [rPuts]
  | succ n ih => have := putF_len (rPuts L lo n) (lo + n) 0; simp only [rPuts]; omega
def rRng (s y : Int) (u : Bool) (L : List (Int × Int)) (lo hi : Int) : Bool × List (Int × Int) :=
  if u = true ∨ hi < max lo 0 then (u, L) else if max lo 0 = hi then (u, rAcc s y L hi) else if 64 ≤ hi - max lo 0 then (true, []) else (false, rPuts L (max lo 0) (hi - max lo 0 + 1).toNat)
set_option maxRecDepth 10000 in
theorem rRange_spec (s y l : Int) (hv : Geo s y l = true) (u : Bool) (L : List (Int × Int)) (hL : L.length ≤ 50000) (hbd : u = false → BdL y L) (v : Value) (lo hi : Int) (hlo : lo ≤ 1000000) (hhi : -1000000 ≤ hi ∧ hi ≤ 1000000) (w : World) (h : RefAt w v s y l u L) :
    VRet Try.prog 34 #[v, .int .i64 lo, .int .i64 hi] w fun v w' => RefAt w' v s y l (rRng s y u L lo hi).1 (rRng s y u L lo hi).2 ∧ Ext w w' := by
  have hp := Geo_spec hv
  obtain ⟨sa, sc, rfl⟩ := h.form
  refine VRet_start T.mo ok34 rfl fun Ψ hΨ => ?_; simp only [vc34, rs34]
  simp only [VS, VD, SV, SL, T, Nat.reduceEqDiff, Nat.reduceAdd, Nat.reduceSub, Nat.reduceMul, Nat.reduceLeDiff, Nat.reduceLT, reduceIte, stV]
  have hE := ((Ext.refl w).alloc tomb).alloc tomb
  generalize (w.alloc tomb).alloc tomb = wA at *
  refine cnd_c (fun f w2 => w2 = wA ∧ f 1 = .int .i64 (max lo 0) ∧ f 2 = .int .i64 hi ∧ f 3 = stV s y l u (.slice sa L.length sc) ∧ live (f 6) = true) ?_ ?_
  · refine cnd_d (fun hr => ?_) (fun hr => ?_)
    · have e1 : max lo 0 = 0 := by omega
      simp only [VS, VD, SV, SL, T, Nat.reduceEqDiff, Nat.reduceAdd, Nat.reduceSub, Nat.reduceMul, Nat.reduceLeDiff, Nat.reduceLT, reduceIte, e1, stV]
    · have e1 : max lo 0 = lo := by omega
      simp only [VS, VD, SV, SL, T, Nat.reduceEqDiff, Nat.reduceAdd, Nat.reduceSub, Nat.reduceMul, Nat.reduceLeDiff, Nat.reduceLT, reduceIte, e1, stV]
  generalize hlo' : max lo 0 = lo' at *
  have hlo0 : 0 ≤ lo' ∧ lo' ≤ 1000000 := by omega
  rintro f w2 ⟨rfl, f1, f2, f3, f6⟩
  cases u with
  | true =>
    simp only [VS, VD, SV, SL, T, Nat.reduceEqDiff, Nat.reduceAdd, Nat.reduceSub, Nat.reduceMul, Nat.reduceLeDiff, Nat.reduceLT, reduceIte, f3, f6, stV]
    refine hΨ _ _ ⟨?_, hE⟩
    simp only [rRng, true_or, if_true]
    exact h.ext hE
  | false =>
    replace hbd := hbd rfl
    simp only [VS, VD, SV, SL, T, Nat.reduceEqDiff, Nat.reduceAdd, Nat.reduceSub, Nat.reduceMul, Nat.reduceLeDiff, Nat.reduceLT, reduceIte, f3, f1, f2, stV]
    simp only [rRng, hlo', Bool.false_eq_true, false_or] at hΨ
    refine cnd_d (fun hk => ?_) (fun hk => ?_)
    · simp only [VS, VD, SV, SL, T, Nat.reduceEqDiff, Nat.reduceAdd, Nat.reduceSub, Nat.reduceMul, Nat.reduceLeDiff, Nat.reduceLT, reduceIte, f3, f6, stV]
      refine hΨ _ _ ?_
      rw [if_pos (by omega)]
      exact ⟨h.ext hE, hE⟩
    · rw [if_neg (by omega)] at hΨ
      simp only [VS, VD, SV, SL, T, Nat.reduceEqDiff, Nat.reduceAdd, Nat.reduceSub, Nat.reduceMul, Nat.reduceLeDiff, Nat.reduceLT, reduceIte, f1, f2]
      refine cnd_d (fun hq => ?_) (fun hq => ?_)
      · rw [if_pos hq] at hΨ
        simp only [VS, VD, SV, SL, T, Nat.reduceEqDiff, Nat.reduceAdd, Nat.reduceSub, Nat.reduceMul, Nat.reduceLeDiff, Nat.reduceLT, reduceIte, f3, f1, hq, stV]
        have hh0 : ¬ (false = true ∨ hi < 0) := by simp; omega
        refine (rAccess_spec s y l hv false L (by omega) (fun _ => hbd) _ hi w2 (h.ext hE)).mono ?_
        rw [if_neg hh0]
        rintro v w3 ⟨h3, hE3⟩
        obtain ⟨a3, c3, rfl⟩ := h3.form
        simp only [VS, VD, SV, SL, T, Nat.reduceEqDiff, Nat.reduceAdd, Nat.reduceSub, Nat.reduceMul, Nat.reduceLeDiff, Nat.reduceLT, reduceIte, stV, f6]
        exact hΨ _ _ ⟨h3, hE.trans hE3⟩
      · rw [if_neg hq] at hΨ
        simp only [VS, VD, SV, SL, T, Nat.reduceEqDiff, Nat.reduceAdd, Nat.reduceSub, Nat.reduceMul, Nat.reduceLeDiff, Nat.reduceLT, reduceIte, f1, f2]
        refine ⟨by omega, ?_⟩
        refine cnd_d (fun hg => ?_) (fun hg => ?_)
        · rw [if_pos (by omega)] at hΨ
          simp only [VS, VD, SV, SL, T, Nat.reduceEqDiff, Nat.reduceAdd, Nat.reduceSub, Nat.reduceMul, Nat.reduceLeDiff, Nat.reduceLT, reduceIte, f3, f6, stV]
          exact hΨ _ _ ⟨⟨_, rfl, .inl ⟨⟨_, _, rfl⟩, rfl⟩⟩, hE⟩
        · rw [if_neg (by omega)] at hΨ
          simp only [VS, VD, SV, SL, T, Nat.reduceEqDiff, Nat.reduceAdd, Nat.reduceSub, Nat.reduceMul, Nat.reduceLeDiff, Nat.reduceLT, reduceIte, f1]
          refine LoopP_intro (α := Nat) (fun j f' w' => f' 2 = .int .i64 hi ∧ live (f' 6) = true ∧ f' 7 = .int .i64 (lo' + j) ∧ (j : Int) ≤ hi - lo' + 1 ∧ Ext w w' ∧ RefAt w' (f' 3) s y l false (rPuts L lo' j)) (fun j => (hi - lo' + 1).toNat - j) 0 ?_ ?_
          · simp only [VS, VD, SV, SL, T, Nat.reduceEqDiff, Nat.reduceAdd, Nat.reduceSub, Nat.reduceMul, Nat.reduceLeDiff, Nat.reduceLT, reduceIte, f2, f3, f6]
            exact ⟨by simp, by omega, hE, h.ext hE⟩
          · rintro j f' w' ⟨f2, f6, f7, hj, hEx, hslj⟩
            have hll := rPuts_len L lo' j
            obtain ⟨a4, c4, f3⟩ := hslj.form
            simp only [VS, VD, SV, SL, T, Nat.reduceEqDiff, Nat.reduceAdd, Nat.reduceSub, Nat.reduceMul, Nat.reduceLeDiff, Nat.reduceLT, reduceIte, f7, f2]
            refine cnd_d (fun hle => ?_) (fun hle => ?_)
            · rw [f3] at hslj
              simp only [VS, VD, SV, SL, T, Nat.reduceEqDiff, Nat.reduceAdd, Nat.reduceSub, Nat.reduceMul, Nat.reduceLeDiff, Nat.reduceLT, reduceIte, f3, f7, stV]
              refine (Put_spec s y l false _ (by omega) _ (lo' + j) 0 w' hslj).mono ?_
              rintro _ w3 ⟨ho3, hE3⟩
              obtain ⟨a3, c3, rfl⟩ := ho3.form
              simp only [VS, VD, SV, SL, T, Nat.reduceEqDiff, Nat.reduceAdd, Nat.reduceSub, Nat.reduceMul, Nat.reduceLeDiff, Nat.reduceLT, reduceIte, stV, f3, f7]
              exact ⟨by omega, j + 1, ⟨f2, f6, by simp only [Value.int.injEq, true_and]; omega, by omega, hEx.trans hE3, ho3⟩, by omega⟩
            · have ej : j = (hi - lo' + 1).toNat := by omega
              rw [← ej] at hΨ
              rw [f3] at hslj
              simp only [VS, VD, SV, SL, T, Nat.reduceEqDiff, Nat.reduceAdd, Nat.reduceSub, Nat.reduceMul, Nat.reduceLeDiff, Nat.reduceLT, reduceIte, f3, f6, stV]
              exact hΨ _ _ ⟨hslj, hEx⟩
end Go.Proofs.Ytndkadphpbnpeaa

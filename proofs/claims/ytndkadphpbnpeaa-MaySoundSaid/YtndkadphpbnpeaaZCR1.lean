/-
  The reference for may: Age, Put.
-/
import Derived.Test.YtndkadphpbnpeaaZCM4
set_option linter.unusedSimpArgs false
set_option linter.unusedVariables false
namespace Go.Proofs.Ytndkadphpbnpeaa
open Go.W
def lnR (p : Int × Int) : List Value := [.int .i64 p.1, .int .i64 p.2]
def RefAt (w : World) (v : Value) (s y l : Int) (u : Bool) (L : List (Int × Int)) : Prop := ∃ sl, v = stV s y l u sl ∧ SlAt w sl 2 (L.map lnR)
theorem RefAt.ext {w w' : World} {v : Value} {s y l : Int} {u : Bool} {L : List (Int × Int)} (h : RefAt w v s y l u L) (hE : Ext w w') : RefAt w' v s y l u L := by
  obtain ⟨sl, h1, h2⟩ := h; exact ⟨sl, h1, h2.ext hE⟩
theorem lnAt_form {w : World} {v : Value} {L : List (Int × Int)} (h : SlAt w v 2 (L.map lnR)) : ∃ a c, v = .slice a L.length c := by
  obtain ⟨a, c, h⟩ := SlAt.form h; exact ⟨a, c, by rw [h]; simp⟩
theorem lnAt_get {w : World} {L : List (Int × Int)} {a : Option Addr} {n c : Nat} (h : SlAt w (.slice a n c) 2 (L.map lnR)) {i : Nat} (hi : i < L.length) :
    ∃ b off cs e fz, a = some ⟨b, off, none⟩ ∧ w.heap[b]? = some (.cells cs e fz) ∧ off + (i * 2 + 2) ≤ cs.size ∧ cs.extract (off + i * 2) (off + (i * 2 + 2)) = #[.int .i64 L[i].1, .int .i64 L[i].2] ∧
      cs[off + i * 2]? = some (.int .i64 L[i].1) ∧ cs[off + (i * 2 + 1)]? = some (.int .i64 L[i].2) := by
  obtain ⟨b, off, cs, e, fz, h1, _, h3, h4, h5⟩ := SlAt.get h (i := i) (r := lnR L[i]) (by simp [hi])
  refine ⟨b, off, cs, e, fz, h1, h3, h4, h5, ?_, ?_⟩
  · have := congrArg (fun a : Array Value => a[0]?) h5
    simp only [Array.getElem?_extract, lnR] at this
    rw [if_pos (by omega)] at this
    simpa using this
  · have := congrArg (fun a : Array Value => a[1]?) h5
    simp only [Array.getElem?_extract, lnR] at this
    rw [if_pos (by omega)] at this
    simpa [Nat.add_assoc] using this
def rAge (L : List (Int × Int)) (k : Int) : Int := match L.find? (·.1 == k) with | some p => p.2 | none => -1
theorem RefAt.form {w : World} {v : Value} {s y l : Int} {u : Bool} {L : List (Int × Int)} (h : RefAt w v s y l u L) : ∃ a c, v = stV s y l u (.slice a L.length c) := by
  obtain ⟨sl, h1, h2⟩ := h
  obtain ⟨a, c, rfl⟩ := lnAt_form h2
  exact ⟨a, c, h1⟩
set_option maxRecDepth 10000 in
theorem rAge_spec (s y l : Int) (u : Bool) (L : List (Int × Int)) (hL : L.length ≤ 1000000) (v : Value) (k : Int) (w : World) (h : RefAt w v s y l u L) :
    VRet Try.prog 35 #[v, .int .i64 k] w fun v w' => v = .int .i64 (rAge L k) ∧ Ext w w' := by
  obtain ⟨sl, rfl, hsl⟩ := h
  obtain ⟨a, c, rfl⟩ := lnAt_form hsl
  refine VRet_start T.mo ok35 rfl fun Ψ hΨ => ?_; simp only [vc35, rs35]
  simp only [VS, VD, SV, SL, T, Nat.reduceEqDiff, Nat.reduceAdd, Nat.reduceSub, Nat.reduceMul, Nat.reduceLeDiff, Nat.reduceLT, reduceIte, stV]
  have hE := (Ext.refl w).alloc tomb
  refine LoopP_intro (α := Nat) (fun i f' w' => f' 1 = .int .i64 k ∧ f' 2 = stV s y l u (.slice a L.length c) ∧ f' 5 = .int .i64 i ∧ i ≤ L.length ∧ Ext w w' ∧
    (L.take i).find? (·.1 == k) = none) (fun i => L.length - i) 0 ?_ ?_
  · simp only [VS, VD, SV, SL, T, Nat.reduceEqDiff, Nat.reduceAdd, Nat.reduceSub, Nat.reduceMul, Nat.reduceLeDiff, Nat.reduceLT, reduceIte, stV]
    exact ⟨rfl, by omega, hE, rfl⟩
  · rintro i f' w' ⟨f1, f2, f5, hile, hEx, hnone⟩
    simp only [VS, VD, SV, SL, T, Nat.reduceEqDiff, Nat.reduceAdd, Nat.reduceSub, Nat.reduceMul, Nat.reduceLeDiff, Nat.reduceLT, reduceIte, f5, f2, stV]
    refine cnd_d (fun hlt => ?_) (fun hlt => ?_)
    · have hi : i < L.length := by omega
      obtain ⟨b, off, cs, e, fz, rfl, hb, hle, hext, hc0, hc1⟩ := lnAt_get (hsl.ext hEx) hi
      simp only [VS, VD, SV, SL, T, Nat.reduceEqDiff, Nat.reduceAdd, Nat.reduceSub, Nat.reduceMul, Nat.reduceLeDiff, Nat.reduceLT, reduceIte, f5, f2, f1, stV, hb, Int.toNat_natCast, hc0]
      refine ⟨by omega, cnd_d (fun hq => ?_) (fun hq => ?_)⟩
      · simp only [VS, VD, SV, SL, T, Nat.reduceEqDiff, Nat.reduceAdd, Nat.reduceSub, Nat.reduceMul, Nat.reduceLeDiff, Nat.reduceLT, reduceIte, f5, f2, stV, hb, Int.toNat_natCast, hc1]
        refine ⟨by omega, hΨ _ _ ⟨?_, hEx⟩⟩
        have : L.find? (·.1 == k) = some L[i] := by
          rw [show L.find? (·.1 == k) = (L.take i ++ L.drop i).find? (·.1 == k) by rw [List.take_append_drop], List.find?_append, hnone, Option.none_or, List.drop_eq_getElem_cons hi, List.find?_cons]
          have e2 : (L[i].1 == k) = true := by simp [hq]
          rw [e2]
        simp [rAge, this]
      · simp only [VS, VD, SV, SL, T, Nat.reduceEqDiff, Nat.reduceAdd, Nat.reduceSub, Nat.reduceMul, Nat.reduceLeDiff, Nat.reduceLT, reduceIte, f5]
        refine ⟨by omega, i + 1, ⟨f1, f2, by simp, by omega, hEx, ?_⟩, by omega⟩
        rw [List.take_succ_eq_append_getElem hi, List.find?_append, hnone]
        simp [hq]
    · simp only [VS, VD, SV, SL, T, Nat.reduceEqDiff, Nat.reduceAdd, Nat.reduceSub, Nat.reduceMul, Nat.reduceLeDiff, Nat.reduceLT, reduceIte]
      refine hΨ _ _ ⟨?_, hEx⟩
      have : L.find? (·.1 == k) = none := by rw [List.take_of_length_le (by omega)] at hnone; exact hnone
      simp [rAge, this]
def pstep (k a : Int) (st : List (Int × Int) × Bool) (x : Int × Int) : List (Int × Int) × Bool :=
  let st1 := if st.2 = false ∧ k ≤ x.1 then (st.1 ++ [(k, a)], true) else st
  (if x.1 = k then st1.1 else st1.1 ++ [x], st1.2)
def putF (L : List (Int × Int)) (k a : Int) : List (Int × Int) :=
  let st := L.foldl (pstep k a) ([], false)
  if st.2 then st.1 else st.1 ++ [(k, a)]
abbrev LnO (base : Nat) (w : World) (v : Value) (L : List (Int × Int)) : Prop := OwnL lnR base 84 2 w v L
set_option maxRecDepth 10000 in
theorem app_line {w : World} {κ : Value → World → Prop} {base : Nat} {v : Value} {L : List (Int × Int)} (hown : LnO base w v L) (hn : L.length + 1 ≤ 1000000) (hb : base ≤ w.heap.size) (a b : Int)
    (h : ∀ v' w', LnO base w' v' (L ++ [(a, b)]) → (∀ w0, Ext w0 w → w0.heap.size ≤ base → Ext w0 w') → κ v' w') :
    RunV Try.prog (w.alloc (.cells #[.int .i64 a, .int .i64 b] 84 (0, 0))) κ (Builtin.append_ #[32, 32] 32 #[v, .slice (some ⟨w.heap.size, 0, none⟩) 1 1]) :=
  OwnL.app1 T.el32 T.sz84 T.by84 T.zr84 rfl (by omega) hown (a, b) rfl rfl hn (by omega) hb fun v' w' h1 h2 _ => h v' w' h1 h2
theorem LnO.ref {base : Nat} {w : World} {v : Value} {L : List (Int × Int)} (h : LnO base w v L) (s y l : Int) (u : Bool) : RefAt w (stV s y l u v) s y l u L := ⟨v, rfl, h.sl fun _ => rfl⟩
set_option maxRecDepth 10000 in
theorem Put_spec (s y l : Int) (u : Bool) (L : List (Int × Int)) (hL : L.length ≤ 100000) (v : Value) (k a : Int) (w : World) (h : RefAt w v s y l u L) :
    VRet Try.prog 46 #[v, .int .i64 k, .int .i64 a] w fun v w' => RefAt w' v s y l false (putF L k a) ∧ Ext w w' := by
  obtain ⟨sl, rfl, hsl⟩ := h
  obtain ⟨sa, sc, rfl⟩ := lnAt_form hsl
  refine VRet_start T.mo ok46 rfl fun Ψ hΨ => ?_; simp only [vc46, rs46]
  simp only [VS, VD, SV, SL, T, Nat.reduceEqDiff, Nat.reduceAdd, Nat.reduceSub, Nat.reduceMul, Nat.reduceLeDiff, Nat.reduceLT, reduceIte, stV]
  refine loop_cB (fun f' w' => f' 1 = .int .i64 k ∧ f' 2 = .int .i64 a ∧ live (f' 6) = true ∧ f' 8 = .bool (L.foldl (pstep k a) ([], false)).2 ∧ Ext w w' ∧ (L.foldl (pstep k a) ([], false)).1.length ≤ 2 * L.length ∧
      ∃ v, f' 7 = stV s y l false v ∧ LnO w.heap.size w' v (L.foldl (pstep k a) ([], false)).1) ?_ ?_
  · refine LoopP_intro (α := Nat) (fun i f' w' => f' 1 = .int .i64 k ∧ f' 2 = .int .i64 a ∧ f' 3 = stV s y l u (.slice sa L.length sc) ∧ live (f' 6) = true ∧
      f' 8 = .bool ((L.take i).foldl (pstep k a) ([], false)).2 ∧ f' 9 = .int .i64 i ∧ i ≤ L.length ∧ Ext w w' ∧ ((L.take i).foldl (pstep k a) ([], false)).1.length ≤ 2 * i ∧
      ∃ v, f' 7 = stV s y l false v ∧ LnO w.heap.size w' v ((L.take i).foldl (pstep k a) ([], false)).1) (fun i => L.length - i) 0 ?_ ?_
    · simp only [VS, VD, SV, SL, T, Nat.reduceEqDiff, Nat.reduceAdd, Nat.reduceSub, Nat.reduceMul, Nat.reduceLeDiff, Nat.reduceLT, reduceIte, stV]
      exact ⟨rfl, rfl, by omega, ((((Ext.refl w).alloc _).alloc _).alloc _), by simp, .slice none 0 0, rfl, OwnL.nil _ _ _ _ _⟩
    · rintro i f' w' ⟨f1, f2, f3, f6, f8, f9, hile, hEx, hlen, v0, f7, hown⟩
      simp only [VS, VD, SV, SL, T, Nat.reduceEqDiff, Nat.reduceAdd, Nat.reduceSub, Nat.reduceMul, Nat.reduceLeDiff, Nat.reduceLT, reduceIte, f9, f3, stV]
      refine cnd_d (fun hlt => ?_) (fun hlt => ?_)
      · have hi : i < L.length := by omega
        obtain ⟨b, off, cs, e, fz, rfl, hb, hle, hext, hc0, hc1⟩ := lnAt_get (hsl.ext hEx) hi
        have hfold : (L.take (i + 1)).foldl (pstep k a) ([], false) = pstep k a ((L.take i).foldl (pstep k a) ([], false)) L[i] := by
          rw [List.take_succ_eq_append_getElem hi, List.foldl_append]; rfl
        generalize hst : (L.take i).foldl (pstep k a) ([], false) = st0 at *
        generalize hx : L[i] = x at *
        obtain ⟨out, dn⟩ := st0
        simp only [VS, VD, SV, SL, T, Nat.reduceEqDiff, Nat.reduceAdd, Nat.reduceSub, Nat.reduceMul, Nat.reduceLeDiff, Nat.reduceLT, reduceIte, f9, f3, stV, Int.toNat_natCast, hb, hle, hext]
        refine ⟨by omega, ?_⟩
        have hEA := hEx.alloc tomb
        have hown' := hown.alloc tomb
        generalize w'.alloc tomb = wA at *
        simp only [VS, VD, SV, SL, T, Nat.reduceEqDiff, Nat.reduceAdd, Nat.reduceSub, Nat.reduceMul, Nat.reduceLeDiff, Nat.reduceLT, reduceIte, f8]
        refine YG_c (fun f w2 => w2 = wA ∧ f 1 = .int .i64 k ∧ f 2 = .int .i64 a ∧ f 3 = stV s y l u (.slice (some ⟨b, off, none⟩) L.length sc) ∧ live (f 6) = true ∧ f 7 = stV s y l false v0 ∧
          f 8 = .bool dn ∧ f 9 = .int .i64 i ∧ f 10 = .agg #[.int .i64 x.1, .int .i64 x.2] ∧ f 33 = .bool (decide (dn = false ∧ k ≤ x.1))) ?_ ?_
        · cases dn with
          | true => simp only [VS, VD, SV, SL, T, Nat.reduceEqDiff, Nat.reduceAdd, Nat.reduceSub, Nat.reduceMul, Nat.reduceLeDiff, Nat.reduceLT, reduceIte, f1, f2, f3, f6, f7, f8, f9, Bool.true_eq_false, false_and, stV]
          | false => simp only [VS, VD, SV, SL, T, Nat.reduceEqDiff, Nat.reduceAdd, Nat.reduceSub, Nat.reduceMul, Nat.reduceLeDiff, Nat.reduceLT, reduceIte, f1, f2, f3, f6, f7, f8, f9, true_and, stV]
        rintro f w2 ⟨rfl, g1, g2, g3, g6, g7, g8, g9, g10, g33⟩
        simp only [VS, VD, SV, SL, T, Nat.reduceEqDiff, Nat.reduceAdd, Nat.reduceSub, Nat.reduceMul, Nat.reduceLeDiff, Nat.reduceLT, reduceIte, g33]
        refine cnd_c (fun f w3 => f 1 = .int .i64 k ∧ f 2 = .int .i64 a ∧ f 3 = stV s y l u (.slice (some ⟨b, off, none⟩) L.length sc) ∧ live (f 6) = true ∧
          f 8 = .bool (if dn = false ∧ k ≤ x.1 then (out ++ [(k, a)], true) else (out, dn)).2 ∧ f 9 = .int .i64 i ∧ f 10 = .agg #[.int .i64 x.1, .int .i64 x.2] ∧ Ext w w3 ∧
          ∃ v, f 7 = stV s y l false v ∧ LnO w.heap.size w3 v (if dn = false ∧ k ≤ x.1 then (out ++ [(k, a)], true) else (out, dn)).1) ?_ ?_
        · refine cnd_d (fun hc => ?_) (fun hc => ?_)
          · simp only [if_pos hc]
            simp only [VS, VD, SV, SL, T, Nat.reduceEqDiff, Nat.reduceAdd, Nat.reduceSub, Nat.reduceMul, Nat.reduceLeDiff, Nat.reduceLT, reduceIte, g7, g1, g2, stV]
            replace hlen : out.length ≤ 2 * i := hlen
            refine app_line (L := out) hown' (by omega) hEA.size k a ?_
            intro v' w3 ho3 hE3
            obtain ⟨va, vc, rfl⟩ := ho3.form
            simp only [VS, VD, SV, SL, T, Nat.reduceEqDiff, Nat.reduceAdd, Nat.reduceSub, Nat.reduceMul, Nat.reduceLeDiff, Nat.reduceLT, reduceIte, g7, stV]
            exact ⟨g1, g2, by rw [g3]; rfl, g6, g9, g10, hE3 w hEA (Nat.le_refl _), _, rfl, ho3⟩
          · simp only [if_neg hc]
            simp only [VS, VD, SV, SL, T, Nat.reduceEqDiff, Nat.reduceAdd, Nat.reduceSub, Nat.reduceMul, Nat.reduceLeDiff, Nat.reduceLT, reduceIte]
            exact ⟨g1, g2, g3, g6, g8, g9, g10, hEA, v0, g7, hown'⟩
        · intro f w4
          generalize hst1 : (if dn = false ∧ k ≤ x.1 then (out ++ [(k, a)], true) else (out, dn)) = st1
          rintro ⟨g1, g2, g3, g6, g8, g9, g10, hE4, v1, g7, ho4⟩
          have hst2 : pstep k a (out, dn) x = (if x.1 = k then st1.1 else st1.1 ++ [x], st1.2) := by
            simp only [pstep, hst1]
          have hl1 : st1.1.length ≤ 2 * i + 1 := by
            rw [← hst1]; split
            · simp only [List.length_append, List.length_cons, List.length_nil]; simp only [] at hlen; omega
            · simp only [] at hlen ⊢; omega
          simp only [VS, VD, SV, SL, T, Nat.reduceEqDiff, Nat.reduceAdd, Nat.reduceSub, Nat.reduceMul, Nat.reduceLeDiff, Nat.reduceLT, reduceIte, g10, g1]
          refine cnd_d (fun hne => ?_) (fun hne => ?_)
          · simp only [VS, VD, SV, SL, T, Nat.reduceEqDiff, Nat.reduceAdd, Nat.reduceSub, Nat.reduceMul, Nat.reduceLeDiff, Nat.reduceLT, reduceIte, g7, g10, stV]
            refine app_line ho4 (by omega) hE4.size x.1 x.2 ?_
            intro v' w5 ho5 hE5
            obtain ⟨va, vc, rfl⟩ := ho5.form
            simp only [VS, VD, SV, SL, T, Nat.reduceEqDiff, Nat.reduceAdd, Nat.reduceSub, Nat.reduceMul, Nat.reduceLeDiff, Nat.reduceLT, reduceIte, g7, g9, stV]
            refine ⟨by omega, i + 1, ⟨g1, g2, g3, g6, ?_, by simp, by omega, hE5 w hE4 (Nat.le_refl _), ?_, _, rfl, ?_⟩, by omega⟩
            · rw [hfold, hst2]; exact g8
            · rw [hfold, hst2]; simp only [hne, if_false, List.length_append, List.length_cons, List.length_nil]; omega
            · rw [hfold, hst2]
              simp only [hne, if_false]
              exact ho5
          · simp only [VS, VD, SV, SL, T, Nat.reduceEqDiff, Nat.reduceAdd, Nat.reduceSub, Nat.reduceMul, Nat.reduceLeDiff, Nat.reduceLT, reduceIte, g9]
            simp only [Decidable.not_not] at hne
            refine ⟨by omega, i + 1, ⟨g1, g2, g3, g6, ?_, by simp, by omega, hE4, ?_, v1, g7, ?_⟩, by omega⟩
            · rw [hfold, hst2]; exact g8
            · rw [hfold, hst2]; simp only [hne, if_true]; omega
            · rw [hfold, hst2]; simp only [hne, if_true]; exact ho4
      · simp only [VS, VD, SV, SL, T, Nat.reduceEqDiff, Nat.reduceAdd, Nat.reduceSub, Nat.reduceMul, Nat.reduceLeDiff, Nat.reduceLT, reduceIte]
        have e1 : L.take i = L := List.take_of_length_le (by omega)
        rw [e1] at f8 hlen hown
        exact ⟨f1, f2, f6, f8, hEx, by omega, v0, f7, hown⟩
  · rintro f w1 ⟨f1, f2, f6, f8, hE, hlen, v0, f7, hown⟩
    have hp : putF L k a = if (L.foldl (pstep k a) ([], false)).2 then (L.foldl (pstep k a) ([], false)).1 else (L.foldl (pstep k a) ([], false)).1 ++ [(k, a)] := rfl
    generalize hst : L.foldl (pstep k a) ([], false) = st at *
    obtain ⟨out, dn⟩ := st
    simp only [] at hlen f8 hown hp
    cases dn with
    | true =>
      simp only [if_true] at hp
      obtain ⟨va, vc, rfl⟩ := hown.form
      simp only [VS, VD, SV, SL, T, Nat.reduceEqDiff, Nat.reduceAdd, Nat.reduceSub, Nat.reduceMul, Nat.reduceLeDiff, Nat.reduceLT, reduceIte, f8, Bool.not_true, f7, f6, stV]
      rw [← hp] at hown
      have := hΨ _ _ ⟨hown.ref s y l false, hE⟩
      simpa only [stV, hp] using this
    | false =>
      have hp2 : putF L k a = out ++ [(k, a)] := by simpa using hp
      simp only [VS, VD, SV, SL, T, Nat.reduceEqDiff, Nat.reduceAdd, Nat.reduceSub, Nat.reduceMul, Nat.reduceLeDiff, Nat.reduceLT, reduceIte, f8, Bool.not_false, f7, f1, f2, stV]
      refine app_line hown (by omega) hE.size k a ?_
      intro v' w3 ho3 hE3
      obtain ⟨va, vc, rfl⟩ := ho3.form
      simp only [VS, VD, SV, SL, T, Nat.reduceEqDiff, Nat.reduceAdd, Nat.reduceSub, Nat.reduceMul, Nat.reduceLeDiff, Nat.reduceLT, reduceIte, f7, f6, stV]
      rw [← hp2] at ho3
      have := hΨ _ _ ⟨ho3.ref s y l false, hE3 w hE (Nat.le_refl _)⟩
      simpa only [stV, hp2] using this
end Go.Proofs.Ytndkadphpbnpeaa

/-
  MayExact.
-/
import Derived.Test.YtndkadphpbnpeaaZCS3
set_option linter.unusedSimpArgs false
set_option linter.unusedVariables false
namespace Go.Proofs.Ytndkadphpbnpeaa
open Go.W Go.RowKit
open C (dst stS addH hitS ptr CacheAt Mv)
/-- an element of a slice whose elements take one cell each -/
theorem sl_get1 {α : Type} {w : World} {a : Option Addr} {n c : Nat} {L : List α} {g : α → Value} (h : SlAt w (.slice a n c) 1 (L.map fun x => [g x])) {i : Nat} (hi : i < L.length) :
    ∃ b off cs e fz, a = some ⟨b, off, none⟩ ∧ w.heap[b]? = some (.cells cs e fz) ∧ cs[off + i]? = some (g L[i]) := by
  obtain ⟨b, off, cs, e, fz, h1, _, h3, h4, h5⟩ := h.get (i := i) (r := [g L[i]]) (by simp [hi])
  refine ⟨b, off, cs, e, fz, h1, h3, ?_⟩
  rw [Nat.mul_one] at h4 h5
  have := congrArg (fun (x : Array Value) => x[0]?) h5
  simp only [Array.getElem?_extract, List.getElem?_toArray, List.getElem?_cons_zero] at this
  rw [if_pos (by omega)] at this
  simpa using this
set_option maxHeartbeats 1000000 in
set_option maxRecDepth 100000 in
theorem MayExact_spec (s y l : Int) (lv : Value) (Q : List Int) (w : World) (h : SlAt w lv 1 (Q.map fun n => [.int .u16 n])) (hM : Q.length ≤ maxLen ∧ ∀ n ∈ Q, 0 ≤ n ∧ n ≤ 65535) :
    VRet Try.prog 9 #[cfgV s y l, lv] w fun v w' => v = .bool true ∧ Ext w w' := by
  obtain ⟨la, lc, rfl⟩ := h.form
  rw [List.length_map] at h ⊢
  have hnil : ∀ w', StpsAt w' (.slice none 0 0) [] := fun w' => .inl ⟨⟨_, _, rfl⟩, rfl⟩
  refine VRet_start T.mo ok9 rfl fun Ψ hΨ => ?_; simp only [vc9, rs9]
  simp only [VS, VD, SV, SL, T, Nat.reduceEqDiff, Nat.reduceAdd, Nat.reduceSub, Nat.reduceMul, Nat.reduceLeDiff, Nat.reduceLT, reduceIte, cfgV]
  refine (awake_spec _).mono ?_
  rintro _ w1 ⟨rfl, hE⟩
  replace hE := ((Ext.refl w).alloc tomb).trans hE
  simp only [VS, VD, SV, SL, T, Nat.reduceEqDiff, Nat.reduceAdd, Nat.reduceSub, Nat.reduceMul, Nat.reduceLeDiff, Nat.reduceLT, reduceIte]
  refine (small_spec s y l _ [] _ (hnil _)).mono ?_
  rintro _ w2 ⟨⟨r, rfl, hr⟩, hE2⟩
  replace hE := hE.trans hE2
  cases r with
  | false =>
    simp only [VS, VD, SV, SL, T, Nat.reduceEqDiff, Nat.reduceAdd, Nat.reduceSub, Nat.reduceMul, Nat.reduceLeDiff, Nat.reduceLT, reduceIte]
    refine (awake_spec _).mono ?_
    rintro _ w3 ⟨rfl, hE3⟩
    simp only [VS, VD, SV, SL, T, Nat.reduceEqDiff, Nat.reduceAdd, Nat.reduceSub, Nat.reduceMul, Nat.reduceLeDiff, Nat.reduceLT, reduceIte]
    exact hΨ _ _ ⟨rfl, hE.trans hE3⟩
  | true =>
    have hsm := hr.1 rfl
    have hv := hsm.1
    have hp := Geo_spec hv
    simp only [VS, VD, SV, SL, T, Nat.reduceEqDiff, Nat.reduceAdd, Nat.reduceSub, Nat.reduceMul, Nat.reduceLeDiff, Nat.reduceLT, reduceIte]
    by_cases h40 : (40 : Int) < Q.length
    · rw [decide_eq_true h40]
      simp only [VS, VD, SV, SL, T, Nat.reduceEqDiff, Nat.reduceAdd, Nat.reduceSub, Nat.reduceMul, Nat.reduceLeDiff, Nat.reduceLT, reduceIte]
      refine (awake_spec _).mono ?_
      rintro _ w3 ⟨rfl, hE3⟩
      simp only [VS, VD, SV, SL, T, Nat.reduceEqDiff, Nat.reduceAdd, Nat.reduceSub, Nat.reduceMul, Nat.reduceLeDiff, Nat.reduceLT, reduceIte]
      exact hΨ _ _ ⟨rfl, hE.trans hE3⟩
    rw [decide_eq_false h40]
    simp only [VS, VD, SV, SL, T, Nat.reduceEqDiff, Nat.reduceAdd, Nat.reduceSub, Nat.reduceMul, Nat.reduceLeDiff, Nat.reduceLT, reduceIte]
    refine (C.New_spec s y l _).mono ?_
    rintro v4 w4 (⟨hg, _⟩ | ⟨_, p, rfl, hC, hE4⟩)
    · rw [hv] at hg; cases hg
    have hF4 : ∀ b, (w2.heap.size ≤ b ∧ b < w4.heap.size) → w.heap.size ≤ b := fun b hb => Nat.le_trans hE.size hb.1
    replace hE := hE.trans hE4
    simp only [VS, VD, SV, SL, T, Nat.reduceEqDiff, Nat.reduceAdd, Nat.reduceSub, Nat.reduceMul, Nat.reduceLeDiff, Nat.reduceLT, reduceIte]
    refine (VRet.hid (F := fun b => w2.heap.size ≤ b ∧ b < w4.heap.size) (fun b hb => hb.2) (New_spec s y l hv _)).mono ?_
    rintro _ w5 ⟨w1h, ⟨⟨st, rfl, hm⟩, hEh⟩, hper, _, _, hEE⟩
    have hE5 := hEE hEh
    replace hm := hm.per hper
    replace hE := hE.trans hE5
    obtain ⟨u0, a0, n0, c0, rfl⟩ := hm.form
    simp only [VS, VD, SV, SL, T, Nat.reduceEqDiff, Nat.reduceAdd, Nat.reduceSub, Nat.reduceMul, Nat.reduceLeDiff, Nat.reduceLT, reduceIte, stV, ne_eq, not_true_eq_false, decide_false]
    have hE6 := (Ext.refl w5).alloc tomb
    replace hE := hE.trans hE6
    replace hm := hm.per (hid_ext hE6)
    replace hC := hC.ext (hE5.trans hE6)
    generalize w5.alloc tomb = w6 at *
    rw [show List.replicate s.toNat [] = stS s y fun _ => [] from C.emp_stS s y] at hC
    refine LoopP_intro (α := Nat) (fun i f' w' => f' 2 = .agg #[.int .i64 s, .int .i64 y, .int .i64 l] ∧ f' 5 = ptr p ∧ f' 49 = .slice la Q.length lc ∧ f' 50 = .int .i64 Q.length ∧ f' 51 = .int .i64 i ∧ i ≤ Q.length ∧ Ext w w' ∧
      ∃ m F H, MayAt (hid F w') (f' 7) s y l (some m) ∧ Bd y m ∧ CacheAt w' F p s y l (stS s y H) ∧ (∀ b, F b → w.heap.size ≤ b) ∧ Hok s H ∧ Exa s y m H) (fun i => Q.length - i) 0 ?_ ?_
    · simp only [VS, VD, SV, SL, T, Nat.reduceEqDiff, Nat.reduceAdd, Nat.reduceSub, Nat.reduceMul, Nat.reduceLeDiff, Nat.reduceLT, reduceIte, stV]
      exact ⟨rfl, Nat.zero_le _, hE, _, _, fun _ => [], hm, BdS_empty y _ rfl, hC, hF4, fun i k hk => by simp at hk, Exa_empty s y⟩
    · clear hm hC
      rintro i f' wo ⟨f2, f5, f49, f50, f51, hi, hEx, m, F, H, hm, hbd, hC, hF, hH, hX⟩
      simp only [VS, VD, SV, SL, T, Nat.reduceEqDiff, Nat.reduceAdd, Nat.reduceSub, Nat.reduceMul, Nat.reduceLeDiff, Nat.reduceLT, reduceIte, f51, f50]
      refine cnd_d (fun hlt => ?_) (fun hlt => ?_)
      · have hi' : i < Q.length := by omega
        obtain ⟨b, off, cs, e, fz, rfl, hb, hcs⟩ := sl_get1 (h.ext hEx) hi'
        have hn := hM.2 _ (List.getElem_mem hi')
        generalize Q[i] = n at *
        obtain ⟨u9, a9, n9, c9, f7⟩ := hm.form
        rw [f7] at hm
        simp only [VS, VD, SV, SL, T, Nat.reduceEqDiff, Nat.reduceAdd, Nat.reduceSub, Nat.reduceMul, Nat.reduceLeDiff, Nat.reduceLT, reduceIte, f49, f51, Int.toNat_natCast, hb, hcs, f5, f2]
        refine ⟨by omega, by omega, ?_⟩
        refine (touch_spec hv hC n (by omega)).mono ?_
        rintro _ w7 ⟨F7, hC7, hm7⟩
        have hE7 := hm7.ext hEx hF
        have hF7 := hm7.above hEx.size hF
        have hM7 := hm.per (mv_hid hm7)
        simp only [VS, VD, SV, SL, T, Nat.reduceEqDiff, Nat.reduceAdd, Nat.reduceSub, Nat.reduceMul, Nat.reduceLeDiff, Nat.reduceLT, reduceIte, f7, stV]
        refine ⟨by omega, ?_⟩
        refine (VRet.hid (fun b hb => hC7.lt b hb) (Access_spec s y l hv (some m) (fun m' e => by cases e; exact hbd) _ n _ hM7)).mono ?_
        rintro v8 w8 ⟨w1h, ⟨hm8, hEh⟩, hper, _, _, hEE⟩
        have hE8 := hEE hEh
        have hM8 := hm8.per hper
        have e1 : accS s y (some m) n = some (accM s y m n) := by simp only [accS, Option.map_some]; rw [if_neg (by omega)]
        rw [e1] at hM8
        obtain ⟨u1, a1, n1, c1, rfl⟩ := hm8.form
        simp only [VS, VD, SV, SL, T, Nat.reduceEqDiff, Nat.reduceAdd, Nat.reduceSub, Nat.reduceMul, Nat.reduceLeDiff, Nat.reduceLT, reduceIte, f7, f51, stV]
        exact ⟨by omega, i + 1, ⟨f2, f5, f49, f50, by simp, by omega, hE7.trans hE8, _, F7, _, hM8, hbd.acc hp.2.2.1 hn.1, hC7.ext hE8, hF7, hH.add (by omega) _, hX.acc hv hH hn.1⟩, by omega⟩
      · have hmo := hm.per (hid_per F wo)
        obtain ⟨u9, a9, n9, c9, f7⟩ := hm.form
        rw [f7] at hmo
        simp only [VS, VD, SV, SL, T, Nat.reduceEqDiff, Nat.reduceAdd, Nat.reduceSub, Nat.reduceMul, Nat.reduceLeDiff, Nat.reduceLT, reduceIte, f5]
        refine (C.Lines_spec hC).mono ?_
        rintro v4 w7 ⟨hL, hE7⟩
        obtain ⟨a4, c4, rfl⟩ := hL.form
        rw [C.stS_len]
        rw [C.stS_len] at hL
        have hm7 := hmo.ext hE7
        simp only [VS, VD, SV, SL, T, Nat.reduceEqDiff, Nat.reduceAdd, Nat.reduceSub, Nat.reduceMul, Nat.reduceLeDiff, Nat.reduceLT, reduceIte]
        refine LoopP_intro (α := Nat) (fun i g w' => g 7 = stV s y l u9 (.slice a9 n9 c9) ∧ g 66 = .slice a4 s.toNat c4 ∧ g 67 = .int .i64 s.toNat ∧ g 68 = .int .i64 i ∧ i ≤ s.toNat ∧ g 11 = .int .i64 ((stS s y H).take i).flatten.length ∧ ((stS s y H).take i).flatten.length ≤ 8 * i ∧ Ext w7 w') (fun i => s.toNat - i) 0 ?_ ?_
        · simp only [VS, VD, SV, SL, T, Nat.reduceEqDiff, Nat.reduceAdd, Nat.reduceSub, Nat.reduceMul, Nat.reduceLeDiff, Nat.reduceLT, reduceIte, f7, stV]
          exact ⟨rfl, Nat.zero_le _, by simp, by simp, Ext.refl _⟩
        · rintro i g wp ⟨g7, g66, g67, g68, hi, g11, hcnt, hE8⟩
          simp only [VS, VD, SV, SL, T, Nat.reduceEqDiff, Nat.reduceAdd, Nat.reduceSub, Nat.reduceMul, Nat.reduceLeDiff, Nat.reduceLT, reduceIte, g68, g67]
          refine cnd_d (fun hlt2 => ?_) (fun hlt2 => ?_)
          · have hi' : i < s.toNat := by omega
            obtain ⟨b5, off5, cs5, e5, fz5, u5, rfl, _, hb5, hc5, hu5⟩ := (hL.ext hE8).get (C.stS_get (H := H) (y := y) hi')
            obtain ⟨a6, c6, rfl⟩ := hu5.form
            have hDl : ((dst (H i)).take y.toNat).length ≤ 8 := by have : ((dst (H i)).take y.toNat).length ≤ y.toNat := List.length_take_le ..; omega
            have htk : (stS s y H).take (i + 1) = (stS s y H).take i ++ [(dst (H i)).take y.toNat] := by
              have hil : i < (stS s y H).length := by rw [C.stS_len]; exact hi'
              rw [List.take_succ_eq_append_getElem hil]
              have := C.stS_get (H := H) (y := y) hi'
              rw [List.getElem?_eq_getElem hil, Option.some.injEq] at this
              rw [this]
            generalize hD : (dst (H i)).take y.toNat = D at *
            simp only [VS, VD, SV, SL, T, Nat.reduceEqDiff, Nat.reduceAdd, Nat.reduceSub, Nat.reduceMul, Nat.reduceLeDiff, Nat.reduceLT, reduceIte, g68, g66, hb5, Int.toNat_natCast, hc5]
            refine ⟨by omega, ?_⟩
            refine LoopP_intro (α := Nat) (fun j g w' => g 7 = stV s y l u9 (.slice a9 n9 c9) ∧ g 66 = .slice (some ⟨b5, off5, none⟩) s.toNat c4 ∧ g 67 = .int .i64 s.toNat ∧ g 68 = .int .i64 i ∧ g 72 = .slice a6 D.length c6 ∧ g 73 = .int .i64 D.length ∧ g 74 = .int .i64 j ∧ j ≤ D.length ∧ g 11 = .int .i64 (((stS s y H).take i).flatten.length + j) ∧ Ext wp w') (fun j => D.length - j) 0 ?_ ?_
            · simp only [VS, VD, SV, SL, T, Nat.reduceEqDiff, Nat.reduceAdd, Nat.reduceSub, Nat.reduceMul, Nat.reduceLeDiff, Nat.reduceLT, reduceIte, g7, g66, g67, g68, g11]
              exact ⟨rfl, Nat.zero_le _, by simp, Ext.refl _⟩
            · clear g7 g66 g67 g68 g11
              rintro j g wq ⟨g7, g66, g67, g68, g72, g73, g74, hj, g11, hE9⟩
              simp only [VS, VD, SV, SL, T, Nat.reduceEqDiff, Nat.reduceAdd, Nat.reduceSub, Nat.reduceMul, Nat.reduceLeDiff, Nat.reduceLT, reduceIte, g74, g73]
              refine cnd_d (fun hlt3 => ?_) (fun hlt3 => ?_)
              · have hj' : j < D.length := by omega
                obtain ⟨b7, off7, cs7, e7, fz7, rfl, _, hb7, hc7⟩ := (hu5.ext hE9).get (i := j) (x := D[j]) (by simp [hj'])
                have hage := hX.age hH hi' (j := j) (k := D[j]) (by rw [hD]; simp [hj'])
                simp only [VS, VD, SV, SL, T, Nat.reduceEqDiff, Nat.reduceAdd, Nat.reduceSub, Nat.reduceMul, Nat.reduceLeDiff, Nat.reduceLT, reduceIte, g74, g72, hb7, Int.toNat_natCast, hc7, g11, g7, stV]
                refine ⟨by omega, by omega, ?_⟩
                refine (Age_spec s y l hv (some m) _ D[j] wq (hm7.ext (hE8.trans hE9))).mono ?_
                rintro _ w10 ⟨rfl, hE10⟩
                rw [hage]
                simp only [VS, VD, SV, SL, T, Nat.reduceEqDiff, Nat.reduceAdd, Nat.reduceSub, Nat.reduceMul, Nat.reduceLeDiff, Nat.reduceLT, reduceIte, Bool.not_true, ne_eq, not_true_eq_false, decide_false, g74]
                exact ⟨by omega, j + 1, ⟨g7, g66, g67, g68, g72, g73, by simp, by omega, by simp only [Int.natCast_add, Int.add_assoc]; rfl, hE9.trans hE10⟩, by omega⟩
              · simp only [VS, VD, SV, SL, T, Nat.reduceEqDiff, Nat.reduceAdd, Nat.reduceSub, Nat.reduceMul, Nat.reduceLeDiff, Nat.reduceLT, reduceIte, g68]
                have hl2 : ((stS s y H).take (i + 1)).flatten.length = ((stS s y H).take i).flatten.length + D.length := by rw [htk]; simp
                refine ⟨by omega, i + 1, ⟨g7, g66, g67, by simp, by omega, ?_, by omega, hE8.trans hE9⟩, by omega⟩
                rw [g11, hl2, show j = D.length by omega]
                simp
          · rw [List.take_of_length_le (by rw [C.stS_len]; omega)] at g11
            obtain ⟨Ks, hKs, hKl⟩ := hX.keys hv hH
            simp only [VS, VD, SV, SL, T, Nat.reduceEqDiff, Nat.reduceAdd, Nat.reduceSub, Nat.reduceMul, Nat.reduceLeDiff, Nat.reduceLT, reduceIte, g7, stV]
            refine (mLines_spec s y l hv m Ks hKs _ wp (hm7.ext hE8)).mono ?_
            rintro _ w10 ⟨hE10, u, rfl, ho⟩
            obtain ⟨al, cl, rfl⟩ := own_form ho
            simp only [VS, VD, SV, SL, T, Nat.reduceEqDiff, Nat.reduceAdd, Nat.reduceSub, Nat.reduceMul, Nat.reduceLeDiff, Nat.reduceLT, reduceIte, g11]
            refine hΨ _ _ ⟨?_, ((hEx.trans hE7).trans hE8).trans hE10⟩
            rw [hKl, decide_eq_true rfl]
end Go.Proofs.Ytndkadphpbnpeaa

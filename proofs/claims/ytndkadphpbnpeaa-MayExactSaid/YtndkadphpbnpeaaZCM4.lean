/-
  May: a step of the statements, Describes, small.
-/
import Derived.Test.YtndkadphpbnpeaaZCM3
set_option linter.unusedSimpArgs false
set_option linter.unusedVariables false
namespace Go.Proofs.Ytndkadphpbnpeaa
open Go.W
def stepS (s y : Int) (M : Option (Int → Option Int)) (lo hi : Int) : Option (Int → Option Int) := if lo = hi then accS s y M lo else rngS s y M lo hi
theorem BdS.step {s y lo hi : Int} {M : Option (Int → Option Int)} (h : BdS y M) (hy : 1 ≤ y) : BdS y (stepS s y M lo hi) := by
  unfold stepS; split
  · exact h.acc hy
  · exact h.rng hy
def stpV (lo hi p : Int) : Value := .agg #[.int .i64 lo, .int .i64 hi, .int .u8 p]
set_option maxRecDepth 10000 in
theorem step_spec (s y l : Int) (hv : Geo s y l = true) (M : Option (Int → Option Int)) (hbd : BdS y M) (st : Value) (lo hi p : Int) (hlo : lo ≤ 1000000) (hhi : -1000000 ≤ hi ∧ hi ≤ 1000000) (w : World) (h : MayAt w st s y l M) :
    VRet Try.prog 18 #[st, stpV lo hi p] w fun v w' => MayAt w' v s y l (stepS s y M lo hi) ∧ Ext w w' := by
  obtain ⟨u, a, n, c, rfl⟩ := h.form
  refine VRet_start T.mo ok18 rfl fun Ψ hΨ => ?_; simp only [vc18, rs18]
  simp only [VS, VD, SV, SL, T, Nat.reduceEqDiff, Nat.reduceAdd, Nat.reduceSub, Nat.reduceMul, Nat.reduceLeDiff, Nat.reduceLT, reduceIte, stV, stpV]
  have hE := (((Ext.refl w).alloc tomb).alloc tomb).alloc tomb
  refine cnd_d (fun hc => ?_) (fun hc => ?_)
  · simp only [VS, VD, SV, SL, T, Nat.reduceEqDiff, Nat.reduceAdd, Nat.reduceSub, Nat.reduceMul, Nat.reduceLeDiff, Nat.reduceLT, reduceIte]
    refine (Access_spec s y l hv M hbd _ lo _ (h.ext hE)).mono ?_
    rintro v w2 ⟨hm2, hE2⟩
    obtain ⟨u2, a2, n2, c2, rfl⟩ := hm2.form
    simp only [VS, VD, SV, SL, T, Nat.reduceEqDiff, Nat.reduceAdd, Nat.reduceSub, Nat.reduceMul, Nat.reduceLeDiff, Nat.reduceLT, reduceIte, stV]
    refine hΨ _ _ ⟨?_, hE.trans hE2⟩
    simp only [stepS, hc, if_true]
    rw [hc] at hm2
    exact hm2
  · simp only [VS, VD, SV, SL, T, Nat.reduceEqDiff, Nat.reduceAdd, Nat.reduceSub, Nat.reduceMul, Nat.reduceLeDiff, Nat.reduceLT, reduceIte]
    refine (AccessRange_spec s y l hv M hbd _ lo hi hlo hhi _ (h.ext hE)).mono ?_
    rintro v w2 ⟨hm2, hE2⟩
    obtain ⟨u2, a2, n2, c2, rfl⟩ := hm2.form
    simp only [VS, VD, SV, SL, T, Nat.reduceEqDiff, Nat.reduceAdd, Nat.reduceSub, Nat.reduceMul, Nat.reduceLeDiff, Nat.reduceLT, reduceIte, stV]
    refine hΨ _ _ ⟨?_, hE.trans hE2⟩
    simp only [stepS, hc, if_false]
    exact hm2
def okL (M : Option (Int → Option Int)) (l : List Int) (n : Nat) : Prop := ∀ (j : Nat) (k : Int), j < n → l[j]? = some k → (ageM M k).2 = true ∧ (ageM M k).1 ≤ j
def DesP (M : Option (Int → Option Int)) (s : Int) (ll : List (List Int)) : Prop := (ll.length : Int) = s ∧ (M = none ∨ ∀ (i : Nat) (l : List Int), ll[i]? = some l → okL M l l.length)
set_option maxRecDepth 10000 in
theorem Describes_spec (s y l : Int) (hv : Geo s y l = true) (M : Option (Int → Option Int)) (st : Value) (lv : Value) (ll : List (List Int)) (hll : ll.length ≤ 1000000 ∧ ∀ l ∈ ll, l.length ≤ 1000000) (w : World) (h : MayAt w st s y l M) (hlv : IntssAt w lv ll) :
    VRet Try.prog 15 #[st, lv] w fun v w' => (∃ r : Bool, v = .bool r ∧ (r = true ↔ DesP M s ll)) ∧ Ext w w' := by
  have hp := Geo_spec hv
  obtain ⟨u, a, n, c, rfl⟩ := h.form
  obtain ⟨la, lc, rfl⟩ := hlv.form
  refine VRet_start T.mo ok15 rfl fun Ψ hΨ => ?_; simp only [vc15, rs15]
  simp only [VS, VD, SV, SL, T, Nat.reduceEqDiff, Nat.reduceAdd, Nat.reduceSub, Nat.reduceMul, Nat.reduceLeDiff, Nat.reduceLT, reduceIte, stV]
  have hE := (Ext.refl w).alloc tomb
  refine YG_d (fun hc => ?_) (fun hc => ?_)
  · have hs0 : ¬ s = 0 := by omega
    simp only [VS, VD, SV, SL, T, Nat.reduceEqDiff, Nat.reduceAdd, Nat.reduceSub, Nat.reduceMul, Nat.reduceLeDiff, Nat.reduceLT, reduceIte, hc, hs0]
    simp only [decide_eq_false_iff_not, Decidable.not_not] at hc
    refine cnd_b (fun hu => ?_) (fun hu => ?_)
    · simp only [VS, VD, SV, SL, T, Nat.reduceEqDiff, Nat.reduceAdd, Nat.reduceSub, Nat.reduceMul, Nat.reduceLeDiff, Nat.reduceLT, reduceIte]
      refine hΨ _ _ ⟨⟨true, rfl, ?_⟩, hE⟩
      simp only [true_iff]
      refine ⟨hc, .inl ?_⟩
      cases M with
      | none => rfl
      | some m => obtain ⟨_, _, _, _, e, _⟩ := h; simp [stV, hu] at e
    · simp only [VS, VD, SV, SL, T, Nat.reduceEqDiff, Nat.reduceAdd, Nat.reduceSub, Nat.reduceMul, Nat.reduceLeDiff, Nat.reduceLT, reduceIte]
      have hM : M ≠ none := by
        rintro rfl
        have : stV s y l u (Value.slice a n c) = _ := h
        simp [stV, hu] at this
      refine LoopP_intro (α := Nat) (fun i f' w' => f' 2 = stV s y l u (.slice a n c) ∧ f' 25 = .slice la ll.length lc ∧ f' 26 = .int .i64 ll.length ∧ f' 27 = .int .i64 i ∧ i ≤ ll.length ∧ Ext w w' ∧
        ∀ (i' : Nat) (l : List Int), i' < i → ll[i']? = some l → okL M l l.length) (fun i => ll.length - i) 0 ?_ ?_
      · simp only [VS, VD, SV, SL, T, Nat.reduceEqDiff, Nat.reduceAdd, Nat.reduceSub, Nat.reduceMul, Nat.reduceLeDiff, Nat.reduceLT, reduceIte, stV]
        exact ⟨rfl, by omega, hE, by simp⟩
      · rintro i f' w' ⟨f2, f25, f26, f27, hile, hEx, hok⟩
        simp only [VS, VD, SV, SL, T, Nat.reduceEqDiff, Nat.reduceAdd, Nat.reduceSub, Nat.reduceMul, Nat.reduceLeDiff, Nat.reduceLT, reduceIte, f26, f27]
        refine cnd_d (fun hlt => ?_) (fun hlt => ?_)
        · have hi : i < ll.length := by omega
          obtain ⟨b, off, cs, e, fz, u1, rfl, _, hb, hcs, hints⟩ := hlv.get (List.getElem?_eq_getElem hi)
          have hb := hEx.obj hb
          obtain ⟨a1, c1, rfl⟩ := hints.form
          have hlen := hll.2 _ (List.getElem_mem hi)
          simp only [VS, VD, SV, SL, T, Nat.reduceEqDiff, Nat.reduceAdd, Nat.reduceSub, Nat.reduceMul, Nat.reduceLeDiff, Nat.reduceLT, reduceIte, f25, f27, Int.toNat_natCast, hb, hcs]
          refine ⟨by omega, ?_⟩
          refine LoopP_intro (α := Nat) (fun j f' w' => f' 2 = stV s y l u (.slice a n c) ∧ f' 25 = .slice (some ⟨b, off, none⟩) ll.length lc ∧ f' 26 = .int .i64 ll.length ∧ f' 27 = .int .i64 i ∧
            f' 31 = .slice a1 ll[i].length c1 ∧ f' 32 = .int .i64 ll[i].length ∧ f' 33 = .int .i64 j ∧ j ≤ ll[i].length ∧ Ext w w' ∧ okL M ll[i] j) (fun j => ll[i].length - j) 0 ?_ ?_
          · simp only [VS, VD, SV, SL, T, Nat.reduceEqDiff, Nat.reduceAdd, Nat.reduceSub, Nat.reduceMul, Nat.reduceLeDiff, Nat.reduceLT, reduceIte, f2, f25, f26, f27]
            exact ⟨rfl, by omega, hEx, fun j k hj => by omega⟩
          · rintro j f' w2 ⟨f2, f25, f26, f27, f31, f32, f33, hjle, hEx2, hokj⟩
            simp only [VS, VD, SV, SL, T, Nat.reduceEqDiff, Nat.reduceAdd, Nat.reduceSub, Nat.reduceMul, Nat.reduceLeDiff, Nat.reduceLT, reduceIte, f32, f33]
            refine cnd_d (fun hlt2 => ?_) (fun hlt2 => ?_)
            · have hj : j < ll[i].length := by omega
              obtain ⟨b2, off2, cs2, e2, fz2, rfl, _, hb2, hcs2⟩ := (hints.ext hEx2).get (List.getElem?_eq_getElem hj)
              simp only [VS, VD, SV, SL, T, Nat.reduceEqDiff, Nat.reduceAdd, Nat.reduceSub, Nat.reduceMul, Nat.reduceLeDiff, Nat.reduceLT, reduceIte, f31, f33, Int.toNat_natCast, hb2, hcs2, f2, stV]
              refine ⟨by omega, (Age_spec s y l hv M _ ll[i][j] _ (h.ext hEx2)).mono ?_⟩
              rintro _ w3 ⟨rfl, hE3⟩
              simp only [VS, VD, SV, SL, T, Nat.reduceEqDiff, Nat.reduceAdd, Nat.reduceSub, Nat.reduceMul, Nat.reduceLeDiff, Nat.reduceLT, reduceIte]
              cases hage : (ageM M ll[i][j]).2 with
              | false =>
                simp only [VS, VD, SV, SL, T, Nat.reduceEqDiff, Nat.reduceAdd, Nat.reduceSub, Nat.reduceMul, Nat.reduceLeDiff, Nat.reduceLT, reduceIte]
                refine hΨ _ _ ⟨⟨false, rfl, ?_⟩, hEx2.trans hE3⟩
                simp only [Bool.false_eq_true, false_iff]
                rintro ⟨_, hd | hd⟩
                · exact hM hd
                · have := (hd i _ (List.getElem?_eq_getElem hi) j _ hj (List.getElem?_eq_getElem hj)).1
                  rw [hage] at this
                  simp at this
              | true =>
                simp only [VS, VD, SV, SL, T, Nat.reduceEqDiff, Nat.reduceAdd, Nat.reduceSub, Nat.reduceMul, Nat.reduceLeDiff, Nat.reduceLT, reduceIte]
                refine cnd_d (fun hgt => ?_) (fun hgt => ?_)
                · simp only [VS, VD, SV, SL, T, Nat.reduceEqDiff, Nat.reduceAdd, Nat.reduceSub, Nat.reduceMul, Nat.reduceLeDiff, Nat.reduceLT, reduceIte]
                  refine hΨ _ _ ⟨⟨false, rfl, ?_⟩, hEx2.trans hE3⟩
                  simp only [Bool.false_eq_true, false_iff]
                  rintro ⟨_, hd | hd⟩
                  · exact hM hd
                  · have := (hd i _ (List.getElem?_eq_getElem hi) j _ hj (List.getElem?_eq_getElem hj)).2
                    omega
                · simp only [VS, VD, SV, SL, T, Nat.reduceEqDiff, Nat.reduceAdd, Nat.reduceSub, Nat.reduceMul, Nat.reduceLeDiff, Nat.reduceLT, reduceIte, f33]
                  refine ⟨by omega, j + 1, ⟨f2, f25, f26, f27, f31, f32, by simp, by omega, hEx2.trans hE3, ?_⟩, by omega⟩
                  intro j' k hj' hk
                  by_cases e : j' < j
                  · exact hokj j' k e hk
                  · obtain rfl : j' = j := by omega
                    rw [List.getElem?_eq_getElem hj] at hk
                    simp only [Option.some.injEq] at hk
                    subst hk
                    exact ⟨hage, by omega⟩
            · simp only [VS, VD, SV, SL, T, Nat.reduceEqDiff, Nat.reduceAdd, Nat.reduceSub, Nat.reduceMul, Nat.reduceLeDiff, Nat.reduceLT, reduceIte, f27]
              refine ⟨by omega, i + 1, ⟨f2, f25, f26, by simp, by omega, hEx2, ?_⟩, by omega⟩
              intro i' l' hi' hl'
              by_cases e : i' < i
              · exact hok i' l' e hl'
              · obtain rfl : i' = i := by omega
                rw [List.getElem?_eq_getElem hi] at hl'
                simp only [Option.some.injEq] at hl'
                subst hl'
                have : j = ll[i'].length := by omega
                rw [← this]
                exact hokj
        · simp only [VS, VD, SV, SL, T, Nat.reduceEqDiff, Nat.reduceAdd, Nat.reduceSub, Nat.reduceMul, Nat.reduceLeDiff, Nat.reduceLT, reduceIte]
          refine hΨ _ _ ⟨⟨true, rfl, ?_⟩, hEx⟩
          simp only [true_iff]
          exact ⟨hc, .inr fun i' l hl => hok i' l (by have := (List.getElem?_eq_some_iff.1 hl).1; omega) hl⟩
  · simp only [VS, VD, SV, SL, T, Nat.reduceEqDiff, Nat.reduceAdd, Nat.reduceSub, Nat.reduceMul, Nat.reduceLeDiff, Nat.reduceLT, reduceIte, hc]
    refine hΨ _ _ ⟨⟨false, rfl, ?_⟩, hE⟩
    simp only [Bool.not_false, decide_eq_true_eq] at hc
    simp [DesP, hc]
structure Stp where
  lo : Int
  hi : Int
  pick : Int
def stpR (x : Stp) : List Value := [.int .i64 x.lo, .int .i64 x.hi, .int .u8 x.pick]
def StpsAt (w : World) (v : Value) (L : List Stp) : Prop := SlAt w v 3 (L.map stpR)
theorem StpsAt.ext {w w' : World} {v : Value} {L : List Stp} (h : StpsAt w v L) (hE : Ext w w') : StpsAt w' v L := SlAt.ext h hE
theorem StpsAt.form {w : World} {v : Value} {L : List Stp} (h : StpsAt w v L) : ∃ a c, v = .slice a L.length c := by
  obtain ⟨a, c, h⟩ := SlAt.form h; exact ⟨a, c, by rw [h]; simp⟩
theorem StpsAt.get {w : World} {L : List Stp} {a : Option Addr} {n c : Nat} (h : StpsAt w (.slice a n c) L) {i : Nat} (hi : i < L.length) :
    ∃ b off cs e fz, a = some ⟨b, off, none⟩ ∧ w.heap[b]? = some (.cells cs e fz) ∧ off + (i * 3 + 3) ≤ cs.size ∧ cs.extract (off + i * 3) (off + (i * 3 + 3)) = #[.int .i64 L[i].lo, .int .i64 L[i].hi, .int .u8 L[i].pick] := by
  obtain ⟨b, off, cs, e, fz, h1, _, h3, h4, h5⟩ := SlAt.get h (i := i) (r := stpR L[i]) (by simp [hi])
  exact ⟨b, off, cs, e, fz, h1, h3, h4, h5⟩
def near (x : Stp) : Prop := -4000 ≤ x.lo ∧ x.lo ≤ 4000 ∧ -4000 ≤ x.hi ∧ x.hi ≤ 4000
def smP (s y l : Int) (L : List Stp) : Prop := Geo s y l = true ∧ s ≤ 16 ∧ L.length ≤ 40 ∧ ∀ x ∈ L, near x
set_option maxRecDepth 10000 in
theorem small_spec (s y l : Int) (lv : Value) (L : List Stp) (w : World) (h : StpsAt w lv L) :
    VRet Try.prog 12 #[cfgV s y l, lv] w fun v w' => (∃ r : Bool, v = .bool r ∧ (r = true ↔ smP s y l L)) ∧ Ext w w' := by
  obtain ⟨la, lc, rfl⟩ := h.form
  refine VRet_start T.mo ok12 rfl fun Ψ hΨ => ?_; simp only [vc12, rs12]
  simp only [VS, VD, SV, SL, T, Nat.reduceEqDiff, Nat.reduceAdd, Nat.reduceSub, Nat.reduceMul, Nat.reduceLeDiff, Nat.reduceLT, reduceIte, cfgV]
  refine (Valid_spec s y l _).mono ?_
  rintro _ w1 ⟨rfl, hE⟩
  replace hE := ((Ext.refl w).alloc _).trans hE
  simp only [VS, VD, SV, SL, T, Nat.reduceEqDiff, Nat.reduceAdd, Nat.reduceSub, Nat.reduceMul, Nat.reduceLeDiff, Nat.reduceLT, reduceIte]
  refine YG_b (fun hc => ?_) (fun hc => ?_)
  · simp only [VS, VD, SV, SL, T, Nat.reduceEqDiff, Nat.reduceAdd, Nat.reduceSub, Nat.reduceMul, Nat.reduceLeDiff, Nat.reduceLT, reduceIte, hc]
    simp only [Bool.not_eq_false'] at hc
    have hp := Geo_spec hc
    refine YG_d (fun hs => ?_) (fun hs => ?_)
    · have hy : ¬ 16 < y := by omega
      simp only [VS, VD, SV, SL, T, Nat.reduceEqDiff, Nat.reduceAdd, Nat.reduceSub, Nat.reduceMul, Nat.reduceLeDiff, Nat.reduceLT, reduceIte, hs, hy]
      simp only [decide_eq_false_iff_not] at hs
      refine cnd_d (fun hl => ?_) (fun hl => ?_)
      · simp only [VS, VD, SV, SL, T, Nat.reduceEqDiff, Nat.reduceAdd, Nat.reduceSub, Nat.reduceMul, Nat.reduceLeDiff, Nat.reduceLT, reduceIte]
        exact hΨ _ _ ⟨⟨false, rfl, by simp only [Bool.false_eq_true, false_iff, smP]; omega⟩, hE⟩
      · simp only [VS, VD, SV, SL, T, Nat.reduceEqDiff, Nat.reduceAdd, Nat.reduceSub, Nat.reduceMul, Nat.reduceLeDiff, Nat.reduceLT, reduceIte]
        refine LoopP_intro (α := Nat) (fun i f' w' => f' 25 = .slice la L.length lc ∧ f' 26 = .int .i64 L.length ∧ f' 27 = .int .i64 i ∧ i ≤ L.length ∧ Ext w w' ∧ ∀ (j : Nat) x, j < i → L[j]? = some x → near x) (fun i => L.length - i) 0 ?_ ?_
        · simp only [VS, VD, SV, SL, T, Nat.reduceEqDiff, Nat.reduceAdd, Nat.reduceSub, Nat.reduceMul, Nat.reduceLeDiff, Nat.reduceLT, reduceIte]
          exact ⟨rfl, by omega, hE, by simp⟩
        · rintro i f' w' ⟨f25, f26, f27, hile, hEx, hok⟩
          simp only [VS, VD, SV, SL, T, Nat.reduceEqDiff, Nat.reduceAdd, Nat.reduceSub, Nat.reduceMul, Nat.reduceLeDiff, Nat.reduceLT, reduceIte, f26, f27]
          refine cnd_d (fun hlt => ?_) (fun hlt => ?_)
          · have hi : i < L.length := by omega
            obtain ⟨b, off, cs, e, fz, rfl, hb, hle, hext⟩ := (h.ext hEx).get hi
            simp only [VS, VD, SV, SL, T, Nat.reduceEqDiff, Nat.reduceAdd, Nat.reduceSub, Nat.reduceMul, Nat.reduceLeDiff, Nat.reduceLT, reduceIte, f25, f27, Int.toNat_natCast, hb, hle, hext]
            refine ⟨by omega, ?_⟩
            have hEn := hEx.alloc tomb
            have hbad : ¬ near L[i] → (false = true ↔ smP s y l L) := by
              intro hn
              simp only [Bool.false_eq_true, false_iff, smP]
              rintro ⟨_, _, _, hall⟩
              exact hn (hall _ (List.getElem_mem hi))
            refine YG_d (fun a1 => ?_) (fun a1 => ?_)
            · simp only [VS, VD, SV, SL, T, Nat.reduceEqDiff, Nat.reduceAdd, Nat.reduceSub, Nat.reduceMul, Nat.reduceLeDiff, Nat.reduceLT, reduceIte, a1]
              refine YG_d (fun a2 => ?_) (fun a2 => ?_)
              · simp only [VS, VD, SV, SL, T, Nat.reduceEqDiff, Nat.reduceAdd, Nat.reduceSub, Nat.reduceMul, Nat.reduceLeDiff, Nat.reduceLT, reduceIte, a1, a2]
                refine YG_d (fun a3 => ?_) (fun a3 => ?_)
                · simp only [VS, VD, SV, SL, T, Nat.reduceEqDiff, Nat.reduceAdd, Nat.reduceSub, Nat.reduceMul, Nat.reduceLeDiff, Nat.reduceLT, reduceIte, a1, a2, a3]
                  simp only [decide_eq_false_iff_not] at a1 a2 a3
                  refine cnd_d (fun a4 => ?_) (fun a4 => ?_)
                  · simp only [VS, VD, SV, SL, T, Nat.reduceEqDiff, Nat.reduceAdd, Nat.reduceSub, Nat.reduceMul, Nat.reduceLeDiff, Nat.reduceLT, reduceIte]
                    exact hΨ _ _ ⟨⟨false, rfl, hbad (by unfold near; omega)⟩, hEn⟩
                  · simp only [VS, VD, SV, SL, T, Nat.reduceEqDiff, Nat.reduceAdd, Nat.reduceSub, Nat.reduceMul, Nat.reduceLeDiff, Nat.reduceLT, reduceIte, f27]
                    refine ⟨by omega, i + 1, ⟨f25, f26, by simp, by omega, hEn, ?_⟩, by omega⟩
                    intro j x hj hx
                    by_cases e : j < i
                    · exact hok j x e hx
                    · obtain rfl : j = i := by omega
                      rw [List.getElem?_eq_getElem hi] at hx
                      simp only [Option.some.injEq] at hx
                      subst hx
                      unfold near; omega
                · simp only [VS, VD, SV, SL, T, Nat.reduceEqDiff, Nat.reduceAdd, Nat.reduceSub, Nat.reduceMul, Nat.reduceLeDiff, Nat.reduceLT, reduceIte, a1, a2, a3]
                  simp only [Bool.not_false, decide_eq_true_eq] at a3
                  exact hΨ _ _ ⟨⟨false, rfl, hbad (by unfold near; omega)⟩, hEn⟩
              · simp only [VS, VD, SV, SL, T, Nat.reduceEqDiff, Nat.reduceAdd, Nat.reduceSub, Nat.reduceMul, Nat.reduceLeDiff, Nat.reduceLT, reduceIte, a1, a2]
                simp only [Bool.not_false, decide_eq_true_eq] at a2
                exact hΨ _ _ ⟨⟨false, rfl, hbad (by unfold near; omega)⟩, hEn⟩
            · simp only [VS, VD, SV, SL, T, Nat.reduceEqDiff, Nat.reduceAdd, Nat.reduceSub, Nat.reduceMul, Nat.reduceLeDiff, Nat.reduceLT, reduceIte, a1]
              simp only [Bool.not_false, decide_eq_true_eq] at a1
              exact hΨ _ _ ⟨⟨false, rfl, hbad (by unfold near; omega)⟩, hEn⟩
          · simp only [VS, VD, SV, SL, T, Nat.reduceEqDiff, Nat.reduceAdd, Nat.reduceSub, Nat.reduceMul, Nat.reduceLeDiff, Nat.reduceLT, reduceIte]
            refine hΨ _ _ ⟨⟨true, rfl, ?_⟩, hEx⟩
            simp only [true_iff]
            refine ⟨hc, by omega, by omega, fun x hx => ?_⟩
            obtain ⟨j, hj, rfl⟩ := List.getElem_of_mem hx
            exact hok j _ (by omega) (List.getElem?_eq_getElem hj)
    · simp only [VS, VD, SV, SL, T, Nat.reduceEqDiff, Nat.reduceAdd, Nat.reduceSub, Nat.reduceMul, Nat.reduceLeDiff, Nat.reduceLT, reduceIte, hs]
      simp only [Bool.not_false, decide_eq_true_eq] at hs
      exact hΨ _ _ ⟨⟨false, rfl, by simp only [Bool.false_eq_true, false_iff, smP]; omega⟩, hE⟩
  · simp only [VS, VD, SV, SL, T, Nat.reduceEqDiff, Nat.reduceAdd, Nat.reduceSub, Nat.reduceMul, Nat.reduceLeDiff, Nat.reduceLT, reduceIte, hc]
    simp only [Bool.not_false, Bool.not_eq_true'] at hc
    exact hΨ _ _ ⟨⟨false, rfl, by simp [smP, hc]⟩, hE⟩
end Go.Proofs.Ytndkadphpbnpeaa

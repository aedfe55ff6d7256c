/-
  The reference for may: Describes; the statements' 'after'.
-/
import Derived.Test.YtndkadphpbnpeaaZCP1
set_option linter.unusedSimpArgs false
set_option linter.unusedVariables false
namespace Go.Proofs.Ytndkadphpbnpeaa
open Go.W
def okR (L : List (Int × Int)) (l : List Int) (n : Nat) : Prop := ∀ (j : Nat) (k : Int), j < n → l[j]? = some k → 0 ≤ rAge L k ∧ rAge L k ≤ j
def DesR (u : Bool) (L : List (Int × Int)) (s : Int) (ll : List (List Int)) : Prop := (ll.length : Int) = s ∧ (u = true ∨ ∀ (i : Nat) (l : List Int), ll[i]? = some l → okR L l l.length)
set_option maxRecDepth 10000 in
theorem rDescribes_spec (s y l : Int) (u : Bool) (L : List (Int × Int)) (hL : L.length ≤ 1000000) (st : Value) (lv : Value) (ll : List (List Int)) (hll : ll.length ≤ 1000000 ∧ ∀ l ∈ ll, l.length ≤ 1000000) (w : World) (h : RefAt w st s y l u L) (hlv : IntssAt w lv ll) :
    VRet Try.prog 16 #[st, lv] w fun v w' => (∃ r : Bool, v = .bool r ∧ (r = true ↔ DesR u L s ll)) ∧ Ext w w' := by
  obtain ⟨a, c, rfl⟩ := h.form
  obtain ⟨la, lc, rfl⟩ := hlv.form
  refine VRet_start T.mo ok16 rfl fun Ψ hΨ => ?_; simp only [vc16, rs16]
  simp only [VS, VD, SV, SL, T, Nat.reduceEqDiff, Nat.reduceAdd, Nat.reduceSub, Nat.reduceMul, Nat.reduceLeDiff, Nat.reduceLT, reduceIte, stV]
  have hE := (Ext.refl w).alloc tomb
  refine cnd_d (fun hc => ?_) (fun hc => ?_)
  · simp only [VS, VD, SV, SL, T, Nat.reduceEqDiff, Nat.reduceAdd, Nat.reduceSub, Nat.reduceMul, Nat.reduceLeDiff, Nat.reduceLT, reduceIte]
    exact hΨ _ _ ⟨⟨false, rfl, by simp only [Bool.false_eq_true, false_iff, DesR]; exact fun h => hc h.1⟩, hE⟩
  · simp only [Decidable.not_not] at hc
    simp only [VS, VD, SV, SL, T, Nat.reduceEqDiff, Nat.reduceAdd, Nat.reduceSub, Nat.reduceMul, Nat.reduceLeDiff, Nat.reduceLT, reduceIte]
    refine LoopP_intro (α := Nat) (fun i f' w' => f' 1 = .slice la ll.length lc ∧ f' 2 = stV s y l u (.slice a L.length c) ∧ f' 5 = .int .i64 i ∧ i ≤ ll.length ∧ Ext w w' ∧
        ∀ (i' : Nat) (l : List Int), u = false → i' < i → ll[i']? = some l → okR L l l.length) (fun i => ll.length - i) 0 ?_ ?_
    · simp only [VS, VD, SV, SL, T, Nat.reduceEqDiff, Nat.reduceAdd, Nat.reduceSub, Nat.reduceMul, Nat.reduceLeDiff, Nat.reduceLT, reduceIte, stV]
      exact ⟨rfl, by omega, hE, by simp⟩
    · rintro i f' w' ⟨f1, f2, f5, hile, hEx, hok⟩
      simp only [VS, VD, SV, SL, T, Nat.reduceEqDiff, Nat.reduceAdd, Nat.reduceSub, Nat.reduceMul, Nat.reduceLeDiff, Nat.reduceLT, reduceIte, f1, f5]
      refine cnd_d (fun hlt => ?_) (fun hlt => ?_)
      · have hi : i < ll.length := by omega
        obtain ⟨b, off, cs, e, fz, u1, rfl, _, hb, hcs, hints⟩ := hlv.get (List.getElem?_eq_getElem hi)
        obtain ⟨a1, c1, rfl⟩ := hints.form
        have hlen := hll.2 _ (List.getElem_mem hi)
        simp only [VS, VD, SV, SL, T, Nat.reduceEqDiff, Nat.reduceAdd, Nat.reduceSub, Nat.reduceMul, Nat.reduceLeDiff, Nat.reduceLT, reduceIte]
        refine LoopP_intro (α := Nat) (fun j f' w' => f' 1 = .slice (some ⟨b, off, none⟩) ll.length lc ∧ f' 2 = stV s y l u (.slice a L.length c) ∧ f' 5 = .int .i64 i ∧ f' 6 = .int .i64 j ∧ j ≤ ll[i].length ∧ Ext w w' ∧ (u = false → okR L ll[i] j)) (fun j => ll[i].length - j) 0 ?_ ?_
        · simp only [VS, VD, SV, SL, T, Nat.reduceEqDiff, Nat.reduceAdd, Nat.reduceSub, Nat.reduceMul, Nat.reduceLeDiff, Nat.reduceLT, reduceIte, f1, f2, f5]
          exact ⟨rfl, by omega, hEx, fun _ j k hj => by omega⟩
        · rintro j f' w2 ⟨f1, f2, f5, f6, hjle, hEx2, hokj⟩
          have hb2 := hEx2.obj hb
          simp only [VS, VD, SV, SL, T, Nat.reduceEqDiff, Nat.reduceAdd, Nat.reduceSub, Nat.reduceMul, Nat.reduceLeDiff, Nat.reduceLT, reduceIte, f1, f5, f6, Int.toNat_natCast, hb2, hcs]
          refine ⟨by omega, cnd_d (fun hlt2 => ?_) (fun hlt2 => ?_)⟩
          · have hj : j < ll[i].length := by omega
            obtain ⟨b3, off3, cs3, e3, fz3, rfl, _, hb3, hcs3⟩ := (hints.ext hEx2).get (List.getElem?_eq_getElem hj)
            refine DW_intro (fun _ _ v _ => True) ?_
            simp only [VS, VD, SV, SL, T, Nat.reduceEqDiff, Nat.reduceAdd, Nat.reduceSub, Nat.reduceMul, Nat.reduceLeDiff, Nat.reduceLT, reduceIte, f1, f2, f5, f6, stV, Int.toNat_natCast, hb2, hcs, hb3, hcs3]
            refine ⟨by omega, by omega, fun w3 hE3 _ => ?_⟩
            simp only [VS, VD, SV, SL, T, Nat.reduceEqDiff, Nat.reduceAdd, Nat.reduceSub, Nat.reduceMul, Nat.reduceLeDiff, Nat.reduceLT, reduceIte]
            refine (rAge_spec s y l u L hL _ _ w3 (h.ext (hEx2.trans hE3))).mono ?_
            rintro _ w4 ⟨rfl, hE4⟩
            replace hE3 := hE3.trans hE4
            simp only [VS, VD, SV, SL, T, Nat.reduceEqDiff, Nat.reduceAdd, Nat.reduceSub, Nat.reduceMul, Nat.reduceLeDiff, Nat.reduceLT, reduceIte]
            cases u with
            | true =>
              simp only [VS, VD, SV, SL, T, Nat.reduceEqDiff, Nat.reduceAdd, Nat.reduceSub, Nat.reduceMul, Nat.reduceLeDiff, Nat.reduceLT, reduceIte, f2, stV, Bool.not_true, f6]
              exact ⟨by omega, j + 1, ⟨f1, f5, by simp, by omega, hEx2.trans hE3, by simp⟩, by omega⟩
            | false =>
              simp only [VS, VD, SV, SL, T, Nat.reduceEqDiff, Nat.reduceAdd, Nat.reduceSub, Nat.reduceMul, Nat.reduceLeDiff, Nat.reduceLT, reduceIte, f2, stV, Bool.not_false, f6]
              have hgo : 0 ≤ rAge L ll[i][j] → rAge L ll[i][j] ≤ j → false = false → okR L ll[i] (j + 1) := by
                intro h1 h2 hu j' k hj' hk
                by_cases e : j' < j
                · exact hokj hu j' k e hk
                · obtain rfl : j' = j := by omega
                  rw [List.getElem?_eq_getElem hj] at hk
                  simp only [Option.some.injEq] at hk
                  subst hk
                  exact ⟨h1, h2⟩
              have hbad : ¬ (0 ≤ rAge L ll[i][j] ∧ rAge L ll[i][j] ≤ j) → (false = true ↔ DesR false L s ll) := by
                intro hn
                simp only [Bool.false_eq_true, false_iff, DesR, false_or]
                rintro ⟨_, hd⟩
                exact hn (hd i _ (List.getElem?_eq_getElem hi) j _ hj (List.getElem?_eq_getElem hj))
              refine YG_d (fun hd => ?_) (fun hd => ?_)
              · have hd0 : ¬ rAge L ll[i][j] < 0 := by simpa using hd
                simp only [VS, VD, SV, SL, T, Nat.reduceEqDiff, Nat.reduceAdd, Nat.reduceSub, Nat.reduceMul, Nat.reduceLeDiff, Nat.reduceLT, reduceIte, hd, f6]
                refine cnd_d (fun hg => ?_) (fun hg => ?_)
                · simp only [VS, VD, SV, SL, T, Nat.reduceEqDiff, Nat.reduceAdd, Nat.reduceSub, Nat.reduceMul, Nat.reduceLeDiff, Nat.reduceLT, reduceIte]
                  exact hΨ _ _ ⟨⟨false, rfl, hbad (by omega)⟩, hEx2.trans hE3⟩
                · simp only [VS, VD, SV, SL, T, Nat.reduceEqDiff, Nat.reduceAdd, Nat.reduceSub, Nat.reduceMul, Nat.reduceLeDiff, Nat.reduceLT, reduceIte, f6]
                  exact ⟨by omega, j + 1, ⟨f1, by rw [f2]; rfl, f5, by simp, by omega, hEx2.trans hE3, by simpa using hgo (by omega) (by omega)⟩, by omega⟩
              · have hd0 : rAge L ll[i][j] < 0 := by simpa using hd
                simp only [VS, VD, SV, SL, T, Nat.reduceEqDiff, Nat.reduceAdd, Nat.reduceSub, Nat.reduceMul, Nat.reduceLeDiff, Nat.reduceLT, reduceIte, hd]
                exact hΨ _ _ ⟨⟨false, rfl, hbad (by omega)⟩, hEx2.trans hE3⟩
          · simp only [VS, VD, SV, SL, T, Nat.reduceEqDiff, Nat.reduceAdd, Nat.reduceSub, Nat.reduceMul, Nat.reduceLeDiff, Nat.reduceLT, reduceIte, f5]
            refine ⟨by omega, i + 1, ⟨f1, f2, by simp, by omega, hEx2, ?_⟩, by omega⟩
            intro i' l' hu hi' hl'
            by_cases e : i' < i
            · exact hok i' l' hu e hl'
            · obtain rfl : i' = i := by omega
              rw [List.getElem?_eq_getElem hi] at hl'
              simp only [Option.some.injEq] at hl'
              subst hl'
              have : j = ll[i'].length := by omega
              rw [← this]
              exact hokj hu
      · simp only [VS, VD, SV, SL, T, Nat.reduceEqDiff, Nat.reduceAdd, Nat.reduceSub, Nat.reduceMul, Nat.reduceLeDiff, Nat.reduceLT, reduceIte]
        refine hΨ _ _ ⟨⟨true, rfl, ?_⟩, hEx⟩
        simp only [true_iff]
        refine ⟨hc, ?_⟩
        cases u with
        | true => exact .inl rfl
        | false => exact .inr fun i' l hl => hok i' l rfl (by have := (List.getElem?_eq_some_iff.1 hl).1; omega) hl
def runS (s y : Int) (L : List Stp) : Option (Int → Option Int) := L.foldl (fun M x => stepS s y M x.lo x.hi) (some fun _ => none)
def runR (s y : Int) (L : List Stp) : Bool × List (Int × Int) := L.foldl (fun r x => stepR s y r x.lo x.hi) (false, [])
theorem runS_snoc (s y : Int) (L : List Stp) (x : Stp) : runS s y (L ++ [x]) = stepS s y (runS s y L) x.lo x.hi := by simp [runS, List.foldl_append]
theorem runR_snoc (s y : Int) (L : List Stp) (x : Stp) : runR s y (L ++ [x]) = stepR s y (runR s y L) x.lo x.hi := by simp [runR, List.foldl_append]
theorem foldS_bd {s y : Int} (hy : 1 ≤ y) : ∀ (L : List Stp) (M : Option (Int → Option Int)), BdS y M → BdS y (L.foldl (fun M x => stepS s y M x.lo x.hi) M) := by
  intro L
  induction L with
  | nil => intro M h; exact h
  | cons x L ih => intro M h; exact ih _ (h.step hy)
theorem BdS_empty (y : Int) : BdS y (some fun _ => none) := by
  intro m hm; simp only [Option.some.injEq] at hm; subst hm; intro j b hj; simp at hj
theorem runS_bd {s y : Int} (hy : 1 ≤ y) (L : List Stp) : BdS y (runS s y L) := foldS_bd hy L _ (BdS_empty y)
theorem run_same_aux {s y : Int} (hy : 1 ≤ y) : ∀ (L : List Stp) (M : Option (Int → Option Int)) (r : Bool × List (Int × Int)), BdS y M → Same M r →
    Same (L.foldl (fun M x => stepS s y M x.lo x.hi) M) (L.foldl (fun r x => stepR s y r x.lo x.hi) r) := by
  intro L
  induction L with
  | nil => intro M r hb h; exact h
  | cons x L ih => intro M r hb h; exact ih _ _ (hb.step hy) (h.step hy hb x.lo x.hi)
theorem run_same {s y : Int} (hy : 1 ≤ y) (L : List Stp) : Same (runS s y L) (runR s y L) :=
  run_same_aux hy L _ _ (BdS_empty y) ⟨rfl, List.Pairwise.nil, by simp⟩
theorem runR_len_aux (s y : Int) : ∀ (L : List Stp) (r : Bool × List (Int × Int)), (L.foldl (fun r x => stepR s y r x.lo x.hi) r).2.length ≤ r.2.length + 64 * L.length := by
  intro L
  induction L with
  | nil => intro r; simp
  | cons x L ih => intro r; have h1 := ih (stepR s y r x.lo x.hi); have h2 := stepR_len s y r x.lo x.hi; simp only [List.foldl_cons, List.length_cons]; omega
theorem runR_len (s y : Int) (L : List Stp) : (runR s y L).2.length ≤ 64 * L.length := by
  have := runR_len_aux s y L (false, []); simpa [runR] using this
theorem Same.bd {y : Int} {M : Option (Int → Option Int)} {r : Bool × List (Int × Int)} (h : Same M r) (hb : BdS y M) : r.1 = false → BdL y r.2 := by
  cases M with
  | none => intro e; have : r.1 = true := h; rw [this] at e; simp at e
  | some m => intro _; exact h.2.bd (hb m rfl)
set_option maxRecDepth 10000 in
theorem after_spec (s y l : Int) (lv : Value) (L : List Stp) (hsm : smP s y l L) (w : World) (h : StpsAt w lv L) :
    VRet Try.prog 13 #[cfgV s y l, lv] w fun v w' => (∃ a b, v = .tuple #[a, b] ∧ MayAt w' a s y l (runS s y L) ∧ RefAt w' b s y l (runR s y L).1 (runR s y L).2) ∧ Ext w w' := by
  obtain ⟨hv, hs16, hL40, hnear⟩ := hsm
  have hp := Geo_spec hv
  obtain ⟨la, lc, rfl⟩ := h.form
  refine VRet_start T.mo ok13 rfl fun Ψ hΨ => ?_; simp only [vc13, rs13]
  simp only [VS, VD, SV, SL, T, Nat.reduceEqDiff, Nat.reduceAdd, Nat.reduceSub, Nat.reduceMul, Nat.reduceLeDiff, Nat.reduceLT, reduceIte, cfgV]
  refine (New_spec s y l hv _).mono ?_
  rintro _ w1 ⟨⟨st, rfl, hm⟩, hE⟩
  replace hE := ((((Ext.refl w).alloc _).alloc _).alloc _).trans hE
  obtain ⟨u0, a0, n0, c0, rfl⟩ := hm.form
  simp only [VS, VD, SV, SL, T, Nat.reduceEqDiff, Nat.reduceAdd, Nat.reduceSub, Nat.reduceMul, Nat.reduceLeDiff, Nat.reduceLT, reduceIte, stV]
  refine LoopP_intro (α := Nat) (fun i f' w' => live (f' 4) = true ∧ live (f' 5) = true ∧ MayAt w' (f' 6) s y l (runS s y (L.take i)) ∧ RefAt w' (f' 8) s y l (runR s y (L.take i)).1 (runR s y (L.take i)).2 ∧
    f' 18 = .slice la L.length lc ∧ f' 19 = .int .i64 L.length ∧ f' 20 = .int .i64 i ∧ i ≤ L.length ∧ Ext w w') (fun i => L.length - i) 0 ?_ ?_
  · simp only [VS, VD, SV, SL, T, Nat.reduceEqDiff, Nat.reduceAdd, Nat.reduceSub, Nat.reduceMul, Nat.reduceLeDiff, Nat.reduceLT, reduceIte]
    exact ⟨hm.ext (((Ext.refl _).alloc _).alloc _), ⟨_, rfl, .inl ⟨⟨_, _, rfl⟩, rfl⟩⟩, rfl, by omega, (hE.alloc _).alloc _⟩
  · rintro i f' w' ⟨f4, f5, hmay, href, f18, f19, f20, hile, hEx⟩
    simp only [VS, VD, SV, SL, T, Nat.reduceEqDiff, Nat.reduceAdd, Nat.reduceSub, Nat.reduceMul, Nat.reduceLeDiff, Nat.reduceLT, reduceIte, f19, f20]
    refine cnd_d (fun hlt => ?_) (fun hlt => ?_)
    · have hi : i < L.length := by omega
      obtain ⟨b, off, cs, e, fz, rfl, hb, hle, hext⟩ := (h.ext hEx).get hi
      have hS := runS_snoc s y (L.take i) L[i]
      have hR := runR_snoc s y (L.take i) L[i]
      rw [← List.take_succ_eq_append_getElem hi] at hS hR
      have hsame := run_same (s := s) hp.2.2.1 (L.take i)
      have hbd := runS_bd (s := s) hp.2.2.1 (L.take i)
      have hlen := runR_len s y (L.take i)
      have hlen2 : (L.take i).length ≤ 40 := by simp only [List.length_take]; omega
      have hnr := hnear _ (List.getElem_mem hi)
      unfold near at hnr
      generalize runS s y (L.take i) = M at *
      generalize runR s y (L.take i) = R at *
      obtain ⟨ur, R⟩ := R
      simp only [] at hlen href
      generalize L[i] = x at *
      obtain ⟨u6, a6, n6, c6, f6⟩ := hmay.form
      obtain ⟨a8, c8, f8⟩ := href.form
      rw [f6] at hmay
      rw [f8] at href
      simp only [VS, VD, SV, SL, T, Nat.reduceEqDiff, Nat.reduceAdd, Nat.reduceSub, Nat.reduceMul, Nat.reduceLeDiff, Nat.reduceLT, reduceIte, f18, f20, Int.toNat_natCast, hb, hle, hext, f6, stV]
      refine ⟨by omega, ?_⟩
      have hEA := hEx.alloc tomb
      refine (step_spec s y l hv M hbd _ x.lo x.hi x.pick (by omega) (by omega) _ (hmay.ext ((Ext.refl _).alloc tomb))).mono ?_
      rintro _ w2 ⟨hm2, hE2⟩
      replace href := href.ext (((Ext.refl _).alloc tomb).trans hE2)
      replace hE2 := hEA.trans hE2
      obtain ⟨u2, a2, n2, c2, rfl⟩ := hm2.form
      simp only [VS, VD, SV, SL, T, Nat.reduceEqDiff, Nat.reduceAdd, Nat.reduceSub, Nat.reduceMul, Nat.reduceLeDiff, Nat.reduceLT, reduceIte, stV, f6]
      have hstep : ∀ w4 v, RefAt w4 v s y l (stepR s y (ur, R) x.lo x.hi).1 (stepR s y (ur, R) x.lo x.hi).2 → RefAt w4 v s y l (runR s y (L.take (i + 1))).1 (runR s y (L.take (i + 1))).2 := by
        intro w4 v h4; rw [hR]; exact h4
      have hstepM : ∀ w4 v, MayAt w4 v s y l (stepS s y M x.lo x.hi) → MayAt w4 v s y l (runS s y (L.take (i + 1))) := by
        intro w4 v h4; rw [hS]; exact h4
      refine cnd_d (fun he => ?_) (fun he => ?_)
      · simp only [VS, VD, SV, SL, T, Nat.reduceEqDiff, Nat.reduceAdd, Nat.reduceSub, Nat.reduceMul, Nat.reduceLeDiff, Nat.reduceLT, reduceIte, f8, stV]
        refine (rAccess_spec s y l hv ur R (by omega) (hsame.bd hbd) _ x.lo w2 href).mono ?_
        rintro v w4 ⟨h4, hE4⟩
        obtain ⟨a4, c4, rfl⟩ := h4.form
        simp only [VS, VD, SV, SL, T, Nat.reduceEqDiff, Nat.reduceAdd, Nat.reduceSub, Nat.reduceMul, Nat.reduceLeDiff, Nat.reduceLT, reduceIte, stV, f8, f20]
        refine ⟨by omega, i + 1, ⟨f4, f5, hstepM _ _ (hm2.ext hE4), hstep _ _ ?_, f18, f19, by simp, by omega, hE2.trans hE4⟩, by omega⟩
        unfold stepR
        rw [if_pos he]
        exact h4
      · simp only [VS, VD, SV, SL, T, Nat.reduceEqDiff, Nat.reduceAdd, Nat.reduceSub, Nat.reduceMul, Nat.reduceLeDiff, Nat.reduceLT, reduceIte, f8, stV]
        refine (rRange_spec s y l hv ur R (by omega) (hsame.bd hbd) _ x.lo x.hi (by omega) (by omega) w2 href).mono ?_
        rintro v w4 ⟨h4, hE4⟩
        obtain ⟨a4, c4, rfl⟩ := h4.form
        simp only [VS, VD, SV, SL, T, Nat.reduceEqDiff, Nat.reduceAdd, Nat.reduceSub, Nat.reduceMul, Nat.reduceLeDiff, Nat.reduceLT, reduceIte, stV, f8, f20]
        refine ⟨by omega, i + 1, ⟨f4, f5, hstepM _ _ (hm2.ext hE4), hstep _ _ ?_, f18, f19, by simp, by omega, hE2.trans hE4⟩, by omega⟩
        unfold stepR
        rw [if_neg he]
        exact h4
    · have e1 : L.take i = L := List.take_of_length_le (by omega)
      rw [e1] at hmay href
      obtain ⟨u6, a6, n6, c6, f6⟩ := hmay.form
      obtain ⟨a8, c8, f8⟩ := href.form
      rw [f6] at hmay
      rw [f8] at href
      simp only [VS, VD, SV, SL, T, Nat.reduceEqDiff, Nat.reduceAdd, Nat.reduceSub, Nat.reduceMul, Nat.reduceLeDiff, Nat.reduceLT, reduceIte]
      refine DW_intro (fun _ _ _ _ => True) ?_
      simp only [VS, VD, SV, SL, T, Nat.reduceEqDiff, Nat.reduceAdd, Nat.reduceSub, Nat.reduceMul, Nat.reduceLeDiff, Nat.reduceLT, reduceIte, f6, f8, stV, f4, f5]
      intro w3 hE3 _
      simp only [VS, VD, SV, SL, T, Nat.reduceEqDiff, Nat.reduceAdd, Nat.reduceSub, Nat.reduceMul, Nat.reduceLeDiff, Nat.reduceLT, reduceIte, f5]
      exact hΨ _ _ ⟨⟨_, _, rfl, hmay.ext hE3, href.ext hE3⟩, hEx.trans hE3⟩
end Go.Proofs.Ytndkadphpbnpeaa

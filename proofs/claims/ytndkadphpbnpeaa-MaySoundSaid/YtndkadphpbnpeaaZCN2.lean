/-
  May: a state and one of the reference, compared by the law's own function.
-/
import Derived.Test.YtndkadphpbnpeaaZCN1
import Derived.Test.YtndkadphpbnpeaaZCL1
set_option linter.unusedSimpArgs false
set_option linter.unusedVariables false
namespace Go.Proofs.Ytndkadphpbnpeaa
open Go.W Go.RowKit
/-- no line beyond a bound -/
def Lim (M : Option (Int → Option Int)) : Prop := ∀ m, M = some m → ∀ k, m k ≠ none → k ≤ 1000000
theorem Lim.step {s y : Int} {M : Option (Int → Option Int)} (h : Lim M) {lo hi : Int} (hlo : lo ≤ 1000000) (hhi : hi ≤ 1000000) : Lim (stepS s y M lo hi) := by
  intro m' hm' k hk
  have hacc : ∀ (m : Int → Option Int) (q : Int), (∀ k, m k ≠ none → k ≤ 1000000) → q ≤ 1000000 → accM s y m q k ≠ none → k ≤ 1000000 := by
    intro m q hm hq hne
    by_cases e : k = q
    · omega
    · apply hm
      intro hnone
      apply hne
      unfold accM
      rw [if_neg e, hnone]
      first | rfl | (split <;> rfl) | simp
  cases M with
  | none =>
    simp only [stepS, accS, rngS, Option.map_none, Option.bind_none] at hm'
    split at hm' <;> cases hm'
  | some m =>
    have hm := h m rfl
    unfold stepS at hm'
    split at hm'
    · simp only [accS, Option.map_some, Option.some.injEq] at hm'
      subst hm'
      split at hk
      · exact hm k hk
      · exact hacc m lo hm hlo hk
    · simp only [rngS, Option.bind_some] at hm'
      split at hm'
      · cases hm'; exact hm k hk
      · split at hm'
        · cases hm'; exact hacc m _ hm (by omega) hk
        · split at hm'
          · cases hm'
          · cases hm'
            unfold rangeM at hk
            split at hk
            · omega
            · exact hm k hk
theorem runS_lim {s y : Int} : ∀ (L : List Stp) (M : Option (Int → Option Int)), (∀ x ∈ L, near x) → Lim M → Lim (L.foldl (fun M x => stepS s y M x.lo x.hi) M)
  | [], M, _, h => h
  | x :: L, M, hn, h => by
    have hx := hn x (by simp)
    unfold near at hx
    exact runS_lim L _ (fun z hz => hn z (by simp [hz])) (h.step (by omega) (by omega))
theorem Lim_empty : Lim (some fun _ => none) := by
  intro m hm k hk
  cases hm
  exact (hk rfl).elim
theorem AbsL.keys {y : Int} {L : List (Int × Int)} {m : Int → Option Int} (h : AbsL L m) (hb : Bd y m) (hl : L.length ≤ 500000) : KeysOf m (L.map (·.1)) := by
  refine ⟨?_, fun k => ?_, fun k hk => ?_, by simpa using hl⟩
  · rw [List.pairwise_map]; exact h.srt
  · rw [List.mem_map]
    constructor
    · intro hne
      obtain ⟨b, hb⟩ := Option.ne_none_iff_exists'.1 hne
      exact ⟨(k, b), (h.mem k b).2 hb, rfl⟩
    · rintro ⟨⟨j, b⟩, hm, rfl⟩
      rw [(h.mem j b).1 hm]; simp
  · obtain ⟨⟨j, b⟩, hm, rfl⟩ := List.mem_map.1 hk
    exact (hb j b ((h.mem j b).1 hm)).1
set_option maxRecDepth 100000 in
theorem same_spec (s y l : Int) (hv : Geo s y l = true) (M : Option (Int → Option Int)) (hb : BdS y M) (hlim : Lim M) (u : Bool) (L : List (Int × Int)) (hS : Same M (u, L)) (hlen : L.length ≤ 500000) (st rv : Value) (w : World) (h : MayAt w st s y l M) (hr : RefAt w rv s y l u L) :
    VRet Try.prog 28 #[st, rv] w fun v w' => v = .bool true ∧ Ext w w' := by
  obtain ⟨u0, a0, n0, c0, rfl⟩ := h.form
  obtain ⟨sl, rfl, hsl⟩ := hr
  obtain ⟨ar, cr, rfl⟩ := lnAt_form hsl
  have hE0 := ((Ext.refl w).alloc tomb).alloc tomb
  have b1 : (true == true) = true := rfl
  have b2 : (false == false) = true := rfl
  have b3 : (true == false) = false := rfl
  have b4 : (false == true) = false := rfl
  refine VRet_start T.mo ok28 rfl fun Ψ hΨ => ?_; simp only [vc28, rs28]
  simp only [VS, VD, SV, SL, T, Nat.reduceEqDiff, Nat.reduceAdd, Nat.reduceSub, Nat.reduceMul, Nat.reduceLeDiff, Nat.reduceLT, reduceIte, stV]
  cases M with
  | none =>
    obtain rfl : u = true := hS
    refine (mLines_none s y l _ _ (h.ext hE0)).mono ?_
    rintro _ w1 ⟨rfl, hE1⟩
    have hE := hE0.trans hE1
    simp only [VS, VD, SV, SL, T, Nat.reduceEqDiff, Nat.reduceAdd, Nat.reduceSub, Nat.reduceMul, Nat.reduceLeDiff, Nat.reduceLT, reduceIte, stV, b4]
    refine (Age_spec s y l hv none _ 3 w1 (h.ext hE)).mono ?_
    rintro _ w2 ⟨rfl, hE2⟩
    simp only [VS, VD, SV, SL, T, Nat.reduceEqDiff, Nat.reduceAdd, Nat.reduceSub, Nat.reduceMul, Nat.reduceLeDiff, Nat.reduceLT, reduceIte, stV]
    refine (Age_spec s y l hv none _ (-1) w2 (h.ext (hE.trans hE2))).mono ?_
    rintro _ w3 ⟨rfl, hE3⟩
    have e0 : decide (((0 : Nat) : Int) = 0) = true := rfl
    have e1 : ageM none 3 = (0, true) := rfl
    have e2 : ageM none (-1) = (0, false) := rfl
    simp only [VS, VD, SV, SL, T, Nat.reduceEqDiff, Nat.reduceAdd, Nat.reduceSub, Nat.reduceMul, Nat.reduceLeDiff, Nat.reduceLT, reduceIte, e0, e1, e2, decide_true, Bool.not_false]
    exact hΨ _ _ ⟨rfl, (hE.trans hE2).trans hE3⟩
  | some m =>
    obtain ⟨hu, hA⟩ : u = false ∧ AbsL L m := hS
    subst hu
    have hbm := hb m rfl
    have hlm := hlim m rfl
    have hKs := hA.keys hbm hlen
    refine (mLines_spec s y l hv m _ hKs _ _ (h.ext hE0)).mono ?_
    rintro _ w1 ⟨hE1, uu, rfl, ho⟩
    have hE := hE0.trans hE1
    have hints := IntO.ints ho
    obtain ⟨al, cl, rfl⟩ := hints.form
    rw [List.length_map] at hints ⊢
    simp only [VS, VD, SV, SL, T, Nat.reduceEqDiff, Nat.reduceAdd, Nat.reduceSub, Nat.reduceMul, Nat.reduceLeDiff, Nat.reduceLT, reduceIte, stV, b3]
    refine LoopP_intro (α := Nat) (fun i f' w' => f' 2 = .agg #[.int .i64 s, .int .i64 y, .int .i64 l, .bool u0, .slice a0 n0 c0] ∧ f' 3 = .agg #[.int .i64 s, .int .i64 y, .int .i64 l, .bool false, .slice ar L.length cr] ∧ f' 5 = .slice al L.length cl ∧ f' 59 = .slice ar L.length cr ∧ f' 60 = .int .i64 L.length ∧ f' 61 = .int .i64 i ∧ i ≤ L.length ∧ Ext w1 w') (fun i => L.length - i) 0 ?_ ?_
    · simp only [VS, VD, SV, SL, T, Nat.reduceEqDiff, Nat.reduceAdd, Nat.reduceSub, Nat.reduceMul, Nat.reduceLeDiff, Nat.reduceLT, reduceIte]
      exact ⟨rfl, Nat.zero_le _, Ext.refl _⟩
    · rintro i f' wo ⟨f2, f3, f5, f59, f60, f61, hi, hEx⟩
      simp only [VS, VD, SV, SL, T, Nat.reduceEqDiff, Nat.reduceAdd, Nat.reduceSub, Nat.reduceMul, Nat.reduceLeDiff, Nat.reduceLT, reduceIte, f61, f60]
      refine cnd_d (fun hlt => ?_) (fun hlt => ?_)
      · have hi' : i < L.length := by omega
        have hsl' : SlAt wo (.slice ar L.length cr) 2 (L.map lnR) := hsl.ext (hE.trans hEx)
        obtain ⟨b, off, cs, e, fz, rfl, hb5, hle, hext, hc0, hc1⟩ := lnAt_get hsl' hi'
        obtain ⟨b7, off7, cs7, e7, fz7, rfl, _, hb7, hc7⟩ := (hints.ext hEx).get (i := i) (x := L[i].1) (by simp [hi'])
        have hmem : m L[i].1 = some L[i].2 := (hA.mem _ _).1 (show (L[i].1, L[i].2) ∈ L from List.getElem_mem hi')
        have hk0 := (hbm _ _ hmem)
        have hk1 : L[i].1 ≤ 1000000 := hlm _ (by rw [hmem]; simp)
        have hage : ageM (some m) L[i].1 = (L[i].2, true) := by simp only [ageM]; rw [if_neg (by omega), hmem]
        have hage2 : (ageM (some m) (L[i].1 + 1)).2 = decide (0 ≤ rAge L (L[i].1 + 1)) := by
          rw [hA.age]
          simp only [ageM]
          rw [if_neg (by omega)]
          cases hq : m (L[i].1 + 1) with
          | none => simp
          | some q => have := hbm _ _ hq; simp; omega
        generalize hkx : L[i].1 = kx at *
        generalize hax : L[i].2 = ax at *
        simp only [VS, VD, SV, SL, T, Nat.reduceEqDiff, Nat.reduceAdd, Nat.reduceSub, Nat.reduceMul, Nat.reduceLeDiff, Nat.reduceLT, reduceIte, f61, f59, hb5, hle, Int.toNat_natCast, hext, f2, stV]
        have hEa := (Ext.refl wo).alloc tomb
        have hneb : ¬ b7 = wo.heap.size := by have := get_lt hb7; omega
        refine ⟨by omega, ?_⟩
        refine (Age_spec s y l hv (some m) _ kx _ ((h.ext (hE.trans hEx)).ext hEa)).mono ?_
        rintro _ w3 ⟨rfl, hE3⟩
        have hEa3 := hEa.trans hE3
        have hb7' := hEa3.obj hb7
        rw [hage]
        simp only [VS, VD, SV, SL, T, Nat.reduceEqDiff, Nat.reduceAdd, Nat.reduceSub, Nat.reduceMul, Nat.reduceLeDiff, Nat.reduceLT, reduceIte, f5, f61]
        refine DW_intro (fun _ _ _ _ => True) ?_
        simp only [VS, VD, SV, SL, T, Nat.reduceEqDiff, Nat.reduceAdd, Nat.reduceSub, Nat.reduceMul, Nat.reduceLeDiff, Nat.reduceLT, reduceIte, f5, f61, hb7', hc7, Int.toNat_natCast, ne_eq, not_true_eq_false, decide_false, Bool.not_true]
        refine ⟨by omega, ?_⟩
        intro w4 hE4 _
        simp only [VS, VD, SV, SL, T, Nat.reduceEqDiff, Nat.reduceAdd, Nat.reduceSub, Nat.reduceMul, Nat.reduceLeDiff, Nat.reduceLT, reduceIte, ne_eq, not_true_eq_false, decide_false, f2]
        have hE34 := hEa3.trans hE4
        refine ⟨by omega, ?_⟩
        refine (Age_spec s y l hv (some m) _ (kx + 1) _ ((h.ext (hE.trans hEx)).ext hE34)).mono ?_
        rintro _ w5 ⟨rfl, hE5⟩
        rw [hage2]
        simp only [VS, VD, SV, SL, T, Nat.reduceEqDiff, Nat.reduceAdd, Nat.reduceSub, Nat.reduceMul, Nat.reduceLeDiff, Nat.reduceLT, reduceIte, f3]
        refine ⟨by omega, ?_⟩
        have hrr : RefAt w5 (stV s y l false (.slice (some ⟨b, off, none⟩) L.length cr)) s y l false L := ⟨_, rfl, hsl'.ext (hE34.trans hE5)⟩
        refine (rAge_spec s y l false L (by omega) _ (kx + 1) w5 hrr).mono ?_
        rintro _ w6 ⟨rfl, hE6⟩
        simp only [VS, VD, SV, SL, T, Nat.reduceEqDiff, Nat.reduceAdd, Nat.reduceSub, Nat.reduceMul, Nat.reduceLeDiff, Nat.reduceLT, reduceIte, beq_self_eq_true, Bool.not_true, f61]
        exact ⟨by omega, i + 1, ⟨f2, f3, f5, f59, f60, by simp, by omega, hEx.trans ((hE34.trans hE5).trans hE6)⟩, by omega⟩
      · simp only [VS, VD, SV, SL, T, Nat.reduceEqDiff, Nat.reduceAdd, Nat.reduceSub, Nat.reduceMul, Nat.reduceLeDiff, Nat.reduceLT, reduceIte]
        exact hΨ _ _ ⟨rfl, hE.trans hEx⟩
end Go.Proofs.Ytndkadphpbnpeaa

/-
  Must: Describes for contents of any length.
-/
import Derived.Test.YtehmbpkcbmnfnaaZCU5
set_option linter.unusedSimpArgs false
set_option linter.unusedVariables false
namespace Go.Proofs.Ytehmbpkcbmnfnaa
open Go.W Go.RowKit
set_option maxRecDepth 10000 in
theorem Index_big (v : Value) (l : List Int) (hl : l.length ≤ 9223372036854775807) (x : Int) (w : World) (h : IntsAt w v l) : VRet Try.prog 45 #[v, .int .i64 x] w fun v w' => v = .int .i64 (C.idxI l x) ∧ Ext w w' := by
  obtain ⟨a, c, rfl⟩ := h.form
  refine VRet_start T.mo ok45 rfl fun Ψ hΨ => ?_; simp only [vc45, rs45]
  simp only [VS, VD, SV, SL, T, Nat.reduceEqDiff, Nat.reduceAdd, Nat.reduceSub, Nat.reduceMul, Nat.reduceLeDiff, Nat.reduceLT, reduceIte]
  refine LoopP_intro (α := Nat) (fun i f' w' => f' 0 = .slice a l.length c ∧ f' 1 = .int .i64 x ∧ f' 7 = .int .i64 l.length ∧ f' 8 = .int .i64 i ∧ i ≤ l.length ∧ w' = w ∧ x ∉ l.take i) (fun i => l.length - i) 0 ?_ ?_
  · simp only [VS, VD, SV, SL, T, Nat.reduceEqDiff, Nat.reduceAdd, Nat.reduceSub, Nat.reduceMul, Nat.reduceLeDiff, Nat.reduceLT, reduceIte]
    exact ⟨rfl, by omega, by simp⟩
  · rintro i f' w' ⟨f0, f1, f7, f8, hi, rfl, hx⟩
    simp only [VS, VD, SV, SL, T, Nat.reduceEqDiff, Nat.reduceAdd, Nat.reduceSub, Nat.reduceMul, Nat.reduceLeDiff, Nat.reduceLT, reduceIte, f8, f7]
    refine cnd_d (fun hlt => ?_) (fun hlt => ?_)
    · have hi' : i < l.length := by omega
      obtain ⟨b, off, cs, e, fz, rfl, _, hb, hc⟩ := h.get (i := i) (x := l[i]) (by simp [hi'])
      simp only [VS, VD, SV, SL, T, Nat.reduceEqDiff, Nat.reduceAdd, Nat.reduceSub, Nat.reduceMul, Nat.reduceLeDiff, Nat.reduceLT, reduceIte, f8, f7, f0, f1, hb, Int.toNat_natCast, hc]
      refine ⟨by omega, cnd_d (fun hq => ?_) (fun hq => ?_)⟩
      · simp only [VS, VD, SV, SL, T, Nat.reduceEqDiff, Nat.reduceAdd, Nat.reduceSub, Nat.reduceMul, Nat.reduceLeDiff, Nat.reduceLT, reduceIte, f8]
        exact hΨ _ _ ⟨by rw [C.idxI, C.idxOf?_take hi' hx hq.symm], Ext.refl _⟩
      · simp only [VS, VD, SV, SL, T, Nat.reduceEqDiff, Nat.reduceAdd, Nat.reduceSub, Nat.reduceMul, Nat.reduceLeDiff, Nat.reduceLT, reduceIte, f8]
        refine ⟨by omega, i + 1, ⟨f0, f1, f7, by simp, by omega, fun hm => ?_⟩, by omega⟩
        rw [List.take_succ_eq_append_getElem hi'] at hm
        rcases List.mem_append.1 hm with hm | hm
        · exact hx hm
        · exact hq (by simpa using hm)
    · simp only [VS, VD, SV, SL, T, Nat.reduceEqDiff, Nat.reduceAdd, Nat.reduceSub, Nat.reduceMul, Nat.reduceLeDiff, Nat.reduceLT, reduceIte]
      refine hΨ _ _ ⟨?_, Ext.refl _⟩
      rw [List.take_of_length_le (by omega)] at hx
      rw [C.idxI, List.idxOf?_eq_none_iff.2 hx]
set_option maxHeartbeats 1000000 in
set_option maxRecDepth 10000 in
theorem Describes_big (s y l : Int) (hv : Geo s y l = true) (m : Bnd) (hbm : Bd y m) (st lv : Value) (ll : List (List Int)) (hll : ll.length ≤ 1000000 ∧ ∀ l ∈ ll, l.length ≤ 9223372036854775807) (w : World) (h : MuK w st s y l m) (hlv : IntssAt w lv ll) :
    VRet Try.prog 27 #[st, lv] w fun v w' => (∃ r : Bool, v = .bool r ∧ (r = true ↔ DesQ m s ll)) ∧ Ext w w' := by
  have hp := Geo_spec hv
  obtain ⟨ba, oa, ca, rfl⟩ := h.form
  obtain ⟨al, cl, rfl⟩ := hlv.form
  refine VRet_start T.mo ok27 rfl fun Ψ hΨ => ?_; simp only [vc27, rs27]
  simp only [VS, VD, SV, SL, T, Nat.reduceEqDiff, Nat.reduceAdd, Nat.reduceSub, Nat.reduceMul, Nat.reduceLeDiff, Nat.reduceLT, reduceIte, muV]
  refine (zero_spec s y l _ _ _ _).mono ?_
  rintro _ w1 ⟨rfl, hE1⟩
  replace hE1 := ((Ext.refl w).alloc tomb).trans hE1
  rw [decide_eq_false (show ¬ (s.toNat : Int) = 0 by omega)]
  simp only [VS, VD, SV, SL, T, Nat.reduceEqDiff, Nat.reduceAdd, Nat.reduceSub, Nat.reduceMul, Nat.reduceLeDiff, Nat.reduceLT, reduceIte]
  by_cases hlen : ¬ (ll.length : Int) = (s.toNat : Int)
  · rw [decide_eq_true hlen]
    simp only [VS, VD, SV, SL, T, Nat.reduceEqDiff, Nat.reduceAdd, Nat.reduceSub, Nat.reduceMul, Nat.reduceLeDiff, Nat.reduceLT, reduceIte]
    exact hΨ _ _ ⟨⟨false, rfl, fun h => (by cases h), fun h => (by have := h.1; omega)⟩, hE1⟩
  have hls : ll.length = s.toNat := by have := Classical.not_not.1 hlen; omega
  rw [decide_eq_false hlen]
  simp only [VS, VD, SV, SL, T, Nat.reduceEqDiff, Nat.reduceAdd, Nat.reduceSub, Nat.reduceMul, Nat.reduceLeDiff, Nat.reduceLT, reduceIte, muV]
  refine LoopP_intro (α := Nat) (fun i f' w' => f' 1 = .slice al ll.length cl ∧ f' 21 = .slice (some ⟨ba, oa, none⟩) s.toNat ca ∧ f' 22 = .int .i64 s.toNat ∧ f' 23 = .int .i64 i ∧ i ≤ s.toNat ∧ Ext w w' ∧ ∀ k b, m k = some b → (k % s).toNat < i → 0 ≤ C.idxI (ll.getD (k % s).toNat []) k ∧ C.idxI (ll.getD (k % s).toNat []) k ≤ b) (fun i => s.toNat - i) 0 ?_ ?_
  · simp only [VS, VD, SV, SL, T, Nat.reduceEqDiff, Nat.reduceAdd, Nat.reduceSub, Nat.reduceMul, Nat.reduceLeDiff, Nat.reduceLT, reduceIte]
    exact ⟨rfl, Nat.zero_le _, hE1, fun k b _ hj => by omega⟩
  · rintro i f' wo ⟨f1, f21, f22, f23, hi, hEx, hok⟩
    simp only [VS, VD, SV, SL, T, Nat.reduceEqDiff, Nat.reduceAdd, Nat.reduceSub, Nat.reduceMul, Nat.reduceLeDiff, Nat.reduceLT, reduceIte, f23, f22]
    refine cnd_d (fun hlt => ?_) (fun hlt => ?_)
    · have hi' : i < s.toNat := by omega
      have hill : i < ll.length := by omega
      obtain ⟨x, csa, ea, fza, hba, hxa, hma⟩ := h.at hi'
      obtain ⟨l0, c0, hML, hmg⟩ := hma.list
      have hba' := hEx.obj hba
      have hgD : ll.getD i [] = ll[i] := by simp [List.getD_eq_getElem?_getD, hill]
      simp only [VS, VD, SV, SL, T, Nat.reduceEqDiff, Nat.reduceAdd, Nat.reduceSub, Nat.reduceMul, Nat.reduceLeDiff, Nat.reduceLT, reduceIte, f23, f21, hba', Int.toNat_natCast, hxa]
      refine ⟨by omega, ?_⟩
      refine rV_rangeM T.mp76 (hML.ext hEx) ?_
      intro w4 hs4 hit4 hh4 hE4
      have hitw : w.heap.size ≤ wo.heap.size := hEx.size
      generalize wo.heap.size = it at *
      simp only [VS, VD, SV, SL, T, Nat.reduceEqDiff, Nat.reduceAdd, Nat.reduceSub, Nat.reduceMul, Nat.reduceLeDiff, Nat.reduceLT, reduceIte]
      refine LoopP_intro (α := Array Nat) (fun seen q w' => q 1 = .slice al ll.length cl ∧ q 5 = .int .i64 i ∧ q 21 = .slice (some ⟨ba, oa, none⟩) s.toNat ca ∧ q 22 = .int .i64 s.toNat ∧ q 23 = .int .i64 i ∧ q 29 = .pointer (some ⟨it, 0, none⟩) ∧ ItAt w' it x c0 seen ∧ Ext w w' ∧ ∀ p ∈ l0, p.2.2 ∈ seen → ∃ b, p.2.1 = .int .i64 b ∧ 0 ≤ C.idxI ll[i] p.1 ∧ C.idxI ll[i] p.1 ≤ b) (fun seen => (todo l0 seen).length) #[] ?_ ?_
      · simp only [VS, VD, SV, SL, T, Nat.reduceEqDiff, Nat.reduceAdd, Nat.reduceSub, Nat.reduceMul, Nat.reduceLeDiff, Nat.reduceLT, reduceIte, f1, f21, f22, f23]
        exact ⟨hit4, hE4 w hEx, fun p _ h => by simp at h⟩
      · clear f1 f21 f22 f23
        rintro seen q w5 ⟨g1, g5, g21, g22, g23, g29, hI, hE5, hseen⟩
        have hML5 := hML.ext hE5
        simp only [VS, VD, SV, SL, T, Nat.reduceEqDiff, Nat.reduceAdd, Nat.reduceSub, Nat.reduceMul, Nat.reduceLeDiff, Nat.reduceLT, reduceIte, g29]
        refine rV_nextM hI hML5 (fun hallp => ?_) (fun p hp hns w6 hI6 hh6 hE6 => ?_)
        · simp only [VS, VD, SV, SL, T, Nat.reduceEqDiff, Nat.reduceAdd, Nat.reduceSub, Nat.reduceMul, Nat.reduceLeDiff, Nat.reduceLT, reduceIte, g23]
          refine ⟨by omega, i + 1, ⟨g1, g21, g22, by simp, by omega, hE5, fun k b hk hki => ?_⟩, by omega⟩
          by_cases hji : (k % s).toNat = i
          · have hk0 := (hbm k b hk).1
            have hks0 := Int.emod_nonneg k (show s ≠ 0 by omega)
            have hg1 : mget l0 k = some (.int .i64 b) := by
              rw [hmg]; simp only [restr]; rw [if_pos ⟨hk0, by omega⟩, hk]; rfl
            obtain ⟨bo, hbo⟩ := mget_some_mem hg1
            obtain ⟨b', e, q1, q2⟩ := hseen _ hbo (hallp _ hbo)
            simp only [Value.int.injEq, true_and] at e
            subst e
            rw [hji, hgD]
            exact ⟨q1, q2⟩
          · exact hok k b hk (by omega)
        · have hEw6 := hE6 w hE5 (by omega)
          obtain ⟨va, hva, hma1⟩ : ∃ va, p.2.1 = .int .i64 va ∧ restr s i m p.1 = some va := by
            have h3 := mget_mem hML.wf.keys hp
            rw [hmg] at h3
            obtain ⟨vb, q1, q2⟩ := Option.map_eq_some_iff.1 h3
            exact ⟨vb, q2.symm, q1⟩
          have hmp : m p.1 = some va ∧ (p.1 % s).toNat = i := by
            simp only [restr] at hma1
            split at hma1
            · rename_i hc; exact ⟨hma1, by omega⟩
            · cases hma1
          have hm := todo_lt hp hns
          obtain ⟨b5, off5, cs5, e5, fz5, u5, rfl, _, hb5, hc5, hu5⟩ := (hlv.ext hEw6).get (i := i) (l := ll[i]) (by simp [hill])
          simp only [VS, VD, SV, SL, T, Nat.reduceEqDiff, Nat.reduceAdd, Nat.reduceSub, Nat.reduceMul, Nat.reduceLeDiff, Nat.reduceLT, reduceIte, g29]
          refine rV_entryM hI6 (hML.ext hEw6) hp ?_
          simp only [VS, VD, SV, SL, T, Nat.reduceEqDiff, Nat.reduceAdd, Nat.reduceSub, Nat.reduceMul, Nat.reduceLeDiff, Nat.reduceLT, reduceIte, hva, g1, g5, hb5, hc5, Int.toNat_natCast]
          refine ⟨by omega, ?_⟩
          refine (Index_big u5 ll[i] (hll.2 _ (List.getElem_mem hill)) p.1 w6 hu5).mono ?_
          rintro _ w7 ⟨rfl, hE7⟩
          have hEw7 := hEw6.trans hE7
          have hbad : ¬ (0 ≤ C.idxI ll[i] p.1 ∧ C.idxI ll[i] p.1 ≤ va) → ¬ DesQ m s ll := by
            intro hn hD
            have := hD.2 p.1 va hmp.1
            rw [hmp.2, hgD] at this
            exact hn this
          simp only [VS, VD, SV, SL, T, Nat.reduceEqDiff, Nat.reduceAdd, Nat.reduceSub, Nat.reduceMul, Nat.reduceLeDiff, Nat.reduceLT, reduceIte]
          by_cases h1 : C.idxI ll[i] p.1 < 0
          · rw [decide_eq_true h1]
            simp only [VS, VD, SV, SL, T, Nat.reduceEqDiff, Nat.reduceAdd, Nat.reduceSub, Nat.reduceMul, Nat.reduceLeDiff, Nat.reduceLT, reduceIte]
            exact hΨ _ _ ⟨⟨false, rfl, fun h => (by cases h), fun h => (hbad (by omega) h).elim⟩, hEw7⟩
          · rw [decide_eq_false h1]
            simp only [VS, VD, SV, SL, T, Nat.reduceEqDiff, Nat.reduceAdd, Nat.reduceSub, Nat.reduceMul, Nat.reduceLeDiff, Nat.reduceLT, reduceIte]
            refine cnd_d (fun h2 => ?_) (fun h2 => ?_)
            · simp only [VS, VD, SV, SL, T, Nat.reduceEqDiff, Nat.reduceAdd, Nat.reduceSub, Nat.reduceMul, Nat.reduceLeDiff, Nat.reduceLT, reduceIte]
              exact hΨ _ _ ⟨⟨false, rfl, fun h => (by cases h), fun h => (hbad (by omega) h).elim⟩, hEw7⟩
            · simp only [VS, VD, SV, SL, T, Nat.reduceEqDiff, Nat.reduceAdd, Nat.reduceSub, Nat.reduceMul, Nat.reduceLeDiff, Nat.reduceLT, reduceIte]
              refine ⟨seen.push p.2.2, ⟨g1, g5, g21, g22, g23, g29, hI6.heap (hE7.get _ hI6.lt), hEw7, fun p' hp' hs' => ?_⟩, hm⟩
              rcases Array.mem_push.1 hs' with h | h
              · exact hseen p' hp' h
              · rw [Go.W.born_inj hML.wf.borns hp' hp h]
                exact ⟨va, hva, by omega, by omega⟩
    · simp only [VS, VD, SV, SL, T, Nat.reduceEqDiff, Nat.reduceAdd, Nat.reduceSub, Nat.reduceMul, Nat.reduceLeDiff, Nat.reduceLT, reduceIte]
      refine hΨ _ _ ⟨⟨true, rfl, fun _ => ⟨by omega, fun k b hk => ?_⟩, fun _ => rfl⟩, hEx⟩
      have h2 := Int.emod_lt_of_pos k (show 0 < s by omega)
      exact hok k b hk (by omega)
end Go.Proofs.Ytehmbpkcbmnfnaa

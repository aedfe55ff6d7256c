/-
  persist: contains.
-/
import Derived.Test.YtneipineehichaaZPC5
import Derived.Test.YtneipineehichaaZF2
import Derived.Test.YtneipineehichaaZV15
set_option linter.unusedSimpArgs false
set_option linter.unusedVariables false
namespace Go.Proofs.Ytneipineehichaa
open Go.W Go.RowKit
/-- a function value that tells whether a line is in a list -/
def FnAt (w : World) (v : Value) (K : List Int) : Prop := ∃ b r, v = .func (.func 34) #[] #[.pointer (some ⟨b, 0, none⟩)] ∧ w.heap[b]? = some (.cells #[.map (some r)] 59 (0, 0)) ∧ MB w r K
theorem FnAt.ext {w w' : World} {v : Value} {K : List Int} (h : FnAt w v K) (hE : Ext w w') : FnAt w' v K := by
  obtain ⟨b, r, h1, h2, h3⟩ := h
  exact ⟨b, r, h1, hE.obj h2, h3.ext hE⟩
set_option maxRecDepth 10000 in
theorem contains1_spec (n : Int) (b r : Nat) (K : List Int) (w : World) (hb : w.heap[b]? = some (.cells #[.map (some r)] 59 (0, 0))) (hM : MB w r K) :
    VRet Try.prog 34 #[.int .i64 n, .pointer (some ⟨b, 0, none⟩)] w fun v w' => v = .bool (decide (n ∈ K)) ∧ Ext w w' := by
  refine VRet_start T.mo ok34 rfl fun Ψ hΨ => ?_; simp only [vc34, rs34]
  simp only [VS, VD, SV, SL, T, Nat.reduceEqDiff, Nat.reduceAdd, Nat.reduceSub, Nat.reduceMul, Nat.reduceLeDiff, Nat.reduceLT, reduceIte, hb]
  obtain ⟨lm, cm, hr, hwf, hgt⟩ := hM
  refine rV_lookup T.me59 T.zr4 hr ?_
  rw [hgt]
  by_cases hn : n ∈ K
  · rw [if_pos hn]
    simp only [VS, VD, SV, SL, T, Nat.reduceEqDiff, Nat.reduceAdd, Nat.reduceSub, Nat.reduceMul, Nat.reduceLeDiff, Nat.reduceLT, reduceIte]
    exact hΨ _ _ ⟨by simp [hn], Ext.refl w⟩
  · rw [if_neg hn]
    simp only [VS, VD, SV, SL, T, Nat.reduceEqDiff, Nat.reduceAdd, Nat.reduceSub, Nat.reduceMul, Nat.reduceLeDiff, Nat.reduceLT, reduceIte]
    exact hΨ _ _ ⟨by simp [hn], Ext.refl w⟩
theorem FnAt.call {w : World} {v : Value} {K : List Int} (h : FnAt w v K) {f : Fr} {t u : Nat} {n : Int} {ts : Array TypeId} {ty : TypeId} {κ : Value → World → Prop} (hv : f t = v) (hu : f u = .int .i64 n) (hk : ∀ w', Ext w w' → κ (.bool (decide (n ∈ K))) w') :
    opV Try.prog (.call ⟨.value (.tmp t), #[.tmp u], ts⟩) ty f w κ := by
  obtain ⟨b, r, rfl, h2, h3⟩ := h
  refine oV_clo (xs := [.tmp u]) hv T.en34 ?_
  have e : (evl f [.tmp u]).toArray ++ #[Value.pointer (some ⟨b, 0, none⟩)] = #[.int .i64 n, .pointer (some ⟨b, 0, none⟩)] := by simp [evl, ev, hu]
  rw [e]
  refine (contains1_spec n b r K w h2 h3).mono ?_
  rintro _ w' ⟨rfl, hE⟩
  exact hk w' hE
set_option maxRecDepth 10000 in
theorem contains_spec (lv : Value) (K : List Int) (hK : K.length ≤ 1000000) (w : World) (h : IntsAt w lv K) : VRet Try.prog 23 #[lv] w fun v w' => FnAt w' v K ∧ Ext w w' := by
  obtain ⟨la, lc, rfl⟩ := h.form
  refine VRet_start T.mo ok23 rfl fun Ψ hΨ => ?_; simp only [vc23, rs23]
  simp only [VS, VD, SV, SL, T, Nat.reduceEqDiff, Nat.reduceAdd, Nat.reduceSub, Nat.reduceMul, Nat.reduceLeDiff, Nat.reduceLT, reduceIte]
  refine LoopP_intro (α := Nat) (fun i f' w' => f' 3 = .pointer (some ⟨w.heap.size + 1, 0, none⟩) ∧ f' 7 = .slice la K.length lc ∧ f' 8 = .int .i64 K.length ∧ f' 9 = .int .i64 i ∧ i ≤ K.length ∧ Ext w w' ∧ w'.heap[w.heap.size + 1]? = some (.cells #[.map (some w.heap.size)] 59 (0, 0)) ∧ MB w' w.heap.size (K.take i)) (fun i => K.length - i) 0 ?_ ?_
  · simp only [VS, VD, SV, SL, T, Nat.reduceEqDiff, Nat.reduceAdd, Nat.reduceSub, Nat.reduceMul, Nat.reduceLeDiff, Nat.reduceLT, reduceIte]
    refine ⟨rfl, Nat.zero_le _, (((Ext.refl w).alloc _).alloc _).putb (by omega) _, [], 0, ?_, MWF_nil, fun k => by simp [mget_nil]⟩
    rw [putb_get_ne (by omega), alloc_get_lt (by rw [alloc_size]; omega)]
    exact alloc_get_new _ _
  · rintro i f' w' ⟨f3, f7, f8, f9, hi, hE, hb, hM⟩
    simp only [VS, VD, SV, SL, T, Nat.reduceEqDiff, Nat.reduceAdd, Nat.reduceSub, Nat.reduceMul, Nat.reduceLeDiff, Nat.reduceLT, reduceIte, f8, f9]
    by_cases hlt : (i : Int) < K.length
    · rw [decide_eq_true hlt]
      have hi' : i < K.length := by omega
      obtain ⟨b, off, cs, e, fz, rfl, _, hcb, hc⟩ := (h.ext hE).get (i := i) (x := K[i]) (by simp [hi'])
      simp only [VS, VD, SV, SL, T, Nat.reduceEqDiff, Nat.reduceAdd, Nat.reduceSub, Nat.reduceMul, Nat.reduceLeDiff, Nat.reduceLT, reduceIte, f3, f7, f9, hcb, hc, hb, Int.toNat_natCast]
      refine ⟨by omega, ?_⟩
      obtain ⟨lm, cm, hr, hwf, hgt⟩ := hM
      have hrl := get_lt hr
      refine rV_update T.me59 hr hwf.keys ?_
      have hne : ¬ w.heap.size + 1 = w.heap.size := by omega
      simp only [VS, VD, SV, SL, T, Nat.reduceEqDiff, Nat.reduceAdd, Nat.reduceSub, Nat.reduceMul, Nat.reduceLeDiff, Nat.reduceLT, reduceIte, f3, f7, f8, f9, hb]
      refine ⟨by omega, i + 1, ⟨by simp, by omega, hE.putb (by omega) _, ?_⟩, by omega⟩
      refine ⟨_, _, by rw [get_putb _ _ _ _ hrl, if_pos rfl], hwf.set _ _, fun k => ?_⟩
      rw [mget_mset, hgt, List.take_succ_eq_append_getElem hi']
      by_cases hk : k = K[i]
      · subst hk; rw [if_pos rfl, if_pos (by simp only [List.mem_append, List.mem_singleton, or_true])]
      · rw [if_neg hk]; simp only [List.mem_append, List.mem_singleton, hk, or_false]
    · rw [decide_eq_false hlt]
      obtain rfl : i = K.length := by omega
      rw [List.take_length] at hM
      simp only [VS, VD, SV, SL, T, Nat.reduceEqDiff, Nat.reduceAdd, Nat.reduceSub, Nat.reduceMul, Nat.reduceLeDiff, Nat.reduceLT, reduceIte]
      refine oV_mkf (caps := [.tmp 3]) ?_
      simp only [VS, VD, SV, SL, T, Nat.reduceEqDiff, Nat.reduceAdd, Nat.reduceSub, Nat.reduceMul, Nat.reduceLeDiff, Nat.reduceLT, reduceIte, f3]
      exact hΨ _ _ ⟨⟨_, _, rfl, hb, hM⟩, hE⟩
end Go.Proofs.Ytneipineehichaa

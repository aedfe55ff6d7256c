/-
  persist: the laws' helpers and the reference.
-/
import Derived.Test.YtneipineehichaaZPC2
set_option linter.unusedSimpArgs false
set_option linter.unusedVariables false
namespace Go.Proofs.Ytneipineehichaa
open Go.W Go.RowKit
def mx (L : List (Int × Int)) : Int := L.foldl (fun m r => if m < r.2 then r.2 else m) (-1)
def mst (L : List (Int × Int)) : Int := if 65535 < mx L then 65535 else mx L
theorem mx_fold (L : List (Int × Int)) (m : Int) : m ≤ L.foldl (fun m r => if m < r.2 then r.2 else m) m ∧ ∀ r ∈ L, r.2 ≤ L.foldl (fun m r => if m < r.2 then r.2 else m) m := by
  induction L generalizing m with
  | nil => simp
  | cons x L ih =>
    rw [List.foldl_cons]
    obtain ⟨h1, h2⟩ := ih (if m < x.2 then x.2 else m)
    have h3 : m ≤ (if m < x.2 then x.2 else m) ∧ x.2 ≤ (if m < x.2 then x.2 else m) := by split <;> omega
    refine ⟨by omega, fun r hr => ?_⟩
    rcases List.mem_cons.1 hr with rfl | hr
    · omega
    · exact h2 r hr
theorem mst_lo (L : List (Int × Int)) : -1 ≤ mst L ∧ mst L ≤ 65535 := by
  have := (mx_fold L (-1)).1
  unfold mst mx at *
  split <;> omega
theorem mst_acd {L : List (Int × Int)} {n : Int} (h : acd L n = true) : n ≤ mst L := by
  obtain ⟨r, hr, h1, h2, h3, h4⟩ := acd_iff.1 h
  have := (mx_fold L (-1)).2 r hr
  unfold mst mx
  split <;> omega
theorem mst_hi {L : List (Int × Int)} (h : mst L ≤ 3000) : ∀ r ∈ L, r.2 ≤ 3000 := by
  intro r hr
  have := (mx_fold L (-1)).2 r hr
  unfold mst mx at h
  split at h <;> omega
theorem lns_stop {L : List (Int × Int)} {s : Int} {i k : Nat} (h : ∀ n, acd L n = true → n < k) : lns L s i k = lns L s i MX := by
  refine sorted_ext (lns_sorted _ _ _ _) (lns_sorted _ _ _ _) fun n => ?_
  rw [lns_mem, lns_mem]
  constructor
  · rintro ⟨h1, h2, h3⟩
    exact ⟨h1, by have := acd_range h1; have := MX_eq; omega, h3⟩
  · rintro ⟨h1, h2, h3⟩
    exact ⟨h1, h n h1, h3⟩
def persK (L : List (Int × Int)) (s y : Int) (k : Nat) : List Int := ((List.range k).filter fun (n : Nat) => acd L (n : Int) && decide ((cnt L s ((n : Int) % s).toNat : Int) ≤ y)).map fun (n : Nat) => (n : Int)
theorem persK_MX (L : List (Int × Int)) (s y : Int) : persK L s y MX = pers L s y := rfl
theorem persK_mem {L : List (Int × Int)} {s y : Int} {k : Nat} {n : Int} : n ∈ persK L s y k ↔ acd L n = true ∧ n < k ∧ (cnt L s (n % s).toNat : Int) ≤ y := by
  unfold persK
  simp only [List.mem_map, List.mem_filter, List.mem_range, Bool.and_eq_true, decide_eq_true_eq]
  constructor
  · rintro ⟨q, ⟨h1, h2, h3⟩, rfl⟩
    exact ⟨h2, by omega, h3⟩
  · rintro ⟨h1, h2, h3⟩
    have := acd_range h1
    refine ⟨n.toNat, ⟨by omega, ?_, ?_⟩, by omega⟩
    · rw [show ((n.toNat : Nat) : Int) = n by omega]; exact h1
    · rw [show ((n.toNat : Nat) : Int) = n by omega]; exact h3
theorem persK_sorted (L : List (Int × Int)) (s y : Int) (k : Nat) : (persK L s y k).Pairwise (· < ·) := by
  unfold persK
  rw [List.pairwise_map]
  refine List.Pairwise.imp ?_ (List.pairwise_lt_range.filter _)
  intro a b h; omega
theorem persK_stop {L : List (Int × Int)} {s y : Int} {k : Nat} (h : ∀ n, acd L n = true → n < k) : persK L s y k = pers L s y := by
  refine sorted_ext (persK_sorted _ _ _ _) (pers_sorted _ _ _) fun n => ?_
  rw [persK_mem, pers_mem]
  exact ⟨fun ⟨h1, _, h3⟩ => ⟨h1, h3⟩, fun ⟨h1, h3⟩ => ⟨h1, h n h1, h3⟩⟩
theorem persK_succ (L : List (Int × Int)) (s y : Int) (k : Nat) : persK L s y (k + 1) = persK L s y k ++ if acd L k = true ∧ (cnt L s ((k : Int) % s).toNat : Int) ≤ y then [(k : Int)] else [] := by
  unfold persK
  rw [List.range_succ, List.filter_append, List.map_append]
  congr 1
  by_cases h : acd L k = true ∧ (cnt L s ((k : Int) % s).toNat : Int) ≤ y
  · rw [if_pos h]; simp [h.1, h.2]
  · rw [if_neg h]
    have : (acd L k && decide ((cnt L s ((k : Int) % s).toNat : Int) ≤ y)) = false := by
      rw [Bool.and_eq_false_iff]
      by_cases h1 : acd L k = true
      · right; exact decide_eq_false (fun h2 => h ⟨h1, h2⟩)
      · left; simpa using h1
    simp [this]
theorem persK_len (L : List (Int × Int)) (s y : Int) (k : Nat) : (persK L s y k).length ≤ k := by
  unfold persK
  rw [List.length_map]
  refine Nat.le_trans (List.length_filter_le _ _) ?_
  simp
theorem ints_take {l m : List Int} (hl : l.length = m.length) (i : Nat) (h : ∀ j, j < i → l[j]? = m[j]?) (hi : i = l.length) : l = m := by
  subst hi
  apply List.ext_getElem?
  intro j
  by_cases hj : j < l.length
  · exact h j hj
  · rw [List.getElem?_eq_none (by omega), List.getElem?_eq_none (by omega)]
set_option maxRecDepth 10000 in
theorem ints_spec (u v : Value) (l m : List Int) (hl : l.length ≤ 1000000) (w : World) (hu : IntsAt w u l) (hv : IntsAt w v m) : VRet Try.prog 20 #[u, v] w fun v w' => v = .bool (decide (l = m)) ∧ Ext w w' := by
  obtain ⟨a, c, rfl⟩ := hu.form
  obtain ⟨a', c', rfl⟩ := hv.form
  refine VRet_start T.mo ok20 rfl fun Ψ hΨ => ?_; simp only [vc20, rs20]
  simp only [VS, VD, SV, SL, T, Nat.reduceEqDiff, Nat.reduceAdd, Nat.reduceSub, Nat.reduceMul, Nat.reduceLeDiff, Nat.reduceLT, reduceIte]
  refine cnd_d (fun hq => ?_) (fun hq => ?_)
  · simp only [VS, VD, SV, SL, T, Nat.reduceEqDiff, Nat.reduceAdd, Nat.reduceSub, Nat.reduceMul, Nat.reduceLeDiff, Nat.reduceLT, reduceIte]
    refine hΨ _ _ ⟨?_, Ext.refl _⟩
    rw [decide_eq_false]
    rintro rfl
    exact hq rfl
  · have hlm : l.length = m.length := by
      apply Classical.byContradiction
      intro hne
      apply hq
      omega
    simp only [VS, VD, SV, SL, T, Nat.reduceEqDiff, Nat.reduceAdd, Nat.reduceSub, Nat.reduceMul, Nat.reduceLeDiff, Nat.reduceLT, reduceIte]
    refine LoopP_intro (α := Nat) (fun i f' w' => f' 0 = .slice a l.length c ∧ f' 1 = .slice a' m.length c' ∧ f' 12 = .int .i64 l.length ∧ f' 13 = .int .i64 i ∧ i ≤ l.length ∧ Ext w w' ∧ l.take i = m.take i) (fun i => l.length - i) 0 ?_ ?_
    · simp only [VS, VD, SV, SL, T, Nat.reduceEqDiff, Nat.reduceAdd, Nat.reduceSub, Nat.reduceMul, Nat.reduceLeDiff, Nat.reduceLT, reduceIte]
      exact ⟨rfl, Nat.zero_le _, Ext.refl _, rfl⟩
    · rintro i f' w' ⟨f0, f1, f12, f13, hi, hE, htk⟩
      simp only [VS, VD, SV, SL, T, Nat.reduceEqDiff, Nat.reduceAdd, Nat.reduceSub, Nat.reduceMul, Nat.reduceLeDiff, Nat.reduceLT, reduceIte, f12, f13]
      refine cnd_d (fun hlt => ?_) (fun hlt => ?_)
      · have hi1 : i < l.length := by omega
        have hi2 : i < m.length := by omega
        obtain ⟨b, off, cs, e, fz, rfl, _, hb, hc⟩ := (hu.ext hE).get (i := i) (x := l[i]) (by simp [hi1])
        obtain ⟨b', off', cs', e', fz', rfl, _, hb', hc'⟩ := (hv.ext hE).get (i := i) (x := m[i]) (by simp [hi2])
        simp only [VS, VD, SV, SL, T, Nat.reduceEqDiff, Nat.reduceAdd, Nat.reduceSub, Nat.reduceMul, Nat.reduceLeDiff, Nat.reduceLT, reduceIte, f13, f0, f1]
        refine DW_intro (fun _ _ _ _ => True) ?_
        simp only [VS, VD, SV, SL, T, Nat.reduceEqDiff, Nat.reduceAdd, Nat.reduceSub, Nat.reduceMul, Nat.reduceLeDiff, Nat.reduceLT, reduceIte, f13, f0, f1, hb, hb', hc, hc', Int.toNat_natCast]
        refine ⟨by omega, by omega, ?_⟩
        intro w2 hE2 _
        simp only [VS, VD, SV, SL, T, Nat.reduceEqDiff, Nat.reduceAdd, Nat.reduceSub, Nat.reduceMul, Nat.reduceLeDiff, Nat.reduceLT, reduceIte]
        refine cnd_d (fun hq2 => ?_) (fun hq2 => ?_)
        · simp only [VS, VD, SV, SL, T, Nat.reduceEqDiff, Nat.reduceAdd, Nat.reduceSub, Nat.reduceMul, Nat.reduceLeDiff, Nat.reduceLT, reduceIte]
          refine hΨ _ _ ⟨?_, hE.trans hE2⟩
          rw [decide_eq_false]
          rintro rfl
          exact hq2 rfl
        · have hq3 : l[i] = m[i] := Classical.not_not.1 hq2
          simp only [VS, VD, SV, SL, T, Nat.reduceEqDiff, Nat.reduceAdd, Nat.reduceSub, Nat.reduceMul, Nat.reduceLeDiff, Nat.reduceLT, reduceIte, f13]
          refine ⟨by omega, i + 1, ⟨f0, f1, f12, by simp, by omega, hE.trans hE2, ?_⟩, by omega⟩
          rw [List.take_succ_eq_append_getElem hi1, List.take_succ_eq_append_getElem hi2, htk, hq3]
      · simp only [VS, VD, SV, SL, T, Nat.reduceEqDiff, Nat.reduceAdd, Nat.reduceSub, Nat.reduceMul, Nat.reduceLeDiff, Nat.reduceLT, reduceIte]
        refine hΨ _ _ ⟨?_, hE⟩
        rw [decide_eq_true]
        rw [List.take_of_length_le (by omega), List.take_of_length_le (by omega)] at htk
        exact htk
set_option maxRecDepth 10000 in
theorem plain_spec (lv : Value) (L : List (Int × Int)) (hL : L.length ≤ 1000) (w : World) (h : RefsAt w lv L) : VRet Try.prog 13 #[lv] w fun v w' => RefsAt w' v L ∧ Ext w w' := by
  obtain ⟨la, lc, rfl⟩ := h.form
  refine VRet_start T.mo ok13 rfl fun Ψ hΨ => ?_; simp only [vc13, rs13]
  simp only [VS, VD, SV, SL, T, Nat.reduceEqDiff, Nat.reduceAdd, Nat.reduceSub, Nat.reduceMul, Nat.reduceLeDiff, Nat.reduceLT, reduceIte]
  refine LoopP_intro (α := Nat) (fun i f' w' => f' 6 = .slice la L.length lc ∧ f' 7 = .int .i64 L.length ∧ f' 8 = .int .i64 i ∧ i ≤ L.length ∧ Ext w w' ∧ OwnL refR w.heap.size 56 2 w' (f' 3) (L.take i)) (fun i => L.length - i) 0 ?_ ?_
  · simp only [VS, VD, SV, SL, T, Nat.reduceEqDiff, Nat.reduceAdd, Nat.reduceSub, Nat.reduceMul, Nat.reduceLeDiff, Nat.reduceLT, reduceIte]
    exact ⟨rfl, Nat.zero_le _, Ext.refl _, OwnL.nil _ _ _ _ _⟩
  · rintro i f' w' ⟨f6, f7, f8, hi, hE, ho⟩
    simp only [VS, VD, SV, SL, T, Nat.reduceEqDiff, Nat.reduceAdd, Nat.reduceSub, Nat.reduceMul, Nat.reduceLeDiff, Nat.reduceLT, reduceIte, f7, f8]
    by_cases hlt : (i : Int) < L.length
    · rw [decide_eq_true hlt]
      have hlt' : i < L.length := by omega
      obtain ⟨b, off, cs, e, fz, rfl, hb, hsz, hcs⟩ := (h.ext hE).get hlt'
      simp only [VS, VD, SV, SL, T, Nat.reduceEqDiff, Nat.reduceAdd, Nat.reduceSub, Nat.reduceMul, Nat.reduceLeDiff, Nat.reduceLT, reduceIte, f6, f8, Int.toNat_natCast, hb, hsz, hcs]
      refine ⟨by omega, ?_⟩
      have hE1 := hE.alloc tomb
      have htk : L.take (i + 1) = L.take i ++ [L[i]] := by rw [List.take_add_one, List.getElem?_eq_getElem hlt']; rfl
      have ho1 := ho.alloc tomb
      have es : w'.heap.size + 1 = (w'.alloc tomb).heap.size := (alloc_size _ _).symm
      rw [es]
      generalize w'.alloc tomb = w1 at *
      refine OwnL.app1 (R := refR) (base := w.heap.size) (w := w1) T.el27 T.sz56 T.by56 T.zr56 rfl (by omega) ho1 L[i] rfl rfl (by rw [List.length_take]; omega) (by omega) hE1.size ?_
      intro v' w2 ho2 hE2 hg2
      simp only [VS, VD, SV, SL, T, Nat.reduceEqDiff, Nat.reduceAdd, Nat.reduceSub, Nat.reduceMul, Nat.reduceLeDiff, Nat.reduceLT, reduceIte, f6, f7, f8]
      rw [← htk] at ho2
      exact ⟨by omega, i + 1, ⟨by simp, by omega, hE2 w hE1 (Nat.le_refl _), ho2⟩, by omega⟩
    · rw [decide_eq_false hlt]
      obtain rfl : i = L.length := by omega
      simp only [VS, VD, SV, SL, T, Nat.reduceEqDiff, Nat.reduceAdd, Nat.reduceSub, Nat.reduceMul, Nat.reduceLeDiff, Nat.reduceLT, reduceIte]
      rw [List.take_length] at ho
      exact hΨ _ _ ⟨ho.sl (fun _ => rfl), hE⟩
set_option maxRecDepth 10000 in
theorem Allows_spec (r : Int × Int) (n : Int) (w : World) : VRet Try.prog 35 #[.agg #[.int .i64 r.1, .int .i64 r.2], .int .i64 n] w fun v w' => v = .bool (decide (alw r n)) ∧ Ext w w' := by
  refine VRet_start T.mo ok35 rfl fun Ψ hΨ => ?_; simp only [vc35, rs35]
  simp only [VS, VD, SV, SL, T, Nat.reduceEqDiff, Nat.reduceAdd, Nat.reduceSub, Nat.reduceMul, Nat.reduceLeDiff, Nat.reduceLT, reduceIte]
  have hE := (Ext.refl w).alloc tomb
  by_cases h1 : 0 ≤ n
  · rw [decide_eq_true h1]
    simp only [VS, VD, SV, SL, T, Nat.reduceEqDiff, Nat.reduceAdd, Nat.reduceSub, Nat.reduceMul, Nat.reduceLeDiff, Nat.reduceLT, reduceIte]
    by_cases h2 : n ≤ 65535
    · rw [decide_eq_true h2]
      simp only [VS, VD, SV, SL, T, Nat.reduceEqDiff, Nat.reduceAdd, Nat.reduceSub, Nat.reduceMul, Nat.reduceLeDiff, Nat.reduceLT, reduceIte]
      by_cases h3 : r.1 ≤ n
      · rw [decide_eq_true h3]
        simp only [VS, VD, SV, SL, T, Nat.reduceEqDiff, Nat.reduceAdd, Nat.reduceSub, Nat.reduceMul, Nat.reduceLeDiff, Nat.reduceLT, reduceIte]
        exact hΨ _ _ ⟨by simp [alw, h1, h2, h3], hE⟩
      · rw [decide_eq_false h3]
        simp only [VS, VD, SV, SL, T, Nat.reduceEqDiff, Nat.reduceAdd, Nat.reduceSub, Nat.reduceMul, Nat.reduceLeDiff, Nat.reduceLT, reduceIte]
        exact hΨ _ _ ⟨by simp [alw, h3], hE⟩
    · rw [decide_eq_false h2]
      simp only [VS, VD, SV, SL, T, Nat.reduceEqDiff, Nat.reduceAdd, Nat.reduceSub, Nat.reduceMul, Nat.reduceLeDiff, Nat.reduceLT, reduceIte]
      exact hΨ _ _ ⟨by simp [alw, h2], hE⟩
  · rw [decide_eq_false h1]
    simp only [VS, VD, SV, SL, T, Nat.reduceEqDiff, Nat.reduceAdd, Nat.reduceSub, Nat.reduceMul, Nat.reduceLeDiff, Nat.reduceLT, reduceIte]
    exact hΨ _ _ ⟨by simp [alw, h1], hE⟩
theorem acd_take {L : List (Int × Int)} {n : Int} {i : Nat} (hi : i < L.length) : acd (L.take (i + 1)) n = (acd (L.take i) n || decide (alw L[i] n)) := by
  have htk : L.take (i + 1) = L.take i ++ [L[i]] := by rw [List.take_add_one, List.getElem?_eq_getElem hi]; rfl
  unfold acd
  rw [htk, List.any_append]
  simp only [List.any_cons, List.any_nil, Bool.or_false]
set_option maxRecDepth 10000 in
theorem Accessed_spec (lv : Value) (L : List (Int × Int)) (hL : L.length ≤ 1000000) (n : Int) (w : World) (h : RefsAt w lv L) : VRet Try.prog 24 #[lv, .int .i64 n] w fun v w' => v = .bool (acd L n) ∧ Ext w w' := by
  obtain ⟨la, lc, rfl⟩ := h.form
  refine VRet_start T.mo ok24 rfl fun Ψ hΨ => ?_; simp only [vc24, rs24]
  simp only [VS, VD, SV, SL, T, Nat.reduceEqDiff, Nat.reduceAdd, Nat.reduceSub, Nat.reduceMul, Nat.reduceLeDiff, Nat.reduceLT, reduceIte]
  refine LoopP_intro (α := Nat) (fun i f' w' => f' 0 = .slice la L.length lc ∧ f' 1 = .int .i64 n ∧ f' 5 = .int .i64 i ∧ i ≤ L.length ∧ Ext w w' ∧ acd (L.take i) n = false) (fun i => L.length - i) 0 ?_ ?_
  · simp only [VS, VD, SV, SL, T, Nat.reduceEqDiff, Nat.reduceAdd, Nat.reduceSub, Nat.reduceMul, Nat.reduceLeDiff, Nat.reduceLT, reduceIte]
    exact ⟨rfl, Nat.zero_le _, Ext.refl _, rfl⟩
  · rintro i f' w' ⟨f0, f1, f5, hi, hE, ha⟩
    simp only [VS, VD, SV, SL, T, Nat.reduceEqDiff, Nat.reduceAdd, Nat.reduceSub, Nat.reduceMul, Nat.reduceLeDiff, Nat.reduceLT, reduceIte, f0, f5]
    by_cases hlt : (i : Int) < L.length
    · rw [decide_eq_true hlt]
      have hlt' : i < L.length := by omega
      obtain ⟨b, off, cs, e, fz, rfl, hb, hsz, hcs⟩ := (h.ext hE).get hlt'
      simp only [VS, VD, SV, SL, T, Nat.reduceEqDiff, Nat.reduceAdd, Nat.reduceSub, Nat.reduceMul, Nat.reduceLeDiff, Nat.reduceLT, reduceIte, f0, f1, f5, Int.toNat_natCast, hb, hsz, hcs]
      refine ⟨by omega, ?_⟩
      refine (Allows_spec L[i] n w').mono ?_
      rintro _ w2 ⟨rfl, hE2⟩
      simp only [VS, VD, SV, SL, T, Nat.reduceEqDiff, Nat.reduceAdd, Nat.reduceSub, Nat.reduceMul, Nat.reduceLeDiff, Nat.reduceLT, reduceIte]
      have hat := acd_take (n := n) hlt'
      by_cases hq : alw L[i] n
      · rw [decide_eq_true hq]
        simp only [VS, VD, SV, SL, T, Nat.reduceEqDiff, Nat.reduceAdd, Nat.reduceSub, Nat.reduceMul, Nat.reduceLeDiff, Nat.reduceLT, reduceIte]
        refine hΨ _ _ ⟨?_, hE.trans hE2⟩
        rw [acd_iff.2 ⟨L[i], List.getElem_mem _, hq⟩]
      · rw [decide_eq_false hq]
        simp only [VS, VD, SV, SL, T, Nat.reduceEqDiff, Nat.reduceAdd, Nat.reduceSub, Nat.reduceMul, Nat.reduceLeDiff, Nat.reduceLT, reduceIte, f0, f1, f5]
        refine ⟨by omega, i + 1, ⟨by simp, by omega, hE.trans hE2, ?_⟩, by omega⟩
        rw [hat, ha, decide_eq_false hq]; rfl
    · rw [decide_eq_false hlt]
      obtain rfl : i = L.length := by omega
      simp only [VS, VD, SV, SL, T, Nat.reduceEqDiff, Nat.reduceAdd, Nat.reduceSub, Nat.reduceMul, Nat.reduceLeDiff, Nat.reduceLT, reduceIte]
      rw [List.take_length] at ha
      exact hΨ _ _ ⟨by rw [ha], hE⟩
theorem mx_take {L : List (Int × Int)} {i : Nat} (hi : i < L.length) : mx (L.take (i + 1)) = if mx (L.take i) < L[i].2 then L[i].2 else mx (L.take i) := by
  have htk : L.take (i + 1) = L.take i ++ [L[i]] := by rw [List.take_add_one, List.getElem?_eq_getElem hi]; rfl
  unfold mx
  rw [htk, List.foldl_append]
  rfl
set_option maxRecDepth 10000 in
theorem Most_spec (lv : Value) (L : List (Int × Int)) (hL : L.length ≤ 1000000) (w : World) (h : RefsAt w lv L) : VRet Try.prog 12 #[lv] w fun v w' => v = .int .i64 (mst L) ∧ Ext w w' := by
  obtain ⟨la, lc, rfl⟩ := h.form
  refine VRet_start T.mo ok12 rfl fun Ψ hΨ => ?_; simp only [vc12, rs12]
  simp only [VS, VD, SV, SL, T, Nat.reduceEqDiff, Nat.reduceAdd, Nat.reduceSub, Nat.reduceMul, Nat.reduceLeDiff, Nat.reduceLT, reduceIte]
  refine loop_cB (fun f' w' => f' 3 = .int .i64 (mx L) ∧ Ext w w') ?_ ?_
  · refine LoopP_intro (α := Nat) (fun i f' w' => f' 0 = .slice la L.length lc ∧ f' 4 = .int .i64 i ∧ i ≤ L.length ∧ Ext w w' ∧ f' 3 = .int .i64 (mx (L.take i))) (fun i => L.length - i) 0 ?_ ?_
    · simp only [VS, VD, SV, SL, T, Nat.reduceEqDiff, Nat.reduceAdd, Nat.reduceSub, Nat.reduceMul, Nat.reduceLeDiff, Nat.reduceLT, reduceIte]
      exact ⟨rfl, Nat.zero_le _, Ext.refl _, rfl⟩
    · rintro i f' w' ⟨f0, f4, hi, hE, f3⟩
      simp only [VS, VD, SV, SL, T, Nat.reduceEqDiff, Nat.reduceAdd, Nat.reduceSub, Nat.reduceMul, Nat.reduceLeDiff, Nat.reduceLT, reduceIte, f0, f4]
      by_cases hlt : (i : Int) < L.length
      · rw [decide_eq_true hlt]
        have hlt' : i < L.length := by omega
        obtain ⟨b, off, cs, e, fz, rfl, hb, hsz, hcs⟩ := (h.ext hE).get hlt'
        have hc2 : cs[off + (i * 2 + 1)]? = some (.int .i64 L[i].2) := by
          have h6 := congrArg (fun a : Array Value => a[1]?) hcs
          simp only [Array.getElem?_extract] at h6
          rw [if_pos (by omega)] at h6
          simpa [Nat.add_assoc] using h6
        have hmx := mx_take hlt'
        simp only [VS, VD, SV, SL, T, Nat.reduceEqDiff, Nat.reduceAdd, Nat.reduceSub, Nat.reduceMul, Nat.reduceLeDiff, Nat.reduceLT, reduceIte, f0, f3, f4, Int.toNat_natCast, hb, hc2]
        refine ⟨by omega, ?_⟩
        by_cases hq : mx (L.take i) < L[i].2
        · rw [decide_eq_true hq]
          simp only [VS, VD, SV, SL, T, Nat.reduceEqDiff, Nat.reduceAdd, Nat.reduceSub, Nat.reduceMul, Nat.reduceLeDiff, Nat.reduceLT, reduceIte, f0, f3, f4, Int.toNat_natCast, hb, hc2]
          refine ⟨by omega, by omega, i + 1, ⟨by simp, by omega, hE, ?_⟩, by omega⟩
          rw [hmx, if_pos hq]
        · rw [decide_eq_false hq]
          simp only [VS, VD, SV, SL, T, Nat.reduceEqDiff, Nat.reduceAdd, Nat.reduceSub, Nat.reduceMul, Nat.reduceLeDiff, Nat.reduceLT, reduceIte, f0, f3, f4]
          refine ⟨by omega, i + 1, ⟨by simp, by omega, hE, ?_⟩, by omega⟩
          rw [hmx, if_neg hq]
      · rw [decide_eq_false hlt]
        obtain rfl : i = L.length := by omega
        rw [List.take_length] at f3
        simp only [VS, VD, SV, SL, T, Nat.reduceEqDiff, Nat.reduceAdd, Nat.reduceSub, Nat.reduceMul, Nat.reduceLeDiff, Nat.reduceLT, reduceIte, f3]
        exact hE
  · rintro f2 w2 ⟨f23, hE⟩
    simp only [VS, VD, SV, SL, T, Nat.reduceEqDiff, Nat.reduceAdd, Nat.reduceSub, Nat.reduceMul, Nat.reduceLeDiff, Nat.reduceLT, reduceIte, f23]
    by_cases hq : 65535 < mx L
    · rw [decide_eq_true hq]
      simp only [VS, VD, SV, SL, T, Nat.reduceEqDiff, Nat.reduceAdd, Nat.reduceSub, Nat.reduceMul, Nat.reduceLeDiff, Nat.reduceLT, reduceIte]
      exact hΨ _ _ ⟨by rw [mst, if_pos hq], hE⟩
    · rw [decide_eq_false hq]
      simp only [VS, VD, SV, SL, T, Nat.reduceEqDiff, Nat.reduceAdd, Nat.reduceSub, Nat.reduceMul, Nat.reduceLeDiff, Nat.reduceLT, reduceIte, f23]
      exact hΨ _ _ ⟨by rw [mst, if_neg hq], hE⟩
end Go.Proofs.Ytneipineehichaa

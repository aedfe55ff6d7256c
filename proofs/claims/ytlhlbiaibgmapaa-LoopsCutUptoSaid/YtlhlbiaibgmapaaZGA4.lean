/-
  slices.Reverse at []int; dominator.Order.
-/
import Derived.Test.YtlhlbiaibgmapaaZGA3
set_option linter.unusedSimpArgs false
set_option linter.unusedVariables false
namespace Go.Proofs.Ytlhlbiaibgmapaa
open Go.W Go.RowKit
/-- what the operations of the swap hand back -/
def rvV (sl : Value) (g i j : Nat) (x y : Int) : Nat → Value
  | 0 => sl | 1 => .int .i64 i | 2 => sl | 3 => .int .i64 j | 4 => sl | 5 => .int .i64 j | 6 => .pointer (some ⟨g, j, none⟩) | 7 => .int .i64 y
  | 8 => sl | 9 => .int .i64 i | 10 => .pointer (some ⟨g, i, none⟩) | 11 => .int .i64 x | 12 => .pointer (some ⟨g, i, none⟩) | _ => undef
structure RvI (sl : Value) (g i j : Nat) (x y : Int) (cs : Array Value) (w1 : World) (L : Nat → Bool) (f : Fr) (w : World) : Prop where
  f0 : f 0 = sl
  f2 : f 2 = .int .i64 i
  f3 : f 3 = .int .i64 j
  c : ∀ n, n ≤ 12 → L n = true → f (14 + n) = rvV sl g i j x y n
  d : L 13 = true → ∀ n ∈ [7, 11, 12], L n = true
  w0 : L 13 = false → w = w1
  w1 : L 13 = true → w = w1.putb g (.cells (cs.setIfInBounds i (.int .i64 y)) 3 (0, 0))
theorem RvI.step {sl : Value} {g i j : Nat} {x y : Int} {cs : Array Value} {w1 : World} {L : Nat → Bool} {f : Fr} {w : World} (h : RvI sl g i j x y cs w1 L f w) {k : Nat} (hk : k ≤ 12) {v : Value} (hv : v = rvV sl g i j x y k) : RvI sl g i j x y cs w1 (setL L k) (upd f (14 + k) v) w := by
  refine ⟨by rw [upd_apply, if_neg (by omega)]; exact h.f0, by rw [upd_apply, if_neg (by omega)]; exact h.f2, by rw [upd_apply, if_neg (by omega)]; exact h.f3, fun n hn hl => ?_, fun h13 n hn => ?_, fun h13 => h.w0 ?_, fun h13 => h.w1 ?_⟩
  · by_cases e : n = k
    · subst e; rw [hv]; simp [upd]
    · rw [upd_apply, if_neg (by omega)]
      refine h.c n hn ?_
      simpa [setL, e] using hl
  · have : L 13 = true := by simpa [setL, show ¬ 13 = k by omega] using h13
    have := h.d this n hn
    simp [setL, this]
  · simpa [setL, show ¬ 13 = k by omega] using h13
  · simpa [setL, show ¬ 13 = k by omega] using h13
set_option maxRecDepth 10000 in
theorem Reverse_spec (g n cap : Nat) (hn : n ≤ 100000000) (hc : n ≤ cap) (C : Nat → Int) (cs0 : Array Value) (hs : cs0.size = cap) (hv : ∀ t, t < n → cs0[t]? = some (.int .i64 (C t))) (w : World) (hb : w.heap[g]? = some (.cells cs0 3 (0, 0))) :
    VRet Try.prog 42 #[.slice (some ⟨g, 0, none⟩) n cap] w fun _ w' => (∃ cs, w'.heap[g]? = some (.cells cs 3 (0, 0)) ∧ cs.size = cap ∧ ∀ t, t < n → cs[t]? = some (.int .i64 (C (n - 1 - t)))) ∧ w.grownBy w' (some g) := by
  refine VRet_start T.mo ok42 rfl fun Ψ hΨ => ?_; simp only [vc42, rs42]
  simp only [VS, VD, SV, SL, T, Nat.reduceEqDiff, Nat.reduceAdd, Nat.reduceSub, Nat.reduceMul, Nat.reduceLeDiff, Nat.reduceLT, reduceIte]
  refine ⟨by omega, ?_⟩
  refine LoopP_intro (α := Nat) (fun i f w' => f 0 = .slice (some ⟨g, 0, none⟩) n cap ∧ f 2 = .int .i64 i ∧ f 3 = .int .i64 ((n : Int) - 1 - i) ∧ 2 * i ≤ n ∧ w.grownBy w' (some g) ∧ ∃ cs, w'.heap[g]? = some (.cells cs 3 (0, 0)) ∧ cs.size = cap ∧ ∀ t, t < n → cs[t]? = some (.int .i64 (if t < i ∨ n - i ≤ t then C (n - 1 - t) else C t))) (fun i => n - i) 0 ?_ ?_
  · simp only [VS, VD, SV, SL, T, Nat.reduceEqDiff, Nat.reduceAdd, Nat.reduceSub, Nat.reduceMul, Nat.reduceLeDiff, Nat.reduceLT, reduceIte]
    refine ⟨rfl, by simp, by omega, ⟨rfl, rfl, rfl, Nat.le_refl _, fun _ _ _ => rfl⟩, cs0, hb, hs, fun t ht => ?_⟩
    rw [if_neg (by omega)]
    exact hv t ht
  · rintro i f w' ⟨f0, f2, f3, hi, hg, cs, hb', hs', hv'⟩
    simp only [VS, VD, SV, SL, T, Nat.reduceEqDiff, Nat.reduceAdd, Nat.reduceSub, Nat.reduceMul, Nat.reduceLeDiff, Nat.reduceLT, reduceIte, f2, f3]
    by_cases hlt : (i : Int) < (n : Int) - 1 - i
    · rw [decide_eq_true hlt]
      obtain ⟨j, hj⟩ := Int.eq_ofNat_of_zero_le (show 0 ≤ (n : Int) - 1 - i by omega)
      have hvi := hv' i (by omega)
      have hvj := hv' j (by omega)
      rw [if_neg (by omega)] at hvi hvj
      have hgl := get_lt hb'
      rw [hj] at f3
      simp only [VS, VD, SV, SL, T, Nat.reduceEqDiff, Nat.reduceAdd, Nat.reduceSub, Nat.reduceMul, Nat.reduceLeDiff, Nat.reduceLT, reduceIte]
      refine DW_c (fun f2' w2 => f2' 0 = .slice (some ⟨g, 0, none⟩) n cap ∧ f2' 2 = .int .i64 i ∧ f2' 3 = .int .i64 j ∧ w2 = (w'.drew.putb g (.cells (cs.setIfInBounds i (.int .i64 (C j))) 3 (0, 0))).putb g (.cells ((cs.setIfInBounds i (.int .i64 (C j))).setIfInBounds j (.int .i64 (C i))) 3 (0, 0))) ?_ ?_
      · refine .inr ⟨fun L ok f w => RvI (.slice (some ⟨g, 0, none⟩) n cap) g i j (C i) (C j) cs w'.drew L f w, ?_, ?_, ?_⟩
        · exact ⟨f0, f2, f3, nofun, nofun, fun _ => rfl, nofun⟩
        · intro d hd L ok f w2 H hLd hdeps
          have hbL : L 13 = false → w2.heap[g]? = some (.cells cs 3 (0, 0)) := fun h => by rw [H.w0 h]; exact hb'
          have f0 := H.f0
          have f2 := H.f2
          have f3 := H.f3
          simp only [List.mem_cons, List.not_mem_nil, or_false] at hd
          rcases hd with rfl | rfl | rfl | rfl | rfl | rfl | rfl | rfl | rfl | rfl | rfl | rfl | rfl | rfl
          · simp only [stp, vi]; simp only [VS, VD, SV, SL, T, Nat.reduceEqDiff, Nat.reduceAdd, Nat.reduceSub, Nat.reduceMul, Nat.reduceLeDiff, Nat.reduceLT, reduceIte, f0]; exact H.step (k := 0) (by omega) rfl
          · simp only [stp, vi]; simp only [VS, VD, SV, SL, T, Nat.reduceEqDiff, Nat.reduceAdd, Nat.reduceSub, Nat.reduceMul, Nat.reduceLeDiff, Nat.reduceLT, reduceIte, f2]; exact H.step (k := 1) (by omega) rfl
          · simp only [stp, vi]; simp only [VS, VD, SV, SL, T, Nat.reduceEqDiff, Nat.reduceAdd, Nat.reduceSub, Nat.reduceMul, Nat.reduceLeDiff, Nat.reduceLT, reduceIte, f0]; exact H.step (k := 2) (by omega) rfl
          · simp only [stp, vi]; simp only [VS, VD, SV, SL, T, Nat.reduceEqDiff, Nat.reduceAdd, Nat.reduceSub, Nat.reduceMul, Nat.reduceLeDiff, Nat.reduceLT, reduceIte, f3]; exact H.step (k := 3) (by omega) rfl
          · simp only [stp, vi]; simp only [VS, VD, SV, SL, T, Nat.reduceEqDiff, Nat.reduceAdd, Nat.reduceSub, Nat.reduceMul, Nat.reduceLeDiff, Nat.reduceLT, reduceIte, f0]; exact H.step (k := 4) (by omega) rfl
          · simp only [stp, vi]; simp only [VS, VD, SV, SL, T, Nat.reduceEqDiff, Nat.reduceAdd, Nat.reduceSub, Nat.reduceMul, Nat.reduceLeDiff, Nat.reduceLT, reduceIte, f3]; exact H.step (k := 5) (by omega) rfl
          · have x1 : f 18 = _ := H.c 4 (by omega) (hdeps 4 (by simp))
            have x2 : f 19 = _ := H.c 5 (by omega) (hdeps 5 (by simp))
            simp only [rvV] at x1 x2
            simp only [stp, vi]; simp only [VS, VD, SV, SL, T, Nat.reduceEqDiff, Nat.reduceAdd, Nat.reduceSub, Nat.reduceMul, Nat.reduceLeDiff, Nat.reduceLT, reduceIte, x1, x2, Int.toNat_natCast]
            exact ⟨by omega, H.step (k := 6) (by omega) rfl⟩
          · have x1 : f 20 = _ := H.c 6 (by omega) (hdeps 6 (by simp))
            simp only [rvV] at x1
            have h13 : L 13 = false := by
              cases hc : L 13 with
              | false => rfl
              | true => have := H.d hc 7 (by simp); simp only [] at hLd; rw [this] at hLd; cases hLd
            have hbw := hbL h13
            simp only [stp, vi]; simp only [VS, VD, SV, SL, T, Nat.reduceEqDiff, Nat.reduceAdd, Nat.reduceSub, Nat.reduceMul, Nat.reduceLeDiff, Nat.reduceLT, reduceIte, x1, hbw, hvj]
            exact H.step (k := 7) (by omega) rfl
          · simp only [stp, vi]; simp only [VS, VD, SV, SL, T, Nat.reduceEqDiff, Nat.reduceAdd, Nat.reduceSub, Nat.reduceMul, Nat.reduceLeDiff, Nat.reduceLT, reduceIte, f0]; exact H.step (k := 8) (by omega) rfl
          · simp only [stp, vi]; simp only [VS, VD, SV, SL, T, Nat.reduceEqDiff, Nat.reduceAdd, Nat.reduceSub, Nat.reduceMul, Nat.reduceLeDiff, Nat.reduceLT, reduceIte, f2]; exact H.step (k := 9) (by omega) rfl
          · have x1 : f 22 = _ := H.c 8 (by omega) (hdeps 8 (by simp))
            have x2 : f 23 = _ := H.c 9 (by omega) (hdeps 9 (by simp))
            simp only [rvV] at x1 x2
            simp only [stp, vi]; simp only [VS, VD, SV, SL, T, Nat.reduceEqDiff, Nat.reduceAdd, Nat.reduceSub, Nat.reduceMul, Nat.reduceLeDiff, Nat.reduceLT, reduceIte, x1, x2, Int.toNat_natCast]
            exact ⟨by omega, H.step (k := 10) (by omega) rfl⟩
          · have x1 : f 24 = _ := H.c 10 (by omega) (hdeps 10 (by simp))
            simp only [rvV] at x1
            have h13 : L 13 = false := by
              cases hc : L 13 with
              | false => rfl
              | true => have := H.d hc 11 (by simp); simp only [] at hLd; rw [this] at hLd; cases hLd
            have hbw := hbL h13
            simp only [stp, vi]; simp only [VS, VD, SV, SL, T, Nat.reduceEqDiff, Nat.reduceAdd, Nat.reduceSub, Nat.reduceMul, Nat.reduceLeDiff, Nat.reduceLT, reduceIte, x1, hbw, hvi]
            exact H.step (k := 11) (by omega) rfl
          · have x1 : f 14 = _ := H.c 0 (by omega) (hdeps 0 (by simp))
            have x2 : f 15 = _ := H.c 1 (by omega) (hdeps 1 (by simp))
            simp only [rvV] at x1 x2
            simp only [stp, vi]; simp only [VS, VD, SV, SL, T, Nat.reduceEqDiff, Nat.reduceAdd, Nat.reduceSub, Nat.reduceMul, Nat.reduceLeDiff, Nat.reduceLT, reduceIte, x1, x2, Int.toNat_natCast]
            exact ⟨by omega, H.step (k := 12) (by omega) rfl⟩
          · have x1 : f 26 = _ := H.c 12 (by omega) (hdeps 12 (by simp))
            have x2 : f 21 = _ := H.c 7 (by omega) (hdeps 7 (by simp))
            simp only [rvV] at x1 x2
            have hbw := hbL hLd
            simp only [stp, vi]; simp only [VS, VD, SV, SL, T, Nat.reduceEqDiff, Nat.reduceAdd, Nat.reduceSub, Nat.reduceMul, Nat.reduceLeDiff, Nat.reduceLT, reduceIte, x1, x2, hbw]
            refine ⟨by omega, ⟨f0, f2, f3, fun n hn hl => H.c n hn ?_, fun _ n hn => ?_, fun h => ?_, fun _ => by rw [H.w0 hLd]⟩⟩
            · simpa [setL, show ¬ n = 13 by omega] using hl
            · simp only [List.mem_cons, List.not_mem_nil, or_false] at hn
              rcases hn with rfl | rfl | rfl
              · simp [setL, hdeps 7 (by simp)]
              · simp [setL, hdeps 11 (by simp)]
              · simp [setL, hdeps 12 (by simp)]
            · simp [setL] at h
        · intro L ok f w2 hall H
          simp only [List.mem_cons, List.not_mem_nil, or_false, forall_eq_or_imp, forall_eq] at hall
          obtain ⟨l0, l1, l2, l3, l4, l5, l6, l7, l8, l9, l10, l11, l12, l13⟩ := hall
          have x16 : f 16 = _ := H.c 2 (by omega) l2
          have x17 : f 17 = _ := H.c 3 (by omega) l3
          have x25 : f 25 = _ := H.c 11 (by omega) l11
          simp only [rvV] at x16 x17 x25
          have hw := H.w1 l13
          subst hw
          have f0 := H.f0
          have f2 := H.f2
          have f3 := H.f3
          have hgl2 : g < w'.drew.heap.size := hgl
          simp only [VS, VD, SV, SL, T, Nat.reduceEqDiff, Nat.reduceAdd, Nat.reduceSub, Nat.reduceMul, Nat.reduceLeDiff, Nat.reduceLT, reduceIte, x16, x17, x25, Int.toNat_natCast, f0, f2, f3, hgl2, hgl]
          simp
          omega
      · rintro f2' w2 ⟨k0, k2, k3, rfl⟩
        simp only [VS, VD, SV, SL, T, Nat.reduceEqDiff, Nat.reduceAdd, Nat.reduceSub, Nat.reduceMul, Nat.reduceLeDiff, Nat.reduceLT, reduceIte, k0, k2, k3]
        refine ⟨by omega, by omega, i + 1, ⟨by simp, by rw [← hj]; congr 1; simp; omega, by omega, ⟨hg.os, hg.tape, hg.output, ?_, fun b hb hne => ?_⟩, ((cs.setIfInBounds i (.int .i64 (C j))).setIfInBounds j (.int .i64 (C i))), by rw [if_pos hgl], by simp [hs'], fun t ht => ?_⟩, by omega⟩
        · rw [putb_size]; exact hg.size
        · rw [putb_get_ne (by rintro rfl; exact hne rfl)]
          exact hg.block b hb hne
        · rw [Array.getElem?_setIfInBounds, Array.getElem?_setIfInBounds, Array.size_setIfInBounds]
          by_cases e1 : j = t
          · subst e1
            rw [if_pos rfl, if_pos (by omega), if_pos (by omega)]
            congr 3
            omega
          · rw [if_neg e1]
            by_cases e2 : i = t
            · subst e2
              rw [if_pos rfl, if_pos (by omega), if_pos (by omega)]
              congr 3
              omega
            · rw [if_neg e2, hv' t ht]
              congr 2
              by_cases h : t < i ∨ n - i ≤ t
              · rw [if_pos h, if_pos (by omega)]
              · rw [if_neg h, if_neg (by omega)]
    · rw [decide_eq_false hlt]
      simp only [VS, VD, SV, SL, T, Nat.reduceEqDiff, Nat.reduceAdd, Nat.reduceSub, Nat.reduceMul, Nat.reduceLeDiff, Nat.reduceLT, reduceIte]
      refine hΨ _ _ ⟨⟨cs, hb', hs', fun t ht => ?_⟩, hg⟩
      rw [hv' t ht]
      congr 2
      by_cases h : t < i ∨ n - i ≤ t
      · rw [if_pos h]
      · rw [if_neg h]
        congr 1
        omega
/-- the blocks in the order in which the search leaves them -/
def lv (N : List (List Int)) : List Int := (vis N N.length (fun _ => false) [] 0).2
/-- the reverse post-order -/
def ord (N : List (List Int)) : List Int := (lv N).reverse
theorem uns_none (n : Nat) : uns n (fun _ => false) = n := by
  unfold uns
  have : ((List.range n).filter fun i => !(fun _ => false : Nat → Bool) i) = List.range n := List.filter_eq_self.2 (fun _ _ => rfl)
  rw [this, List.length_range]
theorem lv_spec {N : List (List Int)} (hN : NOk N) (h0 : 0 < N.length) : (∃ s', lv N = s' ++ [0]) ∧ Seg N (fun _ => false) (vis N N.length (fun _ => false) [] 0).1 [0] (lv N) ∧ Clo N (vis N N.length (fun _ => false) [] 0).1 (lv N) := by
  obtain ⟨seg, h1, h2, h3, h4⟩ := (vis_spec hN N.length).1 (fun _ => false) [] 0 h0 rfl (by rw [uns_none]; omega)
  have e : lv N = seg := by unfold lv; rw [h1]; rfl
  rw [e]
  exact ⟨h2, h3, h4⟩
theorem lv_len {N : List (List Int)} (hN : NOk N) (h0 : 0 < N.length) : (lv N).length ≤ N.length ∧ 0 < (lv N).length := by
  obtain ⟨⟨s', h1⟩, h2, h3⟩ := lv_spec hN h0
  have := h2.len
  rw [uns_none] at this
  refine ⟨by omega, by rw [h1]; simp⟩
/-- what a valid graph is -/
theorem BOkE_nok {n : Int} : ∀ (B : List Blk) (e : Int), (BOkE n e B).isSome = true → (∀ l ∈ nx B, l.length ≤ 2 ∧ (∀ m ∈ l, 0 ≤ m ∧ m < n) ∧ l.Nodup)
  | [], e, _ => by simp [nx]
  | b :: B, e, h => by
    rw [BOkE] at h
    split at h
    · rename_i hc
      have ih := BOkE_nok B _ h
      intro l hl
      unfold nx at hl
      rw [List.map_cons] at hl
      rcases List.mem_cons.1 hl with rfl | hl
      · refine ⟨hc.2.2.1, hc.2.2.2.1, ?_⟩
        have h2 := hc.2.2.1
        have h3 := hc.2.2.2.2
        revert h2 h3
        generalize b.2.2 = l
        intro h2 h3
        match l, h2, h3 with
        | [], _, _ => simp
        | [x], _, _ => simp
        | [x, y], _, h3 => simpa using h3
      · exact ih l hl
    · simp at h
theorem VG_spec {B : List Blk} {PV : List (List Int)} (h : VG B PV = true) : 0 < B.length ∧ NOk (nx B) ∧ (∀ l ∈ nx B, l.length ≤ 2) ∧ (∀ l ∈ nx B, l.Nodup) ∧ PV = prevOf (nx B) := by
  simp only [VG, Bool.and_eq_true, decide_eq_true_eq] at h
  obtain ⟨h1, h2, h3, h4⟩ := h
  have h5 := BOkE_nok B 0 h3
  refine ⟨List.length_pos_iff.2 h1, fun l hl m hm => ?_, fun l hl => (h5 l hl).1, fun l hl => (h5 l hl).2.2, h4.symm⟩
  have := (h5 l hl).2.1 m hm
  unfold nx
  rw [List.length_map]
  exact this
theorem IntO.some_of {base : Nat} {w : World} {v : Value} {L : List Int} (h : IntO base w v L) (hl : 0 < L.length) : ∃ g cap cs, v = .slice (some ⟨g, 0, none⟩) L.length cap ∧ base ≤ g ∧ w.heap[g]? = some (.cells cs 3 (0, 0)) ∧ L.length ≤ cap ∧ cap ≤ maxLen ∧ cs.size = cap ∧ ∀ t, t < L.length → cs[t]? = some (.int .i64 (L.getD t 0)) := by
  obtain ⟨h1, h2⟩ := h
  rcases h2 with ⟨rfl, h0⟩ | ⟨g, cap, cur, rfl, q1, q2, q3, q4, q5, q6⟩
  · omega
  · refine ⟨g, cap, cur, rfl, q1, q2, q3, q4, by omega, fun t ht => ?_⟩
    have : (cur.toList.take (L.length * 1))[t]? = some (.int .i64 (L.getD t 0)) := by
      rw [q6, List.getElem?_map, List.getElem?_eq_getElem ht, List.getD_eq_getElem?_getD, List.getElem?_eq_getElem ht]
      rfl
    rw [List.getElem?_take_of_lt (by omega)] at this
    simpa using this
set_option maxRecDepth 10000 in
theorem Order_spec (gv : Value) (B : List Blk) (PV : List (List Int)) (hB : B.length ≤ 2000000) (w : World) (h : GrAt w gv B PV) : VRet Try.prog 19 #[gv] w fun v w' => Ext w w' ∧ (VG B PV = false → v = .slice none 0 0) ∧ (VG B PV = true → ∃ g cap, v = .slice (some ⟨g, 0, none⟩) (ord (nx B)).length cap ∧ (ord (nx B)).length ≤ cap ∧ w.heap.size ≤ g ∧ IntsAt w' v (ord (nx B))) := by
  obtain ⟨bs, pv, rfl, hb0, hp0⟩ := h
  obtain ⟨ba, bc, rfl⟩ := hb0.form
  obtain ⟨pa, pc, rfl⟩ := hp0.form'
  have z0 : #[Value.bool false][0]! = Value.bool false := rfl
  refine VRet_start T.mo ok19 rfl fun Ψ hΨ => ?_; simp only [vc19, rs19]
  simp only [VS, VD, SV, SL, T, Nat.reduceEqDiff, Nat.reduceAdd, Nat.reduceSub, Nat.reduceMul, Nat.reduceLeDiff, Nat.reduceLT, reduceIte]
  have hE1 := (Ext.refl w).alloc (.cells #[.slice ba B.length bc, .slice pa PV.length pc] 25 (0, 0))
  have hg1 : (w.alloc (.cells #[.slice ba B.length bc, .slice pa PV.length pc] 25 (0, 0))).heap[w.heap.size]? = some (.cells #[.slice ba B.length bc, .slice pa PV.length pc] 25 (0, 0)) := alloc_get_new _ _
  generalize w.alloc (.cells #[.slice ba B.length bc, .slice pa PV.length pc] 25 (0, 0)) = w1 at *
  refine (Valid_spec _ B PV hB w1 ⟨_, _, rfl, hb0.ext hE1, hp0.ext hE1⟩).mono ?_
  rintro _ w2 ⟨rfl, hE2⟩
  have hE := hE1.trans hE2
  have hg2 := hE2.obj hg1
  have hgl := get_lt hg2
  cases hV : VG B PV with
  | false =>
    simp only [VS, VD, SV, SL, T, Nat.reduceEqDiff, Nat.reduceAdd, Nat.reduceSub, Nat.reduceMul, Nat.reduceLeDiff, Nat.reduceLT, reduceIte, Bool.not_false]
    exact hΨ _ _ ⟨hE, fun _ => rfl, fun h => by rw [hV] at h; cases h⟩
  | true =>
    obtain ⟨hB0, hN, hN2, _, _⟩ := VG_spec hV
    have hNl : (nx B).length = B.length := by unfold nx; rw [List.length_map]
    have n1 : ¬ w.heap.size = w2.heap.size := by omega
    have hsz := hE.size
    simp only [VS, VD, SV, SL, T, Nat.reduceEqDiff, Nat.reduceAdd, Nat.reduceSub, Nat.reduceMul, Nat.reduceLeDiff, Nat.reduceLT, reduceIte, Bool.not_true, hg2, n1, z0, Int.toNat_natCast]
    refine ⟨by omega, ?_⟩
    refine oV_mkf (caps := [.tmp 4, .tmp 1, .tmp 5, .tmp 3]) ?_
    simp only [VS, VD, SV, SL, T, Nat.reduceEqDiff, Nat.reduceAdd, Nat.reduceSub, Nat.reduceMul, Nat.reduceLeDiff, Nat.reduceLT, reduceIte]
    refine oV_clo (xs := [.const (.int .i64 0)]) (g := 41) (caps := #[.pointer (some ⟨w2.heap.size + 2, 0, none⟩), .pointer (some ⟨w.heap.size, 0, none⟩), .pointer (some ⟨w2.heap.size + 3, 0, none⟩), .pointer (some ⟨w2.heap.size, 0, none⟩)]) (by simp only [VS, VD, SV, SL, T, Nat.reduceEqDiff, Nat.reduceAdd, Nat.reduceSub, Nat.reduceMul, Nat.reduceLeDiff, Nat.reduceLT, reduceIte]) T.en41 ?_
    simp only [VS, VD, SV, SL, T, Nat.reduceEqDiff, Nat.reduceAdd, Nat.reduceSub, Nat.reduceMul, Nat.reduceLeDiff, Nat.reduceLT, reduceIte]
    refine (visit_spec hN rfl (z := w.heap.size) (m := w2.heap.size) (Nat.le_refl _) (by omega) hb0 hB hN2 (nx B).length (fun _ => false) [] 0 (by omega) rfl (by rw [uns_none]; omega) (by rw [uns_none]; simp) _ (pv := .slice pa PV.length pc) ?_).mono ?_
    · have q1 : ¬ w.heap.size = w2.heap.size + 1 := by omega
      have q2 : ¬ w.heap.size = w2.heap.size + 2 := by omega
      have q3 : ¬ w.heap.size = w2.heap.size + 3 := by omega
      refine ⟨?_, ?_, ⟨.slice none 0 0, ?_, World.ownsRow_nil _ _ _ _⟩, ?_, ?_, ?_⟩
      · exact (((((hE.alloc _).alloc _).alloc _).putb (by omega) _).alloc _).putb (by omega) _
      · simp only [VS, VD, SV, SL, T, Nat.reduceEqDiff, Nat.reduceAdd, Nat.reduceSub, Nat.reduceMul, Nat.reduceLeDiff, Nat.reduceLT, reduceIte, hg2, n1, q1, q2, q3]
      · simp only [VS, VD, SV, SL, T, Nat.reduceEqDiff, Nat.reduceAdd, Nat.reduceSub, Nat.reduceMul, Nat.reduceLeDiff, Nat.reduceLT, reduceIte]
      · simp only [VS, VD, SV, SL, T, Nat.reduceEqDiff, Nat.reduceAdd, Nat.reduceSub, Nat.reduceMul, Nat.reduceLeDiff, Nat.reduceLT, reduceIte]
        rw [hNl]
      · simp only [VS, VD, SV, SL, T, Nat.reduceEqDiff, Nat.reduceAdd, Nat.reduceSub, Nat.reduceMul, Nat.reduceLeDiff, Nat.reduceLT, reduceIte]
      · refine ⟨Array.replicate B.length (.bool false), by simp only [VS, VD, SV, SL, T, Nat.reduceEqDiff, Nat.reduceAdd, Nat.reduceSub, Nat.reduceMul, Nat.reduceLeDiff, Nat.reduceLT, reduceIte], by simp [hNl], fun i hi => ?_⟩
        rw [hNl] at hi
        simp [hi]
    · rintro _ w3 hV3
      have hlvl := lv_len hN (by omega)
      obtain ⟨hext3, hg3, ⟨lvv, hl3, hlo3⟩, hs3, hf3, hq3⟩ := hV3
      have hlo3' : IntO (w2.heap.size + 4) w3 lvv (lv (nx B)) := hlo3
      obtain ⟨g, cap, cs, rfl, hgb, hgh, hcap, hcm, hcs, hcv⟩ := hlo3'.some_of hlvl.2
      simp only [VS, VD, SV, SL, T, Nat.reduceEqDiff, Nat.reduceAdd, Nat.reduceSub, Nat.reduceMul, Nat.reduceLeDiff, Nat.reduceLT, reduceIte, hl3]
      refine (Reverse_spec g (lv (nx B)).length cap (by omega) hcap _ cs hcs hcv w3 hgh).mono ?_
      rintro _ w4 ⟨⟨cs4, hg4, hcs4, hcv4⟩, hgr4⟩
      have hl4 : w4.heap[w2.heap.size]? = some (.cells #[.slice (some ⟨g, 0, none⟩) (lv (nx B)).length cap] 36 (0, 0)) := by
        rw [hgr4.block _ (get_lt hl3) (by simp; omega)]; exact hl3
      simp only [VS, VD, SV, SL, T, Nat.reduceEqDiff, Nat.reduceAdd, Nat.reduceSub, Nat.reduceMul, Nat.reduceLeDiff, Nat.reduceLT, reduceIte, hl4]
      have hol : (ord (nx B)).length = (lv (nx B)).length := by unfold ord; rw [List.length_reverse]
      refine hΨ _ _ ⟨hext3.grown hgr4 (fun k hk => by simp only [Option.some.injEq] at hk; omega), fun h => (by rw [hV] at h; cases h), fun _ => ⟨g, cap, by rw [hol], by omega, by omega, .inr ⟨g, 0, cap, by rw [hol], fun i x hx => ?_⟩⟩⟩
      have hi := (List.getElem?_eq_some_iff.1 hx).1
      rw [cell_mk, hg4]
      simp only [Nat.zero_add]
      rw [hcv4 i (by omega)]
      unfold ord at hx
      rw [List.getElem?_reverse (by omega)] at hx
      rw [List.getD_eq_getElem?_getD, hx]
      simp
end Go.Proofs.Ytlhlbiaibgmapaa

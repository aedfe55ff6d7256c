/-
  The library's slices of integers: Index, Delete.
-/
import Derived.Test.YtblogcihkjhgkaaCA
set_option linter.unusedSimpArgs false
set_option linter.unusedVariables false
namespace Go.Proofs.Ytblogcihkjhgkaa
open Go.W Go.RowKit
def idxI (l : List Int) (x : Int) : Int := match l.idxOf? x with | some i => i | none => -1
theorem idxOf?_take {l : List Int} {x : Int} {i : Nat} (hi : i < l.length) (h : x ∉ l.take i) (he : l[i] = x) : l.idxOf? x = some i := by
  rw [List.idxOf?, List.findIdx?_eq_some_iff_getElem]
  refine ⟨hi, by simp [he], fun j hj => ?_⟩
  simp only [beq_iff_eq]
  intro hx
  exact h (by rw [List.mem_take_iff_getElem]; exact ⟨j, by omega, hx⟩)
set_option maxRecDepth 10000 in
theorem Index_spec (v : Value) (l : List Int) (hl : l.length ≤ 1000000) (x : Int) (w : World) (h : IntsAt w v l) : VRet Try.prog 37 #[v, .int .i64 x] w fun v w' => v = .int .i64 (idxI l x) ∧ Ext w w' := by
  obtain ⟨a, c, rfl⟩ := h.form
  refine VRet_start T.mo ok37 rfl fun Ψ hΨ => ?_; simp only [vc37, rs37]
  simp only [VS, VD, SV, SL, T, Nat.reduceEqDiff, Nat.reduceAdd, Nat.reduceSub, Nat.reduceMul, Nat.reduceLeDiff, Nat.reduceLT, reduceIte]
  refine LoopP_intro (α := Nat) (fun i f' w' => f' 0 = .slice a l.length c ∧ f' 1 = .int .i64 x ∧ f' 7 = .int .i64 l.length ∧ f' 8 = .int .i64 i ∧ i ≤ l.length ∧ w' = w ∧ x ∉ l.take i) (fun i => l.length - i) 0 ?_ ?_
  · simp only [VS, VD, SV, SL, T, Nat.reduceEqDiff, Nat.reduceAdd, Nat.reduceSub, Nat.reduceMul, Nat.reduceLeDiff, Nat.reduceLT, reduceIte]
    exact ⟨rfl, by omega, by simp⟩
  · rintro i f' w' ⟨f0, f1, f7, f8, hi, rfl, hx⟩
    simp only [VS, VD, SV, SL, T, Nat.reduceEqDiff, Nat.reduceAdd, Nat.reduceSub, Nat.reduceMul, Nat.reduceLeDiff, Nat.reduceLT, reduceIte, f8, f7]
    refine cnd_d (fun hlt => ?_) (fun hlt => ?_)
    · have hi' : i < l.length := by omega
      obtain ⟨b, off, cs, e, fz, rfl, _, hb, hc⟩ := h.get (i := i) (x := l[i]) (by simp [hi'])
      simp only [VS, VD, SV, SL, T, Nat.reduceEqDiff, Nat.reduceAdd, Nat.reduceSub, Nat.reduceMul, Nat.reduceLeDiff, Nat.reduceLT, reduceIte, f8, f7, f0, f1, hb, Int.toNat_natCast, hc]
      refine ⟨by omega, cnd_d (fun hq => ?_) (fun hq => ?_)⟩
      · simp only [VS, VD, SV, SL, T, Nat.reduceEqDiff, Nat.reduceAdd, Nat.reduceSub, Nat.reduceMul, Nat.reduceLeDiff, Nat.reduceLT, reduceIte, f8]
        exact hΨ _ _ ⟨by rw [idxI, idxOf?_take hi' hx hq.symm], Ext.refl _⟩
      · simp only [VS, VD, SV, SL, T, Nat.reduceEqDiff, Nat.reduceAdd, Nat.reduceSub, Nat.reduceMul, Nat.reduceLeDiff, Nat.reduceLT, reduceIte, f8]
        refine ⟨by omega, i + 1, ⟨f0, f1, f7, by simp, by omega, fun hm => ?_⟩, by omega⟩
        rw [List.take_succ_eq_append_getElem hi'] at hm
        rcases List.mem_append.1 hm with hm | hm
        · exact hx hm
        · exact hq (by simpa using hm)
    · simp only [VS, VD, SV, SL, T, Nat.reduceEqDiff, Nat.reduceAdd, Nat.reduceSub, Nat.reduceMul, Nat.reduceLeDiff, Nat.reduceLT, reduceIte]
      refine hΨ _ _ ⟨?_, Ext.refl _⟩
      rw [List.take_of_length_le (by omega)] at hx
      rw [idxI, List.idxOf?_eq_none_iff.2 hx]
set_option maxRecDepth 10000 in
theorem Delete_spec (base : Nat) (v : Value) (n : Nat) (xs : List Value) (hn : n ≤ 1000) (i : Nat) (hi : i < n) (w : World) (h : w.ownsRow base 3 1 v n xs) (h1 : ∀ u ∈ xs, one u = true) :
    VRet Try.prog 34 #[v, .int .i64 i, .int .i64 ((i + 1 : Nat) : Int)] w fun v' w' => w'.ownsRow base 3 1 v' (n - 1) (xs.eraseIdx i) ∧ w.grownBy w' v.ownBlock ∧ v'.ownBlock = v.ownBlock := by
  obtain ⟨hlen, h | ⟨g, cap, cur, rfl, hbase, hg, hcap, hmax, hsz, hcur⟩⟩ := h
  · omega
  simp only [Nat.mul_one] at hlen hsz hcur
  refine VRet_start T.mo ok34 rfl fun Ψ hΨ => ?_; simp only [vc34, rs34]
  simp only [VS, VD, SV, SL, T, Nat.reduceEqDiff, Nat.reduceAdd, Nat.reduceSub, Nat.reduceMul, Nat.reduceLeDiff, Nat.reduceLT, reduceIte, oV_slice3]
  refine rV_slice3 (h := i + 1) T.el32 T.sz3 (by omega) (by omega) hcap ?_
  simp only [VS, VD, SV, SL, T, Nat.reduceEqDiff, Nat.reduceAdd, Nat.reduceSub, Nat.reduceMul, Nat.reduceLeDiff, Nat.reduceLT, reduceIte]
  refine cnd_d (fun hq => by omega) (fun _ => ?_)
  simp only [VS, VD, SV, SL, T, Nat.reduceEqDiff, Nat.reduceAdd, Nat.reduceSub, Nat.reduceMul, Nat.reduceLeDiff, Nat.reduceLT, reduceIte]
  refine DW_intro (fun _ _ _ _ => True) ?_
  simp only [VS, VD, SV, SL, T, Nat.reduceEqDiff, Nat.reduceAdd, Nat.reduceSub, Nat.reduceMul, Nat.reduceLeDiff, Nat.reduceLT, reduceIte, sSlice_hi (w := w) T.es32 (show i ≤ cap by omega), sSlice_lo (w := w) (c := cap) T.es32 (show i + 1 ≤ n by omega)]
  intro w1 hE _
  simp only [VS, VD, SV, SL, T, Nat.reduceEqDiff, Nat.reduceAdd, Nat.reduceSub, Nat.reduceMul, Nat.reduceLeDiff, Nat.reduceLT, reduceIte]
  have hm : i + (n - (i + 1)) = n - 1 := by omega
  have hext : (cur.extract (if cap = i + 1 then 0 else i + 1) ((if cap = i + 1 then 0 else i + 1) + (n - (i + 1)))).toList = xs.drop (i + 1) := by
    rw [Array.toList_extract, List.extract_eq_take_drop, ← hcur]
    split
    · rw [List.drop_of_length_le (Nat.le_trans (List.length_take_le _ _) (by omega)), show 0 + (n - (i + 1)) - 0 = 0 by omega]; simp
    · rw [List.drop_take, Nat.add_sub_cancel_left]
  refine rV_appIn (o := 0) T.el32 T.sz3 (hE.obj hg) (hE.obj hg) (by omega) (by omega) (by split <;> omega) ?_ ?_
  · intro u hu
    rw [hext] at hu
    exact h1 u (List.mem_of_mem_drop hu)
  rw [hext, hm, Nat.zero_add]
  simp only [VS, VD, SV, SL, T, Nat.reduceEqDiff, Nat.reduceAdd, Nat.reduceSub, Nat.reduceMul, Nat.reduceLeDiff, Nat.reduceLT, reduceIte, sSlice_lh (c := cap) T.es32 (show n - 1 ≤ n by omega) hcap, oV_clear]
  have hxs : xs.length = n := hlen
  have hc1 : (spl cur i (xs.drop (i + 1))).size = cap := by rw [spl_size, hsz]
  refine rV_clear T.el32 T.zr3 rfl rfl (putb_get_same (get_lt (hE.obj hg)) _) (by rw [hc1]; split <;> omega) ?_
  rw [putb_putb]
  simp only [VS, VD, SV, SL, T, Nat.reduceEqDiff, Nat.reduceAdd, Nat.reduceSub, Nat.reduceMul, Nat.reduceLeDiff, Nat.reduceLT, reduceIte]
  refine hΨ _ _ ⟨⟨?_, .inr ⟨g, cap, _, rfl, hbase, putb_get_same (get_lt (hE.obj hg)) _, by omega, hmax, by rw [spl_size, hc1, Nat.mul_one], ?_⟩⟩, ?_, rfl⟩
  · rw [List.length_eraseIdx, if_pos (by omega)]; omega
  · have ho : ∀ o, (o = n - 1 ∧ n - (n - 1) = 1) → ((spl (spl cur i (xs.drop (i + 1))) o (List.replicate (n - (n - 1)) (Value.int .i64 0))).toList.take ((n - 1) * 1)) = xs.eraseIdx i := by
      rintro o ⟨rfl, e1⟩
      rw [e1, spl_list _ _ _ (by rw [hc1]; simp; omega), spl_list _ _ _ (by simp; omega), Nat.mul_one]
      rw [List.append_assoc, List.take_append_of_le_length (by simp; omega), List.take_take, Nat.min_self]
      rw [List.take_append_of_le_length (by simp; omega), List.take_of_length_le (by simp; omega), List.eraseIdx_eq_take_drop_succ]
      congr 1
      rw [← hcur, List.take_take, Nat.min_eq_left (by omega)]
    split
    · exfalso; omega
    · exact ho _ ⟨rfl, by omega⟩
  · exact ⟨hE.os, hE.tape, hE.output, by rw [putb_size]; exact hE.size, fun k hk hne => by rw [putb_get_ne (by intro e; subst e; exact hne rfl)]; exact hE.get k hk⟩
end Go.Proofs.Ytblogcihkjhgkaa

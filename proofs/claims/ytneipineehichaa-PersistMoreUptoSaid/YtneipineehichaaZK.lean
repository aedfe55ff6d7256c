/-
  The library's slices of integers: Index, Delete.
-/
import Derived.Test.YtneipineehichaaZCA
import Derived.Lib.Overlaps
set_option linter.unusedSimpArgs false
set_option linter.unusedVariables false
namespace Go.Proofs.Ytneipineehichaa.C
open Go.W Go.RowKit
def idxI (l : List Int) (x : Int) : Int := match l.idxOf? x with | some i => i | none => -1
theorem idxOf?_take {l : List Int} {x : Int} {i : Nat} (hi : i < l.length) (h : x ∉ l.take i) (he : l[i] = x) : l.idxOf? x = some i := by
  rw [List.idxOf?, List.findIdx?_eq_some_iff_getElem]
  refine ⟨hi, by simp [he], fun j hj => ?_⟩
  simp only [beq_iff_eq]
  intro hx
  exact h (by rw [List.mem_take_iff_getElem]; exact ⟨j, by omega, hx⟩)
set_option maxRecDepth 10000 in
theorem Index_spec (v : Value) (l : List Int) (hl : l.length ≤ 1000000) (x : Int) (w : World) (h : IntsAt w v l) : VRet Try.prog 44 #[v, .int .i64 x] w fun v w' => v = .int .i64 (idxI l x) ∧ Ext w w' := by
  obtain ⟨a, c, rfl⟩ := h.form
  refine VRet_start T.mo ok44 rfl fun Ψ hΨ => ?_; simp only [vc44, rs44]
  simp only [VS, VD, SV, SL, T, Nat.reduceEqDiff, Nat.reduceAdd, Nat.reduceSub, Nat.reduceMul, Nat.reduceLeDiff, Nat.reduceLT, reduceIte]
  refine LoopP_intro (α := Nat) (fun i f' w' => f' 0 = .slice a l.length c ∧ f' 1 = .int .i64 x ∧ f' 7 = .int .i64 l.length ∧ f' 8 = .int .i64 i ∧ i ≤ l.length ∧ w' = w ∧ x ∉ l.take i) (fun i => l.length - i) 0 ?_ ?_
  · simp only [VS, VD, SV, SL, T, Nat.reduceEqDiff, Nat.reduceAdd, Nat.reduceSub, Nat.reduceMul, Nat.reduceLeDiff, Nat.reduceLT, reduceIte]
    exact ⟨rfl, by omega, by simp⟩
  · rintro i f' w' ⟨f0, f1, f7, f8, hi, rfl, hx⟩
    simp only [VS, VD, SV, SL, T, Nat.reduceEqDiff, Nat.reduceAdd, Nat.reduceSub, Nat.reduceMul, Nat.reduceLeDiff, Nat.reduceLT, reduceIte, f8, f7]
    refine cnd_d (fun hlt => ?_) (fun hlt => ?_)
    · have hi' : i < l.length := by omega
      obtain ⟨b, off, cs, e, fz, rfl, _, hb, hc⟩ := h.get (i := i) (x := l[i]) (by simp [hi'])
      simp only [VS, VD, SV, SL, T, Nat.reduceEqDiff, Nat.reduceAdd, Nat.reduceSub, Nat.reduceMul, Nat.reduceLeDiff, Nat.reduceLT, reduceIte, f8, f7, f0, f1, hb, Int.toNat_natCast, hc]
      refine ⟨by omega, cnd_d (fun hq => ?_) (fun hq => ?_)⟩
      · simp only [VS, VD, SV, SL, T, Nat.reduceEqDiff, Nat.reduceAdd, Nat.reduceSub, Nat.reduceMul, Nat.reduceLeDiff, Nat.reduceLT, reduceIte, f8]
        exact hΨ _ _ ⟨by rw [idxI, idxOf?_take hi' hx hq.symm], Ext.refl _⟩
      · simp only [VS, VD, SV, SL, T, Nat.reduceEqDiff, Nat.reduceAdd, Nat.reduceSub, Nat.reduceMul, Nat.reduceLeDiff, Nat.reduceLT, reduceIte, f8]
        refine ⟨by omega, i + 1, ⟨f0, f1, f7, by simp, by omega, fun hm => ?_⟩, by omega⟩
        rw [List.take_succ_eq_append_getElem hi'] at hm
        rcases List.mem_append.1 hm with hm | hm
        · exact hx hm
        · exact hq (by simpa using hm)
    · simp only [VS, VD, SV, SL, T, Nat.reduceEqDiff, Nat.reduceAdd, Nat.reduceSub, Nat.reduceMul, Nat.reduceLeDiff, Nat.reduceLT, reduceIte]
      refine hΨ _ _ ⟨?_, Ext.refl _⟩
      rw [List.take_of_length_le (by omega)] at hx
      rw [idxI, List.idxOf?_eq_none_iff.2 hx]
set_option maxRecDepth 10000 in
theorem Delete_spec (base : Nat) (v : Value) (n : Nat) (xs : List Value) (hn : n ≤ 1000) (i : Nat) (hi : i < n) (w : World) (h : w.ownsRow base 3 1 v n xs) (h1 : ∀ u ∈ xs, one u = true) :
    VRet Try.prog 38 #[v, .int .i64 i, .int .i64 ((i + 1 : Nat) : Int)] w fun v' w' => w'.ownsRow base 3 1 v' (n - 1) (xs.eraseIdx i) ∧ w.grownBy w' v.ownBlock ∧ v'.ownBlock = v.ownBlock := by
  obtain ⟨hlen, h | ⟨g, cap, cur, rfl, hbase, hg, hcap, hmax, hsz, hcur⟩⟩ := h
  · omega
  simp only [Nat.mul_one] at hlen hsz hcur
  refine VRet_start T.mo ok38 rfl fun Ψ hΨ => ?_; simp only [vc38, rs38]
  simp only [VS, VD, SV, SL, T, Nat.reduceEqDiff, Nat.reduceAdd, Nat.reduceSub, Nat.reduceMul, Nat.reduceLeDiff, Nat.reduceLT, reduceIte, oV_slice3]
  refine rV_slice3 (h := i + 1) T.el29 T.sz3 (by omega) (by omega) hcap ?_
  simp only [VS, VD, SV, SL, T, Nat.reduceEqDiff, Nat.reduceAdd, Nat.reduceSub, Nat.reduceMul, Nat.reduceLeDiff, Nat.reduceLT, reduceIte]
  refine cnd_d (fun hq => by omega) (fun _ => ?_)
  simp only [VS, VD, SV, SL, T, Nat.reduceEqDiff, Nat.reduceAdd, Nat.reduceSub, Nat.reduceMul, Nat.reduceLeDiff, Nat.reduceLT, reduceIte]
  refine DW_intro (fun _ _ _ _ => True) ?_
  simp only [VS, VD, SV, SL, T, Nat.reduceEqDiff, Nat.reduceAdd, Nat.reduceSub, Nat.reduceMul, Nat.reduceLeDiff, Nat.reduceLT, reduceIte, sSlice_hi (w := w) T.es29 (show i ≤ cap by omega), sSlice_lo (w := w) (c := cap) T.es29 (show i + 1 ≤ n by omega)]
  intro w1 hE _
  simp only [VS, VD, SV, SL, T, Nat.reduceEqDiff, Nat.reduceAdd, Nat.reduceSub, Nat.reduceMul, Nat.reduceLeDiff, Nat.reduceLT, reduceIte]
  have hm : i + (n - (i + 1)) = n - 1 := by omega
  have hext : (cur.extract (if cap = i + 1 then 0 else i + 1) ((if cap = i + 1 then 0 else i + 1) + (n - (i + 1)))).toList = xs.drop (i + 1) := by
    rw [Array.toList_extract, List.extract_eq_take_drop, ← hcur]
    split
    · rw [List.drop_of_length_le (Nat.le_trans (List.length_take_le _ _) (by omega)), show 0 + (n - (i + 1)) - 0 = 0 by omega]; simp
    · rw [List.drop_take, Nat.add_sub_cancel_left]
  refine rV_appIn (o := 0) T.el29 T.sz3 (hE.obj hg) (hE.obj hg) (by omega) (by omega) (by split <;> omega) ?_ ?_
  · intro u hu
    rw [hext] at hu
    exact h1 u (List.mem_of_mem_drop hu)
  rw [hext, hm, Nat.zero_add]
  simp only [VS, VD, SV, SL, T, Nat.reduceEqDiff, Nat.reduceAdd, Nat.reduceSub, Nat.reduceMul, Nat.reduceLeDiff, Nat.reduceLT, reduceIte, sSlice_lh (c := cap) T.es29 (show n - 1 ≤ n by omega) hcap, oV_clear]
  have hxs : xs.length = n := hlen
  have hc1 : (spl cur i (xs.drop (i + 1))).size = cap := by rw [spl_size, hsz]
  refine rV_clear T.el29 T.zr3 rfl rfl (putb_get_same (get_lt (hE.obj hg)) _) (by rw [hc1]; split <;> omega) ?_
  rw [putb_putb]
  simp only [VS, VD, SV, SL, T, Nat.reduceEqDiff, Nat.reduceAdd, Nat.reduceSub, Nat.reduceMul, Nat.reduceLeDiff, Nat.reduceLT, reduceIte]
  refine hΨ _ _ ⟨⟨?_, .inr ⟨g, cap, _, rfl, hbase, putb_get_same (get_lt (hE.obj hg)) _, by omega, hmax, by rw [spl_size, hc1, Nat.mul_one], ?_⟩⟩, ?_, rfl⟩
  · rw [List.length_eraseIdx, if_pos (by omega)]; omega
  · have ho : ∀ o, (o = n - 1 ∧ n - (n - 1) = 1) → ((spl (spl cur i (xs.drop (i + 1))) o (List.replicate (n - (n - 1)) (Value.int .i64 0))).toList.take ((n - 1) * 1)) = xs.eraseIdx i := by
      rintro o ⟨rfl, e1⟩
      rw [e1, spl_list _ _ _ (by rw [hc1]; simp; omega), spl_list _ _ _ (by simp; omega), Nat.mul_one]
      rw [List.append_assoc, List.take_append_of_le_length (by simp; omega), List.take_take, Nat.min_self]
      rw [List.take_append_of_le_length (by simp; omega), List.take_of_length_le (by simp; omega), List.eraseIdx_eq_take_drop_succ]
      congr 1
      rw [← hcur, List.take_take, Nat.min_eq_left (by omega)]
    split
    · exfalso; omega
    · exact ho _ ⟨rfl, by omega⟩
  · exact ⟨hE.os, hE.tape, hE.output, by rw [putb_size]; exact hE.size, fun k hk hne => by rw [putb_get_ne (by intro e; subst e; exact hne rfl)]; exact hE.get k hk⟩
end Go.Proofs.Ytneipineehichaa.C
set_option linter.unusedSimpArgs false
set_option linter.unusedVariables false
namespace Go.Proofs.Ytneipineehichaa.C
open Go.W Go.RowKit
set_option maxRecDepth 10000 in
theorem overlaps_spec (a b n c o m d : Nat) (ca cb : Array Value) (w : World) (ha : w.heap[a]? = some (.cells ca 3 (0, 0))) (hb : w.heap[b]? = some (.cells cb 3 (0, 0))) (hne : a ≠ b) (hk : cb.size ≠ 0) :
    VRet Try.prog 45 #[.slice (some ⟨a, 0, none⟩) n c, .slice (some ⟨b, o, none⟩) m d] w fun v w' => v = .bool false ∧ w' = w := by
  refine .inr fun T0 wa hw hT os ts ty f hos => ?_
  subst hw
  obtain ⟨hTa, ha⟩ := tombW_cells ha
  obtain ⟨hTb, hb⟩ := tombW_cells hb
  have hrun : (callFunc 45 #[.slice (some ⟨a, 0, none⟩) n c, .slice (some ⟨b, o, none⟩) m d]).run Try.prog wa = .ok (.value (.bool false)) wa := by
    rw [run_callFunc_extern Try.func45 (by kernel_rfl) (by kernel_rfl) (by kernel_rfl) (e := Extern.SlicesOverlaps.overlaps #[29, 29] #[4]) (by kernel_rfl),
      Lib.run_overlaps_apart wa 29 4 3 (elt_spec T.el29) 1 (fun w => Go.W.run_sizeOf T.sz3 w) ⟨a, 0, none⟩ ⟨b, o, none⟩ n c m d hne 3 3 ca.size cb.size (by simp [World.shape?, ha]) (by simp [World.shape?, hb]) hk (by simp [World.frozen?, ha]) (by simp [World.frozen?, ha])]
    rfl
  have e : (invoke (.fn (.func 45) #[]) (os.map (ev f))).run Try.prog wa = .ok (.value (.bool false)) wa := by
    rw [hos]
    simp [invoke, hrun]
  simp only [raw, execOp, resolve, ev, Deferred.ofValue, Go.W.run_bind, Sem.run, pure, Array.empty_append, e, upon]
  exact ⟨T0, Kp.refl hT, rfl, rfl⟩
set_option maxRecDepth 100000 in
theorem Insert_room (g cap n : Nat) (cur : Array Value) (xs : List Value) (hn : n ≤ 200) (h0 : 0 < n) (hroom : n + 1 ≤ cap) (x : Value) (b2 : Nat) (w : World) (hg : w.heap[g]? = some (.cells cur 3 (0, 0))) (hsz : cur.size = cap) (hcur : cur.toList.take n = xs) (hb2 : w.heap[b2]? = some (.cells #[x] 3 (0, 0))) (hne : b2 ≠ g) (hx : one x = true) (h1 : ∀ u ∈ xs, one u = true) :
    VRet Try.prog 39 #[.slice (some ⟨g, 0, none⟩) n cap, .int .i64 0, .slice (some ⟨b2, 0, none⟩) 1 1] w fun v' w' => v' = .slice (some ⟨g, 0, none⟩) (n + 1) cap ∧
      (∃ cur', w'.heap[g]? = some (.cells cur' 3 (0, 0)) ∧ cur'.size = cap ∧ cur'.toList.take (n + 1) = x :: xs) ∧ w.grownBy w' (some g) := by
  refine VRet_start T.mo ok39 rfl fun Ψ hΨ => ?_; simp only [vc39, rs39]
  simp only [VS, VD, SV, SL, T, Nat.reduceEqDiff, Nat.reduceAdd, Nat.reduceSub, Nat.reduceMul, Nat.reduceLeDiff, Nat.reduceLT, reduceIte, sSlice_lo0 (w := w) T.es29]
  refine cnd_d (fun hq => by exfalso; omega) (fun _ => ?_)
  simp only [VS, VD, SV, SL, T, Nat.reduceEqDiff, Nat.reduceAdd, Nat.reduceSub, Nat.reduceMul, Nat.reduceLeDiff, Nat.reduceLT, reduceIte]
  refine cnd_d (fun hq => by exfalso; omega) (fun _ => ?_)
  have c1 : ((1 : Nat) : Int) = 1 := rfl
  have cn : (n : Int) + 1 = ((n + 1 : Nat) : Int) := by omega
  simp only [VS, VD, SV, SL, T, Nat.reduceEqDiff, Nat.reduceAdd, Nat.reduceSub, Nat.reduceMul, Nat.reduceLeDiff, Nat.reduceLT, reduceIte, oV_cap, c1, cn]
  refine ⟨by omega, rV_cap T.el29 ?_⟩
  simp only [VS, VD, SV, SL, T, Nat.reduceEqDiff, Nat.reduceAdd, Nat.reduceSub, Nat.reduceMul, Nat.reduceLeDiff, Nat.reduceLT, reduceIte, c1, cn]
  have hnr : ¬ ((cap : Int) < ((n + 1 : Nat) : Int)) := by omega
  have hnd := decide_eq_false hnr
  rw [hnd]
  have hc : (0 : Int) ≤ ((n + 1 : Nat) : Int) ∧ ((n + 1 : Nat) : Int) ≤ (cap : Int) := by omega
  have hc2 : (1 : Int) ≤ ((n + 1 : Nat) : Int) := by omega
  have hcap1 : ¬ (cap = 1) := by omega
  have hr : -9223372036854775808 ≤ ((n + 1 : Nat) : Int) ∧ ((n + 1 : Nat) : Int) ≤ 9223372036854775807 := by omega
  simp only [VS, VD, SV, SL, T, Nat.reduceEqDiff, Nat.reduceAdd, Nat.reduceSub, Nat.reduceMul, Nat.reduceLeDiff, Nat.reduceLT, reduceIte, c1, cn, hc.1, hc.2, hc2, hcap1, hr.1, hr.2, and_self, Int.zero_add, Int.reduceLE, true_and, Option.bind_some, Int.toNat_natCast, Option.map_some, add_mk, ite_self, Nat.sub_zero, Nat.add_zero, Int.reduceToNat]
  refine (overlaps_spec b2 g 1 1 1 n (cap - 1) #[x] cur w hb2 hg hne (by omega)).mono ?_
  rintro _ w2 ⟨rfl, h3⟩
  rw [h3]
  simp only [VS, VD, SV, SL, T, Nat.reduceEqDiff, Nat.reduceAdd, Nat.reduceSub, Nat.reduceMul, Nat.reduceLeDiff, Nat.reduceLT, reduceIte]
  refine DW_intro (fun _ _ _ _ => True) ?_
  simp only [VS, VD, SV, SL, T, Nat.reduceEqDiff, Nat.reduceAdd, Nat.reduceSub, Nat.reduceMul, Nat.reduceLeDiff, Nat.reduceLT, reduceIte, c1, cn, hc.1, hc.2, hc2, hcap1, hr.1, hr.2, and_self, Int.zero_add, Int.reduceLE, true_and, Option.bind_some, Int.toNat_natCast, Option.map_some, add_mk, ite_self, Nat.sub_zero, Nat.add_zero, Int.reduceToNat]
  intro w1 hE _
  simp only [VS, VD, SV, SL, T, Nat.reduceEqDiff, Nat.reduceAdd, Nat.reduceSub, Nat.reduceMul, Nat.reduceLeDiff, Nat.reduceLT, reduceIte]
  have hm1 : Nat.min (n + 1) (n + 1 - 1) = n := by simp [Nat.min_def]
  have hext : (cur.extract 0 (0 + n)).toList = xs := by rw [Array.toList_extract, List.extract_eq_take_drop, ← hcur]; simp
  have hxl : xs.length = n := by rw [← hcur]; simp; omega
  refine rV_copy (o := 1) (o' := 0) T.el29 T.sz3 (hE.obj hg) (hE.obj hg) (by omega) (by omega) ?_ ?_
  · intro u hu
    rw [hm1, hext] at hu
    exact h1 u hu
  rw [hm1, hext]
  simp only [VS, VD, SV, SL, T, Nat.reduceEqDiff, Nat.reduceAdd, Nat.reduceSub, Nat.reduceMul, Nat.reduceLeDiff, Nat.reduceLT, reduceIte, c1, cn, hc.1, hc.2, hc2, hcap1, hr.1, hr.2, and_self, Int.zero_add, Int.reduceLE, true_and, Option.bind_some, Int.toNat_natCast, Option.map_some, add_mk, ite_self, Nat.sub_zero, Nat.add_zero, Int.reduceToNat]
  have hm2 : Nat.min 1 (n + 1) = 1 := by simp [Nat.min_def]
  refine rV_copy (o := 0) (o' := 0) T.el29 T.sz3 (putb_get_same (get_lt (hE.obj hg)) _) ((putb_get_ne hne _).trans (hE.obj hb2)) (by rw [spl_size]; omega) (by simp) ?_ ?_
  · intro u hu
    rw [hm2] at hu
    simp at hu
    rw [hu]; exact hx
  rw [hm2, putb_putb]
  simp only [VS, VD, SV, SL, T, Nat.reduceEqDiff, Nat.reduceAdd, Nat.reduceSub, Nat.reduceMul, Nat.reduceLeDiff, Nat.reduceLT, reduceIte]
  refine hΨ _ _ ⟨rfl, ⟨_, putb_get_same (get_lt (hE.obj hg)) _, by rw [Array.size_setIfInBounds, spl_size, hsz], ?_⟩, ?_⟩
  · rw [show (spl cur 1 xs).setIfInBounds 0 x = spl (spl cur 1 xs) 0 [x] from rfl, spl_list _ _ _ (by rw [spl_size]; simp; omega), spl_list _ _ _ (by omega)]
    simp only [List.take_zero, List.nil_append, List.length_singleton, Nat.zero_add, List.singleton_append, List.take_succ_cons, List.cons.injEq, true_and]
    rw [List.append_assoc, List.drop_append_of_le_length (by simp; omega), List.drop_of_length_le (by simp; omega), List.nil_append, List.take_append_of_le_length (by omega), List.take_of_length_le (by omega)]
  · exact ⟨hE.os, hE.tape, hE.output, by rw [putb_size]; exact hE.size, fun k hk hne => by rw [putb_get_ne (by intro e; subst e; exact hne rfl)]; exact hE.get k hk⟩
set_option maxRecDepth 100000 in
theorem Insert_grow (g cap n : Nat) (cur : Array Value) (xs : List Value) (hn : n ≤ 200) (h0 : 0 < n) (hnc : n ≤ cap) (hroom : cap < n + 1) (x : Value) (b2 : Nat) (w : World) (hg : w.heap[g]? = some (.cells cur 3 (0, 0))) (hsz : cur.size = cap) (hcur : cur.toList.take n = xs) (hb2 : w.heap[b2]? = some (.cells #[x] 3 (0, 0))) (hx : one x = true) (h1 : ∀ u ∈ xs, one u = true) :
    VRet Try.prog 39 #[.slice (some ⟨g, 0, none⟩) n cap, .int .i64 0, .slice (some ⟨b2, 0, none⟩) 1 1] w fun v' w' => ∃ cap', v' = .slice (some ⟨w.heap.size, 0, none⟩) (n + 1) cap' ∧ n + 1 ≤ cap' ∧ cap' ≤ maxLen ∧
      (∃ cur', w'.heap[w.heap.size]? = some (.cells cur' 3 (0, 0)) ∧ cur'.size = cap' ∧ cur'.toList.take (n + 1) = x :: xs) ∧ Ext w w' := by
  refine VRet_start T.mo ok39 rfl fun Ψ hΨ => ?_; simp only [vc39, rs39]
  simp only [VS, VD, SV, SL, T, Nat.reduceEqDiff, Nat.reduceAdd, Nat.reduceSub, Nat.reduceMul, Nat.reduceLeDiff, Nat.reduceLT, reduceIte, sSlice_lo0 (w := w) T.es29]
  refine cnd_d (fun hq => by exfalso; omega) (fun _ => ?_)
  simp only [VS, VD, SV, SL, T, Nat.reduceEqDiff, Nat.reduceAdd, Nat.reduceSub, Nat.reduceMul, Nat.reduceLeDiff, Nat.reduceLT, reduceIte]
  refine cnd_d (fun hq => by exfalso; omega) (fun _ => ?_)
  have c1 : ((1 : Nat) : Int) = 1 := rfl
  have cn : (n : Int) + 1 = ((n + 1 : Nat) : Int) := by omega
  simp only [VS, VD, SV, SL, T, Nat.reduceEqDiff, Nat.reduceAdd, Nat.reduceSub, Nat.reduceMul, Nat.reduceLeDiff, Nat.reduceLT, reduceIte, oV_cap, c1, cn]
  refine ⟨by omega, rV_cap T.el29 ?_⟩
  simp only [VS, VD, SV, SL, T, Nat.reduceEqDiff, Nat.reduceAdd, Nat.reduceSub, Nat.reduceMul, Nat.reduceLeDiff, Nat.reduceLT, reduceIte, c1, cn]
  have hnr : ((cap : Int) < ((n + 1 : Nat) : Int)) := by omega
  have hnd := decide_eq_true hnr
  rw [hnd]
  have hc0 : (0 : Int) ≤ (cap : Int) := by omega
  have hr : -9223372036854775808 ≤ ((n + 1 : Nat) : Int) ∧ ((n + 1 : Nat) : Int) ≤ 9223372036854775807 := by omega
  simp only [VS, VD, SV, SL, T, Nat.reduceEqDiff, Nat.reduceAdd, Nat.reduceSub, Nat.reduceMul, Nat.reduceLeDiff, Nat.reduceLT, reduceIte, c1, cn, hc0, hr.1, hr.2, and_self, Int.zero_add, Int.sub_zero, Int.reduceLE, true_and, Option.bind_some, Int.toNat_natCast, Option.map_some, add_mk, ite_self, Nat.sub_zero, Nat.add_zero, Int.reduceToNat]
  refine rV_appZ T.el29 Try.underlying3 T.sz3 T.by3 T.zr3 rfl (by omega) (by omega) (by omega) (by omega) fun gc hgc hgm => ?_
  have hEw : Ext w (w.drew.alloc (.cells (Array.replicate gc (.int .i64 0)) 3 (0, 0))) := ((Ext.refl w).drew).alloc _
  have hnb : (w.drew.alloc (.cells (Array.replicate gc (.int .i64 0)) 3 (0, 0))).heap[w.heap.size]? = some (.cells (Array.replicate gc (.int .i64 0)) 3 (0, 0)) := alloc_get_new w.drew _
  have hglt := get_lt hg
  have hblt := get_lt hb2
  generalize w.drew.alloc (.cells (Array.replicate gc (.int .i64 0)) 3 (0, 0)) = W1 at *
  have hc2 : (1 : Int) ≤ ((n + 1 : Nat) : Int) := by omega
  have hc3 : (0 : Int) ≤ ((n + 1 : Nat) : Int) := by omega
  have hc4 : (0 : Int) ≤ (n : Int) := by omega
  have hgc1 : ¬ (gc = 1) := by omega
  simp only [VS, VD, SV, SL, T, Nat.reduceEqDiff, Nat.reduceAdd, Nat.reduceSub, Nat.reduceMul, Nat.reduceLeDiff, Nat.reduceLT, reduceIte, c1, cn, hc2, hc3, hc4, and_self, Int.zero_add, Int.reduceLE, true_and, Option.bind_some, Int.toNat_natCast, Option.map_some, add_mk, ite_self, Nat.sub_zero, Nat.add_zero, Int.reduceToNat]
  have hm2 : Nat.min 1 (n + 1) = 1 := by simp [Nat.min_def]
  refine rV_copy (o := 0) (o' := 0) T.el29 T.sz3 hnb (hEw.obj hb2) (by simp; omega) (by simp) ?_ ?_
  · intro u hu
    rw [hm2] at hu
    simp at hu
    rw [hu]; exact hx
  rw [hm2]
  simp only [VS, VD, SV, SL, T, Nat.reduceEqDiff, Nat.reduceAdd, Nat.reduceSub, Nat.reduceMul, Nat.reduceLeDiff, Nat.reduceLT, reduceIte]
  refine DW_intro (fun _ _ _ _ => True) ?_
  simp only [VS, VD, SV, SL, T, Nat.reduceEqDiff, Nat.reduceAdd, Nat.reduceSub, Nat.reduceMul, Nat.reduceLeDiff, Nat.reduceLT, reduceIte, c1, cn, hc2, hc3, hc4, hgc1, and_self, Int.zero_add, Int.reduceLE, true_and, Option.bind_some, Int.toNat_natCast, Option.map_some, add_mk, ite_self, Nat.sub_zero, Nat.add_zero, Int.reduceToNat]
  intro w1 hE _
  simp only [VS, VD, SV, SL, T, Nat.reduceEqDiff, Nat.reduceAdd, Nat.reduceSub, Nat.reduceMul, Nat.reduceLeDiff, Nat.reduceLT, reduceIte]
  have hg1 : w1.heap[g]? = some (.cells cur 3 (0, 0)) := hE.obj ((putb_get_ne (by omega) _).trans (hEw.obj hg))
  have hn1 := hE.obj (putb_get_same (get_lt hnb) (.cells (spl (Array.replicate gc (.int .i64 0)) 0 (#[x].extract 0 (0 + 1)).toList) 3 (0, 0)))
  have hm1 : Nat.min n (n + 1 - 1) = n := by simp [Nat.min_def]
  have hext : (cur.extract 0 (0 + n)).toList = xs := by rw [Array.toList_extract, List.extract_eq_take_drop, ← hcur]; simp
  have hxl : xs.length = n := by rw [← hcur]; simp; omega
  refine rV_copy (o := 1) (o' := 0) T.el29 T.sz3 hn1 hg1 (by rw [spl_size]; simp; omega) (by omega) ?_ ?_
  · intro u hu
    rw [hm1, hext] at hu
    exact h1 u hu
  rw [hm1, hext]
  simp only [VS, VD, SV, SL, T, Nat.reduceEqDiff, Nat.reduceAdd, Nat.reduceSub, Nat.reduceMul, Nat.reduceLeDiff, Nat.reduceLT, reduceIte]
  refine hΨ _ _ ⟨gc, rfl, hgc, hgm, ⟨_, putb_get_same (get_lt hn1) _, by rw [spl_size]; simp, ?_⟩, ?_⟩
  · rw [show (Array.replicate gc (Value.int .i64 0)).setIfInBounds 0 x = spl (Array.replicate gc (Value.int .i64 0)) 0 [x] from rfl, spl_list _ _ _ (by rw [spl_size]; simp; omega), spl_list _ _ _ (by simp; omega)]
    simp only [List.take_zero, List.nil_append, List.length_singleton, Nat.zero_add, List.singleton_append, List.take_succ_cons, List.cons.injEq, true_and]
    rw [List.take_append_of_le_length (by simp; omega)]
    simp only [List.cons_append, List.take_succ_cons, List.take_zero, List.nil_append, List.cons.injEq, true_and]
    rw [List.take_of_length_le (by omega)]
  · have hEp : Ext w (W1.putb w.heap.size (.cells (spl (Array.replicate gc (.int .i64 0)) 0 (#[x].extract 0 (0 + 1)).toList) 3 (0, 0))) := hEw.putb (Nat.le_refl _) _
    exact (hEp.trans hE).putb (Nat.le_refl _) _
set_option maxRecDepth 100000 in
theorem Insert_nil (base : Nat) (v : Value) (x : Value) (b2 : Nat) (w : World) (h : w.ownsRow base 3 1 v 0 []) (hbase : base ≤ w.heap.size) (hb2 : w.heap[b2]? = some (.cells #[x] 3 (0, 0))) (hx : one x = true) :
    VRet Try.prog 39 #[v, .int .i64 0, .slice (some ⟨b2, 0, none⟩) 1 1] w fun v' w' => w'.ownsRow base 3 1 v' 1 [x] ∧ w.grownBy w' v.ownBlock ∧ (v'.ownBlock = v.ownBlock ∨ v'.ownBlock = some w.heap.size) := by
  obtain ⟨a, c, rfl⟩ := own_form h
  refine VRet_start T.mo ok39 rfl fun Ψ hΨ => ?_; simp only [vc39, rs39]
  have c1 : ((1 : Nat) : Int) = 1 := rfl
  have c0 : ((0 : Nat) : Int) = 0 := rfl
  simp only [VS, VD, SV, SL, T, Nat.reduceEqDiff, Nat.reduceAdd, Nat.reduceSub, Nat.reduceMul, Nat.reduceLeDiff, Nat.reduceLT, reduceIte, c1, c0, Int.reduceLE, and_self, Option.bind_some]
  refine cnd_d (fun hq => by exfalso; omega) (fun _ => ?_)
  simp only [VS, VD, SV, SL, T, Nat.reduceEqDiff, Nat.reduceAdd, Nat.reduceSub, Nat.reduceMul, Nat.reduceLeDiff, Nat.reduceLT, reduceIte, c0]
  refine rV_append T.el29 T.sz3 T.by3 T.zr3 rfl (by omega) h (news := [x]) (by simp) ?_ ?_ (by unfold maxLen; omega) (by omega) hbase ?_
  · intro j u hu
    rw [add_mk, cell_mk, hb2]
    simpa using hu
  · intro u hu
    simp at hu
    rw [hu]; exact hx
  · intro v' w' ho hg hb
    simp only [VS, VD, SV, SL, T, Nat.reduceEqDiff, Nat.reduceAdd, Nat.reduceSub, Nat.reduceMul, Nat.reduceLeDiff, Nat.reduceLT, reduceIte]
    exact hΨ _ _ ⟨by simpa using ho, hg, hb⟩
/-- x in front of the slice -/
theorem Insert_spec (base : Nat) (v : Value) (n : Nat) (xs : List Value) (hn : n ≤ 200) (x : Value) (b2 : Nat) (w : World) (h : w.ownsRow base 3 1 v n xs) (h1 : ∀ u ∈ xs, one u = true) (hbase : base ≤ w.heap.size) (hb2 : w.heap[b2]? = some (.cells #[x] 3 (0, 0))) (hne : some b2 ≠ v.ownBlock) (hx : one x = true) :
    VRet Try.prog 39 #[v, .int .i64 0, .slice (some ⟨b2, 0, none⟩) 1 1] w fun v' w' => w'.ownsRow base 3 1 v' (n + 1) (x :: xs) ∧ w.grownBy w' v.ownBlock ∧ (v'.ownBlock = v.ownBlock ∨ v'.ownBlock = some w.heap.size) := by
  rcases Nat.eq_zero_or_pos n with rfl | hpos
  · have : xs = [] := List.length_eq_zero_iff.1 (by have := h.1; omega)
    subst this
    exact Insert_nil base v x b2 w h hbase hb2 hx
  · obtain ⟨hlen, h | ⟨g, cap, cur, rfl, hb, hg, hcap, hmax, hsz, hcur⟩⟩ := h
    · omega
    simp only [Nat.mul_one] at hlen hsz hcur
    have hl1 : (x :: xs).length = (n + 1) * 1 := by simp [hlen]
    by_cases hroom : n + 1 ≤ cap
    · refine (Insert_room g cap n cur xs hn hpos hroom x b2 w hg hsz hcur hb2 (by intro e; subst e; exact hne rfl) hx h1).mono ?_
      rintro _ w' ⟨rfl, ⟨cur', q1, q2, q3⟩, hgr⟩
      exact ⟨⟨hl1, .inr ⟨g, cap, cur', rfl, hb, q1, hroom, hmax, by rw [q2, Nat.mul_one], by rw [Nat.mul_one]; exact q3⟩⟩, hgr, .inl rfl⟩
    · refine (Insert_grow g cap n cur xs hn hpos hcap (by omega) x b2 w hg hsz hcur hb2 hx h1).mono ?_
      rintro _ w' ⟨cap', rfl, r1, r2, ⟨cur', q1, q2, q3⟩, hE⟩
      exact ⟨⟨hl1, .inr ⟨_, cap', cur', rfl, hbase, q1, r1, r2, by rw [q2, Nat.mul_one], by rw [Nat.mul_one]; exact q3⟩⟩, ⟨hE.os, hE.tape, hE.output, hE.size, fun k hk _ => hE.get k hk⟩, .inr rfl⟩
set_option maxRecDepth 10000 in
theorem CloneI_spec (v : Value) (l : List Int) (hl : l.length ≤ 1000) (w : World) (h : IntsAt w v l) :
    VRet Try.prog 47 #[v] w fun v' w' => w'.ownsRow w.heap.size 3 1 v' l.length (l.map (Value.int .i64)) ∧ Ext w w' := by
  obtain ⟨a, c, rfl⟩ := h.form
  refine VRet_start T.mo ok47 rfl fun Ψ hΨ => ?_; simp only [vc47, rs47]
  simp only [VS, VD, SV, SL, T, Nat.reduceEqDiff, Nat.reduceAdd, Nat.reduceSub, Nat.reduceMul, Nat.reduceLeDiff, Nat.reduceLT, reduceIte]
  cases a with
  | none =>
    have hl0 : l = [] := by
      rcases h with ⟨_, h⟩ | ⟨b, off, cap, h1, _⟩
      · exact h
      · cases h1
    subst hl0
    simp only [VS, VD, SV, SL, T, Nat.reduceEqDiff, Nat.reduceAdd, Nat.reduceSub, Nat.reduceMul, Nat.reduceLeDiff, Nat.reduceLT, reduceIte, Option.isNone_none]
    exact hΨ _ _ ⟨World.ownsRow_nil _ _ _ _, Ext.refl _⟩
  | some a =>
    simp only [VS, VD, SV, SL, T, Nat.reduceEqDiff, Nat.reduceAdd, Nat.reduceSub, Nat.reduceMul, Nat.reduceLeDiff, Nat.reduceLT, reduceIte, Option.isNone_some]
    have hown : (w.alloc (Obj.cells #[] 3)).ownsRow w.heap.size 3 1 (.slice (some ⟨w.heap.size, 0, none⟩) 0 0) 0 [] :=
      World.ownsRow_made w #[] 0 (Nat.le_refl _) (Nat.zero_le _) (by simp)
    have hE := (Ext.refl w).alloc (Obj.cells #[] 3)
    refine rV_append (ty := 29) T.el29 T.sz3 T.by3 T.zr3 rfl (by omega) hown (news := l.map (Value.int .i64)) (by simp) ?_ ?_ ?_ ?_ ?_ ?_
    · intro j u hu
      rcases h with ⟨_, h⟩ | ⟨b, off, cap, h1, h2⟩
      · subst h; simp at hu
      · simp only [Value.slice.injEq, Option.some.injEq] at h1
        obtain ⟨rfl, _, _⟩ := h1
        rw [add_mk]
        rw [List.getElem?_map] at hu
        obtain ⟨x, hx, rfl⟩ := Option.map_eq_some_iff.1 hu
        exact hE.cell (h2 j x hx)
    · intro u hu
      obtain ⟨x, _, rfl⟩ := List.mem_map.1 hu
      rfl
    · unfold maxLen; omega
    · omega
    · simp
    · intro v w' ho hg _
      simp only [VS, VD, SV, SL, T, Nat.reduceEqDiff, Nat.reduceAdd, Nat.reduceSub, Nat.reduceMul, Nat.reduceLeDiff, Nat.reduceLT, reduceIte]
      simp only [Nat.zero_add, List.nil_append] at ho
      refine hΨ _ _ ⟨ho, hE.grown hg ?_⟩
      intro k hk
      simp only [Value.ownBlock, Option.some.injEq] at hk
      omega
end Go.Proofs.Ytneipineehichaa.C
set_option linter.unusedSimpArgs false
set_option linter.unusedVariables false
namespace Go.Proofs.Ytneipineehichaa.C
open Go.W Go.RowKit
abbrev iv (l : List Int) : List Value := l.map (Value.int .i64)
/-- the cache's object and the slices of its sets -/
structure CacheIn (w : World) (F : Nat → Prop) (p : Nat) (s y l : Int) (L : List (List Int)) (q : Nat) (vs : List Value) : Prop where
  geo : Geo s y l = true
  obj : w.heap[p]? = some (.cells #[.int .i64 s, .int .i64 y, .int .i64 l, .slice (some ⟨q, 0, none⟩) s.toNat s.toNat] 65 (0, 0))
  row : w.heap[q]? = some (.cells vs.toArray 29 (0, 0))
  ne : p ≠ q
  fp : F p
  fq : F q
  lt : ∀ b, F b → b < w.heap.size
  len : L.length = s.toNat
  vlen : vs.length = s.toNat
  ways : ∀ li ∈ L, li.length ≤ y.toNat
  own : ∀ (i : Nat) v li, vs[i]? = some v → L[i]? = some li → w.ownsRow 0 3 1 v li.length (iv li)
  fb : ∀ (i : Nat) v b, vs[i]? = some v → v.ownBlock = some b → F b ∧ b ≠ p ∧ b ≠ q
  apart : ∀ (i j : Nat) v u b, i ≠ j → vs[i]? = some v → vs[j]? = some u → v.ownBlock = some b → u.ownBlock ≠ some b
def CacheAt (w : World) (F : Nat → Prop) (p : Nat) (s y l : Int) (L : List (List Int)) : Prop := ∃ q vs, CacheIn w F p s y l L q vs
/-- only blocks of F have changed, and new ones may be there -/
structure Chg (F : Nat → Prop) (w w' : World) : Prop where
  os : w'.os = w.os
  tape : w'.tape = w.tape
  output : w'.output = w.output
  size : w.heap.size ≤ w'.heap.size
  get : ∀ b, b < w.heap.size → ¬ F b → w'.heap[b]? = w.heap[b]?
theorem Chg.of_ext {F : Nat → Prop} {w w' : World} (h : Ext w w') : Chg F w w' := ⟨h.os, h.tape, h.output, h.size, fun b hb _ => h.get b hb⟩
theorem Chg.trans {F F' : Nat → Prop} {w w' w'' : World} (h : Chg F w w') (k : Chg F' w' w'') (hF : ∀ b, F' b → F b ∨ w.heap.size ≤ b) : Chg F w w'' :=
  ⟨k.os.trans h.os, k.tape.trans h.tape, k.output.trans h.output, Nat.le_trans h.size k.size, fun b hb hn => (k.get b (Nat.lt_of_lt_of_le hb h.size) (fun hf => (hF b hf).elim hn (by omega))).trans (h.get b hb hn)⟩
theorem Chg.ext {F : Nat → Prop} {w0 w w' : World} (hE : Ext w0 w) (h : Chg F w w') (hF : ∀ b, F b → w0.heap.size ≤ b) : Ext w0 w' :=
  ⟨h.os.trans hE.os, h.tape.trans hE.tape, h.output.trans hE.output, Nat.le_trans hE.size h.size, fun b hb => (h.get b (Nat.lt_of_lt_of_le hb hE.size) (fun hf => by have := hF b hf; omega)).trans (hE.get b hb)⟩
theorem CacheIn.ext {w w' : World} {F : Nat → Prop} {p : Nat} {s y l : Int} {L : List (List Int)} {q : Nat} {vs : List Value} (h : CacheIn w F p s y l L q vs) (hE : Ext w w') : CacheIn w' F p s y l L q vs :=
  ⟨h.geo, hE.obj h.obj, hE.obj h.row, h.ne, h.fp, h.fq, fun b hb => Nat.lt_of_lt_of_le (h.lt b hb) hE.size, h.len, h.vlen, h.ways, fun i v li hv hl => own_ext (h.own i v li hv hl) hE, h.fb, h.apart⟩
theorem CacheAt.ext {w w' : World} {F : Nat → Prop} {p : Nat} {s y l : Int} {L : List (List Int)} (h : CacheAt w F p s y l L) (hE : Ext w w') : CacheAt w' F p s y l L := by
  obtain ⟨q, vs, h⟩ := h; exact ⟨q, vs, h.ext hE⟩
/-- another cache's access leaves this one -/
theorem CacheIn.chg {w w' : World} {F G : Nat → Prop} {p : Nat} {s y l : Int} {L : List (List Int)} {q : Nat} {vs : List Value} (h : CacheIn w F p s y l L q vs) (hC : Chg G w w') (hFG : ∀ b, F b → ¬ G b) : CacheIn w' F p s y l L q vs := by
  have hg : ∀ b, F b → w'.heap[b]? = w.heap[b]? := fun b hb => hC.get b (h.lt b hb) (hFG b hb)
  refine ⟨h.geo, (hg p h.fp).trans h.obj, (hg q h.fq).trans h.row, h.ne, h.fp, h.fq, fun b hb => Nat.lt_of_lt_of_le (h.lt b hb) hC.size, h.len, h.vlen, h.ways, fun i v li hv hl => ?_, h.fb, h.apart⟩
  obtain ⟨h1, h2⟩ := h.own i v li hv hl
  refine ⟨h1, ?_⟩
  rcases h2 with h2 | ⟨g, cap, cur, rfl, q1, q2, q3⟩
  · exact .inl h2
  · exact .inr ⟨g, cap, cur, rfl, q1, (hg g (h.fb i _ g hv rfl).1).trans q2, q3⟩
theorem CacheAt.chg {w w' : World} {F G : Nat → Prop} {p : Nat} {s y l : Int} {L : List (List Int)} (h : CacheAt w F p s y l L) (hC : Chg G w w') (hFG : ∀ b, F b → ¬ G b) : CacheAt w' F p s y l L := by
  obtain ⟨q, vs, h⟩ := h; exact ⟨q, vs, h.chg hC hFG⟩
theorem own_ints {w : World} {base : Nat} {e : TypeId} {v : Value} {l : List Int} (h : w.ownsRow base e 1 v l.length (iv l)) : IntsAt w v l := by
  obtain ⟨h1, h2⟩ := h
  rcases h2 with ⟨rfl, h0⟩ | ⟨g, cap, cur, rfl, q1, q2, q3, q4, q5, q6⟩
  · exact .inl ⟨⟨_, _, rfl⟩, List.length_eq_zero_iff.1 h0⟩
  · refine .inr ⟨g, 0, cap, rfl, fun i x hx => ?_⟩
    rw [cell_mk, q2]
    have hi := (List.getElem?_eq_some_iff.1 hx).1
    have : (cur.toList.take (l.length * 1))[i]? = some (.int .i64 x) := by rw [q6, List.getElem?_map, hx]; rfl
    rw [List.getElem?_take_of_lt (by omega)] at this
    simpa using this
theorem setOf_lt {s y l n : Int} (hg : Geo s y l = true) (hn : 0 ≤ n) : ∃ i : Nat, setOf s y l n = i ∧ i < s.toNat := by
  have := Geo_spec hg
  have h1 := Int.emod_nonneg n (show s ≠ 0 by omega)
  have h2 := Int.emod_lt_of_pos n (show 0 < s by omega)
  refine ⟨(n % s).toNat, ?_, by omega⟩
  simp only [setOf, hg, hn, and_self, if_true]
  omega
/-- the slice and the lines of a set -/
theorem CacheIn.at {w : World} {F : Nat → Prop} {p : Nat} {s y l : Int} {L : List (List Int)} {q : Nat} {vs : List Value} (h : CacheIn w F p s y l L q vs) {i : Nat} (hi : i < s.toNat) :
    ∃ v li, vs[i]? = some v ∧ vs.toArray[i]? = some v ∧ L[i]? = some li ∧ w.ownsRow 0 3 1 v li.length (iv li) ∧ li.length ≤ y.toNat ∧ li.length ≤ 8 := by
  have h1 : i < vs.length := by rw [h.vlen]; exact hi
  have h2 : i < L.length := by rw [h.len]; exact hi
  have hw := h.ways _ (List.getElem_mem h2)
  have := Geo_spec h.geo
  exact ⟨vs[i], L[i], by simp [h1], by simp [h1], by simp [h2], h.own i _ _ (by simp [h1]) (by simp [h2]), hw, by omega⟩
abbrev ptr (p : Nat) : Value := .pointer (some ⟨p, 0, none⟩)
set_option maxRecDepth 10000 in
theorem find_spec {F : Nat → Prop} {p : Nat} {s y l : Int} {L : List (List Int)} {q : Nat} {vs : List Value} {w : World} (h : CacheIn w F p s y l L q vs) (n : Int) :
    VRet Try.prog 37 #[ptr p, .int .i64 n] w fun v w' => v = .tuple #[.int .i64 (setOf s y l n), .int .i64 (if 0 ≤ n then idxI (L.getD (setOf s y l n).toNat []) n else -1)] ∧ Ext w w' := by
  refine VRet_start T.mo ok37 rfl fun Ψ hΨ => ?_; simp only [vc37, rs37]
  have hobj := h.obj
  simp only [VS, VD, SV, SL, T, Nat.reduceEqDiff, Nat.reduceAdd, Nat.reduceSub, Nat.reduceMul, Nat.reduceLeDiff, Nat.reduceLT, reduceIte, hobj]
  refine (Set_spec s y l n w).mono ?_
  rintro _ w1 ⟨rfl, hE⟩
  simp only [VS, VD, SV, SL, T, Nat.reduceEqDiff, Nat.reduceAdd, Nat.reduceSub, Nat.reduceMul, Nat.reduceLeDiff, Nat.reduceLT, reduceIte]
  refine cnd_d (fun hq => ?_) (fun hq => ?_)
  · simp only [VS, VD, SV, SL, T, Nat.reduceEqDiff, Nat.reduceAdd, Nat.reduceSub, Nat.reduceMul, Nat.reduceLeDiff, Nat.reduceLT, reduceIte]
    have hn : ¬ (0 ≤ n) := by
      intro hn
      obtain ⟨i, hi, _⟩ := setOf_lt h.geo hn
      omega
    exact hΨ _ _ ⟨by rw [if_neg hn], hE⟩
  · have hn : 0 ≤ n := by
      apply Int.not_lt.1
      intro hn
      apply hq
      simp only [setOf]
      rw [if_neg (by omega)]
      omega
    obtain ⟨i, hi, hlt⟩ := setOf_lt h.geo hn
    obtain ⟨v, li, hv, hva, hL, ho, hw, hw8⟩ := (h.ext hE).at hlt
    have hobj1 := (h.ext hE).obj
    have hrow1 := (h.ext hE).row
    rw [hi]
    have hi63 : (i : Int) < s.toNat := by omega
    have hi0 : (0 : Int) ≤ i := by omega
    simp only [VS, VD, SV, SL, T, Nat.reduceEqDiff, Nat.reduceAdd, Nat.reduceSub, Nat.reduceMul, Nat.reduceLeDiff, Nat.reduceLT, reduceIte, hobj1, hrow1, Int.toNat_natCast, hva, hi63, hi0, Nat.zero_add, Nat.mul_one, and_self]
    refine (Index_spec v li (by omega) n _ (own_ints ho)).mono ?_
    rintro _ w2 ⟨rfl, hE2⟩
    simp only [VS, VD, SV, SL, T, Nat.reduceEqDiff, Nat.reduceAdd, Nat.reduceSub, Nat.reduceMul, Nat.reduceLeDiff, Nat.reduceLT, reduceIte]
    refine hΨ _ _ ⟨?_, hE.trans hE2⟩
    rw [if_pos hn, hi, Int.toNat_natCast, List.getD_eq_getElem?_getD, hL]
    rfl
/-- what Access does to the lines of the sets -/
def accL (y : Int) (cur : List Int) (n : Int) : List Int := n :: (if n ∈ cur then cur.eraseIdx (idxI cur n).toNat else if cur.length = y.toNat then cur.dropLast else cur)
end Go.Proofs.Ytneipineehichaa.C
set_option linter.unusedSimpArgs false
set_option linter.unusedVariables false
namespace Go.Proofs.Ytneipineehichaa.C
open Go.W Go.RowKit
theorem idxI_mem {cur : List Int} {n : Int} : 0 ≤ idxI cur n ↔ n ∈ cur := by
  unfold idxI
  split
  · rename_i i h
    constructor
    · intro _
      obtain ⟨hi, he, _⟩ := List.findIdx?_eq_some_iff_getElem.1 h
      exact (by simpa using he) ▸ List.getElem_mem hi
    · intro _; omega
  · rename_i h
    rw [List.idxOf?_eq_none_iff] at h
    constructor
    · intro h0; omega
    · intro h0; exact (h h0).elim
theorem idxI_lt {cur : List Int} {n : Int} (h : n ∈ cur) : ∃ i : Nat, idxI cur n = i ∧ i < cur.length := by
  unfold idxI
  split
  · rename_i i h
    exact ⟨i, rfl, (List.findIdx?_eq_some_iff_getElem.1 h).1⟩
  · rename_i h'
    rw [List.idxOf?_eq_none_iff] at h'
    exact (h' h).elim
/-- what holds in the region that stores the set's new slice: L says which operations have run -/
structure AccI (p q S : Nat) (i : Nat) (n x : Int) (v1 : Value) (vb : Option Nat) (k : Nat) (xs : List Value) (w3 : World) (L : Nat → Bool) (f : Fr) (w : World) : Prop where
  f0 : f 0 = ptr p
  f5 : f 5 = .int .i64 n
  f6 : f 6 = .int .i64 i
  f7 : f 7 = .int .i64 x
  f8 : f 8 = v1
  c0 : L 0 = true → f 54 = ptr p
  c1 : L 1 = true → f 55 = ptr p
  c2 : L 2 = true → f 56 = .pointer (some ⟨p, 3, none⟩)
  c3 : L 3 = true → f 57 = .slice (some ⟨q, 0, none⟩) S S
  c4 : L 4 = true → f 58 = .int .i64 i
  c5 : L 5 = true → f 59 = v1
  c6 : L 6 = true → f 60 = .int .i64 n
  c7 : L 7 = true → L 8 = false → ∃ b2, f 61 = .slice (some ⟨b2, 0, none⟩) 1 1 ∧ w.heap[b2]? = some (.cells #[.int .i64 n] 3 (0, 0)) ∧ w3.heap.size ≤ b2
  c8 : L 8 = true → w.ownsRow 0 3 1 (f 62) (k + 1) (.int .i64 n :: xs) ∧ ((f 62).ownBlock = vb ∨ ∃ b, (f 62).ownBlock = some b ∧ w3.heap.size ≤ b)
  d87 : L 8 = true → L 7 = true
  gr : w3.grownBy w vb
  e8 : L 8 = false → Ext w3 w
theorem grown_of_ext {w w' : World} {row : Option Nat} (h : Ext w w') : w.grownBy w' row := ⟨h.os, h.tape, h.output, h.size, fun k hk _ => h.get k hk⟩
/-- a set's slice has been replaced -/
theorem CacheIn.step {w w2 w4 : World} {F : Nat → Prop} {p : Nat} {s y l : Int} {L : List (List Int)} {q : Nat} {vs : List Value} (h : CacheIn w2 F p s y l L q vs) (hE : Ext w w2) (hw0 : ∀ b, F b → b < w.heap.size) {i : Nat} {v : Value} (hv : vs[i]? = some v) (hgg : w2.grownBy w4 v.ownBlock)
    {v' : Value} {l' : List Int} (hlen' : l'.length ≤ y.toNat) (ho' : w4.ownsRow 0 3 1 v' l'.length (iv l')) (hb' : v'.ownBlock = v.ownBlock ∨ ∃ b, v'.ownBlock = some b ∧ w2.heap.size ≤ b) (hlt : i < s.toNat) :
    CacheIn (w4.putb q (.cells (vs.set i v').toArray 29 (0, 0))) (fun b => F b ∨ (w.heap.size ≤ b ∧ b < (w4.putb q (.cells (vs.set i v').toArray 29 (0, 0))).heap.size)) p s y l (L.set i l') q (vs.set i v') ∧ Chg F w (w4.putb q (.cells (vs.set i v').toArray 29 (0, 0))) := by
  have hpv : some p ≠ v.ownBlock := fun e => (h.fb i v p hv e.symm).2.1 rfl
  have hqv : some q ≠ v.ownBlock := fun e => (h.fb i v q hv e.symm).2.2 rfl
  have hrow4 := grown_get hgg h.row hqv
  have hqlt := h.lt q h.fq
  have hplt := h.lt p h.fp
  have hib : i < vs.length := by rw [h.vlen]; exact hlt
  have hsz := hgg.size
  have hEs := hE.size
  have hq' : ∀ b, v'.ownBlock = some b → b ≠ p ∧ b ≠ q ∧ (F b ∨ w2.heap.size ≤ b) := by
    intro b hb
    rcases hb' with e | ⟨b1, e, hge⟩
    · have := h.fb i v b hv (e ▸ hb)
      exact ⟨this.2.1, this.2.2, .inl this.1⟩
    · rw [e] at hb
      simp only [Option.some.injEq] at hb
      subst hb
      exact ⟨by omega, by omega, .inr hge⟩
  refine ⟨⟨h.geo, ?_, putb_get_same (by omega) _, h.ne, .inl h.fp, .inl h.fq, ?_, by simp [h.len], by simp [h.vlen], ?_, ?_, ?_, ?_⟩, ?_⟩
  · rw [putb_get_ne h.ne]; exact grown_get hgg h.obj hpv
  · rintro b (hb | hb)
    · rw [putb_size]; have := hw0 b hb; omega
    · exact hb.2
  · intro li hli
    rcases List.mem_or_eq_of_mem_set hli with hm | rfl
    · exact h.ways li hm
    · exact hlen'
  · intro j u lj hu hlj
    by_cases hij : i = j
    · subst hij
      rw [List.getElem?_set_self (by omega)] at hu
      rw [List.getElem?_set_self (by rw [h.len]; omega)] at hlj
      simp only [Option.some.injEq] at hu hlj
      subst hu hlj
      exact own_putb ho' (fun e => (hq' q e.symm).2.1 rfl) _
    · rw [List.getElem?_set_ne hij] at hu hlj
      have ho := h.own j u lj hu hlj
      have hk : w4.ownsRow 0 3 1 u lj.length (iv lj) := by
        refine ho.kept hgg ?_
        cases hub : u.ownBlock with
        | none => exact .inl rfl
        | some b => exact .inr fun e => h.apart j i u v b (Ne.symm hij) hu hv hub e.symm
      exact own_putb hk (fun e => (h.fb j u q hu e.symm).2.2 rfl) _
  · intro j u b hu hub
    by_cases hij : i = j
    · subst hij
      rw [List.getElem?_set_self (by omega)] at hu
      simp only [Option.some.injEq] at hu
      subst hu
      obtain ⟨z1, z2, z3⟩ := hq' b hub
      refine ⟨?_, z1, z2⟩
      rcases z3 with z3 | z3
      · exact .inl z3
      · exact .inr ⟨by omega, by rw [putb_size]; exact (ho'.lt b hub).2⟩
    · rw [List.getElem?_set_ne hij] at hu
      have := h.fb j u b hu hub
      exact ⟨.inl this.1, this.2⟩
  · intro j k u x b hjk hu hx hub hxb
    by_cases hij : i = j
    · subst hij
      rw [List.getElem?_set_self (by omega)] at hu
      rw [List.getElem?_set_ne hjk] at hx
      simp only [Option.some.injEq] at hu
      subst hu
      rcases hb' with e | ⟨b1, e, hge⟩
      · exact h.apart i k v x b hjk hv hx (e ▸ hub) hxb
      · rw [e] at hub
        simp only [Option.some.injEq] at hub
        subst hub
        have := h.lt _ (h.fb k x _ hx hxb).1
        omega
    · rw [List.getElem?_set_ne hij] at hu
      by_cases hik : i = k
      · subst hik
        rw [List.getElem?_set_self (by omega)] at hx
        simp only [Option.some.injEq] at hx
        subst hx
        rcases hb' with e | ⟨b1, e, hge⟩
        · exact h.apart j i u v b hjk hu hv hub (e ▸ hxb)
        · rw [e] at hxb
          simp only [Option.some.injEq] at hxb
          subst hxb
          have := h.lt _ (h.fb j u _ hu hub).1
          omega
      · rw [List.getElem?_set_ne hik] at hx
        exact h.apart j k u x b hjk hu hx hub hxb
  · refine ⟨hgg.os.trans hE.os, hgg.tape.trans hE.tape, hgg.output.trans hE.output, by rw [putb_size]; omega, fun b hb hn => ?_⟩
    rw [putb_get_ne (by rintro rfl; exact hn h.fq)]
    exact (hgg.block b (by omega) (fun e => hn (h.fb i v b hv e.symm).1)).trans (hE.get b hb)
set_option maxRecDepth 100000 in
theorem Access_spec {F : Nat → Prop} {p : Nat} {s y l : Int} {L : List (List Int)} {w : World} (h : CacheAt w F p s y l L) (a : Int) (ha : 0 ≤ a) (ha63 : a ≤ 9223372036854775807) :
    VRet Try.prog 27 #[ptr p, .int .i64 a] w fun v w' => v = .bool (decide (a / l ∈ L.getD ((a / l) % s).toNat [])) ∧
      CacheAt w' (fun b => F b ∨ (w.heap.size ≤ b ∧ b < w'.heap.size)) p s y l (L.set ((a / l) % s).toNat (accL y (L.getD ((a / l) % s).toNat []) (a / l))) ∧ Chg F w w' := by
  obtain ⟨q, vs, h⟩ := h
  have hgs := Geo_spec h.geo
  have hl0 : 0 ≤ a / l := Int.ediv_nonneg ha (by omega)
  have hline : lineOf s y l a = a / l := by simp [lineOf, h.geo, ha]
  refine VRet_start T.mo ok27 rfl fun Ψ hΨ => ?_; simp only [vc27, rs27]
  have hobj := h.obj
  simp only [VS, VD, SV, SL, T, Nat.reduceEqDiff, Nat.reduceAdd, Nat.reduceSub, Nat.reduceMul, Nat.reduceLeDiff, Nat.reduceLT, reduceIte, hobj, Option.isNone_some]
  refine (Line_spec s y l a ha63 w).mono ?_
  rintro _ w1 ⟨rfl, hE1⟩
  rw [hline]
  generalize hn : a / l = n at *
  simp only [VS, VD, SV, SL, T, Nat.reduceEqDiff, Nat.reduceAdd, Nat.reduceSub, Nat.reduceMul, Nat.reduceLeDiff, Nat.reduceLT, reduceIte]
  refine cnd_d (fun hq => by exfalso; omega) (fun _ => ?_)
  simp only [VS, VD, SV, SL, T, Nat.reduceEqDiff, Nat.reduceAdd, Nat.reduceSub, Nat.reduceMul, Nat.reduceLeDiff, Nat.reduceLT, reduceIte]
  have h1 := h.ext hE1
  refine (find_spec h1 n).mono ?_
  rintro _ w2 ⟨rfl, hE2⟩
  obtain ⟨i, hi, hlt⟩ := setOf_lt h.geo hl0
  have hi' : (n % s).toNat = i := by
    simp only [setOf, h.geo, hl0, and_self, if_true] at hi
    omega
  rw [if_pos hl0, hi, Int.toNat_natCast]
  have h2 := h1.ext hE2
  have hE := hE1.trans hE2
  obtain ⟨v, li, hv, hva, hL, ho, hw, hw8⟩ := h2.at hlt
  obtain ⟨av, cv, hvf⟩ := own_form ho
  subst hvf
  generalize hvg : Value.slice av li.length cv = v at *
  have hgD : L.getD i [] = li := by rw [List.getD_eq_getElem?_getD, hL]; rfl
  rw [hgD]
  simp only [hi', hgD] at hΨ
  have hobj2 := h2.obj
  have hrow2 := h2.row
  have hi63 : (i : Int) < s.toNat := by omega
  have hi0 : (0 : Int) ≤ i := by omega
  simp only [VS, VD, SV, SL, T, Nat.reduceEqDiff, Nat.reduceAdd, Nat.reduceSub, Nat.reduceMul, Nat.reduceLeDiff, Nat.reduceLT, reduceIte, hobj2, hrow2, Int.toNat_natCast, hva, hi63, hi0, Nat.zero_add, Nat.mul_one, and_self]
  refine cnd_cB (fun f' w' => f' 0 = ptr p ∧ f' 5 = .int .i64 n ∧ f' 6 = .int .i64 i ∧ f' 7 = .int .i64 (idxI li n) ∧ w'.ownsRow 0 3 1 (f' 8) (accL y li n).tail.length (iv (accL y li n).tail) ∧ (accL y li n).tail.length < y.toNat ∧ (f' 8).ownBlock = v.ownBlock ∧ w2.grownBy w' v.ownBlock) ?_ ?_
  · refine cnd_d (fun hq => ?_) (fun hq => ?_)
    · simp only [VS, VD, SV, SL, T, Nat.reduceEqDiff, Nat.reduceAdd, Nat.reduceSub, Nat.reduceMul, Nat.reduceLeDiff, Nat.reduceLT, reduceIte]
      have hmem := idxI_mem.1 hq
      obtain ⟨j, hj, hjlt⟩ := idxI_lt hmem
      rw [hj]
      refine ⟨by omega, ?_⟩
      have hj1 : (j : Int) + 1 = ((j + 1 : Nat) : Int) := by omega
      rw [hj1]
      refine (Delete_spec 0 v li.length (iv li) (by omega) j hjlt _ ho (by intro u hu; obtain ⟨x, _, rfl⟩ := List.mem_map.1 hu; rfl)).mono ?_
      rintro v' w' ⟨q1, q2, q3⟩
      simp only [VS, VD, SV, SL, T, Nat.reduceEqDiff, Nat.reduceAdd, Nat.reduceSub, Nat.reduceMul, Nat.reduceLeDiff, Nat.reduceLT, reduceIte]
      have e1 : (accL y li n).tail = li.eraseIdx j := by simp [accL, hmem, hj]
      have e2 : (li.eraseIdx j).length = li.length - 1 := by rw [List.length_eraseIdx, if_pos hjlt]
      rw [e1, e2]
      refine ⟨?_, by omega, q3, q2⟩
      have e3 : iv (li.eraseIdx j) = (iv li).eraseIdx j := (eraseIdx_map' _ _ _).symm
      rw [e3]
      exact q1
    · subst hvg
      simp only [VS, VD, SV, SL, T, Nat.reduceEqDiff, Nat.reduceAdd, Nat.reduceSub, Nat.reduceMul, Nat.reduceLeDiff, Nat.reduceLT, reduceIte, hobj2]
      refine cnd_d (fun hq2 => ?_) (fun hq2 => ?_)
      · have hnm : n ∉ li := fun hm => hq (idxI_mem.2 hm)
        have e1 : (accL y li n).tail = li.dropLast := by simp only [accL, if_neg hnm, List.tail_cons]; rw [if_pos (by omega)]
        obtain ⟨ho1, ho2 | ⟨g, cap, cur, hvv, z1, z2, z3, z4, z5, z6⟩⟩ := ho
        · omega
        simp only [Value.slice.injEq] at hvv
        obtain ⟨rfl, _, rfl⟩ := hvv
        have hk1 : -9223372036854775808 ≤ (li.length : Int) - 1 ∧ (li.length : Int) - 1 ≤ 9223372036854775807 := by omega
        have hk2 : (0 : Int) ≤ (li.length : Int) - 1 ∧ (li.length : Int) - 1 ≤ (cv : Int) := by omega
        have c1 : (li.length : Int) - 1 = ((li.length - 1 : Nat) : Int) := by omega
        simp only [VS, VD, SV, SL, T, Nat.reduceEqDiff, Nat.reduceAdd, Nat.reduceSub, Nat.reduceMul, Nat.reduceLeDiff, Nat.reduceLT, reduceIte, hk1.1, hk1.2, hk2.1, hk2.2, and_self, true_and, Option.bind_some, Option.map_some, add_mk, ite_self, Nat.sub_zero, Nat.add_zero]
        rw [c1, Int.toNat_natCast, e1, List.length_dropLast]
        refine ⟨⟨by simp, .inr ⟨g, cv, cur, rfl, z1, z2, by omega, z4, z5, ?_⟩⟩, by omega, rfl, ⟨rfl, rfl, rfl, Nat.le_refl _, fun _ _ _ => rfl⟩⟩
        rw [Nat.mul_one] at z6 ⊢
        have : iv li.dropLast = (iv li).take (li.length - 1) := by simp [iv, List.dropLast_eq_take, List.map_take]
        rw [this, ← z6, List.take_take, Nat.min_eq_left (by omega)]
      · have hnm : n ∉ li := fun hm => hq (idxI_mem.2 hm)
        have e1 : (accL y li n).tail = li := by simp only [accL, if_neg hnm, List.tail_cons]; rw [if_neg (by omega)]
        simp only [VS, VD, SV, SL, T, Nat.reduceEqDiff, Nat.reduceAdd, Nat.reduceSub, Nat.reduceMul, Nat.reduceLeDiff, Nat.reduceLT, reduceIte]
        rw [e1]
        exact ⟨ho, by omega, ⟨rfl, rfl, rfl, Nat.le_refl _, fun _ _ _ => rfl⟩⟩
  · rintro f' w3 ⟨f0, f5, f6, f7, ho3, hlen3, hob3, hg3⟩
    simp only [VS, VD, SV, SL, T, Nat.reduceEqDiff, Nat.reduceAdd, Nat.reduceSub, Nat.reduceMul, Nat.reduceLeDiff, Nat.reduceLT, reduceIte]
    have hpv : some p ≠ v.ownBlock := fun e => (h2.fb i v p hv e.symm).2.1 rfl
    have hqv : some q ≠ v.ownBlock := fun e => (h2.fb i v q hv e.symm).2.2 rfl
    have hobj3 := grown_get hg3 hobj2 hpv
    refine .inr ⟨fun L ok f w => AccI p q s.toNat i n (idxI li n) (f' 8) v.ownBlock (accL y li n).tail.length (iv (accL y li n).tail) w3 L f w, ?_, ?_, ?_⟩
    · exact ⟨f0, f5, f6, f7, rfl, nofun, nofun, nofun, nofun, nofun, nofun, nofun, nofun, nofun, nofun, ⟨rfl, rfl, rfl, Nat.le_refl _, fun _ _ _ => rfl⟩, fun _ => (Ext.refl w3).drew⟩
    · intro d hd L ok f w H hLd hdeps
      have hobjw := grown_get H.gr hobj3 hpv
      simp only [List.mem_cons, List.not_mem_nil, or_false] at hd
      rcases hd with rfl | rfl | rfl | rfl | rfl | rfl | rfl | rfl | rfl
      · have hx := H.f0
        simp only [stp, vi]
        simp only [VS, VD, SV, SL, T, Nat.reduceEqDiff, Nat.reduceAdd, Nat.reduceSub, Nat.reduceMul, Nat.reduceLeDiff, Nat.reduceLT, reduceIte, hx, hobjw]
        exact ⟨H.f0, H.f5, H.f6, H.f7, H.f8, fun _ => rfl, H.c1, H.c2, H.c3, H.c4, H.c5, H.c6, H.c7, H.c8, H.d87, H.gr, H.e8⟩
      · have hx := H.c0 (hdeps 0 (by simp))
        simp only [stp, vi]
        simp only [VS, VD, SV, SL, T, Nat.reduceEqDiff, Nat.reduceAdd, Nat.reduceSub, Nat.reduceMul, Nat.reduceLeDiff, Nat.reduceLT, reduceIte, hx, hobjw]
        exact ⟨H.f0, H.f5, H.f6, H.f7, H.f8, H.c0, fun _ => rfl, H.c2, H.c3, H.c4, H.c5, H.c6, H.c7, H.c8, H.d87, H.gr, H.e8⟩
      · have hx := H.c1 (hdeps 1 (by simp))
        simp only [stp, vi]
        simp only [VS, VD, SV, SL, T, Nat.reduceEqDiff, Nat.reduceAdd, Nat.reduceSub, Nat.reduceMul, Nat.reduceLeDiff, Nat.reduceLT, reduceIte, hx, hobjw]
        exact ⟨H.f0, H.f5, H.f6, H.f7, H.f8, H.c0, H.c1, fun _ => rfl, H.c3, H.c4, H.c5, H.c6, H.c7, H.c8, H.d87, H.gr, H.e8⟩
      · have hx := H.c2 (hdeps 2 (by simp))
        simp only [stp, vi]
        simp only [VS, VD, SV, SL, T, Nat.reduceEqDiff, Nat.reduceAdd, Nat.reduceSub, Nat.reduceMul, Nat.reduceLeDiff, Nat.reduceLT, reduceIte, hx, hobjw]
        exact ⟨H.f0, H.f5, H.f6, H.f7, H.f8, H.c0, H.c1, H.c2, fun _ => rfl, H.c4, H.c5, H.c6, H.c7, H.c8, H.d87, H.gr, H.e8⟩
      · have hx := H.f6
        simp only [stp, vi]
        simp only [VS, VD, SV, SL, T, Nat.reduceEqDiff, Nat.reduceAdd, Nat.reduceSub, Nat.reduceMul, Nat.reduceLeDiff, Nat.reduceLT, reduceIte, hx, hobjw]
        exact ⟨H.f0, H.f5, H.f6, H.f7, H.f8, H.c0, H.c1, H.c2, H.c3, fun _ => rfl, H.c5, H.c6, H.c7, H.c8, H.d87, H.gr, H.e8⟩
      · have hx := H.f8
        simp only [stp, vi]
        simp only [VS, VD, SV, SL, T, Nat.reduceEqDiff, Nat.reduceAdd, Nat.reduceSub, Nat.reduceMul, Nat.reduceLeDiff, Nat.reduceLT, reduceIte, hx, hobjw]
        exact ⟨H.f0, H.f5, H.f6, H.f7, H.f8, H.c0, H.c1, H.c2, H.c3, H.c4, fun _ => rfl, H.c6, H.c7, H.c8, H.d87, H.gr, H.e8⟩
      · have hx := H.f5
        simp only [stp, vi]
        simp only [VS, VD, SV, SL, T, Nat.reduceEqDiff, Nat.reduceAdd, Nat.reduceSub, Nat.reduceMul, Nat.reduceLeDiff, Nat.reduceLT, reduceIte, hx, hobjw]
        exact ⟨H.f0, H.f5, H.f6, H.f7, H.f8, H.c0, H.c1, H.c2, H.c3, H.c4, H.c5, fun _ => rfl, H.c7, H.c8, H.d87, H.gr, H.e8⟩
      · have hx := H.c6 (hdeps 6 (by simp))
        have hL8 : L 8 = false := by cases hc : L 8 with | false => rfl | true => rw [H.d87 hc] at hLd; cases hLd
        have hEx := H.e8 hL8
        simp only [stp, vi]
        simp only [VS, VD, SV, SL, T, Nat.reduceEqDiff, Nat.reduceAdd, Nat.reduceSub, Nat.reduceMul, Nat.reduceLeDiff, Nat.reduceLT, reduceIte, hx]
        exact ⟨H.f0, H.f5, H.f6, H.f7, H.f8, H.c0, H.c1, H.c2, H.c3, H.c4, H.c5, H.c6, fun _ _ => ⟨w.heap.size, rfl, alloc_get_new _ _, hEx.size⟩, fun h8 => (by simp only [setL, Nat.reduceEqDiff, reduceIte] at h8; rw [hL8] at h8; cases h8), fun _ => rfl, grown_of_ext (hEx.alloc _), fun _ => hEx.alloc _⟩
      · have hx5 := H.c5 (hdeps 5 (by simp))
        have hEx := H.e8 hLd
        obtain ⟨b2, hb, hb2, hge⟩ := H.c7 (hdeps 7 (by simp)) hLd
        simp only [stp, vi]
        simp only [VS, VD, SV, SL, T, Nat.reduceEqDiff, Nat.reduceAdd, Nat.reduceSub, Nat.reduceMul, Nat.reduceLeDiff, Nat.reduceLT, reduceIte, hx5, hb]
        have hoE := own_ext ho3 hEx
        refine (Insert_spec 0 (f' 8) _ _ (by omega) (.int .i64 n) b2 w hoE (by intro u hu; obtain ⟨x, _, rfl⟩ := List.mem_map.1 hu; rfl) (Nat.zero_le _) hb2 (fun e => by have := (ho3.lt _ e.symm).2; omega) rfl).mono ?_
        rintro v' w' ⟨q1, q2, q3⟩
        simp only [VS, VD, SV, SL, T, Nat.reduceEqDiff, Nat.reduceAdd, Nat.reduceSub, Nat.reduceMul, Nat.reduceLeDiff, Nat.reduceLT, reduceIte]
        rw [hob3] at q2 q3
        exact ⟨H.f0, H.f5, H.f6, H.f7, H.f8, H.c0, H.c1, H.c2, H.c3, H.c4, H.c5, H.c6, fun _ h8 => (by simp only [setL, reduceIte] at h8; cases h8), fun _ => ⟨q1, q3.imp id fun e => ⟨_, e, hEx.size⟩⟩, fun _ => hdeps 7 (by simp), grown_trans H.gr q2, fun h8 => (by simp only [setL, reduceIte] at h8; cases h8)⟩
    · intro Lx ok f w4 hall H
      simp only [List.mem_cons, List.not_mem_nil, or_false, forall_eq_or_imp, forall_eq] at hall
      obtain ⟨l0, l1, l2, l3, l4, l5, l6, l7, l8⟩ := hall
      have x57 := H.c3 l3
      have x58 := H.c4 l4
      obtain ⟨o62, b62⟩ := H.c8 l8
      have hrow4 := grown_get H.gr (grown_get hg3 hrow2 hqv) hqv
      have hgg := grown_trans hg3 H.gr
      have one62 : one (f 62) = true := by
        obtain ⟨a1, c1, e1⟩ := own_form o62
        rw [e1]; rfl
      have hisz : i < vs.toArray.size := by simp [h2.vlen, hlt]
      generalize hv62 : f 62 = v' at *
      have x7 := H.f7
      simp only [VS, VD, SV, SL, T, Nat.reduceEqDiff, Nat.reduceAdd, Nat.reduceSub, Nat.reduceMul, Nat.reduceLeDiff, Nat.reduceLT, reduceIte, x57, x58, hv62, hi63, hi0, hrow4, Int.toNat_natCast, Nat.zero_add, Nat.mul_one, and_self, one62, hisz, x7]
      have cl62 : v'.cells = #[v'] := by
        obtain ⟨a1, c1, e1⟩ := own_form o62
        rw [e1]; rfl
      rw [cl62]
      have hvl := h2.vlen
      refine ⟨⟨rfl, by simp; omega, by simp [one62], by simp⟩, ?_⟩
      have eset : spl vs.toArray i #[v'].toList = (vs.set i v').toArray := by
        show (vs.toArray.setIfInBounds i v') = _
        simp
      rw [eset]
      have hh : accL y li n = n :: (accL y li n).tail := rfl
      have hst := h2.step hE h.lt hv hgg (l' := accL y li n) (by rw [hh, List.length_cons]; omega) (by rw [hh]; exact o62) (b62.imp id fun ⟨b, e1, e2⟩ => ⟨b, e1, Nat.le_trans hg3.size e2⟩) hlt
      exact hΨ _ _ ⟨by simp [idxI_mem], ⟨q, _, hst.1⟩, hst.2⟩
end Go.Proofs.Ytneipineehichaa.C
set_option linter.unusedSimpArgs false
set_option linter.unusedVariables false
namespace Go.Proofs.Ytneipineehichaa.C
open Go.W Go.RowKit
set_option maxRecDepth 100000 in
theorem New_spec (s y l : Int) (w : World) : VRet Try.prog 25 #[cfgV s y l] w fun v w' =>
    (Geo s y l = false ∧ v = .tuple #[.pointer none, .int .i64 1] ∧ Ext w w') ∨
    (Geo s y l = true ∧ ∃ p, v = .tuple #[ptr p, .int .i64 0] ∧ CacheAt w' (fun b => w.heap.size ≤ b ∧ b < w'.heap.size) p s y l (List.replicate s.toNat []) ∧ Ext w w') := by
  refine VRet_start T.mo ok25 rfl fun Ψ hΨ => ?_; simp only [vc25, rs25]
  simp only [VS, VD, SV, SL, T, Nat.reduceEqDiff, Nat.reduceAdd, Nat.reduceSub, Nat.reduceMul, Nat.reduceLeDiff, Nat.reduceLT, reduceIte, cfgV]
  refine (Valid_spec s y l _).mono ?_
  rintro _ w1 ⟨rfl, hE1⟩
  replace hE1 := ((Ext.refl w).alloc tomb).trans hE1
  simp only [VS, VD, SV, SL, T, Nat.reduceEqDiff, Nat.reduceAdd, Nat.reduceSub, Nat.reduceMul, Nat.reduceLeDiff, Nat.reduceLT, reduceIte]
  refine cnd_b (fun hq => ?_) (fun hq => ?_)
  · simp only [VS, VD, SV, SL, T, Nat.reduceEqDiff, Nat.reduceAdd, Nat.reduceSub, Nat.reduceMul, Nat.reduceLeDiff, Nat.reduceLT, reduceIte]
    simp only [Bool.not_eq_true'] at hq
    exact hΨ _ _ (.inl ⟨hq, rfl, hE1⟩)
  · simp only [Bool.not_eq_false'] at hq
    simp only [VS, VD, SV, SL, T, Nat.reduceEqDiff, Nat.reduceAdd, Nat.reduceSub, Nat.reduceMul, Nat.reduceLeDiff, Nat.reduceLT, reduceIte]
    refine DW_intro (fun _ _ v w' => ∃ b, w.heap.size ≤ b ∧ v = .slice (some ⟨b, 0, none⟩) s.toNat s.toNat ∧ w'.heap[b]? = some (.cells (List.replicate s.toNat (Value.slice none 0 0)).toArray 29 (0, 0))) ?_
    simp only [VS, VD, SV, SL, T, Nat.reduceEqDiff, Nat.reduceAdd, Nat.reduceSub, Nat.reduceMul, Nat.reduceLeDiff, Nat.reduceLT, reduceIte]
    have hgs := Geo_spec hq
    refine rY_ph rfl rfl ?_ ?_ ?_
    · rintro v w' w'' ⟨b, q1, q2, q3⟩ hE
      exact ⟨b, q1, q2, hE.obj q3⟩
    · intro w' hE' _
      simp only [VS, VD, SV, SL, T, Nat.reduceEqDiff, Nat.reduceAdd, Nat.reduceSub, Nat.reduceMul, Nat.reduceLeDiff, Nat.reduceLT, reduceIte]
      refine ⟨by omega, (Ext.refl _).alloc _, w'.heap.size, Nat.le_trans hE1.size hE'.size, rfl, ?_⟩
      rw [if_pos rfl]
      simp
    · rintro v ⟨w', hE', hF, b, hb, rfl, hb3⟩
      simp only [VS, VD, SV, SL, T, Nat.reduceEqDiff, Nat.reduceAdd, Nat.reduceSub, Nat.reduceMul, Nat.reduceLeDiff, Nat.reduceLT, reduceIte]
      intro w2 hE2 hF2
      obtain ⟨b', _, e1, hrow⟩ := FA_head hF2
      simp only [Value.slice.injEq, Option.some.injEq, Addr.mk.injEq, and_true] at e1
      subst e1
      have hEw2 := hE1.trans hE2
      simp only [VS, VD, SV, SL, T, Nat.reduceEqDiff, Nat.reduceAdd, Nat.reduceSub, Nat.reduceMul, Nat.reduceLeDiff, Nat.reduceLT, reduceIte]
      have hblt := get_lt hrow
      refine hΨ _ _ (.inr ⟨hq, w2.heap.size, rfl, ⟨b, List.replicate s.toNat (.slice none 0 0), hq, alloc_get_new _ _, ?_, by omega, ⟨by have := hEw2.size; omega, by simp⟩, ⟨hb, by simp; omega⟩, fun _ h => h.2, by simp, by simp, ?_, ?_, ?_, ?_⟩, hEw2.alloc _⟩)
      · rw [alloc_get_lt hblt]; exact hrow
      · intro li hli; rw [(List.mem_replicate.1 hli).2]; simp
      · intro i v li h1 h2
        rw [(List.mem_replicate.1 (List.mem_of_getElem? h1)).2, (List.mem_replicate.1 (List.mem_of_getElem? h2)).2]
        exact World.ownsRow_nil _ _ _ _
      · intro i v b0 h1 h2
        rw [(List.mem_replicate.1 (List.mem_of_getElem? h1)).2] at h2
        cases h2
      · intro i j v u b0 _ h1 _ h2
        rw [(List.mem_replicate.1 (List.mem_of_getElem? h1)).2] at h2
        cases h2
theorem own_zero {w : World} {base : Nat} {e : TypeId} {v : Value} {n : Nat} {xs : List Value} (h : w.ownsRow base e 1 v n xs) : w.ownsRow 0 e 1 v n xs := by
  obtain ⟨h1, h2⟩ := h
  refine ⟨h1, ?_⟩
  rcases h2 with h2 | ⟨g, cap, cur, q0, q1, q2⟩
  · exact .inl h2
  · exact .inr ⟨g, cap, cur, q0, Nat.zero_le _, q2⟩
set_option maxRecDepth 100000 in
theorem Lines_spec {F : Nat → Prop} {p : Nat} {s y l : Int} {L : List (List Int)} {w : World} (h : CacheAt w F p s y l L) : VRet Try.prog 40 #[ptr p] w fun v w' => IntssAt w' v L ∧ Ext w w' := by
  obtain ⟨q, vs, h⟩ := h
  have hgs := Geo_spec h.geo
  have hobj := h.obj
  refine VRet_start T.mo ok40 rfl fun Ψ hΨ => ?_; simp only [vc40, rs40]
  have hpne : ¬ (p = w.heap.size) := by have := get_lt hobj; omega
  have z0 : #[Value.slice none 0 0][0]! = Value.slice none 0 0 := rfl
  simp only [VS, VD, SV, SL, T, Nat.reduceEqDiff, Nat.reduceAdd, Nat.reduceSub, Nat.reduceMul, Nat.reduceLeDiff, Nat.reduceLT, reduceIte, hobj, Option.isNone_some, hpne, Int.toNat_natCast, z0]
  refine ⟨by omega, ?_⟩
  refine LoopP_intro (α := Nat) (fun i f' w' => f' 3 = .slice (some ⟨w.heap.size, 0, none⟩) s.toNat s.toNat ∧ f' 17 = .slice (some ⟨q, 0, none⟩) s.toNat s.toNat ∧ f' 18 = .int .i64 s.toNat ∧ f' 19 = .int .i64 i ∧ i ≤ s.toNat ∧ Ext w w' ∧
    ∃ us : List Value, us.length = s.toNat ∧ w'.heap[w.heap.size]? = some (.cells us.toArray 29 (0, 0)) ∧ ∀ j, j < i → ∀ li, L[j]? = some li → ∃ u, us[j]? = some u ∧ w'.ownsRow 0 3 1 u li.length (iv li) ∧ some w.heap.size ≠ u.ownBlock) (fun i => s.toNat - i) 0 ?_ ?_
  · simp only [VS, VD, SV, SL, T, Nat.reduceEqDiff, Nat.reduceAdd, Nat.reduceSub, Nat.reduceMul, Nat.reduceLeDiff, Nat.reduceLT, reduceIte]
    refine ⟨rfl, by omega, (Ext.refl w).alloc _, List.replicate s.toNat (.slice none 0 0), by simp, by simp, fun j hj => by omega⟩
  · rintro i f' w' ⟨f3, f17, f18, f19, hi, hE, us, hul, hur, hus⟩
    simp only [VS, VD, SV, SL, T, Nat.reduceEqDiff, Nat.reduceAdd, Nat.reduceSub, Nat.reduceMul, Nat.reduceLeDiff, Nat.reduceLT, reduceIte, f19, f18]
    refine cnd_d (fun hlt => ?_) (fun hlt => ?_)
    · have hlt' : i < s.toNat := by omega
      have h' := h.ext hE
      obtain ⟨v, li, hv, hva, hL, ho, hw, hw8⟩ := h'.at hlt'
      have hrow := h'.row
      have hi0 : (0 : Int) ≤ i := by omega
      simp only [VS, VD, SV, SL, T, Nat.reduceEqDiff, Nat.reduceAdd, Nat.reduceSub, Nat.reduceMul, Nat.reduceLeDiff, Nat.reduceLT, reduceIte, f19, f17, f3, hrow, hva, hlt, hi0, Int.toNat_natCast, Nat.zero_add, Nat.mul_one, and_self]
      refine (CloneI_spec v li (by omega) w' (own_ints ho)).mono ?_
      rintro v' w2 ⟨ho', hE2⟩
      have hur2 := hE2.obj hur
      have cl : v'.cells = #[v'] := by
        obtain ⟨a1, c1, e1⟩ := own_form ho'
        rw [e1]; rfl
      have one1 : one v' = true := by
        obtain ⟨a1, c1, e1⟩ := own_form ho'
        rw [e1]; rfl
      simp only [VS, VD, SV, SL, T, Nat.reduceEqDiff, Nat.reduceAdd, Nat.reduceSub, Nat.reduceMul, Nat.reduceLeDiff, Nat.reduceLT, reduceIte, f19, f17, f3, hur2, hlt, hi0, Int.toNat_natCast, Nat.zero_add, Nat.mul_one, and_self, cl]
      have hEn := hE.trans hE2
      have hrs : some w.heap.size ≠ v'.ownBlock := fun e => by
        have h1 := (ho'.lt _ e.symm).1
        have := get_lt hur
        omega
      have eset : spl us.toArray i [v'] = (us.set i v').toArray := by
        show (us.toArray.setIfInBounds i v') = _
        simp
      refine ⟨⟨by omega, by simp [one1]⟩, by omega, i + 1, ⟨f18, by simp, by omega, hEn.putb (Nat.le_refl _) _, us.set i v', by simp [hul], ?_, ?_⟩, by omega⟩
      · rw [if_pos (get_lt hur2)]
      · intro j hj lj hlj
        by_cases hij : i = j
        · subst hij
          rw [hL] at hlj
          simp only [Option.some.injEq] at hlj
          subst hlj
          exact ⟨v', List.getElem?_set_self (by omega), own_putb (own_zero ho') hrs _, hrs⟩
        · obtain ⟨u, hu1, hu2, hu3⟩ := hus j (by omega) lj hlj
          exact ⟨u, by rw [List.getElem?_set_ne hij]; exact hu1, own_putb (own_ext hu2 hE2) hu3 _, hu3⟩
    · simp only [VS, VD, SV, SL, T, Nat.reduceEqDiff, Nat.reduceAdd, Nat.reduceSub, Nat.reduceMul, Nat.reduceLeDiff, Nat.reduceLT, reduceIte, f3]
      refine hΨ _ _ ⟨.inr ⟨w.heap.size, 0, s.toNat, by rw [h.len], fun j li hj => ?_⟩, hE⟩
      have hjl : j < s.toNat := by have := (List.getElem?_eq_some_iff.1 hj).1; rw [h.len] at this; exact this
      obtain ⟨u, hu1, hu2, hu3⟩ := hus j (by omega) li hj
      refine ⟨u, ?_, own_ints hu2⟩
      rw [cell_mk, hur, Nat.zero_add]
      simpa using hu1
end Go.Proofs.Ytneipineehichaa.C
set_option linter.unusedSimpArgs false
set_option linter.unusedVariables false
namespace Go.Proofs.Ytneipineehichaa.C
open Go.W Go.RowKit
theorem pw_cases {k : Nat} (h : k ≤ 7) : ((2 : Int) ^ k = 1 ∧ k = 0) ∨ ((2 : Int) ^ k = 2 ∧ k = 1) ∨ ((2 : Int) ^ k = 4 ∧ k = 2) ∨ ((2 : Int) ^ k = 8 ∧ k = 3) ∨ ((2 : Int) ^ k = 16 ∧ k = 4) ∨ ((2 : Int) ^ k = 32 ∧ k = 5) ∨ ((2 : Int) ^ k = 64 ∧ k = 6) ∨ ((2 : Int) ^ k = 128 ∧ k = 7) := by
  rcases (by omega : k = 0 ∨ k = 1 ∨ k = 2 ∨ k = 3 ∨ k = 4 ∨ k = 5 ∨ k = 6 ∨ k = 7) with rfl | rfl | rfl | rfl | rfl | rfl | rfl | rfl <;> simp





end Go.Proofs.Ytneipineehichaa.C
set_option linter.unusedSimpArgs false
set_option linter.unusedVariables false
namespace Go.Proofs.Ytneipineehichaa.C
open Go.W Go.RowKit
/-- a cache made since w0 -/
def CA (w0 w : World) (p : Nat) (s y l : Int) (L : List (List Int)) : Prop := ∃ F, CacheAt w F p s y l L ∧ (∀ b, F b → w0.heap.size ≤ b) ∧ Ext w0 w
theorem CA.ext {w0 w w' : World} {p : Nat} {s y l : Int} {L : List (List Int)} (h : CA w0 w p s y l L) (hE : Ext w w') : CA w0 w' p s y l L := by
  obtain ⟨F, h1, h2, h3⟩ := h
  exact ⟨F, h1.ext hE, h2, h3.trans hE⟩
theorem Access_own {w0 w : World} {p : Nat} {s y l : Int} {L : List (List Int)} (h : CA w0 w p s y l L) (a : Int) (ha : 0 ≤ a) (ha63 : a ≤ 9223372036854775807) :
    VRet Try.prog 27 #[ptr p, .int .i64 a] w fun v w' => v = .bool (decide (a / l ∈ L.getD ((a / l) % s).toNat [])) ∧
      CA w0 w' p s y l (L.set ((a / l) % s).toNat (accL y (L.getD ((a / l) % s).toNat []) (a / l))) := by
  obtain ⟨F, h1, h2, h3⟩ := h
  refine (Access_spec h1 a ha ha63).mono ?_
  rintro v w' ⟨rfl, hC, hg⟩
  refine ⟨rfl, _, hC, ?_, hg.ext h3 h2⟩
  rintro b (hb | hb)
  · exact h2 b hb
  · have := h3.size; omega
theorem New_own (s y l : Int) (hg : Geo s y l = true) (w : World) : VRet Try.prog 25 #[cfgV s y l] w fun v w' => ∃ p, v = .tuple #[ptr p, .int .i64 0] ∧ CA w w' p s y l (List.replicate s.toNat []) := by
  refine (New_spec s y l w).mono ?_
  rintro v w' (⟨hn, _⟩ | ⟨_, p, rfl, hC, hE⟩)
  · rw [hg] at hn; cases hn
  · exact ⟨p, rfl, _, hC, fun b hb => hb.1, hE⟩


end Go.Proofs.Ytneipineehichaa.C
set_option linter.unusedSimpArgs false
set_option linter.unusedVariables false
namespace Go.Proofs.Ytneipineehichaa.C
open Go.W Go.RowKit
/-- F and the blocks made between two worlds -/
def Nw (F : Nat → Prop) (w w' : World) : Nat → Prop := fun b => F b ∨ (w.heap.size ≤ b ∧ b < w'.heap.size)
theorem CacheAt.mono {w : World} {F G : Nat → Prop} {p : Nat} {s y l : Int} {L : List (List Int)} (h : CacheAt w F p s y l L) (hFG : ∀ b, F b → G b) (hG : ∀ b, G b → b < w.heap.size) : CacheAt w G p s y l L := by
  obtain ⟨q, vs, h⟩ := h
  exact ⟨q, vs, h.geo, h.obj, h.row, h.ne, hFG _ h.fp, hFG _ h.fq, hG, h.len, h.vlen, h.ways, h.own, fun i v b hv hb => ⟨hFG _ (h.fb i v b hv hb).1, (h.fb i v b hv hb).2⟩, h.apart⟩
theorem CacheAt.lt {w : World} {F : Nat → Prop} {p : Nat} {s y l : Int} {L : List (List Int)} (h : CacheAt w F p s y l L) : ∀ b, F b → b < w.heap.size := by
  obtain ⟨q, vs, h⟩ := h; exact h.lt
theorem CacheAt.geo {w : World} {F : Nat → Prop} {p : Nat} {s y l : Int} {L : List (List Int)} (h : CacheAt w F p s y l L) : Geo s y l = true := by
  obtain ⟨q, vs, h⟩ := h; exact h.geo
/-- the lines of the set of an address's line -/
def lnS (s l : Int) (L : List (List Int)) (a : Int) : List Int := L.getD ((a / l) % s).toNat []
def hitS (s l : Int) (L : List (List Int)) (a : Int) : Bool := decide (0 ≤ a ∧ a / l ∈ lnS s l L a)
def accS (s y l : Int) (L : List (List Int)) (a : Int) : List (List Int) := if 0 ≤ a then L.set ((a / l) % s).toNat (accL y (lnS s l L a) (a / l)) else L
set_option maxRecDepth 100000 in
theorem Access_neg {F : Nat → Prop} {p : Nat} {s y l : Int} {L : List (List Int)} {w : World} (h : CacheAt w F p s y l L) (a : Int) (ha : a < 0) :
    VRet Try.prog 27 #[ptr p, .int .i64 a] w fun v w' => v = .bool false ∧ Ext w w' := by
  obtain ⟨q, vs, h⟩ := h
  refine VRet_start T.mo ok27 rfl fun Ψ hΨ => ?_; simp only [vc27, rs27]
  have hobj := h.obj
  simp only [VS, VD, SV, SL, T, Nat.reduceEqDiff, Nat.reduceAdd, Nat.reduceSub, Nat.reduceMul, Nat.reduceLeDiff, Nat.reduceLT, reduceIte, hobj, Option.isNone_some]
  refine (Line_spec s y l a (by omega) w).mono ?_
  rintro _ w1 ⟨rfl, hE1⟩
  have hline : lineOf s y l a = -1 := by simp only [lineOf]; rw [if_neg (by omega)]
  rw [hline]
  simp only [VS, VD, SV, SL, T, Nat.reduceEqDiff, Nat.reduceAdd, Nat.reduceSub, Nat.reduceMul, Nat.reduceLeDiff, Nat.reduceLT, reduceIte]
  refine cnd_d (fun _ => ?_) (fun h => by exfalso; omega)
  simp only [VS, VD, SV, SL, T, Nat.reduceEqDiff, Nat.reduceAdd, Nat.reduceSub, Nat.reduceMul, Nat.reduceLeDiff, Nat.reduceLT, reduceIte]
  exact hΨ _ _ ⟨rfl, hE1⟩
theorem Access_any {F : Nat → Prop} {p : Nat} {s y l : Int} {L : List (List Int)} {w : World} (h : CacheAt w F p s y l L) (a : Int) (ha63 : a ≤ 9223372036854775807) :
    VRet Try.prog 27 #[ptr p, .int .i64 a] w fun v w' => v = .bool (hitS s l L a) ∧ CacheAt w' (Nw F w w') p s y l (accS s y l L a) ∧ Chg F w w' := by
  by_cases ha : 0 ≤ a
  · refine (Access_spec h a ha ha63).mono ?_
    rintro v w' ⟨rfl, h1, h2⟩
    refine ⟨by simp [hitS, ha, lnS], ?_, h2⟩
    rw [accS, if_pos ha]
    exact h1
  · refine (Access_neg h a (by omega)).mono ?_
    rintro v w' ⟨rfl, hE⟩
    refine ⟨by simp [hitS, ha], ?_, Chg.of_ext hE⟩
    rw [accS, if_neg ha]
    refine (h.ext hE).mono (fun b hb => .inl hb) ?_
    rintro b (hb | hb)
    · exact (h.ext hE).lt b hb
    · exact hb.2
def ageS (s y l : Int) (L : List (List Int)) (n : Int) : Int := if 0 ≤ n then idxI (L.getD (n % s).toNat []) n else -1
theorem setOf_eq {s y l n : Int} (hg : Geo s y l = true) (hn : 0 ≤ n) : setOf s y l n = n % s := by simp [setOf, hg, hn]

set_option maxRecDepth 100000 in
theorem Probe_spec {F : Nat → Prop} {p : Nat} {s y l : Int} {L : List (List Int)} {w : World} (h : CacheAt w F p s y l L) (a : Int) (ha63 : a ≤ 9223372036854775807) :
    VRet Try.prog 29 #[ptr p, .int .i64 a] w fun v w' => v = .bool (hitS s l L a) ∧ Ext w w' := by
  obtain ⟨q, vs, h⟩ := h
  have hgs := Geo_spec h.geo
  refine VRet_start T.mo ok29 rfl fun Ψ hΨ => ?_; simp only [vc29, rs29]
  have hobj := h.obj
  simp only [VS, VD, SV, SL, T, Nat.reduceEqDiff, Nat.reduceAdd, Nat.reduceSub, Nat.reduceMul, Nat.reduceLeDiff, Nat.reduceLT, reduceIte, hobj, Option.isNone_some]
  refine (Line_spec s y l a ha63 w).mono ?_
  rintro _ w1 ⟨rfl, hE1⟩
  simp only [VS, VD, SV, SL, T, Nat.reduceEqDiff, Nat.reduceAdd, Nat.reduceSub, Nat.reduceMul, Nat.reduceLeDiff, Nat.reduceLT, reduceIte]
  refine (find_spec (h.ext hE1) (lineOf s y l a)).mono ?_
  rintro _ w2 ⟨rfl, hE2⟩
  simp only [VS, VD, SV, SL, T, Nat.reduceEqDiff, Nat.reduceAdd, Nat.reduceSub, Nat.reduceMul, Nat.reduceLeDiff, Nat.reduceLT, reduceIte]
  refine hΨ _ _ ⟨?_, hE1.trans hE2⟩
  by_cases ha : 0 ≤ a
  · have hl0 : 0 ≤ a / l := Int.ediv_nonneg ha (by omega)
    have hline : lineOf s y l a = a / l := by simp [lineOf, h.geo, ha]
    rw [hline, if_pos hl0, setOf_eq h.geo hl0]
    simp [hitS, lnS, idxI_mem, ha]
  · have hline : lineOf s y l a = -1 := by simp only [lineOf]; rw [if_neg (by omega)]
    rw [hline]
    simp [hitS, ha]

set_option maxRecDepth 100000 in
theorem Flush_spec {F : Nat → Prop} {p : Nat} {s y l : Int} {L : List (List Int)} {w : World} (h : CacheAt w F p s y l L) :
    VRet Try.prog 28 #[ptr p] w fun v w' => CacheAt w' (Nw F w w') p s y l (List.replicate s.toNat []) ∧ Chg F w w' := by
  obtain ⟨q, vs, h⟩ := h
  have hgs := Geo_spec h.geo
  have hobj := h.obj
  have hplt := get_lt hobj
  have hpne : ¬ (p = w.heap.size) := by omega
  have z0 : #[Value.slice none 0 0][0]! = Value.slice none 0 0 := rfl
  refine VRet_start T.mo ok28 rfl fun Ψ hΨ => ?_; simp only [vc28, rs28]
  simp only [VS, VD, SV, SL, T, Nat.reduceEqDiff, Nat.reduceAdd, Nat.reduceSub, Nat.reduceMul, Nat.reduceLeDiff, Nat.reduceLT, reduceIte, hobj, Option.isNone_some, hpne, Int.toNat_natCast, z0]
  refine ⟨by omega, hΨ _ _ ⟨⟨w.heap.size, List.replicate s.toNat (.slice none 0 0), h.geo, ?_, ?_, hpne, .inl h.fp, .inr ⟨Nat.le_refl _, by rw [putb_size]; simp⟩, ?_, by simp, by simp, ?_, ?_, ?_, ?_⟩, ?_⟩⟩
  · exact putb_get_same (by simp; omega) _
  · rw [putb_get_ne (Ne.symm hpne), alloc_get_new]; simp
  · rintro b (hb | hb)
    · rw [putb_size, alloc_size]; have := h.lt b hb; omega
    · exact hb.2
  · intro li hli; rw [(List.mem_replicate.1 hli).2]; simp
  · intro i v li h1 h2
    rw [(List.mem_replicate.1 (List.mem_of_getElem? h1)).2, (List.mem_replicate.1 (List.mem_of_getElem? h2)).2]
    exact World.ownsRow_nil _ _ _ _
  · intro i v b0 h1 h2
    rw [(List.mem_replicate.1 (List.mem_of_getElem? h1)).2] at h2
    cases h2
  · intro i j v u b0 _ h1 _ h2
    rw [(List.mem_replicate.1 (List.mem_of_getElem? h1)).2] at h2
    cases h2
  · refine ⟨rfl, rfl, rfl, by rw [putb_size]; simp, fun b hb hn => ?_⟩
    rw [putb_get_ne (by rintro rfl; exact hn h.fp), alloc_get_lt hb]
/-- the lists after accesses -/
def runS (s y l : Int) (L : List (List Int)) (xs : List Int) : List (List Int) := xs.foldl (accS s y l) L
def emp (s : Int) : List (List Int) := List.replicate s.toNat []

end Go.Proofs.Ytneipineehichaa.C
set_option linter.unusedSimpArgs false
set_option linter.unusedVariables false
namespace Go.Proofs.Ytneipineehichaa.C
open Go.W
/-- the lines of a history (the most recent one first), each once -/
def dst : List Int → List Int
  | [] => []
  | n :: h => n :: (dst h).filter (· != n)
theorem dst_nodup : ∀ h, (dst h).Nodup
  | [] => List.nodup_nil
  | n :: h => by
    rw [dst, List.nodup_cons]
    refine ⟨by simp, (dst_nodup h).filter _⟩
theorem mem_dst {x : Int} : ∀ {h : List Int}, x ∈ dst h ↔ x ∈ h
  | [] => by simp [dst]
  | n :: h => by
    rw [dst, List.mem_cons, List.mem_filter, mem_dst, List.mem_cons]
    constructor
    · rintro (h | h)
      · exact .inl h
      · exact .inr h.1
    · rintro (h | h)
      · exact .inl h
      · by_cases e : x = n
        · exact .inl e
        · exact .inr ⟨h, by simpa using e⟩
theorem eraseIdx_idx {cur : List Int} {n : Int} (hn : cur.Nodup) (hm : n ∈ cur) : cur.eraseIdx (idxI cur n).toNat = cur.filter (· != n) := by
  induction cur with
  | nil => simp at hm
  | cons x cur ih =>
    rw [List.nodup_cons] at hn
    by_cases e : x = n
    · subst e
      have : idxI (x :: cur) x = 0 := by simp [idxI, List.idxOf?, List.findIdx?_cons]
      rw [this]
      simp only [Int.toNat_zero, List.eraseIdx_cons_zero, List.filter_cons, bne_self_eq_false, Bool.false_eq_true, if_false]
      rw [List.filter_eq_self.2]
      intro a ha
      simp only [bne_iff_ne, ne_eq]
      rintro rfl
      exact hn.1 ha
    · have hm' : n ∈ cur := by simpa [Ne.symm e] using hm
      obtain ⟨i, hi, _⟩ := idxI_lt hm'
      have : idxI (x :: cur) n = (i + 1 : Nat) := by
        have h1 : cur.idxOf? n = some i := by
          unfold idxI at hi
          split at hi
          · rename_i j hj; rw [hj]; congr 1; omega
          · omega
        simp only [List.idxOf?] at h1
        simp [idxI, List.idxOf?, List.findIdx?_cons, e, h1]
      rw [this, Int.toNat_natCast, List.eraseIdx_cons_succ, List.filter_cons]
      have e2 : (x != n) = true := by simpa using e
      rw [if_pos e2]
      have := ih hn.2 hm'
      rw [hi, Int.toNat_natCast] at this
      rw [this]
theorem filter_len {cur : List Int} {n : Int} (hm : n ∈ cur) : (cur.filter (· != n)).length < cur.length := by
  apply List.length_filter_lt_length_iff_exists.2
  exact ⟨n, hm, by simp⟩
/-- one access, in one word -/
theorem accL_eq {y : Int} {cur : List Int} {n : Int} (hy : 1 ≤ y) (hn : cur.Nodup) (hl : cur.length ≤ y.toNat) : accL y cur n = n :: (cur.filter (· != n)).take (y.toNat - 1) := by
  unfold accL
  congr 1
  by_cases hm : n ∈ cur
  · rw [if_pos hm, eraseIdx_idx hn hm, List.take_of_length_le]
    have := filter_len hm
    omega
  · rw [if_neg hm]
    have hf : cur.filter (· != n) = cur := by
      rw [List.filter_eq_self]
      intro a ha
      simp only [bne_iff_ne, ne_eq]
      rintro rfl
      exact hm ha
    rw [hf]
    split
    · rename_i e
      rw [List.dropLast_eq_take, e]
    · rw [List.take_of_length_le (by omega)]
theorem take_filter {n : Int} : ∀ {M : List Int} (k : Nat), M.Nodup → (((M.take (k + 1)).filter (· != n)).take k) = (M.filter (· != n)).take k
  | [], k, _ => by simp
  | x :: M, 0, _ => by simp
  | x :: M, k + 1, hn => by
    rw [List.nodup_cons] at hn
    rw [List.take_succ_cons, List.filter_cons, List.filter_cons]
    by_cases e : x = n
    · subst e
      have hf : ∀ (Q : List Int), (∀ a ∈ Q, a ∈ M) → Q.filter (· != x) = Q := by
        intro Q hQ
        rw [List.filter_eq_self]
        intro a ha
        simp only [bne_iff_ne, ne_eq]
        rintro rfl
        exact hn.1 (hQ a ha)
      simp only [bne_self_eq_false, Bool.false_eq_true, if_false]
      rw [hf _ (fun a ha => List.mem_of_mem_take ha), hf M (fun a ha => ha), List.take_take, Nat.min_self]
    · have e2 : (x != n) = true := by simpa using e
      rw [if_pos e2, if_pos e2, List.take_succ_cons, List.take_succ_cons, take_filter k hn.2]
/-- an access and the history -/
theorem accL_dst {y : Int} (hy : 1 ≤ y) (h : List Int) (n : Int) : accL y ((dst h).take y.toNat) n = (dst (n :: h)).take y.toNat := by
  rw [accL_eq hy ((dst_nodup h).sublist (List.take_sublist _ _)) (by simp; omega), dst]
  obtain ⟨k, hk⟩ : ∃ k, y.toNat = k + 1 := ⟨y.toNat - 1, by omega⟩
  rw [hk, Nat.add_sub_cancel, List.take_succ_cons, take_filter k (dst_nodup h)]
theorem dst_append : ∀ (P Q : List Int), dst (P ++ Q) = dst P ++ (dst Q).filter (fun x => !P.contains x)
  | [], Q => by
    simp only [List.nil_append, dst, List.contains_nil, Bool.not_false]
    exact (List.filter_eq_self.2 (by simp)).symm
  | n :: P, Q => by
    rw [List.cons_append, dst, dst_append P Q, dst, List.filter_append, List.filter_filter, List.cons_append]
    congr 2
    apply List.filter_congr
    intro x _
    simp only [List.contains_cons, Bool.not_or]
    rfl
/-- the stack distance -/
theorem mem_take_dst {P R : List Int} {n : Int} (hP : n ∉ P) (y : Nat) : n ∈ (dst (P ++ n :: R)).take y ↔ (dst P).length < y := by
  have hd : n ∉ dst P := fun h => hP (mem_dst.1 h)
  have e : dst (P ++ n :: R) = dst P ++ n :: ((dst R).filter (· != n)).filter (fun x => !P.contains x) := by
    rw [dst_append, dst, List.filter_cons, if_pos (by simpa using hP)]
  rw [e, List.take_append, List.mem_append]
  constructor
  · rintro (h | h)
    · exact (hd (List.mem_of_mem_take h)).elim
    · apply Nat.lt_of_not_le
      intro hle
      rw [Nat.sub_eq_zero_of_le hle] at h
      simp at h
  · intro h
    right
    obtain ⟨k, hk⟩ : ∃ k, y - (dst P).length = k + 1 := ⟨y - (dst P).length - 1, by omega⟩
    rw [hk, List.take_succ_cons]
    simp
theorem not_mem_take_dst {P : List Int} {n : Int} (hP : n ∉ P) (y : Nat) : n ∉ (dst P).take y := fun h => hP (mem_dst.1 (List.mem_of_mem_take h))
/-- the lists of all sets, by the sets' histories -/
def stS (s y : Int) (H : Nat → List Int) : List (List Int) := (List.range s.toNat).map fun i => (dst (H i)).take y.toNat
def addH (s l : Int) (H : Nat → List Int) (a : Int) : Nat → List Int := fun i => if 0 ≤ a ∧ ((a / l) % s).toNat = i then a / l :: H i else H i
theorem stS_get {s y : Int} {H : Nat → List Int} {i : Nat} (hi : i < s.toNat) : (stS s y H)[i]? = some ((dst (H i)).take y.toNat) := by
  simp [stS, hi]
theorem stS_getD {s y : Int} {H : Nat → List Int} {i : Nat} (hi : i < s.toNat) : (stS s y H).getD i [] = (dst (H i)).take y.toNat := by
  rw [List.getD_eq_getElem?_getD, stS_get hi]; rfl
theorem emp_stS (s y : Int) : emp s = stS s y fun _ => [] := by
  apply List.ext_getElem?
  intro i
  simp [emp, stS, dst, List.getElem?_replicate]
  split <;> simp_all
theorem set_lt {s y l n : Int} (hg : Geo s y l = true) : (n % s).toNat < s.toNat := by
  have := Geo_spec hg
  have h1 := Int.emod_nonneg n (show s ≠ 0 by omega)
  have h2 := Int.emod_lt_of_pos n (show 0 < s by omega)
  omega
theorem accS_stS {s y l : Int} (hg : Geo s y l = true) (H : Nat → List Int) (a : Int) : accS s y l (stS s y H) a = stS s y (addH s l H a) := by
  have hgs := Geo_spec hg
  have hlt := set_lt (n := a / l) hg
  unfold accS
  split
  · rename_i ha
    rw [lnS, stS_getD hlt, accL_dst (by omega)]
    apply List.ext_getElem?
    intro j
    by_cases hj : j < s.toNat
    · rw [stS_get hj]
      by_cases e : ((a / l) % s).toNat = j
      · subst e
        rw [List.getElem?_set_self (by rw [stS, List.length_map, List.length_range]; exact hj)]
        simp [addH, ha]
      · rw [List.getElem?_set_ne e, stS_get hj]
        simp [addH, e]
    · rw [List.getElem?_eq_none (by simp [stS]; omega), List.getElem?_eq_none (by simp [stS]; omega)]
  · rename_i ha
    congr 1
    funext i
    simp [addH, ha]
theorem runS_stS {s y l : Int} (hg : Geo s y l = true) : ∀ (xs : List Int) (H : Nat → List Int), runS s y l (stS s y H) xs = stS s y (xs.foldl (addH s l) H)
  | [], H => rfl
  | a :: xs, H => by
    have := runS_stS hg xs (addH s l H a)
    rw [runS, List.foldl_cons, accS_stS hg, List.foldl_cons]
    exact this
theorem hitS_stS {s y l : Int} (hg : Geo s y l = true) (H : Nat → List Int) (a : Int) : hitS s l (stS s y H) a = decide (0 ≤ a ∧ a / l ∈ (dst (H ((a / l) % s).toNat)).take y.toNat) := by
  rw [hitS, lnS, stS_getD (set_lt hg)]
/-- the history of a set, from accesses in their order -/
def hh (s l : Int) (i : Nat) (xs : List Int) : List Int := xs.foldl (addH s l) (fun _ => []) i
theorem foldl_addH (s l : Int) (i : Nat) : ∀ (xs : List Int) (H : Nat → List Int), xs.foldl (addH s l) H i = hh s l i xs ++ H i
  | [], H => rfl
  | x :: xs, H => by
    rw [List.foldl_cons, foldl_addH s l i xs, show hh s l i (x :: xs) = xs.foldl (addH s l) (addH s l (fun _ => []) x) i from rfl, foldl_addH s l i xs, List.append_assoc]
    congr 1
    simp only [addH]
    split <;> simp
theorem hh_cons (s l : Int) (i : Nat) (x : Int) (xs : List Int) : hh s l i (x :: xs) = hh s l i xs ++ if 0 ≤ x ∧ ((x / l) % s).toNat = i then [x / l] else [] := by
  rw [hh, List.foldl_cons, foldl_addH]
  simp only [addH]
theorem hh_append (s l : Int) (i : Nat) (xs ys : List Int) : hh s l i (xs ++ ys) = hh s l i ys ++ hh s l i xs := by
  rw [hh, List.foldl_append, foldl_addH]; rfl
theorem idxI_take {M : List Int} {n : Int} {i : Nat} (hn : M.Nodup) (h : M[i]? = some n) : idxI M n = i := by
  have hi := (List.getElem?_eq_some_iff.1 h).1
  have he := (List.getElem?_eq_some_iff.1 h).2
  rw [idxI, idxOf?_take hi ?_ he]
  intro hm
  obtain ⟨j, hj, e⟩ := List.mem_take_iff_getElem.1 hm
  have hj' : j < i := by omega
  have := List.pairwise_iff_getElem.1 hn j i (by omega) hi hj'
  exact this (by rw [e, he])
end Go.Proofs.Ytneipineehichaa.C
set_option linter.unusedSimpArgs false
set_option linter.unusedVariables false
namespace Go.Proofs.Ytneipineehichaa.C
open Go.W
theorem mem_hh {s l : Int} {i : Nat} {n : Int} : ∀ {xs : List Int}, n ∈ hh s l i xs → ∃ x ∈ xs, 0 ≤ x ∧ n = x / l ∧ (n % s).toNat = i
  | [], h => by simp [hh] at h
  | x :: xs, h => by
    rw [hh_cons, List.mem_append] at h
    rcases h with h | h
    · obtain ⟨x', h1, h2⟩ := mem_hh h
      exact ⟨x', List.mem_cons_of_mem _ h1, h2⟩
    · split at h
      · rename_i hc
        simp only [List.mem_singleton] at h
        subst h
        exact ⟨x, List.mem_cons_self .., hc.1, rfl, hc.2⟩
      · simp at h
abbrev stX (s y l : Int) (xs : List Int) : List (List Int) := stS s y (xs.foldl (addH s l) fun _ => [])
theorem stX_get {s y l : Int} {xs : List Int} {i : Nat} (hi : i < s.toNat) : (stX s y l xs)[i]? = some ((dst (hh s l i xs)).take y.toNat) := stS_get hi
theorem stS_len (s y : Int) (H : Nat → List Int) : (stS s y H).length = s.toNat := by simp [stS]
theorem stS_some {s y : Int} {H : Nat → List Int} {i : Nat} {li : List Int} (h : (stS s y H)[i]? = some li) : i < s.toNat ∧ li = (dst (H i)).take y.toNat := by
  have hi : i < s.toNat := by have := (List.getElem?_eq_some_iff.1 h).1; rw [stS_len] at this; exact this
  rw [stS_get hi] at h
  simp only [Option.some.injEq] at h
  exact ⟨hi, h.symm⟩
theorem nodup_take (h : List Int) (k : Nat) : ((dst h).take k).Nodup := (dst_nodup h).sublist (List.take_sublist _ _)
theorem line_facts {s y l : Int} (hg : Geo s y l = true) {xs : List Int} (hx : ∀ x ∈ xs, x ≤ 100000) {i j : Nat} {k : Int} (hi : i < s.toNat) (hk : ((dst (hh s l i xs)).take y.toNat)[j]? = some k) :
    0 ≤ k ∧ k ≤ 100000 ∧ setOf s y l k = i ∧ ageS s y l (stX s y l xs) k = j ∧ hitS s l (stX s y l xs) (k * l) = true ∧ hitS s l (stX s y l xs) (k * l + l - 1) = true := by
  have hgs := Geo_spec hg
  have hm := List.mem_of_getElem? hk
  have hm0 := mem_dst.1 (List.mem_of_mem_take hm)
  obtain ⟨x, hxm, hx0, rfl, hset⟩ := mem_hh hm0
  have h0 : 0 ≤ x / l := Int.ediv_nonneg hx0 (by omega)
  have h1 : x / l ≤ 100000 := Int.le_trans (Int.ediv_le_self _ hx0) (hx x hxm)
  generalize x / l = k at *
  have hs0 := Int.emod_nonneg k (show s ≠ 0 by omega)
  have e1 : (k * l) / l = k := Int.mul_ediv_cancel k (by omega)
  have e2 : (k * l + l - 1) / l = k := by
    rw [show k * l + l - 1 = (l - 1) + k * l by omega, Int.add_mul_ediv_right _ _ (by omega), Int.ediv_eq_zero_of_lt (by omega) (by omega), Int.zero_add]
  have hkl : 0 ≤ k * l := Int.mul_nonneg h0 (by omega)
  refine ⟨h0, h1, by rw [setOf_eq hg h0]; omega, ?_, ?_, ?_⟩
  · rw [ageS, if_pos h0, hset, stS_getD hi]
    exact idxI_take (nodup_take _ _) hk
  · rw [hitS_stS hg, e1, hset]
    exact decide_eq_true ⟨hkl, hm⟩
  · rw [hitS_stS hg, e2, hset]
    exact decide_eq_true ⟨by omega, hm⟩
theorem age_none {s y l : Int} (hg : Geo s y l = true) {H : Nat → List Int} {n : Int} (h : ∀ i, i < s.toNat → n ∉ (dst (H i)).take y.toNat) : ageS s y l (stS s y H) n = -1 := by
  unfold ageS
  split
  · have hlt := set_lt (n := n) hg
    rw [stS_getD hlt]
    have := h _ hlt
    rw [← idxI_mem] at this
    unfold idxI at *
    split
    · rename_i i hi; rw [hi] at this; simp only [] at this; omega
    · rfl
  · rfl
theorem hit_none {s y l : Int} (hg : Geo s y l = true) {H : Nat → List Int} {n : Int} (h : ∀ i, i < s.toNat → n ∉ (dst (H i)).take y.toNat) : hitS s l (stS s y H) (n * l) = false := by
  have hgs := Geo_spec hg
  rw [hitS_stS hg, Int.mul_ediv_cancel n (by omega)]
  exact decide_eq_false fun hh => h _ (set_lt hg) hh.2
/-! ### misses -/
def misB (s y l : Int) (H : Nat → List Int) (a : Int) : Nat := if 0 ≤ a ∧ a / l ∉ (dst (H ((a / l) % s).toNat)).take y.toNat then 1 else 0
def mis (s y l : Int) (H : Nat → List Int) : List Int → Nat
  | [] => 0
  | a :: xs => misB s y l H a + mis s y l (addH s l H a) xs
theorem mis_snoc (s y l : Int) (a : Int) : ∀ (xs : List Int) (H : Nat → List Int), mis s y l H (xs ++ [a]) = mis s y l H xs + misB s y l (xs.foldl (addH s l) H) a
  | [], H => by simp [mis]
  | x :: xs, H => by simp only [List.cons_append, mis, List.foldl_cons]; rw [mis_snoc s y l a xs]; omega
theorem misB_le (s y l : Int) (H : Nat → List Int) (a : Int) : misB s y l H a ≤ 1 := by unfold misB; split <;> omega
theorem mis_le (s y l : Int) : ∀ (xs : List Int) (H : Nat → List Int), mis s y l H xs ≤ xs.length
  | [], H => by simp [mis]
  | x :: xs, H => by have := mis_le s y l xs (addH s l H x); have := misB_le s y l H x; simp only [mis, List.length_cons]; omega
/-- what a set's history has room for -/
def room (y : Int) (P : List Int) : Nat := min y.toNat (dst P).length
def sumR (y : Int) (P : Nat → List Int) : Nat → Nat
  | 0 => 0
  | n + 1 => sumR y P n + room y (P n)
theorem sumR_le (y : Int) (P : Nat → List Int) : ∀ n, sumR y P n ≤ n * y.toNat
  | 0 => by simp [sumR]
  | n + 1 => by
    have := sumR_le y P n
    have : room y (P n) ≤ y.toNat := Nat.min_le_left _ _
    rw [sumR, Nat.succ_mul]; omega
theorem sumR_congr (y : Int) {P Q : Nat → List Int} : ∀ n, (∀ i, i < n → P i = Q i) → sumR y P n = sumR y Q n
  | 0, _ => rfl
  | n + 1, h => by rw [sumR, sumR, sumR_congr y n (fun i hi => h i (by omega)), h n (by omega)]
theorem sumR_upd (y : Int) {P Q : Nat → List Int} {i : Nat} {d : Nat} : ∀ n, i < n → (∀ j, j ≠ i → P j = Q j) → room y (P i) + d ≤ room y (Q i) → sumR y P n + d ≤ sumR y Q n
  | 0, h, _, _ => by omega
  | n + 1, h, h1, h2 => by
    rw [sumR, sumR]
    by_cases e : i = n
    · subst e
      rw [sumR_congr y i (fun j hj => h1 j (by omega))]
      omega
    · have := sumR_upd y n (by omega) h1 h2
      rw [h1 n (Ne.symm e)]
      omega
theorem dst_cons_len {P : List Int} {n : Int} : (dst P).length ≤ (dst (n :: P)).length ∧ (n ∉ P → (dst (n :: P)).length = (dst P).length + 1) := by
  have hf : n ∉ P → (dst P).filter (· != n) = dst P := by
    intro h
    rw [List.filter_eq_self]
    intro a ha
    simp only [bne_iff_ne, ne_eq]
    rintro rfl
    exact h (mem_dst.1 ha)
  by_cases h : n ∈ P
  · refine ⟨?_, fun h' => (h' h).elim⟩
    -- one is taken out, one is put ahead
    have hm := mem_dst.2 h
    have h1 : ∀ (M : List Int), M.Nodup → M.length ≤ (M.filter (· != n)).length + 1 := by
      intro M
      induction M with
      | nil => intro _; simp
      | cons x M ih =>
        intro hn
        rw [List.nodup_cons] at hn
        rw [List.filter_cons]
        by_cases e : x = n
        · subst e
          have : M.filter (· != x) = M := by
            rw [List.filter_eq_self]
            intro a ha
            simp only [bne_iff_ne, ne_eq]
            rintro rfl
            exact hn.1 ha
          simp [this]
        · have e2 : (x != n) = true := by simpa using e
          rw [if_pos e2]
          have := ih hn.2
          simp only [List.length_cons]; omega
    have := h1 _ (dst_nodup P)
    rw [dst, List.length_cons]; exact this
  · rw [dst, List.length_cons, hf h]
    exact ⟨by omega, fun _ => rfl⟩
/-- a hit behind a flush is a hit without it; and a miss that the flush has made takes room -/
theorem flush_step {y : Int} {P R : List Int} {n : Int} : (n ∈ (dst P).take y.toNat → n ∈ (dst (P ++ R)).take y.toNat) ∧
    (n ∉ (dst P).take y.toNat → n ∈ (dst (P ++ R)).take y.toNat → room y P + 1 ≤ room y (n :: P)) := by
  rw [dst_append, List.take_append]
  refine ⟨fun h => List.mem_append_left _ h, fun h1 h2 => ?_⟩
  rcases List.mem_append.1 h2 with h | h
  · exact (h1 h).elim
  · have hlt : (dst P).length < y.toNat := by
      apply Nat.lt_of_not_le
      intro hle
      rw [Nat.sub_eq_zero_of_le hle] at h
      simp at h
    have hn : n ∉ P := by
      have := List.mem_of_mem_take h
      rw [List.mem_filter] at this
      simpa using this.2
    have := dst_cons_len.2 hn
    unfold room
    omega
theorem room_mono {y : Int} {P : List Int} {n : Int} : room y P ≤ room y (n :: P) := by
  have := (dst_cons_len (P := P) (n := n)).1
  unfold room; omega
/-- one access of two caches, the second one's history a part of the first one's -/
theorem flush_acc {s y l : Int} (hg : Geo s y l = true) {H P : Nat → List Int} (hR : ∀ i, ∃ R, H i = P i ++ R) (a : Int) :
    misB s y l H a ≤ misB s y l P a ∧ misB s y l P a + sumR y P s.toNat ≤ misB s y l H a + sumR y (addH s l P a) s.toNat ∧ (∀ i, ∃ R, addH s l H a i = addH s l P a i ++ R) := by
  have hR' : ∀ i, ∃ R, addH s l H a i = addH s l P a i ++ R := by
    intro i
    obtain ⟨R, hr⟩ := hR i
    refine ⟨R, ?_⟩
    simp only [addH]
    split
    · rw [hr]; rfl
    · exact hr
  by_cases ha : 0 ≤ a
  · have hlt := set_lt (n := a / l) hg
    generalize hi : ((a / l) % s).toNat = i at *
    obtain ⟨R, hr⟩ := hR i
    have fs := flush_step (y := y) (P := P i) (R := R) (n := a / l)
    have e1 : ∀ (Q : Nat → List Int), misB s y l Q a = if a / l ∉ (dst (Q i)).take y.toNat then 1 else 0 := by
      intro Q; unfold misB; rw [hi]; simp [ha]
    have eP : addH s l P a i = a / l :: P i := by simp [addH, ha, hi]
    have eN : ∀ j, j ≠ i → P j = addH s l P a j := by
      intro j hj
      simp only [addH]; rw [hi, if_neg (fun h => hj h.2.symm)]
    have up := fun d => sumR_upd y (d := d) s.toNat hlt eN
    rw [eP] at up
    rw [e1 H, e1 P, hr]
    refine ⟨?_, ?_, hR'⟩
    · by_cases h1 : a / l ∈ (dst (P i)).take y.toNat
      · rw [if_neg (fun h => h (fs.1 h1)), if_neg (fun h => h h1)]; exact Nat.le_refl _
      · rw [if_pos h1]; split <;> omega
    · by_cases h1 : a / l ∈ (dst (P i)).take y.toNat
      · have := up 0 (by have := room_mono (y := y) (P := P i) (n := a / l); omega)
        rw [if_neg (fun h => h h1)]; omega
      · by_cases h2 : a / l ∈ (dst (P i ++ R)).take y.toNat
        · have := up 1 (fs.2 h1 h2)
          rw [if_pos h1, if_neg (fun h => h h2)]; omega
        · have := up 0 (by have := room_mono (y := y) (P := P i) (n := a / l); omega)
          rw [if_pos h1, if_pos h2]; omega
  · have e1 : ∀ (Q : Nat → List Int), misB s y l Q a = 0 := by intro Q; unfold misB; rw [if_neg (fun h => ha h.1)]
    have e2 : addH s l P a = P := by funext i; simp [addH, ha]
    refine ⟨?_, ?_, hR'⟩
    · rw [e1, e1]; exact Nat.le_refl _
    · rw [e1, e1, e2]; exact Nat.le_refl _
/-- the flush lemma -/
theorem flush_run {s y l : Int} (hg : Geo s y l = true) : ∀ (xs : List Int) {H P : Nat → List Int}, (∀ i, ∃ R, H i = P i ++ R) →
    mis s y l H xs ≤ mis s y l P xs ∧ mis s y l P xs + sumR y P s.toNat ≤ mis s y l H xs + s.toNat * y.toNat
  | [], H, P, _ => by have := sumR_le y P s.toNat; simp only [mis]; omega
  | a :: xs, H, P, hR => by
    obtain ⟨h1, h2, h3⟩ := flush_acc hg hR a
    obtain ⟨h4, h5⟩ := flush_run hg xs h3
    simp only [mis]
    omega
theorem sumR_nil (y : Int) : ∀ n, sumR y (fun _ => []) n = 0
  | 0 => rfl
  | n + 1 => by rw [sumR, sumR_nil y n]; simp [room, dst]
end Go.Proofs.Ytneipineehichaa.C
set_option linter.unusedSimpArgs false
set_option linter.unusedVariables false
namespace Go.Proofs.Ytneipineehichaa.C
open Go.W Go.RowKit
/-- a cache's footprint may grow by new blocks; what lies outside of it is as it was -/
def Mv (F : Nat → Prop) (w : World) (F' : Nat → Prop) (w' : World) : Prop := Chg F w w' ∧ ∀ b, F' b → F b ∨ w.heap.size ≤ b
theorem Mv.refl (F : Nat → Prop) (w : World) : Mv F w F w := ⟨Chg.of_ext (Ext.refl w), fun _ h => .inl h⟩
theorem Mv.of_ext {F : Nat → Prop} {w w' : World} (h : Ext w w') : Mv F w F w' := ⟨Chg.of_ext h, fun _ h => .inl h⟩
theorem Mv.trans {F F' F'' : Nat → Prop} {w w' w'' : World} (h : Mv F w F' w') (k : Mv F' w' F'' w'') : Mv F w F'' w'' :=
  ⟨h.1.trans k.1 h.2, fun b hb => by
    rcases k.2 b hb with q | q
    · exact h.2 b q
    · exact .inr (Nat.le_trans h.1.size q)⟩
theorem Mv.nw {F : Nat → Prop} {w w' : World} (h : Chg F w w') : Mv F w (Nw F w w') w' := ⟨h, fun b hb => hb.elim .inl fun h => .inr h.1⟩
theorem Mv.ext {F F' : Nat → Prop} {w0 w w' : World} (hE : Ext w0 w) (h : Mv F w F' w') (hF : ∀ b, F b → w0.heap.size ≤ b) : Ext w0 w' := h.1.ext hE hF
theorem Mv.above {F F' : Nat → Prop} {w w' : World} (h : Mv F w F' w') {n : Nat} (hn : n ≤ w.heap.size) (hF : ∀ b, F b → n ≤ b) : ∀ b, F' b → n ≤ b := fun b hb => (h.2 b hb).elim (hF b) (Nat.le_trans hn)
/-- another cache, apart from it, stays, and stays apart -/
theorem Mv.other {F F' G : Nat → Prop} {w w' : World} (h : Mv F w F' w') {p : Nat} {s y l : Int} {L : List (List Int)} (hC : CacheAt w G p s y l L) (hd : ∀ b, G b → ¬ F b) : CacheAt w' G p s y l L ∧ ∀ b, G b → ¬ F' b :=
  ⟨hC.chg h.1 hd, fun b hb hf => (h.2 b hf).elim (hd b hb) fun hle => by have := hC.lt b hb; omega⟩
/-- integers that lie outside of the cache stay -/
theorem Mv.ints {F F' : Nat → Prop} {w0 w w' : World} (hE : Ext w0 w) (h : Mv F w F' w') (hF : ∀ b, F b → w0.heap.size ≤ b) {v : Value} {xs : List Int} (hv : IntsAt w0 v xs) : IntsAt w' v xs := hv.ext (h.ext hE hF)
theorem Access_mv {F : Nat → Prop} {p : Nat} {s y l : Int} {H : Nat → List Int} {w : World} (hg : Geo s y l = true) (h : CacheAt w F p s y l (stS s y H)) (a : Int) (ha63 : a ≤ 9223372036854775807) :
    VRet Try.prog 27 #[ptr p, .int .i64 a] w fun v w' => v = .bool (hitS s l (stS s y H) a) ∧ ∃ F', CacheAt w' F' p s y l (stS s y (addH s l H a)) ∧ Mv F w F' w' := by
  refine (Access_any h a ha63).mono ?_
  rintro v w' ⟨rfl, h1, h2⟩
  rw [accS_stS hg] at h1
  exact ⟨rfl, _, h1, Mv.nw h2⟩
theorem Flush_mv {F : Nat → Prop} {p : Nat} {s y l : Int} {L : List (List Int)} {w : World} (h : CacheAt w F p s y l L) :
    VRet Try.prog 28 #[ptr p] w fun v w' => ∃ F', CacheAt w' F' p s y l (stS s y fun _ => []) ∧ Mv F w F' w' := by
  refine (Flush_spec h).mono ?_
  rintro v w' ⟨h1, h2⟩
  rw [show List.replicate s.toNat [] = stS s y fun _ => [] from emp_stS s y] at h1
  exact ⟨_, h1, Mv.nw h2⟩
/-- the lists of all sets in rows above a bound, apart from each other -/
def OwnLs (n : Nat) (w' : World) (s : Int) (L : List (List Int)) (v : Value) : Prop := ∃ (q : Nat) (us : List Value), v = .slice (some ⟨q, 0, none⟩) s.toNat s.toNat ∧ n ≤ q ∧
    us.length = s.toNat ∧ w'.heap[q]? = some (.cells us.toArray 29 (0, 0)) ∧ (∀ (i : Nat) u li, us[i]? = some u → L[i]? = some li → w'.ownsRow 0 3 1 u li.length (iv li)) ∧
    (∀ (i : Nat) u b, us[i]? = some u → u.ownBlock = some b → n ≤ b ∧ b < w'.heap.size ∧ b ≠ q) ∧ (∀ (i j : Nat) u u' b, i ≠ j → us[i]? = some u → us[j]? = some u' → u.ownBlock = some b → u'.ownBlock ≠ some b)
set_option maxRecDepth 100000 in
theorem Lines_own {F : Nat → Prop} {p : Nat} {s y l : Int} {L : List (List Int)} {w : World} (h : CacheAt w F p s y l L) : VRet Try.prog 40 #[ptr p] w fun v w' => Ext w w' ∧ OwnLs w.heap.size w' s L v := by
  obtain ⟨q, vs, h⟩ := h
  have hgs := Geo_spec h.geo
  have hobj := h.obj
  refine VRet_start T.mo ok40 rfl fun Ψ hΨ => ?_; simp only [vc40, rs40]
  have hpne : ¬ (p = w.heap.size) := by have := get_lt hobj; omega
  have z0 : #[Value.slice none 0 0][0]! = Value.slice none 0 0 := rfl
  simp only [VS, VD, SV, SL, T, Nat.reduceEqDiff, Nat.reduceAdd, Nat.reduceSub, Nat.reduceMul, Nat.reduceLeDiff, Nat.reduceLT, reduceIte, hobj, Option.isNone_some, hpne, Int.toNat_natCast, z0]
  refine ⟨by omega, ?_⟩
  refine LoopP_intro (α := Nat) (fun i f' w' => f' 3 = .slice (some ⟨w.heap.size, 0, none⟩) s.toNat s.toNat ∧ f' 17 = .slice (some ⟨q, 0, none⟩) s.toNat s.toNat ∧ f' 18 = .int .i64 s.toNat ∧ f' 19 = .int .i64 i ∧ i ≤ s.toNat ∧ Ext w w' ∧
    ∃ us : List Value, us.length = s.toNat ∧ w'.heap[w.heap.size]? = some (.cells us.toArray 29 (0, 0)) ∧ (∀ j, j < i → ∀ u li, us[j]? = some u → L[j]? = some li → w'.ownsRow 0 3 1 u li.length (iv li)) ∧
      (∀ j, i ≤ j → j < s.toNat → us[j]? = some (.slice none 0 0)) ∧ (∀ (j : Nat) u b, us[j]? = some u → u.ownBlock = some b → w.heap.size < b ∧ b < w'.heap.size) ∧
      (∀ (i j : Nat) u u' b, i ≠ j → us[i]? = some u → us[j]? = some u' → u.ownBlock = some b → u'.ownBlock ≠ some b)) (fun i => s.toNat - i) 0 ?_ ?_
  · simp only [VS, VD, SV, SL, T, Nat.reduceEqDiff, Nat.reduceAdd, Nat.reduceSub, Nat.reduceMul, Nat.reduceLeDiff, Nat.reduceLT, reduceIte]
    refine ⟨rfl, by omega, (Ext.refl w).alloc _, List.replicate s.toNat (.slice none 0 0), by simp, by simp, fun j hj => by omega, fun j _ hj => by simp [hj], ?_, ?_⟩
    · intro j u b h1 h2
      rw [(List.mem_replicate.1 (List.mem_of_getElem? h1)).2] at h2
      cases h2
    · intro i j u u' b _ h1 _ h2
      rw [(List.mem_replicate.1 (List.mem_of_getElem? h1)).2] at h2
      cases h2
  · rintro i f' w' ⟨f3, f17, f18, f19, hi, hE, us, hul, hur, hus, hun, hub, hua⟩
    simp only [VS, VD, SV, SL, T, Nat.reduceEqDiff, Nat.reduceAdd, Nat.reduceSub, Nat.reduceMul, Nat.reduceLeDiff, Nat.reduceLT, reduceIte, f19, f18]
    refine cnd_d (fun hlt => ?_) (fun hlt => ?_)
    · have hlt' : i < s.toNat := by omega
      have h' := h.ext hE
      obtain ⟨v, li, hv, hva, hL, ho, hw, hw8⟩ := h'.at hlt'
      have hrow := h'.row
      have hi0 : (0 : Int) ≤ i := by omega
      simp only [VS, VD, SV, SL, T, Nat.reduceEqDiff, Nat.reduceAdd, Nat.reduceSub, Nat.reduceMul, Nat.reduceLeDiff, Nat.reduceLT, reduceIte, f19, f17, f3, hrow, hva, hlt, hi0, Int.toNat_natCast, Nat.zero_add, Nat.mul_one, and_self]
      refine (CloneI_spec v li (by omega) w' (own_ints ho)).mono ?_
      rintro v' w2 ⟨ho', hE2⟩
      have hur2 := hE2.obj hur
      have cl : v'.cells = #[v'] := by
        obtain ⟨a1, c1, e1⟩ := own_form ho'
        rw [e1]; rfl
      have one1 : one v' = true := by
        obtain ⟨a1, c1, e1⟩ := own_form ho'
        rw [e1]; rfl
      simp only [VS, VD, SV, SL, T, Nat.reduceEqDiff, Nat.reduceAdd, Nat.reduceSub, Nat.reduceMul, Nat.reduceLeDiff, Nat.reduceLT, reduceIte, f19, f17, f3, hur2, hlt, hi0, Int.toNat_natCast, Nat.zero_add, Nat.mul_one, and_self, cl]
      have hEn := hE.trans hE2
      have hwlt := get_lt hur
      have hnew : ∀ b, v'.ownBlock = some b → w'.heap.size ≤ b ∧ b < w2.heap.size := fun b hb => ho'.lt b hb
      have hrs : some w.heap.size ≠ v'.ownBlock := fun e => by have := hnew _ e.symm; omega
      have eset : spl us.toArray i [v'] = (us.set i v').toArray := by
        show (us.toArray.setIfInBounds i v') = _
        simp
      refine ⟨⟨by omega, by simp [one1]⟩, by omega, i + 1, ⟨f18, by simp, by omega, hEn.putb (Nat.le_refl _) _, us.set i v', by simp [hul], ?_, ?_, ?_, ?_, ?_⟩, by omega⟩
      · rw [if_pos (get_lt hur2)]
      · intro j hj u lj hu hlj
        by_cases hij : i = j
        · subst hij
          rw [hL] at hlj
          rw [List.getElem?_set_self (by omega)] at hu
          simp only [Option.some.injEq] at hlj hu
          subst hlj hu
          exact own_putb (own_zero ho') hrs _
        · rw [List.getElem?_set_ne hij] at hu
          refine own_putb (own_ext (hus j (by omega) u lj hu hlj) hE2) (fun e => ?_) _
          have := hub j u _ hu e.symm
          omega
      · intro j h1 h2
        rw [List.getElem?_set_ne (by omega)]
        exact hun j (by omega) h2
      · intro j u b hu hb
        by_cases hij : i = j
        · subst hij
          rw [List.getElem?_set_self (by omega)] at hu
          simp only [Option.some.injEq] at hu
          subst hu
          have := hnew b hb
          omega
        · rw [List.getElem?_set_ne hij] at hu
          have := hub j u b hu hb
          have := hE2.size
          omega
      · intro j k u u' b hjk hu hu' hb hb'
        by_cases hij : i = j
        · subst hij
          rw [List.getElem?_set_self (by omega)] at hu
          rw [List.getElem?_set_ne hjk] at hu'
          simp only [Option.some.injEq] at hu
          subst hu
          have := hnew b hb
          have := hub k u' b hu' hb'
          omega
        · rw [List.getElem?_set_ne hij] at hu
          by_cases hik : i = k
          · subst hik
            rw [List.getElem?_set_self (by omega)] at hu'
            simp only [Option.some.injEq] at hu'
            subst hu'
            have := hnew b hb'
            have := hub j u b hu hb
            omega
          · rw [List.getElem?_set_ne hik] at hu'
            exact hua j k u u' b hjk hu hu' hb hb'
    · simp only [VS, VD, SV, SL, T, Nat.reduceEqDiff, Nat.reduceAdd, Nat.reduceSub, Nat.reduceMul, Nat.reduceLeDiff, Nat.reduceLT, reduceIte, f3]
      refine hΨ _ _ ⟨hE, w.heap.size, us, rfl, Nat.le_refl _, hul, hur, fun j u li hu hl => ?_, fun j u b hu hb => ?_, hua⟩
      · have hjl : j < s.toNat := by have := (List.getElem?_eq_some_iff.1 hl).1; rw [h.len] at this; exact this
        exact hus j (by omega) u li hu hl
      · have := hub j u b hu hb
        omega
set_option maxRecDepth 100000 in
theorem Clone_spec {F : Nat → Prop} {p : Nat} {s y l : Int} {L : List (List Int)} {w : World} (h : CacheAt w F p s y l L) : VRet Try.prog 30 #[ptr p] w fun v w' => Ext w w' ∧ ∃ p' G, v = ptr p' ∧ CacheAt w' G p' s y l L ∧ ∀ b, G b → w.heap.size ≤ b := by
  have h0 := h
  obtain ⟨q, vs, hc⟩ := h
  have hgs := Geo_spec hc.geo
  have hobj := hc.obj
  refine VRet_start T.mo ok30 rfl fun Ψ hΨ => ?_; simp only [vc30, rs30]
  simp only [VS, VD, SV, SL, T, Nat.reduceEqDiff, Nat.reduceAdd, Nat.reduceSub, Nat.reduceMul, Nat.reduceLeDiff, Nat.reduceLT, reduceIte, Option.isNone_some]
  refine DW_intro (fun _ _ v w' => OwnLs w.heap.size w' s L v) ?_
  simp only [VS, VD, SV, SL, T, Nat.reduceEqDiff, Nat.reduceAdd, Nat.reduceSub, Nat.reduceMul, Nat.reduceLeDiff, Nat.reduceLT, reduceIte, hobj]
  refine rY_ph rfl rfl ?_ ?_ ?_
  · rintro v w1 w2 ⟨q, us, e1, e2, e3, e4, e5, e6, e7⟩ hE
    exact ⟨q, us, e1, e2, e3, hE.obj e4, fun i u li hu hl => own_ext (e5 i u li hu hl) hE, fun i u b hu hb => ⟨(e6 i u b hu hb).1, Nat.lt_of_lt_of_le (e6 i u b hu hb).2.1 hE.size, (e6 i u b hu hb).2.2⟩, e7⟩
  · intro w' hE' _
    simp only [VS, VD, SV, SL, T, Nat.reduceEqDiff, Nat.reduceAdd, Nat.reduceSub, Nat.reduceMul, Nat.reduceLeDiff, Nat.reduceLT, reduceIte]
    refine (Lines_own (h0.ext hE')).mono ?_
    rintro v w2 ⟨hE2, q, us, e1, e2, e3, e4, e5, e6, e7⟩
    exact ⟨hE2, q, us, e1, Nat.le_trans hE'.size e2, e3, e4, e5, fun i u b hu hb => ⟨Nat.le_trans hE'.size (e6 i u b hu hb).1, (e6 i u b hu hb).2⟩, e7⟩
  · rintro v ⟨w', hE', hF, q', us0, rfl, _⟩
    simp only [VS, VD, SV, SL, T, Nat.reduceEqDiff, Nat.reduceAdd, Nat.reduceSub, Nat.reduceMul, Nat.reduceLeDiff, Nat.reduceLT, reduceIte]
    intro w2 hE2 hF2
    obtain ⟨q2, us, e1, e2, e3, e4, e5, e6, e7⟩ := FA_head hF2
    simp only [Value.slice.injEq, Option.some.injEq, Addr.mk.injEq, and_true] at e1
    subst e1
    simp only [VS, VD, SV, SL, T, Nat.reduceEqDiff, Nat.reduceAdd, Nat.reduceSub, Nat.reduceMul, Nat.reduceLeDiff, Nat.reduceLT, reduceIte]
    have hqlt := get_lt e4
    refine hΨ _ _ ⟨hE2.alloc _, w2.heap.size, fun b => w.heap.size ≤ b ∧ b < w2.heap.size + 1, rfl, ⟨q', us, hc.geo, alloc_get_new _ _, ?_, by omega, ⟨hE2.size, by omega⟩, ⟨e2, by omega⟩, fun b hb => by rw [alloc_size]; exact hb.2, hc.len, e3, hc.ways, fun i u li hu hl => (e5 i u li hu hl).alloc _, ?_, e7⟩, fun b hb => hb.1⟩
    · rw [alloc_get_lt hqlt]; exact e4
    · intro i u b hu hb
      have := e6 i u b hu hb
      exact ⟨⟨this.1, by omega⟩, by omega, this.2.2⟩

end Go.Proofs.Ytneipineehichaa.C

/-
  The library's slices of integers: Insert at the front, Clone.
-/
import Derived.Test.YtblogcihkjhgkaaK1
import Derived.Lib.Overlaps
set_option linter.unusedSimpArgs false
set_option linter.unusedVariables false
namespace Go.Proofs.Ytblogcihkjhgkaa
open Go.W Go.RowKit
set_option maxRecDepth 10000 in
theorem overlaps_spec (a b n c o m d : Nat) (ca cb : Array Value) (w : World) (ha : w.heap[a]? = some (.cells ca 3 (0, 0))) (hb : w.heap[b]? = some (.cells cb 3 (0, 0))) (hne : a ≠ b) (hk : cb.size ≠ 0) :
    VRet Try.prog 38 #[.slice (some ⟨a, 0, none⟩) n c, .slice (some ⟨b, o, none⟩) m d] w fun v w' => v = .bool false ∧ w' = w := by
  refine .inr fun T0 wa hw hT os ts ty f hos => ?_
  subst hw
  obtain ⟨hTa, ha⟩ := tombW_cells ha
  obtain ⟨hTb, hb⟩ := tombW_cells hb
  have hrun : (callFunc 38 #[.slice (some ⟨a, 0, none⟩) n c, .slice (some ⟨b, o, none⟩) m d]).run Try.prog wa = .ok (.value (.bool false)) wa := by
    rw [run_callFunc_extern Try.func38 (by kernel_rfl) (by kernel_rfl) (by kernel_rfl) (e := Extern.SlicesOverlaps.overlaps #[32, 32] #[4]) (by kernel_rfl),
      Lib.run_overlaps_apart wa 32 4 3 (elt_spec T.el32) 1 (fun w => Go.W.run_sizeOf T.sz3 w) ⟨a, 0, none⟩ ⟨b, o, none⟩ n c m d hne 3 3 ca.size cb.size (by simp [World.shape?, ha]) (by simp [World.shape?, hb]) hk (by simp [World.frozen?, ha]) (by simp [World.frozen?, ha])]
    rfl
  have e : (invoke (.fn (.func 38) #[]) (os.map (ev f))).run Try.prog wa = .ok (.value (.bool false)) wa := by
    rw [hos]
    simp [invoke, hrun]
  simp only [raw, execOp, resolve, ev, Deferred.ofValue, Go.W.run_bind, Sem.run, pure, Array.empty_append, e, upon]
  exact ⟨T0, Kp.refl hT, rfl, rfl⟩
set_option maxRecDepth 100000 in
theorem Insert_room (g cap n : Nat) (cur : Array Value) (xs : List Value) (hn : n ≤ 200) (h0 : 0 < n) (hroom : n + 1 ≤ cap) (x : Value) (b2 : Nat) (w : World) (hg : w.heap[g]? = some (.cells cur 3 (0, 0))) (hsz : cur.size = cap) (hcur : cur.toList.take n = xs) (hb2 : w.heap[b2]? = some (.cells #[x] 3 (0, 0))) (hne : b2 ≠ g) (hx : one x = true) (h1 : ∀ u ∈ xs, one u = true) :
    VRet Try.prog 35 #[.slice (some ⟨g, 0, none⟩) n cap, .int .i64 0, .slice (some ⟨b2, 0, none⟩) 1 1] w fun v' w' => v' = .slice (some ⟨g, 0, none⟩) (n + 1) cap ∧
      (∃ cur', w'.heap[g]? = some (.cells cur' 3 (0, 0)) ∧ cur'.size = cap ∧ cur'.toList.take (n + 1) = x :: xs) ∧ w.grownBy w' (some g) := by
  refine VRet_start T.mo ok35 rfl fun Ψ hΨ => ?_; simp only [vc35, rs35]
  simp only [VS, VD, SV, SL, T, Nat.reduceEqDiff, Nat.reduceAdd, Nat.reduceSub, Nat.reduceMul, Nat.reduceLeDiff, Nat.reduceLT, reduceIte, sSlice_lo0 (w := w) T.es32]
  refine cnd_d (fun hq => by exfalso; omega) (fun _ => ?_)
  simp only [VS, VD, SV, SL, T, Nat.reduceEqDiff, Nat.reduceAdd, Nat.reduceSub, Nat.reduceMul, Nat.reduceLeDiff, Nat.reduceLT, reduceIte]
  refine cnd_d (fun hq => by exfalso; omega) (fun _ => ?_)
  have c1 : ((1 : Nat) : Int) = 1 := rfl
  have cn : (n : Int) + 1 = ((n + 1 : Nat) : Int) := by omega
  simp only [VS, VD, SV, SL, T, Nat.reduceEqDiff, Nat.reduceAdd, Nat.reduceSub, Nat.reduceMul, Nat.reduceLeDiff, Nat.reduceLT, reduceIte, oV_cap, c1, cn]
  refine ⟨by omega, rV_cap T.el32 ?_⟩
  simp only [VS, VD, SV, SL, T, Nat.reduceEqDiff, Nat.reduceAdd, Nat.reduceSub, Nat.reduceMul, Nat.reduceLeDiff, Nat.reduceLT, reduceIte, c1, cn]
  have hnr : ¬ ((cap : Int) < ((n + 1 : Nat) : Int)) := by omega
  have hnd := decide_eq_false hnr
  rw [hnd]
  have hc : (0 : Int) ≤ ((n + 1 : Nat) : Int) ∧ ((n + 1 : Nat) : Int) ≤ (cap : Int) := by omega
  have hc2 : (1 : Int) ≤ ((n + 1 : Nat) : Int) := by omega
  have hcap1 : ¬ (cap = 1) := by omega
  have hr : -9223372036854775808 ≤ ((n + 1 : Nat) : Int) ∧ ((n + 1 : Nat) : Int) ≤ 9223372036854775807 := by omega
  simp only [VS, VD, SV, SL, T, Nat.reduceEqDiff, Nat.reduceAdd, Nat.reduceSub, Nat.reduceMul, Nat.reduceLeDiff, Nat.reduceLT, reduceIte, c1, cn, hc.1, hc.2, hc2, hcap1, hr.1, hr.2, and_self, Int.zero_add, Int.reduceLE, true_and, Option.bind_some, Int.toNat_natCast, Option.map_some, add_mk, ite_self, Nat.sub_zero, Nat.add_zero, Int.reduceToNat]
  refine (overlaps_spec b2 g 1 1 1 n (cap - 1) #[x] cur w hb2 hg hne (by omega)).mono ?_
  rintro _ w2 ⟨rfl, h3⟩
  rw [h3]
  simp only [VS, VD, SV, SL, T, Nat.reduceEqDiff, Nat.reduceAdd, Nat.reduceSub, Nat.reduceMul, Nat.reduceLeDiff, Nat.reduceLT, reduceIte]
  refine DW_intro (fun _ _ _ _ => True) ?_
  simp only [VS, VD, SV, SL, T, Nat.reduceEqDiff, Nat.reduceAdd, Nat.reduceSub, Nat.reduceMul, Nat.reduceLeDiff, Nat.reduceLT, reduceIte, c1, cn, hc.1, hc.2, hc2, hcap1, hr.1, hr.2, and_self, Int.zero_add, Int.reduceLE, true_and, Option.bind_some, Int.toNat_natCast, Option.map_some, add_mk, ite_self, Nat.sub_zero, Nat.add_zero, Int.reduceToNat]
  intro w1 hE _
  simp only [VS, VD, SV, SL, T, Nat.reduceEqDiff, Nat.reduceAdd, Nat.reduceSub, Nat.reduceMul, Nat.reduceLeDiff, Nat.reduceLT, reduceIte]
  have hm1 : Nat.min (n + 1) (n + 1 - 1) = n := by simp [Nat.min_def]
  have hext : (cur.extract 0 (0 + n)).toList = xs := by rw [Array.toList_extract, List.extract_eq_take_drop, ← hcur]; simp
  have hxl : xs.length = n := by rw [← hcur]; simp; omega
  refine rV_copy (o := 1) (o' := 0) T.el32 T.sz3 (hE.obj hg) (hE.obj hg) (by omega) (by omega) ?_ ?_
  · intro u hu
    rw [hm1, hext] at hu
    exact h1 u hu
  rw [hm1, hext]
  simp only [VS, VD, SV, SL, T, Nat.reduceEqDiff, Nat.reduceAdd, Nat.reduceSub, Nat.reduceMul, Nat.reduceLeDiff, Nat.reduceLT, reduceIte, c1, cn, hc.1, hc.2, hc2, hcap1, hr.1, hr.2, and_self, Int.zero_add, Int.reduceLE, true_and, Option.bind_some, Int.toNat_natCast, Option.map_some, add_mk, ite_self, Nat.sub_zero, Nat.add_zero, Int.reduceToNat]
  have hm2 : Nat.min 1 (n + 1) = 1 := by simp [Nat.min_def]
  refine rV_copy (o := 0) (o' := 0) T.el32 T.sz3 (putb_get_same (get_lt (hE.obj hg)) _) ((putb_get_ne hne _).trans (hE.obj hb2)) (by rw [spl_size]; omega) (by simp) ?_ ?_
  · intro u hu
    rw [hm2] at hu
    simp at hu
    rw [hu]; exact hx
  rw [hm2, putb_putb]
  simp only [VS, VD, SV, SL, T, Nat.reduceEqDiff, Nat.reduceAdd, Nat.reduceSub, Nat.reduceMul, Nat.reduceLeDiff, Nat.reduceLT, reduceIte]
  refine hΨ _ _ ⟨rfl, ⟨_, putb_get_same (get_lt (hE.obj hg)) _, by rw [Array.size_setIfInBounds, spl_size, hsz], ?_⟩, ?_⟩
  · rw [show (spl cur 1 xs).setIfInBounds 0 x = spl (spl cur 1 xs) 0 [x] from rfl, spl_list _ _ _ (by rw [spl_size]; simp; omega), spl_list _ _ _ (by omega)]
    simp only [List.take_zero, List.nil_append, List.length_singleton, Nat.zero_add, List.singleton_append, List.take_succ_cons, List.cons.injEq, true_and]
    rw [List.append_assoc, List.drop_append_of_le_length (by simp; omega), List.drop_of_length_le (by simp; omega), List.nil_append, List.take_append_of_le_length (by omega), List.take_of_length_le (by omega)]
  · exact ⟨hE.os, hE.tape, hE.output, by rw [putb_size]; exact hE.size, fun k hk hne => by rw [putb_get_ne (by intro e; subst e; exact hne rfl)]; exact hE.get k hk⟩
set_option maxRecDepth 100000 in
theorem Insert_grow (g cap n : Nat) (cur : Array Value) (xs : List Value) (hn : n ≤ 200) (h0 : 0 < n) (hnc : n ≤ cap) (hroom : cap < n + 1) (x : Value) (b2 : Nat) (w : World) (hg : w.heap[g]? = some (.cells cur 3 (0, 0))) (hsz : cur.size = cap) (hcur : cur.toList.take n = xs) (hb2 : w.heap[b2]? = some (.cells #[x] 3 (0, 0))) (hx : one x = true) (h1 : ∀ u ∈ xs, one u = true) :
    VRet Try.prog 35 #[.slice (some ⟨g, 0, none⟩) n cap, .int .i64 0, .slice (some ⟨b2, 0, none⟩) 1 1] w fun v' w' => ∃ cap', v' = .slice (some ⟨w.heap.size, 0, none⟩) (n + 1) cap' ∧ n + 1 ≤ cap' ∧ cap' ≤ maxLen ∧
      (∃ cur', w'.heap[w.heap.size]? = some (.cells cur' 3 (0, 0)) ∧ cur'.size = cap' ∧ cur'.toList.take (n + 1) = x :: xs) ∧ Ext w w' := by
  refine VRet_start T.mo ok35 rfl fun Ψ hΨ => ?_; simp only [vc35, rs35]
  simp only [VS, VD, SV, SL, T, Nat.reduceEqDiff, Nat.reduceAdd, Nat.reduceSub, Nat.reduceMul, Nat.reduceLeDiff, Nat.reduceLT, reduceIte, sSlice_lo0 (w := w) T.es32]
  refine cnd_d (fun hq => by exfalso; omega) (fun _ => ?_)
  simp only [VS, VD, SV, SL, T, Nat.reduceEqDiff, Nat.reduceAdd, Nat.reduceSub, Nat.reduceMul, Nat.reduceLeDiff, Nat.reduceLT, reduceIte]
  refine cnd_d (fun hq => by exfalso; omega) (fun _ => ?_)
  have c1 : ((1 : Nat) : Int) = 1 := rfl
  have cn : (n : Int) + 1 = ((n + 1 : Nat) : Int) := by omega
  simp only [VS, VD, SV, SL, T, Nat.reduceEqDiff, Nat.reduceAdd, Nat.reduceSub, Nat.reduceMul, Nat.reduceLeDiff, Nat.reduceLT, reduceIte, oV_cap, c1, cn]
  refine ⟨by omega, rV_cap T.el32 ?_⟩
  simp only [VS, VD, SV, SL, T, Nat.reduceEqDiff, Nat.reduceAdd, Nat.reduceSub, Nat.reduceMul, Nat.reduceLeDiff, Nat.reduceLT, reduceIte, c1, cn]
  have hnr : ((cap : Int) < ((n + 1 : Nat) : Int)) := by omega
  have hnd := decide_eq_true hnr
  rw [hnd]
  have hc0 : (0 : Int) ≤ (cap : Int) := by omega
  have hr : -9223372036854775808 ≤ ((n + 1 : Nat) : Int) ∧ ((n + 1 : Nat) : Int) ≤ 9223372036854775807 := by omega
  simp only [VS, VD, SV, SL, T, Nat.reduceEqDiff, Nat.reduceAdd, Nat.reduceSub, Nat.reduceMul, Nat.reduceLeDiff, Nat.reduceLT, reduceIte, c1, cn, hc0, hr.1, hr.2, and_self, Int.zero_add, Int.sub_zero, Int.reduceLE, true_and, Option.bind_some, Int.toNat_natCast, Option.map_some, add_mk, ite_self, Nat.sub_zero, Nat.add_zero, Int.reduceToNat]
  refine rV_appZ T.el32 Try.underlying3 T.sz3 T.by3 T.zr3 rfl (by omega) (by omega) (by omega) (by omega) fun gc hgc hgm => ?_
  have hEw : Ext w (w.drew.alloc (.cells (Array.replicate gc (.int .i64 0)) 3 (0, 0))) := ((Ext.refl w).drew).alloc _
  have hnb : (w.drew.alloc (.cells (Array.replicate gc (.int .i64 0)) 3 (0, 0))).heap[w.heap.size]? = some (.cells (Array.replicate gc (.int .i64 0)) 3 (0, 0)) := alloc_get_new w.drew _
  have hglt := get_lt hg
  have hblt := get_lt hb2
  generalize w.drew.alloc (.cells (Array.replicate gc (.int .i64 0)) 3 (0, 0)) = W1 at *
  have hc2 : (1 : Int) ≤ ((n + 1 : Nat) : Int) := by omega
  have hc3 : (0 : Int) ≤ ((n + 1 : Nat) : Int) := by omega
  have hc4 : (0 : Int) ≤ (n : Int) := by omega
  have hgc1 : ¬ (gc = 1) := by omega
  simp only [VS, VD, SV, SL, T, Nat.reduceEqDiff, Nat.reduceAdd, Nat.reduceSub, Nat.reduceMul, Nat.reduceLeDiff, Nat.reduceLT, reduceIte, c1, cn, hc2, hc3, hc4, and_self, Int.zero_add, Int.reduceLE, true_and, Option.bind_some, Int.toNat_natCast, Option.map_some, add_mk, ite_self, Nat.sub_zero, Nat.add_zero, Int.reduceToNat]
  have hm2 : Nat.min 1 (n + 1) = 1 := by simp [Nat.min_def]
  refine rV_copy (o := 0) (o' := 0) T.el32 T.sz3 hnb (hEw.obj hb2) (by simp; omega) (by simp) ?_ ?_
  · intro u hu
    rw [hm2] at hu
    simp at hu
    rw [hu]; exact hx
  rw [hm2]
  simp only [VS, VD, SV, SL, T, Nat.reduceEqDiff, Nat.reduceAdd, Nat.reduceSub, Nat.reduceMul, Nat.reduceLeDiff, Nat.reduceLT, reduceIte]
  refine DW_intro (fun _ _ _ _ => True) ?_
  simp only [VS, VD, SV, SL, T, Nat.reduceEqDiff, Nat.reduceAdd, Nat.reduceSub, Nat.reduceMul, Nat.reduceLeDiff, Nat.reduceLT, reduceIte, c1, cn, hc2, hc3, hc4, hgc1, and_self, Int.zero_add, Int.reduceLE, true_and, Option.bind_some, Int.toNat_natCast, Option.map_some, add_mk, ite_self, Nat.sub_zero, Nat.add_zero, Int.reduceToNat]
  intro w1 hE _
  simp only [VS, VD, SV, SL, T, Nat.reduceEqDiff, Nat.reduceAdd, Nat.reduceSub, Nat.reduceMul, Nat.reduceLeDiff, Nat.reduceLT, reduceIte]
  have hg1 : w1.heap[g]? = some (.cells cur 3 (0, 0)) := hE.obj ((putb_get_ne (by omega) _).trans (hEw.obj hg))
  have hn1 := hE.obj (putb_get_same (get_lt hnb) (.cells (spl (Array.replicate gc (.int .i64 0)) 0 (#[x].extract 0 (0 + 1)).toList) 3 (0, 0)))
  have hm1 : Nat.min n (n + 1 - 1) = n := by simp [Nat.min_def]
  have hext : (cur.extract 0 (0 + n)).toList = xs := by rw [Array.toList_extract, List.extract_eq_take_drop, ← hcur]; simp
  have hxl : xs.length = n := by rw [← hcur]; simp; omega
  refine rV_copy (o := 1) (o' := 0) T.el32 T.sz3 hn1 hg1 (by rw [spl_size]; simp; omega) (by omega) ?_ ?_
  · intro u hu
    rw [hm1, hext] at hu
    exact h1 u hu
  rw [hm1, hext]
  simp only [VS, VD, SV, SL, T, Nat.reduceEqDiff, Nat.reduceAdd, Nat.reduceSub, Nat.reduceMul, Nat.reduceLeDiff, Nat.reduceLT, reduceIte]
  refine hΨ _ _ ⟨gc, rfl, hgc, hgm, ⟨_, putb_get_same (get_lt hn1) _, by rw [spl_size]; simp, ?_⟩, ?_⟩
  · rw [show (Array.replicate gc (Value.int .i64 0)).setIfInBounds 0 x = spl (Array.replicate gc (Value.int .i64 0)) 0 [x] from rfl, spl_list _ _ _ (by rw [spl_size]; simp; omega), spl_list _ _ _ (by simp; omega)]
    simp only [List.take_zero, List.nil_append, List.length_singleton, Nat.zero_add, List.singleton_append, List.take_succ_cons, List.cons.injEq, true_and]
    rw [List.take_append_of_le_length (by simp; omega)]
    simp only [List.cons_append, List.take_succ_cons, List.take_zero, List.nil_append, List.cons.injEq, true_and]
    rw [List.take_of_length_le (by omega)]
  · have hEp : Ext w (W1.putb w.heap.size (.cells (spl (Array.replicate gc (.int .i64 0)) 0 (#[x].extract 0 (0 + 1)).toList) 3 (0, 0))) := hEw.putb (Nat.le_refl _) _
    exact (hEp.trans hE).putb (Nat.le_refl _) _
set_option maxRecDepth 100000 in
theorem Insert_nil (base : Nat) (v : Value) (x : Value) (b2 : Nat) (w : World) (h : w.ownsRow base 3 1 v 0 []) (hbase : base ≤ w.heap.size) (hb2 : w.heap[b2]? = some (.cells #[x] 3 (0, 0))) (hx : one x = true) :
    VRet Try.prog 35 #[v, .int .i64 0, .slice (some ⟨b2, 0, none⟩) 1 1] w fun v' w' => w'.ownsRow base 3 1 v' 1 [x] ∧ w.grownBy w' v.ownBlock ∧ (v'.ownBlock = v.ownBlock ∨ v'.ownBlock = some w.heap.size) := by
  obtain ⟨a, c, rfl⟩ := own_form h
  refine VRet_start T.mo ok35 rfl fun Ψ hΨ => ?_; simp only [vc35, rs35]
  have c1 : ((1 : Nat) : Int) = 1 := rfl
  have c0 : ((0 : Nat) : Int) = 0 := rfl
  simp only [VS, VD, SV, SL, T, Nat.reduceEqDiff, Nat.reduceAdd, Nat.reduceSub, Nat.reduceMul, Nat.reduceLeDiff, Nat.reduceLT, reduceIte, c1, c0, Int.reduceLE, and_self, Option.bind_some]
  refine cnd_d (fun hq => by exfalso; omega) (fun _ => ?_)
  simp only [VS, VD, SV, SL, T, Nat.reduceEqDiff, Nat.reduceAdd, Nat.reduceSub, Nat.reduceMul, Nat.reduceLeDiff, Nat.reduceLT, reduceIte, c0]
  refine rV_append T.el32 T.sz3 T.by3 T.zr3 rfl (by omega) h (news := [x]) (by simp) ?_ ?_ (by unfold maxLen; omega) (by omega) hbase ?_
  · intro j u hu
    rw [add_mk, cell_mk, hb2]
    simpa using hu
  · intro u hu
    simp at hu
    rw [hu]; exact hx
  · intro v' w' ho hg hb
    simp only [VS, VD, SV, SL, T, Nat.reduceEqDiff, Nat.reduceAdd, Nat.reduceSub, Nat.reduceMul, Nat.reduceLeDiff, Nat.reduceLT, reduceIte]
    exact hΨ _ _ ⟨by simpa using ho, hg, hb⟩
/-- x in front of the slice -/
theorem Insert_spec (base : Nat) (v : Value) (n : Nat) (xs : List Value) (hn : n ≤ 200) (x : Value) (b2 : Nat) (w : World) (h : w.ownsRow base 3 1 v n xs) (h1 : ∀ u ∈ xs, one u = true) (hbase : base ≤ w.heap.size) (hb2 : w.heap[b2]? = some (.cells #[x] 3 (0, 0))) (hne : some b2 ≠ v.ownBlock) (hx : one x = true) :
    VRet Try.prog 35 #[v, .int .i64 0, .slice (some ⟨b2, 0, none⟩) 1 1] w fun v' w' => w'.ownsRow base 3 1 v' (n + 1) (x :: xs) ∧ w.grownBy w' v.ownBlock ∧ (v'.ownBlock = v.ownBlock ∨ v'.ownBlock = some w.heap.size) := by
  rcases Nat.eq_zero_or_pos n with rfl | hpos
  · have : xs = [] := List.length_eq_zero_iff.1 (by have := h.1; omega)
    subst this
    exact Insert_nil base v x b2 w h hbase hb2 hx
  · obtain ⟨hlen, h | ⟨g, cap, cur, rfl, hb, hg, hcap, hmax, hsz, hcur⟩⟩ := h
    · omega
    simp only [Nat.mul_one] at hlen hsz hcur
    have hl1 : (x :: xs).length = (n + 1) * 1 := by simp [hlen]
    by_cases hroom : n + 1 ≤ cap
    · refine (Insert_room g cap n cur xs hn hpos hroom x b2 w hg hsz hcur hb2 (by intro e; subst e; exact hne rfl) hx h1).mono ?_
      rintro _ w' ⟨rfl, ⟨cur', q1, q2, q3⟩, hgr⟩
      exact ⟨⟨hl1, .inr ⟨g, cap, cur', rfl, hb, q1, hroom, hmax, by rw [q2, Nat.mul_one], by rw [Nat.mul_one]; exact q3⟩⟩, hgr, .inl rfl⟩
    · refine (Insert_grow g cap n cur xs hn hpos hcap (by omega) x b2 w hg hsz hcur hb2 hx h1).mono ?_
      rintro _ w' ⟨cap', rfl, r1, r2, ⟨cur', q1, q2, q3⟩, hE⟩
      exact ⟨⟨hl1, .inr ⟨_, cap', cur', rfl, hbase, q1, r1, r2, by rw [q2, Nat.mul_one], by rw [Nat.mul_one]; exact q3⟩⟩, ⟨hE.os, hE.tape, hE.output, hE.size, fun k hk _ => hE.get k hk⟩, .inr rfl⟩
set_option maxRecDepth 10000 in
theorem CloneI_spec (v : Value) (l : List Int) (hl : l.length ≤ 1000) (w : World) (h : IntsAt w v l) :
    VRet Try.prog 36 #[v] w fun v' w' => w'.ownsRow w.heap.size 3 1 v' l.length (l.map (Value.int .i64)) ∧ Ext w w' := by
  obtain ⟨a, c, rfl⟩ := h.form
  refine VRet_start T.mo ok36 rfl fun Ψ hΨ => ?_; simp only [vc36, rs36]
  simp only [VS, VD, SV, SL, T, Nat.reduceEqDiff, Nat.reduceAdd, Nat.reduceSub, Nat.reduceMul, Nat.reduceLeDiff, Nat.reduceLT, reduceIte]
  cases a with
  | none =>
    have hl0 : l = [] := by
      rcases h with ⟨_, h⟩ | ⟨b, off, cap, h1, _⟩
      · exact h
      · cases h1
    subst hl0
    simp only [VS, VD, SV, SL, T, Nat.reduceEqDiff, Nat.reduceAdd, Nat.reduceSub, Nat.reduceMul, Nat.reduceLeDiff, Nat.reduceLT, reduceIte, Option.isNone_none]
    exact hΨ _ _ ⟨World.ownsRow_nil _ _ _ _, Ext.refl _⟩
  | some a =>
    simp only [VS, VD, SV, SL, T, Nat.reduceEqDiff, Nat.reduceAdd, Nat.reduceSub, Nat.reduceMul, Nat.reduceLeDiff, Nat.reduceLT, reduceIte, Option.isNone_some]
    have hown : (w.alloc (Obj.cells #[] 3)).ownsRow w.heap.size 3 1 (.slice (some ⟨w.heap.size, 0, none⟩) 0 0) 0 [] :=
      World.ownsRow_made w #[] 0 (Nat.le_refl _) (Nat.zero_le _) (by simp)
    have hE := (Ext.refl w).alloc (Obj.cells #[] 3)
    refine rV_append (ty := 32) T.el32 T.sz3 T.by3 T.zr3 rfl (by omega) hown (news := l.map (Value.int .i64)) (by simp) ?_ ?_ ?_ ?_ ?_ ?_
    · intro j u hu
      rcases h with ⟨_, h⟩ | ⟨b, off, cap, h1, h2⟩
      · subst h; simp at hu
      · simp only [Value.slice.injEq, Option.some.injEq] at h1
        obtain ⟨rfl, _, _⟩ := h1
        rw [add_mk]
        rw [List.getElem?_map] at hu
        obtain ⟨x, hx, rfl⟩ := Option.map_eq_some_iff.1 hu
        exact hE.cell (h2 j x hx)
    · intro u hu
      obtain ⟨x, _, rfl⟩ := List.mem_map.1 hu
      rfl
    · unfold maxLen; omega
    · omega
    · simp
    · intro v w' ho hg _
      simp only [VS, VD, SV, SL, T, Nat.reduceEqDiff, Nat.reduceAdd, Nat.reduceSub, Nat.reduceMul, Nat.reduceLeDiff, Nat.reduceLT, reduceIte]
      simp only [Nat.zero_add, List.nil_append] at ho
      refine hΨ _ _ ⟨ho, hE.grown hg ?_⟩
      intro k hk
      simp only [Value.ownBlock, Option.some.injEq] at hk
      omega
end Go.Proofs.Ytblogcihkjhgkaa

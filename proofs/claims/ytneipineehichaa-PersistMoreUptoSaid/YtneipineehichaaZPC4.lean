/-
  persist: the reference's Conflicts and Persistent; accesses, usable, awake.
-/
import Derived.Test.YtneipineehichaaZPC3
set_option linter.unusedSimpArgs false
set_option linter.unusedVariables false
namespace Go.Proofs.Ytneipineehichaa
open Go.W Go.RowKit
set_option maxRecDepth 10000 in
theorem rConflicts_spec (s y l : Int) (hg : Geo s y l = true) (lv : Value) (L : List (Int × Int)) (hL : L.length ≤ 1000000) (w : World) (h : RefsAt w lv L) :
    VRet Try.prog 21 #[cfgV s y l, lv] w fun v w' => (∃ b, v = .slice (some ⟨b, 0, none⟩) s.toNat s.toNat ∧ IB w' b s.toNat fun i => (cnt L s i : Int)) ∧ Ext w w' := by
  have hp := Geo_spec hg
  have z0 : #[Value.int IntKind.i64 0][0]! = Value.int .i64 0 := rfl
  obtain ⟨la, lc, rfl⟩ := h.form
  refine VRet_start T.mo ok21 rfl fun Ψ hΨ => ?_; simp only [vc21, rs21]
  simp only [VS, VD, SV, SL, T, Nat.reduceEqDiff, Nat.reduceAdd, Nat.reduceSub, Nat.reduceMul, Nat.reduceLeDiff, Nat.reduceLT, reduceIte, cfgV, z0]
  refine ⟨by omega, ?_⟩
  have hI := IB.new (w := w.alloc tomb) (n := s.toNat)
  rw [alloc_size] at hI
  have hE := ((Ext.refl w).alloc tomb).alloc (.cells (Array.replicate s.toNat (.int .i64 0)) 3)
  generalize (w.alloc tomb).alloc (.cells (Array.replicate s.toNat (.int .i64 0)) 3) = w1 at *
  refine (Most_spec _ L hL w1 (h.ext hE)).mono ?_
  rintro _ w2 ⟨rfl, hE2⟩
  replace hI := hI.ext hE2
  replace hE := hE.trans hE2
  have hm := mst_lo L
  simp only [VS, VD, SV, SL, T, Nat.reduceEqDiff, Nat.reduceAdd, Nat.reduceSub, Nat.reduceMul, Nat.reduceLeDiff, Nat.reduceLT, reduceIte]
  refine LoopP_intro (α := Nat) (fun i f' w' => f' 1 = .slice la L.length lc ∧ f' 2 = .agg #[.int .i64 s, .int .i64 y, .int .i64 l] ∧ f' 5 = .slice (some ⟨w.heap.size + 1, 0, none⟩) s.toNat s.toNat ∧ f' 6 = .int .i64 (mst L) ∧ f' 7 = .int .i64 i ∧ (i : Int) ≤ mst L + 1 ∧ Ext w w' ∧ IB w' (w.heap.size + 1) s.toNat (fun j => ((lns L s j i).length : Int))) (fun i => (mst L + 1).toNat - i) 0 ?_ ?_
  · simp only [VS, VD, SV, SL, T, Nat.reduceEqDiff, Nat.reduceAdd, Nat.reduceSub, Nat.reduceMul, Nat.reduceLeDiff, Nat.reduceLT, reduceIte]
    exact ⟨rfl, by omega, hE, hI.congr fun j _ => by simp [lns]⟩
  · rintro i f' w' ⟨f1, f2, f5, f6, f7, hi, hE', hI'⟩
    simp only [VS, VD, SV, SL, T, Nat.reduceEqDiff, Nat.reduceAdd, Nat.reduceSub, Nat.reduceMul, Nat.reduceLeDiff, Nat.reduceLT, reduceIte, f6, f7]
    by_cases hlt : (i : Int) ≤ mst L
    · rw [decide_eq_true hlt]
      simp only [VS, VD, SV, SL, T, Nat.reduceEqDiff, Nat.reduceAdd, Nat.reduceSub, Nat.reduceMul, Nat.reduceLeDiff, Nat.reduceLT, reduceIte, f1, f7]
      refine (Accessed_spec _ L hL i w' (h.ext hE')).mono ?_
      rintro _ w3 ⟨rfl, hE3⟩
      replace hI' := hI'.ext hE3
      have hE4 := hE'.trans hE3
      simp only [VS, VD, SV, SL, T, Nat.reduceEqDiff, Nat.reduceAdd, Nat.reduceSub, Nat.reduceMul, Nat.reduceLeDiff, Nat.reduceLT, reduceIte]
      have hm0 : 0 ≤ (i : Int) % s := Int.emod_nonneg _ (by omega)
      have hm1 : (i : Int) % s < s := Int.emod_lt_of_pos _ (by omega)
      obtain ⟨q, hq⟩ := Int.eq_ofNat_of_zero_le hm0
      have hqs : q < s.toNat := by omega
      by_cases ha : acd L i = true
      · rw [ha]
        obtain ⟨cs1, hb1, hs1, hc1⟩ := hI'
        have hl1 := get_lt hb1
        have hcq := hc1 q hqs
        simp only [] at hcq
        have hln := lns_len L s q i
        have hsz : (s.toNat : Int) = s := by omega
        simp only [VS, VD, SV, SL, T, Nat.reduceEqDiff, Nat.reduceAdd, Nat.reduceSub, Nat.reduceMul, Nat.reduceLeDiff, Nat.reduceLT, reduceIte]
        refine DW_intro (fun _ _ _ _ => True) ?_
        simp only [VS, VD, SV, SL, T, Nat.reduceEqDiff, Nat.reduceAdd, Nat.reduceSub, Nat.reduceMul, Nat.reduceLeDiff, Nat.reduceLT, reduceIte, f1, f2, f5, f6, f7, hq, hb1, hcq, Int.toNat_natCast]
        refine ⟨by omega, by omega, by omega, by omega, ?_⟩
        intro w5 hE5 _
        replace hb1 := hE5.obj hb1
        replace hl1 := get_lt hb1
        simp only [VS, VD, SV, SL, T, Nat.reduceEqDiff, Nat.reduceAdd, Nat.reduceSub, Nat.reduceMul, Nat.reduceLeDiff, Nat.reduceLT, reduceIte, f1, f2, f5, f6, f7, hq, hb1, hcq, Int.toNat_natCast]
        refine ⟨by omega, by omega, by omega, i + 1, ⟨by simp, by omega, (hE4.trans hE5).putb (by omega) _, ?_⟩, by omega⟩
        refine (IB.set hl1 hs1 hc1 q _).congr fun j hj => ?_
        rw [lns_succ]
        by_cases e : j = q
        · subst e
          rw [if_pos rfl, if_pos ⟨ha, by omega⟩]
          simp
        · rw [if_neg e, if_neg (fun z => e (by omega)), List.append_nil]
      · have ha' : acd L i = false := by simpa using ha
        rw [ha']
        simp only [VS, VD, SV, SL, T, Nat.reduceEqDiff, Nat.reduceAdd, Nat.reduceSub, Nat.reduceMul, Nat.reduceLeDiff, Nat.reduceLT, reduceIte, f1, f2, f5, f6, f7]
        refine ⟨by omega, i + 1, ⟨by simp, by omega, hE4, hI'.congr fun j _ => ?_⟩, by omega⟩
        rw [lns_succ, if_neg (fun q => ha q.1), List.append_nil]
    · rw [decide_eq_false hlt]
      simp only [VS, VD, SV, SL, T, Nat.reduceEqDiff, Nat.reduceAdd, Nat.reduceSub, Nat.reduceMul, Nat.reduceLeDiff, Nat.reduceLT, reduceIte, f5]
      refine hΨ _ _ ⟨⟨_, rfl, hI'.congr fun j _ => ?_⟩, hE'⟩
      rw [cnt, lns_stop (fun n hn => by have := mst_acd hn; omega)]
set_option maxRecDepth 10000 in
theorem rPersistent_spec (s y l : Int) (hg : Geo s y l = true) (lv : Value) (L : List (Int × Int)) (hL : L.length ≤ 1000000) (w : World) (h : RefsAt w lv L) :
    VRet Try.prog 19 #[cfgV s y l, lv] w fun v w' => IntsAt w' v (pers L s y) ∧ Ext w w' := by
  have hp := Geo_spec hg
  obtain ⟨la, lc, rfl⟩ := h.form
  refine VRet_start T.mo ok19 rfl fun Ψ hΨ => ?_; simp only [vc19, rs19]
  simp only [VS, VD, SV, SL, T, Nat.reduceEqDiff, Nat.reduceAdd, Nat.reduceSub, Nat.reduceMul, Nat.reduceLeDiff, Nat.reduceLT, reduceIte, cfgV]
  refine (rConflicts_spec s y l hg _ L hL _ (h.ext ((Ext.refl w).alloc tomb))).mono ?_
  rintro _ w1 ⟨⟨b, rfl, hI⟩, hE⟩
  replace hE := ((Ext.refl w).alloc tomb).trans hE
  simp only [VS, VD, SV, SL, T, Nat.reduceEqDiff, Nat.reduceAdd, Nat.reduceSub, Nat.reduceMul, Nat.reduceLeDiff, Nat.reduceLT, reduceIte]
  have ho : IntO w1.heap.size (w1.alloc (Obj.cells #[] 3)) (.slice (some ⟨w1.heap.size, 0, none⟩) 0 0) [] := World.ownsRow_made w1 #[] 0 (Nat.le_refl _) (Nat.zero_le _) (by simp)
  have hE2 := (Ext.refl w1).alloc (Obj.cells #[] 3)
  generalize hw2 : w1.alloc (Obj.cells #[] 3) = w2 at *
  refine (Most_spec _ L hL _ (h.ext (hE.trans hE2))).mono ?_
  rintro _ w3 ⟨rfl, hE3⟩
  replace ho : IntO w1.heap.size w3 (.slice (some ⟨w1.heap.size, 0, none⟩) 0 0) [] := own_at ho (fun b hb => hE3.get b (ho.lt b hb).2)
  replace hE2 := hE2.trans hE3
  have hm := mst_lo L
  simp only [VS, VD, SV, SL, T, Nat.reduceEqDiff, Nat.reduceAdd, Nat.reduceSub, Nat.reduceMul, Nat.reduceLeDiff, Nat.reduceLT, reduceIte]
  refine LoopP_intro (α := Nat) (fun i f' w' => f' 1 = .slice la L.length lc ∧ f' 2 = .agg #[.int .i64 s, .int .i64 y, .int .i64 l] ∧ f' 5 = .slice (some ⟨b, 0, none⟩) s.toNat s.toNat ∧ f' 7 = .int .i64 (mst L) ∧ f' 8 = .int .i64 i ∧ (i : Int) ≤ mst L + 1 ∧ Ext w1 w' ∧ IntO w1.heap.size w' (f' 6) (persK L s y i)) (fun i => (mst L + 1).toNat - i) 0 ?_ ?_
  · simp only [VS, VD, SV, SL, T, Nat.reduceEqDiff, Nat.reduceAdd, Nat.reduceSub, Nat.reduceMul, Nat.reduceLeDiff, Nat.reduceLT, reduceIte]
    exact ⟨rfl, by omega, hE2, ho⟩
  · rintro i f' w' ⟨f1, f2, f5, f7, f8, hi, hE', ho'⟩
    simp only [VS, VD, SV, SL, T, Nat.reduceEqDiff, Nat.reduceAdd, Nat.reduceSub, Nat.reduceMul, Nat.reduceLeDiff, Nat.reduceLT, reduceIte, f7, f8]
    by_cases hlt : (i : Int) ≤ mst L
    · rw [decide_eq_true hlt]
      simp only [VS, VD, SV, SL, T, Nat.reduceEqDiff, Nat.reduceAdd, Nat.reduceSub, Nat.reduceMul, Nat.reduceLeDiff, Nat.reduceLT, reduceIte, f1, f8]
      have hm0 : 0 ≤ (i : Int) % s := Int.emod_nonneg _ (by omega)
      have hm1 : (i : Int) % s < s := Int.emod_lt_of_pos _ (by omega)
      obtain ⟨q, hq⟩ := Int.eq_ofNat_of_zero_le hm0
      have hqs : q < s.toNat := by omega
      have hsz : (s.toNat : Int) = s := by omega
      obtain ⟨cs1, hb1, hs1, hc1⟩ := hI.ext hE'
      have hcq := hc1 q hqs
      simp only [] at hcq
      have hq2 : ((i : Int) % s).toNat = q := by omega
      refine DW_c (fun g w'' => g 1 = .slice la L.length lc ∧ g 2 = .agg #[.int .i64 s, .int .i64 y, .int .i64 l] ∧ g 5 = .slice (some ⟨b, 0, none⟩) s.toNat s.toNat ∧ g 7 = .int .i64 (mst L) ∧ g 8 = .int .i64 i ∧ g 6 = f' 6 ∧ g 34 = .bool (decide (acd L i = true ∧ (cnt L s q : Int) ≤ y)) ∧ Ext w' w'') ?_ ?_
      · refine DW_intro (fun _ _ v _ => v = .bool (acd L i)) ?_
        simp only [VS, VD, SV, SL, T, Nat.reduceEqDiff, Nat.reduceAdd, Nat.reduceSub, Nat.reduceMul, Nat.reduceLeDiff, Nat.reduceLT, reduceIte, f1, f8]
        refine rY_ph rfl rfl (fun v w w' h _ => h) (fun wx hEx _ => ?_) (fun v hv => ?_)
        · simp only [VS, VD, SV, SL, T, Nat.reduceEqDiff, Nat.reduceAdd, Nat.reduceSub, Nat.reduceMul, Nat.reduceLeDiff, Nat.reduceLT, reduceIte, f1, f8]
          refine (Accessed_spec _ L hL i wx ((h.ext (hE.trans hE')).ext hEx)).mono ?_
          rintro _ wy ⟨rfl, hEy⟩
          exact ⟨hEy, rfl⟩
        · obtain ⟨wx, _, _, rfl⟩ := hv
          by_cases ha : acd L i = true
          · simp only [VS, VD, SV, SL, T, Nat.reduceEqDiff, Nat.reduceAdd, Nat.reduceSub, Nat.reduceMul, Nat.reduceLeDiff, Nat.reduceLT, reduceIte, ha, f2, f5, f8, hq, hb1, hcq, Int.toNat_natCast]
            refine ⟨by omega, by omega, ?_⟩
            intro wz hEz _
            simp only [VS, VD, SV, SL, T, Nat.reduceEqDiff, Nat.reduceAdd, Nat.reduceSub, Nat.reduceMul, Nat.reduceLeDiff, Nat.reduceLT, reduceIte, f1, f2, f5, f7, f8]
            first | exact hEz | exact ⟨by simp, hEz⟩
          · have ha' : acd L i = false := by simpa using ha
            simp only [VS, VD, SV, SL, T, Nat.reduceEqDiff, Nat.reduceAdd, Nat.reduceSub, Nat.reduceMul, Nat.reduceLeDiff, Nat.reduceLT, reduceIte, ha', f1, f2, f5, f7, f8]
            intro wz hEz _
            simp only [VS, VD, SV, SL, T, Nat.reduceEqDiff, Nat.reduceAdd, Nat.reduceSub, Nat.reduceMul, Nat.reduceLeDiff, Nat.reduceLT, reduceIte, f1, f2, f5, f7, f8]
            first | exact hEz | exact ⟨by simp, hEz⟩
      · rintro g w'' ⟨g1, g2, g5, g7, g8, g6, g34, hE''⟩
        simp only [VS, VD, SV, SL, T, Nat.reduceEqDiff, Nat.reduceAdd, Nat.reduceSub, Nat.reduceMul, Nat.reduceLeDiff, Nat.reduceLT, reduceIte, g34]
        have hsucc := persK_succ L s y i
        rw [hq2] at hsucc
        have hln := persK_len L s y i
        have ho4 : IntO w1.heap.size w'' (g 6) (persK L s y i) := by rw [g6]; exact own_at ho' (fun b hb => hE''.get b (ho'.lt b hb).2)
        have hE4 := hE'.trans hE''
        by_cases hc : acd L i = true ∧ (cnt L s q : Int) ≤ y
        · rw [decide_eq_true hc]
          rw [if_pos hc] at hsucc
          simp only [VS, VD, SV, SL, T, Nat.reduceEqDiff, Nat.reduceAdd, Nat.reduceSub, Nat.reduceMul, Nat.reduceLeDiff, Nat.reduceLT, reduceIte, g8]
          refine app_int ho4 (by omega) hE4.size i ?_
          intro v' w5 ho5 hg5 hnew
          simp only [VS, VD, SV, SL, T, Nat.reduceEqDiff, Nat.reduceAdd, Nat.reduceSub, Nat.reduceMul, Nat.reduceLeDiff, Nat.reduceLT, reduceIte, g1, g2, g5, g7, g8]
          refine ⟨by omega, i + 1, ⟨by simp, by omega, hE4.grownO ho4 (Nat.le_refl _) hg5, ?_⟩, by omega⟩
          rw [hsucc]
          exact ho5
        · rw [decide_eq_false hc]
          rw [if_neg hc, List.append_nil] at hsucc
          simp only [VS, VD, SV, SL, T, Nat.reduceEqDiff, Nat.reduceAdd, Nat.reduceSub, Nat.reduceMul, Nat.reduceLeDiff, Nat.reduceLT, reduceIte, g1, g2, g5, g7, g8]
          refine ⟨by omega, i + 1, ⟨by simp, by omega, hE4, ?_⟩, by omega⟩
          rw [hsucc]
          exact ho4
    · rw [decide_eq_false hlt]
      simp only [VS, VD, SV, SL, T, Nat.reduceEqDiff, Nat.reduceAdd, Nat.reduceSub, Nat.reduceMul, Nat.reduceLeDiff, Nat.reduceLT, reduceIte]
      refine hΨ _ _ ⟨?_, hE.trans hE'⟩
      rw [← persK_stop (k := i) (fun n hn => by have := mst_acd hn; omega)]
      exact ho'.ints
/-- an access that the references allow -/
def acs (L : List (Int × Int)) (xs : List Int) : List Int := (xs.filterMap fun x => match L[(x % (L.length : Int)).toNat]? with
  | some r => if max r.1 0 ≤ min r.2 3000 then some (max r.1 0 + x / (L.length : Int) % (min r.2 3000 - max r.1 0 + 1)) else none
  | none => none)
theorem acs_mem {L : List (Int × Int)} {xs : List Int} (hx : ∀ x ∈ xs, 0 ≤ x) {n : Int} (h : n ∈ acs L xs) : acd L n = true ∧ 0 ≤ n ∧ n ≤ 3000 := by
  unfold acs at h
  obtain ⟨x, hx', h⟩ := List.mem_filterMap.1 h
  have h0 := hx x hx'
  split at h
  · rename_i r hr
    split at h
    · rename_i hle
      simp only [Option.some.injEq] at h
      have h1 : 0 ≤ x / (L.length : Int) % (min r.2 3000 - max r.1 0 + 1) := Int.emod_nonneg _ (by omega)
      have h2 : x / (L.length : Int) % (min r.2 3000 - max r.1 0 + 1) < min r.2 3000 - max r.1 0 + 1 := Int.emod_lt_of_pos _ (by omega)
      refine ⟨acd_iff.2 ⟨r, List.mem_of_getElem? hr, ?_⟩, by omega, by omega⟩
      unfold alw
      omega
    · simp at h
  · simp at h
theorem acs_len (L : List (Int × Int)) (xs : List Int) : (acs L xs).length ≤ xs.length := List.length_filterMap_le _ _
set_option maxRecDepth 10000 in
theorem accesses_spec (lv : Value) (L : List (Int × Int)) (hL : L.length ≤ 1000) (xv : Value) (xs : List Int) (hX : xs.length ≤ 1000) (hx : ∀ x ∈ xs, 0 ≤ x ∧ x ≤ 65535) (w : World) (h : RefsAt w lv L) (hxv : SlAt w xv 1 (xs.map fun n => [.int .u16 n])) :
    VRet Try.prog 26 #[lv, xv] w fun v w' => IntsAt w' v (acs L xs) ∧ Ext w w' := by
  obtain ⟨la, lc, rfl⟩ := h.form
  obtain ⟨xa, xc, rfl⟩ := hxv.form
  rw [List.length_map] at *
  refine VRet_start T.mo ok26 rfl fun Ψ hΨ => ?_; simp only [vc26, rs26]
  simp only [VS, VD, SV, SL, T, Nat.reduceEqDiff, Nat.reduceAdd, Nat.reduceSub, Nat.reduceMul, Nat.reduceLeDiff, Nat.reduceLT, reduceIte]
  by_cases h0 : (L.length : Int) = 0
  · rw [decide_eq_true h0]
    simp only [VS, VD, SV, SL, T, Nat.reduceEqDiff, Nat.reduceAdd, Nat.reduceSub, Nat.reduceMul, Nat.reduceLeDiff, Nat.reduceLT, reduceIte]
    refine hΨ _ _ ⟨?_, Ext.refl w⟩
    have : acs L xs = [] := by
      have hL0 : L = [] := List.length_eq_zero_iff.1 (by omega)
      subst hL0
      simp [acs]
    rw [this]
    exact IntsAt_nil _
  · rw [decide_eq_false h0]
    simp only [VS, VD, SV, SL, T, Nat.reduceEqDiff, Nat.reduceAdd, Nat.reduceSub, Nat.reduceMul, Nat.reduceLeDiff, Nat.reduceLT, reduceIte]
    refine LoopP_intro (α := Nat) (fun i f' w' => f' 0 = .slice la L.length lc ∧ f' 14 = .slice xa xs.length xc ∧ f' 15 = .int .i64 xs.length ∧ f' 16 = .int .i64 i ∧ i ≤ xs.length ∧ Ext w w' ∧ IntO w.heap.size w' (f' 5) (acs L (xs.take i))) (fun i => xs.length - i) 0 ?_ ?_
    · simp only [VS, VD, SV, SL, T, Nat.reduceEqDiff, Nat.reduceAdd, Nat.reduceSub, Nat.reduceMul, Nat.reduceLeDiff, Nat.reduceLT, reduceIte]
      exact ⟨rfl, Nat.zero_le _, Ext.refl _, World.ownsRow_nil _ _ _ _⟩
    · rintro i f' w' ⟨f0, f14, f15, f16, hi, hE, ho⟩
      simp only [VS, VD, SV, SL, T, Nat.reduceEqDiff, Nat.reduceAdd, Nat.reduceSub, Nat.reduceMul, Nat.reduceLeDiff, Nat.reduceLT, reduceIte, f15, f16]
      by_cases hlt : (i : Int) < xs.length
      · rw [decide_eq_true hlt]
        have hlt' : i < xs.length := by omega
        obtain ⟨b, off, cs, e, fz, rfl, _, hb, hsz, hcs⟩ := (hxv.ext hE).get (i := i) (r := [.int .u16 xs[i]]) (by simp [hlt'])
        have hc : cs[off + i]? = some (.int .u16 xs[i]) := by
          have h6 := congrArg (fun a : Array Value => a[0]?) hcs
          simp only [Array.getElem?_extract] at h6
          rw [if_pos (by omega)] at h6
          simpa using h6
        have hx0 := hx xs[i] (List.getElem_mem _)
        generalize hxi : xs[i] = x at *
        have hm0 : 0 ≤ x % L.length := Int.emod_nonneg _ (by omega)
        have hm1 : x % L.length < L.length := Int.emod_lt_of_pos _ (by omega)
        obtain ⟨q, hq⟩ := Int.eq_ofNat_of_zero_le hm0
        have hqL : q < L.length := by omega
        obtain ⟨b', off', cs', e', fz', rfl, hb', hsz', hcs'⟩ := (h.ext hE).get hqL
        simp only [VS, VD, SV, SL, T, Nat.reduceEqDiff, Nat.reduceAdd, Nat.reduceSub, Nat.reduceMul, Nat.reduceLeDiff, Nat.reduceLT, reduceIte, f14, f16, hb, hc, f0, hq, hb', hsz', hcs', Int.toNat_natCast]
        refine ⟨by omega, by omega, by omega, by omega, ?_⟩
        refine DW_intro (fun _ _ _ _ => True) ?_
        simp only [VS, VD, SV, SL, T, Nat.reduceEqDiff, Nat.reduceAdd, Nat.reduceSub, Nat.reduceMul, Nat.reduceLeDiff, Nat.reduceLT, reduceIte]
        intro w2 hE2 _
        simp only [VS, VD, SV, SL, T, Nat.reduceEqDiff, Nat.reduceAdd, Nat.reduceSub, Nat.reduceMul, Nat.reduceLeDiff, Nat.reduceLT, reduceIte]
        have hE3 := hE.trans (((Ext.refl w').alloc tomb).trans hE2)
        have htk : xs.take (i + 1) = xs.take i ++ [x] := by rw [List.take_add_one, List.getElem?_eq_getElem hlt', hxi]; rfl
        have hac : acs L (xs.take (i + 1)) = acs L (xs.take i) ++ (if max L[q].1 0 ≤ min L[q].2 3000 then [max L[q].1 0 + x / (L.length : Int) % (min L[q].2 3000 - max L[q].1 0 + 1)] else []) := by
          unfold acs
          rw [htk, List.filterMap_append]
          congr 1
          have : (x % (L.length : Int)).toNat = q := by omega
          simp only [List.filterMap_cons, List.filterMap_nil, this, List.getElem?_eq_getElem hqL]
          by_cases hc : max L[q].1 0 ≤ min L[q].2 3000
          · simp only [if_pos hc]
          · simp only [if_neg hc]
        have hal := acs_len L (xs.take i)
        rw [List.length_take] at hal
        replace ho : IntO w.heap.size w2 (f' 5) (acs L (xs.take i)) := own_at ho (fun b hb => (hE2.get b (by have := (ho.lt b hb).2; rw [alloc_size]; omega)).trans (alloc_get_lt (ho.lt b hb).2 _))
        generalize hlo : max L[q].1 0 = lo at *
        generalize hhi : min L[q].2 3000 = hh at *
        by_cases hle : lo ≤ hh
        · rw [decide_eq_true hle]
          rw [if_pos hle] at hac
          have d0 : 0 ≤ x / (L.length : Int) := Int.ediv_nonneg (by omega) (by omega)
          have d1 : x / (L.length : Int) ≤ x := Int.ediv_le_self _ (by omega)
          have d2 : 0 ≤ x / (L.length : Int) % (hh - lo + 1) := Int.emod_nonneg _ (by omega)
          have d3 : x / (L.length : Int) % (hh - lo + 1) < hh - lo + 1 := Int.emod_lt_of_pos _ (by omega)
          simp only [VS, VD, SV, SL, T, Nat.reduceEqDiff, Nat.reduceAdd, Nat.reduceSub, Nat.reduceMul, Nat.reduceLeDiff, Nat.reduceLT, reduceIte, f0]
          refine ⟨by omega, by omega, by omega, by omega, by omega, by omega, ?_⟩
          refine app_int ho (by omega) hE3.size _ ?_
          intro v' w4 ho4 hg4 hnew
          simp only [VS, VD, SV, SL, T, Nat.reduceEqDiff, Nat.reduceAdd, Nat.reduceSub, Nat.reduceMul, Nat.reduceLeDiff, Nat.reduceLT, reduceIte, f0, f14, f15, f16]
          refine ⟨by omega, i + 1, ⟨by simp, by omega, hE3.grownO ho (Nat.le_refl _) hg4, ?_⟩, by omega⟩
          rw [hac]
          exact ho4
        · rw [decide_eq_false hle]
          rw [if_neg hle, List.append_nil] at hac
          simp only [VS, VD, SV, SL, T, Nat.reduceEqDiff, Nat.reduceAdd, Nat.reduceSub, Nat.reduceMul, Nat.reduceLeDiff, Nat.reduceLT, reduceIte, f0, f14, f15, f16]
          refine ⟨by omega, i + 1, ⟨by simp, by omega, hE3, ?_⟩, by omega⟩
          rw [hac]
          exact ho
      · rw [decide_eq_false hlt]
        obtain rfl : i = xs.length := by omega
        simp only [VS, VD, SV, SL, T, Nat.reduceEqDiff, Nat.reduceAdd, Nat.reduceSub, Nat.reduceMul, Nat.reduceLeDiff, Nat.reduceLT, reduceIte]
        rw [List.take_length] at ho
        exact hΨ _ _ ⟨ho.ints, hE⟩
def usb (s y l : Int) (L : List (Int × Int)) (n : Nat) : Bool := Geo s y l && (decide ((L.length : Int) ≤ 12) && (decide ((n : Int) ≤ 200) && decide (mst L ≤ 3000)))
theorem usb_spec {s y l : Int} {L : List (Int × Int)} {n : Nat} (h : usb s y l L n = true) : Geo s y l = true ∧ L.length ≤ 12 ∧ n ≤ 200 ∧ mst L ≤ 3000 := by
  simp only [usb, Bool.and_eq_true, decide_eq_true_eq] at h
  exact ⟨h.1, by omega, by omega, h.2.2.2⟩
set_option maxRecDepth 10000 in
theorem usable_spec (s y l : Int) (lv : Value) (L : List (Int × Int)) (xa : Option Addr) (n xc : Nat) (w : World) (h : RefsAt w lv L) :
    VRet Try.prog 22 #[cfgV s y l, lv, .slice xa n xc] w fun v w' => v = .bool (usb s y l L n) ∧ Ext w w' := by
  obtain ⟨la, lc, rfl⟩ := h.form
  refine VRet_start T.mo ok22 rfl fun Ψ hΨ => ?_; simp only [vc22, rs22]
  simp only [VS, VD, SV, SL, T, Nat.reduceEqDiff, Nat.reduceAdd, Nat.reduceSub, Nat.reduceMul, Nat.reduceLeDiff, Nat.reduceLT, reduceIte, cfgV]
  refine (Valid_spec s y l _).mono ?_
  rintro _ w1 ⟨rfl, hE⟩
  replace hE := ((Ext.refl w).alloc tomb).trans hE
  by_cases hg : Geo s y l = true
  · simp only [VS, VD, SV, SL, T, Nat.reduceEqDiff, Nat.reduceAdd, Nat.reduceSub, Nat.reduceMul, Nat.reduceLeDiff, Nat.reduceLT, reduceIte, hg]
    by_cases h1 : (L.length : Int) ≤ 12
    · rw [decide_eq_true h1]
      simp only [VS, VD, SV, SL, T, Nat.reduceEqDiff, Nat.reduceAdd, Nat.reduceSub, Nat.reduceMul, Nat.reduceLeDiff, Nat.reduceLT, reduceIte]
      by_cases h2 : (n : Int) ≤ 200
      · rw [decide_eq_true h2]
        simp only [VS, VD, SV, SL, T, Nat.reduceEqDiff, Nat.reduceAdd, Nat.reduceSub, Nat.reduceMul, Nat.reduceLeDiff, Nat.reduceLT, reduceIte]
        refine (plain_spec _ L (by omega) _ (h.ext hE)).mono ?_
        rintro v w2 ⟨hR, hE2⟩
        simp only [VS, VD, SV, SL, T, Nat.reduceEqDiff, Nat.reduceAdd, Nat.reduceSub, Nat.reduceMul, Nat.reduceLeDiff, Nat.reduceLT, reduceIte]
        refine (Most_spec _ L (by omega) _ hR).mono ?_
        rintro _ w3 ⟨rfl, hE3⟩
        simp only [VS, VD, SV, SL, T, Nat.reduceEqDiff, Nat.reduceAdd, Nat.reduceSub, Nat.reduceMul, Nat.reduceLeDiff, Nat.reduceLT, reduceIte]
        exact hΨ _ _ ⟨by simp [usb, hg, h1, h2], (hE.trans hE2).trans hE3⟩
      · rw [decide_eq_false h2]
        simp only [VS, VD, SV, SL, T, Nat.reduceEqDiff, Nat.reduceAdd, Nat.reduceSub, Nat.reduceMul, Nat.reduceLeDiff, Nat.reduceLT, reduceIte]
        exact hΨ _ _ ⟨by simp [usb, hg, h2], hE⟩
    · rw [decide_eq_false h1]
      simp only [VS, VD, SV, SL, T, Nat.reduceEqDiff, Nat.reduceAdd, Nat.reduceSub, Nat.reduceMul, Nat.reduceLeDiff, Nat.reduceLT, reduceIte]
      exact hΨ _ _ ⟨by simp [usb, hg, h1], hE⟩
  · have hg' : Geo s y l = false := by simpa using hg
    simp only [VS, VD, SV, SL, T, Nat.reduceEqDiff, Nat.reduceAdd, Nat.reduceSub, Nat.reduceMul, Nat.reduceLeDiff, Nat.reduceLT, reduceIte, hg']
    exact hΨ _ _ ⟨by simp [usb, hg'], hE⟩
end Go.Proofs.Ytneipineehichaa

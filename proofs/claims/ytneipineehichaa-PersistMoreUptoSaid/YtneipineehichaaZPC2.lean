/-
  persist: Conflicts, Persistent, Misses, Flush.
-/
import Derived.Test.YtneipineehichaaZPC1
import Derived.Test.YtneipineehichaaZSO
set_option linter.unusedSimpArgs false
set_option linter.unusedVariables false
namespace Go.Proofs.Ytneipineehichaa
open Go.W Go.RowKit
theorem MB.len {w : World} {r : Nat} {K : List Int} (h : MB w r K) (hK : K.Nodup) : ∃ l c, w.heap[r]? = some (.map (mk l) c) ∧ MWF l c ∧ l.length = K.length ∧ ∀ k, (∃ p ∈ l, p.1 = k) ↔ k ∈ K := by
  obtain ⟨l, c, h1, h2, h3⟩ := h
  have key : ∀ k, (∃ p ∈ l, p.1 = k) ↔ k ∈ K := by
    intro k
    have h1 : (∃ p ∈ l, p.1 = k) ↔ mget l k ≠ none := by
      rw [ne_eq, mget_none]
      simp only [ne_eq, Classical.not_forall, Classical.not_not, exists_prop]
    rw [h1, h3]
    by_cases hk : k ∈ K <;> simp [hk]
  refine ⟨l, c, h1, h2, ?_, key⟩
  have e : (l.map (·.1)).length = K.length := by
    refine List.Perm.length_eq ((List.perm_ext_iff_of_nodup h2.keys hK).2 fun k => ?_)
    rw [← key k, List.mem_map]
  rwa [List.length_map] at e
theorem lns_nodup (L : List (Int × Int)) (s : Int) (i k : Nat) : (lns L s i k).Nodup := (lns_sorted L s i k).imp (by intro a b h; omega)
theorem lns_len (L : List (Int × Int)) (s : Int) (i k : Nat) : (lns L s i k).length ≤ k := by
  unfold lns
  rw [List.length_map]
  refine Nat.le_trans (List.length_filter_le _ _) ?_
  simp
theorem pers_len (L : List (Int × Int)) (s y : Int) : (pers L s y).length ≤ 65536 := by
  unfold pers
  rw [List.length_map]
  refine Nat.le_trans (List.length_filter_le _ _) ?_
  rw [List.length_range, MX_eq]
  omega
/-- what Conflicts returns -/
def cnts (L : List (Int × Int)) (s : Int) : List Int := (List.range s.toNat).map fun i => (cnt L s i : Int)
def confI (s y l : Int) (L : List (Int × Int)) : List Int := if Geo s y l = true then cnts L s else []
def persI (s y l : Int) (L : List (Int × Int)) : List Int := if Geo s y l = true then pers L s y else []
theorem IB.ints {w : World} {b n c : Nat} {g : Nat → Int} (h : IB w b n g) : IntsAt w (.slice (some ⟨b, 0, none⟩) n c) ((List.range n).map g) := by
  obtain ⟨cs, h1, h2, h3⟩ := h
  refine .inr ⟨b, 0, c, by simp, fun i x hx => ?_⟩
  have hi := (List.getElem?_eq_some_iff.1 hx).1
  simp only [List.length_map, List.length_range] at hi
  rw [cell_mk, h1]
  simp only [List.getElem?_map, List.getElem?_range hi, Option.map_some, Option.some.injEq] at hx
  simp [h3 i hi, hx]
theorem IntsAt_nil (w : World) : IntsAt w (.slice none 0 0) [] := .inl ⟨⟨_, _, rfl⟩, rfl⟩
set_option maxRecDepth 10000 in
theorem Conflicts_spec (s y l : Int) (lv : Value) (L : List (Int × Int)) (hL : L.length ≤ 1000000) (w : World) (h : RefsAt w lv L) :
    VRet Try.prog 14 #[cfgV s y l, lv] w fun v w' => IntsAt w' v (confI s y l L) ∧ Ext w w' := by
  have z0 : #[Value.int IntKind.i64 0][0]! = Value.int .i64 0 := rfl
  refine VRet_start T.mo ok14 rfl fun Ψ hΨ => ?_; simp only [vc14, rs14]
  simp only [VS, VD, SV, SL, T, Nat.reduceEqDiff, Nat.reduceAdd, Nat.reduceSub, Nat.reduceMul, Nat.reduceLeDiff, Nat.reduceLT, reduceIte, cfgV]
  refine (Valid_spec s y l _).mono ?_
  rintro _ w1 ⟨rfl, hE⟩
  replace hE := ((Ext.refl w).alloc tomb).trans hE
  by_cases hg : Geo s y l = true
  · have hp := Geo_spec hg
    simp only [VS, VD, SV, SL, T, Nat.reduceEqDiff, Nat.reduceAdd, Nat.reduceSub, Nat.reduceMul, Nat.reduceLeDiff, Nat.reduceLT, reduceIte, hg, Bool.not_true, z0]
    refine ⟨by omega, ?_⟩
    have hI := IB.new (w := w1) (n := s.toNat)
    have hE1 := hE.alloc (.cells (Array.replicate s.toNat (.int .i64 0)) 3)
    have hw1 := hE.size
    generalize hw2 : w1.alloc (.cells (Array.replicate s.toNat (.int .i64 0)) 3) = w2 at *
    refine (collect_spec s y l hg lv L hL w2 (h.ext hE1)).mono ?_
    rintro _ w3 ⟨⟨b, cap, cs, e, fz, rfl, hb, hcs, hm⟩, hE3⟩
    replace hI := hI.ext hE3
    have hE4 := hE1.trans hE3
    simp only [VS, VD, SV, SL, T, Nat.reduceEqDiff, Nat.reduceAdd, Nat.reduceSub, Nat.reduceMul, Nat.reduceLeDiff, Nat.reduceLT, reduceIte]
    refine LoopP_intro (α := Nat) (fun i f' w' => f' 16 = .slice (some ⟨b, 0, none⟩) s.toNat cap ∧ f' 17 = .int .i64 s.toNat ∧ f' 18 = .int .i64 i ∧ i ≤ s.toNat ∧ f' 5 = .slice (some ⟨w1.heap.size, 0, none⟩) s.toNat s.toNat ∧
      IB w' w1.heap.size s.toNat (fun j => if j < i then (cnt L s j : Int) else 0) ∧ Ext w w' ∧ (∀ b, b ≠ w1.heap.size → w'.heap[b]? = w3.heap[b]?)) (fun i => s.toNat - i) 0 ?_ ?_
    · simp only [VS, VD, SV, SL, T, Nat.reduceEqDiff, Nat.reduceAdd, Nat.reduceSub, Nat.reduceMul, Nat.reduceLeDiff, Nat.reduceLT, reduceIte]
      exact ⟨rfl, by omega, hI.congr (fun j _ => by simp), hE4, fun _ _ => trivial⟩
    · rintro i f' w' ⟨f16, f17, f18, hi, f5, hI', hE', hsame⟩
      simp only [VS, VD, SV, SL, T, Nat.reduceEqDiff, Nat.reduceAdd, Nat.reduceSub, Nat.reduceMul, Nat.reduceLeDiff, Nat.reduceLT, reduceIte, f17, f18]
      by_cases hlt : (i : Int) < s.toNat
      · rw [decide_eq_true hlt]
        have hne : b ≠ w1.heap.size := by
          rintro rfl
          obtain ⟨cs', q1, q2, q3⟩ := hI
          rw [hb] at q1
          simp only [Option.some.injEq, Obj.cells.injEq] at q1
          obtain ⟨rfl, _⟩ := q1
          obtain ⟨r, hr, _⟩ := hm 0 (by omega)
          have := q3 0 (by omega)
          rw [hr] at this
          cases this
        obtain ⟨r, hr, hM⟩ := hm i (by omega)
        have hb' := (hsame b hne).trans hb
        have hMl := hM.len (lns_nodup _ _ _ _)
        obtain ⟨lm, cm, hrm, hwf, hlen, _⟩ := hMl
        have hner : r ≠ w1.heap.size := by
          rintro rfl
          obtain ⟨cs', q1, _⟩ := hI
          rw [hrm] at q1
          cases q1
        have hML : MapL w' (.map (some r)) lm cm := .inr ⟨r, rfl, (hsame r hner).trans hrm, hwf⟩
        have hlenM := sLenM (P := Try.prog) T.mp59 hML
        obtain ⟨cs1, hb1, hs1, hc1⟩ := hI'
        have hl1 := get_lt hb1
        simp only [VS, VD, SV, SL, T, Nat.reduceEqDiff, Nat.reduceAdd, Nat.reduceSub, Nat.reduceMul, Nat.reduceLeDiff, Nat.reduceLT, reduceIte, f16, f17, f18, f5, hb', hr, Int.toNat_natCast, hlenM, hb1]
        refine ⟨by omega, by omega, by omega, by omega, i + 1, ⟨by simp, by omega, ?_, hE'.putb (by omega) _, fun b' hb' => ?_⟩, by omega⟩
        · refine (IB.set hl1 hs1 hc1 i _).congr fun j hj => ?_
          by_cases e : j = i
          · subst e
            rw [if_pos rfl, if_pos (by omega)]
            exact congrArg Nat.cast hlen
          · rw [if_neg e]
            by_cases e2 : j < i
            · rw [if_pos e2, if_pos (by omega)]
            · rw [if_neg e2, if_neg (by omega)]
        · rw [if_neg hb', hsame b' hb']
      · rw [decide_eq_false hlt]
        obtain rfl : i = s.toNat := by omega
        simp only [VS, VD, SV, SL, T, Nat.reduceEqDiff, Nat.reduceAdd, Nat.reduceSub, Nat.reduceMul, Nat.reduceLeDiff, Nat.reduceLT, reduceIte, f5]
        refine hΨ _ _ ⟨?_, hE'⟩
        have := hI'.ints (c := s.toNat)
        unfold confI
        rw [if_pos hg]
        unfold cnts
        have e : (List.range s.toNat).map (fun j => if j < s.toNat then (cnt L s j : Int) else 0) = (List.range s.toNat).map fun i => (cnt L s i : Int) := List.map_congr_left fun j hj => if_pos (List.mem_range.1 hj)
        rwa [e] at this
  · have hg' : Geo s y l = false := by simpa using hg
    simp only [VS, VD, SV, SL, T, Nat.reduceEqDiff, Nat.reduceAdd, Nat.reduceSub, Nat.reduceMul, Nat.reduceLeDiff, Nat.reduceLT, reduceIte, hg', Bool.not_false]
    exact hΨ _ _ ⟨by rw [confI, if_neg hg]; exact IntsAt_nil _, hE⟩
set_option maxRecDepth 10000 in
theorem Persistent_spec (s y l : Int) (lv : Value) (L : List (Int × Int)) (hL : L.length ≤ 1000000) (w : World) (h : RefsAt w lv L) :
    VRet Try.prog 15 #[cfgV s y l, lv] w fun v w' => IntsAt w' v (persI s y l L) ∧ Ext w w' := by
  refine VRet_start T.mo ok15 rfl fun Ψ hΨ => ?_; simp only [vc15, rs15]
  simp only [VS, VD, SV, SL, T, Nat.reduceEqDiff, Nat.reduceAdd, Nat.reduceSub, Nat.reduceMul, Nat.reduceLeDiff, Nat.reduceLT, reduceIte, cfgV]
  refine (Valid_spec s y l _).mono ?_
  rintro _ w1 ⟨rfl, hE⟩
  replace hE := ((Ext.refl w).alloc tomb).trans hE
  by_cases hg : Geo s y l = true
  · have hp := Geo_spec hg
    simp only [VS, VD, SV, SL, T, Nat.reduceEqDiff, Nat.reduceAdd, Nat.reduceSub, Nat.reduceMul, Nat.reduceLeDiff, Nat.reduceLT, reduceIte, hg, Bool.not_true]
    refine (collect_spec s y l hg lv L hL w1 (h.ext hE)).mono ?_
    rintro _ w2 ⟨⟨b, cap, cs, e, fz, rfl, hb, hcs, hm⟩, hE2⟩
    replace hE := hE.trans hE2
    simp only [VS, VD, SV, SL, T, Nat.reduceEqDiff, Nat.reduceAdd, Nat.reduceSub, Nat.reduceMul, Nat.reduceLeDiff, Nat.reduceLT, reduceIte]
    have hplen := pers_len L s y
    have hpm : ∀ k, k ∈ pers L s y → 0 ≤ k % s := fun k _ => Int.emod_nonneg k (by omega)
    have hlm : ∀ k i, k ∈ lns L s i MX ↔ acd L k = true ∧ (k % s).toNat = i := by
      intro k i
      rw [lns_mem]
      have hx := MX_eq
      constructor
      · rintro ⟨h1, _, h3⟩; exact ⟨h1, h3⟩
      · rintro ⟨h1, h3⟩; exact ⟨h1, by have := acd_range h1; omega, h3⟩
    refine loop_cB (fun f' w' => ∃ out, IntO w2.heap.size w' (f' 5) out ∧ out.Nodup ∧ (∀ k, k ∈ out ↔ k ∈ pers L s y) ∧ Ext w w') ?_ ?_
    · refine LoopP_intro (α := Nat) (fun i f' w' => f' 2 = .agg #[.int .i64 s, .int .i64 y, .int .i64 l] ∧ f' 14 = .slice (some ⟨b, 0, none⟩) s.toNat cap ∧ f' 15 = .int .i64 s.toNat ∧ f' 16 = .int .i64 i ∧ i ≤ s.toNat ∧ Ext w2 w' ∧
        ∃ out, IntO w2.heap.size w' (f' 5) out ∧ out.Nodup ∧ ∀ k, k ∈ out ↔ k ∈ pers L s y ∧ k % s < i) (fun i => s.toNat - i) 0 ?_ ?_
      · simp only [VS, VD, SV, SL, T, Nat.reduceEqDiff, Nat.reduceAdd, Nat.reduceSub, Nat.reduceMul, Nat.reduceLeDiff, Nat.reduceLT, reduceIte]
        refine ⟨rfl, Nat.zero_le _, Ext.refl _, [], World.ownsRow_nil _ _ _ _, List.nodup_nil, fun k => ?_⟩
        have := Int.emod_nonneg k (show s ≠ 0 by omega)
        simp only [List.not_mem_nil, false_iff]
        rintro ⟨_, h⟩
        simp only [Int.natCast_zero, Int.ofNat_eq_natCast] at h
        omega
      · rintro i f' wo ⟨f2, f14, f15, f16, hi, hEx, out, ho, hnd, hmem⟩
        simp only [VS, VD, SV, SL, T, Nat.reduceEqDiff, Nat.reduceAdd, Nat.reduceSub, Nat.reduceMul, Nat.reduceLeDiff, Nat.reduceLT, reduceIte, f15, f16]
        by_cases hlt : (i : Int) < s.toNat
        · rw [decide_eq_true hlt]
          obtain ⟨r, hr, hM⟩ := hm i (by omega)
          obtain ⟨lm, cm, hrm, hwf, hlen, hkeys⟩ := hM.len (lns_nodup _ _ _ _)
          have hML : MapL w2 (.map (some r)) lm cm := .inr ⟨r, rfl, hrm, hwf⟩
          have hlenM := sLenM (P := Try.prog) T.mp59 (hML.ext hEx)
          have hb' := hEx.obj hb
          have hcnt : lm.length = cnt L s i := by rw [hlen]; rfl
          simp only [VS, VD, SV, SL, T, Nat.reduceEqDiff, Nat.reduceAdd, Nat.reduceSub, Nat.reduceMul, Nat.reduceLeDiff, Nat.reduceLT, reduceIte, f2, f14, f16, hb', hr, Int.toNat_natCast, hlenM, hcnt]
          refine ⟨by omega, ?_⟩
          by_cases hgt : y < cnt L s i
          · rw [decide_eq_true hgt]
            simp only [VS, VD, SV, SL, T, Nat.reduceEqDiff, Nat.reduceAdd, Nat.reduceSub, Nat.reduceMul, Nat.reduceLeDiff, Nat.reduceLT, reduceIte, f2, f14, f15, f16]
            refine ⟨by omega, i + 1, ⟨by simp, by omega, hEx, out, ho, hnd, fun k => ?_⟩, by omega⟩
            rw [hmem]
            constructor
            · rintro ⟨h1, h2⟩; exact ⟨h1, by omega⟩
            · rintro ⟨h1, h2⟩
              refine ⟨h1, ?_⟩
              have h3 := hpm k h1
              rw [pers_mem] at h1
              have h4 := h1.2
              by_cases h5 : (k % s).toNat = i
              · rw [h5] at h4; omega
              · omega
          · rw [decide_eq_false hgt]
            simp only [VS, VD, SV, SL, T, Nat.reduceEqDiff, Nat.reduceAdd, Nat.reduceSub, Nat.reduceMul, Nat.reduceLeDiff, Nat.reduceLT, reduceIte]
            refine rV_rangeM T.mp59 (hML.ext hEx) ?_
            intro w3 hs3 hit3 hh3 hE3
            have hExw3 := hE3 w2 hEx
            have ho3 : IntO w2.heap.size w3 (f' 5) out := own_at ho (fun b hb => hh3 b (by have := (ho.lt b hb).2; omega))
            have hne3 : ∀ b, (f' 5).ownBlock = some b → b ≠ wo.heap.size := fun b hb => by have := (ho.lt b hb).2; omega
            have hgeo := hEx.size
            generalize hit : wo.heap.size = it at *
            simp only [VS, VD, SV, SL, T, Nat.reduceEqDiff, Nat.reduceAdd, Nat.reduceSub, Nat.reduceMul, Nat.reduceLeDiff, Nat.reduceLT, reduceIte]
            have key : ∀ k, (∃ p ∈ lm, p.1 = k) ↔ (k ∈ pers L s y ∧ k % s = i) := by
              intro k
              have hk2 := Int.emod_nonneg k (show s ≠ 0 by omega)
              rw [hkeys, hlm, pers_mem]
              constructor
              · rintro ⟨h1, h2⟩
                exact ⟨⟨h1, by rw [h2]; omega⟩, by omega⟩
              · rintro ⟨⟨h1, _⟩, h2⟩
                exact ⟨h1, by omega⟩
            refine LoopP_intro (α := Array Nat) (fun seen g w' => g 2 = .agg #[.int .i64 s, .int .i64 y, .int .i64 l] ∧ g 14 = .slice (some ⟨b, 0, none⟩) s.toNat cap ∧ g 15 = .int .i64 s.toNat ∧ g 16 = .int .i64 i ∧ g 26 = .pointer (some ⟨it, 0, none⟩) ∧ ItAt w' it (.map (some r)) cm seen ∧ Ext w2 w' ∧
              ∃ out, IntO w2.heap.size w' (g 5) out ∧ out.Nodup ∧ (∀ b, (g 5).ownBlock = some b → b ≠ it) ∧ ∀ k, k ∈ out ↔ (k ∈ pers L s y ∧ k % s < i) ∨ ∃ p ∈ lm, p.1 = k ∧ p.2.2 ∈ seen) (fun seen => (todo lm seen).length) #[] ?_ ?_
            · simp only [VS, VD, SV, SL, T, Nat.reduceEqDiff, Nat.reduceAdd, Nat.reduceSub, Nat.reduceMul, Nat.reduceLeDiff, Nat.reduceLT, reduceIte, f2, f14, f15, f16]
              exact ⟨hit3, hExw3, out, ho3, hnd, hne3, fun k => by rw [hmem]; simp⟩
            · clear hnd hmem ho ho3 hne3 f2 f14 f15 f16
              rintro seen g w4 ⟨g2, g14, g15, g16, g26, hI, hE4, out, ho, hnd, hne, hmem⟩
              have hML2 := hML.ext hE4
              have hitlt := hI.lt
              simp only [VS, VD, SV, SL, T, Nat.reduceEqDiff, Nat.reduceAdd, Nat.reduceSub, Nat.reduceMul, Nat.reduceLeDiff, Nat.reduceLT, reduceIte, g26]
              refine rV_nextM hI hML2 (fun hall => ?_) (fun p hp hns w5 hI5 hh5 hE5 => ?_)
              · simp only [VS, VD, SV, SL, T, Nat.reduceEqDiff, Nat.reduceAdd, Nat.reduceSub, Nat.reduceMul, Nat.reduceLeDiff, Nat.reduceLT, reduceIte, g2, g14, g15, g16]
                refine ⟨by omega, i + 1, ⟨by simp, by omega, hE4, out, ho, hnd, fun k => ?_⟩, by omega⟩
                rw [hmem]
                have hk2 := Int.emod_nonneg k (show s ≠ 0 by omega)
                constructor
                · rintro (⟨h1, h2⟩ | ⟨p, hp, rfl, _⟩)
                  · exact ⟨h1, by omega⟩
                  · have := (key p.1).1 ⟨p, hp, rfl⟩
                    exact ⟨this.1, by omega⟩
                · rintro ⟨h1, h2⟩
                  by_cases h3 : k % s < i
                  · exact .inl ⟨h1, h3⟩
                  · obtain ⟨p, hp, e⟩ := (key k).2 ⟨h1, by omega⟩
                    exact .inr ⟨p, hp, e, hall p hp⟩
              · have hEw5 := hE5 w2 hE4 (by omega)
                have ho5 : IntO w2.heap.size w5 (g 5) out := own_at ho (fun b hb => hh5 b (hne b hb))
                have hpnew : p.1 ∉ out := by
                  rw [hmem]
                  rintro (⟨_, h2⟩ | ⟨q, hq, e, hs⟩)
                  · have := (key p.1).1 ⟨p, hp, rfl⟩
                    omega
                  · have : q = p := key_inj hML.wf.keys hq hp e
                    subst this
                    exact hns hs
                simp only [VS, VD, SV, SL, T, Nat.reduceEqDiff, Nat.reduceAdd, Nat.reduceSub, Nat.reduceMul, Nat.reduceLeDiff, Nat.reduceLT, reduceIte, g26]
                refine rV_entryM hI5 (hML.ext hEw5) hp ?_
                simp only [VS, VD, SV, SL, T, Nat.reduceEqDiff, Nat.reduceAdd, Nat.reduceSub, Nat.reduceMul, Nat.reduceLeDiff, Nat.reduceLT, reduceIte]
                refine app_int ho5 (by
                  have : out.length ≤ (pers L s y).length := nodup_len hnd (fun k hk => by
                    rcases (hmem k).1 hk with h | ⟨q, hq, e, _⟩
                    · exact h.1
                    · exact ((key k).1 ⟨q, hq, e⟩).1)
                  omega) hEw5.size p.1 ?_
                intro v' w6 ho6 hg6 hnew
                simp only [VS, VD, SV, SL, T, Nat.reduceEqDiff, Nat.reduceAdd, Nat.reduceSub, Nat.reduceMul, Nat.reduceLeDiff, Nat.reduceLT, reduceIte]
                have hit6 : w6.heap[it]? = w5.heap[it]? := hg6.block it hI5.lt (fun e => hne it e.symm rfl)
                refine ⟨seen.push p.2.2, ⟨g2, g14, g15, g16, g26, hI5.heap hit6, hEw5.grownO ho5 (Nat.le_refl _) hg6, out ++ [p.1], ho6, ?_, ?_, fun k => ?_⟩, todo_lt hp hns⟩
                · rw [List.nodup_append]
                  exact ⟨hnd, by simp, fun a ha b hb => by simp only [List.mem_singleton] at hb; rintro rfl; subst hb; exact hpnew ha⟩
                · intro b hb
                  rcases hnew b hb with h | h
                  · exact hne b h
                  · have := hI5.lt; omega
                · rw [List.mem_append, hmem]
                  simp only [List.mem_singleton]
                  constructor
                  · rintro ((h | ⟨q, hq, e, hs⟩) | rfl)
                    · exact .inl h
                    · exact .inr ⟨q, hq, e, Array.mem_push.2 (.inl hs)⟩
                    · exact .inr ⟨p, hp, rfl, by simp⟩
                  · rintro (h | ⟨q, hq, e, hs⟩)
                    · exact .inl (.inl h)
                    · rcases Array.mem_push.1 hs with hs | hs
                      · exact .inl (.inr ⟨q, hq, e, hs⟩)
                      · right
                        rw [← e, Go.W.born_inj hML.wf.borns hq hp hs]
        · rw [decide_eq_false hlt]
          obtain rfl : i = s.toNat := by omega
          simp only [VS, VD, SV, SL, T, Nat.reduceEqDiff, Nat.reduceAdd, Nat.reduceSub, Nat.reduceMul, Nat.reduceLeDiff, Nat.reduceLT, reduceIte]
          refine ⟨out, ho, hnd, fun k => ?_, hE.trans hEx⟩
          rw [hmem]
          have hk2 := Int.emod_lt_of_pos k (show 0 < s by omega)
          exact ⟨fun h => h.1, fun h => ⟨h, by omega⟩⟩
    · rintro f3 w3 ⟨out, ho, hnd, hmem, hE3⟩
      have hperm : out.Perm (pers L s y) := (List.perm_ext_iff_of_nodup hnd ((pers_sorted L s y).imp (by intro a b h; omega))).2 hmem
      have hlen := hperm.length_eq
      simp only [VS, VD, SV, SL, T, Nat.reduceEqDiff, Nat.reduceAdd, Nat.reduceSub, Nat.reduceMul, Nat.reduceLeDiff, Nat.reduceLT, reduceIte]
      refine (Sort_spec w2.heap.size (f3 5) out (by omega) w3 ho).mono ?_
      rintro u w4 ⟨ho4, hg4⟩
      simp only [VS, VD, SV, SL, T, Nat.reduceEqDiff, Nat.reduceAdd, Nat.reduceSub, Nat.reduceMul, Nat.reduceLeDiff, Nat.reduceLT, reduceIte]
      rw [sort_perm hperm (pers_sorted L s y)] at ho4
      refine hΨ _ _ ⟨?_, hE3.grownO ho hE.size hg4⟩
      unfold persI
      rw [if_pos hg]
      refine IntO.ints (base := w2.heap.size) ?_
      show w4.ownsRow _ _ 1 _ (pers L s y).length _
      rw [← hlen]
      exact ho4
  · have hg' : Geo s y l = false := by simpa using hg
    simp only [VS, VD, SV, SL, T, Nat.reduceEqDiff, Nat.reduceAdd, Nat.reduceSub, Nat.reduceMul, Nat.reduceLeDiff, Nat.reduceLT, reduceIte, hg', Bool.not_false]
    exact hΨ _ _ ⟨by rw [persI, if_neg hg]; exact IntsAt_nil _, hE⟩
set_option maxRecDepth 10000 in
theorem Misses_spec (s y l : Int) (lv : Value) (L : List (Int × Int)) (hL : L.length ≤ 1000000) (w : World) (h : RefsAt w lv L) :
    VRet Try.prog 16 #[cfgV s y l, lv] w fun v w' => v = .int .i64 (persI s y l L).length ∧ Ext w w' := by
  refine VRet_start T.mo ok16 rfl fun Ψ hΨ => ?_; simp only [vc16, rs16]
  simp only [VS, VD, SV, SL, T, Nat.reduceEqDiff, Nat.reduceAdd, Nat.reduceSub, Nat.reduceMul, Nat.reduceLeDiff, Nat.reduceLT, reduceIte, cfgV]
  refine (Persistent_spec s y l lv L hL _ (h.ext ((Ext.refl w).alloc tomb))).mono ?_
  rintro v w1 ⟨hI, hE⟩
  obtain ⟨a, c, rfl⟩ := hI.form
  simp only [VS, VD, SV, SL, T, Nat.reduceEqDiff, Nat.reduceAdd, Nat.reduceSub, Nat.reduceMul, Nat.reduceLeDiff, Nat.reduceLT, reduceIte]
  exact hΨ _ _ ⟨rfl, ((Ext.refl w).alloc tomb).trans hE⟩
def flushI (s y l : Int) : Int := if Geo s y l = true then s * y else 0
set_option maxRecDepth 10000 in
theorem PFlush_spec (s y l : Int) (w : World) : VRet Try.prog 18 #[cfgV s y l] w fun v w' => v = .int .i64 (flushI s y l) ∧ Ext w w' := by
  refine VRet_start T.mo ok18 rfl fun Ψ hΨ => ?_; simp only [vc18, rs18]
  simp only [VS, VD, SV, SL, T, Nat.reduceEqDiff, Nat.reduceAdd, Nat.reduceSub, Nat.reduceMul, Nat.reduceLeDiff, Nat.reduceLT, reduceIte, cfgV]
  refine (Valid_spec s y l _).mono ?_
  rintro _ w1 ⟨rfl, hE⟩
  replace hE := ((Ext.refl w).alloc tomb).trans hE
  by_cases hg : Geo s y l = true
  · have hp := Geo_spec hg
    simp only [VS, VD, SV, SL, T, Nat.reduceEqDiff, Nat.reduceAdd, Nat.reduceSub, Nat.reduceMul, Nat.reduceLeDiff, Nat.reduceLT, reduceIte, hg, Bool.not_true]
    have h1 : 0 ≤ s * y := Int.mul_nonneg (by omega) (by omega)
    have h2 : s * y ≤ 64 * 8 := Int.mul_le_mul hp.2.1 hp.2.2.2.1 (by omega) (by omega)
    exact ⟨by omega, hΨ _ _ ⟨by rw [flushI, if_pos hg], hE⟩⟩
  · have hg' : Geo s y l = false := by simpa using hg
    simp only [VS, VD, SV, SL, T, Nat.reduceEqDiff, Nat.reduceAdd, Nat.reduceSub, Nat.reduceMul, Nat.reduceLeDiff, Nat.reduceLT, reduceIte, hg', Bool.not_false]
    exact hΨ _ _ ⟨by rw [flushI, if_neg hg], hE⟩
end Go.Proofs.Ytneipineehichaa

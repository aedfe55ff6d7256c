/-
  May: Join, Equal.
-/
import Derived.Test.YtndkadphpbnpeaaZCM4
set_option linter.unusedSimpArgs false
set_option linter.unusedVariables false
namespace Go.Proofs.Ytndkadphpbnpeaa
open Go.W
/-- the lesser of two bounds -/
def jn (a b : Option Int) : Option Int := match a, b with | none, b => b | some a, none => some a | some a, some b => some (min a b)
def joinM (m n : Int → Option Int) : Int → Option Int := fun k => jn (m k) (n k)
def joinS (M N : Option (Int → Option Int)) : Option (Int → Option Int) := M.bind fun m => N.map fun n => joinM m n
theorem restr_join (s : Int) (i : Nat) (m n : Int → Option Int) (k : Int) : restr s i (joinM m n) k = jn (restr s i m k) (restr s i n k) := by
  simp only [restr, joinM]; split <;> rfl
theorem MayK.form {w : World} {v : Value} {s y l : Int} {m : Int → Option Int} (h : MayK w v s y l m) : ∃ b off cap, v = stV s y l false (.slice (some ⟨b, off, none⟩) s.toNat cap) := by
  obtain ⟨b, off, cap, vs, h1, _⟩ := h; exact ⟨b, off, cap, h1⟩
/-- the map of a set -/
theorem MayK.at {w : World} {s y l : Int} {m : Int → Option Int} {b off n cap : Nat} (h : MayK w (stV s y l false (.slice (some ⟨b, off, none⟩) n cap)) s y l m) {i : Nat} (hi : i < s.toNat) :
    ∃ x cs e fz, w.heap[b]? = some (.cells cs e fz) ∧ cs[off + i]? = some x ∧ MapAt w x (restr s i m) := by
  obtain ⟨b', off', cap', vs, h1, h2, h3⟩ := h
  simp only [stV, Value.agg.injEq, Array.mk.injEq, List.cons.injEq, Value.slice.injEq, Option.some.injEq, Addr.mk.injEq, true_and, and_true] at h1
  obtain ⟨⟨rfl, rfl⟩, rfl, rfl⟩ := h1
  obtain ⟨x, hx⟩ : ∃ x, vs[i]? = some x := ⟨vs[i]'(by omega), by simp⟩
  obtain ⟨hc, hm⟩ := h3 i x hx
  obtain ⟨cs, e, fz, h4, h5⟩ := cell_obj hc
  exact ⟨x, cs, e, fz, h4, h5, hm⟩
theorem MapAt.list {w : World} {v : Value} {m : Int → Option Int} (h : MapAt w v m) : ∃ l c, MapL w v l c ∧ ∀ k, mget l k = (m k).map (.int .i64 ·) := by
  rcases h with ⟨rfl, hm⟩ | ⟨r, l, c, rfl, h2, h3, h4⟩
  · exact ⟨[], 0, .inl ⟨rfl, rfl, rfl⟩, fun k => by simp [mget_nil, hm]⟩
  · exact ⟨l, c, .inr ⟨r, rfl, h2, h3⟩, h4⟩
set_option maxHeartbeats 1000000 in
set_option maxRecDepth 10000 in
theorem Join_spec (s y l : Int) (hv : Geo s y l = true) (M N : Option (Int → Option Int)) (hbN : BdS y N) (a b : Value) (w : World) (ha : MayAt w a s y l M) (hb : MayAt w b s y l N) :
    VRet Try.prog 17 #[a, b] w fun v w' => MayAt w' v s y l (joinS M N) ∧ Ext w w' := by
  have hp := Geo_spec hv
  obtain ⟨u1, a1, n1, c1, rfl⟩ := ha.form
  obtain ⟨u2, a2, n2, c2, rfl⟩ := hb.form
  refine VRet_start T.mo ok17 rfl fun Ψ hΨ => ?_; simp only [vc17, rs17]
  simp only [VS, VD, SV, SL, T, Nat.reduceEqDiff, Nat.reduceAdd, Nat.reduceSub, Nat.reduceMul, Nat.reduceLeDiff, Nat.reduceLT, reduceIte, stV]
  have hE := (((Ext.refl w).alloc tomb).alloc tomb).alloc tomb
  generalize ((w.alloc tomb).alloc tomb).alloc tomb = w0 at *
  cases M with
  | none =>
    have : stV s y l u1 (.slice a1 n1 c1) = _ := ha
    simp only [stV, Value.agg.injEq, Array.mk.injEq, List.cons.injEq, Value.bool.injEq, Value.slice.injEq, true_and, and_true] at this
    obtain ⟨rfl, rfl, rfl, rfl⟩ := this
    simp only [VS, VD, SV, SL, T, Nat.reduceEqDiff, Nat.reduceAdd, Nat.reduceSub, Nat.reduceMul, Nat.reduceLeDiff, Nat.reduceLT, reduceIte]
    exact hΨ _ _ ⟨rfl, hE⟩
  | some m =>
    have ha' : MayK w (stV s y l u1 (.slice a1 n1 c1)) s y l m := ha
    obtain ⟨ba, oa, ca, e1⟩ := ha'.form
    simp only [stV, Value.agg.injEq, Array.mk.injEq, List.cons.injEq, Value.bool.injEq, Value.slice.injEq, true_and, and_true] at e1
    obtain ⟨rfl, rfl, rfl, rfl⟩ := e1
    cases N with
    | none =>
      have : stV s y l u2 (.slice a2 n2 c2) = _ := hb
      simp only [stV, Value.agg.injEq, Array.mk.injEq, List.cons.injEq, Value.bool.injEq, Value.slice.injEq, true_and, and_true] at this
      obtain ⟨rfl, rfl, rfl, rfl⟩ := this
      simp only [VS, VD, SV, SL, T, Nat.reduceEqDiff, Nat.reduceAdd, Nat.reduceSub, Nat.reduceMul, Nat.reduceLeDiff, Nat.reduceLT, reduceIte]
      exact hΨ _ _ ⟨rfl, hE⟩
    | some n =>
      have hb' : MayK w (stV s y l u2 (.slice a2 n2 c2)) s y l n := hb
      obtain ⟨bb, ob, cb, e2⟩ := hb'.form
      simp only [stV, Value.agg.injEq, Array.mk.injEq, List.cons.injEq, Value.bool.injEq, Value.slice.injEq, true_and, and_true] at e2
      obtain ⟨rfl, rfl, rfl, rfl⟩ := e2
      simp only [VS, VD, SV, SL, T, Nat.reduceEqDiff, Nat.reduceAdd, Nat.reduceSub, Nat.reduceMul, Nat.reduceLeDiff, Nat.reduceLT, reduceIte, Int.toNat_natCast]
      refine ⟨by omega, ?_⟩
      have er : (#[Value.map none] : Array Value)[0]! = .map none := rfl
      rw [er]
      refine LoopP_intro (α := List Nat) (fun rs f' w' => f' 2 = stV s y l false (.slice (some ⟨ba, oa, none⟩) s.toNat c1) ∧ f' 3 = stV s y l false (.slice (some ⟨bb, ob, none⟩) s.toNat c2) ∧ live (f' 4) = true ∧ f' 5 = .slice (some ⟨w0.heap.size, 0, none⟩) s.toNat s.toNat ∧
        f' 32 = .int .i64 s.toNat ∧ f' 33 = .int .i64 rs.length ∧ Ext w0 w' ∧ rs.length ≤ s.toNat ∧ ∃ cs, RowAt w' w0.heap.size s (joinM m n) cs rs)
        (fun rs => s.toNat - rs.length) [] ?_ ?_
      · simp only [VS, VD, SV, SL, T, Nat.reduceEqDiff, Nat.reduceAdd, Nat.reduceSub, Nat.reduceMul, Nat.reduceLeDiff, Nat.reduceLT, reduceIte, stV]
        exact ⟨rfl, (Ext.refl w0).alloc _, by simp, _, alloc_get_new _ _, by simp, by simp, by simp⟩
      · rintro rs f' w' ⟨g2, g3, g4, g5, g32, g33, hEx, hle, cs, hcs, hsz, hnd, hall⟩
        simp only [VS, VD, SV, SL, T, Nat.reduceEqDiff, Nat.reduceAdd, Nat.reduceSub, Nat.reduceMul, Nat.reduceLeDiff, Nat.reduceLT, reduceIte, g33, g32]
        refine cnd_d (fun hlt2 => ?_) (fun hlt2 => ?_)
        · have hi : rs.length < s.toNat := by omega
          simp only [VS, VD, SV, SL, T, Nat.reduceEqDiff, Nat.reduceAdd, Nat.reduceSub, Nat.reduceMul, Nat.reduceLeDiff, Nat.reduceLT, reduceIte, g33, g2, stV]
          refine (set_spec s y l hv m _ rs.length (by omega) _ (ha'.ext (hE.trans hEx))).mono ?_
          rintro _ w2 ⟨⟨r, rfl, hr, ld0, cd0, hd0, hwd0, hgd0⟩, hE2⟩
          have hE02 := (hE.trans hEx).trans hE2
          obtain ⟨x, csb, eb, fzb, hbb, hxb, hmb⟩ := hb'.at hi
          have hbb2 := hE02.obj hbb
          have hcs2 := hE2.obj hcs
          have hll := get_lt hcs
          obtain ⟨lb, clb, hlb, hgb⟩ := hmb.list
          have hlb0 := hlb
          replace hlb := hlb.ext hE02
          simp only [VS, VD, SV, SL, T, Nat.reduceEqDiff, Nat.reduceAdd, Nat.reduceSub, Nat.reduceMul, Nat.reduceLeDiff, Nat.reduceLT, reduceIte, g3, g33, stV, Int.toNat_natCast, hbb2, hxb]
          refine ⟨by omega, ?_⟩
          have hlt2' := get_lt hd0
          refine rV_rangeM T.mp74 hlb fun w3 hs3 hit3 hsame3 hext3 => ?_
          have hrw2 : ¬ r = w2.heap.size := by omega
          simp only [VS, VD, SV, SL, T, Nat.reduceEqDiff, Nat.reduceAdd, Nat.reduceSub, Nat.reduceMul, Nat.reduceLeDiff, Nat.reduceLT, reduceIte]
          refine loop_cB (fun f w5 => f 2 = stV s y l false (.slice (some ⟨ba, oa, none⟩) s.toNat c1) ∧ f 3 = stV s y l false (.slice (some ⟨bb, ob, none⟩) s.toNat c2) ∧ live (f 4) = true ∧ f 5 = .slice (some ⟨w0.heap.size, 0, none⟩) s.toNat s.toNat ∧ f 6 = .int .i64 rs.length ∧ f 7 = .map (some r) ∧
              f 32 = .int .i64 s.toNat ∧ f 33 = .int .i64 rs.length ∧ Ext w' w5 ∧ MapIs w5 r (restr s rs.length (joinM m n))) ?_ ?_
          · refine LoopP_intro (α := Array Nat) (fun seen f w5 => f 2 = stV s y l false (.slice (some ⟨ba, oa, none⟩) s.toNat c1) ∧ f 3 = stV s y l false (.slice (some ⟨bb, ob, none⟩) s.toNat c2) ∧ live (f 4) = true ∧ f 5 = .slice (some ⟨w0.heap.size, 0, none⟩) s.toNat s.toNat ∧ f 6 = .int .i64 rs.length ∧ f 7 = .map (some r) ∧
              f 32 = .int .i64 s.toNat ∧ f 33 = .int .i64 rs.length ∧ Ext w' w5 ∧ f 44 = .pointer (some ⟨w2.heap.size, 0, none⟩) ∧ ItAt w5 w2.heap.size x clb seen ∧ MapL w5 x lb clb ∧
              ∃ ld cd, w5.heap[r]? = some (.map (mk ld) cd) ∧ MWF ld cd ∧ ∀ k, mget ld k = (if ∃ p ∈ lb, p.1 = k ∧ p.2.2 ∈ seen then jn (restr s rs.length m k) (restr s rs.length n k) else restr s rs.length m k).map (.int .i64 ·)) (fun seen => (todo lb seen).length) #[] ?_ ?_
            · simp only [VS, VD, SV, SL, T, Nat.reduceEqDiff, Nat.reduceAdd, Nat.reduceSub, Nat.reduceMul, Nat.reduceLeDiff, Nat.reduceLT, reduceIte, g2, g3, g4, g5, g32, g33, stV]
              refine ⟨hext3 _ hE2, hit3, hlb.ext (hext3 _ (Ext.refl _)), ld0, cd0, ?_, hwd0, fun k => ?_⟩
              · rw [hsame3 r hrw2]; exact hd0
              · rw [hgd0]; simp
            · rintro seen f w5 ⟨f2, f3, f4, f5, f6, f7, f32, f33, hE5, f44, hit, hml, ld, cd, hd, hwd, hgd⟩
              have hdl := get_lt hd
              simp only [VS, VD, SV, SL, T, Nat.reduceEqDiff, Nat.reduceAdd, Nat.reduceSub, Nat.reduceMul, Nat.reduceLeDiff, Nat.reduceLT, reduceIte, f44]
              refine rV_nextM hit hml (fun hall => ?_) (fun p hp hns w6 hit6 hsame6 hext6 => ?_)
              · simp only [VS, VD, SV, SL, T, Nat.reduceEqDiff, Nat.reduceAdd, Nat.reduceSub, Nat.reduceMul, Nat.reduceLeDiff, Nat.reduceLT, reduceIte]
                refine ⟨f2, f3, f4, f5, f6, f7, f32, f33, hE5, ld, cd, hd, hwd, fun k => ?_⟩
                rw [hgd, restr_join]
                by_cases hex : ∃ p ∈ lb, p.1 = k ∧ p.2.2 ∈ seen
                · rw [if_pos hex]
                · rw [if_neg hex]
                  have : restr s rs.length n k = none := by
                    cases hq : restr s rs.length n k with
                    | none => rfl
                    | some v =>
                      have := hgb k
                      rw [hq] at this
                      obtain ⟨bq, hbq⟩ := mget_some_mem this
                      exact (hex ⟨_, hbq, rfl, hall _ hbq⟩).elim
                  rw [this]
                  cases restr s rs.length m k <;> rfl
              · have hw2it : w'.heap.size ≤ w2.heap.size := hE2.size
                have hE6 := hext6 _ hE5 hw2it
                have hr6 : w6.heap[r]? = some (.map (mk ld) cd) := (hsame6 r hrw2).trans hd
                have hml6 : MapL w6 x lb clb := hml.heap fun q hq => hsame6 q (by rintro rfl; subst hq; have := hlb.lt; omega)
                obtain ⟨vb, hvb⟩ : ∃ vb, p.2.1 = .int .i64 vb ∧ restr s rs.length n p.1 = some vb := by
                  have h3 := mget_mem hml.wf.keys hp
                  rw [hgb] at h3
                  obtain ⟨vb, q1, q2⟩ := Option.map_eq_some_iff.1 h3
                  exact ⟨vb, q2.symm, q1⟩
                obtain ⟨hvb, hnb⟩ := hvb
                have hexp : ¬ ∃ q ∈ lb, q.1 = p.1 ∧ q.2.2 ∈ seen := by
                  rintro ⟨q, hq, e, hs⟩
                  rw [Go.W.key_inj hml.wf.keys hq hp e] at hs
                  exact hns hs
                have hgp := hgd p.1
                rw [if_neg hexp] at hgp
                have hiff : ∀ k, k ≠ p.1 → ((∃ q ∈ lb, q.1 = k ∧ q.2.2 ∈ seen.push p.2.2) ↔ (∃ q ∈ lb, q.1 = k ∧ q.2.2 ∈ seen)) := by
                  intro k hk
                  constructor
                  · rintro ⟨q, hq, rfl, hs⟩
                    rcases Array.mem_push.1 hs with hs | hs
                    · exact ⟨q, hq, rfl, hs⟩
                    · exact (hk (by rw [Go.W.born_inj hml.wf.borns hq hp hs])).elim
                  · rintro ⟨q, hq, rfl, hs⟩
                    exact ⟨q, hq, rfl, Array.mem_push.2 (.inl hs)⟩
                have hself : ∃ q ∈ lb, q.1 = p.1 ∧ q.2.2 ∈ seen.push p.2.2 := ⟨p, hp, rfl, by simp⟩
                simp only [VS, VD, SV, SL, T, Nat.reduceEqDiff, Nat.reduceAdd, Nat.reduceSub, Nat.reduceMul, Nat.reduceLeDiff, Nat.reduceLT, reduceIte, f44]
                refine rV_entryM hit6 hml6 hp ?_
                simp only [VS, VD, SV, SL, T, Nat.reduceEqDiff, Nat.reduceAdd, Nat.reduceSub, Nat.reduceMul, Nat.reduceLeDiff, Nat.reduceLT, reduceIte, f7, hvb]
                refine rV_lookup T.me74 T.zr3 hr6 ?_
                rw [hgp]
                have hm := todo_lt hp hns
                have hrx : x ≠ .map (some r) := by
                  rintro rfl
                  have := hlb0.lt
                  have := (hE.trans hEx).size
                  omega
                have hset : ∀ (v : Int), jn (restr s rs.length m p.1) (restr s rs.length n p.1) = some v → ∀ w7, w7 = w6.putb r (.map (mk (mset ld cd p.1 (.int .i64 v)).1) (mset ld cd p.1 (.int .i64 v)).2) →
                    Ext w' w7 ∧ ItAt w7 w2.heap.size x clb (seen.push p.2.2) ∧ MapL w7 x lb clb ∧ ∃ ld cd, w7.heap[r]? = some (.map (mk ld) cd) ∧ MWF ld cd ∧ ∀ k, mget ld k = (if ∃ q ∈ lb, q.1 = k ∧ q.2.2 ∈ seen.push p.2.2 then jn (restr s rs.length m k) (restr s rs.length n k) else restr s rs.length m k).map (.int .i64 ·) := by
                  rintro v hv w7 rfl
                  obtain ⟨r0, e0, e1⟩ := hit6
                  refine ⟨hE6.putb (by omega) _, ⟨r0, e0, by rw [putb_get_ne (by omega)]; exact e1⟩, hml6.heap fun q hq => putb_get_ne (fun e => hrx (by rw [hq, e])) _, _, _, putb_get_same (get_lt hr6) _, hwd.set _ _, fun k => ?_⟩
                  rw [mget_mset]
                  by_cases hk : k = p.1
                  · subst hk; rw [if_pos rfl, if_pos hself, hv]; rfl
                  · rw [if_neg hk, hgd]
                    simp only [hiff k hk]
                cases hq : restr s rs.length m p.1 with
                | none =>
                  rw [hq, hnb] at hset
                  simp only [VS, VD, SV, SL, T, Nat.reduceEqDiff, Nat.reduceAdd, Nat.reduceSub, Nat.reduceMul, Nat.reduceLeDiff, Nat.reduceLT, reduceIte, Option.map_none, Option.getD_none, Option.isSome_none, f7]
                  refine rV_update (l := ld) (c := cd) T.me74 hr6 hwd.keys ?_
                  have qq := hset vb rfl _ rfl
                  generalize w6.putb r (.map (mk (mset ld cd p.1 (.int .i64 vb)).1) (mset ld cd p.1 (.int .i64 vb)).2) = w7 at qq ⊢
                  obtain ⟨q1, q2, q3, q4⟩ := qq
                  simp only [VS, VD, SV, SL, T, Nat.reduceEqDiff, Nat.reduceAdd, Nat.reduceSub, Nat.reduceMul, Nat.reduceLeDiff, Nat.reduceLT, reduceIte]
                  exact ⟨seen.push p.2.2, ⟨f2, f3, f4, f5, f6, f7, f32, f33, q1, f44, q2, q3, q4⟩, hm⟩
                | some va =>
                  rw [hq, hnb] at hset
                  simp only [VS, VD, SV, SL, T, Nat.reduceEqDiff, Nat.reduceAdd, Nat.reduceSub, Nat.reduceMul, Nat.reduceLeDiff, Nat.reduceLT, reduceIte, Option.map_some, Option.getD_some, Option.isSome_some, f7]
                  refine cnd_d (fun hlt => ?_) (fun hlt => ?_)
                  · simp only [VS, VD, SV, SL, T, Nat.reduceEqDiff, Nat.reduceAdd, Nat.reduceSub, Nat.reduceMul, Nat.reduceLeDiff, Nat.reduceLT, reduceIte, f7]
                    refine rV_update (l := ld) (c := cd) T.me74 hr6 hwd.keys ?_
                    have qq := hset vb (by simp only [jn, Option.some.injEq]; omega) _ rfl
                    generalize w6.putb r (.map (mk (mset ld cd p.1 (.int .i64 vb)).1) (mset ld cd p.1 (.int .i64 vb)).2) = w7 at qq ⊢
                    obtain ⟨q1, q2, q3, q4⟩ := qq
                    simp only [VS, VD, SV, SL, T, Nat.reduceEqDiff, Nat.reduceAdd, Nat.reduceSub, Nat.reduceMul, Nat.reduceLeDiff, Nat.reduceLT, reduceIte]
                    exact ⟨seen.push p.2.2, ⟨f2, f3, f4, f5, f6, f7, f32, f33, q1, f44, q2, q3, q4⟩, hm⟩
                  · simp only [VS, VD, SV, SL, T, Nat.reduceEqDiff, Nat.reduceAdd, Nat.reduceSub, Nat.reduceMul, Nat.reduceLeDiff, Nat.reduceLT, reduceIte]
                    refine ⟨seen.push p.2.2, ⟨f2, f3, f4, f5, f6, f7, f32, f33, hE6, f44, hit6, hml6, ld, cd, hr6, hwd, fun k => ?_⟩, hm⟩
                    by_cases hk : k = p.1
                    · subst hk
                      rw [if_pos hself, hgp, hq, hnb]
                      simp only [jn, Option.map_some, Option.some.injEq, Value.int.injEq, true_and]
                      omega
                    · rw [hgd]
                      simp only [hiff k hk]
          · rintro f w5 ⟨f2, f3, f4, f5, f6, f7, f32, f33, hE5, hmr⟩
            have hcs5 := hE5.obj hcs
            have hlc := get_lt hcs5
            simp only [VS, VD, SV, SL, T, Nat.reduceEqDiff, Nat.reduceAdd, Nat.reduceSub, Nat.reduceMul, Nat.reduceLeDiff, Nat.reduceLT, reduceIte, f5, f6, f7, f33, Int.toNat_natCast, hcs5, hsz]
            refine ⟨by omega, by omega, by omega, rs ++ [r], ⟨f2, f3, f4, f32, by simp, (hEx.trans hE5).putb (by omega) _, by simp; omega, cs.setIfInBounds rs.length (.map (some r)), putb_get_same hlc _, by simp [hsz], ?_, ?_⟩, by simp; omega⟩
            · rw [List.nodup_append]
              refine ⟨hnd, by simp, ?_⟩
              intro a ha b hb
              simp only [List.mem_singleton] at hb
              obtain ⟨j, hj, rfl⟩ := List.getElem_of_mem ha
              obtain ⟨_, _, _, _, hq, _⟩ := hall j rs[j] (List.getElem?_eq_getElem hj)
              have := get_lt hq
              omega
            · intro i r' hr'
              by_cases hi : i < rs.length
              · rw [List.getElem?_append_left hi] at hr'
                obtain ⟨e1, e2, e3⟩ := hall i r' hr'
                exact ⟨by rw [Array.getElem?_setIfInBounds_ne (by omega)]; exact e1, e2, (e3.ext hE5).heap (putb_get_ne (by omega) _)⟩
              · have hi2 : i = rs.length := by
                  have := (List.getElem?_eq_some_iff.1 hr').1
                  simp at this
                  omega
                subst hi2
                simp only [List.getElem?_concat_length, Option.some.injEq] at hr'
                subst hr'
                exact ⟨by rw [Array.getElem?_setIfInBounds, if_pos rfl, if_pos (by omega)], by omega, hmr.heap (putb_get_ne (by omega) _)⟩
        · simp only [VS, VD, SV, SL, T, Nat.reduceEqDiff, Nat.reduceAdd, Nat.reduceSub, Nat.reduceMul, Nat.reduceLeDiff, Nat.reduceLT, reduceIte, g2, g4, g5, stV]
          refine hΨ _ _ ⟨?_, hE.trans hEx⟩
          refine ⟨w0.heap.size, 0, s.toNat, rs.map fun r => .map (some r), rfl, by simp; omega, ?_⟩
          intro j x hx
          obtain ⟨r, hr, rfl⟩ := List.mem_map.1 (List.mem_of_getElem? hx)
          simp only [List.getElem?_map] at hx
          obtain ⟨r', hr', e5⟩ := Option.map_eq_some_iff.1 hx
          simp only [Value.map.injEq, Option.some.injEq] at e5
          subst e5
          obtain ⟨e1, e2, e3⟩ := hall j r' hr'
          exact ⟨by rw [cell_mk, hcs]; simpa using e1, e3.at⟩
set_option maxHeartbeats 1000000 in
set_option maxRecDepth 10000 in
/-- states that hold the same are equal -/
theorem Equal_spec (s y l : Int) (hv : Geo s y l = true) (M : Option (Int → Option Int)) (a b : Value) (w : World) (ha : MayAt w a s y l M) (hb : MayAt w b s y l M) :
    VRet Try.prog 19 #[a, b] w fun v w' => v = .bool true ∧ Ext w w' := by
  have hp := Geo_spec hv
  obtain ⟨u1, a1, n1, c1, rfl⟩ := ha.form
  obtain ⟨u2, a2, n2, c2, rfl⟩ := hb.form
  refine VRet_start T.mo ok19 rfl fun Ψ hΨ => ?_; simp only [vc19, rs19]
  simp only [VS, VD, SV, SL, T, Nat.reduceEqDiff, Nat.reduceAdd, Nat.reduceSub, Nat.reduceMul, Nat.reduceLeDiff, Nat.reduceLT, reduceIte, stV]
  have hE := ((Ext.refl w).alloc tomb).alloc tomb
  generalize (w.alloc tomb).alloc tomb = w0 at *
  cases M with
  | none =>
    have e1 : stV s y l u1 (.slice a1 n1 c1) = _ := ha
    have e2 : stV s y l u2 (.slice a2 n2 c2) = _ := hb
    simp only [stV, Value.agg.injEq, Array.mk.injEq, List.cons.injEq, Value.bool.injEq, Value.slice.injEq, true_and, and_true] at e1 e2
    obtain ⟨rfl, rfl, rfl, rfl⟩ := e1
    obtain ⟨rfl, rfl, rfl, rfl⟩ := e2
    simp only [VS, VD, SV, SL, T, Nat.reduceEqDiff, Nat.reduceAdd, Nat.reduceSub, Nat.reduceMul, Nat.reduceLeDiff, Nat.reduceLT, reduceIte, beq_self_eq_true]
    refine LoopP_intro (α := Unit) (fun _ f' w' => f' 25 = .int .i64 0 ∧ f' 26 = .int .i64 0 ∧ Ext w w') (fun _ => 0) () ?_ ?_
    · simp only [VS, VD, SV, SL, T, Nat.reduceEqDiff, Nat.reduceAdd, Nat.reduceSub, Nat.reduceMul, Nat.reduceLeDiff, Nat.reduceLT, reduceIte]
      exact ⟨rfl, hE⟩
    · rintro _ f' w' ⟨f25, f26, hEx⟩
      simp only [VS, VD, SV, SL, T, Nat.reduceEqDiff, Nat.reduceAdd, Nat.reduceSub, Nat.reduceMul, Nat.reduceLeDiff, Nat.reduceLT, reduceIte, f25, f26, Int.lt_irrefl]
      exact hΨ _ _ ⟨rfl, hEx⟩
  | some m =>
    have ha' : MayK w (stV s y l u1 (.slice a1 n1 c1)) s y l m := ha
    obtain ⟨ba, oa, ca, e1⟩ := ha'.form
    have hb' : MayK w (stV s y l u2 (.slice a2 n2 c2)) s y l m := hb
    obtain ⟨bb, ob, cb, e2⟩ := hb'.form
    simp only [stV, Value.agg.injEq, Array.mk.injEq, List.cons.injEq, Value.bool.injEq, Value.slice.injEq, true_and, and_true] at e1 e2
    obtain ⟨rfl, rfl, rfl, rfl⟩ := e1
    obtain ⟨rfl, rfl, rfl, rfl⟩ := e2
    simp only [VS, VD, SV, SL, T, Nat.reduceEqDiff, Nat.reduceAdd, Nat.reduceSub, Nat.reduceMul, Nat.reduceLeDiff, Nat.reduceLT, reduceIte, beq_self_eq_true]
    refine LoopP_intro (α := Nat) (fun i f' w' => f' 3 = stV s y l false (.slice (some ⟨bb, ob, none⟩) s.toNat c2) ∧ f' 24 = .slice (some ⟨ba, oa, none⟩) s.toNat c1 ∧ f' 25 = .int .i64 s.toNat ∧ f' 26 = .int .i64 i ∧ i ≤ s.toNat ∧ Ext w w') (fun i => s.toNat - i) 0 ?_ ?_
    · simp only [VS, VD, SV, SL, T, Nat.reduceEqDiff, Nat.reduceAdd, Nat.reduceSub, Nat.reduceMul, Nat.reduceLeDiff, Nat.reduceLT, reduceIte, stV]
      exact ⟨rfl, by omega, hE⟩
    · rintro i f' w' ⟨f3, f24, f25, f26, hile, hEx⟩
      simp only [VS, VD, SV, SL, T, Nat.reduceEqDiff, Nat.reduceAdd, Nat.reduceSub, Nat.reduceMul, Nat.reduceLeDiff, Nat.reduceLT, reduceIte, f25, f26]
      refine cnd_d (fun hlt => ?_) (fun hlt => ?_)
      · have hi : i < s.toNat := by omega
        obtain ⟨xa, csa, ea, fza, hba, hxa, hma⟩ := ha'.at hi
        obtain ⟨xb, csb, eb, fzb, hbb, hxb, hmb⟩ := hb'.at hi
        obtain ⟨la, cla, hla, hga⟩ := hma.list
        obtain ⟨lb, clb, hlb, hgb⟩ := hmb.list
        have hlen := mlen_eq hla.wf hlb.wf fun k => by rw [hga, hgb]
        have hba' := hEx.obj hba
        have hbb' := hEx.obj hbb
        simp only [VS, VD, SV, SL, T, Nat.reduceEqDiff, Nat.reduceAdd, Nat.reduceSub, Nat.reduceMul, Nat.reduceLeDiff, Nat.reduceLT, reduceIte, f24, f26, Int.toNat_natCast, hba', hxa]
        refine ⟨by omega, ?_⟩
        refine DW_intro (fun _ _ _ _ => True) ?_
        simp only [VS, VD, SV, SL, T, Nat.reduceEqDiff, Nat.reduceAdd, Nat.reduceSub, Nat.reduceMul, Nat.reduceLeDiff, Nat.reduceLT, reduceIte, f3, stV, Int.toNat_natCast, hbb', hxb, sLenM T.mp74 (hla.ext hEx), sLenM T.mp74 (hlb.ext hEx), hlen, not_true_eq_false]
        refine ⟨by omega, fun w1 hE1 _ => ?_⟩
        replace hE1 := hEx.trans hE1
        simp only [VS, VD, SV, SL, T, Nat.reduceEqDiff, Nat.reduceAdd, Nat.reduceSub, Nat.reduceMul, Nat.reduceLeDiff, Nat.reduceLT, reduceIte, sLenM T.mp74 (hlb.ext hE1), hlen, not_true_eq_false]
        refine rV_rangeM T.mp74 (hla.ext hE1) fun w3 hs3 hit3 hsame3 hext3 => ?_
        simp only [VS, VD, SV, SL, T, Nat.reduceEqDiff, Nat.reduceAdd, Nat.reduceSub, Nat.reduceMul, Nat.reduceLeDiff, Nat.reduceLT, reduceIte]
        refine LoopP_intro (α := Array Nat) (fun seen f w5 => f 3 = stV s y l false (.slice (some ⟨bb, ob, none⟩) s.toNat c2) ∧ f 5 = .int .i64 i ∧ f 24 = .slice (some ⟨ba, oa, none⟩) s.toNat c1 ∧ f 25 = .int .i64 s.toNat ∧ f 26 = .int .i64 i ∧
          f 41 = .pointer (some ⟨w1.heap.size, 0, none⟩) ∧ Ext w w5 ∧ ItAt w5 w1.heap.size xa cla seen) (fun seen => (todo la seen).length) #[] ?_ ?_
        · simp only [VS, VD, SV, SL, T, Nat.reduceEqDiff, Nat.reduceAdd, Nat.reduceSub, Nat.reduceMul, Nat.reduceLeDiff, Nat.reduceLT, reduceIte, f3, f24, f25, f26]
          exact ⟨hext3 _ hE1, hit3⟩
        · rintro seen f w5 ⟨f3, f5, f24, f25, f26, f41, hE5, hit⟩
          simp only [VS, VD, SV, SL, T, Nat.reduceEqDiff, Nat.reduceAdd, Nat.reduceSub, Nat.reduceMul, Nat.reduceLeDiff, Nat.reduceLT, reduceIte, f41]
          refine rV_nextM hit (hla.ext hE5) (fun hall => ?_) (fun p hp hns w6 hit6 hsame6 hext6 => ?_)
          · simp only [VS, VD, SV, SL, T, Nat.reduceEqDiff, Nat.reduceAdd, Nat.reduceSub, Nat.reduceMul, Nat.reduceLeDiff, Nat.reduceLT, reduceIte, f26]
            exact ⟨by omega, i + 1, ⟨f3, f24, f25, by simp, by omega, hE5⟩, by omega⟩
          · have hE6 := hext6 _ hE5 hE1.size
            obtain ⟨vb, hvb, hnb⟩ : ∃ vb, p.2.1 = .int .i64 vb ∧ restr s i m p.1 = some vb := by
              have h3 := mget_mem hla.wf.keys hp
              rw [hga] at h3
              obtain ⟨vb, q1, q2⟩ := Option.map_eq_some_iff.1 h3
              exact ⟨vb, q2.symm, q1⟩
            simp only [VS, VD, SV, SL, T, Nat.reduceEqDiff, Nat.reduceAdd, Nat.reduceSub, Nat.reduceMul, Nat.reduceLeDiff, Nat.reduceLT, reduceIte, f41]
            refine rV_entryM hit6 (hla.ext hE6) hp ?_
            simp only [VS, VD, SV, SL, T, Nat.reduceEqDiff, Nat.reduceAdd, Nat.reduceSub, Nat.reduceMul, Nat.reduceLeDiff, Nat.reduceLT, reduceIte, f3, f5, stV, hvb, Int.toNat_natCast, hE6.obj hbb, hxb]
            refine ⟨by omega, rV_lookupM T.me74 T.zr3 (hlb.ext hE6) ?_⟩
            rw [hgb, hnb]
            simp only [VS, VD, SV, SL, T, Nat.reduceEqDiff, Nat.reduceAdd, Nat.reduceSub, Nat.reduceMul, Nat.reduceLeDiff, Nat.reduceLT, reduceIte, Option.map_some, Option.getD_some, Option.isSome_some, not_true_eq_false]
            exact ⟨seen.push p.2.2, ⟨by rw [f3]; rfl, f5, f24, f25, f26, f41, hE6, hit6⟩, todo_lt hp hns⟩
      · simp only [VS, VD, SV, SL, T, Nat.reduceEqDiff, Nat.reduceAdd, Nat.reduceSub, Nat.reduceMul, Nat.reduceLeDiff, Nat.reduceLT, reduceIte]
        exact hΨ _ _ ⟨rfl, hEx⟩
end Go.Proofs.Ytndkadphpbnpeaa

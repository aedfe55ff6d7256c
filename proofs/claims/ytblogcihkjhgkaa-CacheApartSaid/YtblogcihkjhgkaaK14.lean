/-
  The reference's Contents and Age; CachePlays.
-/
import Derived.Test.YtblogcihkjhgkaaK13
set_option linter.unusedSimpArgs false
set_option linter.unusedVariables false
namespace Go.Proofs.Ytblogcihkjhgkaa
open Go.W Go.RowKit
abbrev IntO (base : Nat) (w : World) (v : Value) (L : List Int) : Prop := w.ownsRow base 3 1 v L.length (iv L)
theorem app_int {w : World} {κ : Value → World → Prop} {base : Nat} {v : Value} {L : List Int} (hown : IntO base w v L) (hn : L.length + 1 ≤ 1000000) (hb : base ≤ w.heap.size) (a : Int)
    (h : ∀ v' w', IntO base w' v' (L ++ [a]) → w.grownBy w' v.ownBlock → (∀ b, v'.ownBlock = some b → v.ownBlock = some b ∨ w.heap.size ≤ b) → κ v' w') :
    RunV Try.prog (w.alloc (.cells #[.int .i64 a] 3 (0, 0))) κ (Builtin.append_ #[32, 32] 32 #[v, .slice (some ⟨w.heap.size, 0, none⟩) 1 1]) := by
  refine rV_append (ty := 32) T.el32 T.sz3 T.by3 T.zr3 rfl (by omega) (hown.alloc (.cells #[.int .i64 a] 3 (0, 0))) (news := [.int .i64 a]) (by simp) ?_ ?_ ?_ ?_ ?_ ?_
  · intro j u hu
    rw [add_mk, cell_mk, alloc_get_new]
    simpa using hu
  · intro u hu
    simp only [List.mem_singleton] at hu
    subst hu; rfl
  · unfold maxLen; omega
  · omega
  · rw [alloc_size]; omega
  · intro v' w' ho hg hnew
    refine h v' w' ?_ (grown_trans (World.grownBy_alloc w _ _) hg) ?_
    · have e : iv (L ++ [a]) = iv L ++ [.int .i64 a] := by simp
      show w'.ownsRow base _ 1 v' (L ++ [a]).length (iv (L ++ [a]))
      rw [e, List.length_append]
      exact ho
    · intro b hb
      rcases hnew with e | e
      · exact .inl (e ▸ hb)
      · rw [e] at hb
        simp only [Option.some.injEq, alloc_size] at hb
        exact .inr (by omega)
theorem own_chg {w w' : World} {F : Nat → Prop} {base : Nat} {e : TypeId} {sz : Nat} {v : Value} {n : Nat} {xs : List Value} (h : w.ownsRow base e sz v n xs) (hC : Chg F w w') (hF : ∀ b, v.ownBlock = some b → ¬ F b) : w'.ownsRow base e sz v n xs := by
  have hlt := h.lt
  obtain ⟨h1, h2⟩ := h
  refine ⟨h1, ?_⟩
  rcases h2 with h2 | ⟨g, cap, cur, rfl, q1, q2, q3⟩
  · exact .inl h2
  · exact .inr ⟨g, cap, cur, rfl, q1, (hC.get g (hlt g rfl).2 (hF g rfl)).trans q2, q3⟩
theorem Chg.of_grown {w w' : World} {row : Option Nat} (h : w.grownBy w' row) : Chg (fun b => row = some b) w w' := ⟨h.os, h.tape, h.output, h.size, fun b hb hn => h.block b hb (fun e => hn e.symm)⟩
/-- the history of a set, from the lines of all accesses in their order -/
def hof (s : Int) (hs : List Int) : Nat → List Int := fun i => (hs.filter fun n => decide ((n % s).toNat = i)).reverse
theorem hof_snoc {s l : Int} (hs : List Int) {a : Int} (ha : 0 ≤ a) : hof s (hs ++ [a / l]) = addH s l (hof s hs) a := by
  funext i
  simp only [hof, addH, List.filter_append, List.reverse_append]
  by_cases e : ((a / l) % s).toNat = i
  · simp [e, ha]
  · simp [e]
theorem dst_snoc (P : List Int) (x : Int) : dst (P ++ [x]) = dst P ++ if x ∈ P then [] else [x] := by
  rw [dst_append]
  congr 1
  by_cases h : x ∈ P <;> simp [dst, h]
set_option maxRecDepth 100000 in
theorem Contents_spec {s y l : Int} (hg : Geo s y l = true) (v : Value) (hs : List Int) (hl : hs.length ≤ 1000) (h0 : ∀ n ∈ hs, 0 ≤ n) (i : Nat) (w : World) (hv : IntsAt w v hs) :
    VRet Try.prog 30 #[cfgV s y l, v, .int .i64 i] w fun v w' => IntsAt w' v ((dst (hof s hs i)).take y.toNat) ∧ Ext w w' := by
  have hgs := Geo_spec hg
  obtain ⟨av, cv, rfl⟩ := hv.form
  refine VRet_start T.mo ok30 rfl fun Ψ hΨ => ?_; simp only [vc30, rs30]
  simp only [VS, VD, SV, SL, T, Nat.reduceEqDiff, Nat.reduceAdd, Nat.reduceSub, Nat.reduceMul, Nat.reduceLeDiff, Nat.reduceLT, reduceIte, cfgV]
  refine ⟨by omega, ?_⟩
  refine LoopP_intro (α := Nat) (fun j f' w' => f' 1 = .slice av hs.length cv ∧ f' 2 = .int .i64 i ∧ f' 3 = .agg #[.int .i64 s, .int .i64 y, .int .i64 l] ∧ f' 8 = .int .i64 ((hs.length : Int) - 1 - j) ∧ j ≤ hs.length ∧ Ext w w' ∧
    (dst (hof s (hs.drop (hs.length - j)) i)).length ≤ y.toNat ∧ IntO w.heap.size w' (f' 7) (dst (hof s (hs.drop (hs.length - j)) i))) (fun j => hs.length + 1 - j) 0 ?_ ?_
  · simp only [VS, VD, SV, SL, T, Nat.reduceEqDiff, Nat.reduceAdd, Nat.reduceSub, Nat.reduceMul, Nat.reduceLeDiff, Nat.reduceLT, reduceIte]
    refine ⟨by simp, Nat.zero_le _, (Ext.refl w).alloc _, by simp [hof, dst], ?_⟩
    simp only [Nat.sub_zero, List.drop_length, hof, List.filter_nil, List.reverse_nil, dst]
    exact World.ownsRow_nil _ _ _ _
  · rintro j f' w' ⟨f1, f2, f3, f8, hj, hEx, hlen, ho⟩
    simp only [VS, VD, SV, SL, T, Nat.reduceEqDiff, Nat.reduceAdd, Nat.reduceSub, Nat.reduceMul, Nat.reduceLeDiff, Nat.reduceLT, reduceIte, f8]
    by_cases hjl : j < hs.length
    · rw [decide_eq_true (show (0 : Int) ≤ (hs.length : Int) - 1 - j by omega)]
      obtain ⟨a7, c7, e7⟩ := own_form ho
      simp only [VS, VD, SV, SL, T, Nat.reduceEqDiff, Nat.reduceAdd, Nat.reduceSub, Nat.reduceMul, Nat.reduceLeDiff, Nat.reduceLT, reduceIte, e7, f3]
      obtain ⟨ix, hix⟩ : ∃ ix : Nat, hs.length = ix + 1 + j := ⟨hs.length - 1 - j, by omega⟩
      have e10 : (hs.length : Int) - 1 - j = ix := by omega
      rw [e10] at f8
      have hixl : ix < hs.length := by omega
      have hdrop : hs.drop (hs.length - (j + 1)) = hs[ix] :: hs.drop (hs.length - j) := by
        rw [show hs.length - (j + 1) = ix by omega, show hs.length - j = ix + 1 by omega]
        exact List.drop_eq_getElem_cons hixl
      have hx0 := h0 _ (List.getElem_mem hixl)
      have hcat : hs = hs.take ix ++ (hs[ix] :: hs.drop (hs.length - j)) := by
        rw [← hdrop, show hs.length - (j + 1) = ix by omega, List.take_append_drop]
      generalize hQ : hof s (hs.drop (hs.length - j)) i = Q at *
      refine cnd_d (fun hq => ?_) (fun hq => ?_)
      · obtain ⟨b, off, cs, e, fz, rfl, _, hb, hc⟩ := (hv.ext hEx).get (i := ix) (x := hs[ix]) (by simp [hixl])
        generalize hx : hs[ix] = x at *
        simp only [VS, VD, SV, SL, T, Nat.reduceEqDiff, Nat.reduceAdd, Nat.reduceSub, Nat.reduceMul, Nat.reduceLeDiff, Nat.reduceLT, reduceIte, f1, f8, hb, Int.toNat_natCast, hc, f3]
        refine ⟨by omega, ?_⟩
        refine (rSet_spec s y l x _).mono ?_
        rintro _ w2 ⟨rfl, hE2⟩
        rw [setOf_eq hg hx0]
        simp only [VS, VD, SV, SL, T, Nat.reduceEqDiff, Nat.reduceAdd, Nat.reduceSub, Nat.reduceMul, Nat.reduceLeDiff, Nat.reduceLT, reduceIte, f2]
        have hm0 := Int.emod_nonneg x (show s ≠ 0 by omega)
        refine cnd_d (fun hne => ?_) (fun hne => ?_)
        · have hQ' : hof s (hs.drop (hs.length - (j + 1))) i = Q := by
            rw [hdrop]
            simp only [hof] at hQ ⊢
            rw [List.filter_cons, if_neg (by simp; omega)]
            exact hQ
          simp only [VS, VD, SV, SL, T, Nat.reduceEqDiff, Nat.reduceAdd, Nat.reduceSub, Nat.reduceMul, Nat.reduceLeDiff, Nat.reduceLT, reduceIte, f8]
          refine ⟨by omega, j + 1, ⟨f1, f2, f3, by congr 1; omega, by omega, hEx.trans hE2, ?_, ?_⟩, by omega⟩
          · rw [hQ']; exact hlen
          · rw [hQ']; exact own_ext ho hE2
        · have hQ' : hof s (hs.drop (hs.length - (j + 1))) i = Q ++ [x] := by
            rw [hdrop]
            simp only [hof] at hQ ⊢
            rw [List.filter_cons, if_pos (by simp; omega), List.reverse_cons, hQ]
          have hdS := dst_snoc Q x
          rw [← hQ'] at hdS
          simp only [VS, VD, SV, SL, T, Nat.reduceEqDiff, Nat.reduceAdd, Nat.reduceSub, Nat.reduceMul, Nat.reduceLeDiff, Nat.reduceLT, reduceIte]
          refine LoopP_intro (α := Nat) (fun k g w' => g 1 = .slice (some ⟨b, off, none⟩) hs.length cv ∧ g 2 = .int .i64 i ∧ g 3 = .agg #[.int .i64 s, .int .i64 y, .int .i64 l] ∧ g 7 = .slice a7 (dst Q).length c7 ∧ g 8 = .int .i64 ix ∧ g 9 = .int .i64 x ∧ g 10 = .bool (decide (x ∈ (dst Q).take k)) ∧ g 11 = .int .i64 k ∧ k ≤ (dst Q).length ∧ w' = w2) (fun k => (dst Q).length - k) 0 ?_ ?_
          · simp only [VS, VD, SV, SL, T, Nat.reduceEqDiff, Nat.reduceAdd, Nat.reduceSub, Nat.reduceMul, Nat.reduceLeDiff, Nat.reduceLT, reduceIte, f1, f2, f3, e7, f8]
            exact ⟨by simp, rfl, Nat.zero_le _⟩
          · have ho2 := own_ext ho hE2
            have hi2 := own_ints ho2
            rw [e7] at hi2
            rintro k g _ ⟨g1, g2, g3, g7, g8, g9, g10, g11, hk, rfl⟩
            simp only [VS, VD, SV, SL, T, Nat.reduceEqDiff, Nat.reduceAdd, Nat.reduceSub, Nat.reduceMul, Nat.reduceLeDiff, Nat.reduceLT, reduceIte, g11, g7]
            refine cnd_d (fun hlt => ?_) (fun hlt => ?_)
            · have hk' : k < (dst Q).length := by omega
              obtain ⟨b9, off9, cs9, e9, fz9, rfl, _, hb9, hc9⟩ := hi2.get (i := k) (x := (dst Q)[k]) (by simp [hk'])
              have htk : (dst Q).take (k + 1) = (dst Q).take k ++ [(dst Q)[k]] := List.take_succ_eq_append_getElem hk'
              simp only [VS, VD, SV, SL, T, Nat.reduceEqDiff, Nat.reduceAdd, Nat.reduceSub, Nat.reduceMul, Nat.reduceLeDiff, Nat.reduceLT, reduceIte, g11, g7, hb9, Int.toNat_natCast, hc9, g9]
              refine ⟨by omega, cnd_d (fun hq2 => ?_) (fun hq2 => ?_)⟩
              · simp only [VS, VD, SV, SL, T, Nat.reduceEqDiff, Nat.reduceAdd, Nat.reduceSub, Nat.reduceMul, Nat.reduceLeDiff, Nat.reduceLT, reduceIte, g11]
                exact ⟨by omega, k + 1, ⟨g1, g2, g3, g7, g8, g9, by rw [htk, decide_eq_true]; simp [hq2], by simp, by omega⟩, by omega⟩
              · simp only [VS, VD, SV, SL, T, Nat.reduceEqDiff, Nat.reduceAdd, Nat.reduceSub, Nat.reduceMul, Nat.reduceLeDiff, Nat.reduceLT, reduceIte, g11]
                refine ⟨by omega, k + 1, ⟨g1, g2, g3, g7, g8, g9, ?_, by simp, by omega⟩, by omega⟩
                rw [g10, htk]
                congr 1
                rw [decide_eq_decide, List.mem_append]
                constructor
                · exact .inl
                · rintro (h | h)
                  · exact h
                  · simp only [List.mem_singleton] at h; exact (hq2 h.symm).elim
            · rw [List.take_of_length_le (by omega)] at g10
              simp only [VS, VD, SV, SL, T, Nat.reduceEqDiff, Nat.reduceAdd, Nat.reduceSub, Nat.reduceMul, Nat.reduceLeDiff, Nat.reduceLT, reduceIte, g10]
              by_cases hm : x ∈ Q
              · rw [decide_eq_true (mem_dst.2 hm)]
                rw [if_pos hm, List.append_nil] at hdS
                simp only [VS, VD, SV, SL, T, Nat.reduceEqDiff, Nat.reduceAdd, Nat.reduceSub, Nat.reduceMul, Nat.reduceLeDiff, Nat.reduceLT, reduceIte, g8]
                refine ⟨by omega, j + 1, ⟨g1, g2, g3, by congr 1; omega, by omega, hEx.trans hE2, ?_, ?_⟩, by omega⟩
                · rw [hdS]; exact hlen
                · rw [hdS, g7, ← e7]; exact ho2
              · rw [decide_eq_false (fun h => hm (mem_dst.1 h))]
                rw [if_neg hm] at hdS
                simp only [VS, VD, SV, SL, T, Nat.reduceEqDiff, Nat.reduceAdd, Nat.reduceSub, Nat.reduceMul, Nat.reduceLeDiff, Nat.reduceLT, reduceIte, g7, g9]
                rw [← e7]
                refine app_int ho2 (by omega) (hEx.trans hE2).size x ?_
                intro v' w3 ho3 hg3 _
                simp only [VS, VD, SV, SL, T, Nat.reduceEqDiff, Nat.reduceAdd, Nat.reduceSub, Nat.reduceMul, Nat.reduceLeDiff, Nat.reduceLT, reduceIte, g8]
                refine ⟨by omega, j + 1, ⟨g1, g2, g3, by congr 1; omega, by omega, (hEx.trans hE2).grownO ho2 (Nat.le_refl _) hg3, ?_, ?_⟩, by omega⟩
                · rw [hdS]; simp; omega
                · rw [hdS]; exact ho3
      · simp only [VS, VD, SV, SL, T, Nat.reduceEqDiff, Nat.reduceAdd, Nat.reduceSub, Nat.reduceMul, Nat.reduceLeDiff, Nat.reduceLT, reduceIte, e7]
        rw [← e7]
        refine hΨ _ _ ⟨?_, hEx⟩
        have : dst (hof s hs i) = dst Q ++ (dst (hof s (hs.take ix ++ [hs[ix]]) i)).filter (fun x => !Q.contains x) := by
          rw [← dst_append]
          congr 1
          have e1 : hs = (hs.take ix ++ [hs[ix]]) ++ hs.drop (hs.length - j) := by rw [List.append_assoc]; exact hcat
          rw [← hQ, show hof s hs i = hof s ((hs.take ix ++ [hs[ix]]) ++ hs.drop (hs.length - j)) i from congrArg (fun z => hof s z i) e1]
          simp only [hof]
          rw [List.filter_append, List.reverse_append]
        rw [this, List.take_append_of_le_length (by omega), List.take_of_length_le (by omega)]
        exact own_ints ho
    · rw [decide_eq_false (show ¬ (0 : Int) ≤ (hs.length : Int) - 1 - j by omega)]
      simp only [VS, VD, SV, SL, T, Nat.reduceEqDiff, Nat.reduceAdd, Nat.reduceSub, Nat.reduceMul, Nat.reduceLeDiff, Nat.reduceLT, reduceIte]
      refine hΨ _ _ ⟨?_, hEx⟩
      rw [show hs.length - j = 0 by omega, List.drop_zero] at hlen ho
      rw [List.take_of_length_le hlen]
      exact own_ints ho
set_option maxRecDepth 100000 in
theorem rAge_spec {s y l : Int} (hg : Geo s y l = true) (v : Value) (hs : List Int) (hl : hs.length ≤ 1000) (h0 : ∀ n ∈ hs, 0 ≤ n) (n : Int) (hn : 0 ≤ n) (w : World) (hv : IntsAt w v hs) :
    VRet Try.prog 28 #[cfgV s y l, v, .int .i64 n] w fun v w' => v = .int .i64 (idxI ((dst (hof s hs (n % s).toNat)).take y.toNat) n) ∧ Ext w w' := by
  have hgs := Geo_spec hg
  refine VRet_start T.mo ok28 rfl fun Ψ hΨ => ?_; simp only [vc28, rs28]
  simp only [VS, VD, SV, SL, T, Nat.reduceEqDiff, Nat.reduceAdd, Nat.reduceSub, Nat.reduceMul, Nat.reduceLeDiff, Nat.reduceLT, reduceIte, cfgV]
  refine DW_intro (fun _ _ v _ => v = .int .i64 ((n % s).toNat : Nat)) ?_
  simp only [VS, VD, SV, SL, T, Nat.reduceEqDiff, Nat.reduceAdd, Nat.reduceSub, Nat.reduceMul, Nat.reduceLeDiff, Nat.reduceLT, reduceIte]
  refine rY_ph rfl rfl (fun _ _ _ h _ => h) (fun w8 hE8 _ => ?_) ?_
  · simp only [VS, VD, SV, SL, T, Nat.reduceEqDiff, Nat.reduceAdd, Nat.reduceSub, Nat.reduceMul, Nat.reduceLeDiff, Nat.reduceLT, reduceIte]
    refine (rSet_spec s y l n _).mono ?_
    rintro _ w9 ⟨rfl, hE9⟩
    have := Int.emod_nonneg n (show s ≠ 0 by omega)
    exact ⟨hE9, by rw [setOf_eq hg hn]; congr 1; omega⟩
  rintro _ ⟨_, _, _, rfl⟩
  simp only [VS, VD, SV, SL, T, Nat.reduceEqDiff, Nat.reduceAdd, Nat.reduceSub, Nat.reduceMul, Nat.reduceLeDiff, Nat.reduceLT, reduceIte]
  intro w2 hE2 _
  simp only [VS, VD, SV, SL, T, Nat.reduceEqDiff, Nat.reduceAdd, Nat.reduceSub, Nat.reduceMul, Nat.reduceLeDiff, Nat.reduceLT, reduceIte]
  refine (Contents_spec hg v hs hl h0 _ w2 (hv.ext (((Ext.refl w).alloc tomb).trans hE2))).mono ?_
  rintro v3 w3 ⟨hC, hE3⟩
  have hE := (((Ext.refl w).alloc tomb).trans hE2).trans hE3
  have hle : ((dst (hof s hs (n % s).toNat)).take y.toNat).length ≤ y.toNat := List.length_take_le ..
  generalize (dst (hof s hs (n % s).toNat)).take y.toNat = D at *
  obtain ⟨a, c, rfl⟩ := hC.form
  simp only [VS, VD, SV, SL, T, Nat.reduceEqDiff, Nat.reduceAdd, Nat.reduceSub, Nat.reduceMul, Nat.reduceLeDiff, Nat.reduceLT, reduceIte]
  refine LoopP_intro (α := Nat) (fun k g w' => g 2 = .int .i64 n ∧ g 7 = .slice a D.length c ∧ g 8 = .int .i64 k ∧ k ≤ D.length ∧ w' = w3 ∧ n ∉ D.take k) (fun k => D.length - k) 0 ?_ ?_
  · simp only [VS, VD, SV, SL, T, Nat.reduceEqDiff, Nat.reduceAdd, Nat.reduceSub, Nat.reduceMul, Nat.reduceLeDiff, Nat.reduceLT, reduceIte]
    exact ⟨rfl, Nat.zero_le _, by simp⟩
  · rintro k g _ ⟨g2, g7, g8, hk, rfl, hm⟩
    simp only [VS, VD, SV, SL, T, Nat.reduceEqDiff, Nat.reduceAdd, Nat.reduceSub, Nat.reduceMul, Nat.reduceLeDiff, Nat.reduceLT, reduceIte, g8, g7]
    refine cnd_d (fun hlt => ?_) (fun hlt => ?_)
    · have hk' : k < D.length := by omega
      obtain ⟨b9, off9, cs9, e9, fz9, rfl, _, hb9, hc9⟩ := hC.get (i := k) (x := D[k]) (by simp [hk'])
      simp only [VS, VD, SV, SL, T, Nat.reduceEqDiff, Nat.reduceAdd, Nat.reduceSub, Nat.reduceMul, Nat.reduceLeDiff, Nat.reduceLT, reduceIte, g8, g7, hb9, Int.toNat_natCast, hc9, g2]
      refine ⟨by omega, cnd_d (fun hq2 => ?_) (fun hq2 => ?_)⟩
      · simp only [VS, VD, SV, SL, T, Nat.reduceEqDiff, Nat.reduceAdd, Nat.reduceSub, Nat.reduceMul, Nat.reduceLeDiff, Nat.reduceLT, reduceIte, g8]
        refine hΨ _ _ ⟨?_, hE⟩
        rw [idxI, idxOf?_take hk' hm hq2]
      · simp only [VS, VD, SV, SL, T, Nat.reduceEqDiff, Nat.reduceAdd, Nat.reduceSub, Nat.reduceMul, Nat.reduceLeDiff, Nat.reduceLT, reduceIte, g8]
        refine ⟨by omega, k + 1, ⟨g2, g7, by simp, by omega, ?_⟩, by omega⟩
        rw [List.take_succ_eq_append_getElem hk', List.mem_append]
        rintro (h | h)
        · exact hm h
        · simp only [List.mem_singleton] at h; exact hq2 h.symm
    · simp only [VS, VD, SV, SL, T, Nat.reduceEqDiff, Nat.reduceAdd, Nat.reduceSub, Nat.reduceMul, Nat.reduceLeDiff, Nat.reduceLT, reduceIte]
      refine hΨ _ _ ⟨?_, hE⟩
      rw [List.take_of_length_le (by omega)] at hm
      have : D.idxOf? n = none := by rw [List.idxOf?_eq_none_iff]; exact hm
      rw [idxI, this]
set_option maxRecDepth 100000 in
theorem CachePlays_spec (s y l : Int) (v : Value) (xs : List Int) (w : World) (hv : IntsAt w v xs) (hM : xs.length ≤ maxLen ∧ ∀ n ∈ xs, -9223372036854775808 ≤ n ∧ n ≤ 9223372036854775807) :
    VRet Try.prog 9 #[cfgV s y l, v] w fun v w' => v = .bool true ∧ Ext w w' := by
  have hlen : xs.length ≤ 9223372036854775807 := by have := hM.1; simp only [maxLen] at this; omega
  obtain ⟨av, cv, rfl⟩ := hv.form
  refine VRet_start T.mo ok9 rfl fun Ψ hΨ => ?_; simp only [vc9, rs9]
  simp only [VS, VD, SV, SL, T, Nat.reduceEqDiff, Nat.reduceAdd, Nat.reduceSub, Nat.reduceMul, Nat.reduceLeDiff, Nat.reduceLT, reduceIte, cfgV]
  refine (awake_spec _).mono ?_
  rintro _ w1 ⟨rfl, hE1⟩
  replace hE1 := ((Ext.refl w).alloc tomb).trans hE1
  simp only [VS, VD, SV, SL, T, Nat.reduceEqDiff, Nat.reduceAdd, Nat.reduceSub, Nat.reduceMul, Nat.reduceLeDiff, Nat.reduceLT, reduceIte]
  refine (New_spec s y l w1).mono ?_
  rintro v2 w2 h2
  have hE2 : Ext w w2 := by rcases h2 with ⟨_, _, h⟩ | ⟨_, p, _, _, h⟩ <;> exact hE1.trans h
  rcases h2 with ⟨hg, rfl, _⟩ | ⟨hg, p, rfl, hC, _⟩
  · simp only [VS, VD, SV, SL, T, Nat.reduceEqDiff, Nat.reduceAdd, Nat.reduceSub, Nat.reduceMul, Nat.reduceLeDiff, Nat.reduceLT, reduceIte]
    refine (great_spec _ xs hlen w2 (hv.ext hE2)).mono ?_
    rintro _ w3 ⟨rfl, hE3⟩
    have hE := hE2.trans hE3
    by_cases hgr : xs.length > 200 ∨ ∃ x ∈ xs, x > 100000
    · rw [decide_eq_true hgr]
      simp only [VS, VD, SV, SL, T, Nat.reduceEqDiff, Nat.reduceAdd, Nat.reduceSub, Nat.reduceMul, Nat.reduceLeDiff, Nat.reduceLT, reduceIte]
      exact hΨ _ _ ⟨rfl, hE⟩
    · rw [decide_eq_false hgr]
      simp only [VS, VD, SV, SL, T, Nat.reduceEqDiff, Nat.reduceAdd, Nat.reduceSub, Nat.reduceMul, Nat.reduceLeDiff, Nat.reduceLT, reduceIte]
      refine cnd_d (fun _ => ?_) (fun h => by exfalso; omega)
      simp only [VS, VD, SV, SL, T, Nat.reduceEqDiff, Nat.reduceAdd, Nat.reduceSub, Nat.reduceMul, Nat.reduceLeDiff, Nat.reduceLT, reduceIte]
      exact hΨ _ _ ⟨rfl, hE⟩
  simp only [VS, VD, SV, SL, T, Nat.reduceEqDiff, Nat.reduceAdd, Nat.reduceSub, Nat.reduceMul, Nat.reduceLeDiff, Nat.reduceLT, reduceIte]
  refine (great_spec _ xs hlen w2 (hv.ext hE2)).mono ?_
  rintro _ w3 ⟨rfl, hE3⟩
  have hE := hE2.trans hE3
  by_cases hgr : xs.length > 200 ∨ ∃ x ∈ xs, x > 100000
  · rw [decide_eq_true hgr]
    simp only [VS, VD, SV, SL, T, Nat.reduceEqDiff, Nat.reduceAdd, Nat.reduceSub, Nat.reduceMul, Nat.reduceLeDiff, Nat.reduceLT, reduceIte]
    exact hΨ _ _ ⟨rfl, hE⟩
  rw [decide_eq_false hgr]
  obtain ⟨hxl, hxb⟩ := not_great hgr
  have hgs := Geo_spec hg
  simp only [VS, VD, SV, SL, T, Nat.reduceEqDiff, Nat.reduceAdd, Nat.reduceSub, Nat.reduceMul, Nat.reduceLeDiff, Nat.reduceLT, reduceIte, ne_eq, not_true_eq_false, decide_false]
  rw [show List.replicate s.toNat [] = stS s y fun _ => [] from emp_stS s y] at hC
  replace hC := hC.ext hE3
  refine LoopP_intro (α := Nat) (fun i f' w' => f' 2 = .agg #[.int .i64 s, .int .i64 y, .int .i64 l] ∧ f' 5 = ptr p ∧ f' 28 = .slice av xs.length cv ∧ f' 29 = .int .i64 xs.length ∧ f' 30 = .int .i64 i ∧ i ≤ xs.length ∧ Ext w w' ∧
    ∃ hs F, hs.length ≤ i ∧ (∀ n ∈ hs, 0 ≤ n) ∧ IntO w.heap.size w' (f' 7) hs ∧ CacheAt w' F p s y l (stS s y (hof s hs)) ∧ (∀ b, F b → w.heap.size ≤ b) ∧ (∀ b, (f' 7).ownBlock = some b → ¬ F b)) (fun i => xs.length - i) 0 ?_ ?_
  · simp only [VS, VD, SV, SL, T, Nat.reduceEqDiff, Nat.reduceAdd, Nat.reduceSub, Nat.reduceMul, Nat.reduceLeDiff, Nat.reduceLT, reduceIte]
    refine ⟨rfl, Nat.zero_le _, hE, [], _, by simp, by simp, World.ownsRow_nil _ _ _ _, hC, fun b hb => Nat.le_trans hE1.size hb.1, by simp [Value.ownBlock]⟩
  · rintro i f' wo ⟨f2, f5, f28, f29, f30, hi, hEx, hs, F, hhl, hh0, ho, hC, hF, hd⟩
    simp only [VS, VD, SV, SL, T, Nat.reduceEqDiff, Nat.reduceAdd, Nat.reduceSub, Nat.reduceMul, Nat.reduceLeDiff, Nat.reduceLT, reduceIte, f30, f29]
    refine cnd_d (fun hlt => ?_) (fun hlt => ?_)
    · have hi' : i < xs.length := by omega
      obtain ⟨b5, off5, cs5, e5, fz5, rfl, _, hb5, hc5⟩ := (hv.ext hEx).get (i := i) (x := xs[i]) (by simp [hi'])
      have hxr := hM.2 _ (List.getElem_mem hi')
      generalize hx : xs[i] = x at *
      simp only [VS, VD, SV, SL, T, Nat.reduceEqDiff, Nat.reduceAdd, Nat.reduceSub, Nat.reduceMul, Nat.reduceLeDiff, Nat.reduceLT, reduceIte, f30, f28, hb5, Int.toNat_natCast, hc5]
      refine ⟨by omega, cnd_d (fun hq => ?_) (fun hq => ?_)⟩
      · simp only [VS, VD, SV, SL, T, Nat.reduceEqDiff, Nat.reduceAdd, Nat.reduceSub, Nat.reduceMul, Nat.reduceLeDiff, Nat.reduceLT, reduceIte, f5]
        refine (Flush_mv hC).mono ?_
        rintro v6 w6 ⟨F6, hC6, hm6⟩
        simp only [VS, VD, SV, SL, T, Nat.reduceEqDiff, Nat.reduceAdd, Nat.reduceSub, Nat.reduceMul, Nat.reduceLeDiff, Nat.reduceLT, reduceIte, f30]
        exact ⟨by omega, i + 1, ⟨f2, f5, f28, f29, by simp, by omega, hm6.ext hEx hF, [], F6, by simp, by simp, World.ownsRow_nil _ _ _ _, hC6, hm6.above hEx.size hF, by simp [Value.ownBlock]⟩, by omega⟩
      · simp only [VS, VD, SV, SL, T, Nat.reduceEqDiff, Nat.reduceAdd, Nat.reduceSub, Nat.reduceMul, Nat.reduceLeDiff, Nat.reduceLT, reduceIte]
        refine cnd_d (fun hneg => ?_) (fun hneg => ?_)
        · simp only [VS, VD, SV, SL, T, Nat.reduceEqDiff, Nat.reduceAdd, Nat.reduceSub, Nat.reduceMul, Nat.reduceLeDiff, Nat.reduceLT, reduceIte, f5]
          have hno : hitS s l (stS s y (hof s hs)) x = false := by rw [hitS_stS hg]; exact decide_eq_false fun h => by omega
          refine (Probe_spec hC x hxr.2).mono ?_
          rintro _ w6 ⟨rfl, hE6⟩
          rw [hno]
          simp only [VS, VD, SV, SL, T, Nat.reduceEqDiff, Nat.reduceAdd, Nat.reduceSub, Nat.reduceMul, Nat.reduceLeDiff, Nat.reduceLT, reduceIte, f5]
          refine (Access_neg (hC.ext hE6) x hneg).mono ?_
          rintro _ w7 ⟨rfl, hE7⟩
          simp only [VS, VD, SV, SL, T, Nat.reduceEqDiff, Nat.reduceAdd, Nat.reduceSub, Nat.reduceMul, Nat.reduceLeDiff, Nat.reduceLT, reduceIte, f30]
          exact ⟨by omega, i + 1, ⟨f2, f5, f28, f29, by simp, by omega, (hEx.trans hE6).trans hE7, hs, F, by omega, hh0, own_ext ho (hE6.trans hE7), hC.ext (hE6.trans hE7), hF, hd⟩, by omega⟩
        · have hx0 : 0 ≤ x := by omega
          have hxl0 : 0 ≤ x / l := Int.ediv_nonneg hx0 (by omega)
          simp only [VS, VD, SV, SL, T, Nat.reduceEqDiff, Nat.reduceAdd, Nat.reduceSub, Nat.reduceMul, Nat.reduceLeDiff, Nat.reduceLT, reduceIte, f2]
          refine (rLine_spec s y l x hxr.2 _).mono ?_
          rintro _ w6 ⟨rfl, hE6⟩
          have hline : lineOf s y l x = x / l := by simp [lineOf, hg, hx0]
          rw [hline]
          simp only [VS, VD, SV, SL, T, Nat.reduceEqDiff, Nat.reduceAdd, Nat.reduceSub, Nat.reduceMul, Nat.reduceLeDiff, Nat.reduceLT, reduceIte, f2]
          refine (rAge_spec hg _ hs (by omega) hh0 (x / l) hxl0 w6 (own_ints (own_ext ho hE6))).mono ?_
          rintro _ w7 ⟨rfl, hE7⟩
          have hE67 := hE6.trans hE7
          have hhit : hitS s l (stS s y (hof s hs)) x = decide (0 ≤ idxI ((dst (hof s hs ((x / l) % s).toNat)).take y.toNat) (x / l)) := by
            rw [hitS_stS hg, decide_eq_decide, idxI_mem]
            exact ⟨fun h => h.2, fun h => ⟨hx0, h⟩⟩
          have hC7 := hC.ext hE67
          simp only [VS, VD, SV, SL, T, Nat.reduceEqDiff, Nat.reduceAdd, Nat.reduceSub, Nat.reduceMul, Nat.reduceLeDiff, Nat.reduceLT, reduceIte, f5]
          rw [← hhit]
          refine (Probe_spec hC7 x hxr.2).mono ?_
          rintro _ w8 ⟨rfl, hE8⟩
          simp only [VS, VD, SV, SL, T, Nat.reduceEqDiff, Nat.reduceAdd, Nat.reduceSub, Nat.reduceMul, Nat.reduceLeDiff, Nat.reduceLT, reduceIte, f5, beq_self_eq_true, Bool.not_true]
          refine (Access_mv hg (hC7.ext hE8) x hxr.2).mono ?_
          rintro _ w9 ⟨rfl, F9, hC9, hm9⟩
          have hE9 := hm9.ext (hEx.trans (hE67.trans hE8)) hF
          have ho9 := own_chg (own_ext ho (hE67.trans hE8)) hm9.1 hd
          have hd9 : ∀ b, (f' 7).ownBlock = some b → ¬ F9 b := by
            intro b hb hf
            rcases hm9.2 b hf with h | h
            · exact hd b hb h
            · have := ((own_ext ho (hE67.trans hE8)).lt b hb).2
              omega
          rw [← hof_snoc hs hx0] at hC9
          have hD : (dst (hof s (hs ++ [x / l]) ((x / l) % s).toNat)).take y.toNat = x / l :: ((dst (hof s hs ((x / l) % s).toNat)).filter (· != x / l)).take (y.toNat - 1) := by
            rw [hof_snoc hs hx0]
            simp only [addH, hx0, true_and, if_true, dst]
            obtain ⟨k, hk⟩ : ∃ k, y.toNat = k + 1 := ⟨y.toNat - 1, by omega⟩
            rw [hk, List.take_succ_cons, Nat.add_sub_cancel]
          have h1 : hitS s l (stS s y (hof s (hs ++ [x / l]))) x = true := by
            rw [hitS_stS hg, hD]
            exact decide_eq_true ⟨hx0, by simp⟩
          have h2 : ageS s y l (stS s y (hof s (hs ++ [x / l]))) (x / l) = 0 := by
            rw [ageS, if_pos hxl0, stS_getD (set_lt hg)]
            exact idxI_take (i := 0) (nodup_take _ _) (by rw [hD]; rfl)
          simp only [VS, VD, SV, SL, T, Nat.reduceEqDiff, Nat.reduceAdd, Nat.reduceSub, Nat.reduceMul, Nat.reduceLeDiff, Nat.reduceLT, reduceIte, f5, beq_self_eq_true, Bool.not_true]
          refine (Probe_spec hC9 x hxr.2).mono ?_
          rintro _ w10 ⟨rfl, hE10⟩
          rw [h1]
          simp only [VS, VD, SV, SL, T, Nat.reduceEqDiff, Nat.reduceAdd, Nat.reduceSub, Nat.reduceMul, Nat.reduceLeDiff, Nat.reduceLT, reduceIte, f5, Bool.not_true]
          refine (Age_spec (hC9.ext hE10) (x / l)).mono ?_
          rintro _ w11 ⟨rfl, hE11⟩
          rw [h2]
          have hE1011 := hE10.trans hE11
          have ho11 := own_ext ho9 hE1011
          simp only [VS, VD, SV, SL, T, Nat.reduceEqDiff, Nat.reduceAdd, Nat.reduceSub, Nat.reduceMul, Nat.reduceLeDiff, Nat.reduceLT, reduceIte, ne_eq, not_true_eq_false, decide_false]
          refine app_int ho11 (by omega) (hE9.trans hE1011).size (x / l) ?_
          intro v' w12 ho12 hg12 hnew
          simp only [VS, VD, SV, SL, T, Nat.reduceEqDiff, Nat.reduceAdd, Nat.reduceSub, Nat.reduceMul, Nat.reduceLeDiff, Nat.reduceLT, reduceIte, f30]
          refine ⟨by omega, i + 1, ⟨f2, f5, f28, f29, by simp, by omega, (hE9.trans hE1011).grownO ho11 (Nat.le_refl _) hg12, hs ++ [x / l], F9, by simp; omega, ?_, ho12, ?_, hm9.above (hEx.trans (hE67.trans hE8)).size hF, ?_⟩, by omega⟩
          · intro n hn
            rcases List.mem_append.1 hn with h | h
            · exact hh0 n h
            · simp only [List.mem_singleton] at h; omega
          · exact (hC9.ext hE1011).chg (Chg.of_grown hg12) (fun b hb e => hd9 b e hb)
          · intro b hb hf
            rcases hnew b hb with h | h
            · exact hd9 b h hf
            · have := (hC9.ext hE1011).lt b hf; omega
    · simp only [VS, VD, SV, SL, T, Nat.reduceEqDiff, Nat.reduceAdd, Nat.reduceSub, Nat.reduceMul, Nat.reduceLeDiff, Nat.reduceLT, reduceIte, f5]
      refine (Lines_spec hC).mono ?_
      rintro v4 w4 ⟨hL, hE4⟩
      obtain ⟨a4, c4, rfl⟩ := hL.form
      rw [stS_len]
      rw [stS_len] at hL
      have ho4 := own_ints (own_ext ho hE4)
      simp only [VS, VD, SV, SL, T, Nat.reduceEqDiff, Nat.reduceAdd, Nat.reduceSub, Nat.reduceMul, Nat.reduceLeDiff, Nat.reduceLT, reduceIte, f2]
      refine cnd_d (fun h => by exfalso; omega) (fun _ => ?_)
      simp only [VS, VD, SV, SL, T, Nat.reduceEqDiff, Nat.reduceAdd, Nat.reduceSub, Nat.reduceMul, Nat.reduceLeDiff, Nat.reduceLT, reduceIte]
      generalize hf7 : f' 7 = v7 at *
      refine LoopP_intro (α := Nat) (fun j g w' => g 2 = .agg #[.int .i64 s, .int .i64 y, .int .i64 l] ∧ g 7 = v7 ∧ g 94 = .slice a4 s.toNat c4 ∧ g 95 = .int .i64 s.toNat ∧ g 96 = .int .i64 j ∧ j ≤ s.toNat ∧ Ext w4 w') (fun j => s.toNat - j) 0 ?_ ?_
      · simp only [VS, VD, SV, SL, T, Nat.reduceEqDiff, Nat.reduceAdd, Nat.reduceSub, Nat.reduceMul, Nat.reduceLeDiff, Nat.reduceLT, reduceIte, f2, hf7]
        exact ⟨rfl, Nat.zero_le _, Ext.refl _⟩
      · rintro j g w5 ⟨g2, g7, g94, g95, g96, hj, hE5⟩
        simp only [VS, VD, SV, SL, T, Nat.reduceEqDiff, Nat.reduceAdd, Nat.reduceSub, Nat.reduceMul, Nat.reduceLeDiff, Nat.reduceLT, reduceIte, g96, g95]
        refine cnd_d (fun hlt2 => ?_) (fun hlt2 => ?_)
        · have hj' : j < s.toNat := by omega
          obtain ⟨b5, off5, cs5, e5, fz5, u5, rfl, _, hb5, hc5, hu5⟩ := (hL.ext hE5).get (stS_get (H := hof s hs) (y := y) hj')
          simp only [VS, VD, SV, SL, T, Nat.reduceEqDiff, Nat.reduceAdd, Nat.reduceSub, Nat.reduceMul, Nat.reduceLeDiff, Nat.reduceLT, reduceIte, g96, g94, hb5, Int.toNat_natCast, hc5, g2, g7]
          refine ⟨by omega, ?_⟩
          refine (Contents_spec hg v7 hs (by omega) hh0 j w5 (ho4.ext hE5)).mono ?_
          rintro v6 w6 ⟨hC6, hE6⟩
          simp only [VS, VD, SV, SL, T, Nat.reduceEqDiff, Nat.reduceAdd, Nat.reduceSub, Nat.reduceMul, Nat.reduceLeDiff, Nat.reduceLT, reduceIte]
          have hle : ((dst (hof s hs j)).take y.toNat).length ≤ y.toNat := List.length_take_le ..
          refine (Ints_spec u5 v6 _ _ (by omega) w6 (hu5.ext hE6) hC6).mono ?_
          rintro _ w7 ⟨rfl, hE7⟩
          rw [decide_eq_true rfl]
          simp only [VS, VD, SV, SL, T, Nat.reduceEqDiff, Nat.reduceAdd, Nat.reduceSub, Nat.reduceMul, Nat.reduceLeDiff, Nat.reduceLT, reduceIte, g96, Bool.not_true]
          exact ⟨by omega, j + 1, ⟨g2, g7, g94, g95, by simp, by omega, (hE5.trans hE6).trans hE7⟩, by omega⟩
        · simp only [VS, VD, SV, SL, T, Nat.reduceEqDiff, Nat.reduceAdd, Nat.reduceSub, Nat.reduceMul, Nat.reduceLeDiff, Nat.reduceLT, reduceIte]
          exact hΨ _ _ ⟨rfl, (hEx.trans hE4).trans hE5⟩
end Go.Proofs.Ytblogcihkjhgkaa

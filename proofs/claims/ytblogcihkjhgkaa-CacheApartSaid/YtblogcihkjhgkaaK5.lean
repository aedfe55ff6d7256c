/-
  New, Lines.
-/
import Derived.Test.YtblogcihkjhgkaaK4
set_option linter.unusedSimpArgs false
set_option linter.unusedVariables false
namespace Go.Proofs.Ytblogcihkjhgkaa
open Go.W Go.RowKit
set_option maxRecDepth 100000 in
theorem New_spec (s y l : Int) (w : World) : VRet Try.prog 12 #[cfgV s y l] w fun v w' =>
    (Geo s y l = false ∧ v = .tuple #[.pointer none, .int .i64 1] ∧ Ext w w') ∨
    (Geo s y l = true ∧ ∃ p, v = .tuple #[ptr p, .int .i64 0] ∧ CacheAt w' (fun b => w.heap.size ≤ b ∧ b < w'.heap.size) p s y l (List.replicate s.toNat []) ∧ Ext w w') := by
  refine VRet_start T.mo ok12 rfl fun Ψ hΨ => ?_; simp only [vc12, rs12]
  simp only [VS, VD, SV, SL, T, Nat.reduceEqDiff, Nat.reduceAdd, Nat.reduceSub, Nat.reduceMul, Nat.reduceLeDiff, Nat.reduceLT, reduceIte, cfgV]
  refine (Valid_spec s y l _).mono ?_
  rintro _ w1 ⟨rfl, hE1⟩
  replace hE1 := ((Ext.refl w).alloc tomb).trans hE1
  simp only [VS, VD, SV, SL, T, Nat.reduceEqDiff, Nat.reduceAdd, Nat.reduceSub, Nat.reduceMul, Nat.reduceLeDiff, Nat.reduceLT, reduceIte]
  refine cnd_b (fun hq => ?_) (fun hq => ?_)
  · simp only [VS, VD, SV, SL, T, Nat.reduceEqDiff, Nat.reduceAdd, Nat.reduceSub, Nat.reduceMul, Nat.reduceLeDiff, Nat.reduceLT, reduceIte]
    simp only [Bool.not_eq_true'] at hq
    exact hΨ _ _ (.inl ⟨hq, rfl, hE1⟩)
  · simp only [Bool.not_eq_false'] at hq
    simp only [VS, VD, SV, SL, T, Nat.reduceEqDiff, Nat.reduceAdd, Nat.reduceSub, Nat.reduceMul, Nat.reduceLeDiff, Nat.reduceLT, reduceIte]
    refine DW_intro (fun _ _ v w' => ∃ b, w.heap.size ≤ b ∧ v = .slice (some ⟨b, 0, none⟩) s.toNat s.toNat ∧ w'.heap[b]? = some (.cells (List.replicate s.toNat (Value.slice none 0 0)).toArray 32 (0, 0))) ?_
    simp only [VS, VD, SV, SL, T, Nat.reduceEqDiff, Nat.reduceAdd, Nat.reduceSub, Nat.reduceMul, Nat.reduceLeDiff, Nat.reduceLT, reduceIte]
    have hgs := Geo_spec hq
    refine rY_ph rfl rfl ?_ ?_ ?_
    · rintro v w' w'' ⟨b, q1, q2, q3⟩ hE
      exact ⟨b, q1, q2, hE.obj q3⟩
    · intro w' hE' _
      simp only [VS, VD, SV, SL, T, Nat.reduceEqDiff, Nat.reduceAdd, Nat.reduceSub, Nat.reduceMul, Nat.reduceLeDiff, Nat.reduceLT, reduceIte]
      refine ⟨by omega, (Ext.refl _).alloc _, w'.heap.size, Nat.le_trans hE1.size hE'.size, rfl, ?_⟩
      rw [if_pos rfl]
      simp
    · rintro v ⟨w', hE', hF, b, hb, rfl, hb3⟩
      simp only [VS, VD, SV, SL, T, Nat.reduceEqDiff, Nat.reduceAdd, Nat.reduceSub, Nat.reduceMul, Nat.reduceLeDiff, Nat.reduceLT, reduceIte]
      intro w2 hE2 hF2
      obtain ⟨b', _, e1, hrow⟩ := FA_head hF2
      simp only [Value.slice.injEq, Option.some.injEq, Addr.mk.injEq, and_true] at e1
      subst e1
      have hEw2 := hE1.trans hE2
      simp only [VS, VD, SV, SL, T, Nat.reduceEqDiff, Nat.reduceAdd, Nat.reduceSub, Nat.reduceMul, Nat.reduceLeDiff, Nat.reduceLT, reduceIte]
      have hblt := get_lt hrow
      refine hΨ _ _ (.inr ⟨hq, w2.heap.size, rfl, ⟨b, List.replicate s.toNat (.slice none 0 0), hq, alloc_get_new _ _, ?_, by omega, ⟨by have := hEw2.size; omega, by simp⟩, ⟨hb, by simp; omega⟩, fun _ h => h.2, by simp, by simp, ?_, ?_, ?_, ?_⟩, hEw2.alloc _⟩)
      · rw [alloc_get_lt hblt]; exact hrow
      · intro li hli; rw [(List.mem_replicate.1 hli).2]; simp
      · intro i v li h1 h2
        rw [(List.mem_replicate.1 (List.mem_of_getElem? h1)).2, (List.mem_replicate.1 (List.mem_of_getElem? h2)).2]
        exact World.ownsRow_nil _ _ _ _
      · intro i v b0 h1 h2
        rw [(List.mem_replicate.1 (List.mem_of_getElem? h1)).2] at h2
        cases h2
      · intro i j v u b0 _ h1 _ h2
        rw [(List.mem_replicate.1 (List.mem_of_getElem? h1)).2] at h2
        cases h2
theorem own_zero {w : World} {base : Nat} {e : TypeId} {v : Value} {n : Nat} {xs : List Value} (h : w.ownsRow base e 1 v n xs) : w.ownsRow 0 e 1 v n xs := by
  obtain ⟨h1, h2⟩ := h
  refine ⟨h1, ?_⟩
  rcases h2 with h2 | ⟨g, cap, cur, q0, q1, q2⟩
  · exact .inl h2
  · exact .inr ⟨g, cap, cur, q0, Nat.zero_le _, q2⟩
set_option maxRecDepth 100000 in
theorem Lines_spec {F : Nat → Prop} {p : Nat} {s y l : Int} {L : List (List Int)} {w : World} (h : CacheAt w F p s y l L) : VRet Try.prog 24 #[ptr p] w fun v w' => IntssAt w' v L ∧ Ext w w' := by
  obtain ⟨q, vs, h⟩ := h
  have hgs := Geo_spec h.geo
  have hobj := h.obj
  refine VRet_start T.mo ok24 rfl fun Ψ hΨ => ?_; simp only [vc24, rs24]
  have hpne : ¬ (p = w.heap.size) := by have := get_lt hobj; omega
  have z0 : #[Value.slice none 0 0][0]! = Value.slice none 0 0 := rfl
  simp only [VS, VD, SV, SL, T, Nat.reduceEqDiff, Nat.reduceAdd, Nat.reduceSub, Nat.reduceMul, Nat.reduceLeDiff, Nat.reduceLT, reduceIte, hobj, Option.isNone_some, hpne, Int.toNat_natCast, z0]
  refine ⟨by omega, ?_⟩
  refine LoopP_intro (α := Nat) (fun i f' w' => f' 3 = .slice (some ⟨w.heap.size, 0, none⟩) s.toNat s.toNat ∧ f' 17 = .slice (some ⟨q, 0, none⟩) s.toNat s.toNat ∧ f' 18 = .int .i64 s.toNat ∧ f' 19 = .int .i64 i ∧ i ≤ s.toNat ∧ Ext w w' ∧
    ∃ us : List Value, us.length = s.toNat ∧ w'.heap[w.heap.size]? = some (.cells us.toArray 32 (0, 0)) ∧ ∀ j, j < i → ∀ li, L[j]? = some li → ∃ u, us[j]? = some u ∧ w'.ownsRow 0 3 1 u li.length (iv li) ∧ some w.heap.size ≠ u.ownBlock) (fun i => s.toNat - i) 0 ?_ ?_
  · simp only [VS, VD, SV, SL, T, Nat.reduceEqDiff, Nat.reduceAdd, Nat.reduceSub, Nat.reduceMul, Nat.reduceLeDiff, Nat.reduceLT, reduceIte]
    refine ⟨rfl, by omega, (Ext.refl w).alloc _, List.replicate s.toNat (.slice none 0 0), by simp, by simp, fun j hj => by omega⟩
  · rintro i f' w' ⟨f3, f17, f18, f19, hi, hE, us, hul, hur, hus⟩
    simp only [VS, VD, SV, SL, T, Nat.reduceEqDiff, Nat.reduceAdd, Nat.reduceSub, Nat.reduceMul, Nat.reduceLeDiff, Nat.reduceLT, reduceIte, f19, f18]
    refine cnd_d (fun hlt => ?_) (fun hlt => ?_)
    · have hlt' : i < s.toNat := by omega
      have h' := h.ext hE
      obtain ⟨v, li, hv, hva, hL, ho, hw, hw8⟩ := h'.at hlt'
      have hrow := h'.row
      have hi0 : (0 : Int) ≤ i := by omega
      simp only [VS, VD, SV, SL, T, Nat.reduceEqDiff, Nat.reduceAdd, Nat.reduceSub, Nat.reduceMul, Nat.reduceLeDiff, Nat.reduceLT, reduceIte, f19, f17, f3, hrow, hva, hlt, hi0, Int.toNat_natCast, Nat.zero_add, Nat.mul_one, and_self]
      refine (CloneI_spec v li (by omega) w' (own_ints ho)).mono ?_
      rintro v' w2 ⟨ho', hE2⟩
      have hur2 := hE2.obj hur
      have cl : v'.cells = #[v'] := by
        obtain ⟨a1, c1, e1⟩ := own_form ho'
        rw [e1]; rfl
      have one1 : one v' = true := by
        obtain ⟨a1, c1, e1⟩ := own_form ho'
        rw [e1]; rfl
      simp only [VS, VD, SV, SL, T, Nat.reduceEqDiff, Nat.reduceAdd, Nat.reduceSub, Nat.reduceMul, Nat.reduceLeDiff, Nat.reduceLT, reduceIte, f19, f17, f3, hur2, hlt, hi0, Int.toNat_natCast, Nat.zero_add, Nat.mul_one, and_self, cl]
      have hEn := hE.trans hE2
      have hrs : some w.heap.size ≠ v'.ownBlock := fun e => by
        have h1 := (ho'.lt _ e.symm).1
        have := get_lt hur
        omega
      have eset : spl us.toArray i [v'] = (us.set i v').toArray := by
        show (us.toArray.setIfInBounds i v') = _
        simp
      refine ⟨⟨by omega, by simp [one1]⟩, by omega, i + 1, ⟨f18, by simp, by omega, hEn.putb (Nat.le_refl _) _, us.set i v', by simp [hul], ?_, ?_⟩, by omega⟩
      · rw [if_pos (get_lt hur2)]
      · intro j hj lj hlj
        by_cases hij : i = j
        · subst hij
          rw [hL] at hlj
          simp only [Option.some.injEq] at hlj
          subst hlj
          exact ⟨v', List.getElem?_set_self (by omega), own_putb (own_zero ho') hrs _, hrs⟩
        · obtain ⟨u, hu1, hu2, hu3⟩ := hus j (by omega) lj hlj
          exact ⟨u, by rw [List.getElem?_set_ne hij]; exact hu1, own_putb (own_ext hu2 hE2) hu3 _, hu3⟩
    · simp only [VS, VD, SV, SL, T, Nat.reduceEqDiff, Nat.reduceAdd, Nat.reduceSub, Nat.reduceMul, Nat.reduceLeDiff, Nat.reduceLT, reduceIte, f3]
      refine hΨ _ _ ⟨.inr ⟨w.heap.size, 0, s.toNat, by rw [h.len], fun j li hj => ?_⟩, hE⟩
      have hjl : j < s.toNat := by have := (List.getElem?_eq_some_iff.1 hj).1; rw [h.len] at this; exact this
      obtain ⟨u, hu1, hu2, hu3⟩ := hus j (by omega) li hj
      refine ⟨u, ?_, own_ints hu2⟩
      rw [cell_mk, hur, Nat.zero_add]
      simpa using hu1
end Go.Proofs.Ytblogcihkjhgkaa

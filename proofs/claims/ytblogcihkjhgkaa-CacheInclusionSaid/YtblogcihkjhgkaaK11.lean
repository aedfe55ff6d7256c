/-
  Lines in memory of the call's own; Clone; misses; a cache that moves.
-/
import Derived.Test.YtblogcihkjhgkaaKQ
set_option linter.unusedSimpArgs false
set_option linter.unusedVariables false
namespace Go.Proofs.Ytblogcihkjhgkaa
open Go.W Go.RowKit
/-- a cache's footprint may grow by new blocks; what lies outside of it is as it was -/
def Mv (F : Nat → Prop) (w : World) (F' : Nat → Prop) (w' : World) : Prop := Chg F w w' ∧ ∀ b, F' b → F b ∨ w.heap.size ≤ b
theorem Mv.refl (F : Nat → Prop) (w : World) : Mv F w F w := ⟨Chg.of_ext (Ext.refl w), fun _ h => .inl h⟩
theorem Mv.of_ext {F : Nat → Prop} {w w' : World} (h : Ext w w') : Mv F w F w' := ⟨Chg.of_ext h, fun _ h => .inl h⟩
theorem Mv.trans {F F' F'' : Nat → Prop} {w w' w'' : World} (h : Mv F w F' w') (k : Mv F' w' F'' w'') : Mv F w F'' w'' :=
  ⟨h.1.trans k.1 h.2, fun b hb => by
    rcases k.2 b hb with q | q
    · exact h.2 b q
    · exact .inr (Nat.le_trans h.1.size q)⟩
theorem Mv.nw {F : Nat → Prop} {w w' : World} (h : Chg F w w') : Mv F w (Nw F w w') w' := ⟨h, fun b hb => hb.elim .inl fun h => .inr h.1⟩
theorem Mv.ext {F F' : Nat → Prop} {w0 w w' : World} (hE : Ext w0 w) (h : Mv F w F' w') (hF : ∀ b, F b → w0.heap.size ≤ b) : Ext w0 w' := h.1.ext hE hF
theorem Mv.above {F F' : Nat → Prop} {w w' : World} (h : Mv F w F' w') {n : Nat} (hn : n ≤ w.heap.size) (hF : ∀ b, F b → n ≤ b) : ∀ b, F' b → n ≤ b := fun b hb => (h.2 b hb).elim (hF b) (Nat.le_trans hn)
/-- another cache, apart from it, stays, and stays apart -/
theorem Mv.other {F F' G : Nat → Prop} {w w' : World} (h : Mv F w F' w') {p : Nat} {s y l : Int} {L : List (List Int)} (hC : CacheAt w G p s y l L) (hd : ∀ b, G b → ¬ F b) : CacheAt w' G p s y l L ∧ ∀ b, G b → ¬ F' b :=
  ⟨hC.chg h.1 hd, fun b hb hf => (h.2 b hf).elim (hd b hb) fun hle => by have := hC.lt b hb; omega⟩
/-- integers that lie outside of the cache stay -/
theorem Mv.ints {F F' : Nat → Prop} {w0 w w' : World} (hE : Ext w0 w) (h : Mv F w F' w') (hF : ∀ b, F b → w0.heap.size ≤ b) {v : Value} {xs : List Int} (hv : IntsAt w0 v xs) : IntsAt w' v xs := hv.ext (h.ext hE hF)
theorem Access_mv {F : Nat → Prop} {p : Nat} {s y l : Int} {H : Nat → List Int} {w : World} (hg : Geo s y l = true) (h : CacheAt w F p s y l (stS s y H)) (a : Int) (ha63 : a ≤ 9223372036854775807) :
    VRet Try.prog 23 #[ptr p, .int .i64 a] w fun v w' => v = .bool (hitS s l (stS s y H) a) ∧ ∃ F', CacheAt w' F' p s y l (stS s y (addH s l H a)) ∧ Mv F w F' w' := by
  refine (Access_any h a ha63).mono ?_
  rintro v w' ⟨rfl, h1, h2⟩
  rw [accS_stS hg] at h1
  exact ⟨rfl, _, h1, Mv.nw h2⟩
theorem Flush_mv {F : Nat → Prop} {p : Nat} {s y l : Int} {L : List (List Int)} {w : World} (h : CacheAt w F p s y l L) :
    VRet Try.prog 22 #[ptr p] w fun v w' => ∃ F', CacheAt w' F' p s y l (stS s y fun _ => []) ∧ Mv F w F' w' := by
  refine (Flush_spec h).mono ?_
  rintro v w' ⟨h1, h2⟩
  rw [show List.replicate s.toNat [] = stS s y fun _ => [] from emp_stS s y] at h1
  exact ⟨_, h1, Mv.nw h2⟩
/-- the lists of all sets in rows above a bound, apart from each other -/
def OwnLs (n : Nat) (w' : World) (s : Int) (L : List (List Int)) (v : Value) : Prop := ∃ (q : Nat) (us : List Value), v = .slice (some ⟨q, 0, none⟩) s.toNat s.toNat ∧ n ≤ q ∧
    us.length = s.toNat ∧ w'.heap[q]? = some (.cells us.toArray 32 (0, 0)) ∧ (∀ (i : Nat) u li, us[i]? = some u → L[i]? = some li → w'.ownsRow 0 3 1 u li.length (iv li)) ∧
    (∀ (i : Nat) u b, us[i]? = some u → u.ownBlock = some b → n ≤ b ∧ b < w'.heap.size ∧ b ≠ q) ∧ (∀ (i j : Nat) u u' b, i ≠ j → us[i]? = some u → us[j]? = some u' → u.ownBlock = some b → u'.ownBlock ≠ some b)
set_option maxRecDepth 100000 in
theorem Lines_own {F : Nat → Prop} {p : Nat} {s y l : Int} {L : List (List Int)} {w : World} (h : CacheAt w F p s y l L) : VRet Try.prog 24 #[ptr p] w fun v w' => Ext w w' ∧ OwnLs w.heap.size w' s L v := by
  obtain ⟨q, vs, h⟩ := h
  have hgs := Geo_spec h.geo
  have hobj := h.obj
  refine VRet_start T.mo ok24 rfl fun Ψ hΨ => ?_; simp only [vc24, rs24]
  have hpne : ¬ (p = w.heap.size) := by have := get_lt hobj; omega
  have z0 : #[Value.slice none 0 0][0]! = Value.slice none 0 0 := rfl
  simp only [VS, VD, SV, SL, T, Nat.reduceEqDiff, Nat.reduceAdd, Nat.reduceSub, Nat.reduceMul, Nat.reduceLeDiff, Nat.reduceLT, reduceIte, hobj, Option.isNone_some, hpne, Int.toNat_natCast, z0]
  refine ⟨by omega, ?_⟩
  refine LoopP_intro (α := Nat) (fun i f' w' => f' 3 = .slice (some ⟨w.heap.size, 0, none⟩) s.toNat s.toNat ∧ f' 17 = .slice (some ⟨q, 0, none⟩) s.toNat s.toNat ∧ f' 18 = .int .i64 s.toNat ∧ f' 19 = .int .i64 i ∧ i ≤ s.toNat ∧ Ext w w' ∧
    ∃ us : List Value, us.length = s.toNat ∧ w'.heap[w.heap.size]? = some (.cells us.toArray 32 (0, 0)) ∧ (∀ j, j < i → ∀ u li, us[j]? = some u → L[j]? = some li → w'.ownsRow 0 3 1 u li.length (iv li)) ∧
      (∀ j, i ≤ j → j < s.toNat → us[j]? = some (.slice none 0 0)) ∧ (∀ (j : Nat) u b, us[j]? = some u → u.ownBlock = some b → w.heap.size < b ∧ b < w'.heap.size) ∧
      (∀ (i j : Nat) u u' b, i ≠ j → us[i]? = some u → us[j]? = some u' → u.ownBlock = some b → u'.ownBlock ≠ some b)) (fun i => s.toNat - i) 0 ?_ ?_
  · simp only [VS, VD, SV, SL, T, Nat.reduceEqDiff, Nat.reduceAdd, Nat.reduceSub, Nat.reduceMul, Nat.reduceLeDiff, Nat.reduceLT, reduceIte]
    refine ⟨rfl, by omega, (Ext.refl w).alloc _, List.replicate s.toNat (.slice none 0 0), by simp, by simp, fun j hj => by omega, fun j _ hj => by simp [hj], ?_, ?_⟩
    · intro j u b h1 h2
      rw [(List.mem_replicate.1 (List.mem_of_getElem? h1)).2] at h2
      cases h2
    · intro i j u u' b _ h1 _ h2
      rw [(List.mem_replicate.1 (List.mem_of_getElem? h1)).2] at h2
      cases h2
  · rintro i f' w' ⟨f3, f17, f18, f19, hi, hE, us, hul, hur, hus, hun, hub, hua⟩
    simp only [VS, VD, SV, SL, T, Nat.reduceEqDiff, Nat.reduceAdd, Nat.reduceSub, Nat.reduceMul, Nat.reduceLeDiff, Nat.reduceLT, reduceIte, f19, f18]
    refine cnd_d (fun hlt => ?_) (fun hlt => ?_)
    · have hlt' : i < s.toNat := by omega
      have h' := h.ext hE
      obtain ⟨v, li, hv, hva, hL, ho, hw, hw8⟩ := h'.at hlt'
      have hrow := h'.row
      have hi0 : (0 : Int) ≤ i := by omega
      simp only [VS, VD, SV, SL, T, Nat.reduceEqDiff, Nat.reduceAdd, Nat.reduceSub, Nat.reduceMul, Nat.reduceLeDiff, Nat.reduceLT, reduceIte, f19, f17, f3, hrow, hva, hlt, hi0, Int.toNat_natCast, Nat.zero_add, Nat.mul_one, and_self]
      refine (CloneI_spec v li (by omega) w' (own_ints ho)).mono ?_
      rintro v' w2 ⟨ho', hE2⟩
      have hur2 := hE2.obj hur
      have cl : v'.cells = #[v'] := by
        obtain ⟨a1, c1, e1⟩ := own_form ho'
        rw [e1]; rfl
      have one1 : one v' = true := by
        obtain ⟨a1, c1, e1⟩ := own_form ho'
        rw [e1]; rfl
      simp only [VS, VD, SV, SL, T, Nat.reduceEqDiff, Nat.reduceAdd, Nat.reduceSub, Nat.reduceMul, Nat.reduceLeDiff, Nat.reduceLT, reduceIte, f19, f17, f3, hur2, hlt, hi0, Int.toNat_natCast, Nat.zero_add, Nat.mul_one, and_self, cl]
      have hEn := hE.trans hE2
      have hwlt := get_lt hur
      have hnew : ∀ b, v'.ownBlock = some b → w'.heap.size ≤ b ∧ b < w2.heap.size := fun b hb => ho'.lt b hb
      have hrs : some w.heap.size ≠ v'.ownBlock := fun e => by have := hnew _ e.symm; omega
      have eset : spl us.toArray i [v'] = (us.set i v').toArray := by
        show (us.toArray.setIfInBounds i v') = _
        simp
      refine ⟨⟨by omega, by simp [one1]⟩, by omega, i + 1, ⟨f18, by simp, by omega, hEn.putb (Nat.le_refl _) _, us.set i v', by simp [hul], ?_, ?_, ?_, ?_, ?_⟩, by omega⟩
      · rw [if_pos (get_lt hur2)]
      · intro j hj u lj hu hlj
        by_cases hij : i = j
        · subst hij
          rw [hL] at hlj
          rw [List.getElem?_set_self (by omega)] at hu
          simp only [Option.some.injEq] at hlj hu
          subst hlj hu
          exact own_putb (own_zero ho') hrs _
        · rw [List.getElem?_set_ne hij] at hu
          refine own_putb (own_ext (hus j (by omega) u lj hu hlj) hE2) (fun e => ?_) _
          have := hub j u _ hu e.symm
          omega
      · intro j h1 h2
        rw [List.getElem?_set_ne (by omega)]
        exact hun j (by omega) h2
      · intro j u b hu hb
        by_cases hij : i = j
        · subst hij
          rw [List.getElem?_set_self (by omega)] at hu
          simp only [Option.some.injEq] at hu
          subst hu
          have := hnew b hb
          omega
        · rw [List.getElem?_set_ne hij] at hu
          have := hub j u b hu hb
          have := hE2.size
          omega
      · intro j k u u' b hjk hu hu' hb hb'
        by_cases hij : i = j
        · subst hij
          rw [List.getElem?_set_self (by omega)] at hu
          rw [List.getElem?_set_ne hjk] at hu'
          simp only [Option.some.injEq] at hu
          subst hu
          have := hnew b hb
          have := hub k u' b hu' hb'
          omega
        · rw [List.getElem?_set_ne hij] at hu
          by_cases hik : i = k
          · subst hik
            rw [List.getElem?_set_self (by omega)] at hu'
            simp only [Option.some.injEq] at hu'
            subst hu'
            have := hnew b hb'
            have := hub j u b hu hb
            omega
          · rw [List.getElem?_set_ne hik] at hu'
            exact hua j k u u' b hjk hu hu' hb hb'
    · simp only [VS, VD, SV, SL, T, Nat.reduceEqDiff, Nat.reduceAdd, Nat.reduceSub, Nat.reduceMul, Nat.reduceLeDiff, Nat.reduceLT, reduceIte, f3]
      refine hΨ _ _ ⟨hE, w.heap.size, us, rfl, Nat.le_refl _, hul, hur, fun j u li hu hl => ?_, fun j u b hu hb => ?_, hua⟩
      · have hjl : j < s.toNat := by have := (List.getElem?_eq_some_iff.1 hl).1; rw [h.len] at this; exact this
        exact hus j (by omega) u li hu hl
      · have := hub j u b hu hb
        omega
set_option maxRecDepth 100000 in
theorem Clone_spec {F : Nat → Prop} {p : Nat} {s y l : Int} {L : List (List Int)} {w : World} (h : CacheAt w F p s y l L) : VRet Try.prog 27 #[ptr p] w fun v w' => Ext w w' ∧ ∃ p' G, v = ptr p' ∧ CacheAt w' G p' s y l L ∧ ∀ b, G b → w.heap.size ≤ b := by
  have h0 := h
  obtain ⟨q, vs, hc⟩ := h
  have hgs := Geo_spec hc.geo
  have hobj := hc.obj
  refine VRet_start T.mo ok27 rfl fun Ψ hΨ => ?_; simp only [vc27, rs27]
  simp only [VS, VD, SV, SL, T, Nat.reduceEqDiff, Nat.reduceAdd, Nat.reduceSub, Nat.reduceMul, Nat.reduceLeDiff, Nat.reduceLT, reduceIte, Option.isNone_some]
  refine DW_intro (fun _ _ v w' => OwnLs w.heap.size w' s L v) ?_
  simp only [VS, VD, SV, SL, T, Nat.reduceEqDiff, Nat.reduceAdd, Nat.reduceSub, Nat.reduceMul, Nat.reduceLeDiff, Nat.reduceLT, reduceIte, hobj]
  refine rY_ph rfl rfl ?_ ?_ ?_
  · rintro v w1 w2 ⟨q, us, e1, e2, e3, e4, e5, e6, e7⟩ hE
    exact ⟨q, us, e1, e2, e3, hE.obj e4, fun i u li hu hl => own_ext (e5 i u li hu hl) hE, fun i u b hu hb => ⟨(e6 i u b hu hb).1, Nat.lt_of_lt_of_le (e6 i u b hu hb).2.1 hE.size, (e6 i u b hu hb).2.2⟩, e7⟩
  · intro w' hE' _
    simp only [VS, VD, SV, SL, T, Nat.reduceEqDiff, Nat.reduceAdd, Nat.reduceSub, Nat.reduceMul, Nat.reduceLeDiff, Nat.reduceLT, reduceIte]
    refine (Lines_own (h0.ext hE')).mono ?_
    rintro v w2 ⟨hE2, q, us, e1, e2, e3, e4, e5, e6, e7⟩
    exact ⟨hE2, q, us, e1, Nat.le_trans hE'.size e2, e3, e4, e5, fun i u b hu hb => ⟨Nat.le_trans hE'.size (e6 i u b hu hb).1, (e6 i u b hu hb).2⟩, e7⟩
  · rintro v ⟨w', hE', hF, q', us0, rfl, _⟩
    simp only [VS, VD, SV, SL, T, Nat.reduceEqDiff, Nat.reduceAdd, Nat.reduceSub, Nat.reduceMul, Nat.reduceLeDiff, Nat.reduceLT, reduceIte]
    intro w2 hE2 hF2
    obtain ⟨q2, us, e1, e2, e3, e4, e5, e6, e7⟩ := FA_head hF2
    simp only [Value.slice.injEq, Option.some.injEq, Addr.mk.injEq, and_true] at e1
    subst e1
    simp only [VS, VD, SV, SL, T, Nat.reduceEqDiff, Nat.reduceAdd, Nat.reduceSub, Nat.reduceMul, Nat.reduceLeDiff, Nat.reduceLT, reduceIte]
    have hqlt := get_lt e4
    refine hΨ _ _ ⟨hE2.alloc _, w2.heap.size, fun b => w.heap.size ≤ b ∧ b < w2.heap.size + 1, rfl, ⟨q', us, hc.geo, alloc_get_new _ _, ?_, by omega, ⟨hE2.size, by omega⟩, ⟨e2, by omega⟩, fun b hb => by rw [alloc_size]; exact hb.2, hc.len, e3, hc.ways, fun i u li hu hl => (e5 i u li hu hl).alloc _, ?_, e7⟩, fun b hb => hb.1⟩
    · rw [alloc_get_lt hqlt]; exact e4
    · intro i u b hu hb
      have := e6 i u b hu hb
      exact ⟨⟨this.1, by omega⟩, by omega, this.2.2⟩
set_option maxRecDepth 100000 in
theorem misses_spec {F : Nat → Prop} {p : Nat} {s y l : Int} {H : Nat → List Int} {w : World} (hg : Geo s y l = true) (h : CacheAt w F p s y l (stS s y H)) (u : Value) (xs : List Int) (hl : xs.length ≤ 1000000) (h63 : ∀ x ∈ xs, x ≤ 9223372036854775807) (w0 : World) (hv : IntsAt w0 u xs) (hE0 : Ext w0 w) (hF0 : ∀ b, F b → w0.heap.size ≤ b) :
    VRet Try.prog 21 #[ptr p, u] w fun v w' => v = .int .i64 (mis s y l H xs) ∧ ∃ F', CacheAt w' F' p s y l (stS s y (xs.foldl (addH s l) H)) ∧ Mv F w F' w' := by
  obtain ⟨a, c, rfl⟩ := hv.form
  refine VRet_start T.mo ok21 rfl fun Ψ hΨ => ?_; simp only [vc21, rs21]
  simp only [VS, VD, SV, SL, T, Nat.reduceEqDiff, Nat.reduceAdd, Nat.reduceSub, Nat.reduceMul, Nat.reduceLeDiff, Nat.reduceLT, reduceIte]
  refine LoopP_intro (α := Nat) (fun i f' w' => f' 0 = ptr p ∧ f' 5 = .int .i64 (mis s y l H (xs.take i)) ∧ f' 8 = .slice a xs.length c ∧ f' 9 = .int .i64 xs.length ∧ f' 10 = .int .i64 i ∧ i ≤ xs.length ∧ ∃ F', CacheAt w' F' p s y l (stS s y ((xs.take i).foldl (addH s l) H)) ∧ Mv F w F' w') (fun i => xs.length - i) 0 ?_ ?_
  · simp only [VS, VD, SV, SL, T, Nat.reduceEqDiff, Nat.reduceAdd, Nat.reduceSub, Nat.reduceMul, Nat.reduceLeDiff, Nat.reduceLT, reduceIte]
    exact ⟨rfl, rfl, Nat.zero_le _, F, by simpa using h, Mv.refl F w⟩
  · rintro i f' w' ⟨f0, f5, f8, f9, f10, hi, F', hC, hMv⟩
    simp only [VS, VD, SV, SL, T, Nat.reduceEqDiff, Nat.reduceAdd, Nat.reduceSub, Nat.reduceMul, Nat.reduceLeDiff, Nat.reduceLT, reduceIte, f10, f9]
    refine cnd_d (fun hlt => ?_) (fun hlt => ?_)
    · have hi' : i < xs.length := by omega
      obtain ⟨b, off, cs, e, fz, rfl, _, hb, hc⟩ := (hMv.ints hE0 hF0 hv).get (i := i) (x := xs[i]) (by simp [hi'])
      have htake : xs.take (i + 1) = xs.take i ++ [xs[i]] := List.take_succ_eq_append_getElem hi'
      have hmle := mis_le s y l (xs.take i) H
      have hmle2 : mis s y l H (xs.take i) ≤ 1000000 := by
        have : (xs.take i).length ≤ xs.length := List.length_take_le' ..
        omega
      simp only [VS, VD, SV, SL, T, Nat.reduceEqDiff, Nat.reduceAdd, Nat.reduceSub, Nat.reduceMul, Nat.reduceLeDiff, Nat.reduceLT, reduceIte, f10, f8, hb, Int.toNat_natCast, hc]
      refine ⟨by omega, ?_⟩
      by_cases h0 : 0 ≤ xs[i]
      · rw [decide_eq_true h0]
        simp only [VS, VD, SV, SL, T, Nat.reduceEqDiff, Nat.reduceAdd, Nat.reduceSub, Nat.reduceMul, Nat.reduceLeDiff, Nat.reduceLT, reduceIte, f0]
        refine (Access_mv hg hC xs[i] (h63 _ (List.getElem_mem _))).mono ?_
        rintro _ w2 ⟨rfl, F2, hC2, hM2⟩
        have hst : (xs.take (i + 1)).foldl (addH s l) H = addH s l ((xs.take i).foldl (addH s l) H) xs[i] := by rw [htake, List.foldl_append]; rfl
        rw [hitS_stS hg]
        have hmB : mis s y l H (xs.take (i + 1)) = mis s y l H (xs.take i) + misB s y l ((xs.take i).foldl (addH s l) H) xs[i] := by rw [htake, mis_snoc]
        unfold misB at hmB
        by_cases hm : xs[i] / l ∈ (dst (((xs.take i).foldl (addH s l) H) ((xs[i] / l) % s).toNat)).take y.toNat
        · have hd := decide_eq_true (p := 0 ≤ xs[i] ∧ _) ⟨h0, hm⟩
          rw [hd]
          rw [if_neg (fun h => h.2 hm)] at hmB
          simp only [VS, VD, SV, SL, T, Nat.reduceEqDiff, Nat.reduceAdd, Nat.reduceSub, Nat.reduceMul, Nat.reduceLeDiff, Nat.reduceLT, reduceIte, f10, Bool.not_true]
          exact ⟨by omega, i + 1, ⟨f0, by rw [f5, hmB]; rfl, f8, f9, by simp, by omega, F2, by rw [hst]; exact hC2, hMv.trans hM2⟩, by omega⟩
        · have hd := decide_eq_false (p := 0 ≤ xs[i] ∧ _) (fun h => hm h.2)
          rw [hd]
          rw [if_pos ⟨h0, hm⟩] at hmB
          simp only [VS, VD, SV, SL, T, Nat.reduceEqDiff, Nat.reduceAdd, Nat.reduceSub, Nat.reduceMul, Nat.reduceLeDiff, Nat.reduceLT, reduceIte, f10, f5, Bool.not_false]
          exact ⟨by omega, by omega, i + 1, ⟨f0, by rw [hmB]; simp, f8, f9, by simp, by omega, F2, by rw [hst]; exact hC2, hMv.trans hM2⟩, by omega⟩
      · rw [decide_eq_false h0]
        have hst : (xs.take (i + 1)).foldl (addH s l) H = (xs.take i).foldl (addH s l) H := by
          rw [htake, List.foldl_append]
          funext j
          simp [addH, h0]
        have hmB : mis s y l H (xs.take (i + 1)) = mis s y l H (xs.take i) := by
          rw [htake, mis_snoc, misB, if_neg (fun h => h0 h.1)]; rfl
        simp only [VS, VD, SV, SL, T, Nat.reduceEqDiff, Nat.reduceAdd, Nat.reduceSub, Nat.reduceMul, Nat.reduceLeDiff, Nat.reduceLT, reduceIte, f10]
        exact ⟨by omega, i + 1, ⟨f0, by rw [f5, hmB], f8, f9, by simp, by omega, F', by rw [hst]; exact hC, hMv⟩, by omega⟩
    · rw [List.take_of_length_le (by omega)] at f5 hC
      simp only [VS, VD, SV, SL, T, Nat.reduceEqDiff, Nat.reduceAdd, Nat.reduceSub, Nat.reduceMul, Nat.reduceLeDiff, Nat.reduceLT, reduceIte, f5]
      exact hΨ _ _ ⟨rfl, F', hC, hMv⟩
end Go.Proofs.Ytblogcihkjhgkaa

/-
  Access at any address, Probe, Age, Flush; great, made.
-/
import Derived.Test.YtblogcihkjhgkaaK7
set_option linter.unusedSimpArgs false
set_option linter.unusedVariables false
namespace Go.Proofs.Ytblogcihkjhgkaa
open Go.W Go.RowKit
/-- F and the blocks made between two worlds -/
def Nw (F : Nat → Prop) (w w' : World) : Nat → Prop := fun b => F b ∨ (w.heap.size ≤ b ∧ b < w'.heap.size)
theorem CacheAt.mono {w : World} {F G : Nat → Prop} {p : Nat} {s y l : Int} {L : List (List Int)} (h : CacheAt w F p s y l L) (hFG : ∀ b, F b → G b) (hG : ∀ b, G b → b < w.heap.size) : CacheAt w G p s y l L := by
  obtain ⟨q, vs, h⟩ := h
  exact ⟨q, vs, h.geo, h.obj, h.row, h.ne, hFG _ h.fp, hFG _ h.fq, hG, h.len, h.vlen, h.ways, h.own, fun i v b hv hb => ⟨hFG _ (h.fb i v b hv hb).1, (h.fb i v b hv hb).2⟩, h.apart⟩
theorem CacheAt.lt {w : World} {F : Nat → Prop} {p : Nat} {s y l : Int} {L : List (List Int)} (h : CacheAt w F p s y l L) : ∀ b, F b → b < w.heap.size := by
  obtain ⟨q, vs, h⟩ := h; exact h.lt
theorem CacheAt.geo {w : World} {F : Nat → Prop} {p : Nat} {s y l : Int} {L : List (List Int)} (h : CacheAt w F p s y l L) : Geo s y l = true := by
  obtain ⟨q, vs, h⟩ := h; exact h.geo
/-- the lines of the set of an address's line -/
def lnS (s l : Int) (L : List (List Int)) (a : Int) : List Int := L.getD ((a / l) % s).toNat []
def hitS (s l : Int) (L : List (List Int)) (a : Int) : Bool := decide (0 ≤ a ∧ a / l ∈ lnS s l L a)
def accS (s y l : Int) (L : List (List Int)) (a : Int) : List (List Int) := if 0 ≤ a then L.set ((a / l) % s).toNat (accL y (lnS s l L a) (a / l)) else L
set_option maxRecDepth 100000 in
theorem Access_neg {F : Nat → Prop} {p : Nat} {s y l : Int} {L : List (List Int)} {w : World} (h : CacheAt w F p s y l L) (a : Int) (ha : a < 0) :
    VRet Try.prog 23 #[ptr p, .int .i64 a] w fun v w' => v = .bool false ∧ Ext w w' := by
  obtain ⟨q, vs, h⟩ := h
  refine VRet_start T.mo ok23 rfl fun Ψ hΨ => ?_; simp only [vc23, rs23]
  have hobj := h.obj
  simp only [VS, VD, SV, SL, T, Nat.reduceEqDiff, Nat.reduceAdd, Nat.reduceSub, Nat.reduceMul, Nat.reduceLeDiff, Nat.reduceLT, reduceIte, hobj, Option.isNone_some]
  refine (Line_spec s y l a (by omega) w).mono ?_
  rintro _ w1 ⟨rfl, hE1⟩
  have hline : lineOf s y l a = -1 := by simp only [lineOf]; rw [if_neg (by omega)]
  rw [hline]
  simp only [VS, VD, SV, SL, T, Nat.reduceEqDiff, Nat.reduceAdd, Nat.reduceSub, Nat.reduceMul, Nat.reduceLeDiff, Nat.reduceLT, reduceIte]
  refine cnd_d (fun _ => ?_) (fun h => by exfalso; omega)
  simp only [VS, VD, SV, SL, T, Nat.reduceEqDiff, Nat.reduceAdd, Nat.reduceSub, Nat.reduceMul, Nat.reduceLeDiff, Nat.reduceLT, reduceIte]
  exact hΨ _ _ ⟨rfl, hE1⟩
theorem Access_any {F : Nat → Prop} {p : Nat} {s y l : Int} {L : List (List Int)} {w : World} (h : CacheAt w F p s y l L) (a : Int) (ha63 : a ≤ 9223372036854775807) :
    VRet Try.prog 23 #[ptr p, .int .i64 a] w fun v w' => v = .bool (hitS s l L a) ∧ CacheAt w' (Nw F w w') p s y l (accS s y l L a) ∧ Chg F w w' := by
  by_cases ha : 0 ≤ a
  · refine (Access_spec h a ha ha63).mono ?_
    rintro v w' ⟨rfl, h1, h2⟩
    refine ⟨by simp [hitS, ha, lnS], ?_, h2⟩
    rw [accS, if_pos ha]
    exact h1
  · refine (Access_neg h a (by omega)).mono ?_
    rintro v w' ⟨rfl, hE⟩
    refine ⟨by simp [hitS, ha], ?_, Chg.of_ext hE⟩
    rw [accS, if_neg ha]
    refine (h.ext hE).mono (fun b hb => .inl hb) ?_
    rintro b (hb | hb)
    · exact (h.ext hE).lt b hb
    · exact hb.2
def ageS (s y l : Int) (L : List (List Int)) (n : Int) : Int := if 0 ≤ n then idxI (L.getD (n % s).toNat []) n else -1
theorem setOf_eq {s y l n : Int} (hg : Geo s y l = true) (hn : 0 ≤ n) : setOf s y l n = n % s := by simp [setOf, hg, hn]
set_option maxRecDepth 100000 in
theorem Age_spec {F : Nat → Prop} {p : Nat} {s y l : Int} {L : List (List Int)} {w : World} (h : CacheAt w F p s y l L) (n : Int) :
    VRet Try.prog 25 #[ptr p, .int .i64 n] w fun v w' => v = .int .i64 (ageS s y l L n) ∧ Ext w w' := by
  obtain ⟨q, vs, h⟩ := h
  refine VRet_start T.mo ok25 rfl fun Ψ hΨ => ?_; simp only [vc25, rs25]
  have hobj := h.obj
  simp only [VS, VD, SV, SL, T, Nat.reduceEqDiff, Nat.reduceAdd, Nat.reduceSub, Nat.reduceMul, Nat.reduceLeDiff, Nat.reduceLT, reduceIte, hobj, Option.isNone_some]
  refine (find_spec h n).mono ?_
  rintro _ w1 ⟨rfl, hE1⟩
  simp only [VS, VD, SV, SL, T, Nat.reduceEqDiff, Nat.reduceAdd, Nat.reduceSub, Nat.reduceMul, Nat.reduceLeDiff, Nat.reduceLT, reduceIte]
  refine hΨ _ _ ⟨?_, hE1⟩
  unfold ageS
  split
  · rename_i hn; rw [setOf_eq h.geo hn]
  · rfl
set_option maxRecDepth 100000 in
theorem Probe_spec {F : Nat → Prop} {p : Nat} {s y l : Int} {L : List (List Int)} {w : World} (h : CacheAt w F p s y l L) (a : Int) (ha63 : a ≤ 9223372036854775807) :
    VRet Try.prog 26 #[ptr p, .int .i64 a] w fun v w' => v = .bool (hitS s l L a) ∧ Ext w w' := by
  obtain ⟨q, vs, h⟩ := h
  have hgs := Geo_spec h.geo
  refine VRet_start T.mo ok26 rfl fun Ψ hΨ => ?_; simp only [vc26, rs26]
  have hobj := h.obj
  simp only [VS, VD, SV, SL, T, Nat.reduceEqDiff, Nat.reduceAdd, Nat.reduceSub, Nat.reduceMul, Nat.reduceLeDiff, Nat.reduceLT, reduceIte, hobj, Option.isNone_some]
  refine (Line_spec s y l a ha63 w).mono ?_
  rintro _ w1 ⟨rfl, hE1⟩
  simp only [VS, VD, SV, SL, T, Nat.reduceEqDiff, Nat.reduceAdd, Nat.reduceSub, Nat.reduceMul, Nat.reduceLeDiff, Nat.reduceLT, reduceIte]
  refine (find_spec (h.ext hE1) (lineOf s y l a)).mono ?_
  rintro _ w2 ⟨rfl, hE2⟩
  simp only [VS, VD, SV, SL, T, Nat.reduceEqDiff, Nat.reduceAdd, Nat.reduceSub, Nat.reduceMul, Nat.reduceLeDiff, Nat.reduceLT, reduceIte]
  refine hΨ _ _ ⟨?_, hE1.trans hE2⟩
  by_cases ha : 0 ≤ a
  · have hl0 : 0 ≤ a / l := Int.ediv_nonneg ha (by omega)
    have hline : lineOf s y l a = a / l := by simp [lineOf, h.geo, ha]
    rw [hline, if_pos hl0, setOf_eq h.geo hl0]
    simp [hitS, lnS, idxI_mem, ha]
  · have hline : lineOf s y l a = -1 := by simp only [lineOf]; rw [if_neg (by omega)]
    rw [hline]
    simp [hitS, ha]
set_option maxRecDepth 100000 in
theorem great_spec (v : Value) (l : List Int) (hl : l.length ≤ 9223372036854775807) (w : World) (h : IntsAt w v l) : VRet Try.prog 20 #[v] w fun v w' => v = .bool (decide (l.length > 200 ∨ ∃ x ∈ l, x > 100000)) ∧ Ext w w' := by
  obtain ⟨a, c, rfl⟩ := h.form
  refine VRet_start T.mo ok20 rfl fun Ψ hΨ => ?_; simp only [vc20, rs20]
  simp only [VS, VD, SV, SL, T, Nat.reduceEqDiff, Nat.reduceAdd, Nat.reduceSub, Nat.reduceMul, Nat.reduceLeDiff, Nat.reduceLT, reduceIte]
  refine LoopP_intro (α := Nat) (fun i f' w' => f' 0 = .slice a l.length c ∧ f' 5 = .slice a l.length c ∧ f' 6 = .int .i64 l.length ∧ f' 7 = .int .i64 i ∧ i ≤ l.length ∧ w' = w ∧ ∀ x ∈ l.take i, ¬ x > 100000) (fun i => l.length - i) 0 ?_ ?_
  · simp only [VS, VD, SV, SL, T, Nat.reduceEqDiff, Nat.reduceAdd, Nat.reduceSub, Nat.reduceMul, Nat.reduceLeDiff, Nat.reduceLT, reduceIte]
    exact ⟨rfl, Nat.zero_le _, by simp⟩
  · rintro i f' w' ⟨f0, f5, f6, f7, hi, rfl, hx⟩
    simp only [VS, VD, SV, SL, T, Nat.reduceEqDiff, Nat.reduceAdd, Nat.reduceSub, Nat.reduceMul, Nat.reduceLeDiff, Nat.reduceLT, reduceIte, f7, f6]
    refine cnd_d (fun hlt => ?_) (fun hlt => ?_)
    · have hi' : i < l.length := by omega
      obtain ⟨b, off, cs, e, fz, rfl, _, hb, hc⟩ := h.get (i := i) (x := l[i]) (by simp [hi'])
      simp only [VS, VD, SV, SL, T, Nat.reduceEqDiff, Nat.reduceAdd, Nat.reduceSub, Nat.reduceMul, Nat.reduceLeDiff, Nat.reduceLT, reduceIte, f7, f6, f5, hb, Int.toNat_natCast, hc]
      refine ⟨by omega, cnd_d (fun hq => ?_) (fun hq => ?_)⟩
      · simp only [VS, VD, SV, SL, T, Nat.reduceEqDiff, Nat.reduceAdd, Nat.reduceSub, Nat.reduceMul, Nat.reduceLeDiff, Nat.reduceLT, reduceIte]
        refine hΨ _ _ ⟨?_, Ext.refl _⟩
        rw [decide_eq_true]
        exact .inr ⟨l[i], List.getElem_mem _, hq⟩
      · simp only [VS, VD, SV, SL, T, Nat.reduceEqDiff, Nat.reduceAdd, Nat.reduceSub, Nat.reduceMul, Nat.reduceLeDiff, Nat.reduceLT, reduceIte, f7]
        refine ⟨by omega, i + 1, ⟨f0, f5, f6, by simp, by omega, fun x hm => ?_⟩, by omega⟩
        rw [List.take_succ_eq_append_getElem hi'] at hm
        rcases List.mem_append.1 hm with hm | hm
        · exact hx x hm
        · simp only [List.mem_singleton] at hm; subst hm; exact hq
    · simp only [VS, VD, SV, SL, T, Nat.reduceEqDiff, Nat.reduceAdd, Nat.reduceSub, Nat.reduceMul, Nat.reduceLeDiff, Nat.reduceLT, reduceIte, f0]
      refine hΨ _ _ ⟨?_, Ext.refl _⟩
      rw [List.take_of_length_le (by omega)] at hx
      congr 1
      rw [decide_eq_decide]
      constructor
      · intro h; exact .inl (by omega)
      · rintro (h | ⟨x, hm, h⟩)
        · omega
        · exact (hx x hm h).elim
set_option maxRecDepth 100000 in
theorem Flush_spec {F : Nat → Prop} {p : Nat} {s y l : Int} {L : List (List Int)} {w : World} (h : CacheAt w F p s y l L) :
    VRet Try.prog 22 #[ptr p] w fun v w' => CacheAt w' (Nw F w w') p s y l (List.replicate s.toNat []) ∧ Chg F w w' := by
  obtain ⟨q, vs, h⟩ := h
  have hgs := Geo_spec h.geo
  have hobj := h.obj
  have hplt := get_lt hobj
  have hpne : ¬ (p = w.heap.size) := by omega
  have z0 : #[Value.slice none 0 0][0]! = Value.slice none 0 0 := rfl
  refine VRet_start T.mo ok22 rfl fun Ψ hΨ => ?_; simp only [vc22, rs22]
  simp only [VS, VD, SV, SL, T, Nat.reduceEqDiff, Nat.reduceAdd, Nat.reduceSub, Nat.reduceMul, Nat.reduceLeDiff, Nat.reduceLT, reduceIte, hobj, Option.isNone_some, hpne, Int.toNat_natCast, z0]
  refine ⟨by omega, hΨ _ _ ⟨⟨w.heap.size, List.replicate s.toNat (.slice none 0 0), h.geo, ?_, ?_, hpne, .inl h.fp, .inr ⟨Nat.le_refl _, by rw [putb_size]; simp⟩, ?_, by simp, by simp, ?_, ?_, ?_, ?_⟩, ?_⟩⟩
  · exact putb_get_same (by simp; omega) _
  · rw [putb_get_ne (Ne.symm hpne), alloc_get_new]; simp
  · rintro b (hb | hb)
    · rw [putb_size, alloc_size]; have := h.lt b hb; omega
    · exact hb.2
  · intro li hli; rw [(List.mem_replicate.1 hli).2]; simp
  · intro i v li h1 h2
    rw [(List.mem_replicate.1 (List.mem_of_getElem? h1)).2, (List.mem_replicate.1 (List.mem_of_getElem? h2)).2]
    exact World.ownsRow_nil _ _ _ _
  · intro i v b0 h1 h2
    rw [(List.mem_replicate.1 (List.mem_of_getElem? h1)).2] at h2
    cases h2
  · intro i j v u b0 _ h1 _ h2
    rw [(List.mem_replicate.1 (List.mem_of_getElem? h1)).2] at h2
    cases h2
  · refine ⟨rfl, rfl, rfl, by rw [putb_size]; simp, fun b hb hn => ?_⟩
    rw [putb_get_ne (by rintro rfl; exact hn h.fp), alloc_get_lt hb]
/-- the lists after accesses -/
def runS (s y l : Int) (L : List (List Int)) (xs : List Int) : List (List Int) := xs.foldl (accS s y l) L
def emp (s : Int) : List (List Int) := List.replicate s.toNat []
set_option maxRecDepth 100000 in
theorem made_spec (s y l : Int) (u : Value) (as_ : List Int) (hl : as_.length ≤ 9223372036854775807) (h63 : ∀ x ∈ as_, x ≤ 9223372036854775807) (w : World) (h : IntsAt w u as_) : VRet Try.prog 19 #[cfgV s y l, u] w fun v w' =>
    (Geo s y l = false ∧ v = .pointer none ∧ Ext w w') ∨
    (Geo s y l = true ∧ ∃ p F, v = ptr p ∧ CacheAt w' F p s y l (runS s y l (emp s) as_) ∧ (∀ b, F b → w.heap.size ≤ b) ∧ Ext w w') := by
  obtain ⟨a, c, rfl⟩ := h.form
  refine VRet_start T.mo ok19 rfl fun Ψ hΨ => ?_; simp only [vc19, rs19]
  simp only [VS, VD, SV, SL, T, Nat.reduceEqDiff, Nat.reduceAdd, Nat.reduceSub, Nat.reduceMul, Nat.reduceLeDiff, Nat.reduceLT, reduceIte, cfgV]
  refine (New_spec s y l _).mono ?_
  rintro v1 w1 (⟨hg, rfl, hE1⟩ | ⟨hg, p, rfl, hC1, hE1⟩)
  · replace hE1 := ((Ext.refl w).alloc tomb).trans hE1
    simp only [VS, VD, SV, SL, T, Nat.reduceEqDiff, Nat.reduceAdd, Nat.reduceSub, Nat.reduceMul, Nat.reduceLeDiff, Nat.reduceLT, reduceIte]
    refine cnd_d (fun _ => ?_) (fun h => by exfalso; omega)
    simp only [VS, VD, SV, SL, T, Nat.reduceEqDiff, Nat.reduceAdd, Nat.reduceSub, Nat.reduceMul, Nat.reduceLeDiff, Nat.reduceLT, reduceIte]
    exact hΨ _ _ (.inl ⟨hg, rfl, hE1⟩)
  · replace hE1 := ((Ext.refl w).alloc tomb).trans hE1
    simp only [VS, VD, SV, SL, T, Nat.reduceEqDiff, Nat.reduceAdd, Nat.reduceSub, Nat.reduceMul, Nat.reduceLeDiff, Nat.reduceLT, reduceIte]
    refine LoopP_intro (α := Nat) (fun i f' w' => f' 5 = ptr p ∧ f' 16 = .slice a as_.length c ∧ f' 17 = .int .i64 as_.length ∧ f' 18 = .int .i64 i ∧ i ≤ as_.length ∧ Ext w w' ∧ ∃ F, CacheAt w' F p s y l (runS s y l (emp s) (as_.take i)) ∧ ∀ b, F b → w.heap.size ≤ b) (fun i => as_.length - i) 0 ?_ ?_
    · simp only [VS, VD, SV, SL, T, Nat.reduceEqDiff, Nat.reduceAdd, Nat.reduceSub, Nat.reduceMul, Nat.reduceLeDiff, Nat.reduceLT, reduceIte]
      refine ⟨rfl, Nat.zero_le _, hE1, _, hC1, fun b hb => ?_⟩
      have := hb.1
      simp at this
      omega
    · rintro i f' w' ⟨f5, f16, f17, f18, hi, hE, F, hC, hF⟩
      simp only [VS, VD, SV, SL, T, Nat.reduceEqDiff, Nat.reduceAdd, Nat.reduceSub, Nat.reduceMul, Nat.reduceLeDiff, Nat.reduceLT, reduceIte, f17, f18]
      refine cnd_d (fun hlt => ?_) (fun hlt => ?_)
      · have hi' : i < as_.length := by omega
        obtain ⟨b, off, cs, e, fz, rfl, _, hb, hc⟩ := (h.ext hE).get (i := i) (x := as_[i]) (by simp [hi'])
        simp only [VS, VD, SV, SL, T, Nat.reduceEqDiff, Nat.reduceAdd, Nat.reduceSub, Nat.reduceMul, Nat.reduceLeDiff, Nat.reduceLT, reduceIte, f5, f16, f18, hb, Int.toNat_natCast, hc]
        refine ⟨by omega, ?_⟩
        refine (Access_any hC as_[i] (h63 _ (List.getElem_mem _))).mono ?_
        rintro _ w2 ⟨rfl, hC2, hg2⟩
        simp only [VS, VD, SV, SL, T, Nat.reduceEqDiff, Nat.reduceAdd, Nat.reduceSub, Nat.reduceMul, Nat.reduceLeDiff, Nat.reduceLT, reduceIte, f18]
        refine ⟨by omega, i + 1, ⟨f5, f16, f17, by simp, by omega, hg2.ext hE hF, Nw F w' w2, ?_, ?_⟩, by omega⟩
        · have : runS s y l (emp s) (as_.take (i + 1)) = accS s y l (runS s y l (emp s) (as_.take i)) as_[i] := by
            rw [List.take_succ_eq_append_getElem hi', runS, List.foldl_append]; rfl
          rw [this]
          exact hC2
        · rintro b (hb | hb)
          · exact hF b hb
          · have := hE.size; omega
      · simp only [VS, VD, SV, SL, T, Nat.reduceEqDiff, Nat.reduceAdd, Nat.reduceSub, Nat.reduceMul, Nat.reduceLeDiff, Nat.reduceLT, reduceIte, f5]
        rw [List.take_of_length_le (by omega)] at hC
        exact hΨ _ _ (.inr ⟨hg, p, F, rfl, hC, hF, hE⟩)
end Go.Proofs.Ytblogcihkjhgkaa

/-
  May: the states in memory; fixed, New, Unknown, Age, set, Clone.
-/
import Derived.Test.YtndkadphpbnpeaaZCA
set_option linter.unusedSimpArgs false
set_option linter.unusedVariables false
namespace Go.Proofs.Ytndkadphpbnpeaa
open Go.W
/-- the block r is a map that holds a function from lines to bounds -/
def MapIs (w : World) (r : Nat) (m : Int → Option Int) : Prop := ∃ l c, w.heap[r]? = some (.map (mk l) c) ∧ MWF l c ∧ ∀ k, mget l k = (m k).map (.int .i64 ·)
theorem MapIs.ext {w w' : World} {r : Nat} {m : Int → Option Int} (h : MapIs w r m) (hE : Ext w w') : MapIs w' r m := by
  obtain ⟨l, c, h2, h3⟩ := h
  exact ⟨l, c, hE.obj h2, h3⟩
theorem MapIs.congr {w : World} {r : Nat} {m m' : Int → Option Int} (h : MapIs w r m) (e : ∀ k, m k = m' k) : MapIs w r m' := by
  rw [← show m = m' from funext e]; exact h
theorem MapIs.heap {w w' : World} {r : Nat} {m : Int → Option Int} (h : MapIs w r m) (e : w'.heap[r]? = w.heap[r]?) : MapIs w' r m := by
  obtain ⟨l, c, h2, h3⟩ := h
  exact ⟨l, c, e.trans h2, h3⟩
/-- a map value that holds a function from lines to bounds -/
def MapAt (w : World) (v : Value) (m : Int → Option Int) : Prop :=
  (v = .map none ∧ ∀ k, m k = none) ∨ ∃ r l c, v = .map (some r) ∧ w.heap[r]? = some (.map (mk l) c) ∧ MWF l c ∧ ∀ k, mget l k = (m k).map (.int .i64 ·)
theorem MapAt.ext {w w' : World} {v : Value} {m : Int → Option Int} (h : MapAt w v m) (hE : Ext w w') : MapAt w' v m := by
  rcases h with h | ⟨r, l, c, h1, h2, h3⟩
  · exact .inl h
  · exact .inr ⟨r, l, c, h1, hE.obj h2, h3⟩
theorem MapIs.at {w : World} {r : Nat} {m : Int → Option Int} (h : MapIs w r m) : MapAt w (.map (some r)) m := by
  obtain ⟨l, c, h⟩ := h
  exact .inr ⟨r, l, c, rfl, h⟩
set_option maxRecDepth 10000 in
theorem MapAt.look {w : World} {v : Value} {m : Int → Option Int} (h : MapAt w v m) (k : Int) {κ : Value → World → Prop} (hk : κ (.tuple #[.int .i64 ((m k).getD 0), .bool (m k).isSome]) w) :
    RunV Try.prog w κ (Instr.lookup 74 v (.int .i64 k) true) := by
  rcases h with ⟨rfl, hm⟩ | ⟨r, l, c, rfl, h2, h3, h4⟩
  · refine rV_lookup_nil T.me74 T.zr3 ?_
    rw [hm] at hk; exact hk
  · refine rV_lookup T.me74 T.zr3 h2 ?_
    rw [h4]
    cases hmk : m k <;> rw [hmk] at hk <;> exact hk
theorem MapAt.one {w : World} {v : Value} {m : Int → Option Int} (h : MapAt w v m) : one v = true := by
  rcases h with ⟨rfl, _⟩ | ⟨_, _, _, rfl, _⟩ <;> rfl
/-- the lines of one set -/
def restr (s : Int) (i : Nat) (m : Int → Option Int) : Int → Option Int := fun k => if 0 ≤ k ∧ k % s = i then m k else none
/-- the value of a state -/
def stV (s y l : Int) (u : Bool) (sets : Value) : Value := .agg #[.int .i64 s, .int .i64 y, .int .i64 l, .bool u, sets]
/-- a state that is known: the function from lines to bounds -/
def MayK (w : World) (v : Value) (s y l : Int) (m : Int → Option Int) : Prop :=
  ∃ (b off cap : Nat) (vs : List Value), v = stV s y l false (.slice (some ⟨b, off, none⟩) s.toNat cap) ∧ vs.length = s.toNat ∧ (∀ i x, vs[i]? = some x → w.cell? ⟨b, off + i, none⟩ = some x ∧ MapAt w x (restr s i m))
/-- a state: unknown, or known -/
def MayAt (w : World) (v : Value) (s y l : Int) : Option (Int → Option Int) → Prop
  | none => v = stV s y l true (.slice none 0 0)
  | some m => MayK w v s y l m
theorem MayK.ext {w w' : World} {v : Value} {s y l : Int} {m : Int → Option Int} (h : MayK w v s y l m) (hE : Ext w w') : MayK w' v s y l m := by
  obtain ⟨b, off, cap, vs, h1, h2, h3⟩ := h
  exact ⟨b, off, cap, vs, h1, h2, fun i x hx => ⟨hE.cell (h3 i x hx).1, (h3 i x hx).2.ext hE⟩⟩
theorem MayAt.ext {w w' : World} {v : Value} {s y l : Int} {M : Option (Int → Option Int)} (h : MayAt w v s y l M) (hE : Ext w w') : MayAt w' v s y l M := by
  cases M with
  | none => exact h
  | some m => exact MayK.ext h hE
theorem MayAt.form {w : World} {v : Value} {s y l : Int} {M : Option (Int → Option Int)} (h : MayAt w v s y l M) : ∃ u a n c, v = stV s y l u (.slice a n c) := by
  cases M with
  | none => exact ⟨_, _, _, _, h⟩
  | some m => obtain ⟨b, off, cap, vs, h1, _⟩ := h; exact ⟨_, _, _, _, h1⟩

set_option maxRecDepth 10000 in
theorem fixed_spec (s y l : Int) (u : Bool) (a : Option Addr) (n c : Nat) (w : World) :
    VRet Try.prog 44 #[stV s y l u (.slice a n c)] w fun v w' => v = .bool (u || decide (n = 0)) ∧ Ext w w' := by
  refine VRet_start T.mo ok44 rfl fun Ψ hΨ => ?_; simp only [vc44, rs44]
  simp only [VS, VD, SV, SL, T, Nat.reduceEqDiff, Nat.reduceAdd, Nat.reduceSub, Nat.reduceMul, Nat.reduceLeDiff, Nat.reduceLT, reduceIte, stV]
  have hE := (Ext.refl w).alloc tomb
  cases u with
  | true => simp only [VS, VD, SV, SL, T, Nat.reduceEqDiff, Nat.reduceAdd, Nat.reduceSub, Nat.reduceMul, Nat.reduceLeDiff, Nat.reduceLT, reduceIte]; exact hΨ _ _ ⟨by simp, hE⟩
  | false => simp only [VS, VD, SV, SL, T, Nat.reduceEqDiff, Nat.reduceAdd, Nat.reduceSub, Nat.reduceMul, Nat.reduceLeDiff, Nat.reduceLT, reduceIte]; exact hΨ _ _ ⟨by simp, hE⟩
set_option maxRecDepth 10000 in
theorem Unknown_spec (s y l : Int) (hv : Geo s y l = true) (w : World) :
    VRet Try.prog 14 #[cfgV s y l] w fun v w' => v = .tuple #[stV s y l true (.slice none 0 0), .int .i64 0] ∧ Ext w w' := by
  refine VRet_start T.mo ok14 rfl fun Ψ hΨ => ?_; simp only [vc14, rs14]
  simp only [VS, VD, SV, SL, T, Nat.reduceEqDiff, Nat.reduceAdd, Nat.reduceSub, Nat.reduceMul, Nat.reduceLeDiff, Nat.reduceLT, reduceIte, cfgV]
  refine (Valid_spec s y l _).mono ?_
  rintro _ w1 ⟨rfl, hE1⟩
  simp only [VS, VD, SV, SL, T, Nat.reduceEqDiff, Nat.reduceAdd, Nat.reduceSub, Nat.reduceMul, Nat.reduceLeDiff, Nat.reduceLT, reduceIte, hv]
  exact hΨ _ _ ⟨rfl, (((Ext.refl w).alloc _).alloc _).trans hE1⟩
set_option maxRecDepth 10000 in
theorem New_spec (s y l : Int) (hv : Geo s y l = true) (w : World) :
    VRet Try.prog 21 #[cfgV s y l] w fun v w' => (∃ st, v = .tuple #[st, .int .i64 0] ∧ MayAt w' st s y l (some fun _ => none)) ∧ Ext w w' := by
  refine VRet_start T.mo ok21 rfl fun Ψ hΨ => ?_; simp only [vc21, rs21]
  simp only [VS, VD, SV, SL, T, Nat.reduceEqDiff, Nat.reduceAdd, Nat.reduceSub, Nat.reduceMul, Nat.reduceLeDiff, Nat.reduceLT, reduceIte, cfgV]
  refine (Valid_spec s y l _).mono ?_
  rintro _ w1 ⟨rfl, hE1⟩
  replace hE1 := (((Ext.refl w).alloc _).alloc _).trans hE1
  simp only [VS, VD, SV, SL, T, Nat.reduceEqDiff, Nat.reduceAdd, Nat.reduceSub, Nat.reduceMul, Nat.reduceLeDiff, Nat.reduceLT, reduceIte, hv]
  have hp := Geo_spec hv
  refine DW_intro (fun _ _ v w => ∃ b, v = .slice (some ⟨b, 0, none⟩) s.toNat s.toNat ∧ w.heap[b]? = some (.cells (Array.replicate s.toNat (.map none)) 74 (0, 0))) ?_
  simp only [VS, VD, SV, SL, T, Nat.reduceEqDiff, Nat.reduceAdd, Nat.reduceSub, Nat.reduceMul, Nat.reduceLeDiff, Nat.reduceLT, reduceIte]
  refine rY_ph rfl rfl (fun v w w' ⟨b, h1, h2⟩ hE => ⟨b, h1, hE.obj h2⟩) (fun w' hE' _ => ?_) (fun v _ => ?_)
  · simp only [VS, VD, SV, SL, T, Nat.reduceEqDiff, Nat.reduceAdd, Nat.reduceSub, Nat.reduceMul, Nat.reduceLeDiff, Nat.reduceLT, reduceIte]
    exact ⟨by omega, (Ext.refl _).alloc _, _, rfl, by simp⟩
  simp only [VS, VD, SV, SL, T, Nat.reduceEqDiff, Nat.reduceAdd, Nat.reduceSub, Nat.reduceMul, Nat.reduceLeDiff, Nat.reduceLT, reduceIte]
  intro w' hE' hF
  obtain ⟨b, rfl, hb⟩ := FA_head hF
  simp only [VS, VD, SV, SL, T, Nat.reduceEqDiff, Nat.reduceAdd, Nat.reduceSub, Nat.reduceMul, Nat.reduceLeDiff, Nat.reduceLT, reduceIte]
  refine hΨ _ _ ⟨⟨_, rfl, b, 0, s.toNat, List.replicate s.toNat (.map none), rfl, by simp, ?_⟩, hE1.trans hE'⟩
  intro i x hx
  have hi : i < s.toNat := by
    have := (List.getElem?_eq_some_iff.1 hx).1
    simpa using this
  simp only [List.getElem?_replicate, hi, if_true, Option.some.injEq] at hx
  subst hx
  refine ⟨?_, .inl ⟨rfl, fun k => by simp [restr]⟩⟩
  rw [cell_mk, hb]
  simp [hi]
def ageM (M : Option (Int → Option Int)) (k : Int) : Int × Bool :=
  if k < 0 then (0, false) else match M with
    | none => (0, true)
    | some m => match m k with
      | some b => (b, true)
      | none => (0, false)
theorem setOf_eq {s y l k : Int} (hv : Geo s y l = true) (hk : 0 ≤ k) : setOf s y l k = k % s := by simp [setOf, hv, hk]
set_option maxRecDepth 10000 in
theorem Age_spec (s y l : Int) (hv : Geo s y l = true) (M : Option (Int → Option Int)) (st : Value) (k : Int) (w : World) (h : MayAt w st s y l M) :
    VRet Try.prog 23 #[st, .int .i64 k] w fun v w' => v = .tuple #[.int .i64 (ageM M k).1, .bool (ageM M k).2] ∧ Ext w w' := by
  have hp := Geo_spec hv
  refine VRet_start T.mo ok23 rfl fun Ψ hΨ => ?_; simp only [vc23, rs23]
  cases M with
  | none =>
    subst h
    simp only [VS, VD, SV, SL, T, Nat.reduceEqDiff, Nat.reduceAdd, Nat.reduceSub, Nat.reduceMul, Nat.reduceLeDiff, Nat.reduceLT, reduceIte, stV]
    refine cnd_d (fun hk => ?_) (fun hk => ?_)
    · simp only [VS, VD, SV, SL, T, Nat.reduceEqDiff, Nat.reduceAdd, Nat.reduceSub, Nat.reduceMul, Nat.reduceLeDiff, Nat.reduceLT, reduceIte]
      exact hΨ _ _ ⟨by simp [ageM, hk], (Ext.refl w).alloc _⟩
    · simp only [VS, VD, SV, SL, T, Nat.reduceEqDiff, Nat.reduceAdd, Nat.reduceSub, Nat.reduceMul, Nat.reduceLeDiff, Nat.reduceLT, reduceIte]
      exact hΨ _ _ ⟨by simp [ageM, hk], (Ext.refl w).alloc _⟩
  | some m =>
    obtain ⟨b, off, cap, vs, rfl, hl, hc⟩ := h
    simp only [VS, VD, SV, SL, T, Nat.reduceEqDiff, Nat.reduceAdd, Nat.reduceSub, Nat.reduceMul, Nat.reduceLeDiff, Nat.reduceLT, reduceIte, stV]
    refine cnd_d (fun hk => ?_) (fun hk => ?_)
    · simp only [VS, VD, SV, SL, T, Nat.reduceEqDiff, Nat.reduceAdd, Nat.reduceSub, Nat.reduceMul, Nat.reduceLeDiff, Nat.reduceLT, reduceIte]
      exact hΨ _ _ ⟨by simp [ageM, hk], (Ext.refl w).alloc _⟩
    · have hs0 : ¬ ((s.toNat : Int) = 0) := by omega
      simp only [VS, VD, SV, SL, T, Nat.reduceEqDiff, Nat.reduceAdd, Nat.reduceSub, Nat.reduceMul, Nat.reduceLeDiff, Nat.reduceLT, reduceIte, hs0]
      have hm0 : 0 ≤ k % s := Int.emod_nonneg _ (by omega)
      have hm1 : k % s < s := Int.emod_lt_of_pos _ (by omega)
      obtain ⟨x, hx⟩ : ∃ x, vs[(k % s).toNat]? = some x := ⟨vs[(k % s).toNat]'(by omega), by simp⟩
      obtain ⟨hcell, hmap⟩ := hc _ _ hx
      obtain ⟨cs, e, fz, hb, hcs⟩ := cell_obj hcell
      refine DW_intro (fun n _ v w => v = if n = 5 then .int .i64 (k % s) else .tuple #[.int .i64 ((restr s (k % s).toNat m k).getD 0), .bool (restr s (k % s).toNat m k).isSome]) ?_
      simp only [VS, VD, SV, SL, T, Nat.reduceEqDiff, Nat.reduceAdd, Nat.reduceSub, Nat.reduceMul, Nat.reduceLeDiff, Nat.reduceLT, reduceIte]
      refine rY_ph rfl rfl (fun v w w' h _ => h) (fun w' hE' _ => ?_) ?_
      · simp only [VS, VD, SV, SL, T, Nat.reduceEqDiff, Nat.reduceAdd, Nat.reduceSub, Nat.reduceMul, Nat.reduceLeDiff, Nat.reduceLT, reduceIte]
        refine (Set_spec s y l k w').mono ?_
        rintro _ w2 ⟨rfl, hE2⟩
        exact ⟨hE2, by rw [setOf_eq hv (by omega)]⟩
      rintro _ ⟨_, _, _, rfl⟩
      have hne : ¬ b = w.heap.size := by have := get_lt hb; omega
      simp only [VS, VD, SV, SL, T, Nat.reduceEqDiff, Nat.reduceAdd, Nat.reduceSub, Nat.reduceMul, Nat.reduceLeDiff, Nat.reduceLT, reduceIte, hb, hcs, hne]
      refine ⟨by omega, ?_⟩
      refine rY_ph rfl rfl (fun v w w' h _ => h) (fun w' hE' _ => ?_) ?_
      · simp only [VS, VD, SV, SL, T, Nat.reduceEqDiff, Nat.reduceAdd, Nat.reduceSub, Nat.reduceMul, Nat.reduceLeDiff, Nat.reduceLT, reduceIte]
        exact (hmap.ext (((Ext.refl w).alloc tomb).trans hE')).look k ⟨Ext.refl _, rfl⟩
      rintro _ ⟨_, _, _, rfl⟩
      simp only [VS, VD, SV, SL, T, Nat.reduceEqDiff, Nat.reduceAdd, Nat.reduceSub, Nat.reduceMul, Nat.reduceLeDiff, Nat.reduceLT, reduceIte]
      intro w' hE' hF
      simp only [VS, VD, SV, SL, T, Nat.reduceEqDiff, Nat.reduceAdd, Nat.reduceSub, Nat.reduceMul, Nat.reduceLeDiff, Nat.reduceLT, reduceIte]
      refine hΨ _ _ ⟨?_, ((Ext.refl w).alloc tomb).trans hE'⟩
      have hk0 : 0 ≤ k := by omega
      have hkr : restr s (k % s).toNat m k = m k := by simp only [restr]; rw [if_pos ⟨hk0, by omega⟩]
      rw [hkr]
      simp only [ageM, hk, if_false]
      cases m k <;> rfl
set_option maxRecDepth 10000 in
theorem set_spec (s y l : Int) (hv : Geo s y l = true) (m : Int → Option Int) (st : Value) (i : Nat) (hi : i < s.toNat) (w : World) (h : MayK w st s y l m) :
    VRet Try.prog 36 #[st, .int .i64 i] w fun v w' => (∃ r, v = .map (some r) ∧ w.heap.size ≤ r ∧ MapIs w' r (restr s i m)) ∧ Ext w w' := by
  obtain ⟨b, off, cap, vs, rfl, hl, hc⟩ := h
  obtain ⟨x, hx⟩ : ∃ x, vs[i]? = some x := ⟨vs[i]'(by omega), by simp⟩
  obtain ⟨hcell, hmap⟩ := hc _ _ hx
  obtain ⟨cs, e, fz, hb, hcs⟩ := cell_obj hcell
  have hlt := get_lt hb
  have hne : ¬ b = w.heap.size := by omega
  have hne1 : ¬ b = w.heap.size + 1 := by omega
  refine VRet_start T.mo ok36 rfl fun Ψ hΨ => ?_; simp only [vc36, rs36]
  simp only [VS, VD, SV, SL, T, Nat.reduceEqDiff, Nat.reduceAdd, Nat.reduceSub, Nat.reduceMul, Nat.reduceLeDiff, Nat.reduceLT, reduceIte, stV, hne, hne1, hb, Int.toNat_natCast, hcs]
  refine ⟨by omega, ?_⟩
  have hE0 : Ext w ((w.alloc tomb).alloc (.map #[] 0)) := ((Ext.refl w).alloc _).alloc _
  have hd0 : ((w.alloc tomb).alloc (.map #[] 0)).heap[w.heap.size + 1]? = some (.map #[] 0) := by simp only [VS, VD, SV, SL, T, Nat.reduceEqDiff, Nat.reduceAdd, Nat.reduceSub, Nat.reduceMul, Nat.reduceLeDiff, Nat.reduceLT, reduceIte]
  generalize (w.alloc tomb).alloc (.map #[] 0) = w0 at *
  have hd1 := get_lt hd0
  rcases hmap with ⟨rfl, hm⟩ | ⟨r, l0, c, rfl, hr, hwf, hm⟩
  · refine rV_range_nil T.mp74 ?_
    simp only [VS, VD, SV, SL, T, Nat.reduceEqDiff, Nat.reduceAdd, Nat.reduceSub, Nat.reduceMul, Nat.reduceLeDiff, Nat.reduceLT, reduceIte]
    refine LoopP_intro (α := Unit) (fun _ f' w' => f' 14 = .pointer (some ⟨w0.heap.size, 0, none⟩) ∧ f' 5 = .map (some (w.heap.size + 1)) ∧ w'.heap[w0.heap.size]? = some (.mapIter none 0 #[] 0) ∧
      w'.heap[w.heap.size + 1]? = some (.map #[] 0) ∧ Ext w w') (fun _ => 0) () ?_ ?_
    · simp only [VS, VD, SV, SL, T, Nat.reduceEqDiff, Nat.reduceAdd, Nat.reduceSub, Nat.reduceMul, Nat.reduceLeDiff, Nat.reduceLT, reduceIte, show ¬ w.heap.size + 1 = w0.heap.size by omega, hd0]
      exact hE0.alloc _
    · rintro _ f' w' ⟨h14, h5, hit, hd, hE⟩
      simp only [VS, VD, SV, SL, T, Nat.reduceEqDiff, Nat.reduceAdd, Nat.reduceSub, Nat.reduceMul, Nat.reduceLeDiff, Nat.reduceLT, reduceIte, h14]
      refine rV_next_nil hit ?_
      simp only [VS, VD, SV, SL, T, Nat.reduceEqDiff, Nat.reduceAdd, Nat.reduceSub, Nat.reduceMul, Nat.reduceLeDiff, Nat.reduceLT, reduceIte, h5]
      exact hΨ _ _ ⟨⟨_, rfl, by omega, [], 0, hd, MWF_nil, fun k => by simp [mget_nil, hm]⟩, hE⟩
  · refine rV_range T.mp74 (hE0.obj hr) ?_
    simp only [VS, VD, SV, SL, T, Nat.reduceEqDiff, Nat.reduceAdd, Nat.reduceSub, Nat.reduceMul, Nat.reduceLeDiff, Nat.reduceLT, reduceIte]
    refine LoopP_intro (α := Array Nat) (fun seen f' w' => f' 14 = .pointer (some ⟨w0.heap.size, 0, none⟩) ∧ f' 5 = .map (some (w.heap.size + 1)) ∧ w'.heap[w0.heap.size]? = some (.mapIter (some r) c seen c) ∧
      (∃ ld cd, w'.heap[w.heap.size + 1]? = some (.map (mk ld) cd) ∧ MWF ld cd ∧ ∀ k, mget ld k = if ∃ p ∈ l0, p.1 = k ∧ p.2.2 ∈ seen then mget l0 k else none) ∧ Ext w w') (fun seen => (todo l0 seen).length) #[] ?_ ?_
    · simp only [VS, VD, SV, SL, T, Nat.reduceEqDiff, Nat.reduceAdd, Nat.reduceSub, Nat.reduceMul, Nat.reduceLeDiff, Nat.reduceLT, reduceIte, show ¬ w.heap.size + 1 = w0.heap.size by omega, hd0]
      exact ⟨⟨[], 0, rfl, MWF_nil, fun k => by simp [mget_nil]⟩, hE0.alloc _⟩
    · rintro seen f' w' ⟨h14, h5, hit, ⟨ld, cd, hd, hwd, hgd⟩, hE⟩
      have hr' := hE.obj hr
      have hl1 := get_lt hd
      have hl2 := get_lt hit
      have hrl := get_lt hr
      have n3 : ¬ r = w0.heap.size := by omega
      have n4 : ¬ w.heap.size + 1 = w0.heap.size := by omega
      have n5 : ¬ w0.heap.size = w.heap.size + 1 := by omega
      simp only [VS, VD, SV, SL, T, Nat.reduceEqDiff, Nat.reduceAdd, Nat.reduceSub, Nat.reduceMul, Nat.reduceLeDiff, Nat.reduceLT, reduceIte, h14]
      refine rV_next hit hr' hwf.lt (fun hall => ?_) (fun p hp hns w2 hw2 => ?_)
      · simp only [VS, VD, SV, SL, T, Nat.reduceEqDiff, Nat.reduceAdd, Nat.reduceSub, Nat.reduceMul, Nat.reduceLeDiff, Nat.reduceLT, reduceIte, h5]
        refine hΨ _ _ ⟨⟨_, rfl, by omega, ld, cd, hd, hwd, fun k => ?_⟩, hE⟩
        rw [hgd, ← hm]
        by_cases hex : ∃ p ∈ l0, p.1 = k ∧ p.2.2 ∈ seen
        · rw [if_pos hex]
        · rw [if_neg hex]
          cases hk : mget l0 k with
          | none => rfl
          | some v =>
            obtain ⟨b, hb⟩ := mget_some_mem hk
            exact (hex ⟨_, hb, rfl, hall _ hb⟩).elim
      · have e2 : w2.heap = w'.heap := by rcases hw2 with rfl | rfl <;> rfl
        have x2 : Ext w w2 := by rcases hw2 with rfl | rfl <;> first | exact hE | exact hE.drew
        simp only [VS, VD, SV, SL, T, Nat.reduceEqDiff, Nat.reduceAdd, Nat.reduceSub, Nat.reduceMul, Nat.reduceLeDiff, Nat.reduceLT, reduceIte, h14]
        refine rV_entry (p := p) (seen := seen) (s := c) (c := c) (r := r) (l := l0) (by simp only [VS, VD, SV, SL, T, Nat.reduceEqDiff, Nat.reduceAdd, Nat.reduceSub, Nat.reduceMul, Nat.reduceLeDiff, Nat.reduceLT, reduceIte, e2, hl2]) (by simp only [VS, VD, SV, SL, T, Nat.reduceEqDiff, Nat.reduceAdd, Nat.reduceSub, Nat.reduceMul, Nat.reduceLeDiff, Nat.reduceLT, reduceIte, e2, hr', n3]) hwf.borns hp ?_
        simp only [VS, VD, SV, SL, T, Nat.reduceEqDiff, Nat.reduceAdd, Nat.reduceSub, Nat.reduceMul, Nat.reduceLeDiff, Nat.reduceLT, reduceIte, h5]
        refine rV_update (l := ld) (c := cd) T.me74 (by simp only [VS, VD, SV, SL, T, Nat.reduceEqDiff, Nat.reduceAdd, Nat.reduceSub, Nat.reduceMul, Nat.reduceLeDiff, Nat.reduceLT, reduceIte, e2, hd, n4]) hwd.keys ?_
        simp only [VS, VD, SV, SL, T, Nat.reduceEqDiff, Nat.reduceAdd, Nat.reduceSub, Nat.reduceMul, Nat.reduceLeDiff, Nat.reduceLT, reduceIte]
        refine ⟨seen.push p.2.2, ⟨h14, h5, by simp only [VS, VD, SV, SL, T, Nat.reduceEqDiff, Nat.reduceAdd, Nat.reduceSub, Nat.reduceMul, Nat.reduceLeDiff, Nat.reduceLT, reduceIte, e2, hl2, n5], ⟨(mset ld cd p.1 p.2.1).1, (mset ld cd p.1 p.2.1).2, by simp only [VS, VD, SV, SL, T, Nat.reduceEqDiff, Nat.reduceAdd, Nat.reduceSub, Nat.reduceMul, Nat.reduceLeDiff, Nat.reduceLT, reduceIte, e2, hl1], hwd.set p.1 p.2.1, fun k => ?_⟩, (x2.putb (by omega) _).putb (by omega) _⟩, todo_lt hp hns⟩
        rw [mget_mset, hgd]
        by_cases hk : k = p.1
        · subst hk
          rw [if_pos rfl, if_pos ⟨p, hp, rfl, by simp⟩, mget_mem hwf.keys hp]
        · rw [if_neg hk]
          have : (∃ q ∈ l0, q.1 = k ∧ q.2.2 ∈ seen.push p.2.2) ↔ (∃ q ∈ l0, q.1 = k ∧ q.2.2 ∈ seen) := by
            constructor
            · rintro ⟨q, hq, rfl, hs⟩
              rcases Array.mem_push.1 hs with hs | hs
              · exact ⟨q, hq, rfl, hs⟩
              · exact (hk (by rw [Go.W.born_inj hwf.borns hq hp hs])).elim
            · rintro ⟨q, hq, rfl, hs⟩
              exact ⟨q, hq, rfl, Array.mem_push.2 (.inl hs)⟩
          simp only [this]
set_option maxRecDepth 10000 in
theorem CloneM_spec (b off n cap : Nat) (vs : List Value) (hl : vs.length = n) (hn : n ≤ 64) (w : World) (hc : ∀ i x, vs[i]? = some x → w.cell? ⟨b, off + i, none⟩ = some x ∧ one x = true) :
    VRet Try.prog 45 #[.slice (some ⟨b, off, none⟩) n cap] w fun v w' => w'.ownsRow w.heap.size 74 1 v n vs ∧ Ext w w' := by
  refine VRet_start T.mo ok45 rfl fun Ψ hΨ => ?_; simp only [vc45, rs45]
  simp only [VS, VD, SV, SL, T, Nat.reduceEqDiff, Nat.reduceAdd, Nat.reduceSub, Nat.reduceMul, Nat.reduceLeDiff, Nat.reduceLT, reduceIte]
  have hown : (w.alloc (Obj.cells #[] 74)).ownsRow w.heap.size 74 1 (.slice (some ⟨w.heap.size, 0, none⟩) 0 0) 0 [] :=
    World.ownsRow_made w #[] 0 (Nat.le_refl _) (Nat.zero_le _) (by simp)
  have hE := (Ext.refl w).alloc (Obj.cells #[] 74)
  refine rV_append (ty := 29) T.el29 T.sz74 T.by74 T.zr74 rfl (by omega) hown (news := vs) (by omega) ?_ ?_ ?_ ?_ ?_ ?_
  · intro j u hu
    rw [add_mk]
    exact hE.cell (hc j u hu).1
  · intro u hu
    obtain ⟨j, hj, rfl⟩ := List.getElem_of_mem hu
    exact (hc j _ (by simp)).2
  · unfold maxLen; omega
  · omega
  · simp
  · intro v w' ho hg _
    simp only [VS, VD, SV, SL, T, Nat.reduceEqDiff, Nat.reduceAdd, Nat.reduceSub, Nat.reduceMul, Nat.reduceLeDiff, Nat.reduceLT, reduceIte]
    simp only [Nat.zero_add, List.nil_append] at ho
    refine hΨ _ _ ⟨ho, hE.grown hg ?_⟩
    intro k hk
    simp only [Value.ownBlock, Option.some.injEq] at hk
    omega
end Go.Proofs.Ytndkadphpbnpeaa

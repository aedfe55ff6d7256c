/-
  Must: New, zero, Forget, Age, grow, Access, AccessRange.
-/
import Derived.Test.YtehmbpkcbmnfnaaZCU1
set_option linter.unusedSimpArgs false
set_option linter.unusedVariables false
namespace Go.Proofs.Ytehmbpkcbmnfnaa
open Go.W
set_option maxRecDepth 10000 in
theorem zero_spec (s y l : Int) (a : Option Addr) (n c : Nat) (w : World) :
    VRet Try.prog 40 #[muV s y l (.slice a n c)] w fun v w' => v = .bool (decide ((n : Int) = 0)) ∧ Ext w w' := by
  refine VRet_start T.mo ok40 rfl fun Ψ hΨ => ?_; simp only [vc40, rs40]
  simp only [VS, VD, SV, SL, T, Nat.reduceEqDiff, Nat.reduceAdd, Nat.reduceSub, Nat.reduceMul, Nat.reduceLeDiff, Nat.reduceLT, reduceIte, muV]
  exact hΨ _ _ ⟨rfl, (Ext.refl w).alloc tomb⟩
theorem MuK_none {w : World} {s y l : Int} {b : Nat} (hb : w.heap[b]? = some (.cells (Array.replicate s.toNat (.map none)) 76 (0, 0))) : MuK w (muV s y l (.slice (some ⟨b, 0, none⟩) s.toNat s.toNat)) s y l emU := by
  refine ⟨b, 0, s.toNat, List.replicate s.toNat (.map none), rfl, by simp, ?_⟩
  intro i x hx
  have hi : i < s.toNat := by
    have := (List.getElem?_eq_some_iff.1 hx).1
    simpa using this
  simp only [List.getElem?_replicate, hi, if_true, Option.some.injEq] at hx
  subst hx
  refine ⟨?_, .inl ⟨rfl, fun k => by simp [restr, emU]⟩⟩
  rw [cell_mk, hb]
  simp [hi]
set_option maxRecDepth 10000 in
theorem New_spec (s y l : Int) (hv : Geo s y l = true) (w : World) :
    VRet Try.prog 12 #[cfgV s y l] w fun v w' => (∃ st, v = .tuple #[st, .int .i64 0] ∧ MuK w' st s y l emU) ∧ Ext w w' := by
  refine VRet_start T.mo ok12 rfl fun Ψ hΨ => ?_; simp only [vc12, rs12]
  simp only [VS, VD, SV, SL, T, Nat.reduceEqDiff, Nat.reduceAdd, Nat.reduceSub, Nat.reduceMul, Nat.reduceLeDiff, Nat.reduceLT, reduceIte, cfgV]
  refine (Valid_spec s y l _).mono ?_
  rintro _ w1 ⟨rfl, hE1⟩
  replace hE1 := (((Ext.refl w).alloc _).alloc _).trans hE1
  simp only [VS, VD, SV, SL, T, Nat.reduceEqDiff, Nat.reduceAdd, Nat.reduceSub, Nat.reduceMul, Nat.reduceLeDiff, Nat.reduceLT, reduceIte, hv]
  have hp := Geo_spec hv
  refine DW_intro (fun _ _ v w => ∃ b, v = .slice (some ⟨b, 0, none⟩) s.toNat s.toNat ∧ w.heap[b]? = some (.cells (Array.replicate s.toNat (.map none)) 76 (0, 0))) ?_
  simp only [VS, VD, SV, SL, T, Nat.reduceEqDiff, Nat.reduceAdd, Nat.reduceSub, Nat.reduceMul, Nat.reduceLeDiff, Nat.reduceLT, reduceIte]
  refine rY_ph rfl rfl (fun v w w' ⟨b, h1, h2⟩ hE => ⟨b, h1, hE.obj h2⟩) (fun w' hE' _ => ?_) (fun v _ => ?_)
  · simp only [VS, VD, SV, SL, T, Nat.reduceEqDiff, Nat.reduceAdd, Nat.reduceSub, Nat.reduceMul, Nat.reduceLeDiff, Nat.reduceLT, reduceIte]
    exact ⟨by omega, (Ext.refl _).alloc _, _, rfl, by simp⟩
  simp only [VS, VD, SV, SL, T, Nat.reduceEqDiff, Nat.reduceAdd, Nat.reduceSub, Nat.reduceMul, Nat.reduceLeDiff, Nat.reduceLT, reduceIte]
  intro w' hE' hF
  obtain ⟨b, rfl, hb⟩ := FA_head hF
  simp only [VS, VD, SV, SL, T, Nat.reduceEqDiff, Nat.reduceAdd, Nat.reduceSub, Nat.reduceMul, Nat.reduceLeDiff, Nat.reduceLT, reduceIte]
  exact hΨ _ _ ⟨⟨_, rfl, MuK_none hb⟩, hE1.trans hE'⟩
set_option maxRecDepth 10000 in
theorem New_bad (s y l : Int) (hv : Geo s y l = false) (w : World) : VRet Try.prog 12 #[cfgV s y l] w fun v w' => v = .tuple #[muZ, .int .i64 1] ∧ Ext w w' := by
  refine VRet_start T.mo ok12 rfl fun Ψ hΨ => ?_; simp only [vc12, rs12]
  simp only [VS, VD, SV, SL, T, Nat.reduceEqDiff, Nat.reduceAdd, Nat.reduceSub, Nat.reduceMul, Nat.reduceLeDiff, Nat.reduceLT, reduceIte, cfgV]
  refine (Valid_spec s y l _).mono ?_
  rintro _ w1 ⟨rfl, hE1⟩
  rw [hv]
  simp only [VS, VD, SV, SL, T, Nat.reduceEqDiff, Nat.reduceAdd, Nat.reduceSub, Nat.reduceMul, Nat.reduceLeDiff, Nat.reduceLT, reduceIte, Bool.not_false]
  exact hΨ _ _ ⟨rfl, (((Ext.refl w).alloc tomb).alloc tomb).trans hE1⟩
set_option maxRecDepth 10000 in
theorem Forget_spec (s y l : Int) (hv : Geo s y l = true) (m : Bnd) (st : Value) (w : World) (h : MuK w st s y l m) : VRet Try.prog 24 #[st] w fun v w' => MuK w' v s y l emU ∧ Ext w w' := by
  have hp := Geo_spec hv
  obtain ⟨b, off, cap, rfl⟩ := h.form
  refine VRet_start T.mo ok24 rfl fun Ψ hΨ => ?_; simp only [vc24, rs24]
  simp only [VS, VD, SV, SL, T, Nat.reduceEqDiff, Nat.reduceAdd, Nat.reduceSub, Nat.reduceMul, Nat.reduceLeDiff, Nat.reduceLT, reduceIte, muV]
  refine (zero_spec s y l _ _ _ _).mono ?_
  rintro _ w1 ⟨rfl, hE1⟩
  replace hE1 := (((Ext.refl w).alloc _).alloc _).trans hE1
  rw [decide_eq_false (show ¬ (s.toNat : Int) = 0 by omega)]
  simp only [VS, VD, SV, SL, T, Nat.reduceEqDiff, Nat.reduceAdd, Nat.reduceSub, Nat.reduceMul, Nat.reduceLeDiff, Nat.reduceLT, reduceIte]
  refine DW_intro (fun _ _ v w => ∃ b, v = .slice (some ⟨b, 0, none⟩) s.toNat s.toNat ∧ w.heap[b]? = some (.cells (Array.replicate s.toNat (.map none)) 76 (0, 0))) ?_
  simp only [VS, VD, SV, SL, T, Nat.reduceEqDiff, Nat.reduceAdd, Nat.reduceSub, Nat.reduceMul, Nat.reduceLeDiff, Nat.reduceLT, reduceIte]
  refine rY_ph rfl rfl (fun v w w' ⟨b, h1, h2⟩ hE => ⟨b, h1, hE.obj h2⟩) (fun w' hE' _ => ?_) (fun v _ => ?_)
  · simp only [VS, VD, SV, SL, T, Nat.reduceEqDiff, Nat.reduceAdd, Nat.reduceSub, Nat.reduceMul, Nat.reduceLeDiff, Nat.reduceLT, reduceIte, Int.toNat_natCast]
    exact ⟨by omega, (Ext.refl _).alloc _, _, rfl, by simp⟩
  simp only [VS, VD, SV, SL, T, Nat.reduceEqDiff, Nat.reduceAdd, Nat.reduceSub, Nat.reduceMul, Nat.reduceLeDiff, Nat.reduceLT, reduceIte]
  intro w' hE' hF
  obtain ⟨b, rfl, hb⟩ := FA_head hF
  simp only [VS, VD, SV, SL, T, Nat.reduceEqDiff, Nat.reduceAdd, Nat.reduceSub, Nat.reduceMul, Nat.reduceLeDiff, Nat.reduceLT, reduceIte]
  exact hΨ _ _ ⟨MuK_none hb, hE1.trans hE'⟩
set_option maxRecDepth 10000 in
theorem Forget_zero (w : World) : VRet Try.prog 24 #[muZ] w fun v w' => v = muZ ∧ Ext w w' := by
  refine VRet_start T.mo ok24 rfl fun Ψ hΨ => ?_; simp only [vc24, rs24]
  simp only [VS, VD, SV, SL, T, Nat.reduceEqDiff, Nat.reduceAdd, Nat.reduceSub, Nat.reduceMul, Nat.reduceLeDiff, Nat.reduceLT, reduceIte, muV]
  refine (zero_spec 0 0 0 _ _ _ _).mono ?_
  rintro _ w1 ⟨rfl, hE1⟩
  have e0 : decide (((0 : Nat) : Int) = 0) = true := rfl
  rw [e0]
  simp only [VS, VD, SV, SL, T, Nat.reduceEqDiff, Nat.reduceAdd, Nat.reduceSub, Nat.reduceMul, Nat.reduceLeDiff, Nat.reduceLT, reduceIte]
  exact hΨ _ _ ⟨rfl, (((Ext.refl w).alloc tomb).alloc tomb).trans hE1⟩
def ageU (m : Bnd) (k : Int) : Int × Bool := if k < 0 then (0, false) else match m k with | some b => (b, true) | none => (0, false)
set_option maxRecDepth 10000 in
theorem Age_zero (k : Int) (w : World) : VRet Try.prog 18 #[muZ, .int .i64 k] w fun v w' => v = .tuple #[.int .i64 0, .bool false] ∧ Ext w w' := by
  refine VRet_start T.mo ok18 rfl fun Ψ hΨ => ?_; simp only [vc18, rs18]
  simp only [VS, VD, SV, SL, T, Nat.reduceEqDiff, Nat.reduceAdd, Nat.reduceSub, Nat.reduceMul, Nat.reduceLeDiff, Nat.reduceLT, reduceIte, muV]
  refine (zero_spec 0 0 0 _ _ _ _).mono ?_
  rintro _ w1 ⟨rfl, hE1⟩
  have e0 : decide (((0 : Nat) : Int) = 0) = true := rfl
  rw [e0]
  simp only [VS, VD, SV, SL, T, Nat.reduceEqDiff, Nat.reduceAdd, Nat.reduceSub, Nat.reduceMul, Nat.reduceLeDiff, Nat.reduceLT, reduceIte]
  exact hΨ _ _ ⟨rfl, ((Ext.refl w).alloc tomb).trans hE1⟩
set_option maxRecDepth 10000 in
theorem Age_spec (s y l : Int) (hv : Geo s y l = true) (m : Bnd) (st : Value) (k : Int) (w : World) (h : MuK w st s y l m) :
    VRet Try.prog 18 #[st, .int .i64 k] w fun v w' => v = .tuple #[.int .i64 (ageU m k).1, .bool (ageU m k).2] ∧ Ext w w' := by
  have hp := Geo_spec hv
  obtain ⟨b, off, cap, vs, rfl, hl, hc⟩ := h
  refine VRet_start T.mo ok18 rfl fun Ψ hΨ => ?_; simp only [vc18, rs18]
  simp only [VS, VD, SV, SL, T, Nat.reduceEqDiff, Nat.reduceAdd, Nat.reduceSub, Nat.reduceMul, Nat.reduceLeDiff, Nat.reduceLT, reduceIte, muV]
  refine (zero_spec s y l _ _ _ _).mono ?_
  rintro _ w1 ⟨rfl, hE1⟩
  replace hE1 := ((Ext.refl w).alloc tomb).trans hE1
  rw [decide_eq_false (show ¬ (s.toNat : Int) = 0 by omega)]
  simp only [VS, VD, SV, SL, T, Nat.reduceEqDiff, Nat.reduceAdd, Nat.reduceSub, Nat.reduceMul, Nat.reduceLeDiff, Nat.reduceLT, reduceIte]
  by_cases hk : k < 0
  · rw [decide_eq_true hk]
    simp only [VS, VD, SV, SL, T, Nat.reduceEqDiff, Nat.reduceAdd, Nat.reduceSub, Nat.reduceMul, Nat.reduceLeDiff, Nat.reduceLT, reduceIte]
    exact hΨ _ _ ⟨by simp [ageU, hk], hE1⟩
  · rw [decide_eq_false hk]
    have hm0 : 0 ≤ k % s := Int.emod_nonneg _ (by omega)
    have hm1 : k % s < s := Int.emod_lt_of_pos _ (by omega)
    obtain ⟨x, hx⟩ : ∃ x, vs[(k % s).toNat]? = some x := ⟨vs[(k % s).toNat]'(by omega), by simp⟩
    obtain ⟨hcell, hmap⟩ := hc _ _ hx
    obtain ⟨cs, e, fz, hb, hcs⟩ := cell_obj hcell
    have hb1 := hE1.obj hb
    simp only [VS, VD, SV, SL, T, Nat.reduceEqDiff, Nat.reduceAdd, Nat.reduceSub, Nat.reduceMul, Nat.reduceLeDiff, Nat.reduceLT, reduceIte]
    refine DW_intro (fun n _ v w => v = if n = 5 then .int .i64 (k % s) else .tuple #[.int .i64 ((restr s (k % s).toNat m k).getD 0), .bool (restr s (k % s).toNat m k).isSome]) ?_
    simp only [VS, VD, SV, SL, T, Nat.reduceEqDiff, Nat.reduceAdd, Nat.reduceSub, Nat.reduceMul, Nat.reduceLeDiff, Nat.reduceLT, reduceIte]
    refine rY_ph rfl rfl (fun v w w' h _ => h) (fun w' hE' _ => ?_) ?_
    · simp only [VS, VD, SV, SL, T, Nat.reduceEqDiff, Nat.reduceAdd, Nat.reduceSub, Nat.reduceMul, Nat.reduceLeDiff, Nat.reduceLT, reduceIte]
      refine (Set_spec s y l k w').mono ?_
      rintro _ w2 ⟨rfl, hE2⟩
      exact ⟨hE2, by rw [setOf_eq hv (by omega)]⟩
    rintro _ ⟨_, _, _, rfl⟩
    simp only [VS, VD, SV, SL, T, Nat.reduceEqDiff, Nat.reduceAdd, Nat.reduceSub, Nat.reduceMul, Nat.reduceLeDiff, Nat.reduceLT, reduceIte, hb1, hcs]
    refine ⟨by omega, ?_⟩
    refine rY_ph rfl rfl (fun v w w' h _ => h) (fun w' hE' _ => ?_) ?_
    · simp only [VS, VD, SV, SL, T, Nat.reduceEqDiff, Nat.reduceAdd, Nat.reduceSub, Nat.reduceMul, Nat.reduceLeDiff, Nat.reduceLT, reduceIte]
      exact (hmap.ext (hE1.trans hE')).look k ⟨Ext.refl _, rfl⟩
    rintro _ ⟨_, _, _, rfl⟩
    simp only [VS, VD, SV, SL, T, Nat.reduceEqDiff, Nat.reduceAdd, Nat.reduceSub, Nat.reduceMul, Nat.reduceLeDiff, Nat.reduceLT, reduceIte]
    intro w' hE' hF
    simp only [VS, VD, SV, SL, T, Nat.reduceEqDiff, Nat.reduceAdd, Nat.reduceSub, Nat.reduceMul, Nat.reduceLeDiff, Nat.reduceLT, reduceIte]
    refine hΨ _ _ ⟨?_, hE1.trans hE'⟩
    have hk0 : 0 ≤ k := by omega
    have hkr : restr s (k % s).toNat m k = m k := by simp only [restr]; rw [if_pos ⟨hk0, by omega⟩]
    rw [hkr]
    simp only [ageU, hk, if_false]
    cases m k <;> rfl
/-- what a round makes of a bound -/
def agV (y lim : Int) : Value → Option Value
  | .int _ b => (agU y lim b).map (.int .i64 ·)
  | _ => none
set_option maxRecDepth 10000 in
theorem grow_spec (y lim : Int) (r : Nat) (l0 : List Ent) (c0 : Nat) (hbd : ∀ p ∈ l0, ∃ b, p.2.1 = .int .i64 b ∧ 0 ≤ b ∧ b < 1000000) (w : World) (hr : w.heap[r]? = some (.map (mk l0) c0)) (hwf : MWF l0 c0) :
    VRet Try.prog 42 #[.map (some r), .int .i64 lim, .int .i64 y] w fun v w' => C.Chg (· = r) w w' ∧ ∃ lc, w'.heap[r]? = some (.map (mk lc) c0) ∧ MWF lc c0 ∧ ∀ k, mget lc k = (mget l0 k).bind (agV y lim) := by
  have hrl := get_lt hr
  refine VRet_start T.mo ok42 rfl fun Ψ hΨ => ?_; simp only [vc42, rs42]
  simp only [VS, VD, SV, SL, T, Nat.reduceEqDiff, Nat.reduceAdd, Nat.reduceSub, Nat.reduceMul, Nat.reduceLeDiff, Nat.reduceLT, reduceIte]
  refine rV_range (r := r) (es := mk l0) (c := c0) T.mp76 hr ?_
  simp only [VS, VD, SV, SL, T, Nat.reduceEqDiff, Nat.reduceAdd, Nat.reduceSub, Nat.reduceMul, Nat.reduceLeDiff, Nat.reduceLT, reduceIte]
  have n4 : ¬ r = w.heap.size := by omega
  have n5 : ¬ w.heap.size = r := by omega
  refine LoopP_intro (α := Array Nat) (fun seen f w'' => f 0 = .map (some r) ∧ f 1 = .int .i64 lim ∧ f 2 = .int .i64 y ∧
    f 9 = .pointer (some ⟨w.heap.size, 0, none⟩) ∧ w''.heap[w.heap.size]? = some (.mapIter (some r) c0 seen c0) ∧ (∃ lc, w''.heap[r]? = some (.map (mk lc) c0) ∧ TR l0 lc seen (agV y lim) c0) ∧ C.Chg (· = r) w w'') (fun seen => (todo l0 seen).length) #[] ?_ ?_
  · simp only [VS, VD, SV, SL, T, Nat.reduceEqDiff, Nat.reduceAdd, Nat.reduceSub, Nat.reduceMul, Nat.reduceLeDiff, Nat.reduceLT, reduceIte, n4, hr]
    exact ⟨⟨_, rfl, TR.start hwf _⟩, C.Chg.of_ext ((Ext.refl w).alloc _)⟩
  · rintro seen f w'' ⟨f0, f1, f2, f9, hit, ⟨lc, hlc, htr⟩, hch⟩
    have hl1 := get_lt hlc
    have hl2 := get_lt hit
    simp only [VS, VD, SV, SL, T, Nat.reduceEqDiff, Nat.reduceAdd, Nat.reduceSub, Nat.reduceMul, Nat.reduceLeDiff, Nat.reduceLT, reduceIte, f9]
    refine rV_next hit hlc htr.wf.lt (fun hall => ?_) (fun p hp hns w2 hw2 => ?_)
    · simp only [VS, VD, SV, SL, T, Nat.reduceEqDiff, Nat.reduceAdd, Nat.reduceSub, Nat.reduceMul, Nat.reduceLeDiff, Nat.reduceLT, reduceIte]
      exact hΨ _ _ ⟨hch, lc, hlc, htr.wf, htr.done hall⟩
    · have ew2 : w2.heap = w''.heap := by rcases hw2 with rfl | rfl <;> rfl
      have x2 : C.Chg (· = r) w w2 := by rcases hw2 with rfl | rfl <;> first | exact hch | exact ⟨hch.os, hch.tape, hch.output, hch.size, hch.get⟩
      have hput : ∀ o, C.Chg (· = r) w (w2.putb w.heap.size o) := fun o => ⟨x2.os, x2.tape, x2.output, by rw [putb_size]; exact x2.size, fun b hb hn => by rw [putb_get_ne (by omega)]; exact x2.get b hb hn⟩
      have hput2 : ∀ o o', C.Chg (· = r) w ((w2.putb w.heap.size o).putb r o') := fun o o' => ⟨x2.os, x2.tape, x2.output, by rw [putb_size, putb_size]; exact x2.size, fun b hb hn => by rw [putb_get_ne hn]; exact (hput o).get b hb hn⟩
      have hp1 := htr.old hp hns
      obtain ⟨bb, hbb, hb0, hby⟩ := hbd p hp1
      simp only [VS, VD, SV, SL, T, Nat.reduceEqDiff, Nat.reduceAdd, Nat.reduceSub, Nat.reduceMul, Nat.reduceLeDiff, Nat.reduceLT, reduceIte, f9]
      refine rV_entry (p := p) (seen := seen) (s := c0) (c := c0) (r := r) (l := lc) (by simp only [VS, VD, SV, SL, T, Nat.reduceEqDiff, Nat.reduceAdd, Nat.reduceSub, Nat.reduceMul, Nat.reduceLeDiff, Nat.reduceLT, reduceIte, ew2, hl2]) (by simp only [VS, VD, SV, SL, T, Nat.reduceEqDiff, Nat.reduceAdd, Nat.reduceSub, Nat.reduceMul, Nat.reduceLeDiff, Nat.reduceLT, reduceIte, ew2, hlc, n4]) htr.wf.borns hp ?_
      simp only [VS, VD, SV, SL, T, Nat.reduceEqDiff, Nat.reduceAdd, Nat.reduceSub, Nat.reduceMul, Nat.reduceLeDiff, Nat.reduceLT, reduceIte, hbb, f1]
      have hm : (todo l0 (seen.push p.2.2)).length < (todo l0 seen).length := todo_lt hp1 hns
      refine cnd_d (fun hlt => ?_) (fun hlt => ?_)
      · simp only [VS, VD, SV, SL, T, Nat.reduceEqDiff, Nat.reduceAdd, Nat.reduceSub, Nat.reduceMul, Nat.reduceLeDiff, Nat.reduceLT, reduceIte]
        exact ⟨seen.push p.2.2, ⟨f0, f1, f2, f9, by simp only [VS, VD, SV, SL, T, Nat.reduceEqDiff, Nat.reduceAdd, Nat.reduceSub, Nat.reduceMul, Nat.reduceLeDiff, Nat.reduceLT, reduceIte, ew2, hl2], ⟨lc, by simp only [VS, VD, SV, SL, T, Nat.reduceEqDiff, Nat.reduceAdd, Nat.reduceSub, Nat.reduceMul, Nat.reduceLeDiff, Nat.reduceLT, reduceIte, ew2, n4, hlc], htr.keep hp hns (by simp [hbb, agV, agU, hlt])⟩, hput _⟩, hm⟩
      · simp only [VS, VD, SV, SL, T, Nat.reduceEqDiff, Nat.reduceAdd, Nat.reduceSub, Nat.reduceMul, Nat.reduceLeDiff, Nat.reduceLT, reduceIte, f2]
        refine ⟨by omega, cnd_d (fun hge => ?_) (fun hge => ?_)⟩
        · simp only [VS, VD, SV, SL, T, Nat.reduceEqDiff, Nat.reduceAdd, Nat.reduceSub, Nat.reduceMul, Nat.reduceLeDiff, Nat.reduceLT, reduceIte, f0]
          refine rV_delete (l := lc) (c := c0) T.me76 (by simp only [VS, VD, SV, SL, T, Nat.reduceEqDiff, Nat.reduceAdd, Nat.reduceSub, Nat.reduceMul, Nat.reduceLeDiff, Nat.reduceLT, reduceIte, ew2, n4, hlc]) htr.wf.keys ?_
          simp only [VS, VD, SV, SL, T, Nat.reduceEqDiff, Nat.reduceAdd, Nat.reduceSub, Nat.reduceMul, Nat.reduceLeDiff, Nat.reduceLT, reduceIte]
          exact ⟨seen.push p.2.2, ⟨f0, f1, f2, f9, by simp only [VS, VD, SV, SL, T, Nat.reduceEqDiff, Nat.reduceAdd, Nat.reduceSub, Nat.reduceMul, Nat.reduceLeDiff, Nat.reduceLT, reduceIte, ew2, hl2, hl1, n5], ⟨mdel lc p.1, by simp only [VS, VD, SV, SL, T, Nat.reduceEqDiff, Nat.reduceAdd, Nat.reduceSub, Nat.reduceMul, Nat.reduceLeDiff, Nat.reduceLT, reduceIte, ew2, hl1], htr.del hp hns (by simp [hbb, agV, agU, hlt, hge])⟩, hput2 _ _⟩, hm⟩
        · simp only [VS, VD, SV, SL, T, Nat.reduceEqDiff, Nat.reduceAdd, Nat.reduceSub, Nat.reduceMul, Nat.reduceLeDiff, Nat.reduceLT, reduceIte, f0, hbb]
          refine ⟨by omega, rV_update (l := lc) (c := c0) T.me76 (by simp only [VS, VD, SV, SL, T, Nat.reduceEqDiff, Nat.reduceAdd, Nat.reduceSub, Nat.reduceMul, Nat.reduceLeDiff, Nat.reduceLT, reduceIte, ew2, n4, hlc]) htr.wf.keys ?_⟩
          rw [mset_old (mget_mem htr.wf.keys hp)]
          simp only [VS, VD, SV, SL, T, Nat.reduceEqDiff, Nat.reduceAdd, Nat.reduceSub, Nat.reduceMul, Nat.reduceLeDiff, Nat.reduceLT, reduceIte]
          exact ⟨seen.push p.2.2, ⟨f0, f1, f2, f9, by simp only [VS, VD, SV, SL, T, Nat.reduceEqDiff, Nat.reduceAdd, Nat.reduceSub, Nat.reduceMul, Nat.reduceLeDiff, Nat.reduceLT, reduceIte, ew2, hl2, hl1, n5], ⟨(mset lc c0 p.1 (.int .i64 (bb + 1))).1, by simp only [VS, VD, SV, SL, T, Nat.reduceEqDiff, Nat.reduceAdd, Nat.reduceSub, Nat.reduceMul, Nat.reduceLeDiff, Nat.reduceLT, reduceIte, ew2, hl1], htr.set hp hns (by simp [hbb, agV, agU, hlt, hge])⟩, hput2 _ _⟩, hm⟩
end Go.Proofs.Ytehmbpkcbmnfnaa

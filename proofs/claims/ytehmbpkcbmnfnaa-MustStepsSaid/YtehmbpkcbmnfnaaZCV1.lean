/-
  The statements of must: the laws' helpers awake, great, do, line.
-/
import Derived.Test.YtehmbpkcbmnfnaaZCU5
import Derived.Test.YtehmbpkcbmnfnaaZCUR
import Derived.Test.YtehmbpkcbmnfnaaZG
set_option linter.unusedSimpArgs false
set_option linter.unusedVariables false
namespace Go.Proofs.Ytehmbpkcbmnfnaa
open Go.W Go.RowKit
/-- the lines of a state within the laws' limits -/
def keysU (m : Bnd) : List Int := ((List.range 1001).map Int.ofNat).filter fun k => (m k).isSome
theorem keysU_of {y : Int} {m : Bnd} (hb : Bd y m) (hl : Lim m) : KeysOf m (keysU m) := by
  refine ⟨?_, fun k => ?_, fun k hk => ?_, ?_⟩
  · unfold keysU
    refine List.Pairwise.filter _ ?_
    rw [List.pairwise_map]
    refine List.pairwise_lt_range.imp ?_
    intro a b h
    simp only [Int.ofNat_eq_natCast]
    omega
  · unfold keysU
    rw [List.mem_filter, List.mem_map]
    constructor
    · intro h
      cases hm : m k with
      | none => exact (h hm).elim
      | some b =>
        have h1 := hb k b hm
        have h2 := hl k h
        exact ⟨⟨k.toNat, List.mem_range.2 (by omega), by simp only [Int.ofNat_eq_natCast]; omega⟩, rfl⟩
    · rintro ⟨_, h⟩ e
      rw [e] at h
      cases h
  · unfold keysU at hk
    rw [List.mem_filter, List.mem_map] at hk
    obtain ⟨⟨n, _, rfl⟩, _⟩ := hk
    simp only [Int.ofNat_eq_natCast]
    omega
  · unfold keysU
    refine Nat.le_trans (List.length_filter_le _ _) ?_
    simp
set_option maxRecDepth 10000 in
theorem awake_spec (w : World) : VRet Try.prog 11 #[] w fun v w' => v = .bool true ∧ Ext w w' := by
  have hv : Geo 1 2 1 = true := by decide
  refine VRet_start T.mo ok11 rfl fun Ψ hΨ => ?_; simp only [vc11, rs11]
  simp only [VS, VD, SV, SL, T, Nat.reduceEqDiff, Nat.reduceAdd, Nat.reduceSub, Nat.reduceMul, Nat.reduceLeDiff, Nat.reduceLT, reduceIte]
  refine (New_spec 1 2 1 hv _).mono ?_
  rintro _ w1 ⟨⟨st, rfl, hm⟩, hE⟩
  obtain ⟨b0, o0, c0, rfl⟩ := hm.form
  simp only [VS, VD, SV, SL, T, Nat.reduceEqDiff, Nat.reduceAdd, Nat.reduceSub, Nat.reduceMul, Nat.reduceLeDiff, Nat.reduceLT, reduceIte, muV]
  refine (Access_spec 1 2 1 hv _ (Bd_em 2) _ 1 _ (hm.ext ((Ext.refl _).alloc tomb))).mono ?_
  rintro _ w2 ⟨hm2, hE2⟩
  replace hE := (hE.alloc tomb).trans hE2
  have hb2 := (Bd_em 2).accX (s := 1) (k := 1) (by omega)
  simp only [VS, VD, SV, SL, T, Nat.reduceEqDiff, Nat.reduceAdd, Nat.reduceSub, Nat.reduceMul, Nat.reduceLeDiff, Nat.reduceLT, reduceIte]
  refine (Access_spec 1 2 1 hv _ hb2 _ 2 _ hm2).mono ?_
  rintro _ w3 ⟨hm3, hE3⟩
  replace hE := hE.trans hE3
  have hb3 := hb2.accX (s := 1) (k := 2) (by omega)
  obtain ⟨b3, o3, c3, rfl⟩ := hm3.form
  simp only [VS, VD, SV, SL, T, Nat.reduceEqDiff, Nat.reduceAdd, Nat.reduceSub, Nat.reduceMul, Nat.reduceLeDiff, Nat.reduceLT, reduceIte, muV]
  replace hm3 := hm3.ext ((Ext.refl _).alloc tomb)
  replace hE := hE.alloc tomb
  generalize w3.alloc tomb = w4 at *
  refine (AccessRange_spec 1 2 1 hv _ hb3 _ 5 6 (by omega) _ hm3).mono ?_
  rintro _ w5 ⟨hm5, hE5⟩
  replace hE := hE.trans hE5
  replace hm3 := hm3.ext hE5
  have hb5 := hb3.rngX (s := 1) (lo := 5) (hi := 6) (by omega)
  obtain ⟨b5, o5, c5, rfl⟩ := hm5.form
  simp only [VS, VD, SV, SL, T, Nat.reduceEqDiff, Nat.reduceAdd, Nat.reduceSub, Nat.reduceMul, Nat.reduceLeDiff, Nat.reduceLT, reduceIte, muV]
  replace hm3 := hm3.ext ((Ext.refl _).alloc tomb)
  replace hm5 := hm5.ext ((Ext.refl _).alloc tomb)
  replace hE := hE.alloc tomb
  generalize w5.alloc tomb = w6 at *
  refine (Age_spec 1 2 1 hv _ _ 1 _ hm3).mono ?_
  rintro _ w7 ⟨rfl, hE7⟩
  replace hm3 := hm3.ext hE7
  replace hm5 := hm5.ext hE7
  replace hE := hE.trans hE7
  simp only [VS, VD, SV, SL, T, Nat.reduceEqDiff, Nat.reduceAdd, Nat.reduceSub, Nat.reduceMul, Nat.reduceLeDiff, Nat.reduceLT, reduceIte, muV]
  refine (Age_spec 1 2 1 hv _ _ 2 _ hm5).mono ?_
  rintro _ w8 ⟨rfl, hE8⟩
  replace hm3 := hm3.ext hE8
  replace hm5 := hm5.ext hE8
  replace hE := hE.trans hE8
  simp only [VS, VD, SV, SL, T, Nat.reduceEqDiff, Nat.reduceAdd, Nat.reduceSub, Nat.reduceMul, Nat.reduceLeDiff, Nat.reduceLT, reduceIte, muV]
  refine (Age_spec 1 2 1 hv _ _ 1 _ hm5).mono ?_
  rintro _ w9 ⟨rfl, hE9⟩
  replace hm3 := hm3.ext hE9
  replace hm5 := hm5.ext hE9
  replace hE := hE.trans hE9
  have e1 : ageU (accX 1 2 (accX 1 2 emU 1) 2) 1 = (1, true) := by rfl
  have e2 : ageU (rngX 1 2 (accX 1 2 (accX 1 2 emU 1) 2) 5 6) 2 = (1, true) := by rfl
  have e3 : ageU (rngX 1 2 (accX 1 2 (accX 1 2 emU 1) 2) 5 6) 1 = (0, false) := by rfl
  have em : Lim emU := Lim_em
  have l1 : Lim (accX 1 2 emU 1) := em.acc (by omega)
  have l3 : Lim (accX 1 2 (accX 1 2 emU 1) 2) := l1.acc (by omega)
  have l5 : Lim (rngX 1 2 (accX 1 2 (accX 1 2 emU 1) 2) 5 6) := l3.rng
  have k3 : (keysU (accX 1 2 (accX 1 2 emU 1) 2)).length = 2 := by decide +kernel
  have k5 : (keysU (rngX 1 2 (accX 1 2 (accX 1 2 emU 1) 2) 5 6)).length = 1 := by decide +kernel
  have K3 := keysU_of hb3 l3
  have K5 := keysU_of hb5 l5
  generalize hm3e : accX 1 2 (accX 1 2 emU 1) 2 = m3 at *
  generalize hm5e : rngX 1 2 m3 5 6 = m5 at *
  simp only [VS, VD, SV, SL, T, Nat.reduceEqDiff, Nat.reduceAdd, Nat.reduceSub, Nat.reduceMul, Nat.reduceLeDiff, Nat.reduceLT, reduceIte, e1, e2, e3, muV]
  refine (Lines_spec 1 2 1 hv _ _ K3 _ _ hm3).mono ?_
  rintro v10 w10 ⟨hE10, ho⟩
  replace hm5 := hm5.ext hE10
  replace hE := hE.trans hE10
  obtain ⟨al, cl, rfl⟩ := ho.ints.form
  have k3' : decide (((keysU m3).length : Int) = 2) = true := by rw [k3]; rfl
  simp only [VS, VD, SV, SL, T, Nat.reduceEqDiff, Nat.reduceAdd, Nat.reduceSub, Nat.reduceMul, Nat.reduceLeDiff, Nat.reduceLT, reduceIte, k3']
  refine (Lines_spec 1 2 1 hv _ _ K5 _ _ hm5).mono ?_
  rintro v11 w11 ⟨hE11, ho1⟩
  replace hE := hE.trans hE11
  obtain ⟨al1, cl1, rfl⟩ := ho1.ints.form
  have k5' : decide (((keysU m5).length : Int) = 1) = true := by rw [k5]; rfl
  simp only [VS, VD, SV, SL, T, Nat.reduceEqDiff, Nat.reduceAdd, Nat.reduceSub, Nat.reduceMul, Nat.reduceLeDiff, Nat.reduceLT, reduceIte, k5']
  exact hΨ _ _ ⟨rfl, hE⟩
structure Op where
  lo : Int
  hi : Int
  pick : Int
def opR (x : Op) : List Value := [.int .i64 x.lo, .int .i64 x.hi, .int .u8 x.pick]
def opV (lo hi p : Int) : Value := .agg #[.int .i64 lo, .int .i64 hi, .int .u8 p]
def OpsAt (w : World) (v : Value) (L : List Op) : Prop := SlAt w v 3 (L.map opR)
theorem OpsAt.ext {w w' : World} {v : Value} {L : List Op} (h : OpsAt w v L) (hE : Ext w w') : OpsAt w' v L := SlAt.ext h hE
theorem OpsAt.form {w : World} {v : Value} {L : List Op} (h : OpsAt w v L) : ∃ a c, v = .slice a L.length c := by
  obtain ⟨a, c, h⟩ := SlAt.form h; exact ⟨a, c, by rw [h]; simp⟩
theorem OpsAt.get {w : World} {L : List Op} {a : Option Addr} {n c : Nat} (h : OpsAt w (.slice a n c) L) {i : Nat} (hi : i < L.length) :
    ∃ b off cs e fz, a = some ⟨b, off, none⟩ ∧ w.heap[b]? = some (.cells cs e fz) ∧ off + (i * 3 + 3) ≤ cs.size ∧ cs.extract (off + i * 3) (off + (i * 3 + 3)) = #[.int .i64 L[i].lo, .int .i64 L[i].hi, .int .u8 L[i].pick] := by
  obtain ⟨b, off, cs, e, fz, h1, _, h3, h4, h5⟩ := SlAt.get h (i := i) (r := opR L[i]) (by simp [hi])
  exact ⟨b, off, cs, e, fz, h1, h3, h4, h5⟩
def OpOk (x : Op) : Prop := i64ok x.lo ∧ i64ok x.hi ∧ 0 ≤ x.pick ∧ x.pick ≤ 255
def OpsOk (L : List Op) : Prop := L.length ≤ 9223372036854775807 ∧ ∀ x ∈ L, OpOk x
def OpL (x : Op) : Prop := x.lo ≤ 1000 ∧ x.hi ≤ 1000
def OpsL (L : List Op) : Prop := L.length ≤ 100 ∧ ∀ x ∈ L, OpL x
set_option maxRecDepth 10000 in
theorem great_spec (lv : Value) (L : List Op) (hmax : L.length ≤ 9223372036854775807) (w : World) (h : OpsAt w lv L) :
    VRet Try.prog 14 #[lv] w fun v w' => (∃ r : Bool, v = .bool r ∧ (r = false ↔ OpsL L)) ∧ Ext w w' := by
  obtain ⟨la, lc, rfl⟩ := h.form
  refine VRet_start T.mo ok14 rfl fun Ψ hΨ => ?_; simp only [vc14, rs14]
  simp only [VS, VD, SV, SL, T, Nat.reduceEqDiff, Nat.reduceAdd, Nat.reduceSub, Nat.reduceMul, Nat.reduceLeDiff, Nat.reduceLT, reduceIte]
  refine LoopP_intro (α := Nat) (fun i f' w' => f' 0 = .slice la L.length lc ∧ f' 5 = .slice la L.length lc ∧ f' 6 = .int .i64 L.length ∧ f' 7 = .int .i64 i ∧ i ≤ L.length ∧ Ext w w' ∧ ∀ (j : Nat) x, j < i → L[j]? = some x → OpL x) (fun i => L.length - i) 0 ?_ ?_
  · simp only [VS, VD, SV, SL, T, Nat.reduceEqDiff, Nat.reduceAdd, Nat.reduceSub, Nat.reduceMul, Nat.reduceLeDiff, Nat.reduceLT, reduceIte]
    exact ⟨rfl, by omega, Ext.refl w, by simp⟩
  · rintro i f' w' ⟨f0, f5, f6, f7, hile, hEx, hok⟩
    simp only [VS, VD, SV, SL, T, Nat.reduceEqDiff, Nat.reduceAdd, Nat.reduceSub, Nat.reduceMul, Nat.reduceLeDiff, Nat.reduceLT, reduceIte, f6, f7]
    refine cnd_d (fun hlt => ?_) (fun hlt => ?_)
    · have hi : i < L.length := by omega
      obtain ⟨b, off, cs, e, fz, rfl, hb, hle, hext⟩ := (h.ext hEx).get hi
      simp only [VS, VD, SV, SL, T, Nat.reduceEqDiff, Nat.reduceAdd, Nat.reduceSub, Nat.reduceMul, Nat.reduceLeDiff, Nat.reduceLT, reduceIte, f5, f7, Int.toNat_natCast, hb, hle, hext]
      refine ⟨by omega, ?_⟩
      have hEn := hEx.alloc tomb
      have hbad : ¬ OpL L[i] → (true = false ↔ OpsL L) := by
        intro hn
        simp only [Bool.true_eq_false, false_iff, OpsL]
        rintro ⟨_, hall⟩
        exact hn (hall _ (List.getElem_mem hi))
      refine YG_d (fun a1 => ?_) (fun a1 => ?_)
      · simp only [VS, VD, SV, SL, T, Nat.reduceEqDiff, Nat.reduceAdd, Nat.reduceSub, Nat.reduceMul, Nat.reduceLeDiff, Nat.reduceLT, reduceIte, a1]
        simp only [decide_eq_false_iff_not] at a1
        refine cnd_d (fun a4 => ?_) (fun a4 => ?_)
        · simp only [VS, VD, SV, SL, T, Nat.reduceEqDiff, Nat.reduceAdd, Nat.reduceSub, Nat.reduceMul, Nat.reduceLeDiff, Nat.reduceLT, reduceIte]
          exact hΨ _ _ ⟨⟨true, rfl, hbad (by unfold OpL; omega)⟩, hEn⟩
        · simp only [VS, VD, SV, SL, T, Nat.reduceEqDiff, Nat.reduceAdd, Nat.reduceSub, Nat.reduceMul, Nat.reduceLeDiff, Nat.reduceLT, reduceIte, f7]
          refine ⟨by omega, i + 1, ⟨f0, f5, f6, by simp, by omega, hEn, ?_⟩, by omega⟩
          intro j x hj hx
          by_cases e : j < i
          · exact hok j x e hx
          · obtain rfl : j = i := by omega
            rw [List.getElem?_eq_getElem hi] at hx
            simp only [Option.some.injEq] at hx
            subst hx
            unfold OpL; omega
      · simp only [VS, VD, SV, SL, T, Nat.reduceEqDiff, Nat.reduceAdd, Nat.reduceSub, Nat.reduceMul, Nat.reduceLeDiff, Nat.reduceLT, reduceIte, a1]
        simp only [Bool.not_false, decide_eq_true_eq] at a1
        exact hΨ _ _ ⟨⟨true, rfl, hbad (by unfold OpL; omega)⟩, hEn⟩
    · simp only [VS, VD, SV, SL, T, Nat.reduceEqDiff, Nat.reduceAdd, Nat.reduceSub, Nat.reduceMul, Nat.reduceLeDiff, Nat.reduceLT, reduceIte, f0]
      refine hΨ _ _ ⟨⟨_, rfl, ?_⟩, hEx⟩
      simp only [decide_eq_false_iff_not, OpsL]
      constructor
      · intro hl
        refine ⟨by omega, fun x hx => ?_⟩
        obtain ⟨j, hj, rfl⟩ := List.getElem_of_mem hx
        exact hok j _ (by omega) (List.getElem?_eq_getElem hj)
      · rintro ⟨h1, _⟩; omega
set_option maxRecDepth 10000 in
theorem do_spec (s y l : Int) (hv : Geo s y l = true) (m : Bnd) (hbd : Bd y m) (st : Value) (lo hi p : Int) (hhi : hi ≤ 9223372036854775807) (w : World) (h : MuK w st s y l m) :
    VRet Try.prog 15 #[st, opV lo hi p] w fun v w' => MuK w' v s y l (doU s y m lo hi) ∧ Ext w w' := by
  obtain ⟨b, off, cap, rfl⟩ := h.form
  refine VRet_start T.mo ok15 rfl fun Ψ hΨ => ?_; simp only [vc15, rs15]
  simp only [VS, VD, SV, SL, T, Nat.reduceEqDiff, Nat.reduceAdd, Nat.reduceSub, Nat.reduceMul, Nat.reduceLeDiff, Nat.reduceLT, reduceIte, muV, opV]
  have hE := (((Ext.refl w).alloc tomb).alloc tomb).alloc tomb
  replace h := h.ext hE
  generalize ((w.alloc tomb).alloc tomb).alloc tomb = w1 at *
  have hF : (lo = -1 ∧ hi = -1) → ∀ Q : Value → World → Prop, (∀ v w', MuK w' v s y l (doU s y m lo hi) ∧ Ext w w' → Q v w') → VRet Try.prog 24 #[muV s y l (.slice (some ⟨b, off, none⟩) s.toNat cap)] w1 Q := by
    intro hc Q hQ
    refine (Forget_spec s y l hv m _ _ h).mono ?_
    rintro v w2 ⟨hm, hE2⟩
    refine hQ v w2 ⟨?_, hE.trans hE2⟩
    unfold doU; rw [if_pos hc]; exact hm
  have hA : ¬ (lo = -1 ∧ hi = -1) → lo = hi → ∀ Q : Value → World → Prop, (∀ v w', MuK w' v s y l (doU s y m lo hi) ∧ Ext w w' → Q v w') → VRet Try.prog 21 #[muV s y l (.slice (some ⟨b, off, none⟩) s.toNat cap), .int .i64 lo] w1 Q := by
    intro hc he Q hQ
    refine (Access_spec s y l hv m hbd _ lo _ h).mono ?_
    rintro v w2 ⟨hm, hE2⟩
    refine hQ v w2 ⟨?_, hE.trans hE2⟩
    unfold doU; rw [if_neg hc, if_pos he]; exact hm
  have hR : ¬ (lo = -1 ∧ hi = -1) → ¬ lo = hi → ∀ Q : Value → World → Prop, (∀ v w', MuK w' v s y l (doU s y m lo hi) ∧ Ext w w' → Q v w') → VRet Try.prog 26 #[muV s y l (.slice (some ⟨b, off, none⟩) s.toNat cap), .int .i64 lo, .int .i64 hi] w1 Q := by
    intro hc he Q hQ
    refine (AccessRange_spec s y l hv m hbd _ lo hi hhi _ h).mono ?_
    rintro v w2 ⟨hm, hE2⟩
    refine hQ v w2 ⟨?_, hE.trans hE2⟩
    unfold doU; rw [if_neg hc, if_neg he]; exact hm
  by_cases h1 : lo = -1
  · rw [decide_eq_true h1]
    simp only [VS, VD, SV, SL, T, Nat.reduceEqDiff, Nat.reduceAdd, Nat.reduceSub, Nat.reduceMul, Nat.reduceLeDiff, Nat.reduceLT, reduceIte]
    by_cases h2 : hi = -1
    · rw [decide_eq_true h2]
      simp only [VS, VD, SV, SL, T, Nat.reduceEqDiff, Nat.reduceAdd, Nat.reduceSub, Nat.reduceMul, Nat.reduceLeDiff, Nat.reduceLT, reduceIte]
      refine hF ⟨h1, h2⟩ _ ?_
      rintro v w2 ⟨hm, hE2⟩
      obtain ⟨b2, o2, c2, rfl⟩ := hm.form
      simp only [VS, VD, SV, SL, T, Nat.reduceEqDiff, Nat.reduceAdd, Nat.reduceSub, Nat.reduceMul, Nat.reduceLeDiff, Nat.reduceLT, reduceIte, muV]
      exact hΨ _ _ ⟨hm, hE2⟩
    · rw [decide_eq_false h2]
      simp only [VS, VD, SV, SL, T, Nat.reduceEqDiff, Nat.reduceAdd, Nat.reduceSub, Nat.reduceMul, Nat.reduceLeDiff, Nat.reduceLT, reduceIte]
      rw [decide_eq_false (show ¬ lo = hi by omega)]
      simp only [VS, VD, SV, SL, T, Nat.reduceEqDiff, Nat.reduceAdd, Nat.reduceSub, Nat.reduceMul, Nat.reduceLeDiff, Nat.reduceLT, reduceIte]
      refine hR (by omega) (by omega) _ ?_
      rintro v w2 ⟨hm, hE2⟩
      obtain ⟨b2, o2, c2, rfl⟩ := hm.form
      simp only [VS, VD, SV, SL, T, Nat.reduceEqDiff, Nat.reduceAdd, Nat.reduceSub, Nat.reduceMul, Nat.reduceLeDiff, Nat.reduceLT, reduceIte, muV]
      exact hΨ _ _ ⟨hm, hE2⟩
  · rw [decide_eq_false h1]
    simp only [VS, VD, SV, SL, T, Nat.reduceEqDiff, Nat.reduceAdd, Nat.reduceSub, Nat.reduceMul, Nat.reduceLeDiff, Nat.reduceLT, reduceIte]
    by_cases h2 : lo = hi
    · rw [decide_eq_true h2]
      simp only [VS, VD, SV, SL, T, Nat.reduceEqDiff, Nat.reduceAdd, Nat.reduceSub, Nat.reduceMul, Nat.reduceLeDiff, Nat.reduceLT, reduceIte]
      refine hA (by omega) h2 _ ?_
      rintro v w2 ⟨hm, hE2⟩
      obtain ⟨b2, o2, c2, rfl⟩ := hm.form
      simp only [VS, VD, SV, SL, T, Nat.reduceEqDiff, Nat.reduceAdd, Nat.reduceSub, Nat.reduceMul, Nat.reduceLeDiff, Nat.reduceLT, reduceIte, muV]
      exact hΨ _ _ ⟨hm, hE2⟩
    · rw [decide_eq_false h2]
      simp only [VS, VD, SV, SL, T, Nat.reduceEqDiff, Nat.reduceAdd, Nat.reduceSub, Nat.reduceMul, Nat.reduceLeDiff, Nat.reduceLT, reduceIte]
      refine hR (by omega) h2 _ ?_
      rintro v w2 ⟨hm, hE2⟩
      obtain ⟨b2, o2, c2, rfl⟩ := hm.form
      simp only [VS, VD, SV, SL, T, Nat.reduceEqDiff, Nat.reduceAdd, Nat.reduceSub, Nat.reduceMul, Nat.reduceLeDiff, Nat.reduceLT, reduceIte, muV]
      exact hΨ _ _ ⟨hm, hE2⟩
set_option maxRecDepth 10000 in
theorem line_spec (lo hi p : Int) (hb : hi ≤ 1000) (hp : 0 ≤ p ∧ p ≤ 255) (w : World) :
    VRet Try.prog 34 #[opV lo hi p] w fun v w' => v = .int .i64 ((lineM lo hi p).getD (-1)) ∧ Ext w w' := by
  refine VRet_start T.mo ok34 rfl fun Ψ hΨ => ?_; simp only [vc34, rs34]
  simp only [VS, VD, SV, SL, T, Nat.reduceEqDiff, Nat.reduceAdd, Nat.reduceSub, Nat.reduceMul, Nat.reduceLeDiff, Nat.reduceLT, reduceIte, opV]
  have hEa := (Ext.refl w).alloc tomb
  refine cnd_d (fun hq => ?_) (fun hq => ?_)
  · simp only [VS, VD, SV, SL, T, Nat.reduceEqDiff, Nat.reduceAdd, Nat.reduceSub, Nat.reduceMul, Nat.reduceLeDiff, Nat.reduceLT, reduceIte]
    refine hΨ _ _ ⟨?_, hEa⟩
    have : lineM lo hi p = none := by unfold lineM; rw [if_pos hq]
    rw [this]; rfl
  · have hl : lineM lo hi p = some (max lo 0 + p % (hi - max lo 0 + 1)) := by unfold lineM; rw [if_neg hq]
    have h1 := Int.emod_nonneg p (show hi - max lo 0 + 1 ≠ 0 by omega)
    have h2 := Int.emod_lt_of_pos p (show 0 < hi - max lo 0 + 1 by omega)
    simp only [VS, VD, SV, SL, T, Nat.reduceEqDiff, Nat.reduceAdd, Nat.reduceSub, Nat.reduceMul, Nat.reduceLeDiff, Nat.reduceLT, reduceIte]
    refine ⟨by omega, by omega, by omega, by omega, by omega, ?_⟩
    refine hΨ _ _ ⟨?_, hEa⟩
    rw [hl]; rfl
end Go.Proofs.Ytehmbpkcbmnfnaa

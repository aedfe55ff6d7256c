/-
  MustSound.
-/
import Derived.Test.YtehmbpkcbmnfnaaZCV3
import Derived.Test.YtehmbpkcbmnfnaaZK
import Derived.Test.YtehmbpkcbmnfnaaZU
set_option linter.unusedSimpArgs false
set_option linter.unusedVariables false
namespace Go.Proofs.Ytehmbpkcbmnfnaa
open Go.W Go.RowKit
open C (dst stS addH hitS ptr CacheAt Mv)
theorem mv_hid {F F' : Nat → Prop} {w w' : World} (h : Mv F w F' w') : Per (hid F w) (hid F' w') := by
  intro b o hb ho
  obtain ⟨h1, h2⟩ := tombW_real hb ho
  have hlt := get_lt h2
  have hf := hidF_false.1 h1
  unfold hid
  rw [tombW_see (hidF_false.2 fun hf' => (h.2 b hf').elim hf (by omega)), h.1.get b hlt hf]
  exact h2
theorem des_at {s y l : Int} (hg : Geo s y l = true) {m : Bnd} (hb : Bd y m) {H : Nat → List Int} (h : DesU s m H) {k b : Int} (hk : m k = some b) : ∃ j : Nat, (j : Int) ≤ b ∧ ((stS s y H).getD (k % s).toNat [])[j]? = some k ∧ C.idxI ((stS s y H).getD (k % s).toNat []) k = j := by
  have hp := Geo_spec hg
  obtain ⟨j, hj, e⟩ := h k b hk
  have hkb := hb k b hk
  have h0 := Int.emod_nonneg k (show s ≠ 0 by omega)
  have h1 := Int.emod_lt_of_pos k (show 0 < s by omega)
  rw [C.stS_getD (show (k % s).toNat < s.toNat by omega)]
  have ht : ((dst (H (k % s).toNat)).take y.toNat)[j]? = some k := by rw [List.getElem?_take_of_lt (by omega)]; exact e
  exact ⟨j, hj, ht, C.idxI_take ((C.dst_nodup _).sublist (List.take_sublist _ _)) ht⟩
theorem desQ_of {s y l : Int} (hg : Geo s y l = true) {m : Bnd} (hb : Bd y m) {H : Nat → List Int} (h : DesU s m H) : DesQ m s (stS s y H) := by
  have hp := Geo_spec hg
  refine ⟨by rw [C.stS_len]; omega, fun k b hk => ?_⟩
  obtain ⟨j, hj, _, e⟩ := des_at hg hb h hk
  rw [e]
  omega
theorem hit_of {s y l : Int} (hg : Geo s y l = true) {m : Bnd} (hb : Bd y m) {H : Nat → List Int} (h : DesU s m H) {k b : Int} (hk : m k = some b) : hitS s l (stS s y H) (k * l) = true := by
  have hp := Geo_spec hg
  obtain ⟨j, hj, e, _⟩ := des_at hg hb h hk
  have hkb := hb k b hk
  unfold hitS C.lnS
  rw [Int.mul_ediv_cancel k (by omega)]
  exact decide_eq_true ⟨Int.mul_nonneg hkb.1 (by omega), List.mem_of_getElem? e⟩
theorem age_of {s y l : Int} (hg : Geo s y l = true) {m : Bnd} (hb : Bd y m) {H : Nat → List Int} (h : DesU s m H) {k b : Int} (hk : m k = some b) : 0 ≤ C.ageS s y l (stS s y H) k ∧ C.ageS s y l (stS s y H) k ≤ b := by
  obtain ⟨j, hj, _, e⟩ := des_at hg hb h hk
  have hkb := hb k b hk
  unfold C.ageS
  rw [if_pos hkb.1, e]
  omega
theorem lines_small {s y l : Int} (hg : Geo s y l = true) (H : Nat → List Int) : (stS s y H).length ≤ 1000000 ∧ ∀ li ∈ stS s y H, li.length ≤ 1000000 := by
  have hp := Geo_spec hg
  rw [C.stS_len]
  refine ⟨by omega, fun li hli => ?_⟩
  obtain ⟨j, hj, e⟩ := List.getElem_of_mem hli
  have := (C.stS_some (show (stS s y H)[j]? = some li by rw [List.getElem?_eq_getElem hj, e])).2
  rw [this]
  have : ((dst (H j)).take y.toNat).length ≤ y.toNat := List.length_take_le ..
  omega
theorem ageU_yes {m : Bnd} {k : Int} (h : (ageU m k).2 = true) : ∃ b, m k = some b := by
  unfold ageU at h
  split at h
  · cases h
  · split at h
    · rename_i b hb; exact ⟨b, hb⟩
    · cases h
set_option maxHeartbeats 2000000 in
set_option maxRecDepth 100000 in
theorem MustSound_spec (s y l : Int) (av : Value) (A : List Int) (lv : Value) (Q : List Op) (w : World) (ha : IntsAt w av A) (hAM : A.length ≤ maxLen ∧ ∀ x ∈ A, i64ok x) (h : OpsAt w lv Q) (hQM : OpsOk Q) :
    VRet Try.prog 9 #[cfgV s y l, av, lv] w fun v w' => v = .bool true ∧ Ext w w' := by
  obtain ⟨aa, ac, rfl⟩ := ha.form
  obtain ⟨la, lc, rfl⟩ := h.form
  refine VRet_start T.mo ok9 rfl fun Ψ hΨ => ?_; simp only [vc9, rs9]
  simp only [VS, VD, SV, SL, T, Nat.reduceEqDiff, Nat.reduceAdd, Nat.reduceSub, Nat.reduceMul, Nat.reduceLeDiff, Nat.reduceLT, reduceIte, cfgV]
  refine (awake_spec _).mono ?_
  rintro _ w1 ⟨rfl, hE⟩
  replace hE := ((Ext.refl w).alloc tomb).trans hE
  simp only [VS, VD, SV, SL, T, Nat.reduceEqDiff, Nat.reduceAdd, Nat.reduceSub, Nat.reduceMul, Nat.reduceLeDiff, Nat.reduceLT, reduceIte]
  refine (C.New_spec s y l _).mono ?_
  have z0 : decide (¬ (0 : Int) = 0) = false := rfl
  have z1 : decide (¬ (1 : Int) = 0) = true := rfl
  rintro v4 w4 (⟨hv, rfl, hE4⟩ | ⟨hv, p, rfl, hC, hE4⟩)
  · simp only [VS, VD, SV, SL, T, Nat.reduceEqDiff, Nat.reduceAdd, Nat.reduceSub, Nat.reduceMul, Nat.reduceLeDiff, Nat.reduceLT, reduceIte]
    refine (New_bad s y l hv _).mono ?_
    rintro _ w5 ⟨rfl, hE5⟩
    simp only [VS, VD, SV, SL, T, Nat.reduceEqDiff, Nat.reduceAdd, Nat.reduceSub, Nat.reduceMul, Nat.reduceLeDiff, Nat.reduceLT, reduceIte, muV, z1]
    exact hΨ _ _ ⟨rfl, ((hE.trans hE4).trans hE5).alloc tomb⟩
  have hp := Geo_spec hv
  have hF4 : ∀ b, (w1.heap.size ≤ b ∧ b < w4.heap.size) → w.heap.size ≤ b := fun b hb => Nat.le_trans hE.size hb.1
  replace hE := hE.trans hE4
  simp only [VS, VD, SV, SL, T, Nat.reduceEqDiff, Nat.reduceAdd, Nat.reduceSub, Nat.reduceMul, Nat.reduceLeDiff, Nat.reduceLT, reduceIte]
  refine (VRet.hid (F := fun b => w1.heap.size ≤ b ∧ b < w4.heap.size) (fun b hb => hb.2) (New_spec s y l hv _)).mono ?_
  rintro _ w5 ⟨w1h, ⟨⟨st, rfl, hm⟩, hEh⟩, hper, _, _, hEE⟩
  have hE5 := hEE hEh
  replace hm := hm.per hper
  replace hE := hE.trans hE5
  obtain ⟨b0, o0, c0, rfl⟩ := hm.form
  simp only [VS, VD, SV, SL, T, Nat.reduceEqDiff, Nat.reduceAdd, Nat.reduceSub, Nat.reduceMul, Nat.reduceLeDiff, Nat.reduceLT, reduceIte, muV, z0]
  have hE6 := (Ext.refl w5).alloc tomb
  replace hE := hE.trans hE6
  replace hm := hm.per (hid_ext hE6)
  replace hC := hC.ext (hE5.trans hE6)
  generalize w5.alloc tomb = w6 at *
  refine (great_spec _ Q hQM.1 _ (h.ext hE)).mono ?_
  rintro _ w7 ⟨⟨r, rfl, hr⟩, hE7⟩
  replace hE := hE.trans hE7
  cases r with
  | true =>
    simp only [VS, VD, SV, SL, T, Nat.reduceEqDiff, Nat.reduceAdd, Nat.reduceSub, Nat.reduceMul, Nat.reduceLeDiff, Nat.reduceLT, reduceIte]
    exact hΨ _ _ ⟨rfl, hE⟩
  | false =>
    have hQL := hr.1 rfl
    replace hm := hm.per (hid_ext hE7)
    replace hC := hC.ext hE7
    rw [show List.replicate s.toNat [] = stS s y fun _ => [] from C.emp_stS s y] at hC
    simp only [VS, VD, SV, SL, T, Nat.reduceEqDiff, Nat.reduceAdd, Nat.reduceSub, Nat.reduceMul, Nat.reduceLeDiff, Nat.reduceLT, reduceIte]
    refine cnd_d (fun hl => ?_) (fun hl => ?_)
    · simp only [VS, VD, SV, SL, T, Nat.reduceEqDiff, Nat.reduceAdd, Nat.reduceSub, Nat.reduceMul, Nat.reduceLeDiff, Nat.reduceLT, reduceIte]
      exact hΨ _ _ ⟨rfl, hE⟩
    simp only [VS, VD, SV, SL, T, Nat.reduceEqDiff, Nat.reduceAdd, Nat.reduceSub, Nat.reduceMul, Nat.reduceLeDiff, Nat.reduceLT, reduceIte]
    refine loop_cB (fun f' w' => f' 2 = .slice la Q.length lc ∧ f' 3 = .agg #[.int .i64 s, .int .i64 y, .int .i64 l] ∧ f' 7 = ptr p ∧ Ext w w' ∧
      ∃ F H, MuK (hid F w') (f' 9) s y l emU ∧ CacheAt w' F p s y l (stS s y H) ∧ (∀ b, F b → w.heap.size ≤ b) ∧ Hok s H) ?_ ?_
    · refine LoopP_intro (α := Nat) (fun i f' w' => f' 2 = .slice la Q.length lc ∧ f' 3 = .agg #[.int .i64 s, .int .i64 y, .int .i64 l] ∧ f' 7 = ptr p ∧ f' 49 = .slice aa A.length ac ∧ f' 50 = .int .i64 A.length ∧ f' 51 = .int .i64 i ∧ i ≤ A.length ∧ Ext w w' ∧
        ∃ F H, MuK (hid F w') (f' 9) s y l emU ∧ CacheAt w' F p s y l (stS s y H) ∧ (∀ b, F b → w.heap.size ≤ b) ∧ Hok s H) (fun i => A.length - i) 0 ?_ ?_
      · simp only [VS, VD, SV, SL, T, Nat.reduceEqDiff, Nat.reduceAdd, Nat.reduceSub, Nat.reduceMul, Nat.reduceLeDiff, Nat.reduceLT, reduceIte, muV]
        exact ⟨rfl, Nat.zero_le _, hE, _, fun _ => [], hm, hC, hF4, fun i k hk => by simp at hk⟩
      · clear hm hC
        rintro i f' wo ⟨f2, f3, f7, f49, f50, f51, hi, hEx, F, H, hm, hC, hF, hH⟩
        simp only [VS, VD, SV, SL, T, Nat.reduceEqDiff, Nat.reduceAdd, Nat.reduceSub, Nat.reduceMul, Nat.reduceLeDiff, Nat.reduceLT, reduceIte, f51, f50]
        refine cnd_d (fun hlt => ?_) (fun hlt => ?_)
        · have hi' : i < A.length := by omega
          obtain ⟨b, off, cs, e, fz, rfl, _, hb, hc⟩ := (ha.ext hEx).get (i := i) (x := A[i]) (by simp [hi'])
          generalize A[i] = a at *
          simp only [VS, VD, SV, SL, T, Nat.reduceEqDiff, Nat.reduceAdd, Nat.reduceSub, Nat.reduceMul, Nat.reduceLeDiff, Nat.reduceLT, reduceIte, f49, f51, Int.toNat_natCast, hb, hc]
          refine ⟨by omega, ?_⟩
          refine cnd_d (fun hq => ?_) (fun hq => ?_)
          · simp only [VS, VD, SV, SL, T, Nat.reduceEqDiff, Nat.reduceAdd, Nat.reduceSub, Nat.reduceMul, Nat.reduceLeDiff, Nat.reduceLT, reduceIte, f7]
            refine (C.Access_mv hv hC a (by omega)).mono ?_
            rintro _ w8 ⟨rfl, F', hC8, hm8⟩
            simp only [VS, VD, SV, SL, T, Nat.reduceEqDiff, Nat.reduceAdd, Nat.reduceSub, Nat.reduceMul, Nat.reduceLeDiff, Nat.reduceLT, reduceIte, f51]
            exact ⟨by omega, i + 1, ⟨f2, f3, f7, f49, f50, by simp, by omega, hm8.ext hEx hF, F', _, hm.per (mv_hid hm8), hC8, hm8.above hEx.size hF, hH.add (by omega) _⟩, by omega⟩
          · simp only [VS, VD, SV, SL, T, Nat.reduceEqDiff, Nat.reduceAdd, Nat.reduceSub, Nat.reduceMul, Nat.reduceLeDiff, Nat.reduceLT, reduceIte, f51]
            exact ⟨by omega, i + 1, ⟨f2, f3, f7, f49, f50, by simp, by omega, hEx, F, H, hm, hC, hF, hH⟩, by omega⟩
        · simp only [VS, VD, SV, SL, T, Nat.reduceEqDiff, Nat.reduceAdd, Nat.reduceSub, Nat.reduceMul, Nat.reduceLeDiff, Nat.reduceLT, reduceIte]
          exact ⟨f2, f3, f7, hEx, F, H, hm, hC, hF, hH⟩
    clear hm hC
    rintro f0 w8 ⟨f2, f3, f7, hE8, F, H, hm, hC, hF, hH⟩
    simp only [VS, VD, SV, SL, T, Nat.reduceEqDiff, Nat.reduceAdd, Nat.reduceSub, Nat.reduceMul, Nat.reduceLeDiff, Nat.reduceLT, reduceIte, f2]
    refine LoopP_intro (α := Nat) (fun i f' w' => f' 3 = .agg #[.int .i64 s, .int .i64 y, .int .i64 l] ∧ f' 7 = ptr p ∧ f' 61 = .slice la Q.length lc ∧ f' 62 = .int .i64 Q.length ∧ f' 63 = .int .i64 i ∧ i ≤ Q.length ∧ Ext w w' ∧
      ∃ M F H, MuK (hid F w') (f' 9) s y l M ∧ Bd y M ∧ Lim M ∧ CacheAt w' F p s y l (stS s y H) ∧ (∀ b, F b → w.heap.size ≤ b) ∧ Hok s H ∧ DesU s M H) (fun i => Q.length - i) 0 ?_ ?_
    · simp only [VS, VD, SV, SL, T, Nat.reduceEqDiff, Nat.reduceAdd, Nat.reduceSub, Nat.reduceMul, Nat.reduceLeDiff, Nat.reduceLT, reduceIte, f3, f7]
      exact ⟨rfl, Nat.zero_le _, hE8, emU, F, H, hm, Bd_em y, Lim_em, hC, hF, hH, DesU_em s H⟩
    clear hm hC hF hH f2 f3 f7 f0
    rintro i f' wo ⟨f3, f7, f61, f62, f63, hi, hEx, M, F, H, hm, hbd, hlim, hC, hF, hH, hD⟩
    obtain ⟨b9, o9, c9, f9⟩ := hm.form
    rw [f9] at hm
    simp only [VS, VD, SV, SL, T, Nat.reduceEqDiff, Nat.reduceAdd, Nat.reduceSub, Nat.reduceMul, Nat.reduceLeDiff, Nat.reduceLT, reduceIte, f63, f62]
    refine cnd_d (fun hlt => ?_) (fun hlt => ?_)
    · have hi' : i < Q.length := by omega
      obtain ⟨b, off, cs, e, fz, rfl, hb, hle2, hext⟩ := (h.ext hEx).get hi'
      have hop := hQL.2 _ (List.getElem_mem hi')
      have hok := hQM.2 _ (List.getElem_mem hi')
      have hlen := hQL.1
      unfold OpL at hop
      unfold OpOk at hok
      generalize Q[i] = q at *
      simp only [VS, VD, SV, SL, T, Nat.reduceEqDiff, Nat.reduceAdd, Nat.reduceSub, Nat.reduceMul, Nat.reduceLeDiff, Nat.reduceLT, reduceIte, f61, f63, Int.toNat_natCast, hb, hle2, hext]
      refine ⟨by omega, ?_⟩
      have hEb := (Ext.refl wo).alloc tomb
      refine (line_spec q.lo q.hi q.pick (by omega) (by omega) _).mono ?_
      rintro _ w9 ⟨rfl, hE9⟩
      replace hE9 := hEb.trans hE9
      replace hC := hC.ext hE9
      replace hm := hm.per (hid_ext (F := F) hE9)
      replace hEx := hEx.trans hE9
      have hD' := hD.do hv hbd (lo := q.lo) (hi := q.hi) (p := q.pick) (by omega)
      have hH' := Hok.accH hv hH (lineM q.lo q.hi q.pick)
      have hln : ∀ n, lineM q.lo q.hi q.pick = some n → 0 ≤ n ∧ n ≤ 1000 := fun n hn => by have := lineM_in (by omega) hn; omega
      have hbd' := hbd.do (s := s) (lo := q.lo) (hi := q.hi) hp.2.2.1
      have hlim' := hlim.do (s := s) (y := y) hop.1 hop.2
      generalize hkk : (lineM q.lo q.hi q.pick).getD (-1) = k at *
      simp only [VS, VD, SV, SL, T, Nat.reduceEqDiff, Nat.reduceAdd, Nat.reduceSub, Nat.reduceMul, Nat.reduceLeDiff, Nat.reduceLT, reduceIte]
      generalize hdk : decide (0 ≤ k) = dk
      refine YG_c (fun g wx => wx = w9 ∧ g 3 = .agg #[.int .i64 s, .int .i64 y, .int .i64 l] ∧ g 7 = ptr p ∧ g 9 = muV s y l (.slice (some ⟨b9, o9, none⟩) s.toNat c9) ∧ g 14 = .agg #[.int .i64 q.lo, .int .i64 q.hi, .int .u8 q.pick] ∧ g 15 = .int .i64 k ∧ g 61 = .slice (some ⟨b, off, none⟩) Q.length lc ∧ g 62 = .int .i64 Q.length ∧ g 63 = .int .i64 i ∧ g 77 = .bool (dk && decide (q.lo = q.hi))) ?_ ?_
      · cases dk with
        | true => simp only [VS, VD, SV, SL, T, Nat.reduceEqDiff, Nat.reduceAdd, Nat.reduceSub, Nat.reduceMul, Nat.reduceLeDiff, Nat.reduceLT, reduceIte, f3, f7, f9, f61, f62, f63, Bool.true_and]
        | false => simp only [VS, VD, SV, SL, T, Nat.reduceEqDiff, Nat.reduceAdd, Nat.reduceSub, Nat.reduceMul, Nat.reduceLeDiff, Nat.reduceLT, reduceIte, f3, f7, f9, f61, f62, f63, Bool.false_and]
      clear f3 f7 f9 f61 f62 f63
      rintro g wx ⟨rfl, f3, f7, f9, f14, f15, f61, f62, f63, f77⟩
      simp only [VS, VD, SV, SL, T, Nat.reduceEqDiff, Nat.reduceAdd, Nat.reduceSub, Nat.reduceMul, Nat.reduceLeDiff, Nat.reduceLT, reduceIte, f77]
      refine cnd_c (fun g wy => g 3 = .agg #[.int .i64 s, .int .i64 y, .int .i64 l] ∧ g 7 = ptr p ∧ g 9 = muV s y l (.slice (some ⟨b9, o9, none⟩) s.toNat c9) ∧ g 14 = .agg #[.int .i64 q.lo, .int .i64 q.hi, .int .u8 q.pick] ∧ g 15 = .int .i64 k ∧ g 61 = .slice (some ⟨b, off, none⟩) Q.length lc ∧ g 62 = .int .i64 Q.length ∧ g 63 = .int .i64 i ∧ Ext wx wy) ?_ ?_
      · cases hc : (dk && decide (q.lo = q.hi)) with
        | false =>
          simp only [VS, VD, SV, SL, T, Nat.reduceEqDiff, Nat.reduceAdd, Nat.reduceSub, Nat.reduceMul, Nat.reduceLeDiff, Nat.reduceLT, reduceIte]
          exact ⟨f3, f7, f9, f14, f15, f61, f62, f63, Ext.refl _⟩
        | true =>
          rw [Bool.and_eq_true] at hc
          have hk0 : 0 ≤ k := of_decide_eq_true (hdk.trans hc.1)
          have hkn : k ≤ 1000 := by
            cases hq : lineM q.lo q.hi q.pick with
            | none => rw [hq] at hkk; simp at hkk; omega
            | some n => rw [hq] at hkk; simp only [Option.getD_some] at hkk; have := hln n hq; omega
          have hnl : 0 ≤ k * l ∧ k * l ≤ 1600000 := ⟨Int.mul_nonneg hk0 (by omega), Int.mul_le_mul (show k ≤ 100000 by omega) (show l ≤ 16 by omega) (by omega) (by omega)⟩
          simp only [VS, VD, SV, SL, T, Nat.reduceEqDiff, Nat.reduceAdd, Nat.reduceSub, Nat.reduceMul, Nat.reduceLeDiff, Nat.reduceLT, reduceIte, f9, f15, muV]
          refine (Age_spec s y l hv M _ k _ (hm.per (hid_per F wx))).mono ?_
          rintro _ w10 ⟨rfl, hE10⟩
          cases hin : (ageU M k).2 with
          | false =>
            simp only [VS, VD, SV, SL, T, Nat.reduceEqDiff, Nat.reduceAdd, Nat.reduceSub, Nat.reduceMul, Nat.reduceLeDiff, Nat.reduceLT, reduceIte]
            exact ⟨f3, f7, by rw [f9]; rfl, f14, f15, f61, f62, f63, hE10⟩
          | true =>
            obtain ⟨bk, hbk⟩ := ageU_yes hin
            simp only [VS, VD, SV, SL, T, Nat.reduceEqDiff, Nat.reduceAdd, Nat.reduceSub, Nat.reduceMul, Nat.reduceLeDiff, Nat.reduceLT, reduceIte, f7, f3, f15]
            refine ⟨by omega, ?_⟩
            refine (C.Probe_spec (hC.ext hE10) (k * l) (by omega)).mono ?_
            rintro _ w11 ⟨rfl, hE11⟩
            rw [hit_of hv hbd hD hbk]
            simp only [VS, VD, SV, SL, T, Nat.reduceEqDiff, Nat.reduceAdd, Nat.reduceSub, Nat.reduceMul, Nat.reduceLeDiff, Nat.reduceLT, reduceIte, Bool.not_true]
            exact ⟨by rw [f3], f7, by rw [f9]; rfl, f14, f15, f61, f62, f63, hE10.trans hE11⟩
      clear f3 f7 f9 f14 f15 f61 f62 f63 f77
      rintro g wy ⟨f3, f7, f9, f14, f15, f61, f62, f63, hEy⟩
      replace hC := hC.ext hEy
      replace hm := hm.per (hid_ext (F := F) hEy)
      replace hEx := hEx.trans hEy
      simp only [VS, VD, SV, SL, T, Nat.reduceEqDiff, Nat.reduceAdd, Nat.reduceSub, Nat.reduceMul, Nat.reduceLeDiff, Nat.reduceLT, reduceIte, f9, f14, muV]
      refine (VRet.hid (fun b hb => hC.lt b hb) (do_spec s y l hv M hbd _ q.lo q.hi q.pick (by omega) _ hm)).mono ?_
      rintro v10 w10 ⟨w1h, ⟨hm10, hEh⟩, hper, _, hFget, hEE⟩
      have hE10 := hEE hEh
      replace hm10 := hm10.per hper
      replace hC := hC.ext hE10
      replace hEx := hEx.trans hE10
      obtain ⟨b1, o1, c1, rfl⟩ := hm10.form
      clear hm hD hbd hlim
      simp only [VS, VD, SV, SL, T, Nat.reduceEqDiff, Nat.reduceAdd, Nat.reduceSub, Nat.reduceMul, Nat.reduceLeDiff, Nat.reduceLT, reduceIte, f9, muV, f15]
      refine cnd_c (fun g wz => g 3 = .agg #[.int .i64 s, .int .i64 y, .int .i64 l] ∧ g 7 = ptr p ∧ g 9 = muV s y l (.slice (some ⟨b1, o1, none⟩) s.toNat c1) ∧ g 61 = .slice (some ⟨b, off, none⟩) Q.length lc ∧ g 62 = .int .i64 Q.length ∧ g 63 = .int .i64 i ∧ Ext w wz ∧
        ∃ F', MuK (hid F' wz) (muV s y l (.slice (some ⟨b1, o1, none⟩) s.toNat c1)) s y l (doU s y M q.lo q.hi) ∧ CacheAt wz F' p s y l (stS s y (accH s l H (lineM q.lo q.hi q.pick))) ∧ ∀ b, F' b → w.heap.size ≤ b) ?_ ?_
      · cases hq : lineM q.lo q.hi q.pick with
        | none =>
          have hk1 : k = -1 := by rw [hq] at hkk; simpa using hkk.symm
          rw [decide_eq_false (show ¬ 0 ≤ k by omega)]
          simp only [VS, VD, SV, SL, T, Nat.reduceEqDiff, Nat.reduceAdd, Nat.reduceSub, Nat.reduceMul, Nat.reduceLeDiff, Nat.reduceLT, reduceIte, f3, f7, f61, f62, f63, muV]
          exact ⟨hEx, F, hm10, hC, hF⟩
        | some n =>
          have hk1 : k = n := by rw [hq] at hkk; simpa using hkk.symm
          subst hk1
          have hn := hln k hq
          have hnl : 0 ≤ k * l ∧ k * l ≤ 1600000 := ⟨Int.mul_nonneg hn.1 (by omega), Int.mul_le_mul (show k ≤ 100000 by omega) (show l ≤ 16 by omega) (by omega) (by omega)⟩
          rw [decide_eq_true hn.1]
          simp only [VS, VD, SV, SL, T, Nat.reduceEqDiff, Nat.reduceAdd, Nat.reduceSub, Nat.reduceMul, Nat.reduceLeDiff, Nat.reduceLT, reduceIte, f7, f15, f3]
          refine ⟨by omega, ?_⟩
          refine (C.Access_mv hv hC (k * l) (by omega)).mono ?_
          rintro _ w11 ⟨rfl, F', hC11, hm11⟩
          simp only [VS, VD, SV, SL, T, Nat.reduceEqDiff, Nat.reduceAdd, Nat.reduceSub, Nat.reduceMul, Nat.reduceLeDiff, Nat.reduceLT, reduceIte, f3, f7, f61, f62, f63, muV]
          exact ⟨hm11.ext hEx hF, F', hm10.per (mv_hid hm11), hC11, hm11.above hEx.size hF⟩
      clear f3 f7 f9 f14 f15 f61 f62 f63 hC hF hEx hm10
      rintro g wz ⟨f3, f7, f9, f61, f62, f63, hEx, F, hm, hC, hF⟩
      generalize accH s l H (lineM q.lo q.hi q.pick) = H' at *
      generalize doU s y M q.lo q.hi = M' at *
      simp only [VS, VD, SV, SL, T, Nat.reduceEqDiff, Nat.reduceAdd, Nat.reduceSub, Nat.reduceMul, Nat.reduceLeDiff, Nat.reduceLT, reduceIte, f9, muV]
      refine DW_intro (fun _ _ v w' => IntssAt w' v (stS s y H')) ?_
      simp only [VS, VD, SV, SL, T, Nat.reduceEqDiff, Nat.reduceAdd, Nat.reduceSub, Nat.reduceMul, Nat.reduceLeDiff, Nat.reduceLT, reduceIte, f7, f9, muV]
      refine rY_ph rfl rfl (fun _ _ _ h hE => IntssAt.ext h hE) (fun w' hE' _ => ?_) ?_
      · simp only [VS, VD, SV, SL, T, Nat.reduceEqDiff, Nat.reduceAdd, Nat.reduceSub, Nat.reduceMul, Nat.reduceLeDiff, Nat.reduceLT, reduceIte]
        refine (C.Lines_spec (hC.ext hE')).mono ?_
        rintro v12 w13 ⟨hL13, hE13⟩
        exact ⟨hE13, hL13⟩
      rintro v12 _
      simp only [VS, VD, SV, SL, T, Nat.reduceEqDiff, Nat.reduceAdd, Nat.reduceSub, Nat.reduceMul, Nat.reduceLeDiff, Nat.reduceLT, reduceIte, muV]
      intro w11 hE11 hF11
      have hL11 : IntssAt w11 v12 (stS s y H') := FA_head hF11
      simp only [VS, VD, SV, SL, T, Nat.reduceEqDiff, Nat.reduceAdd, Nat.reduceSub, Nat.reduceMul, Nat.reduceLeDiff, Nat.reduceLT, reduceIte]
      refine (Describes_spec s y l hv M' hbd' _ _ (stS s y H') (lines_small hv H') w11 ((hm.per (hid_per F wz)).ext hE11) hL11).mono ?_
      rintro _ w12 ⟨⟨r, rfl, hr⟩, hE12⟩
      obtain rfl : r = true := hr.2 (desQ_of hv hbd' hD')
      simp only [VS, VD, SV, SL, T, Nat.reduceEqDiff, Nat.reduceAdd, Nat.reduceSub, Nat.reduceMul, Nat.reduceLeDiff, Nat.reduceLT, reduceIte, Bool.not_true, f63]
      have hE1112 := hE11.trans hE12
      exact ⟨by omega, i + 1, ⟨f3, f7, f61, f62, by simp, by omega, hEx.trans hE1112, M', F, H', by rw [f9]; exact hm.per (hid_ext (F := F) hE1112), hbd', hlim', hC.ext hE1112, hF, hH', hD'⟩, by omega⟩
    · simp only [VS, VD, SV, SL, T, Nat.reduceEqDiff, Nat.reduceAdd, Nat.reduceSub, Nat.reduceMul, Nat.reduceLeDiff, Nat.reduceLT, reduceIte, f9, muV]
      have hm1 := hm.per (hid_per F wo)
      have hK := keysU_of hbd hlim
      generalize keysU M = Ks at *
      refine (Lines_spec s y l hv M Ks hK _ _ hm1).mono ?_
      rintro v7 w10 ⟨hE10, ho⟩
      obtain ⟨ak, ck, rfl⟩ := ho.ints.form
      have hints := ho.ints
      replace hm1 := hm1.ext hE10
      replace hC := hC.ext hE10
      replace hEx := hEx.trans hE10
      simp only [VS, VD, SV, SL, T, Nat.reduceEqDiff, Nat.reduceAdd, Nat.reduceSub, Nat.reduceMul, Nat.reduceLeDiff, Nat.reduceLT, reduceIte]
      refine LoopP_intro (α := Nat) (fun i f' w' => f' 3 = .agg #[.int .i64 s, .int .i64 y, .int .i64 l] ∧ f' 7 = ptr p ∧ f' 9 = muV s y l (.slice (some ⟨b9, o9, none⟩) s.toNat c9) ∧ f' 112 = .slice ak Ks.length ck ∧ f' 113 = .int .i64 Ks.length ∧ f' 114 = .int .i64 i ∧ i ≤ Ks.length ∧ Ext w10 w') (fun i => Ks.length - i) 0 ?_ ?_
      · simp only [VS, VD, SV, SL, T, Nat.reduceEqDiff, Nat.reduceAdd, Nat.reduceSub, Nat.reduceMul, Nat.reduceLeDiff, Nat.reduceLT, reduceIte, f3, f7, f9, muV]
        exact ⟨rfl, by omega, Ext.refl _⟩
      clear f3 f7 f9 f61 f62 f63
      rintro i f' w' ⟨f3, f7, f9, f112, f113, f114, hile, hE'⟩
      simp only [VS, VD, SV, SL, T, Nat.reduceEqDiff, Nat.reduceAdd, Nat.reduceSub, Nat.reduceMul, Nat.reduceLeDiff, Nat.reduceLT, reduceIte, f113, f114]
      refine cnd_d (fun hlt => ?_) (fun hlt => ?_)
      · have hi : i < Ks.length := by omega
        obtain ⟨bk, off, cs, e, fz, rfl, _, hbk, hck⟩ := (hints.ext hE').get (i := i) (x := Ks[i]) (by simp [hi])
        have hmem : Ks[i] ∈ Ks := List.getElem_mem hi
        have hlen := hK.len
        obtain ⟨a, hka⟩ : ∃ a, M Ks[i] = some a := by
          have := (hK.mem Ks[i]).2 hmem
          cases hq : M Ks[i] with
          | none => exact (this hq).elim
          | some a => exact ⟨a, rfl⟩
        have hka' := hbd _ _ hka
        have hkl := hlim Ks[i] (by rw [hka]; simp)
        have hage : ageU M Ks[i] = (a, true) := by unfold ageU; rw [if_neg (by omega), hka]
        have hhit := hit_of hv hbd hD hka
        have hag := age_of hv hbd hD hka
        generalize Ks[i] = k at *
        have hnl : 0 ≤ k * l ∧ k * l ≤ 1600000 := ⟨Int.mul_nonneg hka'.1 (by omega), Int.mul_le_mul (show k ≤ 100000 by omega) (show l ≤ 16 by omega) (by omega) (by omega)⟩
        simp only [VS, VD, SV, SL, T, Nat.reduceEqDiff, Nat.reduceAdd, Nat.reduceSub, Nat.reduceMul, Nat.reduceLeDiff, Nat.reduceLT, reduceIte, f112, f114, hbk, Int.toNat_natCast, hck, f9, muV]
        refine ⟨by omega, ?_⟩
        refine (Age_spec s y l hv M _ k _ (hm1.ext hE')).mono ?_
        rintro _ w11 ⟨rfl, hE11⟩
        rw [hage]
        replace hE' := hE'.trans hE11
        simp only [VS, VD, SV, SL, T, Nat.reduceEqDiff, Nat.reduceAdd, Nat.reduceSub, Nat.reduceMul, Nat.reduceLeDiff, Nat.reduceLT, reduceIte, f7, f3, Bool.not_true]
        refine ⟨by omega, ?_⟩
        refine (C.Probe_spec (hC.ext hE') (k * l) (by omega)).mono ?_
        rintro _ w12 ⟨rfl, hE12⟩
        rw [hhit]
        replace hE' := hE'.trans hE12
        simp only [VS, VD, SV, SL, T, Nat.reduceEqDiff, Nat.reduceAdd, Nat.reduceSub, Nat.reduceMul, Nat.reduceLeDiff, Nat.reduceLT, reduceIte, f7, Bool.not_true]
        refine (C.Age_spec (hC.ext hE') k).mono ?_
        rintro _ w13 ⟨rfl, hE13⟩
        replace hE' := hE'.trans hE13
        have d1 : decide (a < C.ageS s y l (stS s y H) k) = false := decide_eq_false (by omega)
        have d2 : decide (C.ageS s y l (stS s y H) k < 0) = false := decide_eq_false (by omega)
        simp only [VS, VD, SV, SL, T, Nat.reduceEqDiff, Nat.reduceAdd, Nat.reduceSub, Nat.reduceMul, Nat.reduceLeDiff, Nat.reduceLT, reduceIte, d1, f7]
        refine (C.Age_spec (hC.ext hE') k).mono ?_
        rintro _ w14 ⟨rfl, hE14⟩
        replace hE' := hE'.trans hE14
        simp only [VS, VD, SV, SL, T, Nat.reduceEqDiff, Nat.reduceAdd, Nat.reduceSub, Nat.reduceMul, Nat.reduceLeDiff, Nat.reduceLT, reduceIte, d2, f114]
        exact ⟨by omega, i + 1, ⟨by rw [f3], f7, by rw [f9]; rfl, f112, f113, by simp, by omega, hE'⟩, by omega⟩
      · simp only [VS, VD, SV, SL, T, Nat.reduceEqDiff, Nat.reduceAdd, Nat.reduceSub, Nat.reduceMul, Nat.reduceLeDiff, Nat.reduceLT, reduceIte]
        exact hΨ _ _ ⟨rfl, hEx.trans hE'⟩
end Go.Proofs.Ytehmbpkcbmnfnaa

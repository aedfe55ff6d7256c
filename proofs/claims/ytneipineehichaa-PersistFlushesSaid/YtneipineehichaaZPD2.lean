/-
  persist: PersistMisses.
-/
import Derived.Test.YtneipineehichaaZPD1
set_option linter.unusedSimpArgs false
set_option linter.unusedVariables false
namespace Go.Proofs.Ytneipineehichaa
open Go.W Go.RowKit
open C (CacheAt stS addH hitS Mv Chg Access_mv Flush_mv ptr dst)
/-- a map that counts one for each line of a list -/
def OneB (w : World) (r : Nat) (p : Int → Prop) : Prop := ∃ l c, w.heap[r]? = some (.map (mk l) c) ∧ MWF l c ∧ (∀ k, p k → mget l k = some (.int .i64 1)) ∧ ∀ k, ¬ p k → mget l k = none
theorem OneB.heap {w w' : World} {r : Nat} {p : Int → Prop} (h : OneB w r p) (e : w'.heap[r]? = w.heap[r]?) : OneB w' r p := by
  obtain ⟨l, c, h1, h2⟩ := h
  exact ⟨l, c, e.trans h1, h2⟩
theorem OneB.congr {w : World} {r : Nat} {p q : Int → Prop} (h : OneB w r p) (e : ∀ k, p k ↔ q k) : OneB w r q := by
  obtain ⟨l, c, h1, h2, h3, h4⟩ := h
  exact ⟨l, c, h1, h2, fun k hk => h3 k ((e k).2 hk), fun k hk => h4 k fun hp => hk ((e k).1 hp)⟩
theorem OneB.len {w : World} {r : Nat} {p : Int → Prop} (h : OneB w r p) {K : List Int} (hK : ∀ k, p k → k ∈ K) : ∃ l c, MapL w (.map (some r)) l c ∧ l.length ≤ K.length := by
  obtain ⟨l, c, h1, h2, h3, h4⟩ := h
  refine ⟨l, c, .inr ⟨r, rfl, h1, h2⟩, ?_⟩
  have := nodup_len h2.keys (K := K) fun k hk => ?_
  · rwa [List.length_map] at this
  · obtain ⟨q, hq, rfl⟩ := List.mem_map.1 hk
    apply hK
    apply Classical.byContradiction
    intro hn
    have := mget_mem h2.keys hq
    rw [h4 _ hn] at this
    cases this
theorem chg_putb {w : World} {r : Nat} {o : Obj} : Chg (fun b => b = r) w (w.putb r o) := ⟨rfl, rfl, rfl, by rw [putb_size]; exact Nat.le_refl _, fun b _ hn => putb_get_ne hn o⟩
theorem acs_u {L : List (Int × Int)} {xs : List Int} (hx : ∀ x ∈ xs, 0 ≤ x ∧ x ≤ 65535) {n : Int} (h : n ∈ acs L xs) : acd L n = true ∧ 0 ≤ n ∧ n ≤ 3000 := acs_mem (fun x hx' => (hx x hx').1) h
set_option maxRecDepth 100000 in
theorem PersistMisses_spec (s y l : Int) (lv : Value) (L : List (Int × Int)) (xv : Value) (xs : List Int) (w : World) (h : RefsAt w lv L) (hxv : SlAt w xv 1 (xs.map fun n => [.int .u16 n])) (hM : xs.length ≤ maxLen ∧ ∀ n ∈ xs, 0 ≤ n ∧ n ≤ 65535) :
    VRet Try.prog 7 #[cfgV s y l, lv, xv] w fun v w' => v = .bool true ∧ Ext w w' := by
  obtain ⟨la, lc, rfl⟩ := h.form
  obtain ⟨xa, xc, rfl⟩ := hxv.form
  simp only [List.length_map] at *
  refine VRet_start T.mo ok7 rfl fun Ψ hΨ => ?_; simp only [vc7, rs7]
  simp only [VS, VD, SV, SL, T, Nat.reduceEqDiff, Nat.reduceAdd, Nat.reduceSub, Nat.reduceMul, Nat.reduceLeDiff, Nat.reduceLT, reduceIte, cfgV]
  refine (awake_spec _).mono ?_
  rintro _ w1 ⟨rfl, hE⟩
  replace hE := ((Ext.refl w).alloc tomb).trans hE
  simp only [VS, VD, SV, SL, T, Nat.reduceEqDiff, Nat.reduceAdd, Nat.reduceSub, Nat.reduceMul, Nat.reduceLeDiff, Nat.reduceLT, reduceIte]
  refine (usable_spec s y l _ L _ xs.length _ w1 (h.ext hE)).mono ?_
  rintro _ w2 ⟨rfl, hE2⟩
  replace hE := hE.trans hE2
  by_cases hu : usb s y l L xs.length = true
  case neg =>
    have hu' : usb s y l L xs.length = false := by simpa using hu
    simp only [VS, VD, SV, SL, T, Nat.reduceEqDiff, Nat.reduceAdd, Nat.reduceSub, Nat.reduceMul, Nat.reduceLeDiff, Nat.reduceLT, reduceIte, hu', Bool.not_false]
    exact hΨ _ _ ⟨rfl, hE⟩
  obtain ⟨hg, h12, hx2, hm⟩ := usb_spec hu
  have hp := Geo_spec hg
  simp only [VS, VD, SV, SL, T, Nat.reduceEqDiff, Nat.reduceAdd, Nat.reduceSub, Nat.reduceMul, Nat.reduceLeDiff, Nat.reduceLT, reduceIte, hu, Bool.not_true]
  refine (C.New_spec s y l w2).mono ?_
  rintro v3 w3 hq
  rcases hq with ⟨hg', _⟩ | ⟨_, p, rfl, hC, hE3⟩
  · rw [hg] at hg'; cases hg'
  rw [show List.replicate s.toNat [] = stS s y fun _ => [] from C.emp_stS s y] at hC
  generalize hF0 : (fun b => w2.heap.size ≤ b ∧ b < w3.heap.size) = F0 at hC
  have hF1 : ∀ b, F0 b → w2.heap.size ≤ b ∧ b < w3.heap.size := fun b hb => by subst hF0; exact hb
  have hFw : ∀ b, F0 b → w.heap.size ≤ b := fun b hb => Nat.le_trans hE.size (hF1 b hb).1
  have hR3 : RefsAt (hid F0 w3) (.slice la L.length lc) L := SlAt.per (h.ext hE) (hid_new hE3 fun b hb => (hF1 b hb).1)
  have hX3 : SlAt (hid F0 w3) (.slice xa xs.length xc) 1 (xs.map fun n => [.int .u16 n]) := SlAt.per (hxv.ext hE) (hid_new hE3 fun b hb => (hF1 b hb).1)
  replace hE := hE.trans hE3
  have d0 : decide ((0 : Int) = 0) = true := rfl
  have ep : persI s y l L = pers L s y := by rw [persI, if_pos hg]
  have hpl := pers_len L s y
  simp only [VS, VD, SV, SL, T, Nat.reduceEqDiff, Nat.reduceAdd, Nat.reduceSub, Nat.reduceMul, Nat.reduceLeDiff, Nat.reduceLT, reduceIte, d0, Bool.not_true]
  refine (VRet.hidE (R := fun w v => IntsAt w v (persI s y l L)) (fun _ _ _ h k => h.per k) (fun b hb => (hF1 b hb).2) (Persistent_spec s y l _ L (by omega) _ hR3)).mono ?_
  rintro v4 w4 ⟨hI4, hE4⟩
  replace hE := hE.trans hE4
  replace hC := hC.ext hE4
  replace hR3 := SlAt.per hR3 (hid_ext (F := F0) hE4)
  replace hX3 := hX3.per (hid_ext (F := F0) hE4)
  have hF4 : ∀ b, F0 b → b < w4.heap.size := fun b hb => Nat.lt_of_lt_of_le (hF1 b hb).2 hE4.size
  rw [ep] at hI4
  simp only [VS, VD, SV, SL, T, Nat.reduceEqDiff, Nat.reduceAdd, Nat.reduceSub, Nat.reduceMul, Nat.reduceLeDiff, Nat.reduceLT, reduceIte]
  refine (VRet.hidE (R := fun w v => FnAt w v (pers L s y)) (fun _ _ _ h k => h.per k) hF4 (contains_spec v4 (pers L s y) (by omega) _ hI4)).mono ?_
  rintro fv w5 ⟨hf5, hE5⟩
  replace hE := hE.trans hE5
  replace hC := hC.ext hE5
  replace hR3 := SlAt.per hR3 (hid_ext (F := F0) hE5)
  replace hX3 := hX3.per (hid_ext (F := F0) hE5)
  have hrw := hE.size
  simp only [VS, VD, SV, SL, T, Nat.reduceEqDiff, Nat.reduceAdd, Nat.reduceSub, Nat.reduceMul, Nat.reduceLeDiff, Nat.reduceLT, reduceIte]
  have hE6 := (Ext.refl w5).alloc (.map #[] 0)
  have hF5 : ∀ b, F0 b → b < w5.heap.size := fun b hb => Nat.lt_of_lt_of_le (hF4 b hb) hE5.size
  have hper : Per (hid F0 w5) (hid (fun b => F0 b ∨ b = w5.heap.size) (w5.alloc (.map #[] 0))) := per_hid (fun b hlt hb => hb.elim id fun e => by omega) (fun b hlt _ => alloc_get_lt hlt _)
  replace hf5 := hf5.per hper
  replace hR3 := SlAt.per hR3 hper
  replace hX3 := hX3.per hper
  have hO : OneB (w5.alloc (.map #[] 0)) w5.heap.size (fun k => k ∈ pers L s y ∧ k ∈ (fun _ => [] : Nat → List Int) (k % s).toNat) := ⟨[], 0, alloc_get_new _ _, MWF_nil, fun k hk => by simp at hk, fun k _ => rfl⟩
  replace hE := hE.trans hE6
  replace hC := hC.ext hE6
  have hF6 : ∀ b, (F0 b ∨ b = w5.heap.size) → b < (w5.alloc (.map #[] 0)).heap.size := by
    intro b hb
    rw [alloc_size]
    rcases hb with hb | rfl
    · have := hF5 b hb; omega
    · omega
  generalize hr : w5.heap.size = r at *
  generalize w5.alloc (.map #[] 0) = w6 at *
  refine (VRet.hidE (R := fun w v => IntsAt w v (acs L xs)) (fun _ _ _ h k => h.per k) hF6 (accesses_spec _ L (by omega) _ xs (by omega) hM.2 _ hR3 hX3)).mono ?_
  rintro v7 w7 ⟨hA, hE7⟩
  have hrF : ¬ F0 r := fun hf => by have := hF5 r hf; omega
  have hr7 : r < w7.heap.size := by have := hF6 r (.inr rfl); have := hE7.size; omega
  replace hf5 := hf5.per (hid_ext (F := fun b => F0 b ∨ b = r) hE7)
  replace hC := hC.ext hE7
  replace hE := hE.trans hE7
  replace hO := hO.heap (hE7.get r (hF6 r (.inr rfl)))
  obtain ⟨aa, ac, rfl⟩ := hA.form
  have hal := acs_len L xs
  simp only [VS, VD, SV, SL, T, Nat.reduceEqDiff, Nat.reduceAdd, Nat.reduceSub, Nat.reduceMul, Nat.reduceLeDiff, Nat.reduceLT, reduceIte]
  refine loop_cB (fun f' w' => f' 1 = .slice la L.length lc ∧ f' 3 = .agg #[.int .i64 s, .int .i64 y, .int .i64 l] ∧ f' 10 = .map (some r) ∧ Ext w w' ∧ ∃ H : Nat → List Int, OneB w' r (fun k => k ∈ pers L s y ∧ k ∈ H (k % s).toNat)) ?_ ?_
  · refine LoopP_intro (α := Nat) (fun i f' w' => f' 1 = .slice la L.length lc ∧ f' 3 = .agg #[.int .i64 s, .int .i64 y, .int .i64 l] ∧ f' 7 = ptr p ∧ f' 9 = fv ∧ f' 10 = .map (some r) ∧ f' 34 = .slice aa (acs L xs).length ac ∧ f' 35 = .int .i64 (acs L xs).length ∧ f' 36 = .int .i64 i ∧ i ≤ (acs L xs).length ∧ Ext w w' ∧
      ∃ (F : Nat → Prop) (H : Nat → List Int), CacheAt w' F p s y l (stS s y H) ∧ HL L s H ∧ Chg (fun b => F0 b ∨ b = r) w7 w' ∧ (∀ b, F b → F0 b ∨ w7.heap.size ≤ b) ∧ OneB w' r (fun k => k ∈ pers L s y ∧ k ∈ H (k % s).toNat)) (fun i => (acs L xs).length - i) 0 ?_ ?_
    · simp only [VS, VD, SV, SL, T, Nat.reduceEqDiff, Nat.reduceAdd, Nat.reduceSub, Nat.reduceMul, Nat.reduceLeDiff, Nat.reduceLT, reduceIte]
      exact ⟨rfl, Nat.zero_le _, hE, F0, _, hC, HL.nil L s, C.Chg.of_ext (Ext.refl _), fun b hb => .inl hb, hO⟩
    · rintro i f' w' ⟨f1, f3, f7, f9, f10, f34, f35, f36, hi, hE', F, H, hC', hH, hCh, hFF, hO'⟩
      simp only [VS, VD, SV, SL, T, Nat.reduceEqDiff, Nat.reduceAdd, Nat.reduceSub, Nat.reduceMul, Nat.reduceLeDiff, Nat.reduceLT, reduceIte, f35, f36]
      by_cases hlt : (i : Int) < (acs L xs).length
      · rw [decide_eq_true hlt]
        have hi' : i < (acs L xs).length := by omega
        obtain ⟨b, off, cs, e, fz, rfl, _, hb, hc⟩ := (hA.per (per_chg hCh)).get (i := i) (x := (acs L xs)[i]) (by simp [hi'])
        obtain ⟨ha, hn0, hn1⟩ := acs_u hM.2 (List.getElem_mem hi')
        generalize hn : (acs L xs)[i] = n at *
        have hm0 : 0 ≤ n * l := Int.mul_nonneg hn0 (by omega)
        have hm1 : n * l ≤ 3000 * 16 := Int.mul_le_mul hn1 (by omega) (by omega) (by omega)
        have hFw' : ∀ b, F b → w.heap.size ≤ b := fun b hb => (hFF b hb).elim (hFw b) fun h => Nat.le_trans (Nat.le_trans hrw (by omega)) h
        have hrF' : ¬ F r := fun hf => (hFF r hf).elim hrF (by omega)
        simp only [VS, VD, SV, SL, T, Nat.reduceEqDiff, Nat.reduceAdd, Nat.reduceSub, Nat.reduceMul, Nat.reduceLeDiff, Nat.reduceLT, reduceIte, f3, f7, f34, f36, hb, hc, Int.toNat_natCast]
        refine ⟨by omega, by omega, ?_⟩
        refine (Access_mv hg hC' (n * l) (by omega)).mono ?_
        rintro _ w8 ⟨rfl, F8, hC8, hm8⟩
        have hE8 := hm8.ext hE' hFw'
        have hCh8 : Chg (fun b => F0 b ∨ b = r) w7 w8 := hCh.trans hm8.1 (fun b hb => (hFF b hb).elim (fun h => .inl (.inl h)) .inr)
        have hFF8 : ∀ b, F8 b → F0 b ∨ w7.heap.size ≤ b := fun b hb => (hm8.2 b hb).elim (hFF b) fun h => .inr (Nat.le_trans hCh.size h)
        have hrlt : r < w'.heap.size := Nat.lt_of_lt_of_le hr7 hCh.size
        have hO8 := hO'.heap (hm8.1.get r hrlt hrF')
        have hH8 := hH.add (l := l) (by omega) ha
        have hma := mem_add (s := s) (l := l) (by omega) hn0 H
        by_cases hpn : n ∈ pers L s y
        · rw [hit_pers hg hH hpn]
          by_cases hnH : n ∈ H (n % s).toNat
          · rw [decide_eq_true hnH]
            simp only [VS, VD, SV, SL, T, Nat.reduceEqDiff, Nat.reduceAdd, Nat.reduceSub, Nat.reduceMul, Nat.reduceLeDiff, Nat.reduceLT, reduceIte, Bool.not_true, f1, f3, f7, f9, f10, f34, f35, f36]
            refine ⟨by omega, i + 1, ⟨by simp, by omega, hE8, F8, _, hC8, hH8, hCh8, hFF8, hO8.congr fun k => ?_⟩, by omega⟩
            rw [hma]
            constructor
            · rintro ⟨q1, q2⟩; exact ⟨q1, .inl q2⟩
            · rintro ⟨q1, q2 | rfl⟩
              · exact ⟨q1, q2⟩
              · exact ⟨q1, hnH⟩
          · rw [decide_eq_false hnH]
            simp only [VS, VD, SV, SL, T, Nat.reduceEqDiff, Nat.reduceAdd, Nat.reduceSub, Nat.reduceMul, Nat.reduceLeDiff, Nat.reduceLT, reduceIte, Bool.not_false]
            refine (hf5.per (per_chg hCh8)).call (n := n) (by simp only [VS, VD, SV, SL, T, Nat.reduceEqDiff, Nat.reduceAdd, Nat.reduceSub, Nat.reduceMul, Nat.reduceLeDiff, Nat.reduceLT, reduceIte, f9]) (by simp only [VS, VD, SV, SL, T, Nat.reduceEqDiff, Nat.reduceAdd, Nat.reduceSub, Nat.reduceMul, Nat.reduceLeDiff, Nat.reduceLT, reduceIte]) ?_
            intro w9 hE9
            have hC9 := hC8.ext hE9
            have hO9 := hO8.heap (hE9.get r (Nat.lt_of_lt_of_le hrlt hm8.1.size))
            have hCh9 : Chg (fun b => F0 b ∨ b = r) w7 w9 := hCh8.trans (C.Chg.of_ext (F := fun _ => False) hE9) (fun b hb => hb.elim)
            rw [decide_eq_true hpn]
            simp only [VS, VD, SV, SL, T, Nat.reduceEqDiff, Nat.reduceAdd, Nat.reduceSub, Nat.reduceMul, Nat.reduceLeDiff, Nat.reduceLT, reduceIte, f10]
            obtain ⟨lm, cm, hrm, hwf, hp1, hp2⟩ := hO9
            have hrl := get_lt hrm
            refine rV_lookup T.me51 T.zr3 hrm ?_
            rw [hp2 n (fun q => hnH q.2)]
            simp only [VS, VD, SV, SL, T, Nat.reduceEqDiff, Nat.reduceAdd, Nat.reduceSub, Nat.reduceMul, Nat.reduceLeDiff, Nat.reduceLT, reduceIte, Option.getD_none]
            refine ⟨by omega, ?_⟩
            refine rV_update T.me51 hrm hwf.keys ?_
            simp only [VS, VD, SV, SL, T, Nat.reduceEqDiff, Nat.reduceAdd, Nat.reduceSub, Nat.reduceMul, Nat.reduceLeDiff, Nat.reduceLT, reduceIte, f10]
            have hmg : mget (mset lm cm n (.int .i64 (0 + 1))).1 n = some (.int .i64 (0 + 1)) := by rw [mget_mset, if_pos rfl]
            refine rV_lookup T.me51 T.zr3 (l := (mset lm cm n (.int .i64 (0 + 1))).1) (c := (mset lm cm n (.int .i64 (0 + 1))).2) (by rw [get_putb _ _ _ _ hrl, if_pos rfl]) ?_
            rw [hmg]
            have d1 : decide ((1 : Int) < 0 + 1) = false := rfl
            simp only [VS, VD, SV, SL, T, Nat.reduceEqDiff, Nat.reduceAdd, Nat.reduceSub, Nat.reduceMul, Nat.reduceLeDiff, Nat.reduceLT, reduceIte, Option.getD_some, d1, f1, f3, f7, f9, f10, f34, f35, f36]
            have hcp := chg_putb (w := w9) (r := r) (o := .map (mk (mset lm cm n (.int .i64 (0 + 1))).1) (mset lm cm n (.int .i64 (0 + 1))).2)
            refine ⟨by omega, i + 1, ⟨by simp, by omega, (hE8.trans hE9).putb (by omega) _, F8, _, hC9.chg hcp (fun b hb e => (hFF8 b hb).elim (fun h => hrF (e ▸ h)) (by omega)), hH8, hCh9.trans hcp (fun b hb => .inl (.inr hb)), hFF8, ?_⟩, by omega⟩
            refine ⟨_, _, by rw [get_putb _ _ _ _ hrl, if_pos rfl], hwf.set _ _, fun k hk => ?_, fun k hk => ?_⟩
            · rw [mget_mset]
              by_cases e : k = n
              · rw [if_pos e]; rfl
              · rw [if_neg e]
                simp only [hma] at hk
                exact hp1 k ⟨hk.1, hk.2.resolve_right e⟩
            · rw [mget_mset]
              simp only [hma] at hk
              by_cases e : k = n
              · subst e
                exact (hk ⟨hpn, .inr rfl⟩).elim
              · rw [if_neg e]
                exact hp2 k fun q => hk ⟨q.1, .inl q.2⟩
        · have hcong : ∀ k, (k ∈ pers L s y ∧ k ∈ H (k % s).toNat) ↔ (k ∈ pers L s y ∧ k ∈ addH s l H (n * l) (k % s).toNat) := by
            intro k
            rw [hma]
            constructor
            · rintro ⟨q1, q2⟩; exact ⟨q1, .inl q2⟩
            · rintro ⟨q1, q2 | rfl⟩
              · exact ⟨q1, q2⟩
              · exact (hpn q1).elim
          cases hhit : hitS s l (stS s y H) (n * l) with
          | true =>
            simp only [VS, VD, SV, SL, T, Nat.reduceEqDiff, Nat.reduceAdd, Nat.reduceSub, Nat.reduceMul, Nat.reduceLeDiff, Nat.reduceLT, reduceIte, Bool.not_true, f1, f3, f7, f9, f10, f34, f35, f36]
            exact ⟨by omega, i + 1, ⟨by simp, by omega, hE8, F8, _, hC8, hH8, hCh8, hFF8, hO8.congr hcong⟩, by omega⟩
          | false =>
            simp only [VS, VD, SV, SL, T, Nat.reduceEqDiff, Nat.reduceAdd, Nat.reduceSub, Nat.reduceMul, Nat.reduceLeDiff, Nat.reduceLT, reduceIte, Bool.not_false]
            refine (hf5.per (per_chg hCh8)).call (n := n) (by simp only [VS, VD, SV, SL, T, Nat.reduceEqDiff, Nat.reduceAdd, Nat.reduceSub, Nat.reduceMul, Nat.reduceLeDiff, Nat.reduceLT, reduceIte, f9]) (by simp only [VS, VD, SV, SL, T, Nat.reduceEqDiff, Nat.reduceAdd, Nat.reduceSub, Nat.reduceMul, Nat.reduceLeDiff, Nat.reduceLT, reduceIte]) ?_
            intro w9 hE9
            rw [decide_eq_false hpn]
            have hC9 := hC8.ext hE9
            have hO9 := hO8.heap (hE9.get r (Nat.lt_of_lt_of_le hrlt hm8.1.size))
            have hCh9 : Chg (fun b => F0 b ∨ b = r) w7 w9 := hCh8.trans (C.Chg.of_ext (F := fun _ => False) hE9) (fun b hb => hb.elim)
            simp only [VS, VD, SV, SL, T, Nat.reduceEqDiff, Nat.reduceAdd, Nat.reduceSub, Nat.reduceMul, Nat.reduceLeDiff, Nat.reduceLT, reduceIte, f1, f3, f7, f9, f10, f34, f35, f36]
            exact ⟨by omega, i + 1, ⟨by simp, by omega, hE8.trans hE9, F8, _, hC9, hH8, hCh9, hFF8, hO9.congr hcong⟩, by omega⟩
      · rw [decide_eq_false hlt]
        simp only [VS, VD, SV, SL, T, Nat.reduceEqDiff, Nat.reduceAdd, Nat.reduceSub, Nat.reduceMul, Nat.reduceLeDiff, Nat.reduceLT, reduceIte, f1, f3, f10]
        exact ⟨hE', H, hO'⟩
  · rintro f8 w8 ⟨g1, g3, g10, hE8, H, hO8⟩
    obtain ⟨lm, cm, hML, hlm⟩ := hO8.len (K := pers L s y) (fun k hk => hk.1)
    have hlenM := sLenM (P := Try.prog) T.mp51 hML
    simp only [VS, VD, SV, SL, T, Nat.reduceEqDiff, Nat.reduceAdd, Nat.reduceSub, Nat.reduceMul, Nat.reduceLeDiff, Nat.reduceLT, reduceIte, g1, g3, g10, hlenM]
    refine (Misses_spec s y l _ L (by omega) w8 (h.ext hE8)).mono ?_
    rintro _ w9 ⟨rfl, hE9⟩
    have d1 : decide ((lm.length : Int) ≤ (persI s y l L).length) = true := decide_eq_true (by rw [ep]; omega)
    simp only [VS, VD, SV, SL, T, Nat.reduceEqDiff, Nat.reduceAdd, Nat.reduceSub, Nat.reduceMul, Nat.reduceLeDiff, Nat.reduceLT, reduceIte, d1]
    exact hΨ _ _ ⟨rfl, hE8.trans hE9⟩
end Go.Proofs.Ytneipineehichaa

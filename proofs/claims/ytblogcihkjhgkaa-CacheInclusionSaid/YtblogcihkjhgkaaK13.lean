/-
  CacheFlushes.
-/
import Derived.Test.YtblogcihkjhgkaaK12
set_option linter.unusedSimpArgs false
set_option linter.unusedVariables false
namespace Go.Proofs.Ytblogcihkjhgkaa
open Go.W Go.RowKit
/-- an element of a slice whose elements take one cell each -/
theorem sl_get1 {α : Type} {w : World} {a : Option Addr} {n c : Nat} {L : List α} {g : α → Value} (h : SlAt w (.slice a n c) 1 (L.map fun x => [g x])) {i : Nat} (hi : i < L.length) :
    ∃ b off cs e fz, a = some ⟨b, off, none⟩ ∧ w.heap[b]? = some (.cells cs e fz) ∧ cs[off + i]? = some (g L[i]) := by
  obtain ⟨b, off, cs, e, fz, h1, _, h3, h4, h5⟩ := h.get (i := i) (r := [g L[i]]) (by simp [hi])
  refine ⟨b, off, cs, e, fz, h1, h3, ?_⟩
  rw [Nat.mul_one] at h4 h5
  have := congrArg (fun (x : Array Value) => x[0]?) h5
  simp only [Array.getElem?_extract, List.getElem?_toArray, List.getElem?_cons_zero] at this
  rw [if_pos (by omega)] at this
  simpa using this
/-- the misses k of a cache that was flushed c times, its histories P since, against the misses n of one that was not -/
def FlInv (s y l : Int) (H P : Nat → List Int) (n k c : Nat) : Prop :=
  (∀ i, ∃ R, H i = P i ++ R) ∧ n ≤ k ∧ ((c = 0 ∧ P = H ∧ k = n) ∨ (1 ≤ c ∧ k + s.toNat * y.toNat ≤ n + c * (s.toNat * y.toNat) + sumR y P s.toNat))
theorem FlInv.flush {s y l : Int} {H P : Nat → List Int} {n k c : Nat} (h : FlInv s y l H P n k c) : FlInv s y l H (fun _ => []) n k (c + 1) := by
  obtain ⟨h1, h2, h3⟩ := h
  refine ⟨fun i => ⟨H i, rfl⟩, h2, .inr ⟨by omega, ?_⟩⟩
  rw [sumR_nil, Nat.succ_mul]
  have := sumR_le y P s.toNat
  generalize s.toNat * y.toNat = SY at *
  rcases h3 with ⟨rfl, _, rfl⟩ | ⟨_, h⟩
  · omega
  · omega
theorem FlInv.acc {s y l : Int} (hg : Geo s y l = true) {H P : Nat → List Int} {n k c : Nat} (h : FlInv s y l H P n k c) (a : Int) : FlInv s y l (addH s l H a) (addH s l P a) (n + misB s y l H a) (k + misB s y l P a) c := by
  obtain ⟨h1, h2, h3⟩ := h
  obtain ⟨q1, q2, q3⟩ := flush_acc hg h1 a
  refine ⟨q3, by omega, ?_⟩
  rcases h3 with ⟨rfl, rfl, rfl⟩ | ⟨hc, h⟩
  · exact .inl ⟨rfl, rfl, rfl⟩
  · exact .inr ⟨hc, by omega⟩
theorem FlInv.fin {s y l : Int} {H P : Nat → List Int} {n k c : Nat} (h : FlInv s y l H P n k c) : n ≤ k ∧ k ≤ n + c * (s.toNat * y.toNat) := by
  obtain ⟨h1, h2, h3⟩ := h
  have := sumR_le y P s.toNat
  generalize s.toNat * y.toNat = SY at *
  rcases h3 with ⟨rfl, _, rfl⟩ | ⟨_, h⟩ <;> omega
/-- a cache that was made, or nil -/
def Mad (w0 w : World) (s y l : Int) (L : List (List Int)) (v : Value) : Prop := (Geo s y l = false ∧ v = .pointer none) ∨ (Geo s y l = true ∧ ∃ p F, v = ptr p ∧ CacheAt w F p s y l L ∧ ∀ b, F b → w0.heap.size ≤ b)
theorem Mad.ext {w0 w w' : World} {s y l : Int} {L : List (List Int)} {v : Value} (h : Mad w0 w s y l L v) (hE : Ext w w') : Mad w0 w' s y l L v := by
  rcases h with h | ⟨hg, p, F, e, hC, hF⟩
  · exact .inl h
  · exact .inr ⟨hg, p, F, e, hC.ext hE, hF⟩
theorem made_mad (s y l : Int) (u : Value) (as_ : List Int) (hl : as_.length ≤ 9223372036854775807) (h63 : ∀ x ∈ as_, x ≤ 9223372036854775807) (w : World) (h : IntsAt w u as_) (n : World) (hn : n.heap.size ≤ w.heap.size) : VRet Try.prog 19 #[cfgV s y l, u] w fun v w' =>
    Ext w w' ∧ Mad n w' s y l (stX s y l as_) v := by
  refine (made_spec s y l u as_ hl h63 w h).mono ?_
  rintro v w' (⟨hg, rfl, hE⟩ | ⟨hg, p, F, rfl, hC, hF, hE⟩)
  · exact ⟨hE, .inl ⟨hg, rfl⟩⟩
  · rw [emp_stS s y, runS_stS hg] at hC
    exact ⟨hE, .inr ⟨hg, p, F, rfl, hC, fun b hb => Nat.le_trans hn (hF b hb)⟩⟩
theorem nil_ints (w : World) : IntsAt w (.slice none 0 0) [] := .inl ⟨⟨_, _, rfl⟩, rfl⟩
set_option maxRecDepth 100000 in
theorem CacheFlushes_spec (s y l : Int) (v : Value) (xs : List Int) (u : Value) (ats : List Int) (w : World) (hv : IntsAt w v xs) (hM : xs.length ≤ maxLen ∧ ∀ n ∈ xs, -9223372036854775808 ≤ n ∧ n ≤ 9223372036854775807) (hu : SlAt w u 1 (ats.map fun n => [.int .u8 n])) (hN : ats.length ≤ maxLen ∧ ∀ n ∈ ats, 0 ≤ n ∧ n ≤ 255) :
    VRet Try.prog 4 #[cfgV s y l, v, u] w fun v w' => v = .bool true ∧ Ext w w' := by
  have hlen : xs.length ≤ 9223372036854775807 := by have := hM.1; simp only [maxLen] at this; omega
  obtain ⟨av, cv, rfl⟩ := hv.form
  obtain ⟨au, cu, rfl⟩ := hu.form
  rw [List.length_map] at hu ⊢
  refine VRet_start T.mo ok4 rfl fun Ψ hΨ => ?_; simp only [vc4, rs4]
  simp only [VS, VD, SV, SL, T, Nat.reduceEqDiff, Nat.reduceAdd, Nat.reduceSub, Nat.reduceMul, Nat.reduceLeDiff, Nat.reduceLT, reduceIte, cfgV]
  refine (awake_spec _).mono ?_
  rintro _ w1 ⟨rfl, hE1⟩
  replace hE1 := ((Ext.refl w).alloc tomb).trans hE1
  simp only [VS, VD, SV, SL, T, Nat.reduceEqDiff, Nat.reduceAdd, Nat.reduceSub, Nat.reduceMul, Nat.reduceLeDiff, Nat.reduceLT, reduceIte]
  refine DW_intro (fun _ _ v w' => Mad w w' s y l (stX s y l []) v) ?_
  simp only [VS, VD, SV, SL, T, Nat.reduceEqDiff, Nat.reduceAdd, Nat.reduceSub, Nat.reduceMul, Nat.reduceLeDiff, Nat.reduceLT, reduceIte]
  refine rY_ph rfl rfl (fun _ _ _ h hE => h.ext hE) (fun w' hE' _ => ?_) ?_
  · simp only [VS, VD, SV, SL, T, Nat.reduceEqDiff, Nat.reduceAdd, Nat.reduceSub, Nat.reduceMul, Nat.reduceLeDiff, Nat.reduceLT, reduceIte]
    exact made_mad s y l _ [] (by simp) (by simp) w' (nil_ints _) w (hE1.trans hE').size
  rintro v1 ⟨_, _, _, _⟩
  simp only [VS, VD, SV, SL, T, Nat.reduceEqDiff, Nat.reduceAdd, Nat.reduceSub, Nat.reduceMul, Nat.reduceLeDiff, Nat.reduceLT, reduceIte]
  intro w2 hE2 hF2
  have hMx := FA_head hF2
  simp only [VS, VD, SV, SL, T, Nat.reduceEqDiff, Nat.reduceAdd, Nat.reduceSub, Nat.reduceMul, Nat.reduceLeDiff, Nat.reduceLT, reduceIte]
  refine (made_mad s y l _ [] (by simp) (by simp) w2 (nil_ints _) w2 (Nat.le_refl _)).mono ?_
  rintro v3 w3 ⟨hE3, hMy⟩
  have hEw3 := (hE1.trans hE2).trans hE3
  simp only [VS, VD, SV, SL, T, Nat.reduceEqDiff, Nat.reduceAdd, Nat.reduceSub, Nat.reduceMul, Nat.reduceLeDiff, Nat.reduceLT, reduceIte]
  refine (great_spec _ xs hlen w3 (hv.ext hEw3)).mono ?_
  rintro _ w4 ⟨rfl, hE4⟩
  have hE := hEw3.trans hE4
  by_cases hgr : xs.length > 200 ∨ ∃ x ∈ xs, x > 100000
  · rw [decide_eq_true hgr]
    simp only [VS, VD, SV, SL, T, Nat.reduceEqDiff, Nat.reduceAdd, Nat.reduceSub, Nat.reduceMul, Nat.reduceLeDiff, Nat.reduceLT, reduceIte]
    exact hΨ _ _ ⟨rfl, hE⟩
  rw [decide_eq_false hgr]
  obtain ⟨hxl, hxb⟩ := not_great hgr
  simp only [VS, VD, SV, SL, T, Nat.reduceEqDiff, Nat.reduceAdd, Nat.reduceSub, Nat.reduceMul, Nat.reduceLeDiff, Nat.reduceLT, reduceIte]
  by_cases hat : (20 : Int) < ats.length
  · rw [decide_eq_true hat]
    simp only [VS, VD, SV, SL, T, Nat.reduceEqDiff, Nat.reduceAdd, Nat.reduceSub, Nat.reduceMul, Nat.reduceLeDiff, Nat.reduceLT, reduceIte]
    exact hΨ _ _ ⟨rfl, hE⟩
  rw [decide_eq_false hat]
  rcases hMx with ⟨hg, rfl⟩ | ⟨hg, p, F, rfl, hC, hF⟩
  · simp only [VS, VD, SV, SL, T, Nat.reduceEqDiff, Nat.reduceAdd, Nat.reduceSub, Nat.reduceMul, Nat.reduceLeDiff, Nat.reduceLT, reduceIte, Option.isNone_none]
    exact hΨ _ _ ⟨rfl, hE⟩
  rcases hMy with ⟨hg', rfl⟩ | ⟨_, p', G, rfl, hD, hG⟩
  · rw [hg] at hg'; cases hg'
  simp only [VS, VD, SV, SL, T, Nat.reduceEqDiff, Nat.reduceAdd, Nat.reduceSub, Nat.reduceMul, Nat.reduceLeDiff, Nat.reduceLT, reduceIte, Option.isNone_some]
  have hgs := Geo_spec hg
  have hd : ∀ b, G b → ¬ F b := fun b hb hb' => by have := hC.lt b hb'; have := hG b hb; omega
  replace hG : ∀ b, G b → w.heap.size ≤ b := fun b hb => Nat.le_trans (hE1.trans hE2).size (hG b hb)
  refine (misses_spec hg (hC.ext (hE3.trans hE4)) _ xs (by omega) (fun x hx => (hM.2 x hx).2) w hv hE hF).mono ?_
  rintro _ w5 ⟨rfl, F5, _, hm5⟩
  have hE5 := hm5.ext hE hF
  obtain ⟨hD5, _⟩ := hm5.other (hD.ext hE4) hd
  change CacheAt w5 G p' s y l (stS s y fun _ => []) at hD5
  simp only [VS, VD, SV, SL, T, Nat.reduceEqDiff, Nat.reduceAdd, Nat.reduceSub, Nat.reduceMul, Nat.reduceLeDiff, Nat.reduceLT, reduceIte]
  refine LoopP_intro (α := Nat) (fun i f' w' => f' 2 = .slice au ats.length cu ∧ f' 3 = .agg #[.int .i64 s, .int .i64 y, .int .i64 l] ∧ f' 8 = ptr p' ∧ f' 9 = .int .i64 (mis s y l (fun _ => []) xs) ∧ f' 40 = .slice av xs.length cv ∧ f' 41 = .int .i64 xs.length ∧ f' 42 = .int .i64 i ∧ i ≤ xs.length ∧ Ext w w' ∧
    ∃ G P k c, f' 10 = .int .i64 (k : Nat) ∧ f' 11 = .int .i64 (c : Nat) ∧ CacheAt w' G p' s y l (stS s y P) ∧ (∀ b, G b → w.heap.size ≤ b) ∧ c ≤ i * 20 ∧ k ≤ i ∧ FlInv s y l ((xs.take i).foldl (addH s l) fun _ => []) P (mis s y l (fun _ => []) (xs.take i)) k c) (fun i => xs.length - i) 0 ?_ ?_
  · simp only [VS, VD, SV, SL, T, Nat.reduceEqDiff, Nat.reduceAdd, Nat.reduceSub, Nat.reduceMul, Nat.reduceLeDiff, Nat.reduceLT, reduceIte]
    refine ⟨rfl, rfl, Nat.zero_le _, hE5, G, _, 0, 0, rfl, rfl, hD5, hG, by omega, by omega, ?_⟩
    exact ⟨fun i => ⟨[], rfl⟩, Nat.le_refl _, .inl ⟨rfl, rfl, rfl⟩⟩
  · rintro i f' wo ⟨f2, f3, f8, f9, f40, f41, f42, hi, hEx, G, P, k, c, f10, f11, hD, hG, hci, hki, hI⟩
    simp only [VS, VD, SV, SL, T, Nat.reduceEqDiff, Nat.reduceAdd, Nat.reduceSub, Nat.reduceMul, Nat.reduceLeDiff, Nat.reduceLT, reduceIte, f42, f41]
    refine cnd_d (fun hlt => ?_) (fun hlt => ?_)
    · have hi' : i < xs.length := by omega
      obtain ⟨b5, off5, cs5, e5, fz5, rfl, _, hb5, hc5⟩ := (hv.ext hEx).get (i := i) (x := xs[i]) (by simp [hi'])
      have htake : xs.take (i + 1) = xs.take i ++ [xs[i]] := List.take_succ_eq_append_getElem hi'
      generalize hx : xs[i] = x at *
      simp only [VS, VD, SV, SL, T, Nat.reduceEqDiff, Nat.reduceAdd, Nat.reduceSub, Nat.reduceMul, Nat.reduceLeDiff, Nat.reduceLT, reduceIte, f42, f40, hb5, Int.toNat_natCast, hc5, f2]
      refine ⟨by omega, ?_⟩
      generalize hH : (xs.take i).foldl (addH s l) (fun _ => []) = H at *
      generalize hn : mis s y l (fun _ => []) (xs.take i) = n at *
      refine LoopP_intro (α := Nat) (fun j f' w' => f' 2 = .slice au ats.length cu ∧ f' 3 = .agg #[.int .i64 s, .int .i64 y, .int .i64 l] ∧ f' 8 = ptr p' ∧ f' 9 = .int .i64 (mis s y l (fun _ => []) xs) ∧ f' 10 = .int .i64 k ∧ f' 12 = .int .i64 i ∧ f' 13 = .int .i64 x ∧ f' 40 = .slice (some ⟨b5, off5, none⟩) xs.length cv ∧ f' 41 = .int .i64 xs.length ∧ f' 42 = .int .i64 i ∧ f' 47 = .slice au ats.length cu ∧ f' 48 = .int .i64 ats.length ∧ f' 49 = .int .i64 j ∧ j ≤ ats.length ∧ Ext w w' ∧
        ∃ G P c, f' 11 = .int .i64 (c : Nat) ∧ CacheAt w' G p' s y l (stS s y P) ∧ (∀ b, G b → w.heap.size ≤ b) ∧ c ≤ i * 20 + j ∧ FlInv s y l H P n k c) (fun j => ats.length - j) 0 ?_ ?_
      · simp only [VS, VD, SV, SL, T, Nat.reduceEqDiff, Nat.reduceAdd, Nat.reduceSub, Nat.reduceMul, Nat.reduceLeDiff, Nat.reduceLT, reduceIte, f2, f3, f8, f9, f10, f40, f41, f42]
        exact ⟨rfl, Nat.zero_le _, hEx, G, P, c, f11, hD, hG, by omega, hI⟩
      · clear hI hD hG f11 hci f10 f9 f8 f3 f2 f40 f41 f42 hEx
        rintro j f'' w'' ⟨g2, g3, g8, g9, g10, g12, g13, g40, g41, g42, g47, g48, g49, hj, hEy, G, P, c, g11, hD, hG, hcj, hI⟩
        simp only [VS, VD, SV, SL, T, Nat.reduceEqDiff, Nat.reduceAdd, Nat.reduceSub, Nat.reduceMul, Nat.reduceLeDiff, Nat.reduceLT, reduceIte, g49, g48]
        refine cnd_d (fun hlt2 => ?_) (fun hlt2 => ?_)
        · have hj' : j < ats.length := by omega
          obtain ⟨b7, off7, cs7, e7, fz7, rfl, hb7, hc7⟩ := sl_get1 (hu.ext hEy) (i := j) hj'
          have hp := hN.2 _ (List.getElem_mem hj')
          simp only [VS, VD, SV, SL, T, Nat.reduceEqDiff, Nat.reduceAdd, Nat.reduceSub, Nat.reduceMul, Nat.reduceLeDiff, Nat.reduceLT, reduceIte, g49, g47, hb7, Int.toNat_natCast, hc7, g12]
          refine ⟨by omega, by omega, cnd_d (fun hq => ?_) (fun hq => ?_)⟩
          · simp only [VS, VD, SV, SL, T, Nat.reduceEqDiff, Nat.reduceAdd, Nat.reduceSub, Nat.reduceMul, Nat.reduceLeDiff, Nat.reduceLT, reduceIte, g8]
            refine (Flush_mv hD).mono ?_
            rintro v6 w6 ⟨G6, hD6, hm6⟩
            simp only [VS, VD, SV, SL, T, Nat.reduceEqDiff, Nat.reduceAdd, Nat.reduceSub, Nat.reduceMul, Nat.reduceLeDiff, Nat.reduceLT, reduceIte, g11, g49]
            exact ⟨by omega, by omega, j + 1, ⟨g2, g3, g8, g9, g10, g12, g13, g40, g41, g42, g47, g48, by simp, by omega, hm6.ext hEy hG, G6, _, c + 1, by simp, hD6, hm6.above hEy.size hG, by omega, hI.flush⟩, by omega⟩
          · simp only [VS, VD, SV, SL, T, Nat.reduceEqDiff, Nat.reduceAdd, Nat.reduceSub, Nat.reduceMul, Nat.reduceLeDiff, Nat.reduceLT, reduceIte, g49]
            exact ⟨by omega, j + 1, ⟨g2, g3, g8, g9, g10, g12, g13, g40, g41, g42, g47, g48, by simp, by omega, hEy, G, P, c, g11, hD, hG, by omega, hI⟩, by omega⟩
        · simp only [VS, VD, SV, SL, T, Nat.reduceEqDiff, Nat.reduceAdd, Nat.reduceSub, Nat.reduceMul, Nat.reduceLeDiff, Nat.reduceLT, reduceIte, g13]
          have hnx : mis s y l (fun _ => []) (xs.take (i + 1)) = n + misB s y l H x := by rw [htake, mis_snoc, hn, hH]
          have hHx : (xs.take (i + 1)).foldl (addH s l) (fun _ => []) = addH s l H x := by rw [htake, List.foldl_append, hH]; rfl
          have hI' := hI.acc hg x
          rw [← hnx, ← hHx] at hI'
          by_cases h0 : 0 ≤ x
          · rw [decide_eq_true h0]
            simp only [VS, VD, SV, SL, T, Nat.reduceEqDiff, Nat.reduceAdd, Nat.reduceSub, Nat.reduceMul, Nat.reduceLeDiff, Nat.reduceLT, reduceIte, g8, g13]
            refine (Access_mv hg hD x (by rw [← hx]; exact (hM.2 _ (List.getElem_mem _)).2)).mono ?_
            rintro _ w6 ⟨rfl, G6, hD6, hm6⟩
            rw [hitS_stS hg]
            unfold misB at hI'
            by_cases hm : x / l ∈ (dst (P ((x / l) % s).toNat)).take y.toNat
            · have hd := decide_eq_true (p := 0 ≤ x ∧ _) ⟨h0, hm⟩
              rw [hd]
              rw [if_neg (fun h => h.2 hm)] at hI'
              simp only [VS, VD, SV, SL, T, Nat.reduceEqDiff, Nat.reduceAdd, Nat.reduceSub, Nat.reduceMul, Nat.reduceLeDiff, Nat.reduceLT, reduceIte, g42, Bool.not_true]
              exact ⟨by omega, i + 1, ⟨g2, g3, g8, g9, g40, g41, by simp, by omega, hm6.ext hEy hG, G6, _, k, c, g10, g11, hD6, hm6.above hEy.size hG, by omega, by omega, hI'⟩, by omega⟩
            · have hd := decide_eq_false (p := 0 ≤ x ∧ _) (fun h => hm h.2)
              rw [hd]
              rw [if_pos ⟨h0, hm⟩] at hI'
              simp only [VS, VD, SV, SL, T, Nat.reduceEqDiff, Nat.reduceAdd, Nat.reduceSub, Nat.reduceMul, Nat.reduceLeDiff, Nat.reduceLT, reduceIte, g42, g10, Bool.not_false]
              exact ⟨by omega, by omega, i + 1, ⟨g2, g3, g8, g9, g40, g41, by simp, by omega, hm6.ext hEy hG, G6, _, k + 1, c, by simp, g11, hD6, hm6.above hEy.size hG, by omega, by omega, hI'⟩, by omega⟩
          · rw [decide_eq_false h0]
            have e1 : misB s y l P x = 0 := by unfold misB; rw [if_neg (fun h => h0 h.1)]
            have e2 : addH s l P x = P := by funext i; simp [addH, h0]
            rw [e1, e2] at hI'
            simp only [VS, VD, SV, SL, T, Nat.reduceEqDiff, Nat.reduceAdd, Nat.reduceSub, Nat.reduceMul, Nat.reduceLeDiff, Nat.reduceLT, reduceIte, g42]
            exact ⟨by omega, i + 1, ⟨g2, g3, g8, g9, g40, g41, by simp, by omega, hEy, G, P, k, c, g10, g11, hD, hG, by omega, by omega, hI'⟩, by omega⟩
    · rw [List.take_of_length_le (by omega)] at hI
      obtain ⟨q1, q2⟩ := hI.fin
      have n1 := mis_le s y l xs (fun _ => [])
      generalize mis s y l (fun _ => []) xs = n at *
      have d1 : ((n : Int) ≤ (k : Int)) := by omega
      have hcs : 0 ≤ (c : Int) * s ∧ (c : Int) * s ≤ 256000 := ⟨Int.mul_nonneg (by omega) (by omega), Int.mul_le_mul (show (c : Int) ≤ 4000 by omega) (show s ≤ 64 by omega) (by omega) (by omega)⟩
      have hcsy : 0 ≤ (c : Int) * s * y ∧ (c : Int) * s * y ≤ 2048000 := ⟨Int.mul_nonneg hcs.1 (by omega), Int.mul_le_mul hcs.2 (show y ≤ 8 by omega) (by omega) (by omega)⟩
      have ecs : ((c * (s.toNat * y.toNat) : Nat) : Int) = (c : Int) * s * y := by
        rw [Int.natCast_mul, (mul_sy hg).1, Int.mul_assoc]
      simp only [VS, VD, SV, SL, T, Nat.reduceEqDiff, Nat.reduceAdd, Nat.reduceSub, Nat.reduceMul, Nat.reduceLeDiff, Nat.reduceLT, reduceIte, f10, f9]
      rw [decide_eq_true d1]
      simp only [VS, VD, SV, SL, T, Nat.reduceEqDiff, Nat.reduceAdd, Nat.reduceSub, Nat.reduceMul, Nat.reduceLeDiff, Nat.reduceLT, reduceIte, f10, f9, f11, f3]
      refine ⟨by omega, by omega, by omega, hΨ _ _ ⟨?_, hEx⟩⟩
      rw [decide_eq_true (by omega)]
end Go.Proofs.Ytblogcihkjhgkaa
